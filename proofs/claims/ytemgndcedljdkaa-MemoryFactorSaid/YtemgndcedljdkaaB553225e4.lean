/-
  Parts of the proof: Ev22, Pl60, Pl63, Pl64, Pl68, Pl72, Pl73: the framework (Fw), pure forms (Dn), plain laws (Pl, Th), calls of functions (Ok).
-/
import Derived.Test.YtemgndcedljdkaaB7d343c2c

set_option linter.all false
section
namespace Go.Fw
noncomputable def e_memory_proper (n_ : Nat) : ((List (Int × (Int × ((List Int) × (Int × Unit))))) × Unit) → Option (Bool × Unit) := fun (l_1, _) =>
  (bif (decide ((((l_1).length : Nat) : Int) > ((200) : Int))) then (
  some (false, ())) else (
  (loopN (σ := (Int × Unit)) (ρ := (Unit ⊕ (Bool × Unit))) (fun (s_4, _) =>
  (bif (decide (s_4 < (((l_1).length : Nat) : Int))) then (
  Option.bind (α := Unit ⊕ ((Int × Unit) ⊕ (Unit ⊕ (Bool × Unit)))) (
  (getI l_1 s_4).bind fun y5 =>
  Option.bind (α := ((Int × (Int × ((List Int) × (Int × Unit)))) × Unit) ⊕ (Unit ⊕ ((Int × Unit) ⊕ (Unit ⊕ (Bool × Unit))))) (
  (bif ((decide ((((y5.2.2.1).length : Nat) : Int) > ((200) : Int))) == false) then ((bif ((decide (y5.2.1 ≤ y5.1)) == false) then ((bif ((decide ((IntKind.i64.wrap (y5.2.1 - y5.1)) < ((1) : Int))) == false) then ((bif (decide ((IntKind.i64.wrap (y5.2.1 - y5.1)) > (((y5.2.2.1).length : Nat) : Int))) then (
  some (.inr (.inr (.inr (.inr (false, ())))))) else (
  some (.inl (y5, ()))))) else (some (.inr (.inr (.inr (.inr (false, ())))))))) else (some (.inr (.inr (.inr (.inr (false, ())))))))) else (some (.inr (.inr (.inr (.inr (false, ())))))))) fun q => match q with
  | .inl (f_6, _) => (
  (bif ((f_6.2.2.2.1 != (-1 : Int)) == true) then ((bif ((decide (f_6.2.2.2.1 ≤ s_4)) == false) then ((bif (decide (f_6.2.2.2.1 ≥ (((l_1).length : Nat) : Int))) then (
  some (.inr (.inr (.inr (false, ()))))) else (
  some (.inl ())))) else (some (.inr (.inr (.inr (false, ()))))))) else (some (.inl ()))))
  | .inr r => some r) fun q => match q with
  | .inl _ => (
  some (.inl ((IntKind.i64.wrap (s_4 + ((1) : Int))), ())))
  | .inr r => some r) else (
  some (.inr (.inl ()))))) n_ (((0) : Int), ())).bind fun q => match q with
  | .inl _ => (
  some (true, ()))
  | .inr r => some r))
set_option maxHeartbeats 4000000 in
theorem le_memory_proper (n_ : Nat) (a : ((List (Int × (Int × ((List Int) × (Int × Unit))))) × Unit)) : Le (e_memory_proper n_ a) (d_memory_proper a) := by
  unfold e_memory_proper d_memory_proper
  repeat' (first | with_reducible exact Le.refl _  | (with_reducible refine Le.bind ?_ (fun y => ?_)) | (with_reducible refine Le.bif ?_ ?_) | (with_reducible refine Le.loop (fun s => ?_) _ _) | (with_reducible refine Le.atO (fun e => ?_)) | split)
noncomputable def e_memory_triangle (n_ : Nat) : (Int × Unit) → Option (Int × Unit) := fun (n_1, _) =>
  (quoO IntKind.i64 (IntKind.i64.wrap (n_1 * (IntKind.i64.wrap (n_1 + ((1) : Int))))) ((2) : Int)).bind fun y2 =>
  some (y2, ())
set_option maxHeartbeats 4000000 in
theorem le_memory_triangle (n_ : Nat) (a : (Int × Unit)) : Le (e_memory_triangle n_ a) (d_memory_triangle a) := by
  unfold e_memory_triangle d_memory_triangle
  repeat' (first | with_reducible exact Le.refl _  | (with_reducible refine Le.bind ?_ (fun y => ?_)) | (with_reducible refine Le.bif ?_ ?_) | (with_reducible refine Le.loop (fun s => ?_) _ _) | (with_reducible refine Le.atO (fun e => ?_)) | split)
noncomputable def e_memory_sizes (n_ : Nat) : ((List (Int × (Int × ((List Int) × (Int × Unit))))) × Unit) → Option ((List Int) × (List Int) × Unit) := fun (l_1, _) =>
  (loopN (σ := (Int × (List Int) × (List Int) × Unit)) (ρ := ((List Int) × (List Int) × Unit)) (fun (s_6, front_7, keep_8, _) =>
  (bif (decide (s_6 < (((l_1).length : Nat) : Int))) then (
  (getI l_1 s_6).bind fun y9 =>
  (e_memory_triangle n_ ((((y9.2.2.1).length : Nat) : Int), ())).bind fun (r10, _) =>
  (limO ((front_7).length + ([r10]).length)).bind fun _ =>
  (e_memory_triangle n_ ((IntKind.i64.wrap ((((y9.2.2.1).length : Nat) : Int) - (IntKind.i64.wrap (y9.2.1 - y9.1)))), ())).bind fun (r11, _) =>
  (limO ((keep_8).length + ([r11]).length)).bind fun _ =>
  some (.inl ((IntKind.i64.wrap (s_6 + ((1) : Int))), (front_7 ++ [r10]), (keep_8 ++ [r11]), ()))) else (
  some (.inr (front_7, keep_8, ()))))) n_ (((0) : Int), [], [], ())).bind fun (front_12, keep_13, _) =>
  some (front_12, keep_13, ())
set_option maxHeartbeats 4000000 in
theorem le_memory_sizes (n_ : Nat) (a : ((List (Int × (Int × ((List Int) × (Int × Unit))))) × Unit)) : Le (e_memory_sizes n_ a) (d_memory_sizes a) := by
  unfold e_memory_sizes d_memory_sizes
  repeat' (first | with_reducible exact Le.refl _ | with_reducible exact le_memory_triangle _ _ | (with_reducible refine Le.bind ?_ (fun y => ?_)) | (with_reducible refine Le.bif ?_ ?_) | (with_reducible refine Le.loop (fun s => ?_) _ _) | (with_reducible refine Le.atO (fun e => ?_)) | split)
noncomputable def e_memory_children (n_ : Nat) : ((List (Int × (Int × ((List Int) × (Int × Unit))))) × Unit) → Option ((List (List Int)) × (List Int) × Unit) := fun (l_1, _) =>
  (madeO (((l_1).length : Nat) : Int) (((l_1).length : Nat) : Int)).bind fun n8 =>
  (loopN (σ := (Int × (List (List Int)) × (List Int) × Unit)) (ρ := ((List (List Int)) × (List Int) × Unit)) (fun (s_9, kids_10, roots_11, _) =>
  (bif (decide (s_9 < (((l_1).length : Nat) : Int))) then (
  Option.bind (α := ((List (List Int)) × (List Int) × Unit)) (
  (getI l_1 s_9).bind fun y12 =>
  (bif (decide (y12.2.2.2.1 < ((0) : Int))) then (
  (limO ((roots_11).length + ([s_9]).length)).bind fun _ =>
  some (kids_10, (roots_11 ++ [s_9]), ())) else (
  (idxN (kids_10).length y12.2.2.2.1).bind fun k13 =>
  ((atO kids_10 k13 fun e15 => some e15)).bind fun xs16 =>
  (limO ((xs16).length + ([s_9]).length)).bind fun _ =>
  (idxN (kids_10).length y12.2.2.2.1).bind fun k17 =>
  (bif (Nat.beq k13 k17 && true) then (
  ((atO kids_10 k17 fun e18 => some e18)).bind fun xs19 =>
  ((atO kids_10 k17 fun _ => some ((kids_10).set k17 (xs19 ++ [s_9])))).bind fun z21 =>
  some (z21, roots_11, ())) else none)))) fun (kids_22, roots_23, _) =>
  some (.inl ((IntKind.i64.wrap (s_9 + ((1) : Int))), kids_22, roots_23, ()))) else (
  some (.inr (kids_10, roots_11, ()))))) n_ (((0) : Int), (List.replicate n8 []), [], ())).bind fun (kids_24, roots_25, _) =>
  some (kids_24, roots_25, ())
set_option maxHeartbeats 4000000 in
theorem le_memory_children (n_ : Nat) (a : ((List (Int × (Int × ((List Int) × (Int × Unit))))) × Unit)) : Le (e_memory_children n_ a) (d_memory_children a) := by
  unfold e_memory_children d_memory_children
  repeat' (first | with_reducible exact Le.refl _  | (with_reducible refine Le.bind ?_ (fun y => ?_)) | (with_reducible refine Le.bif ?_ ?_) | (with_reducible refine Le.loop (fun s => ?_) _ _) | (with_reducible refine Le.atO (fun e => ?_)) | split)
noncomputable def e_cmp_Compare_int (n_ : Nat) : (Int × Int × Unit) → Option (Int × Unit) := fun (x_1, y_2, _) =>
  (e_cmp_isNaN_int n_ (x_1, ())).bind fun (r3, _) =>
  (e_cmp_isNaN_int n_ (y_2, ())).bind fun (r4, _) =>
  (bif r3 then (
  (bif r4 then (
  some (((0) : Int), ())) else (
  some ((-1 : Int), ())))) else (
  (bif r4 then (
  some (((1) : Int), ())) else (
  (bif (decide (x_1 < y_2)) then (
  some ((-1 : Int), ())) else (
  (bif (decide (x_1 > y_2)) then (
  some (((1) : Int), ())) else (
  some (((0) : Int), ())))))))))
set_option maxHeartbeats 4000000 in
theorem le_cmp_Compare_int (n_ : Nat) (a : (Int × Int × Unit)) : Le (e_cmp_Compare_int n_ a) (d_cmp_Compare_int a) := by
  unfold e_cmp_Compare_int d_cmp_Compare_int
  repeat' (first | with_reducible exact Le.refl _ | with_reducible exact le_cmp_isNaN_int _ _ | (with_reducible refine Le.bind ?_ (fun y => ?_)) | (with_reducible refine Le.bif ?_ ?_) | (with_reducible refine Le.loop (fun s => ?_) _ _) | (with_reducible refine Le.atO (fun e => ?_)) | split)
noncomputable def e_cmp_Or_int (n_ : Nat) : ((List Int) × Unit) → Option (Int × Unit) := fun (vals_1, _) =>
  (loopN (σ := (Int × Unit)) (ρ := (Unit ⊕ (Int × Unit))) (fun (s_2, _) =>
  (bif (decide (s_2 < (((vals_1).length : Nat) : Int))) then (
  (getI vals_1 s_2).bind fun y3 =>
  (bif (y3 != ((0) : Int)) then (
  some (.inr (.inr (y3, ())))) else (
  some (.inl ((IntKind.i64.wrap (s_2 + ((1) : Int))), ()))))) else (
  some (.inr (.inl ()))))) n_ (((0) : Int), ())).bind fun q => match q with
  | .inl _ => (
  some (((0) : Int), ()))
  | .inr r => some r
set_option maxHeartbeats 4000000 in
theorem le_cmp_Or_int (n_ : Nat) (a : ((List Int) × Unit)) : Le (e_cmp_Or_int n_ a) (d_cmp_Or_int a) := by
  unfold e_cmp_Or_int d_cmp_Or_int
  repeat' (first | with_reducible exact Le.refl _  | (with_reducible refine Le.bind ?_ (fun y => ?_)) | (with_reducible refine Le.bif ?_ ?_) | (with_reducible refine Le.loop (fun s => ?_) _ _) | (with_reducible refine Le.atO (fun e => ?_)) | split)
noncomputable def e_math_bits_Len64 (n_ : Nat) : (Int × Unit) → Option (Int × Unit) := fun (x_1, _) =>
  Option.bind (α := (Int × Int × Unit)) (
  (bif (decide (x_1 ≥ ((4294967296) : Int))) then (
  (shrO IntKind.u64 x_1 ((32) : Int)).bind fun y2 =>
  some (y2, ((32) : Int), ())) else (
  some (x_1, ((0) : Int), ())))) fun (x_3, n_4, _) =>
  Option.bind (α := (Int × Int × Unit)) (
  (bif (decide (x_3 ≥ ((65536) : Int))) then (
  (shrO IntKind.u64 x_3 ((16) : Int)).bind fun y5 =>
  some (y5, (IntKind.i64.wrap (n_4 + ((16) : Int))), ())) else (
  some (x_3, n_4, ())))) fun (x_6, n_7, _) =>
  Option.bind (α := (Int × Int × Unit)) (
  (bif (decide (x_6 ≥ ((256) : Int))) then (
  (shrO IntKind.u64 x_6 ((8) : Int)).bind fun y8 =>
  some (y8, (IntKind.i64.wrap (n_7 + ((8) : Int))), ())) else (
  some (x_6, n_7, ())))) fun (x_9, n_10, _) =>
  (strI lenTab (IntKind.u8.wrap x_9)).bind fun c11 =>
  some ((IntKind.i64.wrap (n_10 + (IntKind.i64.wrap c11))), ())
set_option maxHeartbeats 4000000 in
theorem le_math_bits_Len64 (n_ : Nat) (a : (Int × Unit)) : Le (e_math_bits_Len64 n_ a) (d_math_bits_Len64 a) := by
  unfold e_math_bits_Len64 d_math_bits_Len64
  repeat' (first | with_reducible exact Le.refl _  | (with_reducible refine Le.bind ?_ (fun y => ?_)) | (with_reducible refine Le.bif ?_ ?_) | (with_reducible refine Le.loop (fun s => ?_) _ _) | (with_reducible refine Le.atO (fun e => ?_)) | split)
noncomputable def e_math_bits_Len (n_ : Nat) : (Int × Unit) → Option (Int × Unit) := fun (x_1, _) =>
  (e_math_bits_Len64 n_ (x_1, ())).bind fun (r2, _) =>
  some (r2, ())
set_option maxHeartbeats 4000000 in
theorem le_math_bits_Len (n_ : Nat) (a : (Int × Unit)) : Le (e_math_bits_Len n_ a) (d_math_bits_Len a) := by
  unfold e_math_bits_Len d_math_bits_Len
  repeat' (first | with_reducible exact Le.refl _ | with_reducible exact le_math_bits_Len64 _ _ | (with_reducible refine Le.bind ?_ (fun y => ?_)) | (with_reducible refine Le.bif ?_ ?_) | (with_reducible refine Le.loop (fun s => ?_) _ _) | (with_reducible refine Le.atO (fun e => ?_)) | split)
noncomputable def e_slices_nextPowerOfTwo (n_ : Nat) : (Int × Unit) → Option (Int × Unit) := fun (length_1, _) =>
  (e_math_bits_Len n_ ((IntKind.u64.wrap length_1), ())).bind fun (r2, _) =>
  (shlO IntKind.u64 ((1) : Int) r2).bind fun y3 =>
  some (y3, ())
set_option maxHeartbeats 4000000 in
theorem le_slices_nextPowerOfTwo (n_ : Nat) (a : (Int × Unit)) : Le (e_slices_nextPowerOfTwo n_ a) (d_slices_nextPowerOfTwo a) := by
  unfold e_slices_nextPowerOfTwo d_slices_nextPowerOfTwo
  repeat' (first | with_reducible exact Le.refl _ | with_reducible exact le_math_bits_Len _ _ | (with_reducible refine Le.bind ?_ (fun y => ?_)) | (with_reducible refine Le.bif ?_ ?_) | (with_reducible refine Le.loop (fun s => ?_) _ _) | (with_reducible refine Le.atO (fun e => ?_)) | split)
noncomputable def e_slices_xorshift_Next (n_ : Nat) : (Int × Unit) → Option (Int × Int × Unit) := fun (r_1, _) =>
  (shlO IntKind.u64 r_1 ((13) : Int)).bind fun y2 =>
  (shrO IntKind.u64 (xorI IntKind.u64 r_1 y2) ((7) : Int)).bind fun y3 =>
  (shlO IntKind.u64 (xorI IntKind.u64 (xorI IntKind.u64 r_1 y2) y3) ((17) : Int)).bind fun y4 =>
  some ((xorI IntKind.u64 (xorI IntKind.u64 (xorI IntKind.u64 r_1 y2) y3) y4), (xorI IntKind.u64 (xorI IntKind.u64 (xorI IntKind.u64 r_1 y2) y3) y4), ())
set_option maxHeartbeats 4000000 in
theorem le_slices_xorshift_Next (n_ : Nat) (a : (Int × Unit)) : Le (e_slices_xorshift_Next n_ a) (d_slices_xorshift_Next a) := by
  unfold e_slices_xorshift_Next d_slices_xorshift_Next
  repeat' (first | with_reducible exact Le.refl _  | (with_reducible refine Le.bind ?_ (fun y => ?_)) | (with_reducible refine Le.bif ?_ ?_) | (with_reducible refine Le.loop (fun s => ?_) _ _) | (with_reducible refine Le.atO (fun e => ?_)) | split)
noncomputable def e_memory_Best_1q_1q_q0 (n_ : Nat) : (Int × Int × (Option (List Int)) × (Option (List Int)) × Unit) → Option (Int × Unit) := fun (a_1, b_2, p_3, p_4, _) =>
  (p_3).bind fun y5 =>
  (getI y5 b_2).bind fun y6 =>
  (p_4).bind fun y7 =>
  (getI y7 b_2).bind fun y8 =>
  (p_3).bind fun y9 =>
  (getI y9 a_1).bind fun y10 =>
  (p_4).bind fun y11 =>
  (getI y11 a_1).bind fun y12 =>
  (e_cmp_Compare_int n_ ((IntKind.i64.wrap (y6 - y8)), (IntKind.i64.wrap (y10 - y12)), ())).bind fun (r13, _) =>
  (e_cmp_Compare_int n_ (a_1, b_2, ())).bind fun (r14, _) =>
  (e_cmp_Or_int n_ ([r13, r14], ())).bind fun (r15, _) =>
  some (r15, ())
set_option maxHeartbeats 4000000 in
theorem le_memory_Best_1q_1q_q0 (n_ : Nat) (a : (Int × Int × (Option (List Int)) × (Option (List Int)) × Unit)) : Le (e_memory_Best_1q_1q_q0 n_ a) (d_memory_Best_1q_1q_q0 a) := by
  unfold e_memory_Best_1q_1q_q0 d_memory_Best_1q_1q_q0
  repeat' (first | with_reducible exact Le.refl _ | with_reducible exact le_cmp_Or_int _ _ | with_reducible exact le_cmp_Compare_int _ _ | (with_reducible refine Le.bind ?_ (fun y => ?_)) | (with_reducible refine Le.bif ?_ ?_) | (with_reducible refine Le.loop (fun s => ?_) _ _) | (with_reducible refine Le.atO (fun e => ?_)) | split)
noncomputable def e_slices_insertionSortCmpFunc_int_mem (n_ : Nat) : ((List Int) × Int × Int × ((Option (List Int)) × (Option (List Int)) × Unit) × Unit) → Option ((List Int) × Unit) := fun (data_1, a_2, b_3, cmp_4, _) =>
  (loopN (σ := (Int × (List Int) × Unit)) (ρ := ((List Int) × Unit)) (fun (i_5, data_6, _) =>
  (bif (decide (i_5 < b_3)) then (
  (loopN (σ := (Int × (List Int) × Unit)) (ρ := ((List Int) × Unit)) (fun (j_7, data_8, _) =>
  Option.bind (α := ((List Int) × Unit) ⊕ ((Int × (List Int) × Unit) ⊕ ((List Int) × Unit))) (
  (bif ((decide (j_7 > a_2)) == true) then ((idxN (data_8).length j_7).bind fun k9 =>
  ((atO data_8 k9 fun e10 => some e10)).bind fun y11 =>
  (idxN (data_8).length (IntKind.i64.wrap (j_7 - ((1) : Int)))).bind fun k12 =>
  ((atO data_8 k12 fun e13 => some e13)).bind fun y14 =>
  (e_memory_Best_1q_1q_q0 n_ (y11, y14, cmp_4.1, cmp_4.2.1, ())).bind fun (r15, _) =>
  (bif (decide (r15 < ((0) : Int))) then (
  some (.inl (data_8, ()))) else (
  some (.inr (.inr (data_8, ())))))) else (some (.inr (.inr (data_8, ())))))) fun q => match q with
  | .inl (data_16, _) => (
  (idxN (data_16).length (IntKind.i64.wrap (j_7 - ((1) : Int)))).bind fun k17 =>
  ((atO data_16 k17 fun e18 => some e18)).bind fun y19 =>
  (idxN (data_16).length j_7).bind fun k20 =>
  ((atO data_16 k20 fun e21 => some e21)).bind fun y22 =>
  (idxN (data_16).length j_7).bind fun k23 =>
  ((atO data_16 k23 fun _ => some ((data_16).set k23 y19))).bind fun z25 =>
  (idxN (z25).length (IntKind.i64.wrap (j_7 - ((1) : Int)))).bind fun k26 =>
  ((atO z25 k26 fun _ => some ((z25).set k26 y22))).bind fun z28 =>
  some (.inl ((IntKind.i64.wrap (j_7 - ((1) : Int))), z28, ())))
  | .inr r => some r) n_ (i_5, data_6, ())).bind fun (data_29, _) =>
  some (.inl ((IntKind.i64.wrap (i_5 + ((1) : Int))), data_29, ()))) else (
  some (.inr (data_6, ()))))) n_ ((IntKind.i64.wrap (a_2 + ((1) : Int))), data_1, ())).bind fun (data_30, _) =>
  some (data_30, ())
set_option maxHeartbeats 4000000 in
theorem le_slices_insertionSortCmpFunc_int_mem (n_ : Nat) (a : ((List Int) × Int × Int × ((Option (List Int)) × (Option (List Int)) × Unit) × Unit)) : Le (e_slices_insertionSortCmpFunc_int_mem n_ a) (d_slices_insertionSortCmpFunc_int_mem a) := by
  unfold e_slices_insertionSortCmpFunc_int_mem d_slices_insertionSortCmpFunc_int_mem
  repeat' (first | with_reducible exact Le.refl _ | with_reducible exact le_memory_Best_1q_1q_q0 _ _ | (with_reducible refine Le.bind ?_ (fun y => ?_)) | (with_reducible refine Le.bif ?_ ?_) | (with_reducible refine Le.loop (fun s => ?_) _ _) | (with_reducible refine Le.atO (fun e => ?_)) | split)
noncomputable def e_slices_siftDownCmpFunc_int_mem (n_ : Nat) : ((List Int) × Int × Int × Int × ((Option (List Int)) × (Option (List Int)) × Unit) × Unit) → Option ((List Int) × Unit) := fun (data_1, lo_2, hi_3, first_4, cmp_5, _) =>
  (loopN (σ := (Int × (List Int) × Unit)) (ρ := (((List Int) × Unit) ⊕ ((List Int) × Unit))) (fun (root_6, data_7, _) =>
  (bif (decide ((IntKind.i64.wrap ((IntKind.i64.wrap (((2) : Int) * root_6)) + ((1) : Int))) ≥ hi_3)) then (
  some (.inr (.inl (data_7, ())))) else (
  Option.bind (α := (Int × (List Int) × Unit)) (
  Option.bind (α := (Bool × (List Int) × Unit)) (
  (bif ((decide ((IntKind.i64.wrap ((IntKind.i64.wrap ((IntKind.i64.wrap (((2) : Int) * root_6)) + ((1) : Int))) + ((1) : Int))) < hi_3)) == true) then ((idxN (data_7).length (IntKind.i64.wrap (first_4 + (IntKind.i64.wrap ((IntKind.i64.wrap (((2) : Int) * root_6)) + ((1) : Int)))))).bind fun k8 =>
  ((atO data_7 k8 fun e9 => some e9)).bind fun y10 =>
  (idxN (data_7).length (IntKind.i64.wrap ((IntKind.i64.wrap (first_4 + (IntKind.i64.wrap ((IntKind.i64.wrap (((2) : Int) * root_6)) + ((1) : Int))))) + ((1) : Int)))).bind fun k11 =>
  ((atO data_7 k11 fun e12 => some e12)).bind fun y13 =>
  (e_memory_Best_1q_1q_q0 n_ (y10, y13, cmp_5.1, cmp_5.2.1, ())).bind fun (r14, _) =>
  some ((decide (r14 < ((0) : Int))), data_7, ())) else (some (false, data_7, ())))) fun (s_15, data_16, _) =>
  (bif s_15 then (
  some ((IntKind.i64.wrap ((IntKind.i64.wrap ((IntKind.i64.wrap (((2) : Int) * root_6)) + ((1) : Int))) + ((1) : Int))), data_16, ())) else (
  some ((IntKind.i64.wrap ((IntKind.i64.wrap (((2) : Int) * root_6)) + ((1) : Int))), data_16, ())))) fun (child_17, data_18, _) =>
  (idxN (data_18).length (IntKind.i64.wrap (first_4 + root_6))).bind fun k19 =>
  ((atO data_18 k19 fun e20 => some e20)).bind fun y21 =>
  (idxN (data_18).length (IntKind.i64.wrap (first_4 + child_17))).bind fun k22 =>
  ((atO data_18 k22 fun e23 => some e23)).bind fun y24 =>
  (e_memory_Best_1q_1q_q0 n_ (y21, y24, cmp_5.1, cmp_5.2.1, ())).bind fun (r25, _) =>
  (bif (!(decide (r25 < ((0) : Int)))) then (
  some (.inr (.inr (data_18, ())))) else (
  (idxN (data_18).length (IntKind.i64.wrap (first_4 + child_17))).bind fun k26 =>
  ((atO data_18 k26 fun e27 => some e27)).bind fun y28 =>
  (idxN (data_18).length (IntKind.i64.wrap (first_4 + root_6))).bind fun k29 =>
  ((atO data_18 k29 fun e30 => some e30)).bind fun y31 =>
  (idxN (data_18).length (IntKind.i64.wrap (first_4 + root_6))).bind fun k32 =>
  ((atO data_18 k32 fun _ => some ((data_18).set k32 y28))).bind fun z34 =>
  (idxN (z34).length (IntKind.i64.wrap (first_4 + child_17))).bind fun k35 =>
  ((atO z34 k35 fun _ => some ((z34).set k35 y31))).bind fun z37 =>
  some (.inl (child_17, z37, ()))))))) n_ (lo_2, data_1, ())).bind fun q => match q with
  | .inl (data_38, _) => (
  some (data_38, ()))
  | .inr r => some r
set_option maxHeartbeats 4000000 in
theorem le_slices_siftDownCmpFunc_int_mem (n_ : Nat) (a : ((List Int) × Int × Int × Int × ((Option (List Int)) × (Option (List Int)) × Unit) × Unit)) : Le (e_slices_siftDownCmpFunc_int_mem n_ a) (d_slices_siftDownCmpFunc_int_mem a) := by
  unfold e_slices_siftDownCmpFunc_int_mem d_slices_siftDownCmpFunc_int_mem
  repeat' (first | with_reducible exact Le.refl _ | with_reducible exact le_memory_Best_1q_1q_q0 _ _ | (with_reducible refine Le.bind ?_ (fun y => ?_)) | (with_reducible refine Le.bif ?_ ?_) | (with_reducible refine Le.loop (fun s => ?_) _ _) | (with_reducible refine Le.atO (fun e => ?_)) | split)
noncomputable def e_slices_heapSortCmpFunc_int_mem (n_ : Nat) : ((List Int) × Int × Int × ((Option (List Int)) × (Option (List Int)) × Unit) × Unit) → Option ((List Int) × Unit) := fun (data_1, a_2, b_3, cmp_4, _) =>
  (quoO IntKind.i64 (IntKind.i64.wrap ((IntKind.i64.wrap (b_3 - a_2)) - ((1) : Int))) ((2) : Int)).bind fun y5 =>
  (loopN (σ := (Int × (List Int) × Unit)) (ρ := ((List Int) × Unit)) (fun (i_6, data_7, _) =>
  (bif (decide (i_6 ≥ ((0) : Int))) then (
  (e_slices_siftDownCmpFunc_int_mem n_ (data_7, i_6, (IntKind.i64.wrap (b_3 - a_2)), a_2, (cmp_4.1, cmp_4.2.1, ()), ())).bind fun (m8, _) =>
  some (.inl ((IntKind.i64.wrap (i_6 - ((1) : Int))), m8, ()))) else (
  some (.inr (data_7, ()))))) n_ (y5, data_1, ())).bind fun (data_9, _) =>
  (loopN (σ := (Int × (List Int) × Unit)) (ρ := ((List Int) × Unit)) (fun (i_10, data_11, _) =>
  (bif (decide (i_10 ≥ ((0) : Int))) then (
  (idxN (data_11).length (IntKind.i64.wrap (a_2 + i_10))).bind fun k12 =>
  ((atO data_11 k12 fun e13 => some e13)).bind fun y14 =>
  (idxN (data_11).length a_2).bind fun k15 =>
  ((atO data_11 k15 fun e16 => some e16)).bind fun y17 =>
  (idxN (data_11).length a_2).bind fun k18 =>
  ((atO data_11 k18 fun _ => some ((data_11).set k18 y14))).bind fun z20 =>
  (idxN (z20).length (IntKind.i64.wrap (a_2 + i_10))).bind fun k21 =>
  ((atO z20 k21 fun _ => some ((z20).set k21 y17))).bind fun z23 =>
  (e_slices_siftDownCmpFunc_int_mem n_ (z23, ((0) : Int), i_10, a_2, (cmp_4.1, cmp_4.2.1, ()), ())).bind fun (m24, _) =>
  some (.inl ((IntKind.i64.wrap (i_10 - ((1) : Int))), m24, ()))) else (
  some (.inr (data_11, ()))))) n_ ((IntKind.i64.wrap ((IntKind.i64.wrap (b_3 - a_2)) - ((1) : Int))), data_9, ())).bind fun (data_25, _) =>
  some (data_25, ())
set_option maxHeartbeats 4000000 in
theorem le_slices_heapSortCmpFunc_int_mem (n_ : Nat) (a : ((List Int) × Int × Int × ((Option (List Int)) × (Option (List Int)) × Unit) × Unit)) : Le (e_slices_heapSortCmpFunc_int_mem n_ a) (d_slices_heapSortCmpFunc_int_mem a) := by
  unfold e_slices_heapSortCmpFunc_int_mem d_slices_heapSortCmpFunc_int_mem
  repeat' (first | with_reducible exact Le.refl _ | with_reducible exact le_slices_siftDownCmpFunc_int_mem _ _ | (with_reducible refine Le.bind ?_ (fun y => ?_)) | (with_reducible refine Le.bif ?_ ?_) | (with_reducible refine Le.loop (fun s => ?_) _ _) | (with_reducible refine Le.atO (fun e => ?_)) | split)
noncomputable def e_slices_breakPatternsCmpFunc_int_mem (n_ : Nat) : ((List Int) × Int × Int × ((Option (List Int)) × (Option (List Int)) × Unit) × Unit) → Option ((List Int) × Unit) := fun (data_1, a_2, b_3, _, _) =>
  (bif (decide ((IntKind.i64.wrap (b_3 - a_2)) ≥ ((8) : Int))) then (
  (e_slices_nextPowerOfTwo n_ ((IntKind.i64.wrap (b_3 - a_2)), ())).bind fun (r5, _) =>
  (quoO IntKind.i64 (IntKind.i64.wrap (b_3 - a_2)) ((4) : Int)).bind fun y6 =>
  (loopN (σ := (Int × (List Int) × Int × Unit)) (ρ := ((List Int) × Unit)) (fun (idx_7, data_8, random_9, _) =>
  (quoO IntKind.i64 (IntKind.i64.wrap (b_3 - a_2)) ((4) : Int)).bind fun y10 =>
  (bif (decide (idx_7 ≤ (IntKind.i64.wrap ((IntKind.i64.wrap (a_2 + (IntKind.i64.wrap (y10 * ((2) : Int))))) + ((1) : Int))))) then (
  Option.bind (α := ((List Int) × Int × Unit)) (
  (e_slices_xorshift_Next n_ (random_9, ())).bind fun (m11, r12, _) =>
  Option.bind (α := (Int × (List Int) × Int × Unit)) (
  (bif (decide ((IntKind.i64.wrap (andI IntKind.u64 r12 (IntKind.u64.wrap (r5 - ((1) : Int))))) ≥ (IntKind.i64.wrap (b_3 - a_2)))) then (
  some ((IntKind.i64.wrap ((IntKind.i64.wrap (andI IntKind.u64 r12 (IntKind.u64.wrap (r5 - ((1) : Int))))) - (IntKind.i64.wrap (b_3 - a_2)))), data_8, m11, ())) else (
  some ((IntKind.i64.wrap (andI IntKind.u64 r12 (IntKind.u64.wrap (r5 - ((1) : Int))))), data_8, m11, ())))) fun (other_13, data_14, random_15, _) =>
  (idxN (data_14).length (IntKind.i64.wrap (a_2 + other_13))).bind fun k16 =>
  ((atO data_14 k16 fun e17 => some e17)).bind fun y18 =>
  (idxN (data_14).length idx_7).bind fun k19 =>
  ((atO data_14 k19 fun e20 => some e20)).bind fun y21 =>
  (idxN (data_14).length idx_7).bind fun k22 =>
  ((atO data_14 k22 fun _ => some ((data_14).set k22 y18))).bind fun z24 =>
  (idxN (z24).length (IntKind.i64.wrap (a_2 + other_13))).bind fun k25 =>
  ((atO z24 k25 fun _ => some ((z24).set k25 y21))).bind fun z27 =>
  some (z27, random_15, ())) fun (data_28, random_29, _) =>
  some (.inl ((IntKind.i64.wrap (idx_7 + ((1) : Int))), data_28, random_29, ()))) else (
  some (.inr (data_8, ()))))) n_ ((IntKind.i64.wrap ((IntKind.i64.wrap (a_2 + (IntKind.i64.wrap (y6 * ((2) : Int))))) - ((1) : Int))), data_1, (IntKind.u64.wrap (IntKind.i64.wrap (b_3 - a_2))), ())).bind fun (data_30, _) =>
  some (data_30, ())) else (
  some (data_1, ())))
set_option maxHeartbeats 4000000 in
theorem le_slices_breakPatternsCmpFunc_int_mem (n_ : Nat) (a : ((List Int) × Int × Int × ((Option (List Int)) × (Option (List Int)) × Unit) × Unit)) : Le (e_slices_breakPatternsCmpFunc_int_mem n_ a) (d_slices_breakPatternsCmpFunc_int_mem a) := by
  unfold e_slices_breakPatternsCmpFunc_int_mem d_slices_breakPatternsCmpFunc_int_mem
  repeat' (first | with_reducible exact Le.refl _ | with_reducible exact le_slices_nextPowerOfTwo _ _ | with_reducible exact le_slices_xorshift_Next _ _ | (with_reducible refine Le.bind ?_ (fun y => ?_)) | (with_reducible refine Le.bif ?_ ?_) | (with_reducible refine Le.loop (fun s => ?_) _ _) | (with_reducible refine Le.atO (fun e => ?_)) | split)
noncomputable def e_slices_order2CmpFunc_int_mem (n_ : Nat) : ((List Int) × Int × Int × Int × ((Option (List Int)) × (Option (List Int)) × Unit) × Unit) → Option (Int × Int × Int × Unit) := fun (data_1, a_2, b_3, swaps_4, cmp_5, _) =>
  (getI data_1 b_3).bind fun y6 =>
  (getI data_1 a_2).bind fun y7 =>
  (e_memory_Best_1q_1q_q0 n_ (y6, y7, cmp_5.1, cmp_5.2.1, ())).bind fun (r8, _) =>
  (bif (decide (r8 < ((0) : Int))) then (
  some ((IntKind.i64.wrap (swaps_4 + ((1) : Int))), b_3, a_2, ())) else (
  some (swaps_4, a_2, b_3, ())))
set_option maxHeartbeats 4000000 in
theorem le_slices_order2CmpFunc_int_mem (n_ : Nat) (a : ((List Int) × Int × Int × Int × ((Option (List Int)) × (Option (List Int)) × Unit) × Unit)) : Le (e_slices_order2CmpFunc_int_mem n_ a) (d_slices_order2CmpFunc_int_mem a) := by
  unfold e_slices_order2CmpFunc_int_mem d_slices_order2CmpFunc_int_mem
  repeat' (first | with_reducible exact Le.refl _ | with_reducible exact le_memory_Best_1q_1q_q0 _ _ | (with_reducible refine Le.bind ?_ (fun y => ?_)) | (with_reducible refine Le.bif ?_ ?_) | (with_reducible refine Le.loop (fun s => ?_) _ _) | (with_reducible refine Le.atO (fun e => ?_)) | split)
noncomputable def e_slices_medianCmpFunc_int_mem (n_ : Nat) : ((List Int) × Int × Int × Int × Int × ((Option (List Int)) × (Option (List Int)) × Unit) × Unit) → Option (Int × Int × Unit) := fun (data_1, a_2, b_3, c_4, swaps_5, cmp_6, _) =>
  (e_slices_order2CmpFunc_int_mem n_ (data_1, a_2, b_3, swaps_5, (cmp_6.1, cmp_6.2.1, ()), ())).bind fun (m7, r8, r9, _) =>
  (e_slices_order2CmpFunc_int_mem n_ (data_1, r9, c_4, m7, (cmp_6.1, cmp_6.2.1, ()), ())).bind fun (m10, r11, _, _) =>
  (e_slices_order2CmpFunc_int_mem n_ (data_1, r8, r11, m10, (cmp_6.1, cmp_6.2.1, ()), ())).bind fun (m13, _, r15, _) =>
  some (m13, r15, ())
set_option maxHeartbeats 4000000 in
theorem le_slices_medianCmpFunc_int_mem (n_ : Nat) (a : ((List Int) × Int × Int × Int × Int × ((Option (List Int)) × (Option (List Int)) × Unit) × Unit)) : Le (e_slices_medianCmpFunc_int_mem n_ a) (d_slices_medianCmpFunc_int_mem a) := by
  unfold e_slices_medianCmpFunc_int_mem d_slices_medianCmpFunc_int_mem
  repeat' (first | with_reducible exact Le.refl _ | with_reducible exact le_slices_order2CmpFunc_int_mem _ _ | (with_reducible refine Le.bind ?_ (fun y => ?_)) | (with_reducible refine Le.bif ?_ ?_) | (with_reducible refine Le.loop (fun s => ?_) _ _) | (with_reducible refine Le.atO (fun e => ?_)) | split)
noncomputable def e_slices_medianAdjacentCmpFunc_int_mem (n_ : Nat) : ((List Int) × Int × Int × ((Option (List Int)) × (Option (List Int)) × Unit) × Unit) → Option (Int × Int × Unit) := fun (data_1, a_2, swaps_3, cmp_4, _) =>
  (e_slices_medianCmpFunc_int_mem n_ (data_1, (IntKind.i64.wrap (a_2 - ((1) : Int))), a_2, (IntKind.i64.wrap (a_2 + ((1) : Int))), swaps_3, (cmp_4.1, cmp_4.2.1, ()), ())).bind fun (m5, r6, _) =>
  some (m5, r6, ())
set_option maxHeartbeats 4000000 in
theorem le_slices_medianAdjacentCmpFunc_int_mem (n_ : Nat) (a : ((List Int) × Int × Int × ((Option (List Int)) × (Option (List Int)) × Unit) × Unit)) : Le (e_slices_medianAdjacentCmpFunc_int_mem n_ a) (d_slices_medianAdjacentCmpFunc_int_mem a) := by
  unfold e_slices_medianAdjacentCmpFunc_int_mem d_slices_medianAdjacentCmpFunc_int_mem
  repeat' (first | with_reducible exact Le.refl _ | with_reducible exact le_slices_medianCmpFunc_int_mem _ _ | (with_reducible refine Le.bind ?_ (fun y => ?_)) | (with_reducible refine Le.bif ?_ ?_) | (with_reducible refine Le.loop (fun s => ?_) _ _) | (with_reducible refine Le.atO (fun e => ?_)) | split)
noncomputable def e_slices_choosePivotCmpFunc_int_mem (n_ : Nat) : ((List Int) × Int × Int × ((Option (List Int)) × (Option (List Int)) × Unit) × Unit) → Option (Int × Int × Unit) := fun (data_1, a_2, b_3, cmp_4, _) =>
  (quoO IntKind.i64 (IntKind.i64.wrap (b_3 - a_2)) ((4) : Int)).bind fun y5 =>
  (quoO IntKind.i64 (IntKind.i64.wrap (b_3 - a_2)) ((4) : Int)).bind fun y6 =>
  (quoO IntKind.i64 (IntKind.i64.wrap (b_3 - a_2)) ((4) : Int)).bind fun y7 =>
  Option.bind (α := (Int × Int × Unit)) (
  (bif (decide ((IntKind.i64.wrap (b_3 - a_2)) ≥ ((8) : Int))) then (
  Option.bind (α := (Int × Int × Int × Int × Unit)) (
  (bif (decide ((IntKind.i64.wrap (b_3 - a_2)) ≥ ((50) : Int))) then (
  (e_slices_medianAdjacentCmpFunc_int_mem n_ (data_1, (IntKind.i64.wrap (a_2 + (IntKind.i64.wrap (y5 * ((1) : Int))))), (0 : Int), (cmp_4.1, cmp_4.2.1, ()), ())).bind fun (m8, r9, _) =>
  (e_slices_medianAdjacentCmpFunc_int_mem n_ (data_1, (IntKind.i64.wrap (a_2 + (IntKind.i64.wrap (y6 * ((2) : Int))))), m8, (cmp_4.1, cmp_4.2.1, ()), ())).bind fun (m10, r11, _) =>
  (e_slices_medianAdjacentCmpFunc_int_mem n_ (data_1, (IntKind.i64.wrap (a_2 + (IntKind.i64.wrap (y7 * ((3) : Int))))), m10, (cmp_4.1, cmp_4.2.1, ()), ())).bind fun (m12, r13, _) =>
  some (r9, r11, r13, m12, ())) else (
  some ((IntKind.i64.wrap (a_2 + (IntKind.i64.wrap (y5 * ((1) : Int))))), (IntKind.i64.wrap (a_2 + (IntKind.i64.wrap (y6 * ((2) : Int))))), (IntKind.i64.wrap (a_2 + (IntKind.i64.wrap (y7 * ((3) : Int))))), (0 : Int), ())))) fun (i_14, j_15, k_16, swaps_17, _) =>
  (e_slices_medianCmpFunc_int_mem n_ (data_1, i_14, j_15, k_16, swaps_17, (cmp_4.1, cmp_4.2.1, ()), ())).bind fun (m18, r19, _) =>
  some (r19, m18, ())) else (
  some ((IntKind.i64.wrap (a_2 + (IntKind.i64.wrap (y6 * ((2) : Int))))), (0 : Int), ())))) fun (j_20, swaps_21, _) =>
  (bif (swaps_21 == ((0) : Int)) then (
  some (j_20, ((1) : Int), ())) else (
  (bif (swaps_21 == ((12) : Int)) then (
  some (j_20, ((2) : Int), ())) else (
  some (j_20, ((0) : Int), ())))))
set_option maxHeartbeats 4000000 in
theorem le_slices_choosePivotCmpFunc_int_mem (n_ : Nat) (a : ((List Int) × Int × Int × ((Option (List Int)) × (Option (List Int)) × Unit) × Unit)) : Le (e_slices_choosePivotCmpFunc_int_mem n_ a) (d_slices_choosePivotCmpFunc_int_mem a) := by
  unfold e_slices_choosePivotCmpFunc_int_mem d_slices_choosePivotCmpFunc_int_mem
  repeat' (first | with_reducible exact Le.refl _ | with_reducible exact le_slices_medianAdjacentCmpFunc_int_mem _ _ | with_reducible exact le_slices_medianCmpFunc_int_mem _ _ | (with_reducible refine Le.bind ?_ (fun y => ?_)) | (with_reducible refine Le.bif ?_ ?_) | (with_reducible refine Le.loop (fun s => ?_) _ _) | (with_reducible refine Le.atO (fun e => ?_)) | split)
noncomputable def e_slices_reverseRangeCmpFunc_int_mem (n_ : Nat) : ((List Int) × Int × Int × ((Option (List Int)) × (Option (List Int)) × Unit) × Unit) → Option ((List Int) × Unit) := fun (data_1, a_2, b_3, _, _) =>
  (loopN (σ := (Int × Int × (List Int) × Unit)) (ρ := ((List Int) × Unit)) (fun (i_5, j_6, data_7, _) =>
  (bif (decide (i_5 < j_6)) then (
  (idxN (data_7).length j_6).bind fun k8 =>
  ((atO data_7 k8 fun e9 => some e9)).bind fun y10 =>
  (idxN (data_7).length i_5).bind fun k11 =>
  ((atO data_7 k11 fun e12 => some e12)).bind fun y13 =>
  (idxN (data_7).length i_5).bind fun k14 =>
  ((atO data_7 k14 fun _ => some ((data_7).set k14 y10))).bind fun z16 =>
  (idxN (z16).length j_6).bind fun k17 =>
  ((atO z16 k17 fun _ => some ((z16).set k17 y13))).bind fun z19 =>
  some (.inl ((IntKind.i64.wrap (i_5 + ((1) : Int))), (IntKind.i64.wrap (j_6 - ((1) : Int))), z19, ()))) else (
  some (.inr (data_7, ()))))) n_ (a_2, (IntKind.i64.wrap (b_3 - ((1) : Int))), data_1, ())).bind fun (data_20, _) =>
  some (data_20, ())
set_option maxHeartbeats 4000000 in
theorem le_slices_reverseRangeCmpFunc_int_mem (n_ : Nat) (a : ((List Int) × Int × Int × ((Option (List Int)) × (Option (List Int)) × Unit) × Unit)) : Le (e_slices_reverseRangeCmpFunc_int_mem n_ a) (d_slices_reverseRangeCmpFunc_int_mem a) := by
  unfold e_slices_reverseRangeCmpFunc_int_mem d_slices_reverseRangeCmpFunc_int_mem
  repeat' (first | with_reducible exact Le.refl _  | (with_reducible refine Le.bind ?_ (fun y => ?_)) | (with_reducible refine Le.bif ?_ ?_) | (with_reducible refine Le.loop (fun s => ?_) _ _) | (with_reducible refine Le.atO (fun e => ?_)) | split)
noncomputable def e_slices_partialInsertionSortCmpFunc_int_mem (n_ : Nat) : ((List Int) × Int × Int × ((Option (List Int)) × (Option (List Int)) × Unit) × Unit) → Option ((List Int) × Bool × Unit) := fun (data_1, a_2, b_3, cmp_4, _) =>
  (loopN (σ := (Int × Int × (List Int) × Unit)) (ρ := (((List Int) × Unit) ⊕ ((List Int) × Bool × Unit))) (fun (i_5, j_6, data_7, _) =>
  (bif (decide (j_6 < ((5) : Int))) then (
  Option.bind (α := (Int × (List Int) × Unit) ⊕ ((Int × Int × (List Int) × Unit) ⊕ (((List Int) × Unit) ⊕ ((List Int) × Bool × Unit)))) (
  (loopN (σ := (Int × (List Int) × Unit)) (ρ := (Int × (List Int) × Unit)) (fun (i_8, data_9, _) =>
  Option.bind (α := ((List Int) × Unit) ⊕ ((Int × (List Int) × Unit) ⊕ (Int × (List Int) × Unit))) (
  (bif ((decide (i_8 < b_3)) == true) then ((idxN (data_9).length i_8).bind fun k10 =>
  ((atO data_9 k10 fun e11 => some e11)).bind fun y12 =>
  (idxN (data_9).length (IntKind.i64.wrap (i_8 - ((1) : Int)))).bind fun k13 =>
  ((atO data_9 k13 fun e14 => some e14)).bind fun y15 =>
  (e_memory_Best_1q_1q_q0 n_ (y12, y15, cmp_4.1, cmp_4.2.1, ())).bind fun (r16, _) =>
  (bif (!(decide (r16 < ((0) : Int)))) then (
  some (.inl (data_9, ()))) else (
  some (.inr (.inr (i_8, data_9, ())))))) else (some (.inr (.inr (i_8, data_9, ())))))) fun q => match q with
  | .inl (data_17, _) => (
  some (.inl ((IntKind.i64.wrap (i_8 + ((1) : Int))), data_17, ())))
  | .inr r => some r) n_ (i_5, data_7, ())).bind fun (i_18, data_19, _) =>
  (bif (i_18 == b_3) then (
  some (.inr (.inr (.inr (data_19, true, ()))))) else (
  (bif (decide ((IntKind.i64.wrap (b_3 - a_2)) < ((50) : Int))) then (
  some (.inr (.inr (.inr (data_19, false, ()))))) else (
  (idxN (data_19).length (IntKind.i64.wrap (i_18 - ((1) : Int)))).bind fun k20 =>
  ((atO data_19 k20 fun e21 => some e21)).bind fun y22 =>
  (idxN (data_19).length i_18).bind fun k23 =>
  ((atO data_19 k23 fun e24 => some e24)).bind fun y25 =>
  (idxN (data_19).length i_18).bind fun k26 =>
  ((atO data_19 k26 fun _ => some ((data_19).set k26 y22))).bind fun z28 =>
  (idxN (z28).length (IntKind.i64.wrap (i_18 - ((1) : Int)))).bind fun k29 =>
  ((atO z28 k29 fun _ => some ((z28).set k29 y25))).bind fun z31 =>
  Option.bind (α := ((List Int) × Unit)) (
  (bif (decide ((IntKind.i64.wrap (i_18 - a_2)) ≥ ((2) : Int))) then (
  (loopN (σ := (Int × (List Int) × Unit)) (ρ := ((List Int) × Unit)) (fun (j_32, data_33, _) =>
  (bif (decide (j_32 ≥ ((1) : Int))) then (
  (idxN (data_33).length j_32).bind fun k34 =>
  ((atO data_33 k34 fun e35 => some e35)).bind fun y36 =>
  (idxN (data_33).length (IntKind.i64.wrap (j_32 - ((1) : Int)))).bind fun k37 =>
  ((atO data_33 k37 fun e38 => some e38)).bind fun y39 =>
  (e_memory_Best_1q_1q_q0 n_ (y36, y39, cmp_4.1, cmp_4.2.1, ())).bind fun (r40, _) =>
  (bif (!(decide (r40 < ((0) : Int)))) then (
  some (.inr (data_33, ()))) else (
  (idxN (data_33).length (IntKind.i64.wrap (j_32 - ((1) : Int)))).bind fun k41 =>
  ((atO data_33 k41 fun e42 => some e42)).bind fun y43 =>
  (idxN (data_33).length j_32).bind fun k44 =>
  ((atO data_33 k44 fun e45 => some e45)).bind fun y46 =>
  (idxN (data_33).length j_32).bind fun k47 =>
  ((atO data_33 k47 fun _ => some ((data_33).set k47 y43))).bind fun z49 =>
  (idxN (z49).length (IntKind.i64.wrap (j_32 - ((1) : Int)))).bind fun k50 =>
  ((atO z49 k50 fun _ => some ((z49).set k50 y46))).bind fun z52 =>
  some (.inl ((IntKind.i64.wrap (j_32 - ((1) : Int))), z52, ()))))) else (
  some (.inr (data_33, ()))))) n_ ((IntKind.i64.wrap (i_18 - ((1) : Int))), z31, ())).bind fun (data_53, _) =>
  some (data_53, ())) else (
  some (z31, ())))) fun (data_54, _) =>
  (bif (decide ((IntKind.i64.wrap (b_3 - i_18)) ≥ ((2) : Int))) then (
  (loopN (σ := (Int × (List Int) × Unit)) (ρ := ((List Int) × Unit)) (fun (j_55, data_56, _) =>
  (bif (decide (j_55 < b_3)) then (
  (idxN (data_56).length j_55).bind fun k57 =>
  ((atO data_56 k57 fun e58 => some e58)).bind fun y59 =>
  (idxN (data_56).length (IntKind.i64.wrap (j_55 - ((1) : Int)))).bind fun k60 =>
  ((atO data_56 k60 fun e61 => some e61)).bind fun y62 =>
  (e_memory_Best_1q_1q_q0 n_ (y59, y62, cmp_4.1, cmp_4.2.1, ())).bind fun (r63, _) =>
  (bif (!(decide (r63 < ((0) : Int)))) then (
  some (.inr (data_56, ()))) else (
  (idxN (data_56).length (IntKind.i64.wrap (j_55 - ((1) : Int)))).bind fun k64 =>
  ((atO data_56 k64 fun e65 => some e65)).bind fun y66 =>
  (idxN (data_56).length j_55).bind fun k67 =>
  ((atO data_56 k67 fun e68 => some e68)).bind fun y69 =>
  (idxN (data_56).length j_55).bind fun k70 =>
  ((atO data_56 k70 fun _ => some ((data_56).set k70 y66))).bind fun z72 =>
  (idxN (z72).length (IntKind.i64.wrap (j_55 - ((1) : Int)))).bind fun k73 =>
  ((atO z72 k73 fun _ => some ((z72).set k73 y69))).bind fun z75 =>
  some (.inl ((IntKind.i64.wrap (j_55 + ((1) : Int))), z75, ()))))) else (
  some (.inr (data_56, ()))))) n_ ((IntKind.i64.wrap (i_18 + ((1) : Int))), data_54, ())).bind fun (data_76, _) =>
  some (.inl (i_18, data_76, ()))) else (
  some (.inl (i_18, data_54, ()))))))))) fun q => match q with
  | .inl (i_77, data_78, _) => (
  some (.inl (i_77, (IntKind.i64.wrap (j_6 + ((1) : Int))), data_78, ())))
  | .inr r => some r) else (
  some (.inr (.inl (data_7, ())))))) n_ ((IntKind.i64.wrap (a_2 + ((1) : Int))), ((0) : Int), data_1, ())).bind fun q => match q with
  | .inl (data_79, _) => (
  some (data_79, false, ()))
  | .inr r => some r
set_option maxHeartbeats 4000000 in
theorem le_slices_partialInsertionSortCmpFunc_int_mem (n_ : Nat) (a : ((List Int) × Int × Int × ((Option (List Int)) × (Option (List Int)) × Unit) × Unit)) : Le (e_slices_partialInsertionSortCmpFunc_int_mem n_ a) (d_slices_partialInsertionSortCmpFunc_int_mem a) := by
  unfold e_slices_partialInsertionSortCmpFunc_int_mem d_slices_partialInsertionSortCmpFunc_int_mem
  repeat' (first | with_reducible exact Le.refl _ | with_reducible exact le_memory_Best_1q_1q_q0 _ _ | (with_reducible refine Le.bind ?_ (fun y => ?_)) | (with_reducible refine Le.bif ?_ ?_) | (with_reducible refine Le.loop (fun s => ?_) _ _) | (with_reducible refine Le.atO (fun e => ?_)) | split)
noncomputable def e_slices_partitionEqualCmpFunc_int_mem (n_ : Nat) : ((List Int) × Int × Int × Int × ((Option (List Int)) × (Option (List Int)) × Unit) × Unit) → Option ((List Int) × Int × Unit) := fun (data_1, a_2, b_3, pivot_4, cmp_5, _) =>
  (idxN (data_1).length pivot_4).bind fun k6 =>
  ((atO data_1 k6 fun e7 => some e7)).bind fun y8 =>
  (idxN (data_1).length a_2).bind fun k9 =>
  ((atO data_1 k9 fun e10 => some e10)).bind fun y11 =>
  (idxN (data_1).length a_2).bind fun k12 =>
  ((atO data_1 k12 fun _ => some ((data_1).set k12 y8))).bind fun z14 =>
  (idxN (z14).length pivot_4).bind fun k15 =>
  ((atO z14 k15 fun _ => some ((z14).set k15 y11))).bind fun z17 =>
  (loopN (σ := (Int × Int × (List Int) × Unit)) (ρ := (Int × (List Int) × Unit)) (fun (i_18, j_19, data_20, _) =>
  (loopN (σ := (Int × (List Int) × Unit)) (ρ := (Int × (List Int) × Unit)) (fun (i_21, data_22, _) =>
  Option.bind (α := ((List Int) × Unit) ⊕ ((Int × (List Int) × Unit) ⊕ (Int × (List Int) × Unit))) (
  (bif ((decide (i_21 ≤ j_19)) == true) then ((idxN (data_22).length a_2).bind fun k23 =>
  ((atO data_22 k23 fun e24 => some e24)).bind fun y25 =>
  (idxN (data_22).length i_21).bind fun k26 =>
  ((atO data_22 k26 fun e27 => some e27)).bind fun y28 =>
  (e_memory_Best_1q_1q_q0 n_ (y25, y28, cmp_5.1, cmp_5.2.1, ())).bind fun (r29, _) =>
  (bif (!(decide (r29 < ((0) : Int)))) then (
  some (.inl (data_22, ()))) else (
  some (.inr (.inr (i_21, data_22, ())))))) else (some (.inr (.inr (i_21, data_22, ())))))) fun q => match q with
  | .inl (data_30, _) => (
  some (.inl ((IntKind.i64.wrap (i_21 + ((1) : Int))), data_30, ())))
  | .inr r => some r) n_ (i_18, data_20, ())).bind fun (i_31, data_32, _) =>
  (loopN (σ := (Int × (List Int) × Unit)) (ρ := (Int × (List Int) × Unit)) (fun (j_33, data_34, _) =>
  Option.bind (α := ((List Int) × Unit) ⊕ ((Int × (List Int) × Unit) ⊕ (Int × (List Int) × Unit))) (
  (bif ((decide (i_31 ≤ j_33)) == true) then ((idxN (data_34).length a_2).bind fun k35 =>
  ((atO data_34 k35 fun e36 => some e36)).bind fun y37 =>
  (idxN (data_34).length j_33).bind fun k38 =>
  ((atO data_34 k38 fun e39 => some e39)).bind fun y40 =>
  (e_memory_Best_1q_1q_q0 n_ (y37, y40, cmp_5.1, cmp_5.2.1, ())).bind fun (r41, _) =>
  (bif (decide (r41 < ((0) : Int))) then (
  some (.inl (data_34, ()))) else (
  some (.inr (.inr (j_33, data_34, ())))))) else (some (.inr (.inr (j_33, data_34, ())))))) fun q => match q with
  | .inl (data_42, _) => (
  some (.inl ((IntKind.i64.wrap (j_33 - ((1) : Int))), data_42, ())))
  | .inr r => some r) n_ (j_19, data_32, ())).bind fun (j_43, data_44, _) =>
  (bif (decide (i_31 > j_43)) then (
  some (.inr (i_31, data_44, ()))) else (
  (idxN (data_44).length j_43).bind fun k45 =>
  ((atO data_44 k45 fun e46 => some e46)).bind fun y47 =>
  (idxN (data_44).length i_31).bind fun k48 =>
  ((atO data_44 k48 fun e49 => some e49)).bind fun y50 =>
  (idxN (data_44).length i_31).bind fun k51 =>
  ((atO data_44 k51 fun _ => some ((data_44).set k51 y47))).bind fun z53 =>
  (idxN (z53).length j_43).bind fun k54 =>
  ((atO z53 k54 fun _ => some ((z53).set k54 y50))).bind fun z56 =>
  some (.inl ((IntKind.i64.wrap (i_31 + ((1) : Int))), (IntKind.i64.wrap (j_43 - ((1) : Int))), z56, ()))))) n_ ((IntKind.i64.wrap (a_2 + ((1) : Int))), (IntKind.i64.wrap (b_3 - ((1) : Int))), z17, ())).bind fun (i_57, data_58, _) =>
  some (data_58, i_57, ())
set_option maxHeartbeats 4000000 in
theorem le_slices_partitionEqualCmpFunc_int_mem (n_ : Nat) (a : ((List Int) × Int × Int × Int × ((Option (List Int)) × (Option (List Int)) × Unit) × Unit)) : Le (e_slices_partitionEqualCmpFunc_int_mem n_ a) (d_slices_partitionEqualCmpFunc_int_mem a) := by
  unfold e_slices_partitionEqualCmpFunc_int_mem d_slices_partitionEqualCmpFunc_int_mem
  repeat' (first | with_reducible exact Le.refl _ | with_reducible exact le_memory_Best_1q_1q_q0 _ _ | (with_reducible refine Le.bind ?_ (fun y => ?_)) | (with_reducible refine Le.bif ?_ ?_) | (with_reducible refine Le.loop (fun s => ?_) _ _) | (with_reducible refine Le.atO (fun e => ?_)) | split)
noncomputable def e_slices_partitionCmpFunc_int_mem (n_ : Nat) : ((List Int) × Int × Int × Int × ((Option (List Int)) × (Option (List Int)) × Unit) × Unit) → Option ((List Int) × Int × Bool × Unit) := fun (data_1, a_2, b_3, pivot_4, cmp_5, _) =>
  (idxN (data_1).length pivot_4).bind fun k6 =>
  ((atO data_1 k6 fun e7 => some e7)).bind fun y8 =>
  (idxN (data_1).length a_2).bind fun k9 =>
  ((atO data_1 k9 fun e10 => some e10)).bind fun y11 =>
  (idxN (data_1).length a_2).bind fun k12 =>
  ((atO data_1 k12 fun _ => some ((data_1).set k12 y8))).bind fun z14 =>
  (idxN (z14).length pivot_4).bind fun k15 =>
  ((atO z14 k15 fun _ => some ((z14).set k15 y11))).bind fun z17 =>
  (loopN (σ := (Int × (List Int) × Unit)) (ρ := (Int × (List Int) × Unit)) (fun (i_18, data_19, _) =>
  Option.bind (α := ((List Int) × Unit) ⊕ ((Int × (List Int) × Unit) ⊕ (Int × (List Int) × Unit))) (
  (bif ((decide (i_18 ≤ (IntKind.i64.wrap (b_3 - ((1) : Int))))) == true) then ((idxN (data_19).length i_18).bind fun k20 =>
  ((atO data_19 k20 fun e21 => some e21)).bind fun y22 =>
  (idxN (data_19).length a_2).bind fun k23 =>
  ((atO data_19 k23 fun e24 => some e24)).bind fun y25 =>
  (e_memory_Best_1q_1q_q0 n_ (y22, y25, cmp_5.1, cmp_5.2.1, ())).bind fun (r26, _) =>
  (bif (decide (r26 < ((0) : Int))) then (
  some (.inl (data_19, ()))) else (
  some (.inr (.inr (i_18, data_19, ())))))) else (some (.inr (.inr (i_18, data_19, ())))))) fun q => match q with
  | .inl (data_27, _) => (
  some (.inl ((IntKind.i64.wrap (i_18 + ((1) : Int))), data_27, ())))
  | .inr r => some r) n_ ((IntKind.i64.wrap (a_2 + ((1) : Int))), z17, ())).bind fun (i_28, data_29, _) =>
  (loopN (σ := (Int × (List Int) × Unit)) (ρ := (Int × (List Int) × Unit)) (fun (j_30, data_31, _) =>
  Option.bind (α := ((List Int) × Unit) ⊕ ((Int × (List Int) × Unit) ⊕ (Int × (List Int) × Unit))) (
  (bif ((decide (i_28 ≤ j_30)) == true) then ((idxN (data_31).length j_30).bind fun k32 =>
  ((atO data_31 k32 fun e33 => some e33)).bind fun y34 =>
  (idxN (data_31).length a_2).bind fun k35 =>
  ((atO data_31 k35 fun e36 => some e36)).bind fun y37 =>
  (e_memory_Best_1q_1q_q0 n_ (y34, y37, cmp_5.1, cmp_5.2.1, ())).bind fun (r38, _) =>
  (bif (!(decide (r38 < ((0) : Int)))) then (
  some (.inl (data_31, ()))) else (
  some (.inr (.inr (j_30, data_31, ())))))) else (some (.inr (.inr (j_30, data_31, ())))))) fun q => match q with
  | .inl (data_39, _) => (
  some (.inl ((IntKind.i64.wrap (j_30 - ((1) : Int))), data_39, ())))
  | .inr r => some r) n_ ((IntKind.i64.wrap (b_3 - ((1) : Int))), data_29, ())).bind fun (j_40, data_41, _) =>
  (bif (decide (i_28 > j_40)) then (
  (idxN (data_41).length a_2).bind fun k42 =>
  ((atO data_41 k42 fun e43 => some e43)).bind fun y44 =>
  (idxN (data_41).length j_40).bind fun k45 =>
  ((atO data_41 k45 fun e46 => some e46)).bind fun y47 =>
  (idxN (data_41).length j_40).bind fun k48 =>
  ((atO data_41 k48 fun _ => some ((data_41).set k48 y44))).bind fun z50 =>
  (idxN (z50).length a_2).bind fun k51 =>
  ((atO z50 k51 fun _ => some ((z50).set k51 y47))).bind fun z53 =>
  some (z53, j_40, true, ())) else (
  (idxN (data_41).length j_40).bind fun k54 =>
  ((atO data_41 k54 fun e55 => some e55)).bind fun y56 =>
  (idxN (data_41).length i_28).bind fun k57 =>
  ((atO data_41 k57 fun e58 => some e58)).bind fun y59 =>
  (idxN (data_41).length i_28).bind fun k60 =>
  ((atO data_41 k60 fun _ => some ((data_41).set k60 y56))).bind fun z62 =>
  (idxN (z62).length j_40).bind fun k63 =>
  ((atO z62 k63 fun _ => some ((z62).set k63 y59))).bind fun z65 =>
  (loopN (σ := (Int × Int × (List Int) × Unit)) (ρ := (Int × (List Int) × Unit)) (fun (i_66, j_67, data_68, _) =>
  (loopN (σ := (Int × (List Int) × Unit)) (ρ := (Int × (List Int) × Unit)) (fun (i_69, data_70, _) =>
  Option.bind (α := ((List Int) × Unit) ⊕ ((Int × (List Int) × Unit) ⊕ (Int × (List Int) × Unit))) (
  (bif ((decide (i_69 ≤ j_67)) == true) then ((idxN (data_70).length i_69).bind fun k71 =>
  ((atO data_70 k71 fun e72 => some e72)).bind fun y73 =>
  (idxN (data_70).length a_2).bind fun k74 =>
  ((atO data_70 k74 fun e75 => some e75)).bind fun y76 =>
  (e_memory_Best_1q_1q_q0 n_ (y73, y76, cmp_5.1, cmp_5.2.1, ())).bind fun (r77, _) =>
  (bif (decide (r77 < ((0) : Int))) then (
  some (.inl (data_70, ()))) else (
  some (.inr (.inr (i_69, data_70, ())))))) else (some (.inr (.inr (i_69, data_70, ())))))) fun q => match q with
  | .inl (data_78, _) => (
  some (.inl ((IntKind.i64.wrap (i_69 + ((1) : Int))), data_78, ())))
  | .inr r => some r) n_ (i_66, data_68, ())).bind fun (i_79, data_80, _) =>
  (loopN (σ := (Int × (List Int) × Unit)) (ρ := (Int × (List Int) × Unit)) (fun (j_81, data_82, _) =>
  Option.bind (α := ((List Int) × Unit) ⊕ ((Int × (List Int) × Unit) ⊕ (Int × (List Int) × Unit))) (
  (bif ((decide (i_79 ≤ j_81)) == true) then ((idxN (data_82).length j_81).bind fun k83 =>
  ((atO data_82 k83 fun e84 => some e84)).bind fun y85 =>
  (idxN (data_82).length a_2).bind fun k86 =>
  ((atO data_82 k86 fun e87 => some e87)).bind fun y88 =>
  (e_memory_Best_1q_1q_q0 n_ (y85, y88, cmp_5.1, cmp_5.2.1, ())).bind fun (r89, _) =>
  (bif (!(decide (r89 < ((0) : Int)))) then (
  some (.inl (data_82, ()))) else (
  some (.inr (.inr (j_81, data_82, ())))))) else (some (.inr (.inr (j_81, data_82, ())))))) fun q => match q with
  | .inl (data_90, _) => (
  some (.inl ((IntKind.i64.wrap (j_81 - ((1) : Int))), data_90, ())))
  | .inr r => some r) n_ (j_67, data_80, ())).bind fun (j_91, data_92, _) =>
  (bif (decide (i_79 > j_91)) then (
  some (.inr (j_91, data_92, ()))) else (
  (idxN (data_92).length j_91).bind fun k93 =>
  ((atO data_92 k93 fun e94 => some e94)).bind fun y95 =>
  (idxN (data_92).length i_79).bind fun k96 =>
  ((atO data_92 k96 fun e97 => some e97)).bind fun y98 =>
  (idxN (data_92).length i_79).bind fun k99 =>
  ((atO data_92 k99 fun _ => some ((data_92).set k99 y95))).bind fun z101 =>
  (idxN (z101).length j_91).bind fun k102 =>
  ((atO z101 k102 fun _ => some ((z101).set k102 y98))).bind fun z104 =>
  some (.inl ((IntKind.i64.wrap (i_79 + ((1) : Int))), (IntKind.i64.wrap (j_91 - ((1) : Int))), z104, ()))))) n_ ((IntKind.i64.wrap (i_28 + ((1) : Int))), (IntKind.i64.wrap (j_40 - ((1) : Int))), z65, ())).bind fun (j_105, data_106, _) =>
  (idxN (data_106).length a_2).bind fun k107 =>
  ((atO data_106 k107 fun e108 => some e108)).bind fun y109 =>
  (idxN (data_106).length j_105).bind fun k110 =>
  ((atO data_106 k110 fun e111 => some e111)).bind fun y112 =>
  (idxN (data_106).length j_105).bind fun k113 =>
  ((atO data_106 k113 fun _ => some ((data_106).set k113 y109))).bind fun z115 =>
  (idxN (z115).length a_2).bind fun k116 =>
  ((atO z115 k116 fun _ => some ((z115).set k116 y112))).bind fun z118 =>
  some (z118, j_105, false, ())))
set_option maxHeartbeats 4000000 in
theorem le_slices_partitionCmpFunc_int_mem (n_ : Nat) (a : ((List Int) × Int × Int × Int × ((Option (List Int)) × (Option (List Int)) × Unit) × Unit)) : Le (e_slices_partitionCmpFunc_int_mem n_ a) (d_slices_partitionCmpFunc_int_mem a) := by
  unfold e_slices_partitionCmpFunc_int_mem d_slices_partitionCmpFunc_int_mem
  repeat' (first | with_reducible exact Le.refl _ | with_reducible exact le_memory_Best_1q_1q_q0 _ _ | (with_reducible refine Le.bind ?_ (fun y => ?_)) | (with_reducible refine Le.bif ?_ ?_) | (with_reducible refine Le.loop (fun s => ?_) _ _) | (with_reducible refine Le.atO (fun e => ?_)) | split)
noncomputable def e_slices_pdqsortCmpFunc_int_memq_s (n_ : Nat) (f_ : ((List Int) × Int × Int × Int × ((Option (List Int)) × (Option (List Int)) × Unit) × Unit) → Option ((List Int) × Unit)) : ((List Int) × Int × Int × Int × ((Option (List Int)) × (Option (List Int)) × Unit) × Unit) → Option ((List Int) × Unit) := fun (data_1, a_2, b_3, limit_4, cmp_5, _) =>
  (loopN (σ := (Int × Int × Int × Bool × Bool × (List Int) × Unit)) (ρ := ((List Int) × Unit)) (fun (a_6, b_7, limit_8, wasBalanced_9, wasPartitioned_10, data_11, _) =>
  (bif (decide ((IntKind.i64.wrap (b_7 - a_6)) ≤ ((12) : Int))) then (
  (e_slices_insertionSortCmpFunc_int_mem n_ (data_11, a_6, b_7, (cmp_5.1, cmp_5.2.1, ()), ())).bind fun (m12, _) =>
  some (.inr (m12, ()))) else (
  (bif (limit_8 == ((0) : Int)) then (
  (e_slices_heapSortCmpFunc_int_mem n_ (data_11, a_6, b_7, (cmp_5.1, cmp_5.2.1, ()), ())).bind fun (m13, _) =>
  some (.inr (m13, ()))) else (
  Option.bind (α := (Int × (List Int) × Unit)) (
  (bif (!wasBalanced_9) then (
  (e_slices_breakPatternsCmpFunc_int_mem n_ (data_11, a_6, b_7, (cmp_5.1, cmp_5.2.1, ()), ())).bind fun (m14, _) =>
  some ((IntKind.i64.wrap (limit_8 - ((1) : Int))), m14, ())) else (
  some (limit_8, data_11, ())))) fun (limit_15, data_16, _) =>
  (e_slices_choosePivotCmpFunc_int_mem n_ (data_16, a_6, b_7, (cmp_5.1, cmp_5.2.1, ()), ())).bind fun (r17, r18, _) =>
  Option.bind (α := (Int × Int × (List Int) × Unit)) (
  (bif (r18 == ((2) : Int)) then (
  (e_slices_reverseRangeCmpFunc_int_mem n_ (data_16, a_6, b_7, (cmp_5.1, cmp_5.2.1, ()), ())).bind fun (m19, _) =>
  some ((IntKind.i64.wrap ((IntKind.i64.wrap (b_7 - ((1) : Int))) - (IntKind.i64.wrap (r17 - a_6)))), ((1) : Int), m19, ())) else (
  some (r17, r18, data_16, ())))) fun (pivot_20, hint_21, data_22, _) =>
  Option.bind (α := ((List Int) × Unit) ⊕ ((Int × Int × Int × Bool × Bool × (List Int) × Unit) ⊕ ((List Int) × Unit))) (
  Option.bind (α := (Bool × (List Int) × Unit)) (
  (bif (wasBalanced_9 == true) then ((bif (wasPartitioned_10 == true) then (some ((hint_21 == ((1) : Int)), data_22, ())) else (some (false, data_22, ())))) else (some (false, data_22, ())))) fun (s_23, data_24, _) =>
  (bif s_23 then (
  (e_slices_partialInsertionSortCmpFunc_int_mem n_ (data_24, a_6, b_7, (cmp_5.1, cmp_5.2.1, ()), ())).bind fun (m25, r26, _) =>
  (bif r26 then (
  some (.inr (.inr (m25, ())))) else (
  some (.inl (m25, ()))))) else (
  some (.inl (data_24, ()))))) fun q => match q with
  | .inl (data_27, _) => (
  Option.bind (α := (Int × (List Int) × Unit) ⊕ ((Int × Int × Int × Bool × Bool × (List Int) × Unit) ⊕ ((List Int) × Unit))) (
  Option.bind (α := (Bool × (List Int) × Unit)) (
  (bif ((decide (a_6 > ((0) : Int))) == true) then ((idxN (data_27).length (IntKind.i64.wrap (a_6 - ((1) : Int)))).bind fun k28 =>
  ((atO data_27 k28 fun e29 => some e29)).bind fun y30 =>
  (idxN (data_27).length pivot_20).bind fun k31 =>
  ((atO data_27 k31 fun e32 => some e32)).bind fun y33 =>
  (e_memory_Best_1q_1q_q0 n_ (y30, y33, cmp_5.1, cmp_5.2.1, ())).bind fun (r34, _) =>
  some ((!(decide (r34 < ((0) : Int)))), data_27, ())) else (some (false, data_27, ())))) fun (s_35, data_36, _) =>
  (bif s_35 then (
  (e_slices_partitionEqualCmpFunc_int_mem n_ (data_36, a_6, b_7, pivot_20, (cmp_5.1, cmp_5.2.1, ()), ())).bind fun (m37, r38, _) =>
  some (.inr (.inl (r38, b_7, limit_15, wasBalanced_9, wasPartitioned_10, m37, ())))) else (
  some (.inl (a_6, data_36, ()))))) fun q => match q with
  | .inl (a_39, data_40, _) => (
  (e_slices_partitionCmpFunc_int_mem n_ (data_40, a_39, b_7, pivot_20, (cmp_5.1, cmp_5.2.1, ()), ())).bind fun (m41, r42, r43, _) =>
  (quoO IntKind.i64 (IntKind.i64.wrap (b_7 - a_6)) ((8) : Int)).bind fun y44 =>
  (bif (decide ((IntKind.i64.wrap (r42 - a_39)) < (IntKind.i64.wrap (b_7 - r42)))) then (
  (f_ (m41, a_39, r42, limit_15, (cmp_5.1, cmp_5.2.1, ()), ())).bind fun (m45, _) =>
  some (.inl ((IntKind.i64.wrap (r42 + ((1) : Int))), b_7, limit_15, (decide ((IntKind.i64.wrap (r42 - a_39)) ≥ y44)), r43, m45, ()))) else (
  (f_ (m41, (IntKind.i64.wrap (r42 + ((1) : Int))), b_7, limit_15, (cmp_5.1, cmp_5.2.1, ()), ())).bind fun (m46, _) =>
  some (.inl (a_39, r42, limit_15, (decide ((IntKind.i64.wrap (b_7 - r42)) ≥ y44)), r43, m46, ())))))
  | .inr r => some r)
  | .inr r => some r))))) n_ (a_2, b_3, limit_4, true, true, data_1, ())).bind some
set_option maxHeartbeats 4000000 in
theorem le_slices_pdqsortCmpFunc_int_memq_s (n_ : Nat) (f_ fb_ : ((List Int) × Int × Int × Int × ((Option (List Int)) × (Option (List Int)) × Unit) × Unit) → Option ((List Int) × Unit)) (h_ : ∀ a, Le (f_ a) (fb_ a)) (a : ((List Int) × Int × Int × Int × ((Option (List Int)) × (Option (List Int)) × Unit) × Unit)) : Le (e_slices_pdqsortCmpFunc_int_memq_s n_ f_ a) (r_slices_pdqsortCmpFunc_int_memq_s fb_ a) := by
  unfold e_slices_pdqsortCmpFunc_int_memq_s r_slices_pdqsortCmpFunc_int_memq_s
  repeat' (first | with_reducible exact Le.refl _ | with_reducible exact le_memory_Best_1q_1q_q0 _ _ | with_reducible exact le_slices_insertionSortCmpFunc_int_mem _ _ | with_reducible exact le_slices_heapSortCmpFunc_int_mem _ _ | with_reducible exact le_slices_breakPatternsCmpFunc_int_mem _ _ | with_reducible exact le_slices_choosePivotCmpFunc_int_mem _ _ | with_reducible exact le_slices_reverseRangeCmpFunc_int_mem _ _ | with_reducible exact le_slices_partialInsertionSortCmpFunc_int_mem _ _ | with_reducible exact le_slices_partitionEqualCmpFunc_int_mem _ _ | with_reducible exact le_slices_partitionCmpFunc_int_mem _ _ | with_reducible exact h_ _ | (with_reducible refine Le.bind ?_ (fun y => ?_)) | (with_reducible refine Le.bif ?_ ?_) | (with_reducible refine Le.loop (fun s => ?_) _ _) | (with_reducible refine Le.atO (fun e => ?_)) | split)
noncomputable def e_slices_pdqsortCmpFunc_int_mem (n_ : Nat) : ((List Int) × Int × Int × Int × ((Option (List Int)) × (Option (List Int)) × Unit) × Unit) → Option ((List Int) × Unit) := deep (e_slices_pdqsortCmpFunc_int_memq_s n_) n_
theorem le_slices_pdqsortCmpFunc_int_mem (n_ : Nat) (a : ((List Int) × Int × Int × Int × ((Option (List Int)) × (Option (List Int)) × Unit) × Unit)) : Le (e_slices_pdqsortCmpFunc_int_mem n_ a) (d_slices_pdqsortCmpFunc_int_mem a) := Le.deep (le_slices_pdqsortCmpFunc_int_memq_s n_) r_slices_pdqsortCmpFunc_int_memq_mono n_ a
noncomputable def e_slices_SortFunc_int_int_mem (n_ : Nat) : ((List Int) × ((Option (List Int)) × (Option (List Int)) × Unit) × Unit) → Option ((List Int) × Unit) := fun (x_1, cmp_2, _) =>
  (e_math_bits_Len n_ ((IntKind.u64.wrap (((x_1).length : Nat) : Int)), ())).bind fun (r3, _) =>
  (e_slices_pdqsortCmpFunc_int_mem n_ (x_1, ((0) : Int), (((x_1).length : Nat) : Int), r3, (cmp_2.1, cmp_2.2.1, ()), ())).bind fun (m4, _) =>
  some (m4, ())
set_option maxHeartbeats 4000000 in
theorem le_slices_SortFunc_int_int_mem (n_ : Nat) (a : ((List Int) × ((Option (List Int)) × (Option (List Int)) × Unit) × Unit)) : Le (e_slices_SortFunc_int_int_mem n_ a) (d_slices_SortFunc_int_int_mem a) := by
  unfold e_slices_SortFunc_int_int_mem d_slices_SortFunc_int_int_mem
  repeat' (first | with_reducible exact Le.refl _ | with_reducible exact le_slices_pdqsortCmpFunc_int_mem _ _ | with_reducible exact le_math_bits_Len _ _ | (with_reducible refine Le.bind ?_ (fun y => ?_)) | (with_reducible refine Le.bif ?_ ?_) | (with_reducible refine Le.loop (fun s => ?_) _ _) | (with_reducible refine Le.atO (fun e => ?_)) | split)
noncomputable def e_memory_Best_1q_q0 (n_ : Nat) : ((List Int) × (Option (List Int)) × (Option (List Int)) × Unit) → Option ((List Int) × Unit) := fun (set_1, p_2, p_3, _) =>
  (e_slices_SortFunc_int_int_mem n_ (set_1, (p_2, p_3, ()), ())).bind fun (m4, _) =>
  some (m4, ())
set_option maxHeartbeats 4000000 in
theorem le_memory_Best_1q_q0 (n_ : Nat) (a : ((List Int) × (Option (List Int)) × (Option (List Int)) × Unit)) : Le (e_memory_Best_1q_q0 n_ a) (d_memory_Best_1q_q0 a) := by
  unfold e_memory_Best_1q_q0 d_memory_Best_1q_q0
  repeat' (first | with_reducible exact Le.refl _ | with_reducible exact le_slices_SortFunc_int_int_mem _ _ | (with_reducible refine Le.bind ?_ (fun y => ?_)) | (with_reducible refine Le.bif ?_ ?_) | (with_reducible refine Le.loop (fun s => ?_) _ _) | (with_reducible refine Le.atO (fun e => ?_)) | split)
noncomputable def e_memory_Best_2q_q0q_s (n_ : Nat) (f_ : (Int × (Option (List (List Int))) × Unit × (List Int) × Unit) → Option ((List Int) × Unit)) : (Int × (Option (List (List Int))) × Unit × (List Int) × Unit) → Option ((List Int) × Unit) := fun (i_1, p_2, _, p_4, _) =>
  (p_2).bind fun y5 =>
  (getI y5 i_1).bind fun y6 =>
  (loopN (σ := (Int × (List Int) × Unit)) (ρ := ((List Int) × Unit)) (fun (s_7, s_8, _) =>
  (bif (decide (s_7 < (((y6).length : Nat) : Int))) then (
  (getI y6 s_7).bind fun y9 =>
  (f_ (y9, p_2, (), s_8, ())).bind fun (m10, _) =>
  some (.inl ((IntKind.i64.wrap (s_7 + ((1) : Int))), m10, ()))) else (
  some (.inr (s_8, ()))))) n_ (((0) : Int), p_4, ())).bind fun (s_11, _) =>
  (limO ((s_11).length + ([i_1]).length)).bind fun _ =>
  some ((s_11 ++ [i_1]), ())
set_option maxHeartbeats 4000000 in
theorem le_memory_Best_2q_q0q_s (n_ : Nat) (f_ fb_ : (Int × (Option (List (List Int))) × Unit × (List Int) × Unit) → Option ((List Int) × Unit)) (h_ : ∀ a, Le (f_ a) (fb_ a)) (a : (Int × (Option (List (List Int))) × Unit × (List Int) × Unit)) : Le (e_memory_Best_2q_q0q_s n_ f_ a) (r_memory_Best_2q_q0q_s fb_ a) := by
  unfold e_memory_Best_2q_q0q_s r_memory_Best_2q_q0q_s
  repeat' (first | with_reducible exact Le.refl _  | with_reducible exact h_ _ | (with_reducible refine Le.bind ?_ (fun y => ?_)) | (with_reducible refine Le.bif ?_ ?_) | (with_reducible refine Le.loop (fun s => ?_) _ _) | (with_reducible refine Le.atO (fun e => ?_)) | split)
noncomputable def e_memory_Best_2q_q0 (n_ : Nat) : (Int × (Option (List (List Int))) × Unit × (List Int) × Unit) → Option ((List Int) × Unit) := deep (e_memory_Best_2q_q0q_s n_) n_
theorem le_memory_Best_2q_q0 (n_ : Nat) (a : (Int × (Option (List (List Int))) × Unit × (List Int) × Unit)) : Le (e_memory_Best_2q_q0 n_ a) (d_memory_Best_2q_q0 a) := Le.deep (le_memory_Best_2q_q0q_s n_) r_memory_Best_2q_q0q_mono n_ a
noncomputable def e_memory_Best (n_ : Nat) : ((List (Int × (Int × ((List Int) × (Int × Unit))))) × Unit) → Option (((List Int) × ((List Int) × ((List Int) × Unit))) × Int × Unit) := fun (l_1, _) =>
  (e_memory_proper n_ (l_1, ())).bind fun (r164, _) =>
  (bif (!r164) then (
  some ((([] : (List Int)), (([] : (List Int)), (([] : (List Int)), ()))), ((211) : Int), ())) else (
  (e_memory_sizes n_ (l_1, ())).bind fun (r165, r166, _) =>
  (e_memory_children n_ (l_1, ())).bind fun (r167, r168, _) =>
  (madeO (((l_1).length : Nat) : Int) (((l_1).length : Nat) : Int)).bind fun n169 =>
  (loopN (σ := (Int × ((List Int) × ((List Int) × ((List Int) × Unit))) × (List Int) × (List (List Int)) × (List Int) × (List Int) × Unit)) (ρ := (((List Int) × ((List Int) × ((List Int) × Unit))) × (List Int) × (List (List Int)) × (List Int) × (List Int) × Unit)) (fun (s_170, s_171, keep_172, kids_173, roots_174, peak_175, _) =>
  (bif (decide (s_170 < (((l_1).length : Nat) : Int))) then (
  (idxN (kids_173).length s_170).bind fun k176 =>
  ((atO kids_173 k176 fun e178 => some e178)).bind fun y179 =>
  (e_memory_Best_1q_q0 n_ (y179, (some peak_175), (some keep_172), ())).bind fun (m180, _) =>
  ((atO kids_173 k176 fun _ => some ((kids_173).set k176 m180))).bind fun z182 =>
  (idxN (z182).length s_170).bind fun k183 =>
  ((atO z182 k183 fun e185 => some e185)).bind fun xs186 =>
  (loopN (σ := (Int × Nat × Int × ((List Int) × ((List Int) × ((List Int) × Unit))) × (List Int) × (List (List Int)) × (List Int) × (List Int) × Unit)) (ρ := (Int × ((List Int) × ((List Int) × ((List Int) × Unit))) × (List Int) × (List (List Int)) × (List Int) × (List Int) × Unit)) (fun (before_187, s_188, s_189, s_190, keep_191, kids_192, roots_193, peak_194, _) =>
  (bif (decide (s_189 < (((xs186).length : Nat) : Int))) then (
  (((atO kids_192 s_188 fun e195 => some e195)).bind fun e196 => idxN (e196).length s_189).bind fun k197 =>
  ((atO kids_192 s_188 fun e198 => (atO e198 k197 fun e199 => some e199))).bind fun y200 =>
  (idxN (peak_194).length s_170).bind fun k201 =>
  ((atO peak_194 k201 fun e202 => some e202)).bind fun y203 =>
  (idxN (peak_194).length y200).bind fun k204 =>
  ((atO peak_194 k204 fun e205 => some e205)).bind fun y206 =>
  (idxN (peak_194).length s_170).bind fun k207 =>
  ((atO peak_194 k207 fun _ => some ((peak_194).set k207 (if (IntKind.i64.wrap (before_187 + y206)) > y203 then (IntKind.i64.wrap (before_187 + y206)) else y203)))).bind fun z209 =>
  (getI keep_191 y200).bind fun y210 =>
  some (.inl ((IntKind.i64.wrap (before_187 + y210)), s_188, (IntKind.i64.wrap (s_189 + ((1) : Int))), s_190, keep_191, kids_192, roots_193, z209, ()))) else (
  some (.inr (before_187, s_190, keep_191, kids_192, roots_193, peak_194, ()))))) n_ (((0) : Int), k183, ((0) : Int), s_171, keep_172, z182, roots_174, peak_175, ())).bind fun (before_211, s_212, keep_213, kids_214, roots_215, peak_216, _) =>
  (idxN (peak_216).length s_170).bind fun k217 =>
  ((atO peak_216 k217 fun e218 => some e218)).bind fun y219 =>
  (getI r165 s_170).bind fun y220 =>
  (idxN (peak_216).length s_170).bind fun k221 =>
  ((atO peak_216 k221 fun _ => some ((peak_216).set k221 (if (IntKind.i64.wrap (before_211 + y220)) > y219 then (IntKind.i64.wrap (before_211 + y220)) else y219)))).bind fun z223 =>
  some (.inl ((IntKind.i64.wrap (s_170 + ((1) : Int))), s_212, keep_213, kids_214, roots_215, z223, ()))) else (
  some (.inr (s_171, keep_172, kids_173, roots_174, peak_175, ()))))) n_ (((0) : Int), ([], ([], ([], ()))), r166, r167, r168, (List.replicate n169 (0 : Int)), ())).bind fun (s_224, keep_225, kids_226, roots_227, peak_228, _) =>
  (e_memory_Best_1q_q0 n_ (roots_227, (some peak_228), (some keep_225), ())).bind fun (m229, _) =>
  (loopN (σ := (Int × ((List Int) × ((List Int) × ((List Int) × Unit))) × (List Int) × (List (List Int)) × (List Int) × (List Int) × (List Int) × Unit)) (ρ := (((List Int) × ((List Int) × ((List Int) × Unit))) × (List Int) × (List Int) × (List Int) × Unit)) (fun (s_230, s_231, keep_232, kids_233, roots_234, peak_235, order_236, _) =>
  (bif (decide (s_230 < (((m229).length : Nat) : Int))) then (
  (idxN (roots_234).length s_230).bind fun k237 =>
  ((atO roots_234 k237 fun e238 => some e238)).bind fun y239 =>
  (e_memory_Best_2q_q0 n_ (y239, (some kids_233), (), order_236, ())).bind fun (m240, _) =>
  some (.inl ((IntKind.i64.wrap (s_230 + ((1) : Int))), s_231, keep_232, kids_233, roots_234, peak_235, m240, ()))) else (
  some (.inr (s_231, keep_232, peak_235, order_236, ()))))) n_ (((0) : Int), s_224, keep_225, kids_226, m229, peak_228, [], ())).bind fun (_, keep_242, peak_243, order_244, _) =>
  some ((order_244, (peak_243, (keep_242, ()))), ((0) : Int), ())))
set_option maxHeartbeats 4000000 in
theorem le_memory_Best (n_ : Nat) (a : ((List (Int × (Int × ((List Int) × (Int × Unit))))) × Unit)) : Le (e_memory_Best n_ a) (d_memory_Best a) := by
  unfold e_memory_Best d_memory_Best
  repeat' (first | with_reducible exact Le.refl _ | with_reducible exact le_memory_Best_1q_q0 _ _ | with_reducible exact le_memory_Best_2q_q0 _ _ | with_reducible exact le_memory_proper _ _ | with_reducible exact le_memory_sizes _ _ | with_reducible exact le_memory_children _ _ | (with_reducible refine Le.bind ?_ (fun y => ?_)) | (with_reducible refine Le.bif ?_ ?_) | (with_reducible refine Le.loop (fun s => ?_) _ _) | (with_reducible refine Le.atO (fun e => ?_)) | split)
noncomputable def e_memory_permutation (n_ : Nat) : ((List Int) × Unit) → Option (Bool × Unit) := fun (order_1, _) =>
  (madeO (((order_1).length : Nat) : Int) (((order_1).length : Nat) : Int)).bind fun n2 =>
  (loopN (σ := (Int × (List Bool) × Unit)) (ρ := (Unit ⊕ (Bool × Unit))) (fun (s_3, seen_4, _) =>
  (bif (decide (s_3 < (((order_1).length : Nat) : Int))) then (
  Option.bind (α := ((List Bool) × Unit) ⊕ ((Int × (List Bool) × Unit) ⊕ (Unit ⊕ (Bool × Unit)))) (
  (getI order_1 s_3).bind fun y5 =>
  Option.bind (α := ((List Bool) × Unit) ⊕ (((List Bool) × Unit) ⊕ ((Int × (List Bool) × Unit) ⊕ (Unit ⊕ (Bool × Unit))))) (
  (bif ((decide (y5 < ((0) : Int))) == false) then ((bif ((decide (y5 ≥ (((order_1).length : Nat) : Int))) == false) then ((idxN (seen_4).length y5).bind fun k6 =>
  ((atO seen_4 k6 fun e7 => some e7)).bind fun y8 =>
  (bif y8 then (
  some (.inr (.inr (.inr (.inr (false, ())))))) else (
  some (.inl (seen_4, ()))))) else (some (.inr (.inr (.inr (.inr (false, ())))))))) else (some (.inr (.inr (.inr (.inr (false, ())))))))) fun q => match q with
  | .inl (seen_9, _) => (
  (idxN (seen_9).length y5).bind fun k10 =>
  ((atO seen_9 k10 fun _ => some ((seen_9).set k10 true))).bind fun z12 =>
  some (.inl (z12, ())))
  | .inr r => some r) fun q => match q with
  | .inl (seen_13, _) => (
  some (.inl ((IntKind.i64.wrap (s_3 + ((1) : Int))), seen_13, ())))
  | .inr r => some r) else (
  some (.inr (.inl ()))))) n_ (((0) : Int), (List.replicate n2 false), ())).bind fun q => match q with
  | .inl _ => (
  some (true, ()))
  | .inr r => some r
set_option maxHeartbeats 4000000 in
theorem le_memory_permutation (n_ : Nat) (a : ((List Int) × Unit)) : Le (e_memory_permutation n_ a) (d_memory_permutation a) := by
  unfold e_memory_permutation d_memory_permutation
  repeat' (first | with_reducible exact Le.refl _  | (with_reducible refine Le.bind ?_ (fun y => ?_)) | (with_reducible refine Le.bif ?_ ?_) | (with_reducible refine Le.loop (fun s => ?_) _ _) | (with_reducible refine Le.atO (fun e => ?_)) | split)
noncomputable def e_memory_processing (n_ : Nat) : ((List (Int × (Int × ((List Int) × (Int × Unit))))) × (List Int) × Unit) → Option (Bool × Unit) := fun (l_1, order_2, _) =>
  (madeO (((l_1).length : Nat) : Int) (((l_1).length : Nat) : Int)).bind fun n35 =>
  (madeO (((l_1).length : Nat) : Int) (((l_1).length : Nat) : Int)).bind fun n36 =>
  (madeO (((l_1).length : Nat) : Int) (((l_1).length : Nat) : Int)).bind fun n37 =>
  (loopN (σ := (Int × (List Int) × (List Int) × (List Int) × Unit)) (ρ := ((List Int) × (List Int) × (List Int) × Unit)) (fun (s_38, count_39, first_40, at_41, _) =>
  (bif (decide (s_38 < (((order_2).length : Nat) : Int))) then (
  (getI order_2 s_38).bind fun y42 =>
  (idxN (at_41).length y42).bind fun k43 =>
  ((atO at_41 k43 fun _ => some ((at_41).set k43 s_38))).bind fun z45 =>
  some (.inl ((IntKind.i64.wrap (s_38 + ((1) : Int))), count_39, first_40, z45, ()))) else (
  some (.inr (count_39, first_40, at_41, ()))))) n_ (((0) : Int), (List.replicate n35 (0 : Int)), (List.replicate n36 (0 : Int)), (List.replicate n37 (0 : Int)), ())).bind fun (count_46, first_47, at_48, _) =>
  (loopN (σ := (Int × (List Int) × (List Int) × (List Int) × Unit)) (ρ := ((List Int) × (List Int) × (List Int) × Unit)) (fun (s_49, count_50, first_51, at_52, _) =>
  (bif (decide (s_49 < (((l_1).length : Nat) : Int))) then (
  (idxN (at_52).length s_49).bind fun k53 =>
  ((atO at_52 k53 fun e54 => some e54)).bind fun y55 =>
  (idxN (first_51).length s_49).bind fun k56 =>
  ((atO first_51 k56 fun _ => some ((first_51).set k56 y55))).bind fun z58 =>
  some (.inl ((IntKind.i64.wrap (s_49 + ((1) : Int))), count_50, z58, at_52, ()))) else (
  some (.inr (count_50, first_51, at_52, ()))))) n_ (((0) : Int), count_46, first_47, at_48, ())).bind fun (count_59, first_60, at_61, _) =>
  (loopN (σ := (Int × (List Int) × (List Int) × (List Int) × Unit)) (ρ := (((List Int) × (List Int) × (List Int) × Unit) ⊕ (Bool × Unit))) (fun (s_62, count_63, first_64, at_65, _) =>
  (bif (decide (s_62 < (((l_1).length : Nat) : Int))) then (
  Option.bind (α := ((List Int) × (List Int) × (List Int) × Unit) ⊕ ((Int × (List Int) × (List Int) × (List Int) × Unit) ⊕ (((List Int) × (List Int) × (List Int) × Unit) ⊕ (Bool × Unit)))) (
  (getI l_1 s_62).bind fun y66 =>
  (idxN (count_63).length s_62).bind fun k67 =>
  ((atO count_63 k67 fun e68 => some e68)).bind fun y69 =>
  (idxN (count_63).length s_62).bind fun k70 =>
  ((atO count_63 k70 fun _ => some ((count_63).set k70 (IntKind.i64.wrap (y69 + ((1) : Int)))))).bind fun z72 =>
  (bif (decide (y66.2.2.2.1 ≥ ((0) : Int))) then (
  (idxN (at_65).length y66.2.2.2.1).bind fun k73 =>
  ((atO at_65 k73 fun e74 => some e74)).bind fun y75 =>
  (idxN (at_65).length s_62).bind fun k76 =>
  ((atO at_65 k76 fun e77 => some e77)).bind fun y78 =>
  (bif (decide (y75 < y78)) then (
  some (.inr (.inr (.inr (false, ()))))) else (
  (idxN (z72).length y66.2.2.2.1).bind fun k79 =>
  ((atO z72 k79 fun e80 => some e80)).bind fun y81 =>
  (idxN (z72).length s_62).bind fun k82 =>
  ((atO z72 k82 fun e83 => some e83)).bind fun y84 =>
  (idxN (z72).length y66.2.2.2.1).bind fun k85 =>
  ((atO z72 k85 fun _ => some ((z72).set k85 (IntKind.i64.wrap (y81 + y84))))).bind fun z87 =>
  (idxN (first_64).length y66.2.2.2.1).bind fun k88 =>
  ((atO first_64 k88 fun e89 => some e89)).bind fun y90 =>
  (idxN (first_64).length s_62).bind fun k91 =>
  ((atO first_64 k91 fun e92 => some e92)).bind fun y93 =>
  (idxN (first_64).length y66.2.2.2.1).bind fun k94 =>
  ((atO first_64 k94 fun _ => some ((first_64).set k94 (if y93 < y90 then y93 else y90)))).bind fun z96 =>
  some (.inl (z87, z96, at_65, ()))))) else (
  some (.inl (z72, first_64, at_65, ()))))) fun q => match q with
  | .inl (count_97, first_98, at_99, _) => (
  some (.inl ((IntKind.i64.wrap (s_62 + ((1) : Int))), count_97, first_98, at_99, ())))
  | .inr r => some r) else (
  some (.inr (.inl (count_63, first_64, at_65, ())))))) n_ (((0) : Int), count_59, first_60, at_61, ())).bind fun q => match q with
  | .inl (count_100, first_101, at_102, _) => (
  (loopN (σ := (Int × (List Int) × (List Int) × (List Int) × Unit)) (ρ := (Unit ⊕ (Bool × Unit))) (fun (s_103, count_104, first_105, at_106, _) =>
  (bif (decide (s_103 < (((l_1).length : Nat) : Int))) then (
  (idxN (at_106).length s_103).bind fun k107 =>
  ((atO at_106 k107 fun e108 => some e108)).bind fun y109 =>
  (idxN (first_105).length s_103).bind fun k110 =>
  ((atO first_105 k110 fun e111 => some e111)).bind fun y112 =>
  (idxN (count_104).length s_103).bind fun k113 =>
  ((atO count_104 k113 fun e114 => some e114)).bind fun y115 =>
  (bif ((IntKind.i64.wrap ((IntKind.i64.wrap (y109 - y112)) + ((1) : Int))) != y115) then (
  some (.inr (.inr (false, ())))) else (
  some (.inl ((IntKind.i64.wrap (s_103 + ((1) : Int))), count_104, first_105, at_106, ()))))) else (
  some (.inr (.inl ()))))) n_ (((0) : Int), count_100, first_101, at_102, ())).bind fun q => match q with
  | .inl _ => (
  some (true, ()))
  | .inr r => some r)
  | .inr r => some r
set_option maxHeartbeats 4000000 in
theorem le_memory_processing (n_ : Nat) (a : ((List (Int × (Int × ((List Int) × (Int × Unit))))) × (List Int) × Unit)) : Le (e_memory_processing n_ a) (d_memory_processing a) := by
  unfold e_memory_processing d_memory_processing
  repeat' (first | with_reducible exact Le.refl _  | (with_reducible refine Le.bind ?_ (fun y => ?_)) | (with_reducible refine Le.bif ?_ ?_) | (with_reducible refine Le.loop (fun s => ?_) _ _) | (with_reducible refine Le.atO (fun e => ?_)) | split)
noncomputable def e_memory_Simulate (n_ : Nat) : ((List (Int × (Int × ((List Int) × (Int × Unit))))) × (List Int) × Unit) → Option (Int × Int × Unit) := fun (l_1, order_2, _) =>
  (e_memory_proper n_ (l_1, ())).bind fun (r3, _) =>
  (bif (!r3) then (
  some (((0) : Int), ((211) : Int), ())) else (
  (bif ((((order_2).length : Nat) : Int) != (((l_1).length : Nat) : Int)) then (
  some (((0) : Int), ((2) : Int), ())) else (
  (e_memory_permutation n_ (order_2, ())).bind fun (r4, _) =>
  (bif (!r4) then (
  some (((0) : Int), ((90) : Int), ())) else (
  (e_memory_processing n_ (l_1, order_2, ())).bind fun (r5, _) =>
  (bif (!r5) then (
  some (((0) : Int), ((210) : Int), ())) else (
  (e_memory_sizes n_ (l_1, ())).bind fun (r6, r7, _) =>
  (e_memory_children n_ (l_1, ())).bind fun (r8, _, _) =>
  (loopN (σ := (Int × Int × Int × Unit)) (ρ := (Int × Unit)) (fun (stack_10, peak_11, s_12, _) =>
  (bif (decide (s_12 < (((order_2).length : Nat) : Int))) then (
  (getI order_2 s_12).bind fun y13 =>
  (getI r6 y13).bind fun y14 =>
  (getI r8 y13).bind fun y15 =>
  (loopN (σ := (Int × Int × Unit)) (ρ := (Int × Unit)) (fun (stack_16, s_17, _) =>
  (bif (decide (s_17 < (((y15).length : Nat) : Int))) then (
  (getI y15 s_17).bind fun y18 =>
  (getI r7 y18).bind fun y19 =>
  some (.inl ((IntKind.i64.wrap (stack_16 - y19)), (IntKind.i64.wrap (s_17 + ((1) : Int))), ()))) else (
  some (.inr (stack_16, ()))))) n_ (stack_10, ((0) : Int), ())).bind fun (stack_20, _) =>
  (getI r7 y13).bind fun y21 =>
  some (.inl ((IntKind.i64.wrap (stack_20 + y21)), (if (IntKind.i64.wrap (stack_10 + y14)) > peak_11 then (IntKind.i64.wrap (stack_10 + y14)) else peak_11), (IntKind.i64.wrap (s_12 + ((1) : Int))), ()))) else (
  some (.inr (peak_11, ()))))) n_ (((0) : Int), ((0) : Int), ((0) : Int), ())).bind fun (peak_22, _) =>
  some (peak_22, ((0) : Int), ())))))))))
set_option maxHeartbeats 4000000 in
theorem le_memory_Simulate (n_ : Nat) (a : ((List (Int × (Int × ((List Int) × (Int × Unit))))) × (List Int) × Unit)) : Le (e_memory_Simulate n_ a) (d_memory_Simulate a) := by
  unfold e_memory_Simulate d_memory_Simulate
  repeat' (first | with_reducible exact Le.refl _ | with_reducible exact le_memory_proper _ _ | with_reducible exact le_memory_permutation _ _ | with_reducible exact le_memory_processing _ _ | with_reducible exact le_memory_sizes _ _ | with_reducible exact le_memory_children _ _ | (with_reducible refine Le.bind ?_ (fun y => ?_)) | (with_reducible refine Le.bif ?_ ?_) | (with_reducible refine Le.loop (fun s => ?_) _ _) | (with_reducible refine Le.atO (fun e => ?_)) | split)
noncomputable def e_sparselaw22q_awake (n_ : Nat) : Unit → Option (Bool × Unit) := fun _ =>
  (e_memory_Best n_ ([(((0) : Int), (((1) : Int), ([((0) : Int), ((1) : Int), ((2) : Int)], (((2) : Int), ())))), (((1) : Int), (((2) : Int), ([((1) : Int), ((2) : Int)], (((2) : Int), ())))), (((2) : Int), (((4) : Int), ([((2) : Int), ((3) : Int)], ((-1 : Int), ()))))], ())).bind fun (r1, r2, _) =>
  (e_memory_Simulate n_ ([(((0) : Int), (((1) : Int), ([((0) : Int), ((1) : Int), ((2) : Int)], (((2) : Int), ())))), (((1) : Int), (((2) : Int), ([((1) : Int), ((2) : Int)], (((2) : Int), ())))), (((2) : Int), (((4) : Int), ([((2) : Int), ((3) : Int)], ((-1 : Int), ()))))], [((1) : Int), ((0) : Int), ((2) : Int)], ())).bind fun (r3, r4, _) =>
  (bif ((r2 == ((0) : Int)) == true) then ((bif ((r4 == ((0) : Int)) == true) then ((e_sparsekit_Ints n_ (r1.1, [((0) : Int), ((1) : Int), ((2) : Int)], ())).bind fun (r5, _) =>
  (bif (r5 == true) then ((bif (((((r1.2.1).length : Nat) : Int) == ((3) : Int)) == true) then ((getI r1.2.1 ((2) : Int)).bind fun y6 =>
  (bif ((y6 == ((7) : Int)) == true) then (some ((r3 == ((7) : Int)), ())) else (some (false, ())))) else (some (false, ())))) else (some (false, ())))) else (some (false, ())))) else (some (false, ())))
set_option maxHeartbeats 4000000 in
theorem le_sparselaw22q_awake (n_ : Nat) (a : Unit) : Le (e_sparselaw22q_awake n_ a) (d_sparselaw22q_awake a) := by
  unfold e_sparselaw22q_awake d_sparselaw22q_awake
  repeat' (first | with_reducible exact Le.refl _ | with_reducible exact le_memory_Simulate _ _ | with_reducible exact le_memory_Best _ _ | with_reducible exact le_sparsekit_Ints _ _ | (with_reducible refine Le.bind ?_ (fun y => ?_)) | (with_reducible refine Le.bif ?_ ?_) | (with_reducible refine Le.loop (fun s => ?_) _ _) | (with_reducible refine Le.atO (fun e => ?_)) | split)
theorem awake22 : d_sparselaw22q_awake () = some (true, ()) := le_sparselaw22q_awake 20 () _ (by decide +kernel)
end Go.Fw
end

section
namespace Go.Fw
set_option linter.unusedSimpArgs false
set_option linter.unusedVariables false
open Go
def InR (x : FrT) : Prop := (-9223372036854775808 ≤ x.1 ∧ x.1 ≤ 9223372036854775807) ∧ (-9223372036854775808 ≤ x.2.1 ∧ x.2.1 ≤ 9223372036854775807)
def PrpI (n i : Nat) (x : FrT) : Prop := x.2.2.1.length ≤ 200 ∧ x.1 < x.2.1 ∧ x.2.1 - x.1 ≤ (x.2.2.1.length : Int) ∧ (x.2.2.2.1 = -1 ∨ ((i : Int) < x.2.2.2.1 ∧ x.2.2.2.1 < (n : Int)))
def Prp (l : List FrT) : Prop := l.length ≤ 200 ∧ ∀ i, (h : i < l.length) → PrpI l.length i l[i]
section
variable {l : List FrT} (hr : ∀ x ∈ l, InR x) (hc : ∀ x ∈ l, x.2.2.1.length < 4611686018427387904)
include hr hc
open Classical in
theorem proper_eq : d_memory_proper (l, ()) = some (decide (Prp l), ()) := by
  unfold d_memory_proper
  simp only [cond_dec]
  by_cases hl : ((l.length : Nat) : Int) > 200
  · rw [if_pos hl, decF (fun h : Prp l => by have := h.1; omega)]
  rw [if_neg hl, ← Ok.eq_iff]
  refine Ok.bind_of (P := fun q => match q with | .inl _ => Prp l | .inr r => r = (false, ()) ∧ ¬ Prp l) ?_ ?_
  · refine Ok.for l.length (fun i _ => ∀ j, (h : j < l.length) → j < i → PrpI l.length j l[j]) (i0 := 0) rfl (fun j _ h => by omega) (Nat.zero_le _) ?_ ?_
    · rintro i ⟨⟩ _ hi hI
      have hg : getI l (i : Int) = some l[i] := getN_some (List.getElem?_eq_getElem hi)
      obtain ⟨⟨r1, r2⟩, r3, r4⟩ := hr _ (List.getElem_mem hi)
      have hcl := hc _ (List.getElem_mem hi)
      generalize hx : l[i] = x at *
      have bad : ¬ PrpI l.length i x → ¬ Prp l := fun h hp => h (hx ▸ hp.2 i hi)
      simp (disch := omega) only [if_pos, hg, Option.bind_some, cond_dec_beqF, cond_dec_beq, bneI, wrap_inc]
      by_cases c1 : ((x.2.2.1.length : Nat) : Int) > 200
      · rw [if_pos c1]; exact Ok.some_iff.2 ⟨rfl, bad fun h => by have := h.1; omega⟩
      rw [if_neg c1]
      by_cases c2 : x.2.1 ≤ x.1
      · rw [if_pos c2]; exact Ok.some_iff.2 ⟨rfl, bad fun h => by have := h.2.1; omega⟩
      rw [if_neg c2]
      by_cases c3 : IntKind.i64.wrap (x.2.1 - x.1) < 1
      · rw [if_pos c3]
        refine Ok.some_iff.2 ⟨rfl, bad fun h => ?_⟩
        have h3 := h.2.2.1
        rw [wrap64 (by omega) (by omega)] at c3
        omega
      rw [if_neg c3]
      by_cases c4 : IntKind.i64.wrap (x.2.1 - x.1) > ((x.2.2.1.length : Nat) : Int)
      · rw [if_pos c4]
        refine Ok.some_iff.2 ⟨rfl, bad fun h => ?_⟩
        have h3 := h.2.2.1
        rw [wrap64 (by omega) (by omega)] at c4
        omega
      rw [if_neg c4]
      have hd : x.2.1 - x.1 ≤ (x.2.2.1.length : Int) := by
        rw [wrap64q_eq] at c3 c4
        split at c3 <;> split at c4 <;> omega
      simp only [Option.bind_some]
      by_cases c5 : x.2.2.2.1 = -1
      · rw [decT c5]
        refine Ok.some_iff.2 ⟨rfl, fun j hj hji => ?_⟩
        by_cases e : j = i
        · subst e; rw [hx]; exact ⟨by omega, by omega, hd, .inl c5⟩
        · exact hI j hj (by omega)
      rw [decF c5]
      simp only [Bool.not_false, beq_self_eq_true, cond_true]
      by_cases c6 : x.2.2.2.1 ≤ (i : Int)
      · rw [if_pos c6]
        exact Ok.some_iff.2 ⟨rfl, bad fun h => by have := h.2.2.2; omega⟩
      rw [if_neg c6]
      by_cases c7 : x.2.2.2.1 ≥ ((l.length : Nat) : Int)
      · rw [if_pos c7]
        exact Ok.some_iff.2 ⟨rfl, bad fun h => by have := h.2.2.2; omega⟩
      rw [if_neg c7]
      refine Ok.some_iff.2 ⟨rfl, fun j hj hji => ?_⟩
      by_cases e : j = i
      · subst e; rw [hx]; exact ⟨by omega, by omega, hd, .inr ⟨by omega, by omega⟩⟩
      · exact hI j hj (by omega)
    · rintro ⟨⟩ hI
      simp (disch := omega) only [if_neg]
      exact Ok.some_iff.2 ⟨by omega, fun i hi => hI i hi hi⟩
  · rintro (q | q) hq
    · exact Ok.some_iff.2 (by rw [decT (show Prp l from hq)])
    · exact Ok.some_iff.2 (by rw [hq.1, decF hq.2])
end
def tri (n : Nat) : Nat := n * (n + 1) / 2
theorem tri_le {n : Nat} (h : n ≤ 200) : tri n ≤ 20100 := by
  unfold tri
  have : n * (n + 1) ≤ 200 * 201 := Nat.mul_le_mul h (by omega)
  omega
theorem tri_quo {n : Nat} (h : n ≤ 200) : quoO IntKind.i64 (IntKind.i64.wrap ((n : Int) * (IntKind.i64.wrap ((n : Int) + 1)))) 2 = some (tri n : Int) := by
  have hm : n * (n + 1) ≤ 200 * 201 := Nat.mul_le_mul h (by omega)
  have ht := tri_le h
  rw [wrap_inc (by omega), ← Int.natCast_mul, wrapN (by omega)]
  unfold quoO
  rw [if_pos (by omega)]
  have : ((n * (n + 1) : Nat) : Int).tdiv 2 = ((tri n : Nat) : Int) := rfl
  rw [this, wrapN (by omega)]
theorem triangle_eq {n : Nat} (h : n ≤ 200) : d_memory_triangle ((n : Int), ()) = some ((tri n : Int), ()) := by
  unfold d_memory_triangle
  simp only [tri_quo h, Option.bind_some]
def rwN (l : List FrT) (i : Nat) : Nat := match l[i]? with | some x => x.2.2.1.length | none => 0
def kpN (l : List FrT) (i : Nat) : Nat := match l[i]? with | some x => ((x.2.2.1.length : Int) - (x.2.1 - x.1)).toNat | none => 0
def prL (l : List FrT) (i : Nat) : Int := match l[i]? with | some x => x.2.2.2.1 | none => -1
def frE (l : List FrT) (i : Nat) : Nat := tri (rwN l i)
def kpE (l : List FrT) (i : Nat) : Nat := tri (kpN l i)
section
variable {l : List FrT} (hp : Prp l)
include hp
theorem Prp.at {i : Nat} (hi : i < l.length) : rwN l i ≤ 200 ∧ kpN l i < rwN l i ∧ l[i].2.2.1.length = rwN l i ∧ (l[i].2.2.1.length : Int) - (l[i].2.1 - l[i].1) = (kpN l i : Int) ∧ l[i].2.2.2.1 = prL l i := by
  obtain ⟨h1, h2, h3, h4⟩ := hp.2 i hi
  have e1 : rwN l i = l[i].2.2.1.length := by simp [rwN, hi]
  have e2 : kpN l i = ((l[i].2.2.1.length : Int) - (l[i].2.1 - l[i].1)).toNat := by simp [kpN, hi]
  have e3 : prL l i = l[i].2.2.2.1 := by simp [prL, hi]
  refine ⟨by omega, by omega, e1.symm, by omega, e3.symm⟩
theorem prL_pf : PF l.length (prL l) := fun i hi => by
  have := (hp.2 i hi).2.2.2
  rw [(hp.at hi).2.2.2.2] at this
  exact this
theorem frE_le (i : Nat) : frE l i ≤ 20100 := by
  unfold frE
  by_cases hi : i < l.length
  · exact tri_le (hp.at hi).1
  · have : rwN l i = 0 := by unfold rwN; rw [List.getElem?_eq_none (by omega)]
    rw [this]; decide
theorem kpE_le (i : Nat) : kpE l i ≤ 20100 := by
  unfold kpE
  by_cases hi : i < l.length
  · exact tri_le (by have := hp.at hi; omega)
  · have : kpN l i = 0 := by unfold kpN; rw [List.getElem?_eq_none (by omega)]
    rw [this]; decide
theorem sizes_eq (hr : ∀ x ∈ l, InR x) : d_memory_sizes (l, ()) = some (fT l.length (fun i => (frE l i : Int)), fT l.length (fun i => (kpE l i : Int)), ()) := by
  have hn := hp.1
  unfold d_memory_sizes
  refine bindR (fT l.length (fun i => (frE l i : Int)), fT l.length (fun i => (kpE l i : Int)), ()) rfl (loop_for l.length (fun k => (fT k (fun i => (frE l i : Int)), fT k (fun i => (kpE l i : Int)), ())) 0 rfl rfl (Nat.zero_le _) ?_ ?_)
  · intro k _ hk
    have hg : getI l (k : Int) = some l[k] := getN_some (List.getElem?_eq_getElem hk)
    obtain ⟨a1, a2, a3, a4, a5⟩ := hp.at hk
    obtain ⟨⟨r1, r2⟩, r3, r4⟩ := hr _ (List.getElem_mem hk)
    have h1 := (hp.2 k hk).2.1
    have e1 : IntKind.i64.wrap (((l[k].2.2.1.length : Nat) : Int) - IntKind.i64.wrap (l[k].2.1 - l[k].1)) = ((kpN l k : Nat) : Int) := by
      rw [wrap64 (x := l[k].2.1 - l[k].1) (by omega) (by omega), a4]
      exact wrapN (by omega)
    simp (disch := first | omega | (simp [fT_length]; omega)) only [cond_dec, if_pos, hg, Option.bind_some, e1, triangle_eq, limO_ok, wrap_inc, fT_succ]
    rw [a3]
    rfl
  · simp (disch := omega) only [cond_dec, if_neg]
theorem children_eq : d_memory_children (l, ()) = some (fT l.length (kidsV (prL l) l.length), rootsV (prL l) l.length, ()) := by
  have hn := hp.1
  unfold d_memory_children
  simp (disch := omega) only [madeO_ok, Option.bind_some, fT_replicate]
  refine bindR (fT l.length (kidsV (prL l) l.length), rootsV (prL l) l.length, ()) rfl (loop_for l.length (fun k => (fT l.length (kidsV (prL l) k), rootsV (prL l) k, ())) 0 rfl rfl (Nat.zero_le _) ?_ ?_)
  · intro k _ hk
    have hg : getI l (k : Int) = some l[k] := getN_some (List.getElem?_eq_getElem hk)
    have a5 := (hp.at hk).2.2.2.2
    have hpf := prL_pf hp k hk
    have hrl := rootsV_length (prL l) k
    simp (disch := omega) only [cond_dec, if_pos, hg, Option.bind_some, a5, rootsV_succ]
    rcases hpf with h | ⟨h1, h2⟩
    · rw [if_pos (by omega)]
      simp (disch := first | omega | (simp; omega)) only [limO_ok, Option.bind_some, wrap_inc]
      rw [if_pos h]
      refine congrArg (fun a => some (Sum.inl (((k + 1 : Nat) : Int), a, rootsV (prL l) k ++ [(k : Int)], ()))) (fT_congr fun v hv => ?_)
      rw [kidsV_succ, if_neg (by omega), List.append_nil]
    · obtain ⟨p, hpp⟩ : ∃ p : Nat, prL l k = (p : Int) := ⟨(prL l k).toNat, by omega⟩
      have hkl := kidsV_length (prL l) k p
      rw [if_neg (by omega), hpp]
      have hpl : p < l.length := by omega
      simp (disch := first | omega | (simp; omega)) only [fT_length, idxN_nat, Option.bind_some, atO_fT, limO_ok, fT_set, wrap_inc, Nat.beq_refl, Bool.and_true, cond_true]
      rw [if_neg (by omega), List.append_nil]
      refine congrArg (fun a => some (Sum.inl (((k + 1 : Nat) : Int), a, rootsV (prL l) k, ()))) (fT_congr fun v hv => ?_)
      rw [kidsV_succ]
      unfold upd
      by_cases e : v = p
      · subst e; rw [if_pos rfl, if_pos hpp]
      · rw [if_neg e, if_neg (by omega), List.append_nil]
  · simp (disch := omega) only [cond_dec, if_neg]
end
end Go.Fw
end

section
namespace Go.Fw
set_option linter.unusedSimpArgs false
set_option linter.unusedVariables false
open Go
def liu (K : Nat → Int) (a b : Nat) : Prop := K b < K a ∨ (K a = K b ∧ a < b)
theorem liu.asym {K : Nat → Int} (a b : Nat) (h : liu K a b) : ¬ liu K b a := by
  unfold liu at *; omega
structure IsSrt (n : Nat) (f : Nat → Int) (K : Nat → Int) (p : Int) (s : List Nat) : Prop where
  srt : s.Pairwise (liu K)
  mem : ∀ x, x ∈ s ↔ x < n ∧ f x = p
theorem IsSrt.uniq {n : Nat} {f K : Nat → Int} {p : Int} {s t : List Nat} (h : IsSrt n f K p s) (h' : IsSrt n f K p t) : s = t := pw_ext liu.asym h.srt h'.srt fun x => by rw [h.mem, h'.mem]
theorem IsSrt.nodup {n : Nat} {f K : Nat → Int} {p : Int} {s : List Nat} (h : IsSrt n f K p s) : s.Nodup := List.nodup_iff_pairwise_ne.2 (h.srt.imp fun h e => by subst e; exact liu.asym _ _ h h)
theorem IsSrt.len {n : Nat} {f K : Nat → Int} {p : Int} {s : List Nat} (h : IsSrt n f K p s) : s.length ≤ n := nodup_le h.nodup fun x hx => ((h.mem x).1 hx).1
open Classical in
noncomputable def srtK (n : Nat) (f K : Nat → Int) (p : Int) : List Nat := if h : ∃ s, IsSrt n f K p s then h.choose else []
theorem IsSrt.eq {n : Nat} {f K : Nat → Int} {p : Int} {s : List Nat} (h : IsSrt n f K p s) : srtK n f K p = s := by
  unfold srtK
  rw [dif_pos ⟨s, h⟩]
  exact (Exists.choose_spec (p := fun s => IsSrt n f K p s) ⟨s, h⟩).uniq h
theorem get_mid {A : List Nat} {X : Int} {B : List Int} : (natL A ++ X :: B)[A.length]? = some X := by
  rw [List.getElem?_append_right (by rw [natL_length]; omega), natL_length, Nat.sub_self]; rfl
theorem set_mid {A : List Nat} {X Y : Int} {B : List Int} : (natL A ++ X :: B).set A.length Y = natL A ++ Y :: B := by
  rw [List.set_append_right _ _ (by rw [natL_length]; omega), natL_length, Nat.sub_self]; rfl
theorem get_prev {A : List Nat} {y : Nat} {B : List Int} : (natL (A ++ [y]) ++ B)[A.length]? = some (y : Int) := by
  rw [natL_append, List.append_assoc]
  exact get_mid (A := A) (X := (y : Int)) (B := B)
theorem IsSrt.put {n : Nat} {f K : Nat → Int} {p : Int} {A B : List Nat} {c : Nat} (hs : (A ++ B).Pairwise (liu K)) (hm : ∀ x, x ∈ A ++ B ↔ x < c ∧ f x = p) (hc : f c = p)
    (hB : ∀ y ∈ B, K y < K c) (hA : ∀ A' y, A = A' ++ [y] → ¬ K y < K c) : (A ++ c :: B).Pairwise (liu K) ∧ ∀ x, x ∈ A ++ c :: B ↔ x < c + 1 ∧ f x = p := by
  have hlt : ∀ x ∈ A ++ B, x < c := fun x hx => ((hm x).1 hx).1
  have hAc : ∀ a ∈ A, liu K a c := by
    intro a ha
    rcases List.eq_nil_or_concat A with h | ⟨A', y, h⟩
    · subst h; cases ha
    · rw [List.concat_eq_append] at h
      have h1 := hA A' y h
      have hac := hlt a (List.mem_append_left _ ha)
      subst h
      rcases List.mem_append.1 ha with h2 | h2
      · have h3 := (List.pairwise_append.1 (List.pairwise_append.1 hs).1).2.2 a h2 y (List.mem_singleton_self y)
        unfold liu at *; omega
      · rw [List.mem_singleton] at h2
        subst h2
        unfold liu; omega
  obtain ⟨p1, p2, p3⟩ := List.pairwise_append.1 hs
  refine ⟨List.pairwise_append.2 ⟨p1, List.pairwise_cons.2 ⟨fun y hy => .inl (hB y hy), p2⟩, fun a ha b hb => ?_⟩, fun x => ?_⟩
  · rcases List.mem_cons.1 hb with rfl | hb
    · exact hAc a ha
    · exact p3 a ha b hb
  · have hmx := hm x
    rw [List.mem_append] at hmx
    rw [List.mem_append, List.mem_cons]
    constructor
    · rintro (h | rfl | h)
      · have := hmx.1 (.inl h); exact ⟨by omega, this.2⟩
      · exact ⟨by omega, hc⟩
      · have := hmx.1 (.inr h); exact ⟨by omega, this.2⟩
    · rintro ⟨h1, h2⟩
      rcases Nat.lt_or_ge x c with h3 | h3
      · rcases hmx.2 ⟨h3, h2⟩ with h | h
        · exact .inl h
        · exact .inr (.inr h)
      · obtain rfl : x = c := by omega
        exact .inr (.inl rfl)
section
variable {l : List FrT} (hp : Prp l)
include hp
theorem refSorted_eq (p : Int) (pk kp : Nat → Int) (hpk : ∀ v, -1000000000000 ≤ pk v ∧ pk v ≤ 1000000000000) (hkp : ∀ v, -1000000000000 ≤ kp v ∧ kp v ≤ 1000000000000) :
    ∃ s, IsSrt l.length (prL l) (fun v => pk v - kp v) p s ∧ d_sparseref22q_sorted (l, p, fT l.length pk, fT l.length kp, ()) = some (natL s, ()) := by
  have hn := hp.1
  have key : Ok (d_sparseref22q_sorted (l, p, fT l.length pk, fT l.length kp, ())) (fun r => ∃ s, IsSrt l.length (prL l) (fun v => pk v - kp v) p s ∧ r = (natL s, ())) := by
    unfold d_sparseref22q_sorted
    refine Ok.bind_of (P := fun r => ∃ s, IsSrt l.length (prL l) (fun v => pk v - kp v) p s ∧ r = (natL s, ())) ?_ (fun r hr => Ok.some_iff.2 hr)
    refine Ok.for l.length (fun c t => ∃ s : List Nat, t = (natL s, ()) ∧ s.Pairwise (liu fun v => pk v - kp v) ∧ ∀ x, x ∈ s ↔ x < c ∧ prL l x = p) (i0 := 0) rfl ⟨[], rfl, by simp, fun x => by simp⟩ (Nat.zero_le _) ?_ ?_
    · rintro c _ _ hc ⟨s, rfl, hs1, hs2⟩
      have hg : getI l (c : Int) = some l[c] := getN_some (List.getElem?_eq_getElem hc)
      have hpar := (hp.at hc).2.2.2.2
      have hsl : s.length ≤ c := nodup_le (List.nodup_iff_pairwise_ne.2 (hs1.imp fun h e => by subst e; exact liu.asym _ _ h h)) fun x hx => ((hs2 x).1 hx).1
      have hgk : ∀ {g : Nat → Int} {v : Nat}, v < l.length → getI (fT l.length g) (v : Int) = some (g v) := fun h => getN_some (fT_get h)
      have hw : ∀ v, IntKind.i64.wrap (pk v - kp v) = pk v - kp v := fun v => by
        have := hpk v; have := hkp v; rw [wrap64] <;> omega
      simp (disch := omega) only [cond_dec, if_pos, hg, Option.bind_some, hpar, bneI]
      by_cases hpp : prL l c = p
      · rw [decT hpp]
        simp (disch := first | omega | (simp [natL_length]; omega)) only [Bool.not_true, cond_false, limO_ok, Option.bind_some]
        refine Ok.bind_of (P := fun r => ∃ A B : List Nat, r = (natL (A ++ c :: B), ()) ∧ s = A ++ B ∧ (∀ y ∈ B, pk y - kp y < pk c - kp c) ∧ ∀ A' y, A = A' ++ [y] → ¬ pk y - kp y < pk c - kp c) ?_ ?_
        · refine Ok.bind_of (P := fun r => ∃ (A B : List Nat) (X : Int), r = ((A.length : Int), natL A ++ X :: natL B, ()) ∧ s = A ++ B ∧ (∀ y ∈ B, pk y - kp y < pk c - kp c) ∧ ∀ A' y, A = A' ++ [y] → ¬ pk y - kp y < pk c - kp c) ?_ ?_
          · refine Ok.loop (fun t => ∃ (A B : List Nat) (X : Int), t = ((A.length : Int), natL A ++ X :: natL B, ()) ∧ s = A ++ B ∧ ∀ y ∈ B, pk y - kp y < pk c - kp c) (fun t => t.1.toNat) ⟨s, [], (c : Int), by rw [natL_length]; rfl, by simp, by simp⟩ ?_
            rintro _ ⟨A, B, X, rfl, hAB, hB⟩
            simp only [cond_dec_beq]
            rcases List.eq_nil_or_concat A with h | ⟨A', y, h⟩
            · subst h
              rw [if_neg (by simp)]
              exact Ok.some_iff.2 ⟨[], B, X, rfl, hAB, hB, fun A' y h => by simp at h⟩
            · rw [List.concat_eq_append] at h
              subst h
              have hyl : y < l.length := by
                have := (hs2 y).1 (by rw [hAB]; simp); omega
              have hla : (A' ++ [y]).length = A'.length + 1 := by simp
              rw [if_pos (by rw [hla]; omega)]
              have hlen : (natL (A' ++ [y]) ++ X :: natL B).length = A'.length + 1 + 1 + B.length := by simp [natL_length]; omega
              have hAl : A'.length ≤ 200 := by
                have : s.length = A'.length + 1 + B.length := by rw [hAB]; simp; omega
                omega
              have hBl : B.length ≤ 200 := by
                have : s.length = A'.length + 1 + B.length := by rw [hAB]; simp; omega
                omega
              simp (disch := omega) only [hla, hlen, wrap_pred, Nat.add_sub_cancel, idxN_nat, Option.bind_some, atO_some (get_prev (A := A') (y := y)), hgk hyl, hgk hc, hw, cond_dec]
              by_cases hk : pk y - kp y < pk c - kp c
              · rw [if_pos hk]
                simp (disch := omega) only [hla, hlen, wrap_pred, Nat.add_sub_cancel, idxN_nat, Option.bind_some, atO_some (get_prev (A := A') (y := y))]
                have e1 : (natL (A' ++ [y]) ++ X :: natL B)[A'.length + 1]? = some X := by rw [← hla]; exact get_mid
                have e2 : (natL (A' ++ [y]) ++ X :: natL B).set (A'.length + 1) (y : Int) = natL A' ++ (y : Int) :: natL (y :: B) := by
                  rw [← hla, set_mid, natL_append, List.append_assoc]; rfl
                simp only [atO_some e1, Option.bind_some, e2]
                refine Ok.some_iff.2 ⟨⟨A', y :: B, (y : Int), rfl, by rw [hAB]; simp, fun z hz => ?_⟩, by simp only [Int.toNat_natCast]; omega⟩
                rcases List.mem_cons.1 hz with rfl | hz
                · exact hk
                · exact hB z hz
              · rw [if_neg hk]
                simp only [Option.bind_some]
                refine Ok.some_iff.2 ⟨A' ++ [y], B, X, by rw [hla], hAB, hB, fun A2 y2 h => ?_⟩
                obtain ⟨h1, h2⟩ := List.append_inj' h rfl
                simp only [List.cons.injEq, and_true] at h2
                subst h2
                exact hk
          · rintro _ ⟨A, B, X, rfl, hAB, hB, hA⟩
            have hlen : (natL A ++ X :: natL B).length = A.length + 1 + B.length := by simp [natL_length]; omega
            simp (disch := omega) only [hlen, idxN_nat, Option.bind_some, atO_some (get_mid (A := A) (X := X)), set_mid]
            refine Ok.some_iff.2 ⟨A, B, ?_, hAB, hB, hA⟩
            rw [natL_append]; rfl
        · rintro _ ⟨A, B, rfl, hAB, hB, hA⟩
          simp (disch := omega) only [wrap_inc]
          subst hAB
          obtain ⟨r1, r2⟩ := IsSrt.put (n := l.length) (f := prL l) (K := fun v => pk v - kp v) (p := p) hs1 hs2 hpp hB hA
          exact Ok.some_iff.2 ⟨rfl, _, rfl, r1, r2⟩
      · rw [decF hpp]
        simp (disch := omega) only [Bool.not_false, cond_true, Option.bind_some, wrap_inc]
        refine Ok.some_iff.2 ⟨rfl, s, rfl, hs1, fun x => ?_⟩
        rw [hs2 x]
        constructor
        · exact fun h => ⟨by omega, h.2⟩
        · rintro ⟨h1, h2⟩
          rcases Nat.lt_or_ge x c with h3 | h3
          · exact ⟨h3, h2⟩
          · obtain rfl : x = c := by omega
            exact absurd h2 hpp
    · rintro _ ⟨s, rfl, hs1, hs2⟩
      simp (disch := omega) only [cond_dec, if_neg]
      exact Ok.some_iff.2 ⟨s, ⟨hs1, hs2⟩, rfl⟩
  obtain ⟨r, h1, s, h2, rfl⟩ := key
  exact ⟨s, h2, h1⟩
end
theorem insM_eq (l : List Int) (a b : Int) (p q : Option (List Int)) : d_slices_insertionSortCmpFunc_int_mem (l, a, b, (p, q, ()), ()) = insG (fun x y => d_memory_Best_1q_1q_q0 (x, y, p, q, ())) l a b := rfl
theorem pdqM_small (l : List Int) (b : Int) (p q : Option (List Int)) (hl : l.length ≤ 12) {r : List Int × Unit} (hr : insG (fun x y => d_memory_Best_1q_1q_q0 (x, y, p, q, ())) l 0 (l.length : Int) = some r) :
    d_slices_pdqsortCmpFunc_int_mem (l, 0, (l.length : Int), b, (p, q, ()), ()) = some r := by
  unfold d_slices_pdqsortCmpFunc_int_mem
  show fixO (deep r_slices_pdqsortCmpFunc_int_memq_s) _ = some r
  rw [fixO_iff r_slices_pdqsortCmpFunc_int_memq_mono]
  refine ⟨1, ?_⟩
  have e1 : deep r_slices_pdqsortCmpFunc_int_memq_s 1 (l, 0, (l.length : Int), b, (p, q, ()), ()) = r_slices_pdqsortCmpFunc_int_memq_s (deep r_slices_pdqsortCmpFunc_int_memq_s 0) (l, 0, (l.length : Int), b, (p, q, ()), ()) := rfl
  rw [e1]
  unfold r_slices_pdqsortCmpFunc_int_memq_s
  dsimp only
  rw [loop_unfold]
  dsimp only
  have hw : IntKind.i64.wrap ((l.length : Int) - 0) = ((l.length : Nat) : Int) := by rw [Int.sub_zero]; exact wrapN (by omega)
  simp only [hw, cond_dec]
  rw [if_pos (by omega), insM_eq, hr]
  rfl
def liuI (K : Nat → Int) (x y : Int) : Prop := K y.toNat < K x.toNat ∨ (K x.toNat = K y.toNat ∧ x < y)
instance (K : Nat → Int) (x y : Int) : Decidable (liuI K x y) := by unfold liuI; exact inferInstance
theorem SOrd.liu (K : Nat → Int) : SOrd (fun x y => decide (liuI K x y)) := by
  constructor
  · intro a b h
    have h1 : liuI K a b := of_decide_eq_true h
    refine decide_eq_false fun h2 => ?_
    unfold liuI at h1 h2
    omega
  · intro a b c h1 h2
    have h1 : ¬ liuI K b a := of_decide_eq_false h1
    have h2 : ¬ liuI K c b := of_decide_eq_false h2
    refine decide_eq_false fun h3 => ?_
    unfold liuI at h1 h2 h3
    omega
theorem best1_eq {n : Nat} (pk kp : Nat → Int) (hpk : ∀ v, -1000000000000 ≤ pk v ∧ pk v ≤ 1000000000000) (hkp : ∀ v, -1000000000000 ≤ kp v ∧ kp v ≤ 1000000000000) {a b : Nat} (ha : a < n) (hb : b < n) :
    ∃ r, d_memory_Best_1q_1q_q0 ((a : Int), (b : Int), some (fT n pk), some (fT n kp), ()) = some (r, ()) ∧ (r < 0 ↔ decide (liuI (fun v => pk v - kp v) (a : Int) (b : Int)) = true) := by
  have hw : ∀ v, IntKind.i64.wrap (pk v - kp v) = pk v - kp v := fun v => by
    have := hpk v; have := hkp v; rw [wrap64] <;> omega
  have hgk : ∀ {g : Nat → Int} {v : Nat}, v < n → getI (fT n g) (v : Int) = some (g v) := fun h => getN_some (fT_get h)
  unfold d_memory_Best_1q_1q_q0
  simp only [Option.bind_some, hgk ha, hgk hb, hw, Compare_eq, Or_eq]
  refine ⟨_, rfl, ?_⟩
  rw [decide_eq_true_eq]
  unfold liuI
  simp only [Int.toNat_natCast]
  by_cases c1 : pk b - kp b < pk a - kp a
  · rw [if_pos c1, if_pos (by omega)]
    exact ⟨fun _ => .inl c1, fun _ => by omega⟩
  · rw [if_neg c1]
    by_cases c2 : pk b - kp b > pk a - kp a
    · rw [if_pos c2, if_pos (by omega)]
      exact ⟨fun h => by omega, fun h => by omega⟩
    · rw [if_neg c2, if_neg (by omega)]
      by_cases c3 : (a : Int) < (b : Int)
      · rw [if_pos c3]; exact ⟨fun _ => .inr (by omega), fun _ => by omega⟩
      · rw [if_neg c3]
        split
        · exact ⟨fun h => by omega, fun h => by omega⟩
        · exact ⟨fun h => by omega, fun h => by omega⟩
theorem sortedM_ok {n : Nat} (pk kp : Nat → Int) (hpk : ∀ v, -1000000000000 ≤ pk v ∧ pk v ≤ 1000000000000) (hkp : ∀ v, -1000000000000 ≤ kp v ∧ kp v ≤ 1000000000000) {nx : List Nat} (hd : nx.Nodup) (hx : ∀ x ∈ nx, x < n) (h12 : nx.length ≤ 12) :
    ∃ s : List Nat, d_memory_Best_1q_q0 (natL nx, some (fT n pk), some (fT n kp), ()) = some (natL s, ()) ∧ s.Perm nx ∧ s.Pairwise (liu fun v => pk v - kp v) := by
  have hlen : (natL nx).length ≤ 12 := by rw [natL_length]; exact h12
  obtain ⟨⟨r, ⟨⟩⟩, hr, g, hg, hS, hP⟩ := insG_ok (cmp := fun x y => d_memory_Best_1q_1q_q0 (x, y, some (fT n pk), some (fT n kp), ())) (SOrd.liu fun v => pk v - kp v) (natL nx) (by
    intro x y hx1 hy1
    obtain ⟨a, ha, rfl⟩ := List.mem_map.1 hx1
    obtain ⟨b, hb, rfl⟩ := List.mem_map.1 hy1
    exact best1_eq pk kp hpk hkp (hx a ha) (hx b hb)) (by omega)
  simp only at hg hP
  obtain ⟨b, hb⟩ := Len_ok (natL nx).length hlen
  have hnat : ∀ x ∈ r, ∃ v : Nat, x = (v : Int) ∧ v ∈ nx := fun x h => by
    obtain ⟨v, hv, rfl⟩ := List.mem_map.1 (hP.mem_iff.1 h)
    exact ⟨v, rfl, hv⟩
  have hrs : r = natL (r.map Int.toNat) := by
    unfold natL
    rw [List.map_map]
    conv => lhs; rw [← List.map_id r]
    refine List.map_congr_left fun x h => ?_
    obtain ⟨v, rfl, _⟩ := hnat x h
    simp
  have hps : (r.map Int.toNat).Perm nx := by
    have := hP.map Int.toNat
    simpa [natL, Function.comp_def] using this
  refine ⟨r.map Int.toNat, ?_, hps, ?_⟩
  · unfold d_memory_Best_1q_q0 d_slices_SortFunc_int_int_mem
    simp only []
    rw [wrapUq_eq _ (by omega) (by omega), hb]
    simp only [Option.bind_some]
    rw [pdqM_small _ _ _ _ hlen hr]
    simp only [Option.bind_some]
    rw [← hrs]
  · have hdn : (r.map Int.toNat).Nodup := hps.nodup_iff.2 hd
    rw [List.pairwise_map]
    have hrd : r.Nodup := by rw [hrs]; exact natL_nodup hdn
    rw [hg] at hrd hnat ⊢
    rw [List.pairwise_iff_getElem]
    intro i j hi hj hij
    have h1 := hS i j hij (by simpa [fT_length] using hj)
    obtain ⟨x, hx1, _⟩ := hnat _ (List.getElem_mem hi)
    obtain ⟨y, hy1, _⟩ := hnat _ (List.getElem_mem hj)
    have hne : (fT (natL nx).length g)[i] ≠ (fT (natL nx).length g)[j] := fun e => by
      have := (List.getElem_inj hrd).1 e
      omega
    rw [fT_getElem] at hx1 hy1
    rw [fT_getElem, fT_getElem] at hne ⊢
    rw [hx1, hy1] at hne h1 ⊢
    have h1 : ¬ liuI (fun v => pk v - kp v) (y : Int) (x : Int) := of_decide_eq_false h1
    unfold liuI at h1
    unfold liu
    simp only [Int.toNat_natCast] at h1 ⊢
    omega
end Go.Fw
end

section
namespace Go.Fw
set_option linter.unusedSimpArgs false
set_option linter.unusedVariables false
open Go
def KidsP (n : Nat) (f : Nat → Int) (S : Nat → List Nat) : Prop := ∀ v, v < n → (S v).Nodup ∧ ∀ x, x ∈ S v ↔ x < n ∧ f x = (v : Int)
def pst (S : Nat → List Nat) : Nat → Nat → List Nat
  | 0, _ => []
  | d + 1, v => ((S v).map (pst S d)).flatten ++ [v]
def pS (S : Nat → List Nat) (v : Nat) : List Nat := pst S (v + 1) v
def blw (S : Nat → List Nat) (v : Nat) : List Nat := ((S v).map (pS S)).flatten
theorem take_succ_flat' {S : Nat → List Nat} {L : List Nat} {i : Nat} (hi : i < L.length) : ((L.take (i + 1)).map (pS S)).flatten = ((L.take i).map (pS S)).flatten ++ pS S L[i] := by
  rw [← take_snoc hi, List.map_append, List.flatten_append]
  simp
section
variable {n : Nat} {f : Nat → Int} (hf : PF n f) {S : Nat → List Nat} (hS : KidsP n f S)
include hf hS
theorem KidsP.lt {v c : Nat} (hv : v < n) (h : c ∈ S v) : c < v := by
  obtain ⟨h1, h2⟩ := ((hS v hv).2 c).1 h
  have := hf c h1
  omega
theorem pst_eq : ∀ v d, v < d → v < n → pst S d v = pS S v := by
  intro v
  induction v using Nat.strongRecOn with
  | ind v ih =>
    intro d hd hv
    obtain ⟨d, rfl⟩ : ∃ e, d = e + 1 := ⟨d - 1, by omega⟩
    unfold pS
    simp only [pst]
    congr 2
    refine List.map_congr_left fun c hc => ?_
    have hcv := KidsP.lt hf hS hv hc
    rw [ih c hcv d (by omega) (by omega), ih c hcv v hcv (by omega)]
theorem pS_eq {v : Nat} (hv : v < n) : pS S v = blw S v ++ [v] := by
  unfold blw
  conv => lhs; unfold pS
  simp only [pst]
  congr 2
  exact List.map_congr_left fun c hc => pst_eq hf hS c v (KidsP.lt hf hS hv hc) (by have := KidsP.lt hf hS hv hc; omega)
theorem mem_pS : ∀ v, v < n → ∀ u, u ∈ pS S v ↔ Sub n f u v := by
  intro v
  induction v using Nat.strongRecOn with
  | ind v ih =>
    intro hv u
    rw [pS_eq hf hS hv]
    unfold blw
    simp only [List.mem_append, List.mem_flatten, List.mem_map, List.mem_singleton]
    rw [Sub.last_iff]
    constructor
    · rintro (⟨_, ⟨c, hc, rfl⟩, hu⟩ | rfl)
      · have hcv := KidsP.lt hf hS hv hc
        have hc2 := ((hS v hv).2 c).1 hc
        exact .inr ⟨c, (ih c hcv (by omega) u).1 hu, hc2⟩
      · exact .inl rfl
    · rintro (rfl | ⟨c, h1, h2⟩)
      · exact .inr rfl
      · have hc : c ∈ S v := ((hS v hv).2 c).2 h2
        have hcv := KidsP.lt hf hS hv hc
        exact .inl ⟨_, ⟨c, hc, rfl⟩, (ih c hcv (by omega) u).2 h1⟩
theorem flat_nodup {L : List Nat} (hd : L.Nodup) (hp : ∀ c ∈ L, (pS S c).Nodup) (ha : ∀ c ∈ L, ∀ c' ∈ L, ∀ u, u ∈ pS S c → u ∈ pS S c' → c = c') : ((L.map (pS S)).flatten).Nodup := by
  rw [List.nodup_iff_pairwise_ne, List.pairwise_flatten]
  refine ⟨fun l hl => ?_, ?_⟩
  · obtain ⟨c, hc, rfl⟩ := List.mem_map.1 hl
    exact List.nodup_iff_pairwise_ne.1 (hp c hc)
  · rw [List.pairwise_map]
    rw [List.pairwise_iff_getElem]
    intro i j hi hj hij x hx y hy e
    subst e
    have h1 := ha _ (List.getElem_mem hi) _ (List.getElem_mem hj) x hx hy
    have := (List.getElem_inj hd).1 h1
    omega
theorem pS_nodup : ∀ v, v < n → (pS S v).Nodup := by
  intro v
  induction v using Nat.strongRecOn with
  | ind v ih =>
    intro hv
    rw [pS_eq hf hS hv]
    have hk : ∀ c ∈ S v, c < v ∧ RelF n f c v := fun c hc => ⟨KidsP.lt hf hS hv hc, ((hS v hv).2 c).1 hc⟩
    refine List.nodup_append.2 ⟨flat_nodup hf hS (hS v hv).1 (fun c hc => ih c (hk c hc).1 (by have := hk c hc; omega)) (fun c hc c' hc' u hu hu' => ?_), by simp, fun a ha b hb e => ?_⟩
    · have h1 := (mem_pS hf hS c (by have := hk c hc; omega) u).1 hu
      have h2 := (mem_pS hf hS c' (by have := hk c' hc'; omega) u).1 hu'
      exact sub_apart hf (hk c hc).2 (hk c' hc').2 h1 h2
    · rw [List.mem_singleton] at hb
      subst hb; subst e
      obtain ⟨_, h1, h2⟩ := List.mem_flatten.1 ha
      obtain ⟨c, hc, rfl⟩ := List.mem_map.1 h1
      have h3 := (mem_pS hf hS c (by have := hk c hc; omega) a).1 h2
      have := (Sub.le hf h3).1
      have := (hk c hc).1
      omega
theorem all_ok {R : List Nat} (hd : R.Nodup) (hR : ∀ x, x ∈ R ↔ x < n ∧ f x = -1) : ((R.map (pS S)).flatten).Nodup ∧ (∀ u, u ∈ (R.map (pS S)).flatten ↔ u < n) ∧ ((R.map (pS S)).flatten).length = n := by
  have h1 : ((R.map (pS S)).flatten).Nodup := flat_nodup hf hS hd (fun c hc => pS_nodup hf hS c ((hR c).1 hc).1) (fun c hc c' hc' u hu hu' =>
    root_apart hf ((hR c).1 hc).1 ((hR c').1 hc').1 ((hR c).1 hc).2 ((hR c').1 hc').2 ((mem_pS hf hS c ((hR c).1 hc).1 u).1 hu) ((mem_pS hf hS c' ((hR c').1 hc').1 u).1 hu'))
  have h2 : ∀ u, u ∈ (R.map (pS S)).flatten ↔ u < n := fun u => by
    simp only [List.mem_flatten, List.mem_map]
    constructor
    · rintro ⟨_, ⟨r, hr, rfl⟩, hu⟩
      have := (Sub.le hf ((mem_pS hf hS r ((hR r).1 hr).1 u).1 hu)).1
      have := ((hR r).1 hr).1
      omega
    · intro hu
      obtain ⟨r, r1, r2, r3⟩ := root_of hf n u hu (by omega)
      exact ⟨_, ⟨r, (hR r).2 ⟨r1, r2⟩, rfl⟩, (mem_pS hf hS r r1 u).2 r3⟩
  refine ⟨h1, h2, Nat.le_antisymm (nodup_le h1 fun x hx => (h2 x).1 hx) ?_⟩
  have := subset_le (l := List.range n) (m := (R.map (pS S)).flatten) List.nodup_range (fun x hx => (h2 x).2 (List.mem_range.1 hx))
  simpa using this
theorem blw_take {v : Nat} (i : Nat) : ((((S v).take i).map (pS S)).flatten).length ≤ (blw S v).length := by
  unfold blw
  conv => rhs; rw [← List.take_append_drop i (S v), List.map_append, List.flatten_append, List.length_append]
  omega
theorem visit_deep : ∀ d v, v < d → v < n → ∀ out : List Nat, out.length + (pS S v).length ≤ 4294967296 → r_memory_Best_2q_q0 d ((v : Int), some (fT n fun v => natL (S v)), (), natL out, ()) = some (natL (out ++ pS S v), ()) := by
  intro d
  induction d with
  | zero => intro v h; omega
  | succ d ih =>
    intro v hd hv out hlen
    show r_memory_Best_2q_q0q_s (r_memory_Best_2q_q0 d) ((v : Int), some (fT n fun v => natL (S v)), (), natL out, ()) = some (natL (out ++ pS S v), ())
    unfold r_memory_Best_2q_q0q_s
    have hg : getI (fT n fun v => natL (S v)) (v : Int) = some (natL (S v)) := getN_some (fT_get hv)
    simp only [Option.bind_some, hg]
    have hsl : (S v).length ≤ n := nodup_le (hS v hv).1 fun x hx => (((hS v hv).2 x).1 hx).1
    have hn := Nat.le_refl n
    have hnl : n ≤ 4294967296 ∨ 4294967296 < n := by omega
    rw [pS_eq hf hS hv, List.length_append, List.length_singleton] at hlen
    have hsl2 : (S v).length ≤ 4294967296 := by
      -- each child stands for one at least
      have key : ∀ L : List Nat, (∀ c ∈ L, c < n) → L.length ≤ ((L.map (pS S)).flatten).length := by
        intro L
        induction L with
        | nil => intro _; exact Nat.le_refl _
        | cons c L ihL =>
          intro h
          have h1 := ihL (fun x hx => h x (List.mem_cons_of_mem _ hx))
          have h2 : 1 ≤ (pS S c).length := by rw [pS_eq hf hS (h c (List.mem_cons_self ..))]; simp
          simp only [List.map_cons, List.flatten_cons, List.length_append, List.length_cons]
          omega
      have := key (S v) (fun c hc => by have := KidsP.lt hf hS hv hc; omega)
      have e : (blw S v).length = (((S v).map (pS S)).flatten).length := rfl
      omega
    refine bindR (natL (out ++ blw S v), ()) ?_ (loop_for (S v).length (fun i => (natL (out ++ (((S v).take i).map (pS S)).flatten), ())) 0 rfl (by simp) (Nat.zero_le _) ?_ ?_)
    · simp (disch := first | omega | (simp [natL_length]; omega)) only [limO_ok, Option.bind_some]
      rw [pS_eq hf hS hv, ← List.append_assoc, natL_append (out ++ blw S v) [v]]
      rfl
    · intro i _ hi
      have hgi : getI (natL (S v)) (i : Int) = some (((S v)[i] : Nat) : Int) := nat_get hi
      have hcv := KidsP.lt hf hS hv (List.getElem_mem hi)
      have hb := blw_take hf hS (v := v) (i + 1)
      rw [take_succ_flat' hi, List.length_append] at hb
      simp (disch := omega) only [cond_dec, natL_length, if_pos, hgi, Option.bind_some]
      rw [ih (S v)[i] (by omega) (by omega) (out ++ (((S v).take i).map (pS S)).flatten) (by rw [List.length_append]; omega)]
      simp (disch := omega) only [Option.bind_some, wrap_inc]
      rw [take_succ_flat' hi, List.append_assoc]
    · simp (disch := omega) only [cond_dec, natL_length, if_neg, List.take_length]
      rfl
theorem visit_eq {v : Nat} (hv : v < n) (out : List Nat) (hlen : out.length + (pS S v).length ≤ 4294967296) : d_memory_Best_2q_q0 ((v : Int), some (fT n fun v => natL (S v)), (), natL out, ()) = some (natL (out ++ pS S v), ()) := by
  unfold d_memory_Best_2q_q0
  show fixO (deep r_memory_Best_2q_q0q_s) _ = _
  rw [fixO_iff r_memory_Best_2q_q0q_mono]
  exact ⟨v + 1, visit_deep hf hS (v + 1) v (by omega) hv out hlen⟩
end
def kpF (l : List FrT) (v : Nat) : Int := (kpE l v : Int)
def cst (pk kp : Nat → Int) (s : List Nat) : Int × Int := s.foldl (fun q c => (if q.2 + pk c > q.1 then q.2 + pk c else q.1, q.2 + kp c)) (0, 0)
theorem cst_succ (pk kp : Nat → Int) {s : List Nat} {i : Nat} (h : i < s.length) : cst pk kp (s.take (i + 1)) = (if (cst pk kp (s.take i)).2 + pk s[i] > (cst pk kp (s.take i)).1 then (cst pk kp (s.take i)).2 + pk s[i] else (cst pk kp (s.take i)).1, (cst pk kp (s.take i)).2 + kp s[i]) := by
  unfold cst
  rw [← take_snoc h, List.foldl_append]
  rfl
def finP (q : Int × Int) (fr : Int) : Int := if q.2 + fr > q.1 then q.2 + fr else q.1
theorem cst_bd {pk kp : Nat → Int} {M : Int} (hM : 0 ≤ M) (hpk : ∀ v, 0 ≤ pk v ∧ pk v ≤ M) (hkp : ∀ v, 0 ≤ kp v ∧ kp v ≤ 20100) (s : List Nat) : ∀ i, i ≤ s.length → 0 ≤ (cst pk kp (s.take i)).1 ∧ (cst pk kp (s.take i)).1 ≤ (i : Int) * 20100 + M ∧ 0 ≤ (cst pk kp (s.take i)).2 ∧ (cst pk kp (s.take i)).2 ≤ (i : Int) * 20100 := by
  intro i
  induction i with
  | zero => intro _; simp [cst]; exact hM
  | succ i ih =>
    intro hi
    obtain ⟨h1, h2, h3, h4⟩ := ih (by omega)
    have a := hpk s[i]
    have b := hkp s[i]
    rw [cst_succ _ _ (by omega)]
    refine ⟨?_, ?_, ?_, ?_⟩
    · simp only; split <;> omega
    · simp only; split <;> omega
    · simp only; omega
    · simp only; omega
noncomputable def PKs (l : List FrT) : Nat → (Nat → Int)
  | 0 => fun _ => 0
  | j + 1 => upd (PKs l j) j (finP (cst (PKs l j) (kpF l) (srtK l.length (prL l) (fun v => PKs l j v - kpF l v) (j : Int))) (frE l j : Int))
theorem PKs_succ (l : List FrT) (j : Nat) : PKs l (j + 1) = upd (PKs l j) j (finP (cst (PKs l j) (kpF l) (srtK l.length (prL l) (fun v => PKs l j v - kpF l v) (j : Int))) (frE l j : Int)) := rfl
noncomputable def srV (l : List FrT) (v : Nat) : List Nat := srtK l.length (prL l) (fun x => PKs l v x - kpF l x) (v : Int)
noncomputable def srR (l : List FrT) : List Nat := srtK l.length (prL l) (fun x => PKs l l.length x - kpF l x) (-1)
noncomputable def bestO (l : List FrT) : List Nat := ((srR l).map (pS (srV l))).flatten
section
variable {l : List FrT} (hp : Prp l)
include hp
theorem kpF_bd (v : Nat) : 0 ≤ kpF l v ∧ kpF l v ≤ 20100 := by
  have := kpE_le hp v
  unfold kpF; omega
theorem PKs_srt {j : Nat} (h : ∀ v, 0 ≤ PKs l j v ∧ PKs l j v ≤ 1000000000) (p : Int) : IsSrt l.length (prL l) (fun v => PKs l j v - kpF l v) p (srtK l.length (prL l) (fun v => PKs l j v - kpF l v) p) := by
  obtain ⟨s, hs, _⟩ := refSorted_eq hp p (PKs l j) (kpF l) (fun v => by have := h v; omega) (fun v => by have := kpF_bd hp v; omega)
  rw [hs.eq]; exact hs
theorem PKs_bd : ∀ j, j ≤ l.length → ∀ v, 0 ≤ PKs l j v ∧ PKs l j v ≤ (j : Int) * 4040100 := by
  intro j
  induction j with
  | zero => intro _ v; simp [PKs]
  | succ j ih =>
    intro hj v
    have hi := ih (by omega)
    have hn := hp.1
    have hs := PKs_srt hp (j := j) (fun v => by have := hi v; omega) (j : Int)
    have hl := hs.len
    have hb := cst_bd (pk := PKs l j) (kp := kpF l) (M := (j : Int) * 4040100) (by omega) hi (kpF_bd hp) (srtK l.length (prL l) (fun v => PKs l j v - kpF l v) (j : Int)) _ (Nat.le_refl _)
    rw [List.take_length] at hb
    have hf := frE_le hp j
    rw [PKs_succ]
    by_cases e : v = j
    · subst e
      rw [upd_same]
      unfold finP
      split <;> omega
    · rw [upd_ne _ _ e]
      have := hi v
      omega
theorem PKs_ok {j : Nat} (hj : j ≤ l.length) (v : Nat) : 0 ≤ PKs l j v ∧ PKs l j v ≤ 1000000000 := by
  have := PKs_bd hp j hj v
  have := hp.1
  omega
theorem srV_is {v : Nat} (hv : v < l.length) : IsSrt l.length (prL l) (fun x => PKs l v x - kpF l x) (v : Int) (srV l v) := PKs_srt hp (PKs_ok hp (by omega)) _
theorem srR_is : IsSrt l.length (prL l) (fun x => PKs l l.length x - kpF l x) (-1) (srR l) := PKs_srt hp (PKs_ok hp (Nat.le_refl _)) _
theorem srV_kids : KidsP l.length (prL l) (srV l) := fun v hv => ⟨(srV_is hp hv).nodup, (srV_is hp hv).mem⟩
theorem kidsV_nat (v : Nat) : kidsV (prL l) l.length v = natL ((List.range l.length).filter fun c => decide (prL l c = (v : Int))) := rfl
theorem best_loop {j : Nat} (hj : j < l.length) (hn : l.length ≤ 12) : d_memory_Best_1q_q0 (kidsV (prL l) l.length j, some (fT l.length (PKs l j)), some (fT l.length (kpF l)), ()) = some (natL (srV l j), ()) := by
  obtain ⟨s, h1, h2, h3⟩ := sortedM_ok (n := l.length) (PKs l j) (kpF l) (fun v => by have := PKs_ok hp (show j ≤ l.length by omega) v; omega) (fun v => by have := kpF_bd hp v; omega) (nx := (List.range l.length).filter fun c => decide (prL l c = (j : Int)))
    (List.Pairwise.filter _ List.nodup_range) (fun x hx => List.mem_range.1 (List.mem_filter.1 hx).1) (Nat.le_trans (List.length_filter_le _ _) (by simpa using hn))
  rw [kidsV_nat hp, h1]
  have hI : IsSrt l.length (prL l) (fun x => PKs l j x - kpF l x) (j : Int) s := ⟨h3, fun x => by rw [h2.mem_iff]; simp⟩
  unfold srV
  rw [hI.eq]
theorem best_roots (hn : l.length ≤ 12) : d_memory_Best_1q_q0 (rootsV (prL l) l.length, some (fT l.length (PKs l l.length)), some (fT l.length (kpF l)), ()) = some (natL (srR l), ()) := by
  obtain ⟨s, h1, h2, h3⟩ := sortedM_ok (n := l.length) (PKs l l.length) (kpF l) (fun v => by have := PKs_ok hp (Nat.le_refl l.length) v; omega) (fun v => by have := kpF_bd hp v; omega) (nx := (List.range l.length).filter fun c => decide (prL l c = -1))
    (List.Pairwise.filter _ List.nodup_range) (fun x hx => List.mem_range.1 (List.mem_filter.1 hx).1) (Nat.le_trans (List.length_filter_le _ _) (by simpa using hn))
  rw [show rootsV (prL l) l.length = natL ((List.range l.length).filter fun c => decide (prL l c = -1)) from rfl, h1]
  have hI : IsSrt l.length (prL l) (fun x => PKs l l.length x - kpF l x) (-1) s := ⟨h3, fun x => by rw [h2.mem_iff]; simp⟩
  unfold srR
  rw [hI.eq]
theorem Best_ok (hr : ∀ x ∈ l, InR x) (hn : l.length ≤ 12) : d_memory_Best (l, ()) = some ((natL (bestO l), (fT l.length (PKs l l.length), (fT l.length (kpF l), ()))), 0, ()) := by
  classical
  have hc : ∀ x ∈ l, x.2.2.1.length < 4611686018427387904 := fun x hx => by
    obtain ⟨i, hi, rfl⟩ := List.mem_iff_getElem.1 hx
    have := (hp.2 i hi).1; omega
  have hf := prL_pf hp
  have hkl : fT l.length (fun i => (kpE l i : Int)) = fT l.length (kpF l) := rfl
  unfold d_memory_Best
  simp only [proper_eq hr hc, Option.bind_some, cond_not_dec]
  rw [if_pos hp]
  simp (disch := omega) only [sizes_eq hp hr, children_eq hp, Option.bind_some, madeO_ok, fT_replicate, hkl]
  refine bindR (([], ([], ([], ()))), fT l.length (kpF l), fT l.length (fun v => natL (srV l v)), rootsV (prL l) l.length, fT l.length (PKs l l.length), ()) ?_ (loop_for l.length (fun j => (([], ([], ([], ()))), fT l.length (kpF l), fT l.length (fun v => if v < j then natL (srV l v) else kidsV (prL l) l.length v), rootsV (prL l) l.length, fT l.length (PKs l j), ())) 0 rfl ?_ (Nat.zero_le _) ?_ ?_)
  · simp only [best_roots hp hn, Option.bind_some]
    have hR := srR_is hp
    have hRl := hR.len
    have hall := all_ok hf (srV_kids hp) hR.nodup hR.mem
    refine bindR (([], ([], ([], ()))), fT l.length (kpF l), fT l.length (PKs l l.length), natL (bestO l), ()) rfl (loop_for (srR l).length (fun i => (([], ([], ([], ()))), fT l.length (kpF l), fT l.length (fun v => natL (srV l v)), natL (srR l), fT l.length (PKs l l.length), natL (((srR l).take i).map (pS (srV l))).flatten, ())) 0 rfl (by simp; rfl) (Nat.zero_le _) ?_ ?_)
    · intro i _ hi
      have hgi : (natL (srR l))[i]? = some (((srR l)[i] : Nat) : Int) := by simp [natL, hi]
      have hrl := ((hR.mem _).1 (List.getElem_mem hi)).1
      have hb : ((((srR l).take (i + 1)).map (pS (srV l))).flatten).length ≤ l.length := by
        have h3 := hall.2.2
        conv at h3 => lhs; rw [← List.take_append_drop (i + 1) (srR l), List.map_append, List.flatten_append, List.length_append]
        omega
      rw [take_succ_flat' hi, List.length_append] at hb
      simp (disch := omega) only [cond_dec, natL_length, if_pos, idxN_nat, Option.bind_some, atO_some hgi]
      rw [visit_eq hf (srV_kids hp) hrl _ (by omega)]
      simp (disch := omega) only [Option.bind_some, wrap_inc]
      rw [take_succ_flat' hi]
    · simp (disch := omega) only [cond_dec, natL_length, if_neg, List.take_length]
      rfl
  · exact congrArg (fun a => (_, _, a, _, _, ())) (fT_congr fun v _ => by rw [if_neg (by omega)])
  · intro j _ hj
    have hkj : (if j < j then natL (srV l j) else kidsV (prL l) l.length j) = kidsV (prL l) l.length j := if_neg (by omega)
    have hI := srV_is hp hj
    have hsl := hI.len
    simp (disch := omega) only [cond_dec, if_pos, fT_length, idxN_nat, Option.bind_some, atO_fT]
    rw [hkj, best_loop hp hj hn]
    simp (disch := omega) only [Option.bind_some, atO_fT, fT_set, fT_length, idxN_nat, upd_same]
    have hkd : fT l.length (upd (fun v => if v < j then natL (srV l v) else kidsV (prL l) l.length v) j (natL (srV l j))) = fT l.length (fun v => if v < j + 1 then natL (srV l v) else kidsV (prL l) l.length v) := by
      refine fT_congr fun v _ => ?_
      unfold upd
      show (if v = j then _ else (if v < j then _ else _)) = (if v < j + 1 then _ else _)
      by_cases e : v = j
      · subst e; rw [if_pos rfl, if_pos (by omega)]
      · rw [if_neg e]
        by_cases e2 : v < j
        · rw [if_pos e2, if_pos (by omega)]
        · rw [if_neg e2, if_neg (by omega)]
    rw [hkd]
    have hkj2 : (if j < j + 1 then natL (srV l j) else kidsV (prL l) l.length j) = natL (srV l j) := if_pos (by omega)
    have hpk0 : PKs l j j = 0 := by
      have key : ∀ k v, k ≤ v → PKs l k v = 0 := by
        intro k
        induction k with
        | zero => intro v _; rfl
        | succ k ih => intro v hkv; rw [PKs_succ, upd_ne _ _ (by omega)]; exact ih v (by omega)
      exact key j j (Nat.le_refl _)
    have hbd := fun i hi => cst_bd (pk := PKs l j) (kp := kpF l) (M := 1000000000) (by omega) (PKs_ok hp (show j ≤ l.length by omega)) (kpF_bd hp) (srV l j) i hi
    refine bindR ((cst (PKs l j) (kpF l) (srV l j)).2, ([], ([], ([], ()))), fT l.length (kpF l), fT l.length (fun v => if v < j + 1 then natL (srV l v) else kidsV (prL l) l.length v), rootsV (prL l) l.length, fT l.length (upd (PKs l j) j (cst (PKs l j) (kpF l) (srV l j)).1), ()) ?_
      (loop_seq (srV l j).length (fun i => ((cst (PKs l j) (kpF l) ((srV l j).take i)).2, j, (i : Int), ([], ([], ([], ()))), fT l.length (kpF l), fT l.length (fun v => if v < j + 1 then natL (srV l v) else kidsV (prL l) l.length v), rootsV (prL l) l.length, fT l.length (upd (PKs l j) j (cst (PKs l j) (kpF l) ((srV l j).take i)).1), ())) 0 ?_ (Nat.zero_le _) ?_ ?_)
    · have h1 := hbd _ (Nat.le_refl _)
      rw [List.take_length] at h1
      have h2 := frE_le hp j
      have hgf : getI (fT l.length (fun i => (frE l i : Int))) (j : Int) = some (frE l j : Int) := getN_some (fT_get hj)
      have hw : IntKind.i64.wrap ((cst (PKs l j) (kpF l) (srV l j)).2 + (frE l j : Int)) = (cst (PKs l j) (kpF l) (srV l j)).2 + (frE l j : Int) := by rw [wrap64] <;> omega
      simp (disch := omega) only [fT_length, idxN_nat, Option.bind_some, atO_fT, upd_same, hgf, fT_set, hw, wrap_inc]
      refine congrArg (fun a => some (Sum.inl (((j + 1 : Nat) : Int), ([], ([], ([], ()))), fT l.length (kpF l), fT l.length (fun v => if v < j + 1 then natL (srV l v) else kidsV (prL l) l.length v), rootsV (prL l) l.length, a, ()))) (fT_congr fun v _ => ?_)
      rw [PKs_succ]
      unfold upd
      by_cases e : v = j
      · rw [if_pos e, if_pos e]; rfl
      · rw [if_neg e, if_neg e, if_neg e]
    · refine congrArg (fun a => ((0 : Int), j, (0 : Int), (([] : List Int), (([] : List Int), (([] : List Int), ()))), fT l.length (kpF l), fT l.length (fun v => if v < j + 1 then natL (srV l v) else kidsV (prL l) l.length v), rootsV (prL l) l.length, a, ())) (fT_congr fun v _ => ?_)
      unfold upd
      by_cases e : v = j
      · subst e; rw [if_pos rfl, hpk0]; rfl
      · rw [if_neg e]
    · intro i _ hi
      have hcl := ((hI.mem _).1 (List.getElem_mem hi)).1
      have hcj : (srV l j)[i] ≠ j := by have := KidsP.lt hf (srV_kids hp) hj (List.getElem_mem hi); omega
      have h1 := hbd i (by omega)
      have h3 := PKs_ok hp (show j ≤ l.length by omega) (srV l j)[i]
      have h4 := kpF_bd hp (srV l j)[i]
      have hgi : (natL (srV l j))[i]? = some (((srV l j)[i] : Nat) : Int) := by simp [natL, hi]
      have hgk : getI (fT l.length (kpF l)) (((srV l j)[i] : Nat) : Int) = some (kpF l (srV l j)[i]) := getN_some (fT_get hcl)
      have hw1 : IntKind.i64.wrap ((cst (PKs l j) (kpF l) ((srV l j).take i)).2 + PKs l j (srV l j)[i]) = (cst (PKs l j) (kpF l) ((srV l j).take i)).2 + PKs l j (srV l j)[i] := by rw [wrap64] <;> omega
      have hw2 : IntKind.i64.wrap ((cst (PKs l j) (kpF l) ((srV l j).take i)).2 + kpF l (srV l j)[i]) = (cst (PKs l j) (kpF l) ((srV l j).take i)).2 + kpF l (srV l j)[i] := by rw [wrap64] <;> omega
      simp (disch := omega) only [cond_dec, natL_length, if_pos, fT_length, idxN_nat, Option.bind_some, atO_fT, hkj2, atO_some hgi, upd_same, upd_ne _ _ hcj, hw1, fT_set, hgk, hw2, wrap_inc]
      rw [cst_succ _ _ hi]
      refine congrArg (fun a => some (Sum.inl ((cst (PKs l j) (kpF l) ((srV l j).take i)).2 + kpF l (srV l j)[i], j, ((i + 1 : Nat) : Int), ([], ([], ([], ()))), fT l.length (kpF l), fT l.length (fun v => if v < j + 1 then natL (srV l v) else kidsV (prL l) l.length v), rootsV (prL l) l.length, a, ()))) (fT_congr fun v _ => ?_)
      unfold upd
      by_cases e : v = j
      · rw [if_pos e, if_pos e]
      · rw [if_neg e, if_neg e, if_neg e]
    · simp (disch := omega) only [cond_dec, natL_length, if_neg, List.take_length]
  · simp (disch := omega) only [cond_dec, if_neg]
    refine congrArg (fun a => some (Sum.inr (([], ([], ([], ()))), fT l.length (kpF l), a, rootsV (prL l) l.length, fT l.length (PKs l l.length), ()))) (fT_congr fun v hv => if_pos hv)
end
end Go.Fw
end

section
namespace Go.Fw
set_option linter.unusedSimpArgs false
set_option linter.unusedVariables false
open Go
section
variable {n : Nat} {f : Nat → Int} (hf : PF n f) {S : Nat → List Nat} (hS : KidsP n f S) {R : List Nat} (hR : R.Nodup) (hR2 : ∀ x, x ∈ R ↔ x < n ∧ f x = -1)
include hf hS hR hR2
theorem all_perm : IsPerm (natL (R.map (pS S)).flatten) n := by
  obtain ⟨h1, h2, h3⟩ := all_ok hf hS hR hR2
  refine ⟨by rw [natL_length, h3], fun x hx => ?_, ?_⟩
  · obtain ⟨u, hu, rfl⟩ := List.mem_map.1 hx
    have := (h2 u).1 hu
    omega
  · exact List.Pairwise.map _ (fun a b hab e => hab (by omega)) h1
end
def mx (a b : Int) : Int := if b > a then b else a
section
variable {l : List FrT} (hp : Prp l) {S : Nat → List Nat} (hS : KidsP l.length (prL l) S)
include hp hS
variable {R : List Nat} (hR : R.Nodup) (hR2 : ∀ x, x ∈ R ↔ x < l.length ∧ prL l x = -1)
include hR hR2
end
end Go.Fw
end

section
namespace Go.Fw
set_option linter.unusedSimpArgs false
set_option linter.unusedVariables false
open Go
theorem tri_two (r : Nat) : 2 * tri r = r * (r + 1) := by
  unfold tri
  have : r * (r + 1) % 2 = 0 := by
    rw [Nat.mul_mod]
    rcases Nat.mod_two_eq_zero_or_one r with h | h
    · rw [h]; simp
    · rw [Nat.add_mod, h]
  omega
end Go.Fw
end

section
namespace Go.Fw
set_option linter.unusedSimpArgs false
set_option linter.unusedVariables false
open Go
section
variable {adj : List (List Int)} (hV : Valid adj) (hn : adj.length ≤ 200)
include hV hn
variable {starts : List Int} {m : Nat} {s e : Nat → Nat} (hC : Contig adj.length (parF adj)) (hP : PN adj.length (parF adj) starts m s e)
include hC hP
theorem fr_at {k : Nat} (hk : k < m) : s k < e k ∧ e k ≤ adj.length ∧ e k - s k ≤ (rowsV adj (s k) (e k)).length ∧ (rowsV adj (s k) (e k)).length ≤ 2 * adj.length := by
  obtain ⟨g1, g2, g3⟩ := hP.ok k hk
  have h1 := rowsV_length hV hn g1
  have h2 := colV_length adj (e k - 1)
  have h3 : 1 ≤ (colV adj (e k - 1)).length := by
    have := par_of_col hV (forest_of hV hn) (show e k - 1 < adj.length by omega)
    rw [fT_get (show e k - 1 < adj.length by omega)] at this
    rcases this with ⟨h, _⟩ | ⟨p, r, h, _⟩
    · rw [h]; simp
    · rw [h]; simp
  omega
theorem fr_prp (h12 : adj.length ≤ 100) : Prp (fT m (frV adj m s e)) := by
  have hf := pf_parF hV hn
  have hmn := hP.m_le
  refine ⟨by rw [fT_length]; omega, fun i hi => ?_⟩
  have hk : i < m := by rw [fT_length] at hi; exact hi
  obtain ⟨h1, h2, h3, h4⟩ := fr_at hV hn hC hP hk
  rw [fr_get hV hn hC hP hk, fT_length]
  refine ⟨?_, ?_, ?_, ?_⟩
  · show (rowsV adj (s i) (e i)).length ≤ 200
    omega
  · show (s i : Int) < (e i : Int)
    omega
  · show (e i : Int) - (s i : Int) ≤ ((rowsV adj (s i) (e i)).length : Int)
    omega
  · show (if i < m ∧ 0 ≤ parF adj (e i - 1) then lastLe s (parF adj (e i - 1)).toNat m else -1) = -1 ∨ (i : Int) < (if i < m ∧ 0 ≤ parF adj (e i - 1) then lastLe s (parF adj (e i - 1)).toNat m else -1) ∧ (if i < m ∧ 0 ≤ parF adj (e i - 1) then lastLe s (parF adj (e i - 1)).toNat m else -1) < (m : Int)
    split
    · rename_i hh
      have hp := hf (e i - 1) (by omega)
      obtain ⟨q, q1, q2, q3⟩ := hP.cover (p := (parF adj (e i - 1)).toNat) (by omega)
      rw [hP.lastLe q1 q2 q3 m q1 (Nat.le_refl _)]
      refine .inr ⟨?_, by omega⟩
      rcases Nat.lt_or_ge i q with h | h
      · omega
      · exfalso
        rcases Nat.lt_or_eq_of_le h with h | h
        · have := hP.mono h hk; omega
        · subst h; omega
    · exact .inl rfl
theorem fr_inR : ∀ x ∈ fT m (frV adj m s e), InR x ∧ x.2.2.1.length < 4611686018427387904 := fun x hx => by
  obtain ⟨i, hi, rfl⟩ := List.mem_iff_getElem.1 hx
  have hk : i < m := by rw [fT_length] at hi; exact hi
  obtain ⟨h1, h2, h3, h4⟩ := fr_at hV hn hC hP hk
  rw [fr_get hV hn hC hP hk]
  refine ⟨?_, ?_⟩
  · show (-9223372036854775808 ≤ (s i : Int) ∧ (s i : Int) ≤ 9223372036854775807) ∧ (-9223372036854775808 ≤ (e i : Int) ∧ (e i : Int) ≤ 9223372036854775807)
    omega
  · show (rowsV adj (s i) (e i)).length < _
    omega
end
theorem tri_sub {r c : Nat} (hc : c ≤ r) (h1 : 1 ≤ c) : (tri r : Int) - (tri (r - c) : Int) = (c : Int) * (r : Int) - (tri (c - 1) : Int) := by
  obtain ⟨d, rfl⟩ : ∃ d, r = d + c := ⟨r - c, by omega⟩
  obtain ⟨b, rfl⟩ : ∃ b, c = b + 1 := ⟨c - 1, by omega⟩
  rw [show d + (b + 1) - (b + 1) = d by omega, show b + 1 - 1 = b by omega, ← Int.natCast_mul]
  have h2 := tri_two (d + (b + 1))
  have h3 := tri_two d
  have h4 := tri_two b
  have e1 : (d + (b + 1)) * (d + (b + 1) + 1) = d * (d + 1) + 2 * ((b + 1) * (d + (b + 1))) - b * (b + 1) ∧ b * (b + 1) ≤ d * (d + 1) + 2 * ((b + 1) * (d + (b + 1))) := by
    simp only [Nat.mul_add, Nat.add_mul, Nat.mul_one, Nat.one_mul]
    rw [Nat.mul_comm b d]
    generalize d * d = x
    generalize d * b = y
    generalize b * b = z
    omega
  omega
theorem MemoryFactor_true (n : Int) (l : List Int) (z : Int) : d_sparselaw22q_MemoryFactor (n, l, z, ()) = some (true, ()) := by
  classical
  rw [← Ok.eq_iff]
  unfold d_sparselaw22q_MemoryFactor
  simp only [cond_dec, awake22, Option.bind_some, Place_eq n 13 (by omega) (by omega), Place_eq z 12 (by omega) (by omega)]
  refine Ok.ite (fun _ => Ok.some_iff.2 rfl) (fun hl => ?_)
  obtain ⟨m, hm, hm2⟩ := place_nat n 13 (by omega)
  obtain ⟨w, hw, hw2⟩ := place_nat z 12 (by omega)
  rw [hm, hw]
  refine Ok.bind_of (Post_ok m l (by omega) (by omega)) ?_
  rintro ⟨⟨adj, ⟨⟩⟩, ⟨⟩⟩ ⟨hal, hb⟩
  simp only at hal hb
  subst hal
  obtain ⟨hn, hV, hC⟩ := bgn_zero.1 hb
  have hc := hV.hc hn
  have f1 := Fundamental_ok hV hn hb
  have n1 := fdK_length adj adj.length
  have n1' : (fdK adj adj.length).length < 4611686018427387904 := by omega
  have hp := fd_perm hV hn
  obtain ⟨m1, s1, e1, hP1⟩ := hp.nat
  have r1 := Relax_ok hV hn hb (show (0 : Int) ≤ (w : Int) by omega) n1' hp hP1
  have q2 := rlx_perm hV hn (z := (w : Int)) hC hP1
  have n2' : (toL (rlx adj (w : Int) s1 e1 m1)).length < 4611686018427387904 := by
    have h1 := (rlx_chain hV hn (z := (w : Int)) hC hP1 m1 (Nat.le_refl _) adj.length (by rw [if_neg (Nat.lt_irrefl _)])).length
    rw [toL_length]; omega
  simp only [f1, r1, Option.bind_some]
  generalize toL (rlx adj (w : Int) s1 e1 m1) = st at q2 n2'
  obtain ⟨k, s, e, hP⟩ := q2.nat
  have g1 := Fronts_ok hV hn hb n2' q2 hP
  have hkn := hP.m_le
  simp only [g1, Option.bind_some]
  have hpr := fr_prp hV hn hC hP (by omega)
  have hrr := fr_inR hV hn hC hP
  have hr : ∀ x ∈ fT k (frV adj k s e), InR x := fun x hx => (hrr x hx).1
  have hcc : ∀ x ∈ fT k (frV adj k s e), x.2.2.1.length < 4611686018427387904 := fun x hx => (hrr x hx).2
  have hlen : (fT k (frV adj k s e)).length = k := fT_length ..
  have hB := Best_ok hpr hr (by omega)
  have hsz : d_memory_Sizes (fT k (frV adj k s e), ()) = some (fT k (fun i => (frE (fT k (frV adj k s e)) i : Int)), fT k (fun i => (kpE (fT k (frV adj k s e)) i : Int)), 0, ()) := by
    unfold d_memory_Sizes
    have := sizes_eq hpr hr
    rw [hlen] at this
    simp only [proper_eq hr hcc, Option.bind_some, cond_not_dec, if_pos hpr, this]
  have hperm : IsPerm (natL (bestO (fT k (frV adj k s e)))) k := by
    have := all_perm (prL_pf hpr) (srV_kids hpr) (srR_is hpr).nodup (srR_is hpr).mem
    rw [hlen] at this; exact this
  have hcE := fr_cE hV hn hC hP
  have hfget : ∀ i, i < k → getI (fT k (frV adj k s e)) (i : Int) = some (frV adj k s e i) := fun i hi => getI_fT hi
  simp only [hsz, hB, Option.bind_some, bne_self_eq_false, beq_self_eq_true, cond_true, cond_false, fT_length]
  refine Ok.bind_of (P := fun q => q = .inl ((adj.length : Int), (natL (bestO (fT k (frV adj k s e))), (fT k (PKs (fT k (frV adj k s e)) k), (fT k (kpF (fT k (frV adj k s e))), ()))), ())) ?_ ?_
  · refine Ok.of_eq (loop_seq k (fun i => ((cE (fT k (frV adj k s e)) i : Int), (i : Int), (natL (bestO (fT k (frV adj k s e))), (fT k (PKs (fT k (frV adj k s e)) k), (fT k (kpF (fT k (frV adj k s e))), ()))), ())) 0 rfl (Nat.zero_le _) ?_ ?_) rfl
    · intro i _ hi
      obtain ⟨a1, a2, a3, a4⟩ := fr_at hV hn hC hP hi
      have hil : i < (fT k (frV adj k s e)).length := by omega
      have b1 := hpr.at hil
      have c1 := fr_cE1 hV hn hC hP hi
      have c2 := fr_cE2 hV hn hC hP hi
      have hrw : rwN (fT k (frV adj k s e)) i = (rowsV adj (s i) (e i)).length := by rw [← b1.2.2.1, fr_get hV hn hC hP hi]; rfl
      have hkp : (kpN (fT k (frV adj k s e)) i : Int) = ((rowsV adj (s i) (e i)).length : Int) - ((e i : Int) - (s i : Int)) := by
        rw [← b1.2.2.2.1, fr_get hV hn hC hP hi]; rfl
      obtain ⟨c, hcd⟩ : ∃ c : Nat, e i = s i + c := ⟨e i - s i, by omega⟩
      have hc1 : 1 ≤ c := by omega
      have w1 : IntKind.i64.wrap ((frV adj k s e i).2.1 - (frV adj k s e i).1) = (c : Int) := by
        show IntKind.i64.wrap ((e i : Int) - (s i : Int)) = _
        rw [wrap64] <;> omega
      have hq : quoO IntKind.i64 (IntKind.i64.wrap ((c : Int) * (IntKind.i64.wrap ((c : Int) - 1)))) 2 = some (tri (c - 1) : Int) := by
        have h1 := tri_quo (n := c - 1) (by omega)
        rw [wrap_inc (by omega), ← Int.natCast_mul] at h1
        rw [show (1 : Int) = ((1 : Nat) : Int) from rfl, wrap_sub hc1 (by omega), ← Int.natCast_mul, Nat.mul_comm]
        rw [show c - 1 + 1 = c by omega] at h1
        exact h1
      have hfe : (frE (fT k (frV adj k s e)) i : Int) - (kpE (fT k (frV adj k s e)) i : Int) = (c : Int) * ((rowsV adj (s i) (e i)).length : Int) - (tri (c - 1) : Int) := by
        have h1 := tri_sub (r := (rowsV adj (s i) (e i)).length) (c := c) (by omega) hc1
        unfold frE kpE
        rw [hrw, show kpN (fT k (frV adj k s e)) i = (rowsV adj (s i) (e i)).length - c by omega]
        exact h1
      have hf1 := frE_le hpr i
      have hk1 := kpE_le hpr i
      have ht1 := tri_le (show c - 1 ≤ 200 by omega)
      have hmul : c * (rowsV adj (s i) (e i)).length ≤ 200 * 200 := Nat.mul_le_mul (by omega) (by omega)
      have w2 : IntKind.i64.wrap ((frE (fT k (frV adj k s e)) i : Int) - (kpE (fT k (frV adj k s e)) i : Int)) = (frE (fT k (frV adj k s e)) i : Int) - (kpE (fT k (frV adj k s e)) i : Int) := by rw [wrap64] <;> omega
      have w3 : IntKind.i64.wrap ((c : Int) * ((rowsV adj (s i) (e i)).length : Int)) = (c : Int) * ((rowsV adj (s i) (e i)).length : Int) := by rw [← Int.natCast_mul, wrap64] <;> omega
      have w4 : IntKind.i64.wrap ((c : Int) * ((rowsV adj (s i) (e i)).length : Int) - (tri (c - 1) : Int)) = (c : Int) * ((rowsV adj (s i) (e i)).length : Int) - (tri (c - 1) : Int) := by rw [← Int.natCast_mul, wrap64] <;> omega
      have hrows : (frV adj k s e i).2.2.1 = rowsV adj (s i) (e i) := rfl
      have w5 : IntKind.i64.wrap ((cE (fT k (frV adj k s e)) i : Int) + (c : Int)) = (cE (fT k (frV adj k s e)) (i + 1) : Int) := by rw [c1, c2, wrap64] <;> omega
      simp (disch := omega) only [cond_dec, if_pos, hfget, Option.bind_some, getI_fT, w1, hq, hrows, w2, w3, w4, hfe, bne_self_eq_false, cond_false, w5, wrap_inc]
    · have := hcE k (Nat.le_refl _)
      rw [if_neg (Nat.lt_irrefl _)] at this
      simp (disch := omega) only [cond_dec, if_neg, this]
  · rintro _ rfl
    simp only [beq_self_eq_true, cond_true, Perm_eq _ k (show k ≤ 4294967296 by omega), decT hperm, Option.bind_some]
    exact Ok.some_iff.2 rfl
end Go.Fw
end
