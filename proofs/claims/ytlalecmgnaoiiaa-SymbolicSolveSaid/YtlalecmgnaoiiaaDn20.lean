/-
  The pure programs of the first five laws of layer 20, and their evaluation with bounded loops.
-/
import Derived.Test.YtlalecmgnaoiiaaPl1
namespace Go.Fw
/-- sparse/graph.ascending -/
noncomputable def d_graph_ascending : ((List Int) × Int × Unit) → Option (Bool × Unit) := fun (l_1, n_2, _) =>
  (loop (σ := (Int × Int × Unit)) (ρ := (Unit ⊕ (Bool × Unit))) (fun (last_3, s_4, _) =>
  (bif (decide (s_4 < (((l_1).length : Nat) : Int))) then (
  Option.bind (α := (Int × Unit) ⊕ ((Int × Int × Unit) ⊕ (Unit ⊕ (Bool × Unit)))) (
  (getI l_1 s_4).bind fun y5 =>
  Option.bind (α := Unit ⊕ ((Int × Unit) ⊕ ((Int × Int × Unit) ⊕ (Unit ⊕ (Bool × Unit))))) (
  (bif ((decide (y5 ≤ last_3)) == false) then ((bif (decide (y5 ≥ n_2)) then (
  some (.inr (.inr (.inr (.inr (false, ())))))) else (
  some (.inl ())))) else (some (.inr (.inr (.inr (.inr (false, ())))))))) fun q => match q with
  | .inl _ => (
  some (.inl (y5, ())))
  | .inr r => some r) fun q => match q with
  | .inl (last_6, _) => (
  some (.inl (last_6, (IntKind.i64.wrap (s_4 + ((1) : Int))), ())))
  | .inr r => some r) else (
  some (.inr (.inl ()))))) ((-1 : Int), ((0) : Int), ())).bind fun q => match q with
  | .inl _ => (
  some (true, ()))
  | .inr r => some r

/-- cmp.isNaN[int] -/
noncomputable def d_cmp_isNaN_int : (Int × Unit) → Option (Bool × Unit) := fun (x_1, _) =>
  some ((x_1 != x_1), ())

/-- cmp.Less[int] -/
noncomputable def d_cmp_Less_int : (Int × Int × Unit) → Option (Bool × Unit) := fun (x_1, y_2, _) =>
  (d_cmp_isNaN_int (x_1, ())).bind fun (r3, _) =>
  (bif (r3 == true) then ((d_cmp_isNaN_int (y_2, ())).bind fun (r4, _) =>
  (bif ((!r4) == false) then (some ((decide (x_1 < y_2)), ())) else (some (true, ())))) else (some ((decide (x_1 < y_2)), ())))

/-- slices.isNaN[int] -/
noncomputable def d_slices_isNaN_int : (Int × Unit) → Option (Bool × Unit) := fun (x_1, _) =>
  some ((x_1 != x_1), ())

/-- slices.BinarySearch[[]int,int] -/
noncomputable def d_slices_BinarySearch_int_int : ((List Int) × Int × Unit) → Option (Int × Bool × Unit) := fun (x_1, target_2, _) =>
  (loop (σ := (Int × Int × Unit)) (ρ := (Int × Unit)) (fun (i_3, j_4, _) =>
  (bif (decide (i_3 < j_4)) then (
  (shrO IntKind.u64 (IntKind.u64.wrap (IntKind.i64.wrap (i_3 + j_4))) ((1) : Int)).bind fun y5 =>
  (getI x_1 (IntKind.i64.wrap y5)).bind fun y6 =>
  (d_cmp_Less_int (y6, target_2, ())).bind fun (r7, _) =>
  (bif r7 then (
  some (.inl ((IntKind.i64.wrap ((IntKind.i64.wrap y5) + ((1) : Int))), j_4, ()))) else (
  some (.inl (i_3, (IntKind.i64.wrap y5), ()))))) else (
  some (.inr (i_3, ()))))) (((0) : Int), (((x_1).length : Nat) : Int), ())).bind fun (i_8, _) =>
  (bif ((decide (i_8 < (((x_1).length : Nat) : Int))) == true) then ((getI x_1 i_8).bind fun y9 =>
  (bif ((y9 == target_2) == false) then ((getI x_1 i_8).bind fun y10 =>
  (d_slices_isNaN_int (y10, ())).bind fun (r11, _) =>
  (bif (r11 == true) then ((d_slices_isNaN_int (target_2, ())).bind fun (r12, _) =>
  some (i_8, r12, ())) else (some (i_8, false, ())))) else (some (i_8, true, ())))) else (some (i_8, false, ())))

/-- sparse/graph.joined -/
noncomputable def d_graph_joined : (((List (List Int)) × Unit) × Int × Int × Unit) → Option (Bool × Unit) := fun (g_1, v_2, w_3, _) =>
  (getI g_1.1 v_2).bind fun y4 =>
  (d_slices_BinarySearch_int_int (y4, w_3, ())).bind fun (_, r6, _) =>
  some (r6, ())

/-- sparse/graph.Check -/
noncomputable def d_graph_Check : (((List (List Int)) × Unit) × Unit) → Option (Int × Unit) := fun (g_1, _) =>
  (bif (decide ((((g_1.1).length : Nat) : Int) > ((200) : Int))) then (
  some (((6) : Int), ())) else (
  (loop (σ := (Int × Unit)) (ρ := (Unit ⊕ (Int × Unit))) (fun (s_2, _) =>
  (bif (decide (s_2 < (((g_1.1).length : Nat) : Int))) then (
  Option.bind (α := Unit ⊕ ((Int × Unit) ⊕ (Unit ⊕ (Int × Unit)))) (
  (getI g_1.1 s_2).bind fun y3 =>
  (d_graph_ascending (y3, (((g_1.1).length : Nat) : Int), ())).bind fun (r4, _) =>
  (bif ((!r4) == false) then ((d_graph_joined (g_1, s_2, s_2, ())).bind fun (r5, _) =>
  (bif r5 then (
  some (.inr (.inr (.inr (((1) : Int), ()))))) else (
  some (.inl ())))) else (some (.inr (.inr (.inr (((1) : Int), ()))))))) fun q => match q with
  | .inl _ => (
  some (.inl ((IntKind.i64.wrap (s_2 + ((1) : Int))), ())))
  | .inr r => some r) else (
  some (.inr (.inl ()))))) (((0) : Int), ())).bind fun q => match q with
  | .inl _ => (
  (loop (σ := (Int × Unit)) (ρ := (Unit ⊕ (Int × Unit))) (fun (s_6, _) =>
  (bif (decide (s_6 < (((g_1.1).length : Nat) : Int))) then (
  (getI g_1.1 s_6).bind fun y7 =>
  (loop (σ := (Int × Unit)) (ρ := (Unit ⊕ ((Int × Unit) ⊕ (Unit ⊕ (Int × Unit))))) (fun (s_8, _) =>
  (bif (decide (s_8 < (((y7).length : Nat) : Int))) then (
  (getI y7 s_8).bind fun y9 =>
  (d_graph_joined (g_1, y9, s_6, ())).bind fun (r10, _) =>
  (bif (!r10) then (
  some (.inr (.inr (.inr (.inr (((1) : Int), ())))))) else (
  some (.inl ((IntKind.i64.wrap (s_8 + ((1) : Int))), ()))))) else (
  some (.inr (.inl ()))))) (((0) : Int), ())).bind fun q => match q with
  | .inl _ => (
  some (.inl ((IntKind.i64.wrap (s_6 + ((1) : Int))), ())))
  | .inr r => some r) else (
  some (.inr (.inl ()))))) (((0) : Int), ())).bind fun q => match q with
  | .inl _ => (
  some (((0) : Int), ()))
  | .inr r => some r)
  | .inr r => some r))

/-- sparse/etree.newForest -/
noncomputable def d_etree_newForest : (Int × Unit) → Option (((List Int) × ((List Int) × Unit)) × Unit) := fun (n_1, _) =>
  (madeO n_1 n_1).bind fun n2 =>
  (madeO n_1 n_1).bind fun n3 =>
  (loop (σ := (Int × ((List Int) × ((List Int) × Unit)) × Unit)) (ρ := (((List Int) × ((List Int) × Unit)) × Unit)) (fun (s_4, f_5, _) =>
  (bif (decide (s_4 < n_1)) then (
  (idxN (f_5.1).length s_4).bind fun k6 =>
  ((((atO f_5.1 k6 fun _ => some ((f_5.1).set k6 (-1 : Int)))).map fun z8 => (z8, f_5.2))).bind fun z9 =>
  (idxN (z9.2.1).length s_4).bind fun k10 =>
  ((((((atO z9.2.1 k10 fun _ => some ((z9.2.1).set k10 (-1 : Int)))).map fun z12 => (z12, z9.2.2))).map fun z13 => (z9.1, z13))).bind fun z14 =>
  some (.inl ((IntKind.i64.wrap (s_4 + ((1) : Int))), z14, ()))) else (
  some (.inr (f_5, ()))))) (((0) : Int), ((List.replicate n2 (0 : Int)), ((List.replicate n3 (0 : Int)), ())), ())).bind fun (f_15, _) =>
  some (f_15, ())

/-- (*sparse/etree.forest).join -/
noncomputable def d_etree_forest_join : (((List Int) × ((List Int) × Unit)) × Int × Int × Unit) → Option (((List Int) × ((List Int) × Unit)) × Unit) := fun (f_1, i_2, j_3, _) =>
  (loop (σ := (Int × ((List Int) × ((List Int) × Unit)) × Unit)) (ρ := (((List Int) × ((List Int) × Unit)) × Unit)) (fun (i_4, f_5, _) =>
  Option.bind (α := (((List Int) × ((List Int) × Unit)) × Unit) ⊕ ((Int × ((List Int) × ((List Int) × Unit)) × Unit) ⊕ (((List Int) × ((List Int) × Unit)) × Unit))) (
  (bif ((i_4 != (-1 : Int)) == true) then ((bif (decide (i_4 < j_3)) then (
  some (.inl (f_5, ()))) else (
  some (.inr (.inr (f_5, ())))))) else (some (.inr (.inr (f_5, ())))))) fun q => match q with
  | .inl (f_6, _) => (
  (idxN (f_6.2.1).length i_4).bind fun k7 =>
  ((atO f_6.2.1 k7 fun e8 => some e8)).bind fun y9 =>
  (idxN (f_6.2.1).length i_4).bind fun k10 =>
  ((((((atO f_6.2.1 k10 fun _ => some ((f_6.2.1).set k10 j_3))).map fun z12 => (z12, f_6.2.2))).map fun z13 => (f_6.1, z13))).bind fun z14 =>
  Option.bind (α := (((List Int) × ((List Int) × Unit)) × Unit)) (
  (bif (y9 == (-1 : Int)) then (
  (idxN (z14.1).length i_4).bind fun k15 =>
  ((((atO z14.1 k15 fun _ => some ((z14.1).set k15 j_3))).map fun z17 => (z17, z14.2))).bind fun z18 =>
  some (z18, ())) else (
  some (z14, ())))) fun (f_19, _) =>
  some (.inl (y9, f_19, ())))
  | .inr r => some r) (i_2, f_1, ())).bind fun (f_20, _) =>
  some (f_20, ())

/-- sparse/etree.Parent -/
noncomputable def d_etree_Parent : (((List (List Int)) × Unit) × Unit) → Option ((List Int) × Int × Unit) := fun (g_1, _) =>
  (d_graph_Check (g_1, ())).bind fun (r13, _) =>
  (bif (r13 != ((0) : Int)) then (
  some ([], r13, ())) else (
  (d_etree_newForest ((((g_1.1).length : Nat) : Int), ())).bind fun (r14, _) =>
  (loop (σ := (Int × ((List Int) × ((List Int) × Unit)) × Unit)) (ρ := (((List Int) × ((List Int) × Unit)) × Unit)) (fun (s_15, f_16, _) =>
  (bif (decide (s_15 < (((g_1.1).length : Nat) : Int))) then (
  (getI g_1.1 s_15).bind fun y17 =>
  (loop (σ := (Int × ((List Int) × ((List Int) × Unit)) × Unit)) (ρ := (((List Int) × ((List Int) × Unit)) × Unit)) (fun (s_18, f_19, _) =>
  (bif (decide (s_18 < (((y17).length : Nat) : Int))) then (
  (getI y17 s_18).bind fun y20 =>
  (d_etree_forest_join (f_19, y20, s_15, ())).bind fun (m21, _) =>
  some (.inl ((IntKind.i64.wrap (s_18 + ((1) : Int))), m21, ()))) else (
  some (.inr (f_19, ()))))) (((0) : Int), f_16, ())).bind fun (f_22, _) =>
  some (.inl ((IntKind.i64.wrap (s_15 + ((1) : Int))), f_22, ()))) else (
  some (.inr (f_16, ()))))) (((0) : Int), r14, ())).bind fun (f_23, _) =>
  some (f_23.1, ((0) : Int), ())))

/-- sparse/symbolic.row -/
noncomputable def d_symbolic_row : (((List (List Int)) × Unit) × (List Int) × Int × Unit) → Option ((List Int) × Unit) := fun (g_1, parent_2, i_3, _) =>
  (madeO (IntKind.i64.wrap (i_3 + ((1) : Int))) (IntKind.i64.wrap (i_3 + ((1) : Int)))).bind fun n24 =>
  (idxN ((List.replicate n24 false)).length i_3).bind fun k25 =>
  ((atO (List.replicate n24 false) k25 fun _ => some (((List.replicate n24 false)).set k25 true))).bind fun z27 =>
  (getI g_1.1 i_3).bind fun y28 =>
  (loop (σ := (Int × (List Bool) × Unit)) (ρ := ((List Bool) × Unit)) (fun (s_29, marked_30, _) =>
  (bif (decide (s_29 < (((y28).length : Nat) : Int))) then (
  (getI y28 s_29).bind fun y31 =>
  (loop (σ := (Int × (List Bool) × Unit)) (ρ := ((List Bool) × Unit)) (fun (j_32, marked_33, _) =>
  Option.bind (α := ((List Bool) × Unit) ⊕ ((Int × (List Bool) × Unit) ⊕ ((List Bool) × Unit))) (
  (bif ((decide (j_32 ≥ ((0) : Int))) == true) then ((bif ((decide (j_32 < i_3)) == true) then ((idxN (marked_33).length j_32).bind fun k34 =>
  ((atO marked_33 k34 fun e35 => some e35)).bind fun y36 =>
  (bif (!y36) then (
  some (.inl (marked_33, ()))) else (
  some (.inr (.inr (marked_33, ())))))) else (some (.inr (.inr (marked_33, ())))))) else (some (.inr (.inr (marked_33, ())))))) fun q => match q with
  | .inl (marked_37, _) => (
  (idxN (marked_37).length j_32).bind fun k38 =>
  ((atO marked_37 k38 fun _ => some ((marked_37).set k38 true))).bind fun z40 =>
  (getI parent_2 j_32).bind fun y41 =>
  some (.inl (y41, z40, ())))
  | .inr r => some r) (y31, marked_30, ())).bind fun (marked_42, _) =>
  some (.inl ((IntKind.i64.wrap (s_29 + ((1) : Int))), marked_42, ()))) else (
  some (.inr (marked_30, ()))))) (((0) : Int), z27, ())).bind fun (marked_43, _) =>
  (loop (σ := (Int × (List Bool) × (List Int) × Unit)) (ρ := ((List Int) × Unit)) (fun (s_44, marked_45, out_46, _) =>
  (bif (decide (s_44 < (((marked_43).length : Nat) : Int))) then (
  Option.bind (α := ((List Bool) × (List Int) × Unit)) (
  (idxN (marked_45).length s_44).bind fun k47 =>
  ((atO marked_45 k47 fun e48 => some e48)).bind fun y49 =>
  (bif y49 then (
  (limO ((out_46).length + ([s_44]).length)).bind fun _ =>
  some (marked_45, (out_46 ++ [s_44]), ())) else (
  some (marked_45, out_46, ())))) fun (marked_50, out_51, _) =>
  some (.inl ((IntKind.i64.wrap (s_44 + ((1) : Int))), marked_50, out_51, ()))) else (
  some (.inr (out_46, ()))))) (((0) : Int), marked_43, [], ())).bind fun (out_52, _) =>
  some (out_52, ())

/-- sparse/symbolic.Columns -/
noncomputable def d_symbolic_Columns : (((List (List Int)) × Unit) × Unit) → Option ((List (List Int)) × Int × Unit) := fun (g_1, _) =>
  (d_etree_Parent (g_1, ())).bind fun (r25, r26, _) =>
  (bif (r26 != ((0) : Int)) then (
  some ([], r26, ())) else (
  (madeO (((r25).length : Nat) : Int) (((r25).length : Nat) : Int)).bind fun n27 =>
  (loop (σ := (Int × (List (List Int)) × Unit)) (ρ := ((List (List Int)) × Unit)) (fun (s_28, out_29, _) =>
  (bif (decide (s_28 < (((r25).length : Nat) : Int))) then (
  (d_symbolic_row (g_1, r25, s_28, ())).bind fun (r30, _) =>
  (loop (σ := (Int × (List (List Int)) × (List Int) × Unit)) (ρ := ((List (List Int)) × Unit)) (fun (s_31, out_32, s_33, _) =>
  (bif (decide (s_31 < (((r30).length : Nat) : Int))) then (
  (idxN (s_33).length s_31).bind fun k34 =>
  ((atO s_33 k34 fun e35 => some e35)).bind fun y36 =>
  (idxN (out_32).length y36).bind fun k37 =>
  ((atO out_32 k37 fun e39 => some e39)).bind fun xs40 =>
  (limO ((xs40).length + ([s_28]).length)).bind fun _ =>
  (idxN (out_32).length y36).bind fun k41 =>
  (bif (Nat.beq k37 k41 && true) then (
  ((atO out_32 k41 fun e42 => some e42)).bind fun xs43 =>
  ((atO out_32 k41 fun _ => some ((out_32).set k41 (xs43 ++ [s_28])))).bind fun z45 =>
  some (.inl ((IntKind.i64.wrap (s_31 + ((1) : Int))), z45, s_33, ()))) else none)) else (
  some (.inr (out_32, ()))))) (((0) : Int), out_29, r30, ())).bind fun (out_46, _) =>
  some (.inl ((IntKind.i64.wrap (s_28 + ((1) : Int))), out_46, ()))) else (
  some (.inr (out_29, ()))))) (((0) : Int), (List.replicate n27 []), ())).bind fun (out_47, _) =>
  some (out_47, ((0) : Int), ())))

/-- sparse/symbolic.column -/
noncomputable def d_symbolic_column : ((List Int) × Int × Int × Unit) → Option (Bool × Unit) := fun (l_1, j_2, n_3, _) =>
  Option.bind (α := Unit ⊕ (Bool × Unit)) (
  (bif (((((l_1).length : Nat) : Int) == ((0) : Int)) == false) then ((getI l_1 ((0) : Int)).bind fun y4 =>
  (bif (y4 != j_2) then (
  some (.inr (false, ()))) else (
  some (.inl ())))) else (some (.inr (false, ()))))) fun q => match q with
  | .inl _ => (
  (loop (σ := (Int × Unit)) (ρ := (Unit ⊕ (Bool × Unit))) (fun (s_5, _) =>
  (bif (decide (s_5 < (((l_1).length : Nat) : Int))) then (
  Option.bind (α := Unit ⊕ ((Int × Unit) ⊕ (Unit ⊕ (Bool × Unit)))) (
  (getI l_1 s_5).bind fun y6 =>
  (bif ((decide (y6 ≥ n_3)) == false) then ((bif ((decide (s_5 > ((0) : Int))) == true) then ((getI l_1 (IntKind.i64.wrap (s_5 - ((1) : Int)))).bind fun y7 =>
  (bif (decide (y6 ≤ y7)) then (
  some (.inr (.inr (.inr (false, ()))))) else (
  some (.inl ())))) else (some (.inl ())))) else (some (.inr (.inr (.inr (false, ()))))))) fun q => match q with
  | .inl _ => (
  some (.inl ((IntKind.i64.wrap (s_5 + ((1) : Int))), ())))
  | .inr r => some r) else (
  some (.inr (.inl ()))))) (((0) : Int), ())).bind fun q => match q with
  | .inl _ => (
  some (true, ()))
  | .inr r => some r)
  | .inr r => some r

/-- sparse/symbolic.Reach -/
noncomputable def d_symbolic_Reach : ((List (List Int)) × (List Int) × Unit) → Option ((List Int) × Int × Unit) := fun (cols_1, b_2, _) =>
  (bif (decide ((((cols_1).length : Nat) : Int) > ((200) : Int))) then (
  some ([], ((6) : Int), ())) else (
  (loop (σ := (Int × Unit)) (ρ := (Unit ⊕ ((List Int) × Int × Unit))) (fun (s_52, _) =>
  (bif (decide (s_52 < (((cols_1).length : Nat) : Int))) then (
  (getI cols_1 s_52).bind fun y53 =>
  (d_symbolic_column (y53, s_52, (((cols_1).length : Nat) : Int), ())).bind fun (r54, _) =>
  (bif (!r54) then (
  some (.inr (.inr ([], ((1) : Int), ())))) else (
  some (.inl ((IntKind.i64.wrap (s_52 + ((1) : Int))), ()))))) else (
  some (.inr (.inl ()))))) (((0) : Int), ())).bind fun q => match q with
  | .inl _ => (
  (madeO (((cols_1).length : Nat) : Int) (((cols_1).length : Nat) : Int)).bind fun n55 =>
  (loop (σ := (Int × (List Bool) × Unit)) (ρ := (((List Bool) × Unit) ⊕ ((List Int) × Int × Unit))) (fun (s_56, marked_57, _) =>
  (bif (decide (s_56 < (((b_2).length : Nat) : Int))) then (
  Option.bind (α := ((List Bool) × Unit) ⊕ ((Int × (List Bool) × Unit) ⊕ (((List Bool) × Unit) ⊕ ((List Int) × Int × Unit)))) (
  (getI b_2 s_56).bind fun y58 =>
  Option.bind (α := ((List Bool) × Unit) ⊕ (((List Bool) × Unit) ⊕ ((Int × (List Bool) × Unit) ⊕ (((List Bool) × Unit) ⊕ ((List Int) × Int × Unit))))) (
  Option.bind (α := (Bool × (List Bool) × Unit)) (
  (bif ((decide (y58 < ((0) : Int))) == false) then (some ((decide (y58 ≥ (((cols_1).length : Nat) : Int))), marked_57, ())) else (some (true, marked_57, ())))) fun (s_59, marked_60, _) =>
  (bif s_59 then (
  some (.inr (.inr (.inr (.inr ([], ((3) : Int), ())))))) else (
  some (.inl (marked_60, ()))))) fun q => match q with
  | .inl (marked_61, _) => (
  (idxN (marked_61).length y58).bind fun k62 =>
  ((atO marked_61 k62 fun _ => some ((marked_61).set k62 true))).bind fun z64 =>
  some (.inl (z64, ())))
  | .inr r => some r) fun q => match q with
  | .inl (marked_65, _) => (
  some (.inl ((IntKind.i64.wrap (s_56 + ((1) : Int))), marked_65, ())))
  | .inr r => some r) else (
  some (.inr (.inl (marked_57, ())))))) (((0) : Int), (List.replicate n55 false), ())).bind fun q => match q with
  | .inl (marked_66, _) => (
  (loop (σ := (Int × (List Bool) × (List Int) × Unit)) (ρ := ((List Int) × Unit)) (fun (s_67, marked_68, out_69, _) =>
  (bif (decide (s_67 < (((cols_1).length : Nat) : Int))) then (
  Option.bind (α := ((List Bool) × (List Int) × Unit)) (
  (getI cols_1 s_67).bind fun y70 =>
  (idxN (marked_68).length s_67).bind fun k71 =>
  ((atO marked_68 k71 fun e72 => some e72)).bind fun y73 =>
  (bif (!y73) then (
  some (marked_68, out_69, ())) else (
  (limO ((out_69).length + ([s_67]).length)).bind fun _ =>
  (loop (σ := (Int × (List Bool) × (List Int) × Unit)) (ρ := ((List Bool) × (List Int) × Unit)) (fun (s_74, marked_75, out_76, _) =>
  (bif (decide (s_74 < (((y70).length : Nat) : Int))) then (
  (getI y70 s_74).bind fun y77 =>
  (idxN (marked_75).length y77).bind fun k78 =>
  ((atO marked_75 k78 fun _ => some ((marked_75).set k78 true))).bind fun z80 =>
  some (.inl ((IntKind.i64.wrap (s_74 + ((1) : Int))), z80, out_76, ()))) else (
  some (.inr (marked_75, out_76, ()))))) (((0) : Int), marked_68, (out_69 ++ [s_67]), ())).bind fun (marked_81, out_82, _) =>
  some (marked_81, out_82, ())))) fun (marked_83, out_84, _) =>
  some (.inl ((IntKind.i64.wrap (s_67 + ((1) : Int))), marked_83, out_84, ()))) else (
  some (.inr (out_69, ()))))) (((0) : Int), marked_66, [], ())).bind fun (out_85, _) =>
  some (out_85, ((0) : Int), ()))
  | .inr r => some r)
  | .inr r => some r))

/-- sparse/sparsekit.Ints -/
noncomputable def d_sparsekit_Ints : ((List Int) × (List Int) × Unit) → Option (Bool × Unit) := fun (a_1, b_2, _) =>
  (bif ((((a_1).length : Nat) : Int) != (((b_2).length : Nat) : Int)) then (
  some (false, ())) else (
  (loop (σ := (Int × Unit)) (ρ := (Unit ⊕ (Bool × Unit))) (fun (i_3, _) =>
  (bif (decide (i_3 < (((a_1).length : Nat) : Int))) then (
  (getI a_1 i_3).bind fun y4 =>
  (getI b_2 i_3).bind fun y5 =>
  (bif (y4 != y5) then (
  some (.inr (.inr (false, ())))) else (
  some (.inl ((IntKind.i64.wrap (i_3 + ((1) : Int))), ()))))) else (
  some (.inr (.inl ()))))) (((0) : Int), ())).bind fun q => match q with
  | .inl _ => (
  some (true, ()))
  | .inr r => some r))

/-- sparse/sparsekit.Lists -/
noncomputable def d_sparsekit_Lists : ((List (List Int)) × (List (List Int)) × Unit) → Option (Bool × Unit) := fun (a_1, b_2, _) =>
  (bif ((((a_1).length : Nat) : Int) != (((b_2).length : Nat) : Int)) then (
  some (false, ())) else (
  (loop (σ := (Int × Unit)) (ρ := (Unit ⊕ (Bool × Unit))) (fun (i_3, _) =>
  (bif (decide (i_3 < (((a_1).length : Nat) : Int))) then (
  (getI a_1 i_3).bind fun y4 =>
  (getI b_2 i_3).bind fun y5 =>
  (d_sparsekit_Ints (y4, y5, ())).bind fun (r6, _) =>
  (bif (!r6) then (
  some (.inr (.inr (false, ())))) else (
  some (.inl ((IntKind.i64.wrap (i_3 + ((1) : Int))), ()))))) else (
  some (.inr (.inl ()))))) (((0) : Int), ())).bind fun q => match q with
  | .inl _ => (
  some (true, ()))
  | .inr r => some r))

/-- sparse/sparselaw20.awake -/
noncomputable def d_sparselaw20q_awake : Unit → Option (Bool × Unit) := fun _ =>
  (d_symbolic_Columns (([[((1) : Int), ((2) : Int)], [((0) : Int)], [((0) : Int)]], ()), ())).bind fun (r1, r2, _) =>
  (d_symbolic_Reach (r1, [((1) : Int)], ())).bind fun (r3, r4, _) =>
  (bif ((r2 == ((0) : Int)) == true) then ((bif ((r4 == ((0) : Int)) == true) then ((d_sparsekit_Lists (r1, [[((0) : Int), ((1) : Int), ((2) : Int)], [((1) : Int), ((2) : Int)], [((2) : Int)]], ())).bind fun (r5, _) =>
  (bif (r5 == true) then ((d_sparsekit_Ints (r3, [((1) : Int), ((2) : Int)], ())).bind fun (r6, _) =>
  some (r6, ())) else (some (false, ())))) else (some (false, ())))) else (some (false, ())))

/-- sparse/sparsekit.TwinInts -/
noncomputable def d_sparsekit_TwinInts : ((List Int) × Unit) → Option ((List Int) × Unit) := fun (a_1, _) =>
  (loop (σ := (Int × (List Int) × Unit)) (ρ := ((List Int) × Unit)) (fun (i_2, out_3, _) =>
  (bif (decide (i_2 < (((a_1).length : Nat) : Int))) then (
  (getI a_1 i_2).bind fun y4 =>
  (limO ((out_3).length + ([y4]).length)).bind fun _ =>
  some (.inl ((IntKind.i64.wrap (i_2 + ((1) : Int))), (out_3 ++ [y4]), ()))) else (
  some (.inr (out_3, ()))))) (((0) : Int), [], ())).bind fun (out_5, _) =>
  some (out_5, ())

/-- sparse/sparsekit.TwinLists -/
noncomputable def d_sparsekit_TwinLists : ((List (List Int)) × Unit) → Option ((List (List Int)) × Unit) := fun (a_1, _) =>
  (loop (σ := (Int × (List (List Int)) × Unit)) (ρ := ((List (List Int)) × Unit)) (fun (i_2, out_3, _) =>
  (bif (decide (i_2 < (((a_1).length : Nat) : Int))) then (
  (getI a_1 i_2).bind fun y4 =>
  (d_sparsekit_TwinInts (y4, ())).bind fun (r5, _) =>
  (limO ((out_3).length + ([r5]).length)).bind fun _ =>
  some (.inl ((IntKind.i64.wrap (i_2 + ((1) : Int))), (out_3 ++ [r5]), ()))) else (
  some (.inr (out_3, ()))))) (((0) : Int), [], ())).bind fun (out_6, _) =>
  some (out_6, ())

/-- sparse/sparsekit.Ascending -/
noncomputable def d_sparsekit_Ascending : ((List Int) × Unit) → Option (Bool × Unit) := fun (l_1, _) =>
  (loop (σ := (Int × Unit)) (ρ := (Unit ⊕ (Bool × Unit))) (fun (i_2, _) =>
  (bif (decide (i_2 < (((l_1).length : Nat) : Int))) then (
  (getI l_1 i_2).bind fun y3 =>
  (getI l_1 (IntKind.i64.wrap (i_2 - ((1) : Int)))).bind fun y4 =>
  (bif (decide (y3 ≤ y4)) then (
  some (.inr (.inr (false, ())))) else (
  some (.inl ((IntKind.i64.wrap (i_2 + ((1) : Int))), ()))))) else (
  some (.inr (.inl ()))))) (((1) : Int), ())).bind fun q => match q with
  | .inl _ => (
  some (true, ()))
  | .inr r => some r

/-- sparse/sparseref20.Reach -/
noncomputable def d_sparseref20q_Reach : ((List (List Int)) × (List Int) × Unit) → Option ((List Int) × Int × Unit) := fun (cols_1, b_2, _) =>
  (bif (decide ((((cols_1).length : Nat) : Int) > ((200) : Int))) then (
  some ([], ((6) : Int), ())) else (
  (loop (σ := (Int × Unit)) (ρ := (Unit ⊕ ((List Int) × Int × Unit))) (fun (j_63, _) =>
  (bif (decide (j_63 < (((cols_1).length : Nat) : Int))) then (
  Option.bind (α := Unit ⊕ ((Int × Unit) ⊕ (Unit ⊕ ((List Int) × Int × Unit)))) (
  (getI cols_1 j_63).bind fun y64 =>
  Option.bind (α := (Bool × Unit)) (
  (bif (((((y64).length : Nat) : Int) == ((0) : Int)) == false) then ((getI y64 ((0) : Int)).bind fun y65 =>
  (bif ((y65 != j_63) == false) then ((d_sparsekit_Ascending (y64, ())).bind fun (r66, _) =>
  (bif ((!r66) == false) then ((getI y64 (IntKind.i64.wrap ((((y64).length : Nat) : Int) - ((1) : Int)))).bind fun y67 =>
  some ((decide (y67 ≥ (((cols_1).length : Nat) : Int))), ())) else (some (true, ())))) else (some (true, ())))) else (some (true, ())))) fun (s_68, _) =>
  (bif s_68 then (
  some (.inr (.inr (.inr ([], ((1) : Int), ()))))) else (
  some (.inl ())))) fun q => match q with
  | .inl _ => (
  some (.inl ((IntKind.i64.wrap (j_63 + ((1) : Int))), ())))
  | .inr r => some r) else (
  some (.inr (.inl ()))))) (((0) : Int), ())).bind fun q => match q with
  | .inl _ => (
  (madeO (((cols_1).length : Nat) : Int) (((cols_1).length : Nat) : Int)).bind fun n69 =>
  (loop (σ := (Int × (List Bool) × Unit)) (ρ := (((List Bool) × Unit) ⊕ ((List Int) × Int × Unit))) (fun (k_70, in_71, _) =>
  (bif (decide (k_70 < (((b_2).length : Nat) : Int))) then (
  Option.bind (α := ((List Bool) × Unit) ⊕ ((Int × (List Bool) × Unit) ⊕ (((List Bool) × Unit) ⊕ ((List Int) × Int × Unit)))) (
  Option.bind (α := ((List Bool) × Unit) ⊕ (((List Bool) × Unit) ⊕ ((Int × (List Bool) × Unit) ⊕ (((List Bool) × Unit) ⊕ ((List Int) × Int × Unit))))) (
  Option.bind (α := (Bool × (List Bool) × Unit)) (
  (getI b_2 k_70).bind fun y72 =>
  (bif ((decide (y72 < ((0) : Int))) == false) then ((getI b_2 k_70).bind fun y73 =>
  some ((decide (y73 ≥ (((cols_1).length : Nat) : Int))), in_71, ())) else (some (true, in_71, ())))) fun (s_74, in_75, _) =>
  (bif s_74 then (
  some (.inr (.inr (.inr (.inr ([], ((3) : Int), ())))))) else (
  some (.inl (in_75, ()))))) fun q => match q with
  | .inl (in_76, _) => (
  (getI b_2 k_70).bind fun y77 =>
  (idxN (in_76).length y77).bind fun k78 =>
  ((atO in_76 k78 fun _ => some ((in_76).set k78 true))).bind fun z80 =>
  some (.inl (z80, ())))
  | .inr r => some r) fun q => match q with
  | .inl (in_81, _) => (
  some (.inl ((IntKind.i64.wrap (k_70 + ((1) : Int))), in_81, ())))
  | .inr r => some r) else (
  some (.inr (.inl (in_71, ())))))) (((0) : Int), (List.replicate n69 false), ())).bind fun q => match q with
  | .inl (in_82, _) => (
  (loop (σ := (Int × (List Bool) × (List Int) × Unit)) (ρ := ((List Int) × Unit)) (fun (j_83, in_84, out_85, _) =>
  (bif (decide (j_83 < (((cols_1).length : Nat) : Int))) then (
  Option.bind (α := ((List Bool) × (List Int) × Unit)) (
  (idxN (in_84).length j_83).bind fun k86 =>
  ((atO in_84 k86 fun e87 => some e87)).bind fun y88 =>
  (bif (!y88) then (
  some (in_84, out_85, ())) else (
  (limO ((out_85).length + ([j_83]).length)).bind fun _ =>
  (loop (σ := (Int × (List Bool) × (List Int) × Unit)) (ρ := ((List Bool) × (List Int) × Unit)) (fun (k_89, in_90, out_91, _) =>
  (getI cols_1 j_83).bind fun y92 =>
  (bif (decide (k_89 < (((y92).length : Nat) : Int))) then (
  (getI cols_1 j_83).bind fun y93 =>
  (getI y93 k_89).bind fun y94 =>
  (idxN (in_90).length y94).bind fun k95 =>
  ((atO in_90 k95 fun _ => some ((in_90).set k95 true))).bind fun z97 =>
  some (.inl ((IntKind.i64.wrap (k_89 + ((1) : Int))), z97, out_91, ()))) else (
  some (.inr (in_90, out_91, ()))))) (((0) : Int), in_84, (out_85 ++ [j_83]), ())).bind fun (in_98, out_99, _) =>
  some (in_98, out_99, ())))) fun (in_100, out_101, _) =>
  some (.inl ((IntKind.i64.wrap (j_83 + ((1) : Int))), in_100, out_101, ()))) else (
  some (.inr (out_85, ()))))) (((0) : Int), in_82, [], ())).bind fun (out_102, _) =>
  some (out_102, ((0) : Int), ()))
  | .inr r => some r)
  | .inr r => some r))

/-- sparse/sparselaw20.SymbolicReach -/
noncomputable def d_sparselaw20q_SymbolicReach : ((List (List Int)) × (List Int) × Unit) → Option (Bool × Unit) := fun (cols_1, b_2, _) =>
  Option.bind (α := Unit ⊕ (Bool × Unit)) (
  Option.bind (α := (Bool × Unit)) (
  (bif ((decide ((((cols_1).length : Nat) : Int) > ((12) : Int))) == true) then ((bif ((decide ((((cols_1).length : Nat) : Int) ≤ ((200) : Int))) == false) then ((bif ((decide ((((cols_1).length : Nat) : Int) > ((400) : Int))) == false) then (some ((decide ((((b_2).length : Nat) : Int) > ((20) : Int))), ())) else (some (true, ())))) else (some (true, ())))) else ((bif ((decide ((((cols_1).length : Nat) : Int) > ((400) : Int))) == false) then (some ((decide ((((b_2).length : Nat) : Int) > ((20) : Int))), ())) else (some (true, ())))))) fun (s_3, _) =>
  (bif s_3 then (
  (d_sparselaw20q_awake ()).bind fun (r4, _) =>
  some (.inr (r4, ()))) else (
  some (.inl ())))) fun q => match q with
  | .inl _ => (
  (loop (σ := (Int × Unit)) (ρ := (Unit ⊕ (Bool × Unit))) (fun (j_5, _) =>
  (bif (decide (j_5 < (((cols_1).length : Nat) : Int))) then (
  (getI cols_1 j_5).bind fun y6 =>
  (bif (decide ((((y6).length : Nat) : Int) > ((20) : Int))) then (
  (d_sparselaw20q_awake ()).bind fun (r7, _) =>
  some (.inr (.inr (r7, ())))) else (
  some (.inl ((IntKind.i64.wrap (j_5 + ((1) : Int))), ()))))) else (
  some (.inr (.inl ()))))) (((0) : Int), ())).bind fun q => match q with
  | .inl _ => (
  (d_sparsekit_TwinLists (cols_1, ())).bind fun (r8, _) =>
  (d_sparsekit_TwinInts (b_2, ())).bind fun (r9, _) =>
  (d_symbolic_Reach (r8, r9, ())).bind fun (r10, r11, _) =>
  (d_sparseref20q_Reach (cols_1, b_2, ())).bind fun (r12, r13, _) =>
  (d_sparsekit_Ints (r10, r12, ())).bind fun (r14, _) =>
  (bif (r14 == true) then ((bif ((r11 == r13) == true) then ((d_sparsekit_Lists (r8, cols_1, ())).bind fun (r15, _) =>
  (bif (r15 == true) then ((d_sparsekit_Ints (r9, b_2, ())).bind fun (r16, _) =>
  (bif (r16 == true) then ((d_sparselaw20q_awake ()).bind fun (r17, _) =>
  some (r17, ())) else (some (false, ())))) else (some (false, ())))) else (some (false, ())))) else (some (false, ()))))
  | .inr r => some r)
  | .inr r => some r

/-- sparse/sparsekit.Place -/
noncomputable def d_sparsekit_Place : (Int × Int × Unit) → Option (Int × Unit) := fun (a_1, n_2, _) =>
  (remO (IntKind.u64.wrap a_1) (IntKind.u64.wrap n_2)).bind fun y3 =>
  some ((IntKind.i64.wrap y3), ())

/-- sparse/sparseref12.FromTable -/
noncomputable def d_sparseref12q_FromTable : ((List (List Bool)) × Unit) → Option (((List (List Int)) × Unit) × Unit) := fun (t_1, _) =>
  (loop (σ := (Int × ((List (List Int)) × Unit) × ((List (List Int)) × Unit) × Unit)) (ρ := (((List (List Int)) × Unit) × ((List (List Int)) × Unit) × Unit)) (fun (v_26, s_27, g_28, _) =>
  (bif (decide (v_26 < (((t_1).length : Nat) : Int))) then (
  (loop (σ := (Int × ((List (List Int)) × Unit) × ((List (List Int)) × Unit) × (List Int) × Unit)) (ρ := (((List (List Int)) × Unit) × ((List (List Int)) × Unit) × (List Int) × Unit)) (fun (w_29, s_30, g_31, l_32, _) =>
  (bif (decide (w_29 < (((t_1).length : Nat) : Int))) then (
  Option.bind (α := (((List (List Int)) × Unit) × ((List (List Int)) × Unit) × (List Int) × Unit)) (
  Option.bind (α := (Bool × ((List (List Int)) × Unit) × ((List (List Int)) × Unit) × (List Int) × Unit)) (
  (bif ((v_26 != w_29) == true) then ((getI t_1 v_26).bind fun y33 =>
  (getI y33 w_29).bind fun y34 =>
  (bif (y34 == false) then ((getI t_1 w_29).bind fun y35 =>
  (getI y35 v_26).bind fun y36 =>
  some (y36, s_30, g_31, l_32, ())) else (some (true, s_30, g_31, l_32, ())))) else (some (false, s_30, g_31, l_32, ())))) fun (s_37, s_38, g_39, l_40, _) =>
  (bif s_37 then (
  (limO ((l_40).length + ([w_29]).length)).bind fun _ =>
  some (s_38, g_39, (l_40 ++ [w_29]), ())) else (
  some (s_38, g_39, l_40, ())))) fun (s_41, g_42, l_43, _) =>
  some (.inl ((IntKind.i64.wrap (w_29 + ((1) : Int))), s_41, g_42, l_43, ()))) else (
  some (.inr (s_30, g_31, l_32, ()))))) (((0) : Int), s_27, g_28, [], ())).bind fun (s_44, g_45, l_46, _) =>
  (limO ((g_45.1).length + ([l_46]).length)).bind fun _ =>
  some (.inl ((IntKind.i64.wrap (v_26 + ((1) : Int))), s_44, ((g_45.1 ++ [l_46]), g_45.2), ()))) else (
  some (.inr (s_27, g_28, ()))))) (((0) : Int), ([], ()), ([], ()), ())).bind fun (_, g_48, _) =>
  some (g_48, ())

/-- sparse/sparsemake.Graph -/
noncomputable def d_sparsemake_Graph : (Int × (List Int) × Unit) → Option (((List (List Int)) × Unit) × Unit) := fun (n_1, l_2, _) =>
  (loop (σ := (Int × ((List (List Int)) × Unit) × (List (List Bool)) × Unit)) (ρ := (((List (List Int)) × Unit) × (List (List Bool)) × Unit)) (fun (v_3, s_4, t_5, _) =>
  (bif (decide (v_3 < n_1)) then (
  (madeO n_1 n_1).bind fun n6 =>
  (limO ((t_5).length + ([(List.replicate n6 false)]).length)).bind fun _ =>
  some (.inl ((IntKind.i64.wrap (v_3 + ((1) : Int))), s_4, (t_5 ++ [(List.replicate n6 false)]), ()))) else (
  some (.inr (s_4, t_5, ()))))) (((0) : Int), ([], ()), [], ())).bind fun (s_7, t_8, _) =>
  (loop (σ := (Int × ((List (List Int)) × Unit) × (List (List Bool)) × Unit)) (ρ := (((List (List Int)) × Unit) × (List (List Bool)) × Unit)) (fun (i_9, s_10, t_11, _) =>
  Option.bind (α := (((List (List Int)) × Unit) × (List (List Bool)) × Unit) ⊕ ((Int × ((List (List Int)) × Unit) × (List (List Bool)) × Unit) ⊕ (((List (List Int)) × Unit) × (List (List Bool)) × Unit))) (
  (bif ((decide ((IntKind.i64.wrap (i_9 + ((1) : Int))) < (((l_2).length : Nat) : Int))) == true) then ((bif (decide (n_1 > ((0) : Int))) then (
  some (.inl (s_10, t_11, ()))) else (
  some (.inr (.inr (s_10, t_11, ())))))) else (some (.inr (.inr (s_10, t_11, ())))))) fun q => match q with
  | .inl (s_12, t_13, _) => (
  (getI l_2 i_9).bind fun y14 =>
  (d_sparsekit_Place (y14, n_1, ())).bind fun (r15, _) =>
  (idxN (t_13).length r15).bind fun k16 =>
  (getI l_2 (IntKind.i64.wrap (i_9 + ((1) : Int)))).bind fun y18 =>
  (d_sparsekit_Place (y18, n_1, ())).bind fun (r19, _) =>
  (((atO t_13 k16 fun e20 => some e20)).bind fun e21 => idxN (e21).length r19).bind fun k22 =>
  ((atO t_13 k16 fun e23 => ((atO e23 k22 fun _ => some ((e23).set k22 true))).map fun z25 => (t_13).set k16 z25)).bind fun z26 =>
  some (.inl ((IntKind.i64.wrap (i_9 + ((2) : Int))), s_12, z26, ())))
  | .inr r => some r) (((0) : Int), s_7, t_8, ())).bind fun (_, t_28, _) =>
  (d_sparseref12q_FromTable (t_28, ())).bind fun (r29, _) =>
  some (r29, ())

/-- sparse/symbolic.Counts -/
noncomputable def d_symbolic_Counts : (((List (List Int)) × Unit) × Unit) → Option ((List Int) × Int × Unit) := fun (g_1, _) =>
  (d_etree_Parent (g_1, ())).bind fun (r22, r23, _) =>
  (bif (r23 != ((0) : Int)) then (
  some ([], r23, ())) else (
  (madeO (((r22).length : Nat) : Int) (((r22).length : Nat) : Int)).bind fun n24 =>
  (loop (σ := (Int × (List Int) × Unit)) (ρ := ((List Int) × Unit)) (fun (s_25, out_26, _) =>
  (bif (decide (s_25 < (((r22).length : Nat) : Int))) then (
  (d_symbolic_row (g_1, r22, s_25, ())).bind fun (r27, _) =>
  (loop (σ := (Int × (List Int) × (List Int) × Unit)) (ρ := ((List Int) × Unit)) (fun (s_28, out_29, s_30, _) =>
  (bif (decide (s_28 < (((r27).length : Nat) : Int))) then (
  (idxN (s_30).length s_28).bind fun k31 =>
  ((atO s_30 k31 fun e32 => some e32)).bind fun y33 =>
  (idxN (out_29).length y33).bind fun k34 =>
  ((atO out_29 k34 fun e35 => some e35)).bind fun y36 =>
  (idxN (out_29).length y33).bind fun k37 =>
  ((atO out_29 k37 fun _ => some ((out_29).set k37 (IntKind.i64.wrap (y36 + ((1) : Int)))))).bind fun z39 =>
  some (.inl ((IntKind.i64.wrap (s_28 + ((1) : Int))), z39, s_30, ()))) else (
  some (.inr (out_29, ()))))) (((0) : Int), out_26, r27, ())).bind fun (out_40, _) =>
  some (.inl ((IntKind.i64.wrap (s_25 + ((1) : Int))), out_40, ()))) else (
  some (.inr (out_26, ()))))) (((0) : Int), (List.replicate n24 (0 : Int)), ())).bind fun (out_41, _) =>
  some (out_41, ((0) : Int), ())))

/-- sparse/symbolic.Row -/
noncomputable def d_symbolic_Row : (((List (List Int)) × Unit) × Int × Unit) → Option ((List Int) × Int × Unit) := fun (g_1, i_2, _) =>
  (d_etree_Parent (g_1, ())).bind fun (r7, r8, _) =>
  Option.bind (α := Unit ⊕ ((List Int) × Int × Unit)) (
  (bif (r8 != ((0) : Int)) then (
  some (.inr ([], r8, ()))) else (
  Option.bind (α := (Bool × Unit)) (
  (bif ((decide (i_2 < ((0) : Int))) == false) then (some ((decide (i_2 ≥ (((r7).length : Nat) : Int))), ())) else (some (true, ())))) fun (s_9, _) =>
  (bif s_9 then (
  some (.inr ([], ((3) : Int), ()))) else (
  some (.inl ())))))) fun q => match q with
  | .inl _ => (
  (d_symbolic_row (g_1, r7, i_2, ())).bind fun (r10, _) =>
  some (r10, ((0) : Int), ()))
  | .inr r => some r

/-- sparse/sparsekit.In -/
noncomputable def d_sparsekit_In : ((List Int) × Int × Unit) → Option (Bool × Unit) := fun (l_1, v_2, _) =>
  (loop (σ := (Int × Unit)) (ρ := (Unit ⊕ (Bool × Unit))) (fun (i_3, _) =>
  (bif (decide (i_3 < (((l_1).length : Nat) : Int))) then (
  (getI l_1 i_3).bind fun y4 =>
  (bif (y4 == v_2) then (
  some (.inr (.inr (true, ())))) else (
  some (.inl ((IntKind.i64.wrap (i_3 + ((1) : Int))), ()))))) else (
  some (.inr (.inl ()))))) (((0) : Int), ())).bind fun q => match q with
  | .inl _ => (
  some (false, ()))
  | .inr r => some r

/-- sparse/sparselaw20.SymbolicRows -/
noncomputable def d_sparselaw20q_SymbolicRows : (Int × (List Int) × Unit) → Option (Bool × Unit) := fun (n_1, l_2, _) =>
  (bif (decide ((((l_2).length : Nat) : Int) > ((80) : Int))) then (
  (d_sparselaw20q_awake ()).bind fun (r3, _) =>
  some (r3, ())) else (
  (d_sparsekit_Place (n_1, ((13) : Int), ())).bind fun (r4, _) =>
  (d_sparsemake_Graph (r4, l_2, ())).bind fun (r5, _) =>
  (d_symbolic_Columns (r5, ())).bind fun (r6, r7, _) =>
  (d_symbolic_Counts (r5, ())).bind fun (r8, r9, _) =>
  Option.bind (α := (((List (List Int)) × Unit) × Unit) ⊕ (Bool × Unit)) (
  (bif ((r7 != ((0) : Int)) == false) then ((bif ((r9 != ((0) : Int)) == false) then ((bif (((((r6).length : Nat) : Int) != r4) == false) then ((bif ((((r8).length : Nat) : Int) != r4) then (
  some (.inr (false, ()))) else (
  some (.inl (r5, ()))))) else (some (.inr (false, ()))))) else (some (.inr (false, ()))))) else (some (.inr (false, ()))))) fun q => match q with
  | .inl (g_10, _) => (
  (loop (σ := (Int × Int × ((List (List Int)) × Unit) × Unit)) (ρ := ((Int × Unit) ⊕ (Bool × Unit))) (fun (sum_11, i_12, g_13, _) =>
  (bif (decide (i_12 < r4)) then (
  Option.bind (α := (Int × ((List (List Int)) × Unit) × Unit) ⊕ ((Int × Int × ((List (List Int)) × Unit) × Unit) ⊕ ((Int × Unit) ⊕ (Bool × Unit)))) (
  (d_symbolic_Row (g_13, i_12, ())).bind fun (r14, r15, _) =>
  Option.bind (α := (((List (List Int)) × Unit) × Unit) ⊕ ((Int × ((List (List Int)) × Unit) × Unit) ⊕ ((Int × Int × ((List (List Int)) × Unit) × Unit) ⊕ ((Int × Unit) ⊕ (Bool × Unit))))) (
  (bif ((r15 != ((0) : Int)) == false) then ((d_sparsekit_Ascending (r14, ())).bind fun (r16, _) =>
  (bif ((!r16) == false) then ((getI r8 i_12).bind fun y17 =>
  (getI r6 i_12).bind fun y18 =>
  (bif (y17 != (((y18).length : Nat) : Int)) then (
  some (.inr (.inr (.inr (.inr (false, ())))))) else (
  some (.inl (g_13, ()))))) else (some (.inr (.inr (.inr (.inr (false, ())))))))) else (some (.inr (.inr (.inr (.inr (false, ())))))))) fun q => match q with
  | .inl (g_19, _) => (
  (getI r8 i_12).bind fun y20 =>
  (loop (σ := (Int × ((List (List Int)) × Unit) × Unit)) (ρ := ((((List (List Int)) × Unit) × Unit) ⊕ ((Int × ((List (List Int)) × Unit) × Unit) ⊕ ((Int × Int × ((List (List Int)) × Unit) × Unit) ⊕ ((Int × Unit) ⊕ (Bool × Unit)))))) (fun (j_21, g_22, _) =>
  (bif (decide (j_21 < r4)) then (
  (d_sparsekit_In (r14, j_21, ())).bind fun (r23, _) =>
  (getI r6 j_21).bind fun y24 =>
  (d_sparsekit_In (y24, i_12, ())).bind fun (r25, _) =>
  (bif (!(r23 == r25)) then (
  some (.inr (.inr (.inr (.inr (.inr (false, ()))))))) else (
  some (.inl ((IntKind.i64.wrap (j_21 + ((1) : Int))), g_22, ()))))) else (
  some (.inr (.inl (g_22, ())))))) (((0) : Int), g_19, ())).bind fun q => match q with
  | .inl (g_26, _) => (
  some (.inl ((IntKind.i64.wrap ((IntKind.i64.wrap (sum_11 + y20)) - (((r14).length : Nat) : Int))), g_26, ())))
  | .inr r => some r)
  | .inr r => some r) fun q => match q with
  | .inl (sum_27, g_28, _) => (
  some (.inl (sum_27, (IntKind.i64.wrap (i_12 + ((1) : Int))), g_28, ())))
  | .inr r => some r) else (
  some (.inr (.inl (sum_11, ())))))) (((0) : Int), ((0) : Int), g_10, ())).bind fun q => match q with
  | .inl (sum_29, _) => (
  (bif ((sum_29 == ((0) : Int)) == true) then ((d_sparselaw20q_awake ()).bind fun (r30, _) =>
  some (r30, ())) else (some (false, ()))))
  | .inr r => some r)
  | .inr r => some r))

/-- sparse/sparseref12.Check -/
noncomputable def d_sparseref12q_Check : (((List (List Int)) × Unit) × Unit) → Option (Int × Unit) := fun (g_1, _) =>
  (bif (decide ((((g_1.1).length : Nat) : Int) > ((200) : Int))) then (
  some (((6) : Int), ())) else (
  (loop (σ := (Int × Unit)) (ρ := (Unit ⊕ (Int × Unit))) (fun (v_2, _) =>
  (bif (decide (v_2 < (((g_1.1).length : Nat) : Int))) then (
  (getI g_1.1 v_2).bind fun y3 =>
  (d_sparsekit_Ascending (y3, ())).bind fun (r4, _) =>
  (bif (!r4) then (
  some (.inr (.inr (((1) : Int), ())))) else (
  (loop (σ := (Int × Unit)) (ρ := (Unit ⊕ ((Int × Unit) ⊕ (Unit ⊕ (Int × Unit))))) (fun (k_5, _) =>
  (getI g_1.1 v_2).bind fun y6 =>
  (bif (decide (k_5 < (((y6).length : Nat) : Int))) then (
  Option.bind (α := Unit ⊕ ((Int × Unit) ⊕ (Unit ⊕ ((Int × Unit) ⊕ (Unit ⊕ (Int × Unit)))))) (
  (getI g_1.1 v_2).bind fun y7 =>
  (getI y7 k_5).bind fun y8 =>
  (bif ((decide (y8 < ((0) : Int))) == false) then ((bif ((decide (y8 ≥ (((g_1.1).length : Nat) : Int))) == false) then ((bif ((y8 == v_2) == false) then ((getI g_1.1 y8).bind fun y9 =>
  (d_sparsekit_In (y9, v_2, ())).bind fun (r10, _) =>
  (bif (!r10) then (
  some (.inr (.inr (.inr (.inr (.inr (((1) : Int), ()))))))) else (
  some (.inl ())))) else (some (.inr (.inr (.inr (.inr (.inr (((1) : Int), ()))))))))) else (some (.inr (.inr (.inr (.inr (.inr (((1) : Int), ()))))))))) else (some (.inr (.inr (.inr (.inr (.inr (((1) : Int), ()))))))))) fun q => match q with
  | .inl _ => (
  some (.inl ((IntKind.i64.wrap (k_5 + ((1) : Int))), ())))
  | .inr r => some r) else (
  some (.inr (.inl ()))))) (((0) : Int), ())).bind fun q => match q with
  | .inl _ => (
  some (.inl ((IntKind.i64.wrap (v_2 + ((1) : Int))), ())))
  | .inr r => some r))) else (
  some (.inr (.inl ()))))) (((0) : Int), ())).bind fun q => match q with
  | .inl _ => (
  some (((0) : Int), ()))
  | .inr r => some r))

/-- sparse/sparseref09.Range -/
noncomputable def d_sparseref09q_Range : ((List Int) × Int × Unit) → Option (Bool × Unit) := fun (l_1, n_2, _) =>
  (loop (σ := (Int × Unit)) (ρ := (Unit ⊕ (Bool × Unit))) (fun (i_3, _) =>
  (bif (decide (i_3 < (((l_1).length : Nat) : Int))) then (
  Option.bind (α := Unit ⊕ ((Int × Unit) ⊕ (Unit ⊕ (Bool × Unit)))) (
  (getI l_1 i_3).bind fun y4 =>
  (bif ((decide (y4 < ((0) : Int))) == false) then ((getI l_1 i_3).bind fun y5 =>
  (bif (decide (y5 ≥ n_2)) then (
  some (.inr (.inr (.inr (false, ()))))) else (
  some (.inl ())))) else (some (.inr (.inr (.inr (false, ()))))))) fun q => match q with
  | .inl _ => (
  some (.inl ((IntKind.i64.wrap (i_3 + ((1) : Int))), ())))
  | .inr r => some r) else (
  some (.inr (.inl ()))))) (((0) : Int), ())).bind fun q => match q with
  | .inl _ => (
  some (true, ()))
  | .inr r => some r

/-- sparse/sparseref09.Twice -/
noncomputable def d_sparseref09q_Twice : ((List Int) × Unit) → Option (Bool × Unit) := fun (l_1, _) =>
  (loop (σ := (Int × Unit)) (ρ := (Unit ⊕ (Bool × Unit))) (fun (i_2, _) =>
  (bif (decide (i_2 < (((l_1).length : Nat) : Int))) then (
  ((some (0)).bind fun l3 => (natO i_2).bind fun l4 => (leO l3 l4 (l_1).length).map fun _ => (l3, l4)).bind fun q5 =>
  (getI l_1 i_2).bind fun y6 =>
  (d_sparsekit_In ((((l_1).take q5.2).drop q5.1), y6, ())).bind fun (r7, _) =>
  (bif r7 then (
  some (.inr (.inr (true, ())))) else (
  some (.inl ((IntKind.i64.wrap (i_2 + ((1) : Int))), ()))))) else (
  some (.inr (.inl ()))))) (((0) : Int), ())).bind fun q => match q with
  | .inl _ => (
  some (false, ()))
  | .inr r => some r

/-- sparse/sparseref12.Table -/
noncomputable def d_sparseref12q_Table : (((List (List Int)) × Unit) × Unit) → Option ((List (List Bool)) × Unit) := fun (g_1, _) =>
  (loop (σ := (Int × (List (List Bool)) × Unit)) (ρ := ((List (List Bool)) × Unit)) (fun (v_2, out_3, _) =>
  (bif (decide (v_2 < (((g_1.1).length : Nat) : Int))) then (
  (madeO (((g_1.1).length : Nat) : Int) (((g_1.1).length : Nat) : Int)).bind fun n4 =>
  (loop (σ := (Int × (List (List Bool)) × (List Bool) × Unit)) (ρ := ((List (List Bool)) × (List Bool) × Unit)) (fun (k_5, out_6, row_7, _) =>
  (getI g_1.1 v_2).bind fun y8 =>
  (bif (decide (k_5 < (((y8).length : Nat) : Int))) then (
  (getI g_1.1 v_2).bind fun y9 =>
  (getI y9 k_5).bind fun y10 =>
  (idxN (row_7).length y10).bind fun k11 =>
  ((atO row_7 k11 fun _ => some ((row_7).set k11 true))).bind fun z13 =>
  some (.inl ((IntKind.i64.wrap (k_5 + ((1) : Int))), out_6, z13, ()))) else (
  some (.inr (out_6, row_7, ()))))) (((0) : Int), out_3, (List.replicate n4 false), ())).bind fun (out_14, row_15, _) =>
  (limO ((out_14).length + ([row_15]).length)).bind fun _ =>
  some (.inl ((IntKind.i64.wrap (v_2 + ((1) : Int))), (out_14 ++ [row_15]), ()))) else (
  some (.inr (out_3, ()))))) (((0) : Int), [], ())).bind fun (out_16, _) =>
  some (out_16, ())

/-- sparse/sparseref12.empty -/
noncomputable def d_sparseref12q_empty : (Int × Unit) → Option ((List (List Bool)) × Unit) := fun (n_1, _) =>
  (loop (σ := (Int × (List (List Bool)) × Unit)) (ρ := ((List (List Bool)) × Unit)) (fun (i_2, out_3, _) =>
  (bif (decide (i_2 < n_1)) then (
  (madeO n_1 n_1).bind fun n4 =>
  (limO ((out_3).length + ([(List.replicate n4 false)]).length)).bind fun _ =>
  some (.inl ((IntKind.i64.wrap (i_2 + ((1) : Int))), (out_3 ++ [(List.replicate n4 false)]), ()))) else (
  some (.inr (out_3, ()))))) (((0) : Int), [], ())).bind fun (out_5, _) =>
  some (out_5, ())

/-- sparse/sparseref12.Induced -/
noncomputable def d_sparseref12q_Induced : (((List (List Int)) × Unit) × (List Int) × Unit) → Option (((List (List Int)) × Unit) × Int × Unit) := fun (g_1, l_2, _) =>
  (d_sparseref12q_Check (g_1, ())).bind fun (r3, _) =>
  (bif (r3 != ((0) : Int)) then (
  some (([], ()), r3, ())) else (
  (d_sparseref09q_Range (l_2, (((g_1.1).length : Nat) : Int), ())).bind fun (r4, _) =>
  (bif (!r4) then (
  some (([], ()), ((3) : Int), ())) else (
  (d_sparseref09q_Twice (l_2, ())).bind fun (r5, _) =>
  (bif r5 then (
  some (([], ()), ((90) : Int), ())) else (
  (d_sparseref12q_Table (g_1, ())).bind fun (r6, _) =>
  (d_sparseref12q_empty ((((l_2).length : Nat) : Int), ())).bind fun (r7, _) =>
  (loop (σ := (Int × ((List (List Int)) × Unit) × (List (List Bool)) × Unit)) (ρ := (((List (List Int)) × Unit) × (List (List Bool)) × Unit)) (fun (i_8, s_9, out_10, _) =>
  (bif (decide (i_8 < (((l_2).length : Nat) : Int))) then (
  (loop (σ := (Int × ((List (List Int)) × Unit) × (List (List Bool)) × Unit)) (ρ := (((List (List Int)) × Unit) × (List (List Bool)) × Unit)) (fun (j_11, s_12, out_13, _) =>
  (bif (decide (j_11 < (((l_2).length : Nat) : Int))) then (
  (idxN (out_13).length i_8).bind fun k14 =>
  (getI l_2 i_8).bind fun y16 =>
  (getI r6 y16).bind fun y17 =>
  (getI l_2 j_11).bind fun y18 =>
  (getI y17 y18).bind fun y19 =>
  (((atO out_13 k14 fun e20 => some e20)).bind fun e21 => idxN (e21).length j_11).bind fun k22 =>
  ((atO out_13 k14 fun e23 => ((atO e23 k22 fun _ => some ((e23).set k22 y19))).map fun z25 => (out_13).set k14 z25)).bind fun z26 =>
  some (.inl ((IntKind.i64.wrap (j_11 + ((1) : Int))), s_12, z26, ()))) else (
  some (.inr (s_12, out_13, ()))))) (((0) : Int), s_9, out_10, ())).bind fun (s_27, out_28, _) =>
  some (.inl ((IntKind.i64.wrap (i_8 + ((1) : Int))), s_27, out_28, ()))) else (
  some (.inr (s_9, out_10, ()))))) (((0) : Int), ([], ()), r7, ())).bind fun (_, out_30, _) =>
  (d_sparseref12q_FromTable (out_30, ())).bind fun (r31, _) =>
  some (r31, ((0) : Int), ())))))))

/-- sparse/sparseref12.Levels -/
noncomputable def d_sparseref12q_Levels : (((List (List Int)) × Unit) × Int × Unit) → Option ((List (List Int)) × Unit) := fun (g_1, root_2, _) =>
  Option.bind (α := Unit ⊕ ((List (List Int)) × Unit)) (
  (d_sparseref12q_Check (g_1, ())).bind fun (r174, _) =>
  (bif ((r174 != ((0) : Int)) == false) then ((bif ((decide (root_2 < ((0) : Int))) == false) then ((bif (decide (root_2 ≥ (((g_1.1).length : Nat) : Int))) then (
  some (.inr ([], ()))) else (
  some (.inl ())))) else (some (.inr ([], ()))))) else (some (.inr ([], ()))))) fun q => match q with
  | .inl _ => (
  (madeO (((g_1.1).length : Nat) : Int) (((g_1.1).length : Nat) : Int)).bind fun n175 =>
  (idxN ((List.replicate n175 false)).length root_2).bind fun k176 =>
  ((atO (List.replicate n175 false) k176 fun _ => some (((List.replicate n175 false)).set k176 true))).bind fun z178 =>
  (loop (σ := ((List Int) × (List Bool) × (List (List Int)) × Unit)) (ρ := ((List (List Int)) × Unit)) (fun (level_179, seen_180, out_181, _) =>
  (bif (decide ((((level_179).length : Nat) : Int) > ((0) : Int))) then (
  (limO ((out_181).length + ([level_179]).length)).bind fun _ =>
  (madeO (((g_1.1).length : Nat) : Int) (((g_1.1).length : Nat) : Int)).bind fun n182 =>
  (loop (σ := (Int × (List Bool) × (List (List Int)) × (List Bool) × Unit)) (ρ := ((List Bool) × (List (List Int)) × (List Bool) × Unit)) (fun (i_183, seen_184, out_185, next_186, _) =>
  (bif (decide (i_183 < (((level_179).length : Nat) : Int))) then (
  (getI level_179 i_183).bind fun y187 =>
  (getI g_1.1 y187).bind fun y188 =>
  (loop (σ := (Int × (List Bool) × (List (List Int)) × (List Bool) × Unit)) (ρ := ((List Bool) × (List (List Int)) × (List Bool) × Unit)) (fun (k_189, seen_190, out_191, next_192, _) =>
  (bif (decide (k_189 < (((y188).length : Nat) : Int))) then (
  Option.bind (α := ((List Bool) × (List (List Int)) × (List Bool) × Unit)) (
  (getI y188 k_189).bind fun y193 =>
  (getI y188 k_189).bind fun y194 =>
  (idxN (next_192).length y194).bind fun k195 =>
  ((atO next_192 k195 fun e196 => some e196)).bind fun y197 =>
  (bif (y197 == false) then ((getI y188 k_189).bind fun y198 =>
  (idxN (seen_190).length y198).bind fun k199 =>
  ((atO seen_190 k199 fun e200 => some e200)).bind fun y201 =>
  (idxN (next_192).length y193).bind fun k202 =>
  ((atO next_192 k202 fun _ => some ((next_192).set k202 (!y201)))).bind fun z204 =>
  some (seen_190, out_191, z204, ())) else ((idxN (next_192).length y193).bind fun k205 =>
  ((atO next_192 k205 fun _ => some ((next_192).set k205 true))).bind fun z207 =>
  some (seen_190, out_191, z207, ())))) fun (seen_208, out_209, next_210, _) =>
  some (.inl ((IntKind.i64.wrap (k_189 + ((1) : Int))), seen_208, out_209, next_210, ()))) else (
  some (.inr (seen_190, out_191, next_192, ()))))) (((0) : Int), seen_184, out_185, next_186, ())).bind fun (seen_211, out_212, next_213, _) =>
  some (.inl ((IntKind.i64.wrap (i_183 + ((1) : Int))), seen_211, out_212, next_213, ()))) else (
  some (.inr (seen_184, out_185, next_186, ()))))) (((0) : Int), seen_180, (out_181 ++ [level_179]), (List.replicate n182 false), ())).bind fun (seen_214, out_215, next_216, _) =>
  (loop (σ := (Int × (List Bool) × (List (List Int)) × (List Bool) × (List Int) × Unit)) (ρ := ((List Bool) × (List (List Int)) × (List Int) × Unit)) (fun (v_217, seen_218, out_219, next_220, l_221, _) =>
  (bif (decide (v_217 < (((g_1.1).length : Nat) : Int))) then (
  Option.bind (α := ((List Bool) × (List (List Int)) × (List Bool) × (List Int) × Unit)) (
  (idxN (next_220).length v_217).bind fun k222 =>
  ((atO next_220 k222 fun e223 => some e223)).bind fun y224 =>
  (bif y224 then (
  (limO ((l_221).length + ([v_217]).length)).bind fun _ =>
  (idxN (seen_218).length v_217).bind fun k225 =>
  ((atO seen_218 k225 fun _ => some ((seen_218).set k225 true))).bind fun z227 =>
  some (z227, out_219, next_220, (l_221 ++ [v_217]), ())) else (
  some (seen_218, out_219, next_220, l_221, ())))) fun (seen_228, out_229, next_230, l_231, _) =>
  some (.inl ((IntKind.i64.wrap (v_217 + ((1) : Int))), seen_228, out_229, next_230, l_231, ()))) else (
  some (.inr (seen_218, out_219, l_221, ()))))) (((0) : Int), seen_214, out_215, next_216, [], ())).bind fun (seen_232, out_233, l_234, _) =>
  some (.inl (l_234, seen_232, out_233, ()))) else (
  some (.inr (out_181, ()))))) ([root_2], z178, [], ())).bind fun (out_235, _) =>
  some (out_235, ()))
  | .inr r => some r

/-- sparse/sparselaw20.path -/
noncomputable def d_sparselaw20q_path : (((List (List Int)) × Unit) × Int × Int × Int × Unit) → Option (Bool × Unit) := fun (g_1, i_2, j_3, m_4, _) =>
  (loop (σ := (Int × (List Int) × Unit)) (ρ := ((List Int) × Unit)) (fun (v_5, l_6, _) =>
  (bif (decide (v_5 < (((g_1.1).length : Nat) : Int))) then (
  Option.bind (α := ((List Int) × Unit)) (
  Option.bind (α := (Bool × (List Int) × Unit)) (
  (bif ((decide (v_5 < m_4)) == false) then ((bif ((v_5 == i_2) == false) then (some ((v_5 == j_3), l_6, ())) else (some (true, l_6, ())))) else (some (true, l_6, ())))) fun (s_7, l_8, _) =>
  (bif s_7 then (
  (limO ((l_8).length + ([v_5]).length)).bind fun _ =>
  some ((l_8 ++ [v_5]), ())) else (
  some (l_8, ())))) fun (l_9, _) =>
  some (.inl ((IntKind.i64.wrap (v_5 + ((1) : Int))), l_9, ()))) else (
  some (.inr (l_6, ()))))) (((0) : Int), [], ())).bind fun (l_10, _) =>
  (d_sparseref12q_Induced (g_1, l_10, ())).bind fun (r11, _, _) =>
  (loop (σ := (Int × Int × Int × (List Int) × ((List (List Int)) × Unit) × Unit)) (ρ := (Int × Int × ((List (List Int)) × Unit) × Unit)) (fun (a_13, b_14, k_15, l_16, h_17, _) =>
  (bif (decide (k_15 < (((l_16).length : Nat) : Int))) then (
  Option.bind (α := (Int × Int × (List Int) × ((List (List Int)) × Unit) × Unit)) (
  Option.bind (α := (Int × (List Int) × ((List (List Int)) × Unit) × Unit)) (
  (idxN (l_16).length k_15).bind fun k18 =>
  ((atO l_16 k18 fun e19 => some e19)).bind fun y20 =>
  (bif (y20 == i_2) then (
  some (k_15, l_16, h_17, ())) else (
  some (a_13, l_16, h_17, ())))) fun (a_21, l_22, h_23, _) =>
  (idxN (l_22).length k_15).bind fun k24 =>
  ((atO l_22 k24 fun e25 => some e25)).bind fun y26 =>
  (bif (y26 == j_3) then (
  some (a_21, k_15, l_22, h_23, ())) else (
  some (a_21, b_14, l_22, h_23, ())))) fun (a_27, b_28, l_29, h_30, _) =>
  some (.inl (a_27, b_28, (IntKind.i64.wrap (k_15 + ((1) : Int))), l_29, h_30, ()))) else (
  some (.inr (a_13, b_14, h_17, ()))))) (((0) : Int), ((0) : Int), ((0) : Int), l_10, r11, ())).bind fun (a_31, b_32, h_33, _) =>
  (d_sparseref12q_Levels (h_33, a_31, ())).bind fun (r34, _) =>
  (loop (σ := (Int × Unit)) (ρ := (Unit ⊕ (Bool × Unit))) (fun (k_35, _) =>
  (bif (decide (k_35 < (((r34).length : Nat) : Int))) then (
  (getI r34 k_35).bind fun y36 =>
  (d_sparsekit_In (y36, b_32, ())).bind fun (r37, _) =>
  (bif r37 then (
  some (.inr (.inr (true, ())))) else (
  some (.inl ((IntKind.i64.wrap (k_35 + ((1) : Int))), ()))))) else (
  some (.inr (.inl ()))))) (((0) : Int), ())).bind fun q => match q with
  | .inl _ => (
  some (false, ()))
  | .inr r => some r

/-- sparse/sparselaw20.SymbolicPaths -/
noncomputable def d_sparselaw20q_SymbolicPaths : (Int × (List Int) × Unit) → Option (Bool × Unit) := fun (n_1, l_2, _) =>
  (bif (decide ((((l_2).length : Nat) : Int) > ((80) : Int))) then (
  (d_sparselaw20q_awake ()).bind fun (r3, _) =>
  some (r3, ())) else (
  (d_sparsekit_Place (n_1, ((9) : Int), ())).bind fun (r4, _) =>
  (d_sparsemake_Graph (r4, l_2, ())).bind fun (r5, _) =>
  (d_symbolic_Columns (r5, ())).bind fun (r6, r7, _) =>
  Option.bind (α := (((List (List Int)) × Unit) × Unit) ⊕ (Bool × Unit)) (
  (bif ((r7 != ((0) : Int)) == false) then ((bif ((((r6).length : Nat) : Int) != r4) then (
  some (.inr (false, ()))) else (
  some (.inl (r5, ()))))) else (some (.inr (false, ()))))) fun q => match q with
  | .inl (g_8, _) => (
  (loop (σ := (Int × ((List (List Int)) × Unit) × Unit)) (ρ := (Unit ⊕ (Bool × Unit))) (fun (j_9, g_10, _) =>
  (bif (decide (j_9 < r4)) then (
  (loop (σ := (Int × ((List (List Int)) × Unit) × Unit)) (ρ := ((((List (List Int)) × Unit) × Unit) ⊕ ((Int × ((List (List Int)) × Unit) × Unit) ⊕ (Unit ⊕ (Bool × Unit))))) (fun (i_11, g_12, _) =>
  (bif (decide (i_11 < r4)) then (
  (getI r6 j_9).bind fun y13 =>
  (d_sparsekit_In (y13, i_11, ())).bind fun (r14, _) =>
  (d_sparselaw20q_path (g_12, i_11, j_9, j_9, ())).bind fun (r15, _) =>
  (bif (!(r14 == r15)) then (
  some (.inr (.inr (.inr (.inr (false, ())))))) else (
  some (.inl ((IntKind.i64.wrap (i_11 + ((1) : Int))), g_12, ()))))) else (
  some (.inr (.inl (g_12, ())))))) ((IntKind.i64.wrap (j_9 + ((1) : Int))), g_10, ())).bind fun q => match q with
  | .inl (g_16, _) => (
  some (.inl ((IntKind.i64.wrap (j_9 + ((1) : Int))), g_16, ())))
  | .inr r => some r) else (
  some (.inr (.inl ()))))) (((0) : Int), g_8, ())).bind fun q => match q with
  | .inl _ => (
  (d_sparselaw20q_awake ()).bind fun (r17, _) =>
  some (r17, ()))
  | .inr r => some r)
  | .inr r => some r))

/-- sparse/sparselaw20.SymbolicTree -/
noncomputable def d_sparselaw20q_SymbolicTree : (Int × (List Int) × Unit) → Option (Bool × Unit) := fun (n_1, l_2, _) =>
  (bif (decide ((((l_2).length : Nat) : Int) > ((80) : Int))) then (
  (d_sparselaw20q_awake ()).bind fun (r3, _) =>
  some (r3, ())) else (
  (d_sparsekit_Place (n_1, ((13) : Int), ())).bind fun (r4, _) =>
  (d_sparsemake_Graph (r4, l_2, ())).bind fun (r5, _) =>
  (d_symbolic_Columns (r5, ())).bind fun (r6, r7, _) =>
  (d_etree_Parent (r5, ())).bind fun (r8, r9, _) =>
  Option.bind (α := Unit ⊕ (Bool × Unit)) (
  (bif ((r7 != ((0) : Int)) == false) then ((bif ((r9 != ((0) : Int)) == false) then ((bif (((((r6).length : Nat) : Int) != r4) == false) then ((bif ((((r8).length : Nat) : Int) != r4) then (
  some (.inr (false, ()))) else (
  some (.inl ())))) else (some (.inr (false, ()))))) else (some (.inr (false, ()))))) else (some (.inr (false, ()))))) fun q => match q with
  | .inl _ => (
  (loop (σ := (Int × Unit)) (ρ := (Unit ⊕ (Bool × Unit))) (fun (j_10, _) =>
  (bif (decide (j_10 < r4)) then (
  Option.bind (α := Unit ⊕ ((Int × Unit) ⊕ (Unit ⊕ (Bool × Unit)))) (
  Option.bind (α := Unit ⊕ (Unit ⊕ ((Int × Unit) ⊕ (Unit ⊕ (Bool × Unit))))) (
  (getI r6 j_10).bind fun y11 =>
  (bif (((((y11).length : Nat) : Int) == ((0) : Int)) == false) then ((getI r6 j_10).bind fun y12 =>
  (getI y12 ((0) : Int)).bind fun y13 =>
  (bif (y13 != j_10) then (
  some (.inr (.inr (.inr (.inr (false, ())))))) else (
  some (.inl ())))) else (some (.inr (.inr (.inr (.inr (false, ())))))))) fun q => match q with
  | .inl _ => (
  (getI r6 j_10).bind fun y14 =>
  (bif ((((y14).length : Nat) : Int) == ((1) : Int)) then (
  (getI r8 j_10).bind fun y15 =>
  (bif (y15 != (-1 : Int)) then (
  some (.inr (.inr (.inr (false, ()))))) else (
  some (.inl ())))) else (
  Option.bind (α := Unit ⊕ (Unit ⊕ ((Int × Unit) ⊕ (Unit ⊕ (Bool × Unit))))) (
  (getI r8 j_10).bind fun y16 =>
  (getI r6 j_10).bind fun y17 =>
  (getI y17 ((1) : Int)).bind fun y18 =>
  (bif ((y16 != y18) == false) then ((getI r8 j_10).bind fun y19 =>
  (bif ((decide (y19 < ((0) : Int))) == false) then ((getI r8 j_10).bind fun y20 =>
  (bif (decide (y20 ≥ r4)) then (
  some (.inr (.inr (.inr (.inr (false, ())))))) else (
  some (.inl ())))) else (some (.inr (.inr (.inr (.inr (false, ())))))))) else (some (.inr (.inr (.inr (.inr (false, ())))))))) fun q => match q with
  | .inl _ => (
  (loop (σ := (Int × Unit)) (ρ := (Unit ⊕ (Unit ⊕ ((Int × Unit) ⊕ (Unit ⊕ (Bool × Unit)))))) (fun (k_21, _) =>
  (getI r6 j_10).bind fun y22 =>
  (bif (decide (k_21 < (((y22).length : Nat) : Int))) then (
  (getI r8 j_10).bind fun y23 =>
  (getI r6 y23).bind fun y24 =>
  (getI r6 j_10).bind fun y25 =>
  (getI y25 k_21).bind fun y26 =>
  (d_sparsekit_In (y24, y26, ())).bind fun (r27, _) =>
  (bif (!r27) then (
  some (.inr (.inr (.inr (.inr (.inr (false, ()))))))) else (
  some (.inl ((IntKind.i64.wrap (k_21 + ((1) : Int))), ()))))) else (
  some (.inr (.inl ()))))) (((1) : Int), ())).bind fun q => match q with
  | .inl _ => (
  some (.inl ()))
  | .inr r => some r)
  | .inr r => some r)))
  | .inr r => some r) fun q => match q with
  | .inl _ => (
  some (.inl ((IntKind.i64.wrap (j_10 + ((1) : Int))), ())))
  | .inr r => some r) else (
  some (.inr (.inl ()))))) (((0) : Int), ())).bind fun q => match q with
  | .inl _ => (
  (d_sparselaw20q_awake ()).bind fun (r28, _) =>
  some (r28, ()))
  | .inr r => some r)
  | .inr r => some r))

/-- sparse/sparseref16.Begin -/
noncomputable def d_sparseref16q_Begin : (((List (List Int)) × Unit) × Unit) → Option (((List (List Bool)) × ((List Bool) × Unit)) × Unit) := fun (g_1, _) =>
  (d_sparseref12q_Table (g_1, ())).bind fun (r2, _) =>
  (madeO (((g_1.1).length : Nat) : Int) (((g_1.1).length : Nat) : Int)).bind fun n3 =>
  some ((r2, ((List.replicate n3 false), ())), ())

/-- (*sparse/sparseref16.Elimination).Neighbours -/
noncomputable def d_sparseref16q_Elimination_Neighbours : ((Option ((List (List Bool)) × ((List Bool) × Unit))) × Int × Unit) → Option ((List Int) × Unit) := fun (e_1, v_2, _) =>
  (loop (σ := (Int × (List Int) × Unit)) (ρ := ((List Int) × Unit)) (fun (w_3, out_4, _) =>
  (e_1).bind fun y5 =>
  (bif (decide (w_3 < (((y5.1).length : Nat) : Int))) then (
  Option.bind (α := ((List Int) × Unit)) (
  Option.bind (α := (Bool × (List Int) × Unit)) (
  (e_1).bind fun y6 =>
  (getI y6.1 v_2).bind fun y7 =>
  (getI y7 w_3).bind fun y8 =>
  (bif (y8 == true) then ((e_1).bind fun y9 =>
  (getI y9.2.1 w_3).bind fun y10 =>
  some ((!y10), out_4, ())) else (some (false, out_4, ())))) fun (s_11, out_12, _) =>
  (bif s_11 then (
  (limO ((out_12).length + ([w_3]).length)).bind fun _ =>
  some ((out_12 ++ [w_3]), ())) else (
  some (out_12, ())))) fun (out_13, _) =>
  some (.inl ((IntKind.i64.wrap (w_3 + ((1) : Int))), out_13, ()))) else (
  some (.inr (out_4, ()))))) (((0) : Int), [], ())).bind fun (out_14, _) =>
  some (out_14, ())

/-- (*sparse/sparseref16.Elimination).Eliminate -/
noncomputable def d_sparseref16q_Elimination_Eliminate : (((List (List Bool)) × ((List Bool) × Unit)) × Int × Unit) → Option (((List (List Bool)) × ((List Bool) × Unit)) × Unit) := fun (e_1, v_2, _) =>
  (d_sparseref16q_Elimination_Neighbours ((some e_1), v_2, ())).bind fun (r3, _) =>
  (loop (σ := (Int × ((List (List Bool)) × ((List Bool) × Unit)) × Unit)) (ρ := (((List (List Bool)) × ((List Bool) × Unit)) × Unit)) (fun (i_4, e_5, _) =>
  (bif (decide (i_4 < (((r3).length : Nat) : Int))) then (
  (loop (σ := (Int × ((List (List Bool)) × ((List Bool) × Unit)) × Unit)) (ρ := (((List (List Bool)) × ((List Bool) × Unit)) × Unit)) (fun (j_6, e_7, _) =>
  (bif (decide (j_6 < (((r3).length : Nat) : Int))) then (
  Option.bind (α := (((List (List Bool)) × ((List Bool) × Unit)) × Unit)) (
  (bif (i_4 != j_6) then (
  (getI r3 i_4).bind fun y8 =>
  (idxN (e_7.1).length y8).bind fun k9 =>
  (getI r3 j_6).bind fun y11 =>
  (((atO e_7.1 k9 fun e12 => some e12)).bind fun e13 => idxN (e13).length y11).bind fun k14 =>
  ((((atO e_7.1 k9 fun e15 => ((atO e15 k14 fun _ => some ((e15).set k14 true))).map fun z17 => (e_7.1).set k9 z17)).map fun z18 => (z18, e_7.2))).bind fun z19 =>
  some (z19, ())) else (
  some (e_7, ())))) fun (e_20, _) =>
  some (.inl ((IntKind.i64.wrap (j_6 + ((1) : Int))), e_20, ()))) else (
  some (.inr (e_7, ()))))) (((0) : Int), e_5, ())).bind fun (e_21, _) =>
  some (.inl ((IntKind.i64.wrap (i_4 + ((1) : Int))), e_21, ()))) else (
  some (.inr (e_5, ()))))) (((0) : Int), e_1, ())).bind fun (e_22, _) =>
  (idxN (e_22.2.1).length v_2).bind fun k23 =>
  ((((((atO e_22.2.1 k23 fun _ => some ((e_22.2.1).set k23 true))).map fun z25 => (z25, e_22.2.2))).map fun z26 => (e_22.1, z26))).bind fun z27 =>
  some (z27, ())

/-- sparse/sparseref20.Columns -/
noncomputable def d_sparseref20q_Columns : (((List (List Int)) × Unit) × Unit) → Option ((List (List Int)) × Int × Unit) := fun (g_1, _) =>
  (d_sparseref12q_Check (g_1, ())).bind fun (r12, _) =>
  (bif (r12 != ((0) : Int)) then (
  some ([], r12, ())) else (
  (d_sparseref16q_Begin (g_1, ())).bind fun (r13, _) =>
  (loop (σ := (Int × ((List (List Bool)) × ((List Bool) × Unit)) × (List (List Int)) × Unit)) (ρ := ((List (List Int)) × Unit)) (fun (j_14, x_15, out_16, _) =>
  (bif (decide (j_14 < (((g_1.1).length : Nat) : Int))) then (
  (d_sparseref16q_Elimination_Neighbours ((some x_15), j_14, ())).bind fun (r17, _) =>
  (limO (([j_14]).length + (r17).length)).bind fun _ =>
  (limO ((out_16).length + ([([j_14] ++ r17)]).length)).bind fun _ =>
  (d_sparseref16q_Elimination_Eliminate (x_15, j_14, ())).bind fun (m18, _) =>
  some (.inl ((IntKind.i64.wrap (j_14 + ((1) : Int))), m18, (out_16 ++ [([j_14] ++ r17)]), ()))) else (
  some (.inr (out_16, ()))))) (((0) : Int), r13, [], ())).bind fun (out_19, _) =>
  some (out_19, ((0) : Int), ())))

/-- sparse/sparselaw20.SymbolicSolve -/
noncomputable def d_sparselaw20q_SymbolicSolve : (Int × (List Int) × (List Int) × Unit) → Option (Bool × Unit) := fun (n_1, l_2, b_3, _) =>
  Option.bind (α := Unit ⊕ (Bool × Unit)) (
  Option.bind (α := (Bool × Unit)) (
  (bif ((decide ((((l_2).length : Nat) : Int) > ((80) : Int))) == false) then (some ((decide ((((b_3).length : Nat) : Int) > ((10) : Int))), ())) else (some (true, ())))) fun (s_71, _) =>
  (bif s_71 then (
  (d_sparselaw20q_awake ()).bind fun (r72, _) =>
  some (.inr (r72, ()))) else (
  some (.inl ())))) fun q => match q with
  | .inl _ => (
  (d_sparsekit_Place (n_1, ((12) : Int), ())).bind fun (r73, _) =>
  (d_sparsemake_Graph ((IntKind.i64.wrap (((1) : Int) + r73)), l_2, ())).bind fun (r74, _) =>
  (d_sparseref20q_Columns (r74, ())).bind fun (r75, _, _) =>
  (d_etree_Parent (r74, ())).bind fun (r77, r78, _) =>
  (loop (σ := (Int × (List Int) × Unit)) (ρ := ((List Int) × Unit)) (fun (k_79, rhs_80, _) =>
  (bif (decide (k_79 < (((b_3).length : Nat) : Int))) then (
  (getI b_3 k_79).bind fun y81 =>
  (d_sparsekit_Place (y81, (IntKind.i64.wrap (((1) : Int) + r73)), ())).bind fun (r82, _) =>
  (limO ((rhs_80).length + ([r82]).length)).bind fun _ =>
  some (.inl ((IntKind.i64.wrap (k_79 + ((1) : Int))), (rhs_80 ++ [r82]), ()))) else (
  some (.inr (rhs_80, ()))))) (((0) : Int), [], ())).bind fun (rhs_83, _) =>
  (d_symbolic_Reach (r75, rhs_83, ())).bind fun (r84, r85, _) =>
  Option.bind (α := ((List Int) × Unit) ⊕ (Bool × Unit)) (
  (bif ((r78 != ((0) : Int)) == false) then ((bif ((r85 != ((0) : Int)) == false) then ((bif (((((r77).length : Nat) : Int) != (IntKind.i64.wrap (((1) : Int) + r73))) == false) then ((d_sparsekit_Ascending (r84, ())).bind fun (r86, _) =>
  (bif (!r86) then (
  some (.inr (false, ()))) else (
  some (.inl (rhs_83, ()))))) else (some (.inr (false, ()))))) else (some (.inr (false, ()))))) else (some (.inr (false, ()))))) fun q => match q with
  | .inl (rhs_87, _) => (
  (loop (σ := (Int × (List Int) × Unit)) (ρ := (((List Int) × Unit) ⊕ (Bool × Unit))) (fun (k_88, rhs_89, _) =>
  (bif (decide (k_88 < (((rhs_89).length : Nat) : Int))) then (
  (idxN (rhs_89).length k_88).bind fun k90 =>
  ((atO rhs_89 k90 fun e91 => some e91)).bind fun y92 =>
  (d_sparsekit_In (r84, y92, ())).bind fun (r93, _) =>
  (bif (!r93) then (
  some (.inr (.inr (false, ())))) else (
  some (.inl ((IntKind.i64.wrap (k_88 + ((1) : Int))), rhs_89, ()))))) else (
  some (.inr (.inl (rhs_89, ())))))) (((0) : Int), rhs_87, ())).bind fun q => match q with
  | .inl (rhs_94, _) => (
  (loop (σ := (Int × (List Int) × Unit)) (ρ := (((List Int) × Unit) ⊕ (Bool × Unit))) (fun (k_95, rhs_96, _) =>
  (bif (decide (k_95 < (((r84).length : Nat) : Int))) then (
  Option.bind (α := ((List Int) × Unit) ⊕ ((Int × (List Int) × Unit) ⊕ (((List Int) × Unit) ⊕ (Bool × Unit)))) (
  Option.bind (α := ((List Int) × Unit) ⊕ (((List Int) × Unit) ⊕ ((Int × (List Int) × Unit) ⊕ (((List Int) × Unit) ⊕ (Bool × Unit))))) (
  (getI r84 k_95).bind fun y97 =>
  (bif ((decide (y97 < ((0) : Int))) == false) then ((getI r84 k_95).bind fun y98 =>
  (bif (decide (y98 ≥ (IntKind.i64.wrap (((1) : Int) + r73)))) then (
  some (.inr (.inr (.inr (.inr (false, ())))))) else (
  some (.inl (rhs_96, ()))))) else (some (.inr (.inr (.inr (.inr (false, ())))))))) fun q => match q with
  | .inl (rhs_99, _) => (
  (getI r84 k_95).bind fun y100 =>
  (d_sparsekit_In (rhs_99, y100, ())).bind fun (r101, _) =>
  (loop (σ := (Bool × Int × (List Int) × Unit)) (ρ := (Bool × (List Int) × Unit)) (fun (is_102, i_103, rhs_104, _) =>
  (bif (decide (i_103 < k_95)) then (
  Option.bind (α := (Bool × (List Int) × Unit)) (
  (bif (is_102 == false) then ((getI r84 i_103).bind fun y105 =>
  (getI r75 y105).bind fun y106 =>
  (getI r84 k_95).bind fun y107 =>
  (d_sparsekit_In (y106, y107, ())).bind fun (r108, _) =>
  some (r108, rhs_104, ())) else (some (true, rhs_104, ())))) fun (is_109, rhs_110, _) =>
  some (.inl (is_109, (IntKind.i64.wrap (i_103 + ((1) : Int))), rhs_110, ()))) else (
  some (.inr (is_102, rhs_104, ()))))) (r101, ((0) : Int), rhs_99, ())).bind fun (is_111, rhs_112, _) =>
  (bif (!is_111) then (
  some (.inr (.inr (.inr (false, ()))))) else (
  (loop (σ := (Int × (List Int) × Unit)) (ρ := (((List Int) × Unit) ⊕ (((List Int) × Unit) ⊕ ((Int × (List Int) × Unit) ⊕ (((List Int) × Unit) ⊕ (Bool × Unit)))))) (fun (i_113, rhs_114, _) =>
  (getI r84 k_95).bind fun y115 =>
  (getI r75 y115).bind fun y116 =>
  (bif (decide (i_113 < (((y116).length : Nat) : Int))) then (
  (getI r84 k_95).bind fun y117 =>
  (getI r75 y117).bind fun y118 =>
  (getI y118 i_113).bind fun y119 =>
  (d_sparsekit_In (r84, y119, ())).bind fun (r120, _) =>
  (bif (!r120) then (
  some (.inr (.inr (.inr (.inr (.inr (false, ()))))))) else (
  some (.inl ((IntKind.i64.wrap (i_113 + ((1) : Int))), rhs_114, ()))))) else (
  some (.inr (.inl (rhs_114, ())))))) (((0) : Int), rhs_112, ())).bind fun q => match q with
  | .inl (rhs_121, _) => (
  some (.inl (rhs_121, ())))
  | .inr r => some r)))
  | .inr r => some r) fun q => match q with
  | .inl (rhs_122, _) => (
  some (.inl ((IntKind.i64.wrap (k_95 + ((1) : Int))), rhs_122, ())))
  | .inr r => some r) else (
  some (.inr (.inl (rhs_96, ())))))) (((0) : Int), rhs_94, ())).bind fun q => match q with
  | .inl (rhs_123, _) => (
  Option.bind (α := (Int × Unit)) (
  (bif (decide ((((rhs_123).length : Nat) : Int) > ((0) : Int))) then (
  (idxN (rhs_123).length ((0) : Int)).bind fun k124 =>
  ((atO rhs_123 k124 fun e125 => some e125)).bind fun y126 =>
  some (y126, ())) else (
  some ((IntKind.i64.wrap ((IntKind.i64.wrap (((1) : Int) + r73)) - ((1) : Int))), ())))) fun (v_127, _) =>
  (d_symbolic_Reach (r75, [v_127], ())).bind fun (r128, r129, _) =>
  (loop (σ := (Int × (List Int) × Unit)) (ρ := ((List Int) × Unit)) (fun (v_130, up_131, _) =>
  Option.bind (α := ((List Int) × Unit) ⊕ ((Int × (List Int) × Unit) ⊕ ((List Int) × Unit))) (
  (bif ((decide (v_130 ≥ ((0) : Int))) == true) then ((bif ((decide (v_130 < (IntKind.i64.wrap (((1) : Int) + r73)))) == true) then ((bif (decide ((((up_131).length : Nat) : Int) ≤ (IntKind.i64.wrap (((1) : Int) + r73)))) then (
  some (.inl (up_131, ()))) else (
  some (.inr (.inr (up_131, ())))))) else (some (.inr (.inr (up_131, ())))))) else (some (.inr (.inr (up_131, ())))))) fun q => match q with
  | .inl (up_132, _) => (
  (limO ((up_132).length + ([v_130]).length)).bind fun _ =>
  (getI r77 v_130).bind fun y133 =>
  some (.inl (y133, (up_132 ++ [v_130]), ())))
  | .inr r => some r) (v_127, [], ())).bind fun (up_134, _) =>
  (bif ((r129 == ((0) : Int)) == true) then ((d_sparsekit_Ints (r128, up_134, ())).bind fun (r135, _) =>
  (bif (r135 == true) then ((d_sparselaw20q_awake ()).bind fun (r136, _) =>
  some (r136, ())) else (some (false, ())))) else (some (false, ()))))
  | .inr r => some r)
  | .inr r => some r)
  | .inr r => some r)
  | .inr r => some r
def e_graph_ascending (n_ : Nat) : ((List Int) × Int × Unit) → Option (Bool × Unit) := fun (l_1, n_2, _) =>
  (loopN (σ := (Int × Int × Unit)) (ρ := (Unit ⊕ (Bool × Unit))) (fun (last_3, s_4, _) =>
  (bif (decide (s_4 < (((l_1).length : Nat) : Int))) then (
  Option.bind (α := (Int × Unit) ⊕ ((Int × Int × Unit) ⊕ (Unit ⊕ (Bool × Unit)))) (
  (getI l_1 s_4).bind fun y5 =>
  Option.bind (α := Unit ⊕ ((Int × Unit) ⊕ ((Int × Int × Unit) ⊕ (Unit ⊕ (Bool × Unit))))) (
  (bif ((decide (y5 ≤ last_3)) == false) then ((bif (decide (y5 ≥ n_2)) then (
  some (.inr (.inr (.inr (.inr (false, ())))))) else (
  some (.inl ())))) else (some (.inr (.inr (.inr (.inr (false, ())))))))) fun q => match q with
  | .inl _ => (
  some (.inl (y5, ())))
  | .inr r => some r) fun q => match q with
  | .inl (last_6, _) => (
  some (.inl (last_6, (IntKind.i64.wrap (s_4 + ((1) : Int))), ())))
  | .inr r => some r) else (
  some (.inr (.inl ()))))) n_ ((-1 : Int), ((0) : Int), ())).bind fun q => match q with
  | .inl _ => (
  some (true, ()))
  | .inr r => some r

theorem le_graph_ascending (n_ : Nat) (a : ((List Int) × Int × Unit)) : Le (e_graph_ascending n_ a) (d_graph_ascending a) := by
  unfold e_graph_ascending d_graph_ascending
  repeat' (first | exact Le.refl _  | (refine Le.bind ?_ (fun y => ?_)) | (refine Le.bif ?_ ?_) | (refine Le.loop (fun s => ?_) _ _) | split)

def e_cmp_isNaN_int (n_ : Nat) : (Int × Unit) → Option (Bool × Unit) := fun (x_1, _) =>
  some ((x_1 != x_1), ())

theorem le_cmp_isNaN_int (n_ : Nat) (a : (Int × Unit)) : Le (e_cmp_isNaN_int n_ a) (d_cmp_isNaN_int a) := by
  unfold e_cmp_isNaN_int d_cmp_isNaN_int
  repeat' (first | exact Le.refl _  | (refine Le.bind ?_ (fun y => ?_)) | (refine Le.bif ?_ ?_) | (refine Le.loop (fun s => ?_) _ _) | split)

def e_cmp_Less_int (n_ : Nat) : (Int × Int × Unit) → Option (Bool × Unit) := fun (x_1, y_2, _) =>
  (e_cmp_isNaN_int n_ (x_1, ())).bind fun (r3, _) =>
  (bif (r3 == true) then ((e_cmp_isNaN_int n_ (y_2, ())).bind fun (r4, _) =>
  (bif ((!r4) == false) then (some ((decide (x_1 < y_2)), ())) else (some (true, ())))) else (some ((decide (x_1 < y_2)), ())))

theorem le_cmp_Less_int (n_ : Nat) (a : (Int × Int × Unit)) : Le (e_cmp_Less_int n_ a) (d_cmp_Less_int a) := by
  unfold e_cmp_Less_int d_cmp_Less_int
  repeat' (first | exact Le.refl _ | exact le_cmp_isNaN_int _ _ | (refine Le.bind ?_ (fun y => ?_)) | (refine Le.bif ?_ ?_) | (refine Le.loop (fun s => ?_) _ _) | split)

def e_slices_isNaN_int (n_ : Nat) : (Int × Unit) → Option (Bool × Unit) := fun (x_1, _) =>
  some ((x_1 != x_1), ())

theorem le_slices_isNaN_int (n_ : Nat) (a : (Int × Unit)) : Le (e_slices_isNaN_int n_ a) (d_slices_isNaN_int a) := by
  unfold e_slices_isNaN_int d_slices_isNaN_int
  repeat' (first | exact Le.refl _  | (refine Le.bind ?_ (fun y => ?_)) | (refine Le.bif ?_ ?_) | (refine Le.loop (fun s => ?_) _ _) | split)

def e_slices_BinarySearch_int_int (n_ : Nat) : ((List Int) × Int × Unit) → Option (Int × Bool × Unit) := fun (x_1, target_2, _) =>
  (loopN (σ := (Int × Int × Unit)) (ρ := (Int × Unit)) (fun (i_3, j_4, _) =>
  (bif (decide (i_3 < j_4)) then (
  (shrO IntKind.u64 (IntKind.u64.wrap (IntKind.i64.wrap (i_3 + j_4))) ((1) : Int)).bind fun y5 =>
  (getI x_1 (IntKind.i64.wrap y5)).bind fun y6 =>
  (e_cmp_Less_int n_ (y6, target_2, ())).bind fun (r7, _) =>
  (bif r7 then (
  some (.inl ((IntKind.i64.wrap ((IntKind.i64.wrap y5) + ((1) : Int))), j_4, ()))) else (
  some (.inl (i_3, (IntKind.i64.wrap y5), ()))))) else (
  some (.inr (i_3, ()))))) n_ (((0) : Int), (((x_1).length : Nat) : Int), ())).bind fun (i_8, _) =>
  (bif ((decide (i_8 < (((x_1).length : Nat) : Int))) == true) then ((getI x_1 i_8).bind fun y9 =>
  (bif ((y9 == target_2) == false) then ((getI x_1 i_8).bind fun y10 =>
  (e_slices_isNaN_int n_ (y10, ())).bind fun (r11, _) =>
  (bif (r11 == true) then ((e_slices_isNaN_int n_ (target_2, ())).bind fun (r12, _) =>
  some (i_8, r12, ())) else (some (i_8, false, ())))) else (some (i_8, true, ())))) else (some (i_8, false, ())))

theorem le_slices_BinarySearch_int_int (n_ : Nat) (a : ((List Int) × Int × Unit)) : Le (e_slices_BinarySearch_int_int n_ a) (d_slices_BinarySearch_int_int a) := by
  unfold e_slices_BinarySearch_int_int d_slices_BinarySearch_int_int
  repeat' (first | exact Le.refl _ | exact le_cmp_Less_int _ _ | exact le_slices_isNaN_int _ _ | (refine Le.bind ?_ (fun y => ?_)) | (refine Le.bif ?_ ?_) | (refine Le.loop (fun s => ?_) _ _) | split)

def e_graph_joined (n_ : Nat) : (((List (List Int)) × Unit) × Int × Int × Unit) → Option (Bool × Unit) := fun (g_1, v_2, w_3, _) =>
  (getI g_1.1 v_2).bind fun y4 =>
  (e_slices_BinarySearch_int_int n_ (y4, w_3, ())).bind fun (_, r6, _) =>
  some (r6, ())

theorem le_graph_joined (n_ : Nat) (a : (((List (List Int)) × Unit) × Int × Int × Unit)) : Le (e_graph_joined n_ a) (d_graph_joined a) := by
  unfold e_graph_joined d_graph_joined
  repeat' (first | exact Le.refl _ | exact le_slices_BinarySearch_int_int _ _ | (refine Le.bind ?_ (fun y => ?_)) | (refine Le.bif ?_ ?_) | (refine Le.loop (fun s => ?_) _ _) | split)

def e_graph_Check (n_ : Nat) : (((List (List Int)) × Unit) × Unit) → Option (Int × Unit) := fun (g_1, _) =>
  (bif (decide ((((g_1.1).length : Nat) : Int) > ((200) : Int))) then (
  some (((6) : Int), ())) else (
  (loopN (σ := (Int × Unit)) (ρ := (Unit ⊕ (Int × Unit))) (fun (s_2, _) =>
  (bif (decide (s_2 < (((g_1.1).length : Nat) : Int))) then (
  Option.bind (α := Unit ⊕ ((Int × Unit) ⊕ (Unit ⊕ (Int × Unit)))) (
  (getI g_1.1 s_2).bind fun y3 =>
  (e_graph_ascending n_ (y3, (((g_1.1).length : Nat) : Int), ())).bind fun (r4, _) =>
  (bif ((!r4) == false) then ((e_graph_joined n_ (g_1, s_2, s_2, ())).bind fun (r5, _) =>
  (bif r5 then (
  some (.inr (.inr (.inr (((1) : Int), ()))))) else (
  some (.inl ())))) else (some (.inr (.inr (.inr (((1) : Int), ()))))))) fun q => match q with
  | .inl _ => (
  some (.inl ((IntKind.i64.wrap (s_2 + ((1) : Int))), ())))
  | .inr r => some r) else (
  some (.inr (.inl ()))))) n_ (((0) : Int), ())).bind fun q => match q with
  | .inl _ => (
  (loopN (σ := (Int × Unit)) (ρ := (Unit ⊕ (Int × Unit))) (fun (s_6, _) =>
  (bif (decide (s_6 < (((g_1.1).length : Nat) : Int))) then (
  (getI g_1.1 s_6).bind fun y7 =>
  (loopN (σ := (Int × Unit)) (ρ := (Unit ⊕ ((Int × Unit) ⊕ (Unit ⊕ (Int × Unit))))) (fun (s_8, _) =>
  (bif (decide (s_8 < (((y7).length : Nat) : Int))) then (
  (getI y7 s_8).bind fun y9 =>
  (e_graph_joined n_ (g_1, y9, s_6, ())).bind fun (r10, _) =>
  (bif (!r10) then (
  some (.inr (.inr (.inr (.inr (((1) : Int), ())))))) else (
  some (.inl ((IntKind.i64.wrap (s_8 + ((1) : Int))), ()))))) else (
  some (.inr (.inl ()))))) n_ (((0) : Int), ())).bind fun q => match q with
  | .inl _ => (
  some (.inl ((IntKind.i64.wrap (s_6 + ((1) : Int))), ())))
  | .inr r => some r) else (
  some (.inr (.inl ()))))) n_ (((0) : Int), ())).bind fun q => match q with
  | .inl _ => (
  some (((0) : Int), ()))
  | .inr r => some r)
  | .inr r => some r))

theorem le_graph_Check (n_ : Nat) (a : (((List (List Int)) × Unit) × Unit)) : Le (e_graph_Check n_ a) (d_graph_Check a) := by
  unfold e_graph_Check d_graph_Check
  repeat' (first | exact Le.refl _ | exact le_graph_ascending _ _ | exact le_graph_joined _ _ | (refine Le.bind ?_ (fun y => ?_)) | (refine Le.bif ?_ ?_) | (refine Le.loop (fun s => ?_) _ _) | split)

def e_etree_newForest (n_ : Nat) : (Int × Unit) → Option (((List Int) × ((List Int) × Unit)) × Unit) := fun (n_1, _) =>
  (madeO n_1 n_1).bind fun n2 =>
  (madeO n_1 n_1).bind fun n3 =>
  (loopN (σ := (Int × ((List Int) × ((List Int) × Unit)) × Unit)) (ρ := (((List Int) × ((List Int) × Unit)) × Unit)) (fun (s_4, f_5, _) =>
  (bif (decide (s_4 < n_1)) then (
  (idxN (f_5.1).length s_4).bind fun k6 =>
  ((((atO f_5.1 k6 fun _ => some ((f_5.1).set k6 (-1 : Int)))).map fun z8 => (z8, f_5.2))).bind fun z9 =>
  (idxN (z9.2.1).length s_4).bind fun k10 =>
  ((((((atO z9.2.1 k10 fun _ => some ((z9.2.1).set k10 (-1 : Int)))).map fun z12 => (z12, z9.2.2))).map fun z13 => (z9.1, z13))).bind fun z14 =>
  some (.inl ((IntKind.i64.wrap (s_4 + ((1) : Int))), z14, ()))) else (
  some (.inr (f_5, ()))))) n_ (((0) : Int), ((List.replicate n2 (0 : Int)), ((List.replicate n3 (0 : Int)), ())), ())).bind fun (f_15, _) =>
  some (f_15, ())

theorem le_etree_newForest (n_ : Nat) (a : (Int × Unit)) : Le (e_etree_newForest n_ a) (d_etree_newForest a) := by
  unfold e_etree_newForest d_etree_newForest
  repeat' (first | exact Le.refl _  | (refine Le.bind ?_ (fun y => ?_)) | (refine Le.bif ?_ ?_) | (refine Le.loop (fun s => ?_) _ _) | split)

def e_etree_forest_join (n_ : Nat) : (((List Int) × ((List Int) × Unit)) × Int × Int × Unit) → Option (((List Int) × ((List Int) × Unit)) × Unit) := fun (f_1, i_2, j_3, _) =>
  (loopN (σ := (Int × ((List Int) × ((List Int) × Unit)) × Unit)) (ρ := (((List Int) × ((List Int) × Unit)) × Unit)) (fun (i_4, f_5, _) =>
  Option.bind (α := (((List Int) × ((List Int) × Unit)) × Unit) ⊕ ((Int × ((List Int) × ((List Int) × Unit)) × Unit) ⊕ (((List Int) × ((List Int) × Unit)) × Unit))) (
  (bif ((i_4 != (-1 : Int)) == true) then ((bif (decide (i_4 < j_3)) then (
  some (.inl (f_5, ()))) else (
  some (.inr (.inr (f_5, ())))))) else (some (.inr (.inr (f_5, ())))))) fun q => match q with
  | .inl (f_6, _) => (
  (idxN (f_6.2.1).length i_4).bind fun k7 =>
  ((atO f_6.2.1 k7 fun e8 => some e8)).bind fun y9 =>
  (idxN (f_6.2.1).length i_4).bind fun k10 =>
  ((((((atO f_6.2.1 k10 fun _ => some ((f_6.2.1).set k10 j_3))).map fun z12 => (z12, f_6.2.2))).map fun z13 => (f_6.1, z13))).bind fun z14 =>
  Option.bind (α := (((List Int) × ((List Int) × Unit)) × Unit)) (
  (bif (y9 == (-1 : Int)) then (
  (idxN (z14.1).length i_4).bind fun k15 =>
  ((((atO z14.1 k15 fun _ => some ((z14.1).set k15 j_3))).map fun z17 => (z17, z14.2))).bind fun z18 =>
  some (z18, ())) else (
  some (z14, ())))) fun (f_19, _) =>
  some (.inl (y9, f_19, ())))
  | .inr r => some r) n_ (i_2, f_1, ())).bind fun (f_20, _) =>
  some (f_20, ())

theorem le_etree_forest_join (n_ : Nat) (a : (((List Int) × ((List Int) × Unit)) × Int × Int × Unit)) : Le (e_etree_forest_join n_ a) (d_etree_forest_join a) := by
  unfold e_etree_forest_join d_etree_forest_join
  repeat' (first | exact Le.refl _  | (refine Le.bind ?_ (fun y => ?_)) | (refine Le.bif ?_ ?_) | (refine Le.loop (fun s => ?_) _ _) | split)

def e_etree_Parent (n_ : Nat) : (((List (List Int)) × Unit) × Unit) → Option ((List Int) × Int × Unit) := fun (g_1, _) =>
  (e_graph_Check n_ (g_1, ())).bind fun (r13, _) =>
  (bif (r13 != ((0) : Int)) then (
  some ([], r13, ())) else (
  (e_etree_newForest n_ ((((g_1.1).length : Nat) : Int), ())).bind fun (r14, _) =>
  (loopN (σ := (Int × ((List Int) × ((List Int) × Unit)) × Unit)) (ρ := (((List Int) × ((List Int) × Unit)) × Unit)) (fun (s_15, f_16, _) =>
  (bif (decide (s_15 < (((g_1.1).length : Nat) : Int))) then (
  (getI g_1.1 s_15).bind fun y17 =>
  (loopN (σ := (Int × ((List Int) × ((List Int) × Unit)) × Unit)) (ρ := (((List Int) × ((List Int) × Unit)) × Unit)) (fun (s_18, f_19, _) =>
  (bif (decide (s_18 < (((y17).length : Nat) : Int))) then (
  (getI y17 s_18).bind fun y20 =>
  (e_etree_forest_join n_ (f_19, y20, s_15, ())).bind fun (m21, _) =>
  some (.inl ((IntKind.i64.wrap (s_18 + ((1) : Int))), m21, ()))) else (
  some (.inr (f_19, ()))))) n_ (((0) : Int), f_16, ())).bind fun (f_22, _) =>
  some (.inl ((IntKind.i64.wrap (s_15 + ((1) : Int))), f_22, ()))) else (
  some (.inr (f_16, ()))))) n_ (((0) : Int), r14, ())).bind fun (f_23, _) =>
  some (f_23.1, ((0) : Int), ())))

theorem le_etree_Parent (n_ : Nat) (a : (((List (List Int)) × Unit) × Unit)) : Le (e_etree_Parent n_ a) (d_etree_Parent a) := by
  unfold e_etree_Parent d_etree_Parent
  repeat' (first | exact Le.refl _ | exact le_graph_Check _ _ | exact le_etree_newForest _ _ | exact le_etree_forest_join _ _ | (refine Le.bind ?_ (fun y => ?_)) | (refine Le.bif ?_ ?_) | (refine Le.loop (fun s => ?_) _ _) | split)

def e_symbolic_row (n_ : Nat) : (((List (List Int)) × Unit) × (List Int) × Int × Unit) → Option ((List Int) × Unit) := fun (g_1, parent_2, i_3, _) =>
  (madeO (IntKind.i64.wrap (i_3 + ((1) : Int))) (IntKind.i64.wrap (i_3 + ((1) : Int)))).bind fun n24 =>
  (idxN ((List.replicate n24 false)).length i_3).bind fun k25 =>
  ((atO (List.replicate n24 false) k25 fun _ => some (((List.replicate n24 false)).set k25 true))).bind fun z27 =>
  (getI g_1.1 i_3).bind fun y28 =>
  (loopN (σ := (Int × (List Bool) × Unit)) (ρ := ((List Bool) × Unit)) (fun (s_29, marked_30, _) =>
  (bif (decide (s_29 < (((y28).length : Nat) : Int))) then (
  (getI y28 s_29).bind fun y31 =>
  (loopN (σ := (Int × (List Bool) × Unit)) (ρ := ((List Bool) × Unit)) (fun (j_32, marked_33, _) =>
  Option.bind (α := ((List Bool) × Unit) ⊕ ((Int × (List Bool) × Unit) ⊕ ((List Bool) × Unit))) (
  (bif ((decide (j_32 ≥ ((0) : Int))) == true) then ((bif ((decide (j_32 < i_3)) == true) then ((idxN (marked_33).length j_32).bind fun k34 =>
  ((atO marked_33 k34 fun e35 => some e35)).bind fun y36 =>
  (bif (!y36) then (
  some (.inl (marked_33, ()))) else (
  some (.inr (.inr (marked_33, ())))))) else (some (.inr (.inr (marked_33, ())))))) else (some (.inr (.inr (marked_33, ())))))) fun q => match q with
  | .inl (marked_37, _) => (
  (idxN (marked_37).length j_32).bind fun k38 =>
  ((atO marked_37 k38 fun _ => some ((marked_37).set k38 true))).bind fun z40 =>
  (getI parent_2 j_32).bind fun y41 =>
  some (.inl (y41, z40, ())))
  | .inr r => some r) n_ (y31, marked_30, ())).bind fun (marked_42, _) =>
  some (.inl ((IntKind.i64.wrap (s_29 + ((1) : Int))), marked_42, ()))) else (
  some (.inr (marked_30, ()))))) n_ (((0) : Int), z27, ())).bind fun (marked_43, _) =>
  (loopN (σ := (Int × (List Bool) × (List Int) × Unit)) (ρ := ((List Int) × Unit)) (fun (s_44, marked_45, out_46, _) =>
  (bif (decide (s_44 < (((marked_43).length : Nat) : Int))) then (
  Option.bind (α := ((List Bool) × (List Int) × Unit)) (
  (idxN (marked_45).length s_44).bind fun k47 =>
  ((atO marked_45 k47 fun e48 => some e48)).bind fun y49 =>
  (bif y49 then (
  (limO ((out_46).length + ([s_44]).length)).bind fun _ =>
  some (marked_45, (out_46 ++ [s_44]), ())) else (
  some (marked_45, out_46, ())))) fun (marked_50, out_51, _) =>
  some (.inl ((IntKind.i64.wrap (s_44 + ((1) : Int))), marked_50, out_51, ()))) else (
  some (.inr (out_46, ()))))) n_ (((0) : Int), marked_43, [], ())).bind fun (out_52, _) =>
  some (out_52, ())

theorem le_symbolic_row (n_ : Nat) (a : (((List (List Int)) × Unit) × (List Int) × Int × Unit)) : Le (e_symbolic_row n_ a) (d_symbolic_row a) := by
  unfold e_symbolic_row d_symbolic_row
  repeat' (first | exact Le.refl _  | (refine Le.bind ?_ (fun y => ?_)) | (refine Le.bif ?_ ?_) | (refine Le.loop (fun s => ?_) _ _) | split)

def e_symbolic_Columns (n_ : Nat) : (((List (List Int)) × Unit) × Unit) → Option ((List (List Int)) × Int × Unit) := fun (g_1, _) =>
  (e_etree_Parent n_ (g_1, ())).bind fun (r25, r26, _) =>
  (bif (r26 != ((0) : Int)) then (
  some ([], r26, ())) else (
  (madeO (((r25).length : Nat) : Int) (((r25).length : Nat) : Int)).bind fun n27 =>
  (loopN (σ := (Int × (List (List Int)) × Unit)) (ρ := ((List (List Int)) × Unit)) (fun (s_28, out_29, _) =>
  (bif (decide (s_28 < (((r25).length : Nat) : Int))) then (
  (e_symbolic_row n_ (g_1, r25, s_28, ())).bind fun (r30, _) =>
  (loopN (σ := (Int × (List (List Int)) × (List Int) × Unit)) (ρ := ((List (List Int)) × Unit)) (fun (s_31, out_32, s_33, _) =>
  (bif (decide (s_31 < (((r30).length : Nat) : Int))) then (
  (idxN (s_33).length s_31).bind fun k34 =>
  ((atO s_33 k34 fun e35 => some e35)).bind fun y36 =>
  (idxN (out_32).length y36).bind fun k37 =>
  ((atO out_32 k37 fun e39 => some e39)).bind fun xs40 =>
  (limO ((xs40).length + ([s_28]).length)).bind fun _ =>
  (idxN (out_32).length y36).bind fun k41 =>
  (bif (Nat.beq k37 k41 && true) then (
  ((atO out_32 k41 fun e42 => some e42)).bind fun xs43 =>
  ((atO out_32 k41 fun _ => some ((out_32).set k41 (xs43 ++ [s_28])))).bind fun z45 =>
  some (.inl ((IntKind.i64.wrap (s_31 + ((1) : Int))), z45, s_33, ()))) else none)) else (
  some (.inr (out_32, ()))))) n_ (((0) : Int), out_29, r30, ())).bind fun (out_46, _) =>
  some (.inl ((IntKind.i64.wrap (s_28 + ((1) : Int))), out_46, ()))) else (
  some (.inr (out_29, ()))))) n_ (((0) : Int), (List.replicate n27 []), ())).bind fun (out_47, _) =>
  some (out_47, ((0) : Int), ())))

theorem le_symbolic_Columns (n_ : Nat) (a : (((List (List Int)) × Unit) × Unit)) : Le (e_symbolic_Columns n_ a) (d_symbolic_Columns a) := by
  unfold e_symbolic_Columns d_symbolic_Columns
  repeat' (first | exact Le.refl _ | exact le_etree_Parent _ _ | exact le_symbolic_row _ _ | (refine Le.bind ?_ (fun y => ?_)) | (refine Le.bif ?_ ?_) | (refine Le.loop (fun s => ?_) _ _) | split)

def e_symbolic_column (n_ : Nat) : ((List Int) × Int × Int × Unit) → Option (Bool × Unit) := fun (l_1, j_2, n_3, _) =>
  Option.bind (α := Unit ⊕ (Bool × Unit)) (
  (bif (((((l_1).length : Nat) : Int) == ((0) : Int)) == false) then ((getI l_1 ((0) : Int)).bind fun y4 =>
  (bif (y4 != j_2) then (
  some (.inr (false, ()))) else (
  some (.inl ())))) else (some (.inr (false, ()))))) fun q => match q with
  | .inl _ => (
  (loopN (σ := (Int × Unit)) (ρ := (Unit ⊕ (Bool × Unit))) (fun (s_5, _) =>
  (bif (decide (s_5 < (((l_1).length : Nat) : Int))) then (
  Option.bind (α := Unit ⊕ ((Int × Unit) ⊕ (Unit ⊕ (Bool × Unit)))) (
  (getI l_1 s_5).bind fun y6 =>
  (bif ((decide (y6 ≥ n_3)) == false) then ((bif ((decide (s_5 > ((0) : Int))) == true) then ((getI l_1 (IntKind.i64.wrap (s_5 - ((1) : Int)))).bind fun y7 =>
  (bif (decide (y6 ≤ y7)) then (
  some (.inr (.inr (.inr (false, ()))))) else (
  some (.inl ())))) else (some (.inl ())))) else (some (.inr (.inr (.inr (false, ()))))))) fun q => match q with
  | .inl _ => (
  some (.inl ((IntKind.i64.wrap (s_5 + ((1) : Int))), ())))
  | .inr r => some r) else (
  some (.inr (.inl ()))))) n_ (((0) : Int), ())).bind fun q => match q with
  | .inl _ => (
  some (true, ()))
  | .inr r => some r)
  | .inr r => some r

theorem le_symbolic_column (n_ : Nat) (a : ((List Int) × Int × Int × Unit)) : Le (e_symbolic_column n_ a) (d_symbolic_column a) := by
  unfold e_symbolic_column d_symbolic_column
  repeat' (first | exact Le.refl _  | (refine Le.bind ?_ (fun y => ?_)) | (refine Le.bif ?_ ?_) | (refine Le.loop (fun s => ?_) _ _) | split)

def e_symbolic_Reach (n_ : Nat) : ((List (List Int)) × (List Int) × Unit) → Option ((List Int) × Int × Unit) := fun (cols_1, b_2, _) =>
  (bif (decide ((((cols_1).length : Nat) : Int) > ((200) : Int))) then (
  some ([], ((6) : Int), ())) else (
  (loopN (σ := (Int × Unit)) (ρ := (Unit ⊕ ((List Int) × Int × Unit))) (fun (s_52, _) =>
  (bif (decide (s_52 < (((cols_1).length : Nat) : Int))) then (
  (getI cols_1 s_52).bind fun y53 =>
  (e_symbolic_column n_ (y53, s_52, (((cols_1).length : Nat) : Int), ())).bind fun (r54, _) =>
  (bif (!r54) then (
  some (.inr (.inr ([], ((1) : Int), ())))) else (
  some (.inl ((IntKind.i64.wrap (s_52 + ((1) : Int))), ()))))) else (
  some (.inr (.inl ()))))) n_ (((0) : Int), ())).bind fun q => match q with
  | .inl _ => (
  (madeO (((cols_1).length : Nat) : Int) (((cols_1).length : Nat) : Int)).bind fun n55 =>
  (loopN (σ := (Int × (List Bool) × Unit)) (ρ := (((List Bool) × Unit) ⊕ ((List Int) × Int × Unit))) (fun (s_56, marked_57, _) =>
  (bif (decide (s_56 < (((b_2).length : Nat) : Int))) then (
  Option.bind (α := ((List Bool) × Unit) ⊕ ((Int × (List Bool) × Unit) ⊕ (((List Bool) × Unit) ⊕ ((List Int) × Int × Unit)))) (
  (getI b_2 s_56).bind fun y58 =>
  Option.bind (α := ((List Bool) × Unit) ⊕ (((List Bool) × Unit) ⊕ ((Int × (List Bool) × Unit) ⊕ (((List Bool) × Unit) ⊕ ((List Int) × Int × Unit))))) (
  Option.bind (α := (Bool × (List Bool) × Unit)) (
  (bif ((decide (y58 < ((0) : Int))) == false) then (some ((decide (y58 ≥ (((cols_1).length : Nat) : Int))), marked_57, ())) else (some (true, marked_57, ())))) fun (s_59, marked_60, _) =>
  (bif s_59 then (
  some (.inr (.inr (.inr (.inr ([], ((3) : Int), ())))))) else (
  some (.inl (marked_60, ()))))) fun q => match q with
  | .inl (marked_61, _) => (
  (idxN (marked_61).length y58).bind fun k62 =>
  ((atO marked_61 k62 fun _ => some ((marked_61).set k62 true))).bind fun z64 =>
  some (.inl (z64, ())))
  | .inr r => some r) fun q => match q with
  | .inl (marked_65, _) => (
  some (.inl ((IntKind.i64.wrap (s_56 + ((1) : Int))), marked_65, ())))
  | .inr r => some r) else (
  some (.inr (.inl (marked_57, ())))))) n_ (((0) : Int), (List.replicate n55 false), ())).bind fun q => match q with
  | .inl (marked_66, _) => (
  (loopN (σ := (Int × (List Bool) × (List Int) × Unit)) (ρ := ((List Int) × Unit)) (fun (s_67, marked_68, out_69, _) =>
  (bif (decide (s_67 < (((cols_1).length : Nat) : Int))) then (
  Option.bind (α := ((List Bool) × (List Int) × Unit)) (
  (getI cols_1 s_67).bind fun y70 =>
  (idxN (marked_68).length s_67).bind fun k71 =>
  ((atO marked_68 k71 fun e72 => some e72)).bind fun y73 =>
  (bif (!y73) then (
  some (marked_68, out_69, ())) else (
  (limO ((out_69).length + ([s_67]).length)).bind fun _ =>
  (loopN (σ := (Int × (List Bool) × (List Int) × Unit)) (ρ := ((List Bool) × (List Int) × Unit)) (fun (s_74, marked_75, out_76, _) =>
  (bif (decide (s_74 < (((y70).length : Nat) : Int))) then (
  (getI y70 s_74).bind fun y77 =>
  (idxN (marked_75).length y77).bind fun k78 =>
  ((atO marked_75 k78 fun _ => some ((marked_75).set k78 true))).bind fun z80 =>
  some (.inl ((IntKind.i64.wrap (s_74 + ((1) : Int))), z80, out_76, ()))) else (
  some (.inr (marked_75, out_76, ()))))) n_ (((0) : Int), marked_68, (out_69 ++ [s_67]), ())).bind fun (marked_81, out_82, _) =>
  some (marked_81, out_82, ())))) fun (marked_83, out_84, _) =>
  some (.inl ((IntKind.i64.wrap (s_67 + ((1) : Int))), marked_83, out_84, ()))) else (
  some (.inr (out_69, ()))))) n_ (((0) : Int), marked_66, [], ())).bind fun (out_85, _) =>
  some (out_85, ((0) : Int), ()))
  | .inr r => some r)
  | .inr r => some r))

theorem le_symbolic_Reach (n_ : Nat) (a : ((List (List Int)) × (List Int) × Unit)) : Le (e_symbolic_Reach n_ a) (d_symbolic_Reach a) := by
  unfold e_symbolic_Reach d_symbolic_Reach
  repeat' (first | exact Le.refl _ | exact le_symbolic_column _ _ | (refine Le.bind ?_ (fun y => ?_)) | (refine Le.bif ?_ ?_) | (refine Le.loop (fun s => ?_) _ _) | split)

def e_sparsekit_Ints (n_ : Nat) : ((List Int) × (List Int) × Unit) → Option (Bool × Unit) := fun (a_1, b_2, _) =>
  (bif ((((a_1).length : Nat) : Int) != (((b_2).length : Nat) : Int)) then (
  some (false, ())) else (
  (loopN (σ := (Int × Unit)) (ρ := (Unit ⊕ (Bool × Unit))) (fun (i_3, _) =>
  (bif (decide (i_3 < (((a_1).length : Nat) : Int))) then (
  (getI a_1 i_3).bind fun y4 =>
  (getI b_2 i_3).bind fun y5 =>
  (bif (y4 != y5) then (
  some (.inr (.inr (false, ())))) else (
  some (.inl ((IntKind.i64.wrap (i_3 + ((1) : Int))), ()))))) else (
  some (.inr (.inl ()))))) n_ (((0) : Int), ())).bind fun q => match q with
  | .inl _ => (
  some (true, ()))
  | .inr r => some r))

theorem le_sparsekit_Ints (n_ : Nat) (a : ((List Int) × (List Int) × Unit)) : Le (e_sparsekit_Ints n_ a) (d_sparsekit_Ints a) := by
  unfold e_sparsekit_Ints d_sparsekit_Ints
  repeat' (first | exact Le.refl _  | (refine Le.bind ?_ (fun y => ?_)) | (refine Le.bif ?_ ?_) | (refine Le.loop (fun s => ?_) _ _) | split)

def e_sparsekit_Lists (n_ : Nat) : ((List (List Int)) × (List (List Int)) × Unit) → Option (Bool × Unit) := fun (a_1, b_2, _) =>
  (bif ((((a_1).length : Nat) : Int) != (((b_2).length : Nat) : Int)) then (
  some (false, ())) else (
  (loopN (σ := (Int × Unit)) (ρ := (Unit ⊕ (Bool × Unit))) (fun (i_3, _) =>
  (bif (decide (i_3 < (((a_1).length : Nat) : Int))) then (
  (getI a_1 i_3).bind fun y4 =>
  (getI b_2 i_3).bind fun y5 =>
  (e_sparsekit_Ints n_ (y4, y5, ())).bind fun (r6, _) =>
  (bif (!r6) then (
  some (.inr (.inr (false, ())))) else (
  some (.inl ((IntKind.i64.wrap (i_3 + ((1) : Int))), ()))))) else (
  some (.inr (.inl ()))))) n_ (((0) : Int), ())).bind fun q => match q with
  | .inl _ => (
  some (true, ()))
  | .inr r => some r))

theorem le_sparsekit_Lists (n_ : Nat) (a : ((List (List Int)) × (List (List Int)) × Unit)) : Le (e_sparsekit_Lists n_ a) (d_sparsekit_Lists a) := by
  unfold e_sparsekit_Lists d_sparsekit_Lists
  repeat' (first | exact Le.refl _ | exact le_sparsekit_Ints _ _ | (refine Le.bind ?_ (fun y => ?_)) | (refine Le.bif ?_ ?_) | (refine Le.loop (fun s => ?_) _ _) | split)

def e_sparselaw20q_awake (n_ : Nat) : Unit → Option (Bool × Unit) := fun _ =>
  (e_symbolic_Columns n_ (([[((1) : Int), ((2) : Int)], [((0) : Int)], [((0) : Int)]], ()), ())).bind fun (r1, r2, _) =>
  (e_symbolic_Reach n_ (r1, [((1) : Int)], ())).bind fun (r3, r4, _) =>
  (bif ((r2 == ((0) : Int)) == true) then ((bif ((r4 == ((0) : Int)) == true) then ((e_sparsekit_Lists n_ (r1, [[((0) : Int), ((1) : Int), ((2) : Int)], [((1) : Int), ((2) : Int)], [((2) : Int)]], ())).bind fun (r5, _) =>
  (bif (r5 == true) then ((e_sparsekit_Ints n_ (r3, [((1) : Int), ((2) : Int)], ())).bind fun (r6, _) =>
  some (r6, ())) else (some (false, ())))) else (some (false, ())))) else (some (false, ())))

theorem le_sparselaw20q_awake (n_ : Nat) (a : Unit) : Le (e_sparselaw20q_awake n_ a) (d_sparselaw20q_awake a) := by
  unfold e_sparselaw20q_awake d_sparselaw20q_awake
  repeat' (first | exact Le.refl _ | exact le_symbolic_Reach _ _ | exact le_sparsekit_Ints _ _ | exact le_sparsekit_Lists _ _ | exact le_symbolic_Columns _ _ | (refine Le.bind ?_ (fun y => ?_)) | (refine Le.bif ?_ ?_) | (refine Le.loop (fun s => ?_) _ _) | split)
end Go.Fw
