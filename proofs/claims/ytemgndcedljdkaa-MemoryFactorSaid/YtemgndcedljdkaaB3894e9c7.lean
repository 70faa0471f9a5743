/-
  Parts of the proof: Dn21, TwS, Dn20b, Dn22, Ok22, Pl2, Pl3, Pl5: the framework (Fw), pure forms (Dn), plain laws (Pl, Th), calls of functions (Ok).
-/
import Derived.Lib.SlicesCompact
import Derived.Test.YtemgndcedljdkaaProg
import Derived.KernelRfl
import Derived.Test.YtemgndcedljdkaaB0e678192

set_option linter.all false
section
namespace Go.Fw
noncomputable def d_sparselaw21q_small : (((List (List Int)) × Unit) × Unit) → Option (Bool × Unit) := fun (g_1, _) =>
  Option.bind (α := Unit ⊕ (Bool × Unit)) (
  (bif ((decide ((((g_1.1).length : Nat) : Int) > ((10) : Int))) == true) then ((bif ((decide ((((g_1.1).length : Nat) : Int) ≤ ((200) : Int))) == false) then ((bif (decide ((((g_1.1).length : Nat) : Int) > ((400) : Int))) then (
  some (.inr (false, ()))) else (
  some (.inl ())))) else (some (.inr (false, ()))))) else ((bif (decide ((((g_1.1).length : Nat) : Int) > ((400) : Int))) then (
  some (.inr (false, ()))) else (
  some (.inl ())))))) fun q => match q with
  | .inl _ => (
  (loop (σ := (Int × Unit)) (ρ := (Unit ⊕ (Bool × Unit))) (fun (v_2, _) =>
  (bif (decide (v_2 < (((g_1.1).length : Nat) : Int))) then (
  (getI g_1.1 v_2).bind fun y3 =>
  (bif (decide ((((y3).length : Nat) : Int) > ((20) : Int))) then (
  some (.inr (.inr (false, ())))) else (
  some (.inl ((IntKind.i64.wrap (v_2 + ((1) : Int))), ()))))) else (
  some (.inr (.inl ()))))) (((0) : Int), ())).bind fun q => match q with
  | .inl _ => (
  some (true, ()))
  | .inr r => some r)
  | .inr r => some r
noncomputable def d_sparselaw21q_slim : ((List (Int × (Int × ((List Int) × (Int × Unit))))) × Unit) → Option (Bool × Unit) := fun (l_1, _) =>
  (loop (σ := (Int × Unit)) (ρ := (Unit ⊕ (Bool × Unit))) (fun (i_2, _) =>
  (bif (decide (i_2 < (((l_1).length : Nat) : Int))) then (
  (getI l_1 i_2).bind fun y3 =>
  (bif (decide ((((y3.2.2.1).length : Nat) : Int) > ((20) : Int))) then (
  some (.inr (.inr (false, ())))) else (
  some (.inl ((IntKind.i64.wrap (i_2 + ((1) : Int))), ()))))) else (
  some (.inr (.inl ()))))) (((0) : Int), ())).bind fun q => match q with
  | .inl _ => (
  some ((decide ((((l_1).length : Nat) : Int) ≤ ((20) : Int))), ()))
  | .inr r => some r
noncomputable def d_etree_Check : ((List Int) × Unit) → Option (Int × Unit) := fun (parent_1, _) =>
  (bif (decide ((((parent_1).length : Nat) : Int) > ((200) : Int))) then (
  some (((6) : Int), ())) else (
  (loop (σ := (Int × Unit)) (ρ := (Unit ⊕ (Int × Unit))) (fun (s_2, _) =>
  (bif (decide (s_2 < (((parent_1).length : Nat) : Int))) then (
  Option.bind (α := Unit ⊕ ((Int × Unit) ⊕ (Unit ⊕ (Int × Unit)))) (
  (getI parent_1 s_2).bind fun y3 =>
  (bif ((y3 != (-1 : Int)) == true) then ((bif ((decide (y3 ≤ s_2)) == false) then ((bif (decide (y3 ≥ (((parent_1).length : Nat) : Int))) then (
  some (.inr (.inr (.inr (((190) : Int), ()))))) else (
  some (.inl ())))) else (some (.inr (.inr (.inr (((190) : Int), ()))))))) else (some (.inl ())))) fun q => match q with
  | .inl _ => (
  some (.inl ((IntKind.i64.wrap (s_2 + ((1) : Int))), ())))
  | .inr r => some r) else (
  some (.inr (.inl ()))))) (((0) : Int), ())).bind fun q => match q with
  | .inl _ => (
  some (((0) : Int), ()))
  | .inr r => some r))
noncomputable def d_etree_Sizes : ((List Int) × Unit) → Option ((List Int) × Int × Unit) := fun (parent_1, _) =>
  (d_etree_Check (parent_1, ())).bind fun (r24, _) =>
  (bif (r24 != ((0) : Int)) then (
  some ([], r24, ())) else (
  (madeO (((parent_1).length : Nat) : Int) (((parent_1).length : Nat) : Int)).bind fun n25 =>
  (loop (σ := (Int × (List Int) × Unit)) (ρ := ((List Int) × Unit)) (fun (s_26, out_27, _) =>
  (bif (decide (s_26 < (((parent_1).length : Nat) : Int))) then (
  Option.bind (α := ((List Int) × Unit)) (
  (getI parent_1 s_26).bind fun y28 =>
  (idxN (out_27).length s_26).bind fun k29 =>
  ((atO out_27 k29 fun e30 => some e30)).bind fun y31 =>
  (idxN (out_27).length s_26).bind fun k32 =>
  ((atO out_27 k32 fun _ => some ((out_27).set k32 (IntKind.i64.wrap (y31 + ((1) : Int)))))).bind fun z34 =>
  (bif (y28 != (-1 : Int)) then (
  (idxN (z34).length y28).bind fun k35 =>
  ((atO z34 k35 fun e36 => some e36)).bind fun y37 =>
  (idxN (z34).length s_26).bind fun k38 =>
  ((atO z34 k38 fun e39 => some e39)).bind fun y40 =>
  (idxN (z34).length y28).bind fun k41 =>
  ((atO z34 k41 fun _ => some ((z34).set k41 (IntKind.i64.wrap (y37 + y40))))).bind fun z43 =>
  some (z43, ())) else (
  some (z34, ())))) fun (out_44, _) =>
  some (.inl ((IntKind.i64.wrap (s_26 + ((1) : Int))), out_44, ()))) else (
  some (.inr (out_27, ()))))) (((0) : Int), (List.replicate n25 (0 : Int)), ())).bind fun (out_45, _) =>
  some (out_45, ((0) : Int), ())))
noncomputable def d_supernode_contiguous : ((List Int) × (List Int) × Unit) → Option (Bool × Unit) := fun (parent_1, sizes_2, _) =>
  (madeO (((parent_1).length : Nat) : Int) (((parent_1).length : Nat) : Int)).bind fun n3 =>
  (loop (σ := (Int × (List Int) × Unit)) (ρ := ((List Int) × Unit)) (fun (s_4, least_5, _) =>
  (bif (decide (s_4 < ((((List.replicate n3 (0 : Int))).length : Nat) : Int))) then (
  (idxN (least_5).length s_4).bind fun k6 =>
  ((atO least_5 k6 fun _ => some ((least_5).set k6 s_4))).bind fun z8 =>
  some (.inl ((IntKind.i64.wrap (s_4 + ((1) : Int))), z8, ()))) else (
  some (.inr (least_5, ()))))) (((0) : Int), (List.replicate n3 (0 : Int)), ())).bind fun (least_9, _) =>
  (loop (σ := (Int × (List Int) × Unit)) (ρ := ((List Int) × Unit)) (fun (s_10, least_11, _) =>
  (bif (decide (s_10 < (((parent_1).length : Nat) : Int))) then (
  Option.bind (α := ((List Int) × Unit)) (
  (getI parent_1 s_10).bind fun y12 =>
  (bif (decide (y12 ≥ ((0) : Int))) then (
  (idxN (least_11).length y12).bind fun k13 =>
  ((atO least_11 k13 fun e14 => some e14)).bind fun y15 =>
  (idxN (least_11).length s_10).bind fun k16 =>
  ((atO least_11 k16 fun e17 => some e17)).bind fun y18 =>
  (idxN (least_11).length y12).bind fun k19 =>
  ((atO least_11 k19 fun _ => some ((least_11).set k19 (if y18 < y15 then y18 else y15)))).bind fun z21 =>
  some (z21, ())) else (
  some (least_11, ())))) fun (least_22, _) =>
  some (.inl ((IntKind.i64.wrap (s_10 + ((1) : Int))), least_22, ()))) else (
  some (.inr (least_11, ()))))) (((0) : Int), least_9, ())).bind fun (least_23, _) =>
  (loop (σ := (Int × (List Int) × Unit)) (ρ := (Unit ⊕ (Bool × Unit))) (fun (s_24, least_25, _) =>
  (bif (decide (s_24 < (((parent_1).length : Nat) : Int))) then (
  (idxN (least_25).length s_24).bind fun k26 =>
  ((atO least_25 k26 fun e27 => some e27)).bind fun y28 =>
  (getI sizes_2 s_24).bind fun y29 =>
  (bif (y28 != (IntKind.i64.wrap ((IntKind.i64.wrap (s_24 - y29)) + ((1) : Int)))) then (
  some (.inr (.inr (false, ())))) else (
  some (.inl ((IntKind.i64.wrap (s_24 + ((1) : Int))), least_25, ()))))) else (
  some (.inr (.inl ()))))) (((0) : Int), least_23, ())).bind fun q => match q with
  | .inl _ => (
  some (true, ()))
  | .inr r => some r
noncomputable def d_supernode_analyse : (((List (List Int)) × Unit) × Unit) → Option (((List Int) × ((List Int) × ((List (List Int)) × Unit))) × Int × Unit) := fun (g_1, _) =>
  (d_etree_Parent (g_1, ())).bind fun (r2, r3, _) =>
  (bif (r3 != ((0) : Int)) then (
  some (([], ([], ([], ()))), r3, ())) else (
  (d_etree_Sizes (r2, ())).bind fun (r4, _, _) =>
  (d_supernode_contiguous (r2, r4, ())).bind fun (r6, _) =>
  (bif (!r6) then (
  some (([], ([], ([], ()))), ((210) : Int), ())) else (
  (d_symbolic_Columns (g_1, ())).bind fun (r7, _, _) =>
  some ((r2, (r4, (r7, ()))), ((0) : Int), ())))))
noncomputable def d_etree_Children : ((List Int) × Unit) → Option ((List (List Int)) × (List Int) × Unit) := fun (parent_1, _) =>
  (madeO (((parent_1).length : Nat) : Int) (((parent_1).length : Nat) : Int)).bind fun n3 =>
  (loop (σ := (Int × (List (List Int)) × (List Int) × Unit)) (ρ := ((List (List Int)) × (List Int) × Unit)) (fun (s_4, children_5, roots_6, _) =>
  (bif (decide (s_4 < (((parent_1).length : Nat) : Int))) then (
  Option.bind (α := ((List (List Int)) × (List Int) × Unit)) (
  (getI parent_1 s_4).bind fun y7 =>
  (bif (y7 == (-1 : Int)) then (
  (limO ((roots_6).length + ([s_4]).length)).bind fun _ =>
  some (children_5, (roots_6 ++ [s_4]), ())) else (
  (idxN (children_5).length y7).bind fun k8 =>
  ((atO children_5 k8 fun e10 => some e10)).bind fun xs11 =>
  (limO ((xs11).length + ([s_4]).length)).bind fun _ =>
  (idxN (children_5).length y7).bind fun k12 =>
  (bif (Nat.beq k8 k12 && true) then (
  ((atO children_5 k12 fun e13 => some e13)).bind fun xs14 =>
  ((atO children_5 k12 fun _ => some ((children_5).set k12 (xs14 ++ [s_4])))).bind fun z16 =>
  some (z16, roots_6, ())) else none)))) fun (children_17, roots_18, _) =>
  some (.inl ((IntKind.i64.wrap (s_4 + ((1) : Int))), children_17, roots_18, ()))) else (
  some (.inr (children_5, roots_6, ()))))) (((0) : Int), (List.replicate n3 []), [], ())).bind fun (children_19, roots_20, _) =>
  some (children_19, roots_20, ())
noncomputable def d_supernode_Fundamental : (((List (List Int)) × Unit) × Unit) → Option ((List Int) × Int × Unit) := fun (g_1, _) =>
  (d_supernode_analyse (g_1, ())).bind fun (r22, r23, _) =>
  (bif (r23 != ((0) : Int)) then (
  some ([], r23, ())) else (
  (d_etree_Children (r22.1, ())).bind fun (r24, _, _) =>
  (loop (σ := (Int × ((List Int) × ((List Int) × ((List (List Int)) × Unit))) × (List Int) × Unit)) (ρ := ((List Int) × Unit)) (fun (s_26, a_27, out_28, _) =>
  (bif (decide (s_26 < (((r22.1).length : Nat) : Int))) then (
  Option.bind (α := (((List Int) × ((List Int) × ((List (List Int)) × Unit))) × (List Int) × Unit)) (
  Option.bind (α := (((List Int) × ((List Int) × ((List (List Int)) × Unit))) × (List Int) × Unit) ⊕ (((List Int) × ((List Int) × ((List (List Int)) × Unit))) × (List Int) × Unit)) (
  (bif ((decide (s_26 > ((0) : Int))) == true) then ((getI a_27.1 (IntKind.i64.wrap (s_26 - ((1) : Int)))).bind fun y29 =>
  (bif ((y29 == s_26) == true) then ((getI r24 s_26).bind fun y30 =>
  (bif (((((y30).length : Nat) : Int) == ((1) : Int)) == true) then ((getI a_27.2.2.1 (IntKind.i64.wrap (s_26 - ((1) : Int)))).bind fun y31 =>
  (getI a_27.2.2.1 s_26).bind fun y32 =>
  (bif ((((y31).length : Nat) : Int) == (IntKind.i64.wrap ((((y32).length : Nat) : Int) + ((1) : Int)))) then (
  some (.inr (a_27, out_28, ()))) else (
  some (.inl (a_27, out_28, ()))))) else (some (.inl (a_27, out_28, ()))))) else (some (.inl (a_27, out_28, ()))))) else (some (.inl (a_27, out_28, ()))))) fun q => match q with
  | .inl (a_33, out_34, _) => (
  (limO ((out_34).length + ([s_26]).length)).bind fun _ =>
  some (a_33, (out_34 ++ [s_26]), ()))
  | .inr r => some r) fun (a_35, out_36, _) =>
  some (.inl ((IntKind.i64.wrap (s_26 + ((1) : Int))), a_35, out_36, ()))) else (
  some (.inr (out_28, ()))))) (((0) : Int), r22, [], ())).bind fun (out_37, _) =>
  some (out_37, ((0) : Int), ())))
noncomputable def d_supernode_analysis_permitted : (((List Int) × ((List Int) × ((List (List Int)) × Unit))) × (List Int) × Unit) → Option (Bool × Unit) := fun (a_1, starts_2, _) =>
  Option.bind (α := Unit ⊕ (Bool × Unit)) (
  Option.bind (α := (Bool × Unit)) (
  (bif (((((a_1.1).length : Nat) : Int) == ((0) : Int)) == false) then (some (((((starts_2).length : Nat) : Int) == ((0) : Int)), ())) else (some (true, ())))) fun (s_3, _) =>
  (bif s_3 then (
  (bif (((((a_1.1).length : Nat) : Int) == ((0) : Int)) == true) then (some (.inr (((((starts_2).length : Nat) : Int) == ((0) : Int)), ()))) else (some (.inr (false, ()))))) else (
  some (.inl ())))) fun q => match q with
  | .inl _ => (
  (getI starts_2 ((0) : Int)).bind fun y4 =>
  (bif (y4 != ((0) : Int)) then (
  some (false, ())) else (
  (loop (σ := (Int × Unit)) (ρ := (Unit ⊕ (Bool × Unit))) (fun (s_5, _) =>
  (bif (decide (s_5 < (((starts_2).length : Nat) : Int))) then (
  Option.bind (α := Unit ⊕ ((Int × Unit) ⊕ (Unit ⊕ (Bool × Unit)))) (
  (getI starts_2 s_5).bind fun y6 =>
  Option.bind (α := (Int × Unit)) (
  (bif (decide ((IntKind.i64.wrap (s_5 + ((1) : Int))) < (((starts_2).length : Nat) : Int))) then (
  (getI starts_2 (IntKind.i64.wrap (s_5 + ((1) : Int)))).bind fun y7 =>
  some (y7, ())) else (
  some ((((a_1.1).length : Nat) : Int), ())))) fun (last_8, _) =>
  (bif ((decide (last_8 ≤ y6)) == false) then ((bif ((decide (last_8 > (((a_1.1).length : Nat) : Int))) == false) then ((getI a_1.2.1 (IntKind.i64.wrap (last_8 - ((1) : Int)))).bind fun y9 =>
  (bif (decide (y6 < (IntKind.i64.wrap (last_8 - y9)))) then (
  some (.inr (.inr (.inr (false, ()))))) else (
  some (.inl ())))) else (some (.inr (.inr (.inr (false, ()))))))) else (some (.inr (.inr (.inr (false, ()))))))) fun q => match q with
  | .inl _ => (
  some (.inl ((IntKind.i64.wrap (s_5 + ((1) : Int))), ())))
  | .inr r => some r) else (
  some (.inr (.inl ()))))) (((0) : Int), ())).bind fun q => match q with
  | .inl _ => (
  some (true, ()))
  | .inr r => some r)))
  | .inr r => some r
noncomputable def d_supernode_analysis_rows : (((List Int) × ((List Int) × ((List (List Int)) × Unit))) × Int × Int × Unit) → Option ((List Int) × Unit) := fun (a_1, first_2, last_3, _) =>
  (loop (σ := (Int × (List Int) × Unit)) (ρ := ((List Int) × Unit)) (fun (j_4, out_5, _) =>
  (bif (decide (j_4 < last_3)) then (
  (limO ((out_5).length + ([j_4]).length)).bind fun _ =>
  some (.inl ((IntKind.i64.wrap (j_4 + ((1) : Int))), (out_5 ++ [j_4]), ()))) else (
  some (.inr (out_5, ()))))) (first_2, [], ())).bind fun (out_6, _) =>
  (getI a_1.2.2.1 (IntKind.i64.wrap (last_3 - ((1) : Int)))).bind fun y7 =>
  ((natO ((1) : Int)).bind fun l8 => (some ((y7).length)).bind fun l9 => (leO l8 l9 (y7).length).map fun _ => (l8, l9)).bind fun q10 =>
  (limO ((out_6).length + ((((y7).take q10.2).drop q10.1)).length)).bind fun _ =>
  some ((out_6 ++ (((y7).take q10.2).drop q10.1)), ())
noncomputable def d_supernode_analysis_zeros : (((List Int) × ((List Int) × ((List (List Int)) × Unit))) × Int × Int × Unit) → Option (Int × Unit) := fun (a_1, first_2, last_3, _) =>
  (d_supernode_analysis_rows (a_1, first_2, last_3, ())).bind fun (r4, _) =>
  (loop (σ := (Int × Int × Unit)) (ρ := (Int × Unit)) (fun (n_5, j_6, _) =>
  (bif (decide (j_6 < last_3)) then (
  (getI a_1.2.2.1 j_6).bind fun y7 =>
  some (.inl ((IntKind.i64.wrap (n_5 + (IntKind.i64.wrap ((IntKind.i64.wrap ((((r4).length : Nat) : Int) - (IntKind.i64.wrap (j_6 - first_2)))) - (((y7).length : Nat) : Int))))), (IntKind.i64.wrap (j_6 + ((1) : Int))), ()))) else (
  some (.inr (n_5, ()))))) (((0) : Int), first_2, ())).bind fun (n_8, _) =>
  some (n_8, ())
noncomputable def d_supernode_Relax : (((List (List Int)) × Unit) × (List Int) × Int × Unit) → Option ((List Int) × Int × Unit) := fun (g_1, starts_2, zeros_3, _) =>
  (d_supernode_analyse (g_1, ())).bind fun (r43, r44, _) =>
  Option.bind (α := (((List Int) × ((List Int) × ((List (List Int)) × Unit))) × Unit) ⊕ ((List Int) × Int × Unit)) (
  (bif (r44 != ((0) : Int)) then (
  some (.inr ([], r44, ()))) else (
  Option.bind (α := (Bool × ((List Int) × ((List Int) × ((List (List Int)) × Unit))) × Unit)) (
  (d_supernode_analysis_permitted (r43, starts_2, ())).bind fun (r45, _) =>
  (bif ((!r45) == false) then (some ((decide (zeros_3 < ((0) : Int))), r43, ())) else (some (true, r43, ())))) fun (s_46, a_47, _) =>
  (bif s_46 then (
  some (.inr ([], ((1) : Int), ()))) else (
  some (.inl (a_47, ()))))))) fun q => match q with
  | .inl (a_48, _) => (
  (loop (σ := (Int × ((List Int) × ((List Int) × ((List (List Int)) × Unit))) × (List Int) × Unit)) (ρ := ((List Int) × Unit)) (fun (s_49, a_50, out_51, _) =>
  (bif (decide (s_49 < (((starts_2).length : Nat) : Int))) then (
  Option.bind (α := (((List Int) × ((List Int) × ((List (List Int)) × Unit))) × (List Int) × Unit)) (
  (getI starts_2 s_49).bind fun y52 =>
  Option.bind (α := (Int × ((List Int) × ((List Int) × ((List (List Int)) × Unit))) × (List Int) × Unit)) (
  (bif (decide ((IntKind.i64.wrap (s_49 + ((1) : Int))) < (((starts_2).length : Nat) : Int))) then (
  (getI starts_2 (IntKind.i64.wrap (s_49 + ((1) : Int)))).bind fun y53 =>
  some (y53, a_50, out_51, ())) else (
  some ((((a_50.1).length : Nat) : Int), a_50, out_51, ())))) fun (last_54, a_55, out_56, _) =>
  (loop (σ := (Int × ((List Int) × ((List Int) × ((List (List Int)) × Unit))) × (List Int) × Unit)) (ρ := (Int × ((List Int) × ((List Int) × ((List (List Int)) × Unit))) × (List Int) × Unit)) (fun (first_57, a_58, out_59, _) =>
  (bif (decide ((((out_59).length : Nat) : Int) > ((0) : Int))) then (
  (getI a_58.1 (IntKind.i64.wrap (first_57 - ((1) : Int)))).bind fun y60 =>
  (idxN (out_59).length (IntKind.i64.wrap ((((out_59).length : Nat) : Int) - ((1) : Int)))).bind fun k61 =>
  ((atO out_59 k61 fun e62 => some e62)).bind fun y63 =>
  Option.bind (α := (((List Int) × ((List Int) × ((List (List Int)) × Unit))) × (List Int) × Unit) ⊕ ((Int × ((List Int) × ((List Int) × ((List (List Int)) × Unit))) × (List Int) × Unit) ⊕ (Int × ((List Int) × ((List Int) × ((List (List Int)) × Unit))) × (List Int) × Unit))) (
  (bif ((decide (y60 < first_57)) == false) then ((bif ((decide (y60 ≥ last_54)) == false) then ((d_supernode_analysis_zeros (a_58, y63, last_54, ())).bind fun (r64, _) =>
  (bif (decide (r64 > zeros_3)) then (
  some (.inr (.inr (first_57, a_58, out_59, ())))) else (
  some (.inl (a_58, out_59, ()))))) else (some (.inr (.inr (first_57, a_58, out_59, ())))))) else (some (.inr (.inr (first_57, a_58, out_59, ())))))) fun q => match q with
  | .inl (a_65, out_66, _) => (
  ((some (0)).bind fun l67 => (natO (IntKind.i64.wrap ((((out_66).length : Nat) : Int) - ((1) : Int)))).bind fun l68 => (leO l67 l68 (out_66).length).bind fun _ => (posO (out_66).length).map fun _ => (l67, l68)).bind fun q69 =>
  some (.inl (y63, a_65, (((out_66).take q69.2).drop q69.1), ())))
  | .inr r => some r) else (
  some (.inr (first_57, a_58, out_59, ()))))) (y52, a_55, out_56, ())).bind fun (first_70, a_71, out_72, _) =>
  (limO ((out_72).length + ([first_70]).length)).bind fun _ =>
  some (a_71, (out_72 ++ [first_70]), ())) fun (a_73, out_74, _) =>
  some (.inl ((IntKind.i64.wrap (s_49 + ((1) : Int))), a_73, out_74, ()))) else (
  some (.inr (out_51, ()))))) (((0) : Int), a_48, [], ())).bind fun (out_75, _) =>
  some (out_75, ((0) : Int), ()))
  | .inr r => some r
noncomputable def d_supernode_Fronts : (((List (List Int)) × Unit) × (List Int) × Unit) → Option ((List (Int × (Int × ((List Int) × (Int × Unit))))) × Int × Unit) := fun (g_1, starts_2, _) =>
  (d_supernode_analyse (g_1, ())).bind fun (r56, r57, _) =>
  (bif (r57 != ((0) : Int)) then (
  some ([], r57, ())) else (
  (d_supernode_analysis_permitted (r56, starts_2, ())).bind fun (r58, _) =>
  (bif (!r58) then (
  some ([], ((1) : Int), ())) else (
  (madeO (((r56.1).length : Nat) : Int) (((r56.1).length : Nat) : Int)).bind fun n59 =>
  (loop (σ := (Int × ((List Int) × ((List Int) × ((List (List Int)) × Unit))) × (List Int) × (List (Int × (Int × ((List Int) × (Int × Unit))))) × Unit)) (ρ := (((List Int) × ((List Int) × ((List (List Int)) × Unit))) × (List Int) × (List (Int × (Int × ((List Int) × (Int × Unit))))) × Unit)) (fun (s_60, a_61, of_62, out_63, _) =>
  (bif (decide (s_60 < (((starts_2).length : Nat) : Int))) then (
  Option.bind (α := (((List Int) × ((List Int) × ((List (List Int)) × Unit))) × (List Int) × (List (Int × (Int × ((List Int) × (Int × Unit))))) × Unit)) (
  (getI starts_2 s_60).bind fun y64 =>
  Option.bind (α := (Int × ((List Int) × ((List Int) × ((List (List Int)) × Unit))) × (List Int) × (List (Int × (Int × ((List Int) × (Int × Unit))))) × Unit)) (
  (bif (decide ((IntKind.i64.wrap (s_60 + ((1) : Int))) < (((starts_2).length : Nat) : Int))) then (
  (getI starts_2 (IntKind.i64.wrap (s_60 + ((1) : Int)))).bind fun y65 =>
  some (y65, a_61, of_62, out_63, ())) else (
  some ((((a_61.1).length : Nat) : Int), a_61, of_62, out_63, ())))) fun (last_66, a_67, of_68, out_69, _) =>
  (loop (σ := (Int × ((List Int) × ((List Int) × ((List (List Int)) × Unit))) × (List Int) × (List (Int × (Int × ((List Int) × (Int × Unit))))) × Unit)) (ρ := (((List Int) × ((List Int) × ((List (List Int)) × Unit))) × (List Int) × (List (Int × (Int × ((List Int) × (Int × Unit))))) × Unit)) (fun (j_70, a_71, of_72, out_73, _) =>
  (bif (decide (j_70 < last_66)) then (
  (idxN (of_72).length j_70).bind fun k74 =>
  ((atO of_72 k74 fun _ => some ((of_72).set k74 s_60))).bind fun z76 =>
  some (.inl ((IntKind.i64.wrap (j_70 + ((1) : Int))), a_71, z76, out_73, ()))) else (
  some (.inr (a_71, of_72, out_73, ()))))) (y64, a_67, of_68, out_69, ())).bind fun (a_77, of_78, out_79, _) =>
  (d_supernode_analysis_rows (a_77, y64, last_66, ())).bind fun (r80, _) =>
  (limO ((out_79).length + ([(y64, (last_66, (r80, ((-1 : Int), ()))))]).length)).bind fun _ =>
  some (a_77, of_78, (out_79 ++ [(y64, (last_66, (r80, ((-1 : Int), ()))))]), ())) fun (a_81, of_82, out_83, _) =>
  some (.inl ((IntKind.i64.wrap (s_60 + ((1) : Int))), a_81, of_82, out_83, ()))) else (
  some (.inr (a_61, of_62, out_63, ()))))) (((0) : Int), r56, (List.replicate n59 (0 : Int)), [], ())).bind fun (a_84, of_85, out_86, _) =>
  (loop (σ := (Int × ((List Int) × ((List Int) × ((List (List Int)) × Unit))) × (List Int) × (List (Int × (Int × ((List Int) × (Int × Unit))))) × Unit)) (ρ := ((List (Int × (Int × ((List Int) × (Int × Unit))))) × Unit)) (fun (s_87, a_88, of_89, out_90, _) =>
  (bif (decide (s_87 < (((out_86).length : Nat) : Int))) then (
  Option.bind (α := (((List Int) × ((List Int) × ((List (List Int)) × Unit))) × (List Int) × (List (Int × (Int × ((List Int) × (Int × Unit))))) × Unit)) (
  (idxN (out_90).length s_87).bind fun k91 =>
  ((atO out_90 k91 fun e92 => some e92)).bind fun y93 =>
  (getI a_88.1 (IntKind.i64.wrap (y93.2.1 - ((1) : Int)))).bind fun y94 =>
  (bif (decide (y94 ≥ ((0) : Int))) then (
  (idxN (of_89).length y94).bind fun k95 =>
  ((atO of_89 k95 fun e96 => some e96)).bind fun y97 =>
  (idxN (out_90).length s_87).bind fun k98 =>
  ((atO out_90 k98 fun e99 => some ((out_90).set k98 (e99.1, (e99.2.1, (e99.2.2.1, (y97, e99.2.2.2.2))))))).bind fun z100 =>
  some (a_88, of_89, z100, ())) else (
  some (a_88, of_89, out_90, ())))) fun (a_101, of_102, out_103, _) =>
  some (.inl ((IntKind.i64.wrap (s_87 + ((1) : Int))), a_101, of_102, out_103, ()))) else (
  some (.inr (out_90, ()))))) (((0) : Int), a_84, of_85, out_86, ())).bind fun (out_104, _) =>
  some (out_104, ((0) : Int), ())))))
noncomputable def d_sparseref19q_Parent : (((List (List Int)) × Unit) × Unit) → Option ((List Int) × Int × Unit) := fun (g_1, _) =>
  (d_sparseref12q_Check (g_1, ())).bind fun (r18, _) =>
  (bif (r18 != ((0) : Int)) then (
  some ([], r18, ())) else (
  (d_sparseref16q_Begin (g_1, ())).bind fun (r19, _) =>
  (loop (σ := (Int × ((List (List Bool)) × ((List Bool) × Unit)) × (List Int) × Unit)) (ρ := ((List Int) × Unit)) (fun (j_20, x_21, out_22, _) =>
  (bif (decide (j_20 < (((g_1.1).length : Nat) : Int))) then (
  Option.bind (α := (((List (List Bool)) × ((List Bool) × Unit)) × (List Int) × Unit)) (
  Option.bind (α := (Int × ((List (List Bool)) × ((List Bool) × Unit)) × (List Int) × Unit)) (
  (d_sparseref16q_Elimination_Neighbours ((some x_21), j_20, ())).bind fun (r23, _) =>
  (bif (decide ((((r23).length : Nat) : Int) > ((0) : Int))) then (
  (getI r23 ((0) : Int)).bind fun y24 =>
  some (y24, x_21, out_22, ())) else (
  some ((-1 : Int), x_21, out_22, ())))) fun (p_25, x_26, out_27, _) =>
  (limO ((out_27).length + ([p_25]).length)).bind fun _ =>
  (d_sparseref16q_Elimination_Eliminate (x_26, j_20, ())).bind fun (m28, _) =>
  some (m28, (out_27 ++ [p_25]), ())) fun (x_29, out_30, _) =>
  some (.inl ((IntKind.i64.wrap (j_20 + ((1) : Int))), x_29, out_30, ()))) else (
  some (.inr (out_22, ()))))) (((0) : Int), r19, [], ())).bind fun (out_31, _) =>
  some (out_31, ((0) : Int), ())))
noncomputable def d_sparseref19q_Check : ((List Int) × Unit) → Option (Int × Unit) := fun (parent_1, _) =>
  (bif (decide ((((parent_1).length : Nat) : Int) > ((200) : Int))) then (
  some (((6) : Int), ())) else (
  (loop (σ := (Int × Unit)) (ρ := (Unit ⊕ (Int × Unit))) (fun (j_2, _) =>
  (bif (decide (j_2 < (((parent_1).length : Nat) : Int))) then (
  Option.bind (α := Unit ⊕ ((Int × Unit) ⊕ (Unit ⊕ (Int × Unit)))) (
  (getI parent_1 j_2).bind fun y3 =>
  (bif ((y3 != (-1 : Int)) == true) then ((getI parent_1 j_2).bind fun y4 =>
  (bif ((decide (y4 ≤ j_2)) == false) then ((getI parent_1 j_2).bind fun y5 =>
  (bif (decide (y5 ≥ (((parent_1).length : Nat) : Int))) then (
  some (.inr (.inr (.inr (((190) : Int), ()))))) else (
  some (.inl ())))) else (some (.inr (.inr (.inr (((190) : Int), ()))))))) else (some (.inl ())))) fun q => match q with
  | .inl _ => (
  some (.inl ((IntKind.i64.wrap (j_2 + ((1) : Int))), ())))
  | .inr r => some r) else (
  some (.inr (.inl ()))))) (((0) : Int), ())).bind fun q => match q with
  | .inl _ => (
  some (((0) : Int), ()))
  | .inr r => some r))
noncomputable def r_sparseref19q_walkq_s (f_ : ((List Int) × Int × (List Int) × Unit) → Option ((List Int) × Unit)) : ((List Int) × Int × (List Int) × Unit) → Option ((List Int) × Unit) := fun (parent_1, v_2, out_3, _) =>
  (loop (σ := (Int × (List Int) × Unit)) (ρ := ((List Int) × Unit)) (fun (c_4, out_5, _) =>
  (bif (decide (c_4 < v_2)) then (
  Option.bind (α := ((List Int) × Unit)) (
  (getI parent_1 c_4).bind fun y6 =>
  (bif (y6 == v_2) then (
  (f_ (parent_1, c_4, out_5, ())).bind fun (r7, _) =>
  some (r7, ())) else (
  some (out_5, ())))) fun (out_8, _) =>
  some (.inl ((IntKind.i64.wrap (c_4 + ((1) : Int))), out_8, ()))) else (
  some (.inr (out_5, ()))))) (((0) : Int), out_3, ())).bind fun (out_9, _) =>
  (limO ((out_9).length + ([v_2]).length)).bind fun _ =>
  some ((out_9 ++ [v_2]), ())
noncomputable def r_sparseref19q_walk : Nat → ((List Int) × Int × (List Int) × Unit) → Option ((List Int) × Unit) := deep r_sparseref19q_walkq_s
theorem r_sparseref19q_walkq_mono (f_ fb_ : ((List Int) × Int × (List Int) × Unit) → Option ((List Int) × Unit)) (h_ : ∀ a, Le (f_ a) (fb_ a)) (a : ((List Int) × Int × (List Int) × Unit)) : Le (r_sparseref19q_walkq_s f_ a) (r_sparseref19q_walkq_s fb_ a) := by
  unfold r_sparseref19q_walkq_s
  repeat' (first | exact Le.refl _ | exact h_ _ | (refine Le.bind ?_ (fun y => ?_)) | (refine Le.bif ?_ ?_) | (refine Le.loop2 (fun s => ?_) _) | (refine Le.atO (fun e => ?_)) | split)
noncomputable def d_sparseref19q_walk : ((List Int) × Int × (List Int) × Unit) → Option ((List Int) × Unit) := fixO r_sparseref19q_walk
noncomputable def d_sparseref19q_Postorder : ((List Int) × Unit) → Option ((List Int) × Int × Unit) := fun (parent_1, _) =>
  (d_sparseref19q_Check (parent_1, ())).bind fun (r10, _) =>
  (bif (r10 != ((0) : Int)) then (
  some ([], r10, ())) else (
  (loop (σ := (Int × (List Int) × Unit)) (ρ := ((List Int) × Unit)) (fun (v_11, out_12, _) =>
  (bif (decide (v_11 < (((parent_1).length : Nat) : Int))) then (
  Option.bind (α := ((List Int) × Unit)) (
  (getI parent_1 v_11).bind fun y13 =>
  (bif (y13 == (-1 : Int)) then (
  (d_sparseref19q_walk (parent_1, v_11, out_12, ())).bind fun (r14, _) =>
  some (r14, ())) else (
  some (out_12, ())))) fun (out_15, _) =>
  some (.inl ((IntKind.i64.wrap (v_11 + ((1) : Int))), out_15, ()))) else (
  some (.inr (out_12, ()))))) (((0) : Int), [], ())).bind fun (out_16, _) =>
  some (out_16, ((0) : Int), ())))
noncomputable def d_sparsekit_Perm : ((List Int) × Int × Unit) → Option (Bool × Unit) := fun (l_1, n_2, _) =>
  (bif ((((l_1).length : Nat) : Int) != n_2) then (
  some (false, ())) else (
  (madeO n_2 n_2).bind fun n3 =>
  (loop (σ := (Int × (List Bool) × Unit)) (ρ := (Unit ⊕ (Bool × Unit))) (fun (i_4, seen_5, _) =>
  (bif (decide (i_4 < n_2)) then (
  Option.bind (α := ((List Bool) × Unit) ⊕ ((Int × (List Bool) × Unit) ⊕ (Unit ⊕ (Bool × Unit)))) (
  Option.bind (α := ((List Bool) × Unit) ⊕ (((List Bool) × Unit) ⊕ ((Int × (List Bool) × Unit) ⊕ (Unit ⊕ (Bool × Unit))))) (
  (getI l_1 i_4).bind fun y6 =>
  (bif ((decide (y6 < ((0) : Int))) == false) then ((getI l_1 i_4).bind fun y7 =>
  (bif ((decide (y7 ≥ n_2)) == false) then ((getI l_1 i_4).bind fun y8 =>
  (idxN (seen_5).length y8).bind fun k9 =>
  ((atO seen_5 k9 fun e10 => some e10)).bind fun y11 =>
  (bif y11 then (
  some (.inr (.inr (.inr (.inr (false, ())))))) else (
  some (.inl (seen_5, ()))))) else (some (.inr (.inr (.inr (.inr (false, ())))))))) else (some (.inr (.inr (.inr (.inr (false, ())))))))) fun q => match q with
  | .inl (seen_12, _) => (
  (getI l_1 i_4).bind fun y13 =>
  (idxN (seen_12).length y13).bind fun k14 =>
  ((atO seen_12 k14 fun _ => some ((seen_12).set k14 true))).bind fun z16 =>
  some (.inl (z16, ())))
  | .inr r => some r) fun q => match q with
  | .inl (seen_17, _) => (
  some (.inl ((IntKind.i64.wrap (i_4 + ((1) : Int))), seen_17, ())))
  | .inr r => some r) else (
  some (.inr (.inl ()))))) (((0) : Int), (List.replicate n3 false), ())).bind fun q => match q with
  | .inl _ => (
  some (true, ()))
  | .inr r => some r))
noncomputable def d_sparseref12q_Relabel : (((List (List Int)) × Unit) × (List Int) × Unit) → Option (((List (List Int)) × Unit) × Int × Unit) := fun (g_1, order_2, _) =>
  (d_sparseref12q_Check (g_1, ())).bind fun (r3, _) =>
  (bif (r3 != ((0) : Int)) then (
  some (([], ()), r3, ())) else (
  (bif ((((order_2).length : Nat) : Int) != (((g_1.1).length : Nat) : Int)) then (
  some (([], ()), ((2) : Int), ())) else (
  (d_sparsekit_Perm (order_2, (((g_1.1).length : Nat) : Int), ())).bind fun (r4, _) =>
  (bif (!r4) then (
  some (([], ()), ((90) : Int), ())) else (
  (d_sparseref12q_Induced (g_1, order_2, ())).bind fun (r5, r6, _) =>
  some (r5, r6, ())))))))
noncomputable def d_sparsemake_Post : (Int × (List Int) × Unit) → Option (((List (List Int)) × Unit) × Unit) := fun (n_1, l_2, _) =>
  (d_sparsemake_Graph (n_1, l_2, ())).bind fun (r3, _) =>
  (d_sparseref19q_Parent (r3, ())).bind fun (r4, _, _) =>
  (d_sparseref19q_Postorder (r4, ())).bind fun (r6, _, _) =>
  (d_sparseref12q_Relabel (r3, r6, ())).bind fun (r8, _, _) =>
  some (r8, ())
end Go.Fw
end

section
namespace Go.Fw
open Go
theorem Le.deep {α β : Type} {F G : (α → Option β) → α → Option β} (h : ∀ f f' : α → Option β, (∀ a, Le (f a) (f' a)) → ∀ a, Le (F f a) (G f' a))
    (hG : ∀ f f' : α → Option β, (∀ a, Le (f a) (f' a)) → ∀ a, Le (G f a) (G f' a)) (n : Nat) (a : α) : Le (Fw.deep F n a) (fixO (Fw.deep G) a) := by
  have key : ∀ n a, Le (Fw.deep F n a) (Fw.deep G n a) := by
    intro n
    induction n with
    | zero => intro a r hr; cases hr
    | succ n ih => intro a; exact h _ _ ih a
  intro r hr
  exact (fixO_iff hG).2 ⟨n, key n a r hr⟩
end Go.Fw
end

section
namespace Go.Fw
noncomputable def d_sparselaw20q_small : (((List (List Int)) × Unit) × Unit) → Option (Bool × Unit) := fun (g_1, _) =>
  Option.bind (α := Unit ⊕ (Bool × Unit)) (
  (bif ((decide ((((g_1.1).length : Nat) : Int) > ((12) : Int))) == true) then ((bif ((decide ((((g_1.1).length : Nat) : Int) ≤ ((200) : Int))) == false) then ((bif (decide ((((g_1.1).length : Nat) : Int) > ((400) : Int))) then (
  some (.inr (false, ()))) else (
  some (.inl ())))) else (some (.inr (false, ()))))) else ((bif (decide ((((g_1.1).length : Nat) : Int) > ((400) : Int))) then (
  some (.inr (false, ()))) else (
  some (.inl ())))))) fun q => match q with
  | .inl _ => (
  (loop (σ := (Int × Unit)) (ρ := (Unit ⊕ (Bool × Unit))) (fun (v_2, _) =>
  (bif (decide (v_2 < (((g_1.1).length : Nat) : Int))) then (
  (getI g_1.1 v_2).bind fun y3 =>
  (bif (decide ((((y3).length : Nat) : Int) > ((20) : Int))) then (
  some (.inr (.inr (false, ())))) else (
  some (.inl ((IntKind.i64.wrap (v_2 + ((1) : Int))), ()))))) else (
  some (.inr (.inl ()))))) (((0) : Int), ())).bind fun q => match q with
  | .inl _ => (
  some (true, ()))
  | .inr r => some r)
  | .inr r => some r
noncomputable def d_math_bits_Len32 : (Int × Unit) → Option (Int × Unit) := fun (x_1, _) =>
  Option.bind (α := (Int × Int × Unit)) (
  (bif (decide (x_1 ≥ ((65536) : Int))) then (
  (shrO IntKind.u32 x_1 ((16) : Int)).bind fun y2 =>
  some (y2, ((16) : Int), ())) else (
  some (x_1, ((0) : Int), ())))) fun (x_3, n_4, _) =>
  Option.bind (α := (Int × Int × Unit)) (
  (bif (decide (x_3 ≥ ((256) : Int))) then (
  (shrO IntKind.u32 x_3 ((8) : Int)).bind fun y5 =>
  some (y5, (IntKind.i64.wrap (n_4 + ((8) : Int))), ())) else (
  some (x_3, n_4, ())))) fun (x_6, n_7, _) =>
  (strI lenTab (IntKind.u8.wrap x_6)).bind fun c8 =>
  some ((IntKind.i64.wrap (n_7 + (IntKind.i64.wrap c8))), ())
noncomputable def d_math_bits_Len64 : (Int × Unit) → Option (Int × Unit) := fun (x_1, _) =>
  Option.bind (α := (Int × Int × Unit)) (
  (bif (decide (x_1 ≥ ((4294967296) : Int))) then (
  (shrO IntKind.u64 x_1 ((32) : Int)).bind fun y2 =>
  some (y2, ((32) : Int), ())) else (
  some (x_1, ((0) : Int), ())))) fun (x_3, n_4, _) =>
  Option.bind (α := (Int × Int × Unit)) (
  (bif (decide (x_3 ≥ ((65536) : Int))) then (
  (shrO IntKind.u64 x_3 ((16) : Int)).bind fun y5 =>
  some (y5, (IntKind.i64.wrap (n_4 + ((16) : Int))), ())) else (
  some (x_3, n_4, ())))) fun (x_6, n_7, _) =>
  Option.bind (α := (Int × Int × Unit)) (
  (bif (decide (x_6 ≥ ((256) : Int))) then (
  (shrO IntKind.u64 x_6 ((8) : Int)).bind fun y8 =>
  some (y8, (IntKind.i64.wrap (n_7 + ((8) : Int))), ())) else (
  some (x_6, n_7, ())))) fun (x_9, n_10, _) =>
  (strI lenTab (IntKind.u8.wrap x_9)).bind fun c11 =>
  some ((IntKind.i64.wrap (n_10 + (IntKind.i64.wrap c11))), ())
noncomputable def d_math_bits_Len : (Int × Unit) → Option (Int × Unit) := fun (x_1, _) =>
  (d_math_bits_Len64 (x_1, ())).bind fun (r2, _) =>
  some (r2, ())
noncomputable def d_slices_nextPowerOfTwo : (Int × Unit) → Option (Int × Unit) := fun (length_1, _) =>
  (d_math_bits_Len ((IntKind.u64.wrap length_1), ())).bind fun (r2, _) =>
  (shlO IntKind.u64 ((1) : Int) r2).bind fun y3 =>
  some (y3, ())
noncomputable def d_slices_xorshift_Next : (Int × Unit) → Option (Int × Int × Unit) := fun (r_1, _) =>
  (shlO IntKind.u64 r_1 ((13) : Int)).bind fun y2 =>
  (shrO IntKind.u64 (xorI IntKind.u64 r_1 y2) ((7) : Int)).bind fun y3 =>
  (shlO IntKind.u64 (xorI IntKind.u64 (xorI IntKind.u64 r_1 y2) y3) ((17) : Int)).bind fun y4 =>
  some ((xorI IntKind.u64 (xorI IntKind.u64 (xorI IntKind.u64 r_1 y2) y3) y4), (xorI IntKind.u64 (xorI IntKind.u64 (xorI IntKind.u64 r_1 y2) y3) y4), ())
end Go.Fw
end

section
namespace Go.Fw
noncomputable def d_memory_proper : ((List (Int × (Int × ((List Int) × (Int × Unit))))) × Unit) → Option (Bool × Unit) := fun (l_1, _) =>
  (bif (decide ((((l_1).length : Nat) : Int) > ((200) : Int))) then (
  some (false, ())) else (
  (loop (σ := (Int × Unit)) (ρ := (Unit ⊕ (Bool × Unit))) (fun (s_4, _) =>
  (bif (decide (s_4 < (((l_1).length : Nat) : Int))) then (
  Option.bind (α := Unit ⊕ ((Int × Unit) ⊕ (Unit ⊕ (Bool × Unit)))) (
  (getI l_1 s_4).bind fun y5 =>
  Option.bind (α := ((Int × (Int × ((List Int) × (Int × Unit)))) × Unit) ⊕ (Unit ⊕ ((Int × Unit) ⊕ (Unit ⊕ (Bool × Unit))))) (
  (bif ((decide ((((y5.2.2.1).length : Nat) : Int) > ((200) : Int))) == false) then ((bif ((decide (y5.2.1 ≤ y5.1)) == false) then ((bif ((decide ((IntKind.i64.wrap (y5.2.1 - y5.1)) < ((1) : Int))) == false) then ((bif (decide ((IntKind.i64.wrap (y5.2.1 - y5.1)) > (((y5.2.2.1).length : Nat) : Int))) then (
  some (.inr (.inr (.inr (.inr (false, ())))))) else (
  some (.inl (y5, ()))))) else (some (.inr (.inr (.inr (.inr (false, ())))))))) else (some (.inr (.inr (.inr (.inr (false, ())))))))) else (some (.inr (.inr (.inr (.inr (false, ())))))))) fun q => match q with
  | .inl (f_6, _) => (
  (bif ((f_6.2.2.2.1 != (-1 : Int)) == true) then ((bif ((decide (f_6.2.2.2.1 ≤ s_4)) == false) then ((bif (decide (f_6.2.2.2.1 ≥ (((l_1).length : Nat) : Int))) then (
  some (.inr (.inr (.inr (false, ()))))) else (
  some (.inl ())))) else (some (.inr (.inr (.inr (false, ()))))))) else (some (.inl ()))))
  | .inr r => some r) fun q => match q with
  | .inl _ => (
  some (.inl ((IntKind.i64.wrap (s_4 + ((1) : Int))), ())))
  | .inr r => some r) else (
  some (.inr (.inl ()))))) (((0) : Int), ())).bind fun q => match q with
  | .inl _ => (
  some (true, ()))
  | .inr r => some r))
noncomputable def d_memory_triangle : (Int × Unit) → Option (Int × Unit) := fun (n_1, _) =>
  (quoO IntKind.i64 (IntKind.i64.wrap (n_1 * (IntKind.i64.wrap (n_1 + ((1) : Int))))) ((2) : Int)).bind fun y2 =>
  some (y2, ())
noncomputable def d_memory_sizes : ((List (Int × (Int × ((List Int) × (Int × Unit))))) × Unit) → Option ((List Int) × (List Int) × Unit) := fun (l_1, _) =>
  (loop (σ := (Int × (List Int) × (List Int) × Unit)) (ρ := ((List Int) × (List Int) × Unit)) (fun (s_6, front_7, keep_8, _) =>
  (bif (decide (s_6 < (((l_1).length : Nat) : Int))) then (
  (getI l_1 s_6).bind fun y9 =>
  (d_memory_triangle ((((y9.2.2.1).length : Nat) : Int), ())).bind fun (r10, _) =>
  (limO ((front_7).length + ([r10]).length)).bind fun _ =>
  (d_memory_triangle ((IntKind.i64.wrap ((((y9.2.2.1).length : Nat) : Int) - (IntKind.i64.wrap (y9.2.1 - y9.1)))), ())).bind fun (r11, _) =>
  (limO ((keep_8).length + ([r11]).length)).bind fun _ =>
  some (.inl ((IntKind.i64.wrap (s_6 + ((1) : Int))), (front_7 ++ [r10]), (keep_8 ++ [r11]), ()))) else (
  some (.inr (front_7, keep_8, ()))))) (((0) : Int), [], [], ())).bind fun (front_12, keep_13, _) =>
  some (front_12, keep_13, ())
noncomputable def d_memory_children : ((List (Int × (Int × ((List Int) × (Int × Unit))))) × Unit) → Option ((List (List Int)) × (List Int) × Unit) := fun (l_1, _) =>
  (madeO (((l_1).length : Nat) : Int) (((l_1).length : Nat) : Int)).bind fun n8 =>
  (loop (σ := (Int × (List (List Int)) × (List Int) × Unit)) (ρ := ((List (List Int)) × (List Int) × Unit)) (fun (s_9, kids_10, roots_11, _) =>
  (bif (decide (s_9 < (((l_1).length : Nat) : Int))) then (
  Option.bind (α := ((List (List Int)) × (List Int) × Unit)) (
  (getI l_1 s_9).bind fun y12 =>
  (bif (decide (y12.2.2.2.1 < ((0) : Int))) then (
  (limO ((roots_11).length + ([s_9]).length)).bind fun _ =>
  some (kids_10, (roots_11 ++ [s_9]), ())) else (
  (idxN (kids_10).length y12.2.2.2.1).bind fun k13 =>
  ((atO kids_10 k13 fun e15 => some e15)).bind fun xs16 =>
  (limO ((xs16).length + ([s_9]).length)).bind fun _ =>
  (idxN (kids_10).length y12.2.2.2.1).bind fun k17 =>
  (bif (Nat.beq k13 k17 && true) then (
  ((atO kids_10 k17 fun e18 => some e18)).bind fun xs19 =>
  ((atO kids_10 k17 fun _ => some ((kids_10).set k17 (xs19 ++ [s_9])))).bind fun z21 =>
  some (z21, roots_11, ())) else none)))) fun (kids_22, roots_23, _) =>
  some (.inl ((IntKind.i64.wrap (s_9 + ((1) : Int))), kids_22, roots_23, ()))) else (
  some (.inr (kids_10, roots_11, ()))))) (((0) : Int), (List.replicate n8 []), [], ())).bind fun (kids_24, roots_25, _) =>
  some (kids_24, roots_25, ())
noncomputable def d_cmp_Compare_int : (Int × Int × Unit) → Option (Int × Unit) := fun (x_1, y_2, _) =>
  (d_cmp_isNaN_int (x_1, ())).bind fun (r3, _) =>
  (d_cmp_isNaN_int (y_2, ())).bind fun (r4, _) =>
  (bif r3 then (
  (bif r4 then (
  some (((0) : Int), ())) else (
  some ((-1 : Int), ())))) else (
  (bif r4 then (
  some (((1) : Int), ())) else (
  (bif (decide (x_1 < y_2)) then (
  some ((-1 : Int), ())) else (
  (bif (decide (x_1 > y_2)) then (
  some (((1) : Int), ())) else (
  some (((0) : Int), ())))))))))
noncomputable def d_cmp_Or_int : ((List Int) × Unit) → Option (Int × Unit) := fun (vals_1, _) =>
  (loop (σ := (Int × Unit)) (ρ := (Unit ⊕ (Int × Unit))) (fun (s_2, _) =>
  (bif (decide (s_2 < (((vals_1).length : Nat) : Int))) then (
  (getI vals_1 s_2).bind fun y3 =>
  (bif (y3 != ((0) : Int)) then (
  some (.inr (.inr (y3, ())))) else (
  some (.inl ((IntKind.i64.wrap (s_2 + ((1) : Int))), ()))))) else (
  some (.inr (.inl ()))))) (((0) : Int), ())).bind fun q => match q with
  | .inl _ => (
  some (((0) : Int), ()))
  | .inr r => some r
noncomputable def d_memory_Best_1q_1q_q0 : (Int × Int × (Option (List Int)) × (Option (List Int)) × Unit) → Option (Int × Unit) := fun (a_1, b_2, p_3, p_4, _) =>
  (p_3).bind fun y5 =>
  (getI y5 b_2).bind fun y6 =>
  (p_4).bind fun y7 =>
  (getI y7 b_2).bind fun y8 =>
  (p_3).bind fun y9 =>
  (getI y9 a_1).bind fun y10 =>
  (p_4).bind fun y11 =>
  (getI y11 a_1).bind fun y12 =>
  (d_cmp_Compare_int ((IntKind.i64.wrap (y6 - y8)), (IntKind.i64.wrap (y10 - y12)), ())).bind fun (r13, _) =>
  (d_cmp_Compare_int (a_1, b_2, ())).bind fun (r14, _) =>
  (d_cmp_Or_int ([r13, r14], ())).bind fun (r15, _) =>
  some (r15, ())
noncomputable def d_slices_insertionSortCmpFunc_int_mem : ((List Int) × Int × Int × ((Option (List Int)) × (Option (List Int)) × Unit) × Unit) → Option ((List Int) × Unit) := fun (data_1, a_2, b_3, cmp_4, _) =>
  (loop (σ := (Int × (List Int) × Unit)) (ρ := ((List Int) × Unit)) (fun (i_5, data_6, _) =>
  (bif (decide (i_5 < b_3)) then (
  (loop (σ := (Int × (List Int) × Unit)) (ρ := ((List Int) × Unit)) (fun (j_7, data_8, _) =>
  Option.bind (α := ((List Int) × Unit) ⊕ ((Int × (List Int) × Unit) ⊕ ((List Int) × Unit))) (
  (bif ((decide (j_7 > a_2)) == true) then ((idxN (data_8).length j_7).bind fun k9 =>
  ((atO data_8 k9 fun e10 => some e10)).bind fun y11 =>
  (idxN (data_8).length (IntKind.i64.wrap (j_7 - ((1) : Int)))).bind fun k12 =>
  ((atO data_8 k12 fun e13 => some e13)).bind fun y14 =>
  (d_memory_Best_1q_1q_q0 (y11, y14, cmp_4.1, cmp_4.2.1, ())).bind fun (r15, _) =>
  (bif (decide (r15 < ((0) : Int))) then (
  some (.inl (data_8, ()))) else (
  some (.inr (.inr (data_8, ())))))) else (some (.inr (.inr (data_8, ())))))) fun q => match q with
  | .inl (data_16, _) => (
  (idxN (data_16).length (IntKind.i64.wrap (j_7 - ((1) : Int)))).bind fun k17 =>
  ((atO data_16 k17 fun e18 => some e18)).bind fun y19 =>
  (idxN (data_16).length j_7).bind fun k20 =>
  ((atO data_16 k20 fun e21 => some e21)).bind fun y22 =>
  (idxN (data_16).length j_7).bind fun k23 =>
  ((atO data_16 k23 fun _ => some ((data_16).set k23 y19))).bind fun z25 =>
  (idxN (z25).length (IntKind.i64.wrap (j_7 - ((1) : Int)))).bind fun k26 =>
  ((atO z25 k26 fun _ => some ((z25).set k26 y22))).bind fun z28 =>
  some (.inl ((IntKind.i64.wrap (j_7 - ((1) : Int))), z28, ())))
  | .inr r => some r) (i_5, data_6, ())).bind fun (data_29, _) =>
  some (.inl ((IntKind.i64.wrap (i_5 + ((1) : Int))), data_29, ()))) else (
  some (.inr (data_6, ()))))) ((IntKind.i64.wrap (a_2 + ((1) : Int))), data_1, ())).bind fun (data_30, _) =>
  some (data_30, ())
noncomputable def d_slices_siftDownCmpFunc_int_mem : ((List Int) × Int × Int × Int × ((Option (List Int)) × (Option (List Int)) × Unit) × Unit) → Option ((List Int) × Unit) := fun (data_1, lo_2, hi_3, first_4, cmp_5, _) =>
  (loop (σ := (Int × (List Int) × Unit)) (ρ := (((List Int) × Unit) ⊕ ((List Int) × Unit))) (fun (root_6, data_7, _) =>
  (bif (decide ((IntKind.i64.wrap ((IntKind.i64.wrap (((2) : Int) * root_6)) + ((1) : Int))) ≥ hi_3)) then (
  some (.inr (.inl (data_7, ())))) else (
  Option.bind (α := (Int × (List Int) × Unit)) (
  Option.bind (α := (Bool × (List Int) × Unit)) (
  (bif ((decide ((IntKind.i64.wrap ((IntKind.i64.wrap ((IntKind.i64.wrap (((2) : Int) * root_6)) + ((1) : Int))) + ((1) : Int))) < hi_3)) == true) then ((idxN (data_7).length (IntKind.i64.wrap (first_4 + (IntKind.i64.wrap ((IntKind.i64.wrap (((2) : Int) * root_6)) + ((1) : Int)))))).bind fun k8 =>
  ((atO data_7 k8 fun e9 => some e9)).bind fun y10 =>
  (idxN (data_7).length (IntKind.i64.wrap ((IntKind.i64.wrap (first_4 + (IntKind.i64.wrap ((IntKind.i64.wrap (((2) : Int) * root_6)) + ((1) : Int))))) + ((1) : Int)))).bind fun k11 =>
  ((atO data_7 k11 fun e12 => some e12)).bind fun y13 =>
  (d_memory_Best_1q_1q_q0 (y10, y13, cmp_5.1, cmp_5.2.1, ())).bind fun (r14, _) =>
  some ((decide (r14 < ((0) : Int))), data_7, ())) else (some (false, data_7, ())))) fun (s_15, data_16, _) =>
  (bif s_15 then (
  some ((IntKind.i64.wrap ((IntKind.i64.wrap ((IntKind.i64.wrap (((2) : Int) * root_6)) + ((1) : Int))) + ((1) : Int))), data_16, ())) else (
  some ((IntKind.i64.wrap ((IntKind.i64.wrap (((2) : Int) * root_6)) + ((1) : Int))), data_16, ())))) fun (child_17, data_18, _) =>
  (idxN (data_18).length (IntKind.i64.wrap (first_4 + root_6))).bind fun k19 =>
  ((atO data_18 k19 fun e20 => some e20)).bind fun y21 =>
  (idxN (data_18).length (IntKind.i64.wrap (first_4 + child_17))).bind fun k22 =>
  ((atO data_18 k22 fun e23 => some e23)).bind fun y24 =>
  (d_memory_Best_1q_1q_q0 (y21, y24, cmp_5.1, cmp_5.2.1, ())).bind fun (r25, _) =>
  (bif (!(decide (r25 < ((0) : Int)))) then (
  some (.inr (.inr (data_18, ())))) else (
  (idxN (data_18).length (IntKind.i64.wrap (first_4 + child_17))).bind fun k26 =>
  ((atO data_18 k26 fun e27 => some e27)).bind fun y28 =>
  (idxN (data_18).length (IntKind.i64.wrap (first_4 + root_6))).bind fun k29 =>
  ((atO data_18 k29 fun e30 => some e30)).bind fun y31 =>
  (idxN (data_18).length (IntKind.i64.wrap (first_4 + root_6))).bind fun k32 =>
  ((atO data_18 k32 fun _ => some ((data_18).set k32 y28))).bind fun z34 =>
  (idxN (z34).length (IntKind.i64.wrap (first_4 + child_17))).bind fun k35 =>
  ((atO z34 k35 fun _ => some ((z34).set k35 y31))).bind fun z37 =>
  some (.inl (child_17, z37, ()))))))) (lo_2, data_1, ())).bind fun q => match q with
  | .inl (data_38, _) => (
  some (data_38, ()))
  | .inr r => some r
noncomputable def d_slices_heapSortCmpFunc_int_mem : ((List Int) × Int × Int × ((Option (List Int)) × (Option (List Int)) × Unit) × Unit) → Option ((List Int) × Unit) := fun (data_1, a_2, b_3, cmp_4, _) =>
  (quoO IntKind.i64 (IntKind.i64.wrap ((IntKind.i64.wrap (b_3 - a_2)) - ((1) : Int))) ((2) : Int)).bind fun y5 =>
  (loop (σ := (Int × (List Int) × Unit)) (ρ := ((List Int) × Unit)) (fun (i_6, data_7, _) =>
  (bif (decide (i_6 ≥ ((0) : Int))) then (
  (d_slices_siftDownCmpFunc_int_mem (data_7, i_6, (IntKind.i64.wrap (b_3 - a_2)), a_2, (cmp_4.1, cmp_4.2.1, ()), ())).bind fun (m8, _) =>
  some (.inl ((IntKind.i64.wrap (i_6 - ((1) : Int))), m8, ()))) else (
  some (.inr (data_7, ()))))) (y5, data_1, ())).bind fun (data_9, _) =>
  (loop (σ := (Int × (List Int) × Unit)) (ρ := ((List Int) × Unit)) (fun (i_10, data_11, _) =>
  (bif (decide (i_10 ≥ ((0) : Int))) then (
  (idxN (data_11).length (IntKind.i64.wrap (a_2 + i_10))).bind fun k12 =>
  ((atO data_11 k12 fun e13 => some e13)).bind fun y14 =>
  (idxN (data_11).length a_2).bind fun k15 =>
  ((atO data_11 k15 fun e16 => some e16)).bind fun y17 =>
  (idxN (data_11).length a_2).bind fun k18 =>
  ((atO data_11 k18 fun _ => some ((data_11).set k18 y14))).bind fun z20 =>
  (idxN (z20).length (IntKind.i64.wrap (a_2 + i_10))).bind fun k21 =>
  ((atO z20 k21 fun _ => some ((z20).set k21 y17))).bind fun z23 =>
  (d_slices_siftDownCmpFunc_int_mem (z23, ((0) : Int), i_10, a_2, (cmp_4.1, cmp_4.2.1, ()), ())).bind fun (m24, _) =>
  some (.inl ((IntKind.i64.wrap (i_10 - ((1) : Int))), m24, ()))) else (
  some (.inr (data_11, ()))))) ((IntKind.i64.wrap ((IntKind.i64.wrap (b_3 - a_2)) - ((1) : Int))), data_9, ())).bind fun (data_25, _) =>
  some (data_25, ())
noncomputable def d_slices_breakPatternsCmpFunc_int_mem : ((List Int) × Int × Int × ((Option (List Int)) × (Option (List Int)) × Unit) × Unit) → Option ((List Int) × Unit) := fun (data_1, a_2, b_3, _, _) =>
  (bif (decide ((IntKind.i64.wrap (b_3 - a_2)) ≥ ((8) : Int))) then (
  (d_slices_nextPowerOfTwo ((IntKind.i64.wrap (b_3 - a_2)), ())).bind fun (r5, _) =>
  (quoO IntKind.i64 (IntKind.i64.wrap (b_3 - a_2)) ((4) : Int)).bind fun y6 =>
  (loop (σ := (Int × (List Int) × Int × Unit)) (ρ := ((List Int) × Unit)) (fun (idx_7, data_8, random_9, _) =>
  (quoO IntKind.i64 (IntKind.i64.wrap (b_3 - a_2)) ((4) : Int)).bind fun y10 =>
  (bif (decide (idx_7 ≤ (IntKind.i64.wrap ((IntKind.i64.wrap (a_2 + (IntKind.i64.wrap (y10 * ((2) : Int))))) + ((1) : Int))))) then (
  Option.bind (α := ((List Int) × Int × Unit)) (
  (d_slices_xorshift_Next (random_9, ())).bind fun (m11, r12, _) =>
  Option.bind (α := (Int × (List Int) × Int × Unit)) (
  (bif (decide ((IntKind.i64.wrap (andI IntKind.u64 r12 (IntKind.u64.wrap (r5 - ((1) : Int))))) ≥ (IntKind.i64.wrap (b_3 - a_2)))) then (
  some ((IntKind.i64.wrap ((IntKind.i64.wrap (andI IntKind.u64 r12 (IntKind.u64.wrap (r5 - ((1) : Int))))) - (IntKind.i64.wrap (b_3 - a_2)))), data_8, m11, ())) else (
  some ((IntKind.i64.wrap (andI IntKind.u64 r12 (IntKind.u64.wrap (r5 - ((1) : Int))))), data_8, m11, ())))) fun (other_13, data_14, random_15, _) =>
  (idxN (data_14).length (IntKind.i64.wrap (a_2 + other_13))).bind fun k16 =>
  ((atO data_14 k16 fun e17 => some e17)).bind fun y18 =>
  (idxN (data_14).length idx_7).bind fun k19 =>
  ((atO data_14 k19 fun e20 => some e20)).bind fun y21 =>
  (idxN (data_14).length idx_7).bind fun k22 =>
  ((atO data_14 k22 fun _ => some ((data_14).set k22 y18))).bind fun z24 =>
  (idxN (z24).length (IntKind.i64.wrap (a_2 + other_13))).bind fun k25 =>
  ((atO z24 k25 fun _ => some ((z24).set k25 y21))).bind fun z27 =>
  some (z27, random_15, ())) fun (data_28, random_29, _) =>
  some (.inl ((IntKind.i64.wrap (idx_7 + ((1) : Int))), data_28, random_29, ()))) else (
  some (.inr (data_8, ()))))) ((IntKind.i64.wrap ((IntKind.i64.wrap (a_2 + (IntKind.i64.wrap (y6 * ((2) : Int))))) - ((1) : Int))), data_1, (IntKind.u64.wrap (IntKind.i64.wrap (b_3 - a_2))), ())).bind fun (data_30, _) =>
  some (data_30, ())) else (
  some (data_1, ())))
noncomputable def d_slices_order2CmpFunc_int_mem : ((List Int) × Int × Int × Int × ((Option (List Int)) × (Option (List Int)) × Unit) × Unit) → Option (Int × Int × Int × Unit) := fun (data_1, a_2, b_3, swaps_4, cmp_5, _) =>
  (getI data_1 b_3).bind fun y6 =>
  (getI data_1 a_2).bind fun y7 =>
  (d_memory_Best_1q_1q_q0 (y6, y7, cmp_5.1, cmp_5.2.1, ())).bind fun (r8, _) =>
  (bif (decide (r8 < ((0) : Int))) then (
  some ((IntKind.i64.wrap (swaps_4 + ((1) : Int))), b_3, a_2, ())) else (
  some (swaps_4, a_2, b_3, ())))
noncomputable def d_slices_medianCmpFunc_int_mem : ((List Int) × Int × Int × Int × Int × ((Option (List Int)) × (Option (List Int)) × Unit) × Unit) → Option (Int × Int × Unit) := fun (data_1, a_2, b_3, c_4, swaps_5, cmp_6, _) =>
  (d_slices_order2CmpFunc_int_mem (data_1, a_2, b_3, swaps_5, (cmp_6.1, cmp_6.2.1, ()), ())).bind fun (m7, r8, r9, _) =>
  (d_slices_order2CmpFunc_int_mem (data_1, r9, c_4, m7, (cmp_6.1, cmp_6.2.1, ()), ())).bind fun (m10, r11, _, _) =>
  (d_slices_order2CmpFunc_int_mem (data_1, r8, r11, m10, (cmp_6.1, cmp_6.2.1, ()), ())).bind fun (m13, _, r15, _) =>
  some (m13, r15, ())
noncomputable def d_slices_medianAdjacentCmpFunc_int_mem : ((List Int) × Int × Int × ((Option (List Int)) × (Option (List Int)) × Unit) × Unit) → Option (Int × Int × Unit) := fun (data_1, a_2, swaps_3, cmp_4, _) =>
  (d_slices_medianCmpFunc_int_mem (data_1, (IntKind.i64.wrap (a_2 - ((1) : Int))), a_2, (IntKind.i64.wrap (a_2 + ((1) : Int))), swaps_3, (cmp_4.1, cmp_4.2.1, ()), ())).bind fun (m5, r6, _) =>
  some (m5, r6, ())
noncomputable def d_slices_choosePivotCmpFunc_int_mem : ((List Int) × Int × Int × ((Option (List Int)) × (Option (List Int)) × Unit) × Unit) → Option (Int × Int × Unit) := fun (data_1, a_2, b_3, cmp_4, _) =>
  (quoO IntKind.i64 (IntKind.i64.wrap (b_3 - a_2)) ((4) : Int)).bind fun y5 =>
  (quoO IntKind.i64 (IntKind.i64.wrap (b_3 - a_2)) ((4) : Int)).bind fun y6 =>
  (quoO IntKind.i64 (IntKind.i64.wrap (b_3 - a_2)) ((4) : Int)).bind fun y7 =>
  Option.bind (α := (Int × Int × Unit)) (
  (bif (decide ((IntKind.i64.wrap (b_3 - a_2)) ≥ ((8) : Int))) then (
  Option.bind (α := (Int × Int × Int × Int × Unit)) (
  (bif (decide ((IntKind.i64.wrap (b_3 - a_2)) ≥ ((50) : Int))) then (
  (d_slices_medianAdjacentCmpFunc_int_mem (data_1, (IntKind.i64.wrap (a_2 + (IntKind.i64.wrap (y5 * ((1) : Int))))), (0 : Int), (cmp_4.1, cmp_4.2.1, ()), ())).bind fun (m8, r9, _) =>
  (d_slices_medianAdjacentCmpFunc_int_mem (data_1, (IntKind.i64.wrap (a_2 + (IntKind.i64.wrap (y6 * ((2) : Int))))), m8, (cmp_4.1, cmp_4.2.1, ()), ())).bind fun (m10, r11, _) =>
  (d_slices_medianAdjacentCmpFunc_int_mem (data_1, (IntKind.i64.wrap (a_2 + (IntKind.i64.wrap (y7 * ((3) : Int))))), m10, (cmp_4.1, cmp_4.2.1, ()), ())).bind fun (m12, r13, _) =>
  some (r9, r11, r13, m12, ())) else (
  some ((IntKind.i64.wrap (a_2 + (IntKind.i64.wrap (y5 * ((1) : Int))))), (IntKind.i64.wrap (a_2 + (IntKind.i64.wrap (y6 * ((2) : Int))))), (IntKind.i64.wrap (a_2 + (IntKind.i64.wrap (y7 * ((3) : Int))))), (0 : Int), ())))) fun (i_14, j_15, k_16, swaps_17, _) =>
  (d_slices_medianCmpFunc_int_mem (data_1, i_14, j_15, k_16, swaps_17, (cmp_4.1, cmp_4.2.1, ()), ())).bind fun (m18, r19, _) =>
  some (r19, m18, ())) else (
  some ((IntKind.i64.wrap (a_2 + (IntKind.i64.wrap (y6 * ((2) : Int))))), (0 : Int), ())))) fun (j_20, swaps_21, _) =>
  (bif (swaps_21 == ((0) : Int)) then (
  some (j_20, ((1) : Int), ())) else (
  (bif (swaps_21 == ((12) : Int)) then (
  some (j_20, ((2) : Int), ())) else (
  some (j_20, ((0) : Int), ())))))
noncomputable def d_slices_reverseRangeCmpFunc_int_mem : ((List Int) × Int × Int × ((Option (List Int)) × (Option (List Int)) × Unit) × Unit) → Option ((List Int) × Unit) := fun (data_1, a_2, b_3, _, _) =>
  (loop (σ := (Int × Int × (List Int) × Unit)) (ρ := ((List Int) × Unit)) (fun (i_5, j_6, data_7, _) =>
  (bif (decide (i_5 < j_6)) then (
  (idxN (data_7).length j_6).bind fun k8 =>
  ((atO data_7 k8 fun e9 => some e9)).bind fun y10 =>
  (idxN (data_7).length i_5).bind fun k11 =>
  ((atO data_7 k11 fun e12 => some e12)).bind fun y13 =>
  (idxN (data_7).length i_5).bind fun k14 =>
  ((atO data_7 k14 fun _ => some ((data_7).set k14 y10))).bind fun z16 =>
  (idxN (z16).length j_6).bind fun k17 =>
  ((atO z16 k17 fun _ => some ((z16).set k17 y13))).bind fun z19 =>
  some (.inl ((IntKind.i64.wrap (i_5 + ((1) : Int))), (IntKind.i64.wrap (j_6 - ((1) : Int))), z19, ()))) else (
  some (.inr (data_7, ()))))) (a_2, (IntKind.i64.wrap (b_3 - ((1) : Int))), data_1, ())).bind fun (data_20, _) =>
  some (data_20, ())
noncomputable def d_slices_partialInsertionSortCmpFunc_int_mem : ((List Int) × Int × Int × ((Option (List Int)) × (Option (List Int)) × Unit) × Unit) → Option ((List Int) × Bool × Unit) := fun (data_1, a_2, b_3, cmp_4, _) =>
  (loop (σ := (Int × Int × (List Int) × Unit)) (ρ := (((List Int) × Unit) ⊕ ((List Int) × Bool × Unit))) (fun (i_5, j_6, data_7, _) =>
  (bif (decide (j_6 < ((5) : Int))) then (
  Option.bind (α := (Int × (List Int) × Unit) ⊕ ((Int × Int × (List Int) × Unit) ⊕ (((List Int) × Unit) ⊕ ((List Int) × Bool × Unit)))) (
  (loop (σ := (Int × (List Int) × Unit)) (ρ := (Int × (List Int) × Unit)) (fun (i_8, data_9, _) =>
  Option.bind (α := ((List Int) × Unit) ⊕ ((Int × (List Int) × Unit) ⊕ (Int × (List Int) × Unit))) (
  (bif ((decide (i_8 < b_3)) == true) then ((idxN (data_9).length i_8).bind fun k10 =>
  ((atO data_9 k10 fun e11 => some e11)).bind fun y12 =>
  (idxN (data_9).length (IntKind.i64.wrap (i_8 - ((1) : Int)))).bind fun k13 =>
  ((atO data_9 k13 fun e14 => some e14)).bind fun y15 =>
  (d_memory_Best_1q_1q_q0 (y12, y15, cmp_4.1, cmp_4.2.1, ())).bind fun (r16, _) =>
  (bif (!(decide (r16 < ((0) : Int)))) then (
  some (.inl (data_9, ()))) else (
  some (.inr (.inr (i_8, data_9, ())))))) else (some (.inr (.inr (i_8, data_9, ())))))) fun q => match q with
  | .inl (data_17, _) => (
  some (.inl ((IntKind.i64.wrap (i_8 + ((1) : Int))), data_17, ())))
  | .inr r => some r) (i_5, data_7, ())).bind fun (i_18, data_19, _) =>
  (bif (i_18 == b_3) then (
  some (.inr (.inr (.inr (data_19, true, ()))))) else (
  (bif (decide ((IntKind.i64.wrap (b_3 - a_2)) < ((50) : Int))) then (
  some (.inr (.inr (.inr (data_19, false, ()))))) else (
  (idxN (data_19).length (IntKind.i64.wrap (i_18 - ((1) : Int)))).bind fun k20 =>
  ((atO data_19 k20 fun e21 => some e21)).bind fun y22 =>
  (idxN (data_19).length i_18).bind fun k23 =>
  ((atO data_19 k23 fun e24 => some e24)).bind fun y25 =>
  (idxN (data_19).length i_18).bind fun k26 =>
  ((atO data_19 k26 fun _ => some ((data_19).set k26 y22))).bind fun z28 =>
  (idxN (z28).length (IntKind.i64.wrap (i_18 - ((1) : Int)))).bind fun k29 =>
  ((atO z28 k29 fun _ => some ((z28).set k29 y25))).bind fun z31 =>
  Option.bind (α := ((List Int) × Unit)) (
  (bif (decide ((IntKind.i64.wrap (i_18 - a_2)) ≥ ((2) : Int))) then (
  (loop (σ := (Int × (List Int) × Unit)) (ρ := ((List Int) × Unit)) (fun (j_32, data_33, _) =>
  (bif (decide (j_32 ≥ ((1) : Int))) then (
  (idxN (data_33).length j_32).bind fun k34 =>
  ((atO data_33 k34 fun e35 => some e35)).bind fun y36 =>
  (idxN (data_33).length (IntKind.i64.wrap (j_32 - ((1) : Int)))).bind fun k37 =>
  ((atO data_33 k37 fun e38 => some e38)).bind fun y39 =>
  (d_memory_Best_1q_1q_q0 (y36, y39, cmp_4.1, cmp_4.2.1, ())).bind fun (r40, _) =>
  (bif (!(decide (r40 < ((0) : Int)))) then (
  some (.inr (data_33, ()))) else (
  (idxN (data_33).length (IntKind.i64.wrap (j_32 - ((1) : Int)))).bind fun k41 =>
  ((atO data_33 k41 fun e42 => some e42)).bind fun y43 =>
  (idxN (data_33).length j_32).bind fun k44 =>
  ((atO data_33 k44 fun e45 => some e45)).bind fun y46 =>
  (idxN (data_33).length j_32).bind fun k47 =>
  ((atO data_33 k47 fun _ => some ((data_33).set k47 y43))).bind fun z49 =>
  (idxN (z49).length (IntKind.i64.wrap (j_32 - ((1) : Int)))).bind fun k50 =>
  ((atO z49 k50 fun _ => some ((z49).set k50 y46))).bind fun z52 =>
  some (.inl ((IntKind.i64.wrap (j_32 - ((1) : Int))), z52, ()))))) else (
  some (.inr (data_33, ()))))) ((IntKind.i64.wrap (i_18 - ((1) : Int))), z31, ())).bind fun (data_53, _) =>
  some (data_53, ())) else (
  some (z31, ())))) fun (data_54, _) =>
  (bif (decide ((IntKind.i64.wrap (b_3 - i_18)) ≥ ((2) : Int))) then (
  (loop (σ := (Int × (List Int) × Unit)) (ρ := ((List Int) × Unit)) (fun (j_55, data_56, _) =>
  (bif (decide (j_55 < b_3)) then (
  (idxN (data_56).length j_55).bind fun k57 =>
  ((atO data_56 k57 fun e58 => some e58)).bind fun y59 =>
  (idxN (data_56).length (IntKind.i64.wrap (j_55 - ((1) : Int)))).bind fun k60 =>
  ((atO data_56 k60 fun e61 => some e61)).bind fun y62 =>
  (d_memory_Best_1q_1q_q0 (y59, y62, cmp_4.1, cmp_4.2.1, ())).bind fun (r63, _) =>
  (bif (!(decide (r63 < ((0) : Int)))) then (
  some (.inr (data_56, ()))) else (
  (idxN (data_56).length (IntKind.i64.wrap (j_55 - ((1) : Int)))).bind fun k64 =>
  ((atO data_56 k64 fun e65 => some e65)).bind fun y66 =>
  (idxN (data_56).length j_55).bind fun k67 =>
  ((atO data_56 k67 fun e68 => some e68)).bind fun y69 =>
  (idxN (data_56).length j_55).bind fun k70 =>
  ((atO data_56 k70 fun _ => some ((data_56).set k70 y66))).bind fun z72 =>
  (idxN (z72).length (IntKind.i64.wrap (j_55 - ((1) : Int)))).bind fun k73 =>
  ((atO z72 k73 fun _ => some ((z72).set k73 y69))).bind fun z75 =>
  some (.inl ((IntKind.i64.wrap (j_55 + ((1) : Int))), z75, ()))))) else (
  some (.inr (data_56, ()))))) ((IntKind.i64.wrap (i_18 + ((1) : Int))), data_54, ())).bind fun (data_76, _) =>
  some (.inl (i_18, data_76, ()))) else (
  some (.inl (i_18, data_54, ()))))))))) fun q => match q with
  | .inl (i_77, data_78, _) => (
  some (.inl (i_77, (IntKind.i64.wrap (j_6 + ((1) : Int))), data_78, ())))
  | .inr r => some r) else (
  some (.inr (.inl (data_7, ())))))) ((IntKind.i64.wrap (a_2 + ((1) : Int))), ((0) : Int), data_1, ())).bind fun q => match q with
  | .inl (data_79, _) => (
  some (data_79, false, ()))
  | .inr r => some r
noncomputable def d_slices_partitionEqualCmpFunc_int_mem : ((List Int) × Int × Int × Int × ((Option (List Int)) × (Option (List Int)) × Unit) × Unit) → Option ((List Int) × Int × Unit) := fun (data_1, a_2, b_3, pivot_4, cmp_5, _) =>
  (idxN (data_1).length pivot_4).bind fun k6 =>
  ((atO data_1 k6 fun e7 => some e7)).bind fun y8 =>
  (idxN (data_1).length a_2).bind fun k9 =>
  ((atO data_1 k9 fun e10 => some e10)).bind fun y11 =>
  (idxN (data_1).length a_2).bind fun k12 =>
  ((atO data_1 k12 fun _ => some ((data_1).set k12 y8))).bind fun z14 =>
  (idxN (z14).length pivot_4).bind fun k15 =>
  ((atO z14 k15 fun _ => some ((z14).set k15 y11))).bind fun z17 =>
  (loop (σ := (Int × Int × (List Int) × Unit)) (ρ := (Int × (List Int) × Unit)) (fun (i_18, j_19, data_20, _) =>
  (loop (σ := (Int × (List Int) × Unit)) (ρ := (Int × (List Int) × Unit)) (fun (i_21, data_22, _) =>
  Option.bind (α := ((List Int) × Unit) ⊕ ((Int × (List Int) × Unit) ⊕ (Int × (List Int) × Unit))) (
  (bif ((decide (i_21 ≤ j_19)) == true) then ((idxN (data_22).length a_2).bind fun k23 =>
  ((atO data_22 k23 fun e24 => some e24)).bind fun y25 =>
  (idxN (data_22).length i_21).bind fun k26 =>
  ((atO data_22 k26 fun e27 => some e27)).bind fun y28 =>
  (d_memory_Best_1q_1q_q0 (y25, y28, cmp_5.1, cmp_5.2.1, ())).bind fun (r29, _) =>
  (bif (!(decide (r29 < ((0) : Int)))) then (
  some (.inl (data_22, ()))) else (
  some (.inr (.inr (i_21, data_22, ())))))) else (some (.inr (.inr (i_21, data_22, ())))))) fun q => match q with
  | .inl (data_30, _) => (
  some (.inl ((IntKind.i64.wrap (i_21 + ((1) : Int))), data_30, ())))
  | .inr r => some r) (i_18, data_20, ())).bind fun (i_31, data_32, _) =>
  (loop (σ := (Int × (List Int) × Unit)) (ρ := (Int × (List Int) × Unit)) (fun (j_33, data_34, _) =>
  Option.bind (α := ((List Int) × Unit) ⊕ ((Int × (List Int) × Unit) ⊕ (Int × (List Int) × Unit))) (
  (bif ((decide (i_31 ≤ j_33)) == true) then ((idxN (data_34).length a_2).bind fun k35 =>
  ((atO data_34 k35 fun e36 => some e36)).bind fun y37 =>
  (idxN (data_34).length j_33).bind fun k38 =>
  ((atO data_34 k38 fun e39 => some e39)).bind fun y40 =>
  (d_memory_Best_1q_1q_q0 (y37, y40, cmp_5.1, cmp_5.2.1, ())).bind fun (r41, _) =>
  (bif (decide (r41 < ((0) : Int))) then (
  some (.inl (data_34, ()))) else (
  some (.inr (.inr (j_33, data_34, ())))))) else (some (.inr (.inr (j_33, data_34, ())))))) fun q => match q with
  | .inl (data_42, _) => (
  some (.inl ((IntKind.i64.wrap (j_33 - ((1) : Int))), data_42, ())))
  | .inr r => some r) (j_19, data_32, ())).bind fun (j_43, data_44, _) =>
  (bif (decide (i_31 > j_43)) then (
  some (.inr (i_31, data_44, ()))) else (
  (idxN (data_44).length j_43).bind fun k45 =>
  ((atO data_44 k45 fun e46 => some e46)).bind fun y47 =>
  (idxN (data_44).length i_31).bind fun k48 =>
  ((atO data_44 k48 fun e49 => some e49)).bind fun y50 =>
  (idxN (data_44).length i_31).bind fun k51 =>
  ((atO data_44 k51 fun _ => some ((data_44).set k51 y47))).bind fun z53 =>
  (idxN (z53).length j_43).bind fun k54 =>
  ((atO z53 k54 fun _ => some ((z53).set k54 y50))).bind fun z56 =>
  some (.inl ((IntKind.i64.wrap (i_31 + ((1) : Int))), (IntKind.i64.wrap (j_43 - ((1) : Int))), z56, ()))))) ((IntKind.i64.wrap (a_2 + ((1) : Int))), (IntKind.i64.wrap (b_3 - ((1) : Int))), z17, ())).bind fun (i_57, data_58, _) =>
  some (data_58, i_57, ())
noncomputable def d_slices_partitionCmpFunc_int_mem : ((List Int) × Int × Int × Int × ((Option (List Int)) × (Option (List Int)) × Unit) × Unit) → Option ((List Int) × Int × Bool × Unit) := fun (data_1, a_2, b_3, pivot_4, cmp_5, _) =>
  (idxN (data_1).length pivot_4).bind fun k6 =>
  ((atO data_1 k6 fun e7 => some e7)).bind fun y8 =>
  (idxN (data_1).length a_2).bind fun k9 =>
  ((atO data_1 k9 fun e10 => some e10)).bind fun y11 =>
  (idxN (data_1).length a_2).bind fun k12 =>
  ((atO data_1 k12 fun _ => some ((data_1).set k12 y8))).bind fun z14 =>
  (idxN (z14).length pivot_4).bind fun k15 =>
  ((atO z14 k15 fun _ => some ((z14).set k15 y11))).bind fun z17 =>
  (loop (σ := (Int × (List Int) × Unit)) (ρ := (Int × (List Int) × Unit)) (fun (i_18, data_19, _) =>
  Option.bind (α := ((List Int) × Unit) ⊕ ((Int × (List Int) × Unit) ⊕ (Int × (List Int) × Unit))) (
  (bif ((decide (i_18 ≤ (IntKind.i64.wrap (b_3 - ((1) : Int))))) == true) then ((idxN (data_19).length i_18).bind fun k20 =>
  ((atO data_19 k20 fun e21 => some e21)).bind fun y22 =>
  (idxN (data_19).length a_2).bind fun k23 =>
  ((atO data_19 k23 fun e24 => some e24)).bind fun y25 =>
  (d_memory_Best_1q_1q_q0 (y22, y25, cmp_5.1, cmp_5.2.1, ())).bind fun (r26, _) =>
  (bif (decide (r26 < ((0) : Int))) then (
  some (.inl (data_19, ()))) else (
  some (.inr (.inr (i_18, data_19, ())))))) else (some (.inr (.inr (i_18, data_19, ())))))) fun q => match q with
  | .inl (data_27, _) => (
  some (.inl ((IntKind.i64.wrap (i_18 + ((1) : Int))), data_27, ())))
  | .inr r => some r) ((IntKind.i64.wrap (a_2 + ((1) : Int))), z17, ())).bind fun (i_28, data_29, _) =>
  (loop (σ := (Int × (List Int) × Unit)) (ρ := (Int × (List Int) × Unit)) (fun (j_30, data_31, _) =>
  Option.bind (α := ((List Int) × Unit) ⊕ ((Int × (List Int) × Unit) ⊕ (Int × (List Int) × Unit))) (
  (bif ((decide (i_28 ≤ j_30)) == true) then ((idxN (data_31).length j_30).bind fun k32 =>
  ((atO data_31 k32 fun e33 => some e33)).bind fun y34 =>
  (idxN (data_31).length a_2).bind fun k35 =>
  ((atO data_31 k35 fun e36 => some e36)).bind fun y37 =>
  (d_memory_Best_1q_1q_q0 (y34, y37, cmp_5.1, cmp_5.2.1, ())).bind fun (r38, _) =>
  (bif (!(decide (r38 < ((0) : Int)))) then (
  some (.inl (data_31, ()))) else (
  some (.inr (.inr (j_30, data_31, ())))))) else (some (.inr (.inr (j_30, data_31, ())))))) fun q => match q with
  | .inl (data_39, _) => (
  some (.inl ((IntKind.i64.wrap (j_30 - ((1) : Int))), data_39, ())))
  | .inr r => some r) ((IntKind.i64.wrap (b_3 - ((1) : Int))), data_29, ())).bind fun (j_40, data_41, _) =>
  (bif (decide (i_28 > j_40)) then (
  (idxN (data_41).length a_2).bind fun k42 =>
  ((atO data_41 k42 fun e43 => some e43)).bind fun y44 =>
  (idxN (data_41).length j_40).bind fun k45 =>
  ((atO data_41 k45 fun e46 => some e46)).bind fun y47 =>
  (idxN (data_41).length j_40).bind fun k48 =>
  ((atO data_41 k48 fun _ => some ((data_41).set k48 y44))).bind fun z50 =>
  (idxN (z50).length a_2).bind fun k51 =>
  ((atO z50 k51 fun _ => some ((z50).set k51 y47))).bind fun z53 =>
  some (z53, j_40, true, ())) else (
  (idxN (data_41).length j_40).bind fun k54 =>
  ((atO data_41 k54 fun e55 => some e55)).bind fun y56 =>
  (idxN (data_41).length i_28).bind fun k57 =>
  ((atO data_41 k57 fun e58 => some e58)).bind fun y59 =>
  (idxN (data_41).length i_28).bind fun k60 =>
  ((atO data_41 k60 fun _ => some ((data_41).set k60 y56))).bind fun z62 =>
  (idxN (z62).length j_40).bind fun k63 =>
  ((atO z62 k63 fun _ => some ((z62).set k63 y59))).bind fun z65 =>
  (loop (σ := (Int × Int × (List Int) × Unit)) (ρ := (Int × (List Int) × Unit)) (fun (i_66, j_67, data_68, _) =>
  (loop (σ := (Int × (List Int) × Unit)) (ρ := (Int × (List Int) × Unit)) (fun (i_69, data_70, _) =>
  Option.bind (α := ((List Int) × Unit) ⊕ ((Int × (List Int) × Unit) ⊕ (Int × (List Int) × Unit))) (
  (bif ((decide (i_69 ≤ j_67)) == true) then ((idxN (data_70).length i_69).bind fun k71 =>
  ((atO data_70 k71 fun e72 => some e72)).bind fun y73 =>
  (idxN (data_70).length a_2).bind fun k74 =>
  ((atO data_70 k74 fun e75 => some e75)).bind fun y76 =>
  (d_memory_Best_1q_1q_q0 (y73, y76, cmp_5.1, cmp_5.2.1, ())).bind fun (r77, _) =>
  (bif (decide (r77 < ((0) : Int))) then (
  some (.inl (data_70, ()))) else (
  some (.inr (.inr (i_69, data_70, ())))))) else (some (.inr (.inr (i_69, data_70, ())))))) fun q => match q with
  | .inl (data_78, _) => (
  some (.inl ((IntKind.i64.wrap (i_69 + ((1) : Int))), data_78, ())))
  | .inr r => some r) (i_66, data_68, ())).bind fun (i_79, data_80, _) =>
  (loop (σ := (Int × (List Int) × Unit)) (ρ := (Int × (List Int) × Unit)) (fun (j_81, data_82, _) =>
  Option.bind (α := ((List Int) × Unit) ⊕ ((Int × (List Int) × Unit) ⊕ (Int × (List Int) × Unit))) (
  (bif ((decide (i_79 ≤ j_81)) == true) then ((idxN (data_82).length j_81).bind fun k83 =>
  ((atO data_82 k83 fun e84 => some e84)).bind fun y85 =>
  (idxN (data_82).length a_2).bind fun k86 =>
  ((atO data_82 k86 fun e87 => some e87)).bind fun y88 =>
  (d_memory_Best_1q_1q_q0 (y85, y88, cmp_5.1, cmp_5.2.1, ())).bind fun (r89, _) =>
  (bif (!(decide (r89 < ((0) : Int)))) then (
  some (.inl (data_82, ()))) else (
  some (.inr (.inr (j_81, data_82, ())))))) else (some (.inr (.inr (j_81, data_82, ())))))) fun q => match q with
  | .inl (data_90, _) => (
  some (.inl ((IntKind.i64.wrap (j_81 - ((1) : Int))), data_90, ())))
  | .inr r => some r) (j_67, data_80, ())).bind fun (j_91, data_92, _) =>
  (bif (decide (i_79 > j_91)) then (
  some (.inr (j_91, data_92, ()))) else (
  (idxN (data_92).length j_91).bind fun k93 =>
  ((atO data_92 k93 fun e94 => some e94)).bind fun y95 =>
  (idxN (data_92).length i_79).bind fun k96 =>
  ((atO data_92 k96 fun e97 => some e97)).bind fun y98 =>
  (idxN (data_92).length i_79).bind fun k99 =>
  ((atO data_92 k99 fun _ => some ((data_92).set k99 y95))).bind fun z101 =>
  (idxN (z101).length j_91).bind fun k102 =>
  ((atO z101 k102 fun _ => some ((z101).set k102 y98))).bind fun z104 =>
  some (.inl ((IntKind.i64.wrap (i_79 + ((1) : Int))), (IntKind.i64.wrap (j_91 - ((1) : Int))), z104, ()))))) ((IntKind.i64.wrap (i_28 + ((1) : Int))), (IntKind.i64.wrap (j_40 - ((1) : Int))), z65, ())).bind fun (j_105, data_106, _) =>
  (idxN (data_106).length a_2).bind fun k107 =>
  ((atO data_106 k107 fun e108 => some e108)).bind fun y109 =>
  (idxN (data_106).length j_105).bind fun k110 =>
  ((atO data_106 k110 fun e111 => some e111)).bind fun y112 =>
  (idxN (data_106).length j_105).bind fun k113 =>
  ((atO data_106 k113 fun _ => some ((data_106).set k113 y109))).bind fun z115 =>
  (idxN (z115).length a_2).bind fun k116 =>
  ((atO z115 k116 fun _ => some ((z115).set k116 y112))).bind fun z118 =>
  some (z118, j_105, false, ())))
noncomputable def r_slices_pdqsortCmpFunc_int_memq_s (f_ : ((List Int) × Int × Int × Int × ((Option (List Int)) × (Option (List Int)) × Unit) × Unit) → Option ((List Int) × Unit)) : ((List Int) × Int × Int × Int × ((Option (List Int)) × (Option (List Int)) × Unit) × Unit) → Option ((List Int) × Unit) := fun (data_1, a_2, b_3, limit_4, cmp_5, _) =>
  (loop (σ := (Int × Int × Int × Bool × Bool × (List Int) × Unit)) (ρ := ((List Int) × Unit)) (fun (a_6, b_7, limit_8, wasBalanced_9, wasPartitioned_10, data_11, _) =>
  (bif (decide ((IntKind.i64.wrap (b_7 - a_6)) ≤ ((12) : Int))) then (
  (d_slices_insertionSortCmpFunc_int_mem (data_11, a_6, b_7, (cmp_5.1, cmp_5.2.1, ()), ())).bind fun (m12, _) =>
  some (.inr (m12, ()))) else (
  (bif (limit_8 == ((0) : Int)) then (
  (d_slices_heapSortCmpFunc_int_mem (data_11, a_6, b_7, (cmp_5.1, cmp_5.2.1, ()), ())).bind fun (m13, _) =>
  some (.inr (m13, ()))) else (
  Option.bind (α := (Int × (List Int) × Unit)) (
  (bif (!wasBalanced_9) then (
  (d_slices_breakPatternsCmpFunc_int_mem (data_11, a_6, b_7, (cmp_5.1, cmp_5.2.1, ()), ())).bind fun (m14, _) =>
  some ((IntKind.i64.wrap (limit_8 - ((1) : Int))), m14, ())) else (
  some (limit_8, data_11, ())))) fun (limit_15, data_16, _) =>
  (d_slices_choosePivotCmpFunc_int_mem (data_16, a_6, b_7, (cmp_5.1, cmp_5.2.1, ()), ())).bind fun (r17, r18, _) =>
  Option.bind (α := (Int × Int × (List Int) × Unit)) (
  (bif (r18 == ((2) : Int)) then (
  (d_slices_reverseRangeCmpFunc_int_mem (data_16, a_6, b_7, (cmp_5.1, cmp_5.2.1, ()), ())).bind fun (m19, _) =>
  some ((IntKind.i64.wrap ((IntKind.i64.wrap (b_7 - ((1) : Int))) - (IntKind.i64.wrap (r17 - a_6)))), ((1) : Int), m19, ())) else (
  some (r17, r18, data_16, ())))) fun (pivot_20, hint_21, data_22, _) =>
  Option.bind (α := ((List Int) × Unit) ⊕ ((Int × Int × Int × Bool × Bool × (List Int) × Unit) ⊕ ((List Int) × Unit))) (
  Option.bind (α := (Bool × (List Int) × Unit)) (
  (bif (wasBalanced_9 == true) then ((bif (wasPartitioned_10 == true) then (some ((hint_21 == ((1) : Int)), data_22, ())) else (some (false, data_22, ())))) else (some (false, data_22, ())))) fun (s_23, data_24, _) =>
  (bif s_23 then (
  (d_slices_partialInsertionSortCmpFunc_int_mem (data_24, a_6, b_7, (cmp_5.1, cmp_5.2.1, ()), ())).bind fun (m25, r26, _) =>
  (bif r26 then (
  some (.inr (.inr (m25, ())))) else (
  some (.inl (m25, ()))))) else (
  some (.inl (data_24, ()))))) fun q => match q with
  | .inl (data_27, _) => (
  Option.bind (α := (Int × (List Int) × Unit) ⊕ ((Int × Int × Int × Bool × Bool × (List Int) × Unit) ⊕ ((List Int) × Unit))) (
  Option.bind (α := (Bool × (List Int) × Unit)) (
  (bif ((decide (a_6 > ((0) : Int))) == true) then ((idxN (data_27).length (IntKind.i64.wrap (a_6 - ((1) : Int)))).bind fun k28 =>
  ((atO data_27 k28 fun e29 => some e29)).bind fun y30 =>
  (idxN (data_27).length pivot_20).bind fun k31 =>
  ((atO data_27 k31 fun e32 => some e32)).bind fun y33 =>
  (d_memory_Best_1q_1q_q0 (y30, y33, cmp_5.1, cmp_5.2.1, ())).bind fun (r34, _) =>
  some ((!(decide (r34 < ((0) : Int)))), data_27, ())) else (some (false, data_27, ())))) fun (s_35, data_36, _) =>
  (bif s_35 then (
  (d_slices_partitionEqualCmpFunc_int_mem (data_36, a_6, b_7, pivot_20, (cmp_5.1, cmp_5.2.1, ()), ())).bind fun (m37, r38, _) =>
  some (.inr (.inl (r38, b_7, limit_15, wasBalanced_9, wasPartitioned_10, m37, ())))) else (
  some (.inl (a_6, data_36, ()))))) fun q => match q with
  | .inl (a_39, data_40, _) => (
  (d_slices_partitionCmpFunc_int_mem (data_40, a_39, b_7, pivot_20, (cmp_5.1, cmp_5.2.1, ()), ())).bind fun (m41, r42, r43, _) =>
  (quoO IntKind.i64 (IntKind.i64.wrap (b_7 - a_6)) ((8) : Int)).bind fun y44 =>
  (bif (decide ((IntKind.i64.wrap (r42 - a_39)) < (IntKind.i64.wrap (b_7 - r42)))) then (
  (f_ (m41, a_39, r42, limit_15, (cmp_5.1, cmp_5.2.1, ()), ())).bind fun (m45, _) =>
  some (.inl ((IntKind.i64.wrap (r42 + ((1) : Int))), b_7, limit_15, (decide ((IntKind.i64.wrap (r42 - a_39)) ≥ y44)), r43, m45, ()))) else (
  (f_ (m41, (IntKind.i64.wrap (r42 + ((1) : Int))), b_7, limit_15, (cmp_5.1, cmp_5.2.1, ()), ())).bind fun (m46, _) =>
  some (.inl (a_39, r42, limit_15, (decide ((IntKind.i64.wrap (b_7 - r42)) ≥ y44)), r43, m46, ())))))
  | .inr r => some r)
  | .inr r => some r))))) (a_2, b_3, limit_4, true, true, data_1, ())).bind some
noncomputable def r_slices_pdqsortCmpFunc_int_mem : Nat → ((List Int) × Int × Int × Int × ((Option (List Int)) × (Option (List Int)) × Unit) × Unit) → Option ((List Int) × Unit) := deep r_slices_pdqsortCmpFunc_int_memq_s
set_option maxHeartbeats 4000000 in
theorem r_slices_pdqsortCmpFunc_int_memq_mono (f_ fb_ : ((List Int) × Int × Int × Int × ((Option (List Int)) × (Option (List Int)) × Unit) × Unit) → Option ((List Int) × Unit)) (h_ : ∀ a, Le (f_ a) (fb_ a)) (a : ((List Int) × Int × Int × Int × ((Option (List Int)) × (Option (List Int)) × Unit) × Unit)) : Le (r_slices_pdqsortCmpFunc_int_memq_s f_ a) (r_slices_pdqsortCmpFunc_int_memq_s fb_ a) := by
  unfold r_slices_pdqsortCmpFunc_int_memq_s
  repeat' (first | with_reducible exact Le.refl _ | with_reducible exact h_ _ | (with_reducible refine Le.bind ?_ (fun y => ?_)) | (with_reducible refine Le.bif ?_ ?_) | (with_reducible refine Le.loop2 (fun s => ?_) _) | (with_reducible refine Le.atO (fun e => ?_)) | split)
noncomputable def d_slices_pdqsortCmpFunc_int_mem : ((List Int) × Int × Int × Int × ((Option (List Int)) × (Option (List Int)) × Unit) × Unit) → Option ((List Int) × Unit) := fixO r_slices_pdqsortCmpFunc_int_mem
noncomputable def d_slices_SortFunc_int_int_mem : ((List Int) × ((Option (List Int)) × (Option (List Int)) × Unit) × Unit) → Option ((List Int) × Unit) := fun (x_1, cmp_2, _) =>
  (d_math_bits_Len ((IntKind.u64.wrap (((x_1).length : Nat) : Int)), ())).bind fun (r3, _) =>
  (d_slices_pdqsortCmpFunc_int_mem (x_1, ((0) : Int), (((x_1).length : Nat) : Int), r3, (cmp_2.1, cmp_2.2.1, ()), ())).bind fun (m4, _) =>
  some (m4, ())
noncomputable def d_memory_Best_1q_q0 : ((List Int) × (Option (List Int)) × (Option (List Int)) × Unit) → Option ((List Int) × Unit) := fun (set_1, p_2, p_3, _) =>
  (d_slices_SortFunc_int_int_mem (set_1, (p_2, p_3, ()), ())).bind fun (m4, _) =>
  some (m4, ())
noncomputable def r_memory_Best_2q_q0q_s (f_ : (Int × (Option (List (List Int))) × Unit × (List Int) × Unit) → Option ((List Int) × Unit)) : (Int × (Option (List (List Int))) × Unit × (List Int) × Unit) → Option ((List Int) × Unit) := fun (i_1, p_2, _, p_4, _) =>
  (p_2).bind fun y5 =>
  (getI y5 i_1).bind fun y6 =>
  (loop (σ := (Int × (List Int) × Unit)) (ρ := ((List Int) × Unit)) (fun (s_7, s_8, _) =>
  (bif (decide (s_7 < (((y6).length : Nat) : Int))) then (
  (getI y6 s_7).bind fun y9 =>
  (f_ (y9, p_2, (), s_8, ())).bind fun (m10, _) =>
  some (.inl ((IntKind.i64.wrap (s_7 + ((1) : Int))), m10, ()))) else (
  some (.inr (s_8, ()))))) (((0) : Int), p_4, ())).bind fun (s_11, _) =>
  (limO ((s_11).length + ([i_1]).length)).bind fun _ =>
  some ((s_11 ++ [i_1]), ())
noncomputable def r_memory_Best_2q_q0 : Nat → (Int × (Option (List (List Int))) × Unit × (List Int) × Unit) → Option ((List Int) × Unit) := deep r_memory_Best_2q_q0q_s
set_option maxHeartbeats 4000000 in
theorem r_memory_Best_2q_q0q_mono (f_ fb_ : (Int × (Option (List (List Int))) × Unit × (List Int) × Unit) → Option ((List Int) × Unit)) (h_ : ∀ a, Le (f_ a) (fb_ a)) (a : (Int × (Option (List (List Int))) × Unit × (List Int) × Unit)) : Le (r_memory_Best_2q_q0q_s f_ a) (r_memory_Best_2q_q0q_s fb_ a) := by
  unfold r_memory_Best_2q_q0q_s
  repeat' (first | with_reducible exact Le.refl _ | with_reducible exact h_ _ | (with_reducible refine Le.bind ?_ (fun y => ?_)) | (with_reducible refine Le.bif ?_ ?_) | (with_reducible refine Le.loop2 (fun s => ?_) _) | (with_reducible refine Le.atO (fun e => ?_)) | split)
noncomputable def d_memory_Best_2q_q0 : (Int × (Option (List (List Int))) × Unit × (List Int) × Unit) → Option ((List Int) × Unit) := fixO r_memory_Best_2q_q0
noncomputable def d_memory_Best : ((List (Int × (Int × ((List Int) × (Int × Unit))))) × Unit) → Option (((List Int) × ((List Int) × ((List Int) × Unit))) × Int × Unit) := fun (l_1, _) =>
  (d_memory_proper (l_1, ())).bind fun (r164, _) =>
  (bif (!r164) then (
  some ((([] : (List Int)), (([] : (List Int)), (([] : (List Int)), ()))), ((211) : Int), ())) else (
  (d_memory_sizes (l_1, ())).bind fun (r165, r166, _) =>
  (d_memory_children (l_1, ())).bind fun (r167, r168, _) =>
  (madeO (((l_1).length : Nat) : Int) (((l_1).length : Nat) : Int)).bind fun n169 =>
  (loop (σ := (Int × ((List Int) × ((List Int) × ((List Int) × Unit))) × (List Int) × (List (List Int)) × (List Int) × (List Int) × Unit)) (ρ := (((List Int) × ((List Int) × ((List Int) × Unit))) × (List Int) × (List (List Int)) × (List Int) × (List Int) × Unit)) (fun (s_170, s_171, keep_172, kids_173, roots_174, peak_175, _) =>
  (bif (decide (s_170 < (((l_1).length : Nat) : Int))) then (
  (idxN (kids_173).length s_170).bind fun k176 =>
  ((atO kids_173 k176 fun e178 => some e178)).bind fun y179 =>
  (d_memory_Best_1q_q0 (y179, (some peak_175), (some keep_172), ())).bind fun (m180, _) =>
  ((atO kids_173 k176 fun _ => some ((kids_173).set k176 m180))).bind fun z182 =>
  (idxN (z182).length s_170).bind fun k183 =>
  ((atO z182 k183 fun e185 => some e185)).bind fun xs186 =>
  (loop (σ := (Int × Nat × Int × ((List Int) × ((List Int) × ((List Int) × Unit))) × (List Int) × (List (List Int)) × (List Int) × (List Int) × Unit)) (ρ := (Int × ((List Int) × ((List Int) × ((List Int) × Unit))) × (List Int) × (List (List Int)) × (List Int) × (List Int) × Unit)) (fun (before_187, s_188, s_189, s_190, keep_191, kids_192, roots_193, peak_194, _) =>
  (bif (decide (s_189 < (((xs186).length : Nat) : Int))) then (
  (((atO kids_192 s_188 fun e195 => some e195)).bind fun e196 => idxN (e196).length s_189).bind fun k197 =>
  ((atO kids_192 s_188 fun e198 => (atO e198 k197 fun e199 => some e199))).bind fun y200 =>
  (idxN (peak_194).length s_170).bind fun k201 =>
  ((atO peak_194 k201 fun e202 => some e202)).bind fun y203 =>
  (idxN (peak_194).length y200).bind fun k204 =>
  ((atO peak_194 k204 fun e205 => some e205)).bind fun y206 =>
  (idxN (peak_194).length s_170).bind fun k207 =>
  ((atO peak_194 k207 fun _ => some ((peak_194).set k207 (if (IntKind.i64.wrap (before_187 + y206)) > y203 then (IntKind.i64.wrap (before_187 + y206)) else y203)))).bind fun z209 =>
  (getI keep_191 y200).bind fun y210 =>
  some (.inl ((IntKind.i64.wrap (before_187 + y210)), s_188, (IntKind.i64.wrap (s_189 + ((1) : Int))), s_190, keep_191, kids_192, roots_193, z209, ()))) else (
  some (.inr (before_187, s_190, keep_191, kids_192, roots_193, peak_194, ()))))) (((0) : Int), k183, ((0) : Int), s_171, keep_172, z182, roots_174, peak_175, ())).bind fun (before_211, s_212, keep_213, kids_214, roots_215, peak_216, _) =>
  (idxN (peak_216).length s_170).bind fun k217 =>
  ((atO peak_216 k217 fun e218 => some e218)).bind fun y219 =>
  (getI r165 s_170).bind fun y220 =>
  (idxN (peak_216).length s_170).bind fun k221 =>
  ((atO peak_216 k221 fun _ => some ((peak_216).set k221 (if (IntKind.i64.wrap (before_211 + y220)) > y219 then (IntKind.i64.wrap (before_211 + y220)) else y219)))).bind fun z223 =>
  some (.inl ((IntKind.i64.wrap (s_170 + ((1) : Int))), s_212, keep_213, kids_214, roots_215, z223, ()))) else (
  some (.inr (s_171, keep_172, kids_173, roots_174, peak_175, ()))))) (((0) : Int), ([], ([], ([], ()))), r166, r167, r168, (List.replicate n169 (0 : Int)), ())).bind fun (s_224, keep_225, kids_226, roots_227, peak_228, _) =>
  (d_memory_Best_1q_q0 (roots_227, (some peak_228), (some keep_225), ())).bind fun (m229, _) =>
  (loop (σ := (Int × ((List Int) × ((List Int) × ((List Int) × Unit))) × (List Int) × (List (List Int)) × (List Int) × (List Int) × (List Int) × Unit)) (ρ := (((List Int) × ((List Int) × ((List Int) × Unit))) × (List Int) × (List Int) × (List Int) × Unit)) (fun (s_230, s_231, keep_232, kids_233, roots_234, peak_235, order_236, _) =>
  (bif (decide (s_230 < (((m229).length : Nat) : Int))) then (
  (idxN (roots_234).length s_230).bind fun k237 =>
  ((atO roots_234 k237 fun e238 => some e238)).bind fun y239 =>
  (d_memory_Best_2q_q0 (y239, (some kids_233), (), order_236, ())).bind fun (m240, _) =>
  some (.inl ((IntKind.i64.wrap (s_230 + ((1) : Int))), s_231, keep_232, kids_233, roots_234, peak_235, m240, ()))) else (
  some (.inr (s_231, keep_232, peak_235, order_236, ()))))) (((0) : Int), s_224, keep_225, kids_226, m229, peak_228, [], ())).bind fun (_, keep_242, peak_243, order_244, _) =>
  some ((order_244, (peak_243, (keep_242, ()))), ((0) : Int), ())))
noncomputable def d_memory_permutation : ((List Int) × Unit) → Option (Bool × Unit) := fun (order_1, _) =>
  (madeO (((order_1).length : Nat) : Int) (((order_1).length : Nat) : Int)).bind fun n2 =>
  (loop (σ := (Int × (List Bool) × Unit)) (ρ := (Unit ⊕ (Bool × Unit))) (fun (s_3, seen_4, _) =>
  (bif (decide (s_3 < (((order_1).length : Nat) : Int))) then (
  Option.bind (α := ((List Bool) × Unit) ⊕ ((Int × (List Bool) × Unit) ⊕ (Unit ⊕ (Bool × Unit)))) (
  (getI order_1 s_3).bind fun y5 =>
  Option.bind (α := ((List Bool) × Unit) ⊕ (((List Bool) × Unit) ⊕ ((Int × (List Bool) × Unit) ⊕ (Unit ⊕ (Bool × Unit))))) (
  (bif ((decide (y5 < ((0) : Int))) == false) then ((bif ((decide (y5 ≥ (((order_1).length : Nat) : Int))) == false) then ((idxN (seen_4).length y5).bind fun k6 =>
  ((atO seen_4 k6 fun e7 => some e7)).bind fun y8 =>
  (bif y8 then (
  some (.inr (.inr (.inr (.inr (false, ())))))) else (
  some (.inl (seen_4, ()))))) else (some (.inr (.inr (.inr (.inr (false, ())))))))) else (some (.inr (.inr (.inr (.inr (false, ())))))))) fun q => match q with
  | .inl (seen_9, _) => (
  (idxN (seen_9).length y5).bind fun k10 =>
  ((atO seen_9 k10 fun _ => some ((seen_9).set k10 true))).bind fun z12 =>
  some (.inl (z12, ())))
  | .inr r => some r) fun q => match q with
  | .inl (seen_13, _) => (
  some (.inl ((IntKind.i64.wrap (s_3 + ((1) : Int))), seen_13, ())))
  | .inr r => some r) else (
  some (.inr (.inl ()))))) (((0) : Int), (List.replicate n2 false), ())).bind fun q => match q with
  | .inl _ => (
  some (true, ()))
  | .inr r => some r
noncomputable def d_memory_processing : ((List (Int × (Int × ((List Int) × (Int × Unit))))) × (List Int) × Unit) → Option (Bool × Unit) := fun (l_1, order_2, _) =>
  (madeO (((l_1).length : Nat) : Int) (((l_1).length : Nat) : Int)).bind fun n35 =>
  (madeO (((l_1).length : Nat) : Int) (((l_1).length : Nat) : Int)).bind fun n36 =>
  (madeO (((l_1).length : Nat) : Int) (((l_1).length : Nat) : Int)).bind fun n37 =>
  (loop (σ := (Int × (List Int) × (List Int) × (List Int) × Unit)) (ρ := ((List Int) × (List Int) × (List Int) × Unit)) (fun (s_38, count_39, first_40, at_41, _) =>
  (bif (decide (s_38 < (((order_2).length : Nat) : Int))) then (
  (getI order_2 s_38).bind fun y42 =>
  (idxN (at_41).length y42).bind fun k43 =>
  ((atO at_41 k43 fun _ => some ((at_41).set k43 s_38))).bind fun z45 =>
  some (.inl ((IntKind.i64.wrap (s_38 + ((1) : Int))), count_39, first_40, z45, ()))) else (
  some (.inr (count_39, first_40, at_41, ()))))) (((0) : Int), (List.replicate n35 (0 : Int)), (List.replicate n36 (0 : Int)), (List.replicate n37 (0 : Int)), ())).bind fun (count_46, first_47, at_48, _) =>
  (loop (σ := (Int × (List Int) × (List Int) × (List Int) × Unit)) (ρ := ((List Int) × (List Int) × (List Int) × Unit)) (fun (s_49, count_50, first_51, at_52, _) =>
  (bif (decide (s_49 < (((l_1).length : Nat) : Int))) then (
  (idxN (at_52).length s_49).bind fun k53 =>
  ((atO at_52 k53 fun e54 => some e54)).bind fun y55 =>
  (idxN (first_51).length s_49).bind fun k56 =>
  ((atO first_51 k56 fun _ => some ((first_51).set k56 y55))).bind fun z58 =>
  some (.inl ((IntKind.i64.wrap (s_49 + ((1) : Int))), count_50, z58, at_52, ()))) else (
  some (.inr (count_50, first_51, at_52, ()))))) (((0) : Int), count_46, first_47, at_48, ())).bind fun (count_59, first_60, at_61, _) =>
  (loop (σ := (Int × (List Int) × (List Int) × (List Int) × Unit)) (ρ := (((List Int) × (List Int) × (List Int) × Unit) ⊕ (Bool × Unit))) (fun (s_62, count_63, first_64, at_65, _) =>
  (bif (decide (s_62 < (((l_1).length : Nat) : Int))) then (
  Option.bind (α := ((List Int) × (List Int) × (List Int) × Unit) ⊕ ((Int × (List Int) × (List Int) × (List Int) × Unit) ⊕ (((List Int) × (List Int) × (List Int) × Unit) ⊕ (Bool × Unit)))) (
  (getI l_1 s_62).bind fun y66 =>
  (idxN (count_63).length s_62).bind fun k67 =>
  ((atO count_63 k67 fun e68 => some e68)).bind fun y69 =>
  (idxN (count_63).length s_62).bind fun k70 =>
  ((atO count_63 k70 fun _ => some ((count_63).set k70 (IntKind.i64.wrap (y69 + ((1) : Int)))))).bind fun z72 =>
  (bif (decide (y66.2.2.2.1 ≥ ((0) : Int))) then (
  (idxN (at_65).length y66.2.2.2.1).bind fun k73 =>
  ((atO at_65 k73 fun e74 => some e74)).bind fun y75 =>
  (idxN (at_65).length s_62).bind fun k76 =>
  ((atO at_65 k76 fun e77 => some e77)).bind fun y78 =>
  (bif (decide (y75 < y78)) then (
  some (.inr (.inr (.inr (false, ()))))) else (
  (idxN (z72).length y66.2.2.2.1).bind fun k79 =>
  ((atO z72 k79 fun e80 => some e80)).bind fun y81 =>
  (idxN (z72).length s_62).bind fun k82 =>
  ((atO z72 k82 fun e83 => some e83)).bind fun y84 =>
  (idxN (z72).length y66.2.2.2.1).bind fun k85 =>
  ((atO z72 k85 fun _ => some ((z72).set k85 (IntKind.i64.wrap (y81 + y84))))).bind fun z87 =>
  (idxN (first_64).length y66.2.2.2.1).bind fun k88 =>
  ((atO first_64 k88 fun e89 => some e89)).bind fun y90 =>
  (idxN (first_64).length s_62).bind fun k91 =>
  ((atO first_64 k91 fun e92 => some e92)).bind fun y93 =>
  (idxN (first_64).length y66.2.2.2.1).bind fun k94 =>
  ((atO first_64 k94 fun _ => some ((first_64).set k94 (if y93 < y90 then y93 else y90)))).bind fun z96 =>
  some (.inl (z87, z96, at_65, ()))))) else (
  some (.inl (z72, first_64, at_65, ()))))) fun q => match q with
  | .inl (count_97, first_98, at_99, _) => (
  some (.inl ((IntKind.i64.wrap (s_62 + ((1) : Int))), count_97, first_98, at_99, ())))
  | .inr r => some r) else (
  some (.inr (.inl (count_63, first_64, at_65, ())))))) (((0) : Int), count_59, first_60, at_61, ())).bind fun q => match q with
  | .inl (count_100, first_101, at_102, _) => (
  (loop (σ := (Int × (List Int) × (List Int) × (List Int) × Unit)) (ρ := (Unit ⊕ (Bool × Unit))) (fun (s_103, count_104, first_105, at_106, _) =>
  (bif (decide (s_103 < (((l_1).length : Nat) : Int))) then (
  (idxN (at_106).length s_103).bind fun k107 =>
  ((atO at_106 k107 fun e108 => some e108)).bind fun y109 =>
  (idxN (first_105).length s_103).bind fun k110 =>
  ((atO first_105 k110 fun e111 => some e111)).bind fun y112 =>
  (idxN (count_104).length s_103).bind fun k113 =>
  ((atO count_104 k113 fun e114 => some e114)).bind fun y115 =>
  (bif ((IntKind.i64.wrap ((IntKind.i64.wrap (y109 - y112)) + ((1) : Int))) != y115) then (
  some (.inr (.inr (false, ())))) else (
  some (.inl ((IntKind.i64.wrap (s_103 + ((1) : Int))), count_104, first_105, at_106, ()))))) else (
  some (.inr (.inl ()))))) (((0) : Int), count_100, first_101, at_102, ())).bind fun q => match q with
  | .inl _ => (
  some (true, ()))
  | .inr r => some r)
  | .inr r => some r
noncomputable def d_memory_Simulate : ((List (Int × (Int × ((List Int) × (Int × Unit))))) × (List Int) × Unit) → Option (Int × Int × Unit) := fun (l_1, order_2, _) =>
  (d_memory_proper (l_1, ())).bind fun (r3, _) =>
  (bif (!r3) then (
  some (((0) : Int), ((211) : Int), ())) else (
  (bif ((((order_2).length : Nat) : Int) != (((l_1).length : Nat) : Int)) then (
  some (((0) : Int), ((2) : Int), ())) else (
  (d_memory_permutation (order_2, ())).bind fun (r4, _) =>
  (bif (!r4) then (
  some (((0) : Int), ((90) : Int), ())) else (
  (d_memory_processing (l_1, order_2, ())).bind fun (r5, _) =>
  (bif (!r5) then (
  some (((0) : Int), ((210) : Int), ())) else (
  (d_memory_sizes (l_1, ())).bind fun (r6, r7, _) =>
  (d_memory_children (l_1, ())).bind fun (r8, _, _) =>
  (loop (σ := (Int × Int × Int × Unit)) (ρ := (Int × Unit)) (fun (stack_10, peak_11, s_12, _) =>
  (bif (decide (s_12 < (((order_2).length : Nat) : Int))) then (
  (getI order_2 s_12).bind fun y13 =>
  (getI r6 y13).bind fun y14 =>
  (getI r8 y13).bind fun y15 =>
  (loop (σ := (Int × Int × Unit)) (ρ := (Int × Unit)) (fun (stack_16, s_17, _) =>
  (bif (decide (s_17 < (((y15).length : Nat) : Int))) then (
  (getI y15 s_17).bind fun y18 =>
  (getI r7 y18).bind fun y19 =>
  some (.inl ((IntKind.i64.wrap (stack_16 - y19)), (IntKind.i64.wrap (s_17 + ((1) : Int))), ()))) else (
  some (.inr (stack_16, ()))))) (stack_10, ((0) : Int), ())).bind fun (stack_20, _) =>
  (getI r7 y13).bind fun y21 =>
  some (.inl ((IntKind.i64.wrap (stack_20 + y21)), (if (IntKind.i64.wrap (stack_10 + y14)) > peak_11 then (IntKind.i64.wrap (stack_10 + y14)) else peak_11), (IntKind.i64.wrap (s_12 + ((1) : Int))), ()))) else (
  some (.inr (peak_11, ()))))) (((0) : Int), ((0) : Int), ((0) : Int), ())).bind fun (peak_22, _) =>
  some (peak_22, ((0) : Int), ())))))))))
noncomputable def d_sparselaw22q_awake : Unit → Option (Bool × Unit) := fun _ =>
  (d_memory_Best ([(((0) : Int), (((1) : Int), ([((0) : Int), ((1) : Int), ((2) : Int)], (((2) : Int), ())))), (((1) : Int), (((2) : Int), ([((1) : Int), ((2) : Int)], (((2) : Int), ())))), (((2) : Int), (((4) : Int), ([((2) : Int), ((3) : Int)], ((-1 : Int), ()))))], ())).bind fun (r1, r2, _) =>
  (d_memory_Simulate ([(((0) : Int), (((1) : Int), ([((0) : Int), ((1) : Int), ((2) : Int)], (((2) : Int), ())))), (((1) : Int), (((2) : Int), ([((1) : Int), ((2) : Int)], (((2) : Int), ())))), (((2) : Int), (((4) : Int), ([((2) : Int), ((3) : Int)], ((-1 : Int), ()))))], [((1) : Int), ((0) : Int), ((2) : Int)], ())).bind fun (r3, r4, _) =>
  (bif ((r2 == ((0) : Int)) == true) then ((bif ((r4 == ((0) : Int)) == true) then ((d_sparsekit_Ints (r1.1, [((0) : Int), ((1) : Int), ((2) : Int)], ())).bind fun (r5, _) =>
  (bif (r5 == true) then ((bif (((((r1.2.1).length : Nat) : Int) == ((3) : Int)) == true) then ((getI r1.2.1 ((2) : Int)).bind fun y6 =>
  (bif ((y6 == ((7) : Int)) == true) then (some ((r3 == ((7) : Int)), ())) else (some (false, ())))) else (some (false, ())))) else (some (false, ())))) else (some (false, ())))) else (some (false, ())))
noncomputable def d_sparsemake_At : ((List Int) × Int × Unit) → Option (Int × Unit) := fun (l_1, i_2, _) =>
  (bif (decide (i_2 < (((l_1).length : Nat) : Int))) then (
  (getI l_1 i_2).bind fun y3 =>
  some (y3, ())) else (
  some (((0) : Int), ())))
noncomputable def d_sparsemake_Tree : (Int × (List Int) × Unit) → Option ((List Int) × Unit) := fun (n_1, l_2, _) =>
  (loop (σ := (Int × (List Int) × Unit)) (ρ := ((List Int) × Unit)) (fun (v_3, out_4, _) =>
  (bif (decide (v_3 < n_1)) then (
  Option.bind (α := ((List Int) × Unit)) (
  (d_sparsemake_At (l_2, v_3, ())).bind fun (r5, _) =>
  (d_sparsekit_Place (r5, (IntKind.i64.wrap (n_1 - v_3)), ())).bind fun (r6, _) =>
  Option.bind (α := (Int × (List Int) × Unit)) (
  (bif ((IntKind.i64.wrap (v_3 + r6)) == v_3) then (
  some ((-1 : Int), out_4, ())) else (
  some ((IntKind.i64.wrap (v_3 + r6)), out_4, ())))) fun (p_7, out_8, _) =>
  (limO ((out_8).length + ([p_7]).length)).bind fun _ =>
  some ((out_8 ++ [p_7]), ())) fun (out_9, _) =>
  some (.inl ((IntKind.i64.wrap (v_3 + ((1) : Int))), out_9, ()))) else (
  some (.inr (out_4, ()))))) (((0) : Int), [], ())).bind fun (out_10, _) =>
  some (out_10, ())
noncomputable def d_sparselaw22q_forest : (Int × (List Int) × (List Int) × Unit) → Option ((List (Int × (Int × ((List Int) × (Int × Unit))))) × Unit) := fun (n_1, l_2, sizes_3, _) =>
  (d_sparsemake_Tree (n_1, l_2, ())).bind fun (r5, _) =>
  (loop (σ := (Int × (List (Int × (Int × ((List Int) × (Int × Unit))))) × Unit)) (ρ := ((List (Int × (Int × ((List Int) × (Int × Unit))))) × Unit)) (fun (v_6, out_7, _) =>
  (bif (decide (v_6 < n_1)) then (
  (d_sparsemake_At (sizes_3, (IntKind.i64.wrap (((2) : Int) * v_6)), ())).bind fun (r8, _) =>
  (d_sparsekit_Place (r8, ((3) : Int), ())).bind fun (r9, _) =>
  (d_sparsemake_At (sizes_3, (IntKind.i64.wrap ((IntKind.i64.wrap (((2) : Int) * v_6)) + ((1) : Int))), ())).bind fun (r10, _) =>
  (d_sparsekit_Place (r10, ((6) : Int), ())).bind fun (r11, _) =>
  (madeO (IntKind.i64.wrap ((IntKind.i64.wrap (((1) : Int) + r9)) + r11)) (IntKind.i64.wrap ((IntKind.i64.wrap (((1) : Int) + r9)) + r11))).bind fun n12 =>
  (getI r5 v_6).bind fun y13 =>
  (limO ((out_7).length + ([((IntKind.i64.wrap (((10) : Int) * v_6)), ((IntKind.i64.wrap ((IntKind.i64.wrap (((10) : Int) * v_6)) + (IntKind.i64.wrap (((1) : Int) + r9)))), ((List.replicate n12 (0 : Int)), (y13, ()))))]).length)).bind fun _ =>
  some (.inl ((IntKind.i64.wrap (v_6 + ((1) : Int))), (out_7 ++ [((IntKind.i64.wrap (((10) : Int) * v_6)), ((IntKind.i64.wrap ((IntKind.i64.wrap (((10) : Int) * v_6)) + (IntKind.i64.wrap (((1) : Int) + r9)))), ((List.replicate n12 (0 : Int)), (y13, ()))))]), ()))) else (
  some (.inr (out_7, ()))))) (((0) : Int), [], ())).bind fun (out_14, _) =>
  some (out_14, ())
noncomputable def r_sparselaw22q_walkq_s (f_ : ((List (Int × (Int × ((List Int) × (Int × Unit))))) × Int × (List Int) × (List Int) × Unit) → Option ((List Int) × Unit)) : ((List (Int × (Int × ((List Int) × (Int × Unit))))) × Int × (List Int) × (List Int) × Unit) → Option ((List Int) × Unit) := fun (l_1, parent_2, keys_3, out_4, _) =>
  (loop (σ := (Int × (List Int) × (List Int) × Unit)) (ρ := ((List Int) × (List Int) × Unit)) (fun (v_5, out_6, c_7, _) =>
  (bif (decide (v_5 < (((l_1).length : Nat) : Int))) then (
  Option.bind (α := ((List Int) × (List Int) × Unit)) (
  (getI l_1 v_5).bind fun y8 =>
  (bif (y8.2.2.2.1 != parent_2) then (
  some (out_6, c_7, ())) else (
  (limO ((c_7).length + ([v_5]).length)).bind fun _ =>
  (loop (σ := (Int × (List Int) × (List Int) × Unit)) (ρ := (Int × (List Int) × (List Int) × Unit)) (fun (k_9, out_10, c_11, _) =>
  Option.bind (α := ((List Int) × (List Int) × Unit) ⊕ ((Int × (List Int) × (List Int) × Unit) ⊕ (Int × (List Int) × (List Int) × Unit))) (
  (bif ((decide (k_9 > ((0) : Int))) == true) then ((idxN (c_11).length (IntKind.i64.wrap (k_9 - ((1) : Int)))).bind fun k12 =>
  ((atO c_11 k12 fun e13 => some e13)).bind fun y14 =>
  (d_sparsemake_At (keys_3, y14, ())).bind fun (r15, _) =>
  (d_sparsemake_At (keys_3, v_5, ())).bind fun (r16, _) =>
  (bif (decide (r15 > r16)) then (
  some (.inl (out_10, c_11, ()))) else (
  some (.inr (.inr (k_9, out_10, c_11, ())))))) else (some (.inr (.inr (k_9, out_10, c_11, ())))))) fun q => match q with
  | .inl (out_17, c_18, _) => (
  (idxN (c_18).length (IntKind.i64.wrap (k_9 - ((1) : Int)))).bind fun k19 =>
  ((atO c_18 k19 fun e20 => some e20)).bind fun y21 =>
  (idxN (c_18).length k_9).bind fun k22 =>
  ((atO c_18 k22 fun _ => some ((c_18).set k22 y21))).bind fun z24 =>
  some (.inl ((IntKind.i64.wrap (k_9 - ((1) : Int))), out_17, z24, ())))
  | .inr r => some r) ((((c_7).length : Nat) : Int), out_6, (c_7 ++ [v_5]), ())).bind fun (k_25, out_26, c_27, _) =>
  (idxN (c_27).length k_25).bind fun k28 =>
  ((atO c_27 k28 fun _ => some ((c_27).set k28 v_5))).bind fun z30 =>
  some (out_26, z30, ())))) fun (out_31, c_32, _) =>
  some (.inl ((IntKind.i64.wrap (v_5 + ((1) : Int))), out_31, c_32, ()))) else (
  some (.inr (out_6, c_7, ()))))) (((0) : Int), out_4, [], ())).bind fun (out_33, c_34, _) =>
  (loop (σ := (Int × (List Int) × (List Int) × Unit)) (ρ := ((List Int) × Unit)) (fun (i_35, out_36, c_37, _) =>
  (bif (decide (i_35 < (((c_37).length : Nat) : Int))) then (
  (idxN (c_37).length i_35).bind fun k38 =>
  ((atO c_37 k38 fun e39 => some e39)).bind fun y40 =>
  (f_ (l_1, y40, keys_3, out_36, ())).bind fun (r41, _) =>
  (idxN (c_37).length i_35).bind fun k42 =>
  ((atO c_37 k42 fun e43 => some e43)).bind fun y44 =>
  (limO ((r41).length + ([y44]).length)).bind fun _ =>
  some (.inl ((IntKind.i64.wrap (i_35 + ((1) : Int))), (r41 ++ [y44]), c_37, ()))) else (
  some (.inr (out_36, ()))))) (((0) : Int), out_33, c_34, ())).bind fun (out_45, _) =>
  some (out_45, ())
noncomputable def d_sparseref22q_Proper : ((List (Int × (Int × ((List Int) × (Int × Unit))))) × Unit) → Option (Bool × Unit) := fun (l_1, _) =>
  (bif (decide ((((l_1).length : Nat) : Int) > ((200) : Int))) then (
  some (false, ())) else (
  (loop (σ := (Int × Unit)) (ρ := (Unit ⊕ (Bool × Unit))) (fun (i_2, _) =>
  (bif (decide (i_2 < (((l_1).length : Nat) : Int))) then (
  Option.bind (α := Unit ⊕ ((Int × Unit) ⊕ (Unit ⊕ (Bool × Unit)))) (
  (getI l_1 i_2).bind fun y3 =>
  Option.bind (α := Unit ⊕ (Unit ⊕ ((Int × Unit) ⊕ (Unit ⊕ (Bool × Unit))))) (
  (getI l_1 i_2).bind fun y4 =>
  (getI l_1 i_2).bind fun y5 =>
  (bif ((decide (y4.2.1 ≤ y5.1)) == false) then ((bif ((decide ((((y3.2.2.1).length : Nat) : Int) > ((200) : Int))) == false) then ((getI l_1 i_2).bind fun y6 =>
  (getI l_1 i_2).bind fun y7 =>
  (bif (decide ((IntKind.u64.wrap ((IntKind.u64.wrap y6.2.1) - (IntKind.u64.wrap y7.1))) > (IntKind.u64.wrap (((y3.2.2.1).length : Nat) : Int)))) then (
  some (.inr (.inr (.inr (.inr (false, ())))))) else (
  some (.inl ())))) else (some (.inr (.inr (.inr (.inr (false, ())))))))) else (some (.inr (.inr (.inr (.inr (false, ())))))))) fun q => match q with
  | .inl _ => (
  (getI l_1 i_2).bind fun y8 =>
  (bif ((y8.2.2.2.1 != (-1 : Int)) == true) then ((getI l_1 i_2).bind fun y9 =>
  (bif ((decide (y9.2.2.2.1 ≤ i_2)) == false) then ((getI l_1 i_2).bind fun y10 =>
  (bif (decide (y10.2.2.2.1 ≥ (((l_1).length : Nat) : Int))) then (
  some (.inr (.inr (.inr (false, ()))))) else (
  some (.inl ())))) else (some (.inr (.inr (.inr (false, ()))))))) else (some (.inl ()))))
  | .inr r => some r) fun q => match q with
  | .inl _ => (
  some (.inl ((IntKind.i64.wrap (i_2 + ((1) : Int))), ())))
  | .inr r => some r) else (
  some (.inr (.inl ()))))) (((0) : Int), ())).bind fun q => match q with
  | .inl _ => (
  some (true, ()))
  | .inr r => some r))
noncomputable def d_sparsekit_Invert : ((List Int) × Unit) → Option ((List Int) × Unit) := fun (l_1, _) =>
  (madeO (((l_1).length : Nat) : Int) (((l_1).length : Nat) : Int)).bind fun n2 =>
  (loop (σ := (Int × (List Int) × Unit)) (ρ := ((List Int) × Unit)) (fun (i_3, out_4, _) =>
  (bif (decide (i_3 < (((l_1).length : Nat) : Int))) then (
  (getI l_1 i_3).bind fun y5 =>
  (idxN (out_4).length y5).bind fun k6 =>
  ((atO out_4 k6 fun _ => some ((out_4).set k6 i_3))).bind fun z8 =>
  some (.inl ((IntKind.i64.wrap (i_3 + ((1) : Int))), z8, ()))) else (
  some (.inr (out_4, ()))))) (((0) : Int), (List.replicate n2 (0 : Int)), ())).bind fun (out_9, _) =>
  some (out_9, ())
noncomputable def d_sparseref22q_under : ((List (Int × (Int × ((List Int) × (Int × Unit))))) × Int × Int × Unit) → Option (Bool × Unit) := fun (l_1, i_2, root_3, _) =>
  (loop (σ := (Int × Unit)) (ρ := (Int × Unit)) (fun (i_4, _) =>
  Option.bind (α := Unit ⊕ ((Int × Unit) ⊕ (Int × Unit))) (
  (bif ((decide (i_4 ≥ ((0) : Int))) == true) then ((bif (i_4 != root_3) then (
  some (.inl ())) else (
  some (.inr (.inr (i_4, ())))))) else (some (.inr (.inr (i_4, ())))))) fun q => match q with
  | .inl _ => (
  (getI l_1 i_4).bind fun y5 =>
  some (.inl (y5.2.2.2.1, ())))
  | .inr r => some r) (i_2, ())).bind fun (i_6, _) =>
  some ((i_6 == root_3), ())
noncomputable def d_sparseref22q_Processing : ((List (Int × (Int × ((List Int) × (Int × Unit))))) × (List Int) × Unit) → Option (Bool × Unit) := fun (l_1, order_2, _) =>
  (d_sparsekit_Invert (order_2, ())).bind fun (r3, _) =>
  (loop (σ := (Int × Unit)) (ρ := (Unit ⊕ (Bool × Unit))) (fun (root_4, _) =>
  (bif (decide (root_4 < (((l_1).length : Nat) : Int))) then (
  (getI r3 root_4).bind fun y5 =>
  (loop (σ := (Int × Int × Int × Unit)) (ρ := ((Int × Int × Unit) ⊕ ((Int × Unit) ⊕ (Unit ⊕ (Bool × Unit))))) (fun (n_6, first_7, i_8, _) =>
  (bif (decide (i_8 < (((l_1).length : Nat) : Int))) then (
  Option.bind (α := (Int × Int × Unit) ⊕ ((Int × Int × Int × Unit) ⊕ ((Int × Int × Unit) ⊕ ((Int × Unit) ⊕ (Unit ⊕ (Bool × Unit)))))) (
  (d_sparseref22q_under (l_1, i_8, root_4, ())).bind fun (r9, _) =>
  (bif r9 then (
  (getI r3 i_8).bind fun y10 =>
  (getI r3 i_8).bind fun y11 =>
  (getI r3 root_4).bind fun y12 =>
  (bif (decide (y11 > y12)) then (
  some (.inr (.inr (.inr (.inr (.inr (false, ()))))))) else (
  some (.inl ((IntKind.i64.wrap (n_6 + ((1) : Int))), (if y10 < first_7 then y10 else first_7), ()))))) else (
  some (.inl (n_6, first_7, ()))))) fun q => match q with
  | .inl (n_13, first_14, _) => (
  some (.inl (n_13, first_14, (IntKind.i64.wrap (i_8 + ((1) : Int))), ())))
  | .inr r => some r) else (
  some (.inr (.inl (n_6, first_7, ())))))) (((0) : Int), y5, ((0) : Int), ())).bind fun q => match q with
  | .inl (n_15, first_16, _) => (
  (getI r3 root_4).bind fun y17 =>
  (bif ((IntKind.i64.wrap ((IntKind.i64.wrap (y17 - first_16)) + ((1) : Int))) != n_15) then (
  some (.inr (.inr (false, ())))) else (
  some (.inl ((IntKind.i64.wrap (root_4 + ((1) : Int))), ())))))
  | .inr r => some r) else (
  some (.inr (.inl ()))))) (((0) : Int), ())).bind fun q => match q with
  | .inl _ => (
  some (true, ()))
  | .inr r => some r
noncomputable def d_sparseref22q_Sizes : ((List (Int × (Int × ((List Int) × (Int × Unit))))) × Unit) → Option ((List Int) × (List Int) × Unit) := fun (l_1, _) =>
  (loop (σ := (Int × (List Int) × (List Int) × Unit)) (ρ := ((List Int) × (List Int) × Unit)) (fun (i_2, front_3, keep_4, _) =>
  (bif (decide (i_2 < (((l_1).length : Nat) : Int))) then (
  (getI l_1 i_2).bind fun y5 =>
  (getI l_1 i_2).bind fun y6 =>
  (getI l_1 i_2).bind fun y7 =>
  (quoO IntKind.i64 (IntKind.i64.wrap ((((y5.2.2.1).length : Nat) : Int) * (IntKind.i64.wrap ((((y5.2.2.1).length : Nat) : Int) + ((1) : Int))))) ((2) : Int)).bind fun y8 =>
  (limO ((front_3).length + ([y8]).length)).bind fun _ =>
  (quoO IntKind.i64 (IntKind.i64.wrap ((IntKind.i64.wrap ((((y5.2.2.1).length : Nat) : Int) - (IntKind.i64.wrap (y6.2.1 - y7.1)))) * (IntKind.i64.wrap ((IntKind.i64.wrap ((((y5.2.2.1).length : Nat) : Int) - (IntKind.i64.wrap (y6.2.1 - y7.1)))) + ((1) : Int))))) ((2) : Int)).bind fun y9 =>
  (limO ((keep_4).length + ([y9]).length)).bind fun _ =>
  some (.inl ((IntKind.i64.wrap (i_2 + ((1) : Int))), (front_3 ++ [y8]), (keep_4 ++ [y9]), ()))) else (
  some (.inr (front_3, keep_4, ()))))) (((0) : Int), [], [], ())).bind fun (front_10, keep_11, _) =>
  some (front_10, keep_11, ())
noncomputable def d_sparseref22q_Simulate : ((List (Int × (Int × ((List Int) × (Int × Unit))))) × (List Int) × Unit) → Option (Int × Int × Unit) := fun (l_1, order_2, _) =>
  (d_sparseref22q_Proper (l_1, ())).bind fun (r3, _) =>
  (bif (!r3) then (
  some (((0) : Int), ((211) : Int), ())) else (
  (bif ((((order_2).length : Nat) : Int) != (((l_1).length : Nat) : Int)) then (
  some (((0) : Int), ((2) : Int), ())) else (
  (d_sparsekit_Perm (order_2, (((l_1).length : Nat) : Int), ())).bind fun (r4, _) =>
  (bif (!r4) then (
  some (((0) : Int), ((90) : Int), ())) else (
  (d_sparseref22q_Processing (l_1, order_2, ())).bind fun (r5, _) =>
  (bif (!r5) then (
  some (((0) : Int), ((210) : Int), ())) else (
  (d_sparseref22q_Sizes (l_1, ())).bind fun (r6, r7, _) =>
  (loop (σ := (Int × Int × Int × Unit)) (ρ := (Int × Unit)) (fun (stack_8, peak_9, k_10, _) =>
  (bif (decide (k_10 < (((order_2).length : Nat) : Int))) then (
  (getI order_2 k_10).bind fun y11 =>
  (getI r6 y11).bind fun y12 =>
  (loop (σ := (Int × Int × Unit)) (ρ := (Int × Unit)) (fun (stack_13, c_14, _) =>
  (bif (decide (c_14 < y11)) then (
  Option.bind (α := (Int × Unit)) (
  (getI l_1 c_14).bind fun y15 =>
  (bif (y15.2.2.2.1 == y11) then (
  (getI r7 c_14).bind fun y16 =>
  some ((IntKind.i64.wrap (stack_13 - y16)), ())) else (
  some (stack_13, ())))) fun (stack_17, _) =>
  some (.inl (stack_17, (IntKind.i64.wrap (c_14 + ((1) : Int))), ()))) else (
  some (.inr (stack_13, ()))))) (stack_8, ((0) : Int), ())).bind fun (stack_18, _) =>
  (getI r7 y11).bind fun y19 =>
  some (.inl ((IntKind.i64.wrap (stack_18 + y19)), (if (IntKind.i64.wrap (stack_8 + y12)) > peak_9 then (IntKind.i64.wrap (stack_8 + y12)) else peak_9), (IntKind.i64.wrap (k_10 + ((1) : Int))), ()))) else (
  some (.inr (peak_9, ()))))) (((0) : Int), ((0) : Int), ((0) : Int), ())).bind fun (peak_20, _) =>
  some (peak_20, ((0) : Int), ())))))))))
noncomputable def d_sparseref22q_sorted : ((List (Int × (Int × ((List Int) × (Int × Unit))))) × Int × (List Int) × (List Int) × Unit) → Option ((List Int) × Unit) := fun (l_1, parent_2, peak_3, keep_4, _) =>
  (loop (σ := (Int × (List Int) × Unit)) (ρ := ((List Int) × Unit)) (fun (c_5, out_6, _) =>
  (bif (decide (c_5 < (((l_1).length : Nat) : Int))) then (
  Option.bind (α := ((List Int) × Unit)) (
  (getI l_1 c_5).bind fun y7 =>
  (bif (y7.2.2.2.1 != parent_2) then (
  some (out_6, ())) else (
  (limO ((out_6).length + ([c_5]).length)).bind fun _ =>
  (loop (σ := (Int × (List Int) × Unit)) (ρ := (Int × (List Int) × Unit)) (fun (k_8, out_9, _) =>
  Option.bind (α := ((List Int) × Unit) ⊕ ((Int × (List Int) × Unit) ⊕ (Int × (List Int) × Unit))) (
  (bif ((decide (k_8 > ((0) : Int))) == true) then ((idxN (out_9).length (IntKind.i64.wrap (k_8 - ((1) : Int)))).bind fun k10 =>
  ((atO out_9 k10 fun e11 => some e11)).bind fun y12 =>
  (getI peak_3 y12).bind fun y13 =>
  (idxN (out_9).length (IntKind.i64.wrap (k_8 - ((1) : Int)))).bind fun k14 =>
  ((atO out_9 k14 fun e15 => some e15)).bind fun y16 =>
  (getI keep_4 y16).bind fun y17 =>
  (getI peak_3 c_5).bind fun y18 =>
  (getI keep_4 c_5).bind fun y19 =>
  (bif (decide ((IntKind.i64.wrap (y13 - y17)) < (IntKind.i64.wrap (y18 - y19)))) then (
  some (.inl (out_9, ()))) else (
  some (.inr (.inr (k_8, out_9, ())))))) else (some (.inr (.inr (k_8, out_9, ())))))) fun q => match q with
  | .inl (out_20, _) => (
  (idxN (out_20).length (IntKind.i64.wrap (k_8 - ((1) : Int)))).bind fun k21 =>
  ((atO out_20 k21 fun e22 => some e22)).bind fun y23 =>
  (idxN (out_20).length k_8).bind fun k24 =>
  ((atO out_20 k24 fun _ => some ((out_20).set k24 y23))).bind fun z26 =>
  some (.inl ((IntKind.i64.wrap (k_8 - ((1) : Int))), z26, ())))
  | .inr r => some r) ((((out_6).length : Nat) : Int), (out_6 ++ [c_5]), ())).bind fun (k_27, out_28, _) =>
  (idxN (out_28).length k_27).bind fun k29 =>
  ((atO out_28 k29 fun _ => some ((out_28).set k29 c_5))).bind fun z31 =>
  some (z31, ())))) fun (out_32, _) =>
  some (.inl ((IntKind.i64.wrap (c_5 + ((1) : Int))), out_32, ()))) else (
  some (.inr (out_6, ()))))) (((0) : Int), [], ())).bind fun (out_33, _) =>
  some (out_33, ())
noncomputable def r_sparseref22q_listq_s (f_ : ((List (Int × (Int × ((List Int) × (Int × Unit))))) × Int × (List Int) × (List Int) × (List Int) × Unit) → Option ((List Int) × Unit)) : ((List (Int × (Int × ((List Int) × (Int × Unit))))) × Int × (List Int) × (List Int) × (List Int) × Unit) → Option ((List Int) × Unit) := fun (l_1, parent_2, peak_3, keep_4, out_5, _) =>
  (d_sparseref22q_sorted (l_1, parent_2, peak_3, keep_4, ())).bind fun (r6, _) =>
  (loop (σ := (Int × (List Int) × (List Int) × Unit)) (ρ := ((List Int) × Unit)) (fun (k_7, out_8, c_9, _) =>
  (bif (decide (k_7 < (((c_9).length : Nat) : Int))) then (
  (idxN (c_9).length k_7).bind fun k10 =>
  ((atO c_9 k10 fun e11 => some e11)).bind fun y12 =>
  (f_ (l_1, y12, peak_3, keep_4, out_8, ())).bind fun (r13, _) =>
  (idxN (c_9).length k_7).bind fun k14 =>
  ((atO c_9 k14 fun e15 => some e15)).bind fun y16 =>
  (limO ((r13).length + ([y16]).length)).bind fun _ =>
  some (.inl ((IntKind.i64.wrap (k_7 + ((1) : Int))), (r13 ++ [y16]), c_9, ()))) else (
  some (.inr (out_8, ()))))) (((0) : Int), out_5, r6, ())).bind fun (out_17, _) =>
  some (out_17, ())
noncomputable def r_sparseref22q_list : Nat → ((List (Int × (Int × ((List Int) × (Int × Unit))))) × Int × (List Int) × (List Int) × (List Int) × Unit) → Option ((List Int) × Unit) := deep r_sparseref22q_listq_s
noncomputable def d_sparseref22q_list : ((List (Int × (Int × ((List Int) × (Int × Unit))))) × Int × (List Int) × (List Int) × (List Int) × Unit) → Option ((List Int) × Unit) := fixO r_sparseref22q_list
noncomputable def d_sparseref22q_Best : ((List (Int × (Int × ((List Int) × (Int × Unit))))) × Unit) → Option (((List Int) × ((List Int) × ((List Int) × Unit))) × Int × Unit) := fun (l_1, _) =>
  (d_sparseref22q_Proper (l_1, ())).bind fun (r38, _) =>
  (bif (!r38) then (
  some ((([] : (List Int)), (([] : (List Int)), (([] : (List Int)), ()))), ((211) : Int), ())) else (
  (d_sparseref22q_Sizes (l_1, ())).bind fun (r39, r40, _) =>
  (madeO (((l_1).length : Nat) : Int) (((l_1).length : Nat) : Int)).bind fun n41 =>
  (loop (σ := (Int × ((List Int) × ((List Int) × ((List Int) × Unit))) × (List Int) × Unit)) (ρ := (((List Int) × ((List Int) × ((List Int) × Unit))) × (List Int) × Unit)) (fun (f_42, s_43, peak_44, _) =>
  (bif (decide (f_42 < (((l_1).length : Nat) : Int))) then (
  (d_sparseref22q_sorted (l_1, f_42, peak_44, r40, ())).bind fun (r45, _) =>
  (loop (σ := (Int × Int × ((List Int) × ((List Int) × ((List Int) × Unit))) × (List Int) × Unit)) (ρ := (Int × ((List Int) × ((List Int) × ((List Int) × Unit))) × (List Int) × Unit)) (fun (held_46, k_47, s_48, peak_49, _) =>
  (bif (decide (k_47 < (((r45).length : Nat) : Int))) then (
  (idxN (peak_49).length f_42).bind fun k50 =>
  ((atO peak_49 k50 fun e51 => some e51)).bind fun y52 =>
  (getI r45 k_47).bind fun y53 =>
  (idxN (peak_49).length y53).bind fun k54 =>
  ((atO peak_49 k54 fun e55 => some e55)).bind fun y56 =>
  (idxN (peak_49).length f_42).bind fun k57 =>
  ((atO peak_49 k57 fun _ => some ((peak_49).set k57 (if (IntKind.i64.wrap (held_46 + y56)) > y52 then (IntKind.i64.wrap (held_46 + y56)) else y52)))).bind fun z59 =>
  (getI r45 k_47).bind fun y60 =>
  (getI r40 y60).bind fun y61 =>
  some (.inl ((IntKind.i64.wrap (held_46 + y61)), (IntKind.i64.wrap (k_47 + ((1) : Int))), s_48, z59, ()))) else (
  some (.inr (held_46, s_48, peak_49, ()))))) (((0) : Int), ((0) : Int), s_43, peak_44, ())).bind fun (held_62, s_63, peak_64, _) =>
  (idxN (peak_64).length f_42).bind fun k65 =>
  ((atO peak_64 k65 fun e66 => some e66)).bind fun y67 =>
  (getI r39 f_42).bind fun y68 =>
  (idxN (peak_64).length f_42).bind fun k69 =>
  ((atO peak_64 k69 fun _ => some ((peak_64).set k69 (if (IntKind.i64.wrap (held_62 + y68)) > y67 then (IntKind.i64.wrap (held_62 + y68)) else y67)))).bind fun z71 =>
  some (.inl ((IntKind.i64.wrap (f_42 + ((1) : Int))), s_63, z71, ()))) else (
  some (.inr (s_43, peak_44, ()))))) (((0) : Int), ([], ([], ([], ()))), (List.replicate n41 (0 : Int)), ())).bind fun (_, peak_73, _) =>
  (d_sparseref22q_list (l_1, (-1 : Int), peak_73, r40, [], ())).bind fun (r74, _) =>
  some ((r74, (([] : (List Int)), (peak_73, (r40, ()))).2), ((0) : Int), ())))
noncomputable def d_sparselaw22q_same : (((List Int) × ((List Int) × ((List Int) × Unit))) × ((List Int) × ((List Int) × ((List Int) × Unit))) × Unit) → Option (Bool × Unit) := fun (a_1, b_2, _) =>
  (d_sparsekit_Ints (a_1.1, b_2.1, ())).bind fun (r3, _) =>
  (bif (r3 == true) then ((d_sparsekit_Ints (a_1.2.1, b_2.2.1, ())).bind fun (r4, _) =>
  (bif (r4 == true) then ((d_sparsekit_Ints (a_1.2.2.1, b_2.2.2.1, ())).bind fun (r5, _) =>
  some (r5, ())) else (some (false, ())))) else (some (false, ())))
noncomputable def d_sparselaw22q_MemoryPeaks : (Int × (List Int) × (List Int) × Unit) → Option (Bool × Unit) := fun (n_1, l_2, sizes_3, _) =>
  (d_sparsekit_Place (n_1, ((11) : Int), ())).bind fun (r4, _) =>
  Option.bind (α := Unit ⊕ (Bool × Unit)) (
  Option.bind (α := (Bool × Unit)) (
  (bif ((decide ((((l_2).length : Nat) : Int) > ((40) : Int))) == false) then (some ((decide ((((sizes_3).length : Nat) : Int) > ((40) : Int))), ())) else (some (true, ())))) fun (s_5, _) =>
  (bif s_5 then (
  (d_sparselaw22q_awake ()).bind fun (r6, _) =>
  some (.inr (r6, ()))) else (
  some (.inl ())))) fun q => match q with
  | .inl _ => (
  (d_sparselaw22q_forest (r4, l_2, sizes_3, ())).bind fun (r7, _) =>
  (d_memory_Best (r7, ())).bind fun (r8, r9, _) =>
  (d_memory_Simulate (r7, r8.1, ())).bind fun (r10, r11, _) =>
  Option.bind (α := (((List Int) × ((List Int) × ((List Int) × Unit))) × Unit) ⊕ (Bool × Unit)) (
  (bif ((r9 != ((0) : Int)) == false) then ((bif ((r11 != ((0) : Int)) == false) then ((d_sparsekit_Perm (r8.1, r4, ())).bind fun (r12, _) =>
  (bif ((!r12) == false) then ((bif (((((r8.2.1).length : Nat) : Int) != r4) == false) then ((bif ((((r8.2.2.1).length : Nat) : Int) != r4) then (
  some (.inr (false, ()))) else (
  some (.inl (r8, ()))))) else (some (.inr (false, ()))))) else (some (.inr (false, ()))))) else (some (.inr (false, ()))))) else (some (.inr (false, ()))))) fun q => match q with
  | .inl (p_13, _) => (
  (loop (σ := (Int × Int × Int × ((List Int) × ((List Int) × ((List Int) × Unit))) × Unit)) (ρ := (Int × Unit)) (fun (held_14, most_15, k_16, p_17, _) =>
  (bif (decide (k_16 < r4)) then (
  Option.bind (α := (Int × Int × ((List Int) × ((List Int) × ((List Int) × Unit))) × Unit)) (
  (getI p_17.1 k_16).bind fun y18 =>
  (getI r7 y18).bind fun y19 =>
  (bif (y19.2.2.2.1 == (-1 : Int)) then (
  (getI p_17.2.1 y18).bind fun y20 =>
  (getI p_17.2.2.1 y18).bind fun y21 =>
  some ((IntKind.i64.wrap (held_14 + y21)), (if (IntKind.i64.wrap (held_14 + y20)) > most_15 then (IntKind.i64.wrap (held_14 + y20)) else most_15), p_17, ())) else (
  some (held_14, most_15, p_17, ())))) fun (held_22, most_23, p_24, _) =>
  some (.inl (held_22, most_23, (IntKind.i64.wrap (k_16 + ((1) : Int))), p_24, ()))) else (
  some (.inr (most_15, ()))))) (((0) : Int), ((0) : Int), ((0) : Int), p_13, ())).bind fun (most_25, _) =>
  (bif ((r10 == most_25) == true) then ((d_sparselaw22q_awake ()).bind fun (r26, _) =>
  some (r26, ())) else (some (false, ()))))
  | .inr r => some r)
  | .inr r => some r
noncomputable def d_sparselaw22q_slim : ((List (Int × (Int × ((List Int) × (Int × Unit))))) × Int × Unit) → Option (Bool × Unit) := fun (l_1, most_2, _) =>
  (loop (σ := (Int × Unit)) (ρ := (Unit ⊕ (Bool × Unit))) (fun (i_3, _) =>
  (bif (decide (i_3 < (((l_1).length : Nat) : Int))) then (
  (getI l_1 i_3).bind fun y4 =>
  (bif (decide ((((y4.2.2.1).length : Nat) : Int) > ((20) : Int))) then (
  some (.inr (.inr (false, ())))) else (
  some (.inl ((IntKind.i64.wrap (i_3 + ((1) : Int))), ()))))) else (
  some (.inr (.inl ()))))) (((0) : Int), ())).bind fun q => match q with
  | .inl _ => (
  some ((decide ((((l_1).length : Nat) : Int) ≤ most_2)), ()))
  | .inr r => some r
noncomputable def d_memory_Sizes : ((List (Int × (Int × ((List Int) × (Int × Unit))))) × Unit) → Option ((List Int) × (List Int) × Int × Unit) := fun (l_1, _) =>
  (d_memory_proper (l_1, ())).bind fun (r8, _) =>
  (bif (!r8) then (
  some ([], [], ((211) : Int), ())) else (
  (d_memory_sizes (l_1, ())).bind fun (r9, r10, _) =>
  some (r9, r10, ((0) : Int), ())))
noncomputable def d_sparselaw22q_MemoryAny : ((List (Int × (Int × ((List Int) × (Int × Unit))))) × (List Int) × Unit) → Option (Bool × Unit) := fun (l_1, order_2, _) =>
  Option.bind (α := Unit ⊕ (Bool × Unit)) (
  Option.bind (α := (Bool × Unit)) (
  (d_sparselaw22q_slim (l_1, ((12) : Int), ())).bind fun (r3, _) =>
  (bif ((!r3) == false) then (some ((decide ((((order_2).length : Nat) : Int) > ((20) : Int))), ())) else (some (true, ())))) fun (s_4, _) =>
  (bif s_4 then (
  (d_sparselaw22q_awake ()).bind fun (r5, _) =>
  some (.inr (r5, ()))) else (
  some (.inl ())))) fun q => match q with
  | .inl _ => (
  (d_memory_Sizes (l_1, ())).bind fun (r6, r7, r8, _) =>
  (d_memory_Simulate (l_1, order_2, ())).bind fun (r9, r10, _) =>
  (d_sparseref22q_Simulate (l_1, order_2, ())).bind fun (r11, r12, _) =>
  (d_memory_Best (l_1, ())).bind fun (r13, r14, _) =>
  (d_sparseref22q_Best (l_1, ())).bind fun (r15, r16, _) =>
  Option.bind (α := Unit ⊕ (Bool × Unit)) (
  (bif ((r9 != r11) == false) then ((bif ((r10 != r12) == false) then ((bif ((r14 != r16) == false) then ((d_sparselaw22q_same (r13, r15, ())).bind fun (r17, _) =>
  (bif (!r17) then (
  some (.inr (false, ()))) else (
  some (.inl ())))) else (some (.inr (false, ()))))) else (some (.inr (false, ()))))) else (some (.inr (false, ()))))) fun q => match q with
  | .inl _ => (
  (d_sparseref22q_Proper (l_1, ())).bind fun (r18, _) =>
  (bif (!r18) then (
  (bif ((r8 == ((211) : Int)) == true) then ((bif (((((r6).length : Nat) : Int) == ((0) : Int)) == true) then ((bif (((((r7).length : Nat) : Int) == ((0) : Int)) == true) then ((d_sparselaw22q_awake ()).bind fun (r19, _) =>
  some (r19, ())) else (some (false, ())))) else (some (false, ())))) else (some (false, ())))) else (
  (d_sparseref22q_Sizes (l_1, ())).bind fun (r20, r21, _) =>
  (bif ((r8 == ((0) : Int)) == true) then ((d_sparsekit_Ints (r6, r20, ())).bind fun (r22, _) =>
  (bif (r22 == true) then ((d_sparsekit_Ints (r7, r21, ())).bind fun (r23, _) =>
  (bif (r23 == true) then ((d_sparselaw22q_awake ()).bind fun (r24, _) =>
  some (r24, ())) else (some (false, ())))) else (some (false, ())))) else (some (false, ()))))))
  | .inr r => some r)
  | .inr r => some r
noncomputable def d_sparselaw22q_MemoryFactor : (Int × (List Int) × Int × Unit) → Option (Bool × Unit) := fun (n_1, l_2, zeros_3, _) =>
  (bif (decide ((((l_2).length : Nat) : Int) > ((80) : Int))) then (
  (d_sparselaw22q_awake ()).bind fun (r4, _) =>
  some (r4, ())) else (
  (d_sparsekit_Place (n_1, ((13) : Int), ())).bind fun (r5, _) =>
  (d_sparsemake_Post (r5, l_2, ())).bind fun (r6, _) =>
  (d_supernode_Fundamental (r6, ())).bind fun (r7, r8, _) =>
  (d_sparsekit_Place (zeros_3, ((12) : Int), ())).bind fun (r9, _) =>
  (d_supernode_Relax (r6, r7, r9, ())).bind fun (r10, r11, _) =>
  (d_supernode_Fronts (r6, r10, ())).bind fun (r12, r13, _) =>
  (d_memory_Sizes (r12, ())).bind fun (r14, r15, r16, _) =>
  (d_memory_Best (r12, ())).bind fun (r17, r18, _) =>
  Option.bind (α := (((List Int) × ((List Int) × ((List Int) × Unit))) × Unit) ⊕ (Bool × Unit)) (
  (bif ((r8 != ((0) : Int)) == false) then ((bif ((r11 != ((0) : Int)) == false) then ((bif ((r13 != ((0) : Int)) == false) then ((bif ((r16 != ((0) : Int)) == false) then ((bif ((r18 != ((0) : Int)) == false) then ((bif (((((r14).length : Nat) : Int) != (((r12).length : Nat) : Int)) == false) then ((bif ((((r15).length : Nat) : Int) != (((r12).length : Nat) : Int)) then (
  some (.inr (false, ()))) else (
  some (.inl (r17, ()))))) else (some (.inr (false, ()))))) else (some (.inr (false, ()))))) else (some (.inr (false, ()))))) else (some (.inr (false, ()))))) else (some (.inr (false, ()))))) else (some (.inr (false, ()))))) fun q => match q with
  | .inl (p_19, _) => (
  (loop (σ := (Int × Int × ((List Int) × ((List Int) × ((List Int) × Unit))) × Unit)) (ρ := ((Int × ((List Int) × ((List Int) × ((List Int) × Unit))) × Unit) ⊕ (Bool × Unit))) (fun (cols_20, k_21, p_22, _) =>
  (bif (decide (k_21 < (((r12).length : Nat) : Int))) then (
  (getI r12 k_21).bind fun y23 =>
  (getI r12 k_21).bind fun y24 =>
  (getI r14 k_21).bind fun y25 =>
  (getI r15 k_21).bind fun y26 =>
  (getI r12 k_21).bind fun y27 =>
  (quoO IntKind.i64 (IntKind.i64.wrap ((IntKind.i64.wrap (y23.2.1 - y24.1)) * (IntKind.i64.wrap ((IntKind.i64.wrap (y23.2.1 - y24.1)) - ((1) : Int))))) ((2) : Int)).bind fun y28 =>
  (bif ((IntKind.i64.wrap (y25 - y26)) != (IntKind.i64.wrap ((IntKind.i64.wrap ((IntKind.i64.wrap (y23.2.1 - y24.1)) * (((y27.2.2.1).length : Nat) : Int))) - y28))) then (
  some (.inr (.inr (false, ())))) else (
  some (.inl ((IntKind.i64.wrap (cols_20 + (IntKind.i64.wrap (y23.2.1 - y24.1)))), (IntKind.i64.wrap (k_21 + ((1) : Int))), p_22, ()))))) else (
  some (.inr (.inl (cols_20, p_22, ())))))) (((0) : Int), ((0) : Int), p_19, ())).bind fun q => match q with
  | .inl (cols_29, p_30, _) => (
  (bif ((cols_29 == r5) == true) then ((d_sparsekit_Perm (p_30.1, (((r12).length : Nat) : Int), ())).bind fun (r31, _) =>
  (bif (r31 == true) then ((d_sparselaw22q_awake ()).bind fun (r32, _) =>
  some (r32, ())) else (some (false, ())))) else (some (false, ()))))
  | .inr r => some r)
  | .inr r => some r))
end Go.Fw
end

section
namespace Go.Fw
open Go.Proofs
def tt : List (Nat × Ty) := [(3, (.int .i64)), (4, .bool), (5, (.int .u8)), (9, .str), (22, (.slc .imm (.int .i64))), (25, (.slc .imm (.st (.pr (.int .i64) (.pr (.int .i64) (.pr (.slc .imm (.int .i64)) (.pr (.int .i64) .nil))))))), (32, (.st (.pr (.slc .imm (.int .i64)) (.pr (.slc .imm (.int .i64)) (.pr (.slc .imm (.int .i64)) .nil))))), (39, (.st (.pr (.int .i64) (.pr (.int .i64) (.pr (.slc .imm (.int .i64)) (.pr (.int .i64) .nil)))))), (51, (.slc .imm (.slc .imm (.int .i64)))), (53, (.st (.pr (.slc .imm (.slc .imm (.int .i64))) .nil))), (61, (.int .u64)), (72, (.slc .imm .bool)), (74, (.int .u64)), (79, (.st (.pr (.slc .imm (.int .i64)) (.pr (.slc .imm (.int .i64)) (.pr (.slc .imm (.slc .imm (.int .i64))) .nil))))), (88, (.slc .imm (.slc .imm .bool))), (107, (.int .u32)), (111, (.st (.pr (.slc .imm (.slc .imm .bool)) (.pr (.slc .imm .bool) .nil)))), (117, (.st (.pr (.slc .imm (.int .i64)) (.pr (.slc .imm (.int .i64)) .nil)))), (119, (.int .u64))]
noncomputable def E : Env := ⟨Try.prog, tt, tt_ok (by kernel_rfl), by kernel_rfl⟩
noncomputable def F10 : Fun := ⟨10, [.v (.int .i64), .v (.int .i64)], [(.int .i64)], d_sparsekit_Place⟩
theorem ok10 : OkFun E F10 :=
  OkFun.of (fn := Try.f10) (rs := [.tmp 4]) ([]) [] [] (.keep [0, 1] (.two .none (.leaf) (.two .none (.leaf) (.leaf)))) Try.func10 (by kernel_rfl) (by kernel_rfl) (by kernel_rfl) Try.call10 tbl_nil (by intro a; kernel_rfl)
noncomputable def F34 : Fun := ⟨34, [.v (.slc .bor (.st (.pr (.int .i64) (.pr (.int .i64) (.pr (.slc .bor (.int .i64)) (.pr (.int .i64) .nil))))))], [.bool], d_memory_proper⟩
theorem ok34 : OkFun E F34 :=
  OkFun.of (fn := Try.f34) (rs := [.tmp 2]) ([]) [(4, (.st (.pr (.int .i64) (.pr (.int .i64) (.pr (.slc .bor (.int .i64)) (.pr (.int .i64) .nil))))))] [] (.keep [0] (.two .none (.leaf) (.two .none (.two .none (.leaf) (.two .none (.two .none (.leaf) (.leaf)) (.leaf))) (.two .none (.two .none (.leaf) (.one (.keep [10, 11] (.loop ⟨[(12, .v (.int .i64))], []⟩ (.xr 0 ⟨[], []⟩) (.two .none (.leaf) (.two .none (.two .none (.leaf) (.leaf)) (.two (.xr [12] ⟨[], []⟩) (.one (.two .none (.leaf) (.two .none (.leaf) (.two .none (.leaf) (.two (.xr [3] ⟨[(4, .s (.ref 4 []))], [(4, (.optr (.st (.pr (.int .i64) (.pr (.int .i64) (.pr (.slc .bor (.int .i64)) (.pr (.int .i64) .nil)))))))]⟩) (.two .none (.leaf) (.two .none (.two .none (.leaf) (.leaf)) (.leaf))) (.two .none (.leaf) (.two .none (.two .none (.leaf) (.leaf)) (.leaf)))))))) (.leaf)))))))) (.two .none (.leaf) (.leaf)))))) Try.func34 (by kernel_rfl) (by kernel_rfl) (by kernel_rfl) Try.call34 tbl_nil (by intro a; kernel_rfl)
noncomputable def F58 : Fun := ⟨58, [.v (.int .i64)], [(.int .i64)], d_memory_triangle⟩
theorem ok58 : OkFun E F58 :=
  OkFun.of (fn := Try.f58) (rs := [.tmp 2]) ([]) [] [] (.keep [0] (.two .none (.leaf) (.two .none (.leaf) (.leaf)))) Try.func58 (by kernel_rfl) (by kernel_rfl) (by kernel_rfl) Try.call58 tbl_nil (by intro a; kernel_rfl)
noncomputable def F37 : Fun := ⟨37, [.v (.slc .bor (.st (.pr (.int .i64) (.pr (.int .i64) (.pr (.slc .bor (.int .i64)) (.pr (.int .i64) .nil))))))], [(.osl (.int .i64)), (.osl (.int .i64))], d_memory_sizes⟩
theorem ok37 : OkFun E F37 :=
  OkFun.of (fn := Try.f37) (rs := [.tmp 2, .tmp 3]) ((58, F58) :: []) [(2, (.osl (.int .i64))), (3, (.osl (.int .i64))), (5, (.st (.pr (.int .i64) (.pr (.int .i64) (.pr (.slc .bor (.int .i64)) (.pr (.int .i64) .nil))))))] [] (.keep [0] (.two .none (.leaf) (.two .none (.two .none (.leaf) (.one (.keep [7, 8] (.loop ⟨[(2, .s (.ref 2 [])), (3, .s (.ref 3 [])), (9, .v (.int .i64))], [(2, (.osl (.int .i64))), (3, (.osl (.int .i64)))]⟩ (.x 0 ⟨[(2, .s (.ref 2 [])), (3, .s (.ref 3 []))], [(2, (.osl (.int .i64))), (3, (.osl (.int .i64)))]⟩) (.two .none (.leaf) (.two .none (.two .none (.leaf) (.leaf)) (.two .none (.one (.two .none (.leaf) (.two .none (.leaf) (.two .none (.leaf) (.leaf))))) (.leaf)))))))) (.two .none (.leaf) (.leaf))))) Try.func37 (by kernel_rfl) (by kernel_rfl) (by kernel_rfl) Try.call37 (tbl_cons ok58 tbl_nil) (by intro a; kernel_rfl)
noncomputable def F38 : Fun := ⟨38, [.v (.slc .bor (.st (.pr (.int .i64) (.pr (.int .i64) (.pr (.slc .bor (.int .i64)) (.pr (.int .i64) .nil))))))], [(.osl (.osl (.int .i64))), (.osl (.int .i64))], d_memory_children⟩
theorem ok38 : OkFun E F38 :=
  OkFun.of (fn := Try.f38) (rs := [.tmp 2, .tmp 3]) ([]) [(8, (.osl (.osl (.int .i64)))), (3, (.osl (.int .i64))), (5, (.st (.pr (.int .i64) (.pr (.int .i64) (.pr (.slc .bor (.int .i64)) (.pr (.int .i64) .nil))))))] [] (.keep [0] (.two .none (.leaf) (.two .none (.leaf) (.two .none (.two .none (.leaf) (.one (.keep [9, 10] (.loop ⟨[(2, .s (.ref 2 [])), (3, .s (.ref 3 [])), (11, .v (.int .i64))], [(2, (.osl (.osl (.int .i64)))), (3, (.osl (.int .i64)))]⟩ (.x 0 ⟨[(2, .s (.ref 2 [])), (3, .s (.ref 3 []))], [(2, (.osl (.osl (.int .i64)))), (3, (.osl (.int .i64)))]⟩) (.two .none (.leaf) (.two .none (.two .none (.leaf) (.leaf)) (.two (.x [11] ⟨[(2, .s (.ref 2 [])), (3, .s (.ref 3 []))], [(2, (.osl (.osl (.int .i64)))), (3, (.osl (.int .i64)))]⟩) (.one (.two .none (.leaf) (.two .none (.two .none (.leaf) (.two .none (.two .none (.leaf) (.leaf)) (.leaf))) (.draw [⟨0, [23], [2], [], [500002], []⟩, ⟨1, [24], [5], [], [5], []⟩, ⟨2, [25], [24], [1], [5], []⟩, ⟨3, [26], [2], [], [500002], []⟩, ⟨4, [27], [5], [], [5], []⟩, ⟨5, [28], [27], [4], [5], []⟩, ⟨6, [29], [26, 28], [3, 5], [2], []⟩, ⟨7, [30], [29], [6], [2], []⟩, ⟨8, [31], [4], [], [], []⟩, ⟨9, [32], [31], [8], [32], [32]⟩, ⟨10, [33], [30, 32], [7, 9], [2, 32, 33], [2, 33]⟩, ⟨11, [34], [23, 25], [0, 2, 0, 1, 2, 3, 4, 5, 6, 7, 8, 9, 10], [2], []⟩, ⟨12, [], [34, 33], [11, 10, 10, 0, 1, 2, 3, 4, 5, 6, 7, 8, 9, 10], [2, 33], [2, 33, 500033]⟩])))) (.leaf)))))))) (.two .none (.leaf) (.leaf)))))) Try.func38 (by kernel_rfl) (by kernel_rfl) (by kernel_rfl) Try.call38 tbl_nil (by intro a; kernel_rfl)
noncomputable def F61 : Fun := ⟨61, [.v (.int .i64)], [.bool], d_cmp_isNaN_int⟩
theorem ok61 : OkFun E F61 :=
  OkFun.of (fn := Try.f61) (rs := [.tmp 2]) ([]) [] [] (.keep [0] (.two .none (.leaf) (.two .none (.leaf) (.leaf)))) Try.func61 (by kernel_rfl) (by kernel_rfl) (by kernel_rfl) Try.call61 tbl_nil (by intro a; kernel_rfl)
noncomputable def F43 : Fun := ⟨43, [.v (.int .i64), .v (.int .i64)], [(.int .i64)], d_cmp_Compare_int⟩
theorem ok43 : OkFun E F43 :=
  OkFun.of (fn := Try.f43) (rs := [.tmp 4]) ((61, F61) :: []) [] [] (.keep [0, 1] (.two .none (.leaf) (.two .none (.leaf) (.two .none (.leaf) (.two .none (.two .none (.leaf) (.two .none (.two .none (.two .none (.leaf) (.two .none (.two .none (.leaf) (.leaf)) (.leaf))) (.two .none (.leaf) (.leaf))) (.leaf))) (.two .none (.two .none (.leaf) (.two .none (.two .none (.leaf) (.leaf)) (.leaf))) (.two .none (.two .none (.leaf) (.two .none (.two .none (.leaf) (.leaf)) (.leaf))) (.two .none (.two .none (.leaf) (.two .none (.two .none (.leaf) (.leaf)) (.leaf))) (.two .none (.leaf) (.leaf)))))))))) Try.func43 (by kernel_rfl) (by kernel_rfl) (by kernel_rfl) Try.call43 (tbl_cons ok61 tbl_nil) (by intro a; kernel_rfl)
noncomputable def F42 : Fun := ⟨42, [.v (.slc .bor (.int .i64))], [(.int .i64)], d_cmp_Or_int⟩
theorem ok42 : OkFun E F42 :=
  OkFun.of (fn := Try.f42) (rs := [.tmp 2]) ([]) [] [] (.keep [0] (.two .none (.leaf) (.two .none (.leaf) (.two .none (.two .none (.leaf) (.one (.keep [3, 6, 7] (.loop ⟨[(8, .v (.int .i64))], []⟩ (.xr 0 ⟨[], []⟩) (.two .none (.leaf) (.two .none (.two .none (.leaf) (.leaf)) (.two .none (.one (.two .none (.leaf) (.two .none (.leaf) (.two .none (.two .none (.leaf) (.leaf)) (.leaf))))) (.leaf)))))))) (.two .none (.leaf) (.leaf)))))) Try.func42 (by kernel_rfl) (by kernel_rfl) (by kernel_rfl) Try.call42 tbl_nil (by intro a; kernel_rfl)
noncomputable def F83 : Fun := ⟨83, [.v (.int .u64)], [(.int .i64)], d_math_bits_Len64⟩
theorem ok83 : OkFun E F83 :=
  OkFun.of (fn := Try.f83) (rs := [.tmp 2]) ([]) [] [] (.two .none (.leaf) (.two (.x [] ⟨[(0, .v (.int .u64)), (2, .v (.int .i64))], []⟩) (.two .none (.leaf) (.two .none (.two .none (.leaf) (.leaf)) (.leaf))) (.two (.x [] ⟨[(0, .v (.int .u64)), (2, .v (.int .i64))], []⟩) (.two .none (.leaf) (.two .none (.two .none (.leaf) (.leaf)) (.leaf))) (.two (.x [] ⟨[(0, .v (.int .u64)), (2, .v (.int .i64))], []⟩) (.two .none (.leaf) (.two .none (.two .none (.leaf) (.leaf)) (.leaf))) (.two .none (.leaf) (.leaf)))))) Try.func83 (by kernel_rfl) (by kernel_rfl) (by kernel_rfl) Try.call83 tbl_nil (by intro a; kernel_rfl)
noncomputable def F60 : Fun := ⟨60, [.v (.int .u64)], [(.int .i64)], d_math_bits_Len⟩
theorem ok60 : OkFun E F60 :=
  OkFun.of (fn := Try.f60) (rs := [.tmp 2]) ((83, F83) :: []) [] [] (.keep [0] (.two .none (.leaf) (.two .none (.two .none (.two .none (.leaf) (.leaf)) (.leaf)) (.two .none (.leaf) (.leaf))))) Try.func60 (by kernel_rfl) (by kernel_rfl) (by kernel_rfl) Try.call60 (tbl_cons ok83 tbl_nil) (by intro a; kernel_rfl)
noncomputable def F96 : Fun := ⟨96, [.v (.int .i64)], [(.int .u64)], d_slices_nextPowerOfTwo⟩
theorem ok96 : OkFun E F96 :=
  OkFun.of (fn := Try.f96) (rs := [.tmp 2]) ((60, F60) :: []) [] [] (.keep [0] (.two .none (.leaf) (.two .none (.leaf) (.leaf)))) Try.func96 (by kernel_rfl) (by kernel_rfl) (by kernel_rfl) Try.call96 (tbl_cons ok60 tbl_nil) (by intro a; kernel_rfl)
noncomputable def F97 : Fun := ⟨97, [.m (.optr (.int .u64))], [(.int .u64)], d_slices_xorshift_Next⟩
theorem ok97 : OkFun E F97 :=
  OkFun.of (fn := Try.f97) (rs := [.tmp 2]) ([]) [] [] (.two .none (.leaf) (.two .none (.draw [⟨0, [3], [0], [], [500000], []⟩, ⟨1, [4], [3], [0], [0], []⟩, ⟨2, [5], [4], [1], [0], []⟩, ⟨3, [6], [0], [], [500000], []⟩, ⟨4, [7], [6], [3], [0], []⟩, ⟨5, [8], [7], [4], [0], []⟩, ⟨6, [9], [8], [5], [], []⟩, ⟨7, [10], [5, 9], [2, 6], [], []⟩, ⟨8, [11], [3], [0, 0, 1, 2, 3, 4, 5, 6, 7], [0], []⟩, ⟨9, [], [11, 10], [8, 7, 0, 1, 2, 3, 4, 5, 6, 7], [0], [0]⟩]) (.two .none (.draw [⟨0, [12], [0], [], [500000], []⟩, ⟨1, [13], [12], [0], [0], []⟩, ⟨2, [14], [13], [1], [0], []⟩, ⟨3, [15], [0], [], [500000], []⟩, ⟨4, [16], [15], [3], [0], []⟩, ⟨5, [17], [16], [4], [0], []⟩, ⟨6, [18], [17], [5], [], []⟩, ⟨7, [19], [14, 18], [2, 6], [], []⟩, ⟨8, [20], [12], [0, 0, 1, 2, 3, 4, 5, 6, 7], [0], []⟩, ⟨9, [], [20, 19], [8, 7, 0, 1, 2, 3, 4, 5, 6, 7], [0], [0]⟩]) (.two .none (.draw [⟨0, [21], [0], [], [500000], []⟩, ⟨1, [22], [21], [0], [0], []⟩, ⟨2, [23], [22], [1], [0], []⟩, ⟨3, [24], [0], [], [500000], []⟩, ⟨4, [25], [24], [3], [0], []⟩, ⟨5, [26], [25], [4], [0], []⟩, ⟨6, [27], [26], [5], [], []⟩, ⟨7, [28], [23, 27], [2, 6], [], []⟩, ⟨8, [29], [21], [0, 0, 1, 2, 3, 4, 5, 6, 7], [0], []⟩, ⟨9, [], [29, 28], [8, 7, 0, 1, 2, 3, 4, 5, 6, 7], [0], [0]⟩]) (.two .none (.leaf) (.leaf)))))) Try.func97 (by kernel_rfl) (by kernel_rfl) (by kernel_rfl) Try.call97 tbl_nil (by intro a; kernel_rfl)
noncomputable def F41x0 : Fun := ⟨41, [.v (.int .i64), .v (.int .i64), .v (.ptr .bor (.slc .bor (.int .i64))), .v (.ptr .bor (.slc .bor (.int .i64)))], [(.int .i64)], d_memory_Best_1q_1q_q0⟩
theorem ok41x0 : OkFun E F41x0 :=
  OkFun.of (fn := Try.f41) (rs := [.tmp 6]) ((43, F43) :: (42, F42) :: []) [] [] (.keep [0, 1, 2, 3] (.two .none (.leaf) (.two .none (.draw [⟨0, [7], [2], [], [], []⟩, ⟨1, [8], [1], [], [], []⟩, ⟨2, [9], [7, 8], [0, 1], [], []⟩, ⟨3, [10], [9], [2], [], []⟩, ⟨4, [11], [3], [], [], []⟩, ⟨5, [12], [1], [], [], []⟩, ⟨6, [13], [11, 12], [4, 5], [], []⟩, ⟨7, [14], [13], [6], [], []⟩, ⟨8, [15], [10, 14], [3, 7], [], []⟩, ⟨9, [16], [2], [], [], []⟩, ⟨10, [17], [0], [], [], []⟩, ⟨11, [18], [16, 17], [9, 10], [], []⟩, ⟨12, [19], [18], [11], [], []⟩, ⟨13, [20], [3], [], [], []⟩, ⟨14, [21], [0], [], [], []⟩, ⟨15, [22], [20, 21], [13, 14], [], []⟩, ⟨16, [23], [22], [15], [], []⟩, ⟨17, [24], [19, 23], [12, 16], [], []⟩, ⟨18, [25], [15, 24], [8, 17], [], []⟩, ⟨19, [26], [0], [], [], []⟩, ⟨20, [27], [1], [], [], []⟩, ⟨21, [28], [26, 27], [19, 20, 18], [], []⟩, ⟨22, [29], [25, 28], [18, 21], [29], [29]⟩, ⟨23, [30], [29], [22, 21], [29], []⟩, ⟨24, [6], [30], [23, 23, 0, 1, 2, 3, 4, 5, 6, 7, 8, 9, 10, 11, 12, 13, 14, 15, 16, 17, 18, 19, 20, 21, 22, 23], [], []⟩]) (.leaf)))) Try.func41 (by kernel_rfl) (by kernel_rfl) (by kernel_rfl) Try.call41 (tbl_cons ok43 (tbl_cons ok42 tbl_nil)) (by intro a; kernel_rfl)
noncomputable def F74x0 : Fun := ⟨74, [.m (.osl (.int .i64)), .v (.int .i64), .v (.int .i64), .c 41 [(.ptr .bor (.slc .bor (.int .i64))), (.ptr .bor (.slc .bor (.int .i64)))]], [], d_slices_insertionSortCmpFunc_int_mem⟩
theorem ok74x0 : OkFun E F74x0 :=
  OkFun.of (fn := Try.f74) (rs := []) ((41, F41x0) :: []) [] [] (.keep [1, 2, 3] (.two .none (.leaf) (.one (.loop ⟨[(0, .s (.ref 0 [])), (8, .v (.int .i64))], [(0, (.osl (.int .i64)))]⟩ (.x 0 ⟨[(0, .s (.ref 0 []))], [(0, (.osl (.int .i64)))]⟩) (.two .none (.two .none (.leaf) (.two .none (.leaf) (.leaf))) (.two .none (.one (.two .none (.leaf) (.one (.keep [8] (.loop ⟨[(0, .s (.ref 0 [])), (9, .v (.int .i64))], [(0, (.osl (.int .i64)))]⟩ (.x 2 ⟨[(0, .s (.ref 0 []))], [(0, (.osl (.int .i64)))]⟩) (.two (.xr [9] ⟨[(0, .s (.ref 0 []))], [(0, (.osl (.int .i64)))]⟩) (.two .none (.draw [⟨0, [18], [9], [], [], []⟩, ⟨1, [19], [1], [], [], []⟩, ⟨2, [20], [18, 19], [0, 1], [], []⟩, ⟨3, [21], [20], [2], [], []⟩, ⟨4, [22], [3, 21], [3], [], []⟩, ⟨5, [23], [0, 21], [3], [500000], []⟩, ⟨6, [24], [9, 21], [3], [], []⟩, ⟨7, [25], [23, 24, 21], [5, 6, 3], [0], []⟩, ⟨8, [26], [25, 21], [7, 3], [0], []⟩, ⟨9, [27], [0, 21], [3], [500000], []⟩, ⟨10, [28], [9, 21], [3], [], []⟩, ⟨11, [29], [28, 21], [10, 3], [], []⟩, ⟨12, [30], [27, 29, 21], [9, 11, 3], [0], []⟩, ⟨13, [31], [30, 21], [12, 3], [0], []⟩, ⟨14, [32], [22, 26, 31, 21], [4, 8, 13, 3, 3], [], []⟩, ⟨15, [33], [32, 21], [14, 3], [], []⟩, ⟨16, [34], [21, 33], [3, 15], [], []⟩]) (.two .none (.leaf) (.leaf))) (.two .none (.one (.draw [⟨0, [37], [0], [], [500000], []⟩, ⟨1, [38], [9], [], [], []⟩, ⟨2, [39], [0], [], [500000], []⟩, ⟨3, [40], [9], [], [], []⟩, ⟨4, [41], [40], [3], [], []⟩, ⟨5, [42], [0], [], [500000], []⟩, ⟨6, [43], [9], [], [], []⟩, ⟨7, [44], [43], [6], [], []⟩, ⟨8, [45], [42, 44], [5, 7], [0], []⟩, ⟨9, [46], [45], [8], [0], []⟩, ⟨10, [47], [0], [], [500000], []⟩, ⟨11, [48], [9], [], [], []⟩, ⟨12, [49], [47, 48], [10, 11], [0], []⟩, ⟨13, [50], [49], [12], [0], []⟩, ⟨14, [51], [37, 38], [0, 1, 0, 1, 5, 6, 7, 8, 9, 13], [0], []⟩, ⟨15, [], [51, 46], [14, 9, 0, 1, 5, 6, 7, 8, 9, 13], [0], [0]⟩, ⟨16, [52], [39, 41], [2, 4, 0, 1, 2, 3, 4, 5, 6, 7, 8, 9, 10, 11, 12, 13, 14, 15], [0], []⟩, ⟨17, [], [52, 50], [16, 13, 15, 0, 1, 2, 3, 4, 5, 6, 7, 8, 9, 10, 11, 12, 13, 14, 15], [0], [0]⟩])) (.leaf)))))))) (.leaf))))))) Try.func74 (by kernel_rfl) (by kernel_rfl) (by kernel_rfl) Try.call74 (tbl_cons ok41x0 tbl_nil) (by intro a; kernel_rfl)
noncomputable def F95x0 : Fun := ⟨95, [.m (.osl (.int .i64)), .v (.int .i64), .v (.int .i64), .v (.int .i64), .c 41 [(.ptr .bor (.slc .bor (.int .i64))), (.ptr .bor (.slc .bor (.int .i64)))]], [], d_slices_siftDownCmpFunc_int_mem⟩
theorem ok95x0 : OkFun E F95x0 :=
  OkFun.of (fn := Try.f95) (rs := []) ((41, F41x0) :: []) [] [] (.keep [1, 2, 3, 4] (.two .none (.leaf) (.one (.loop ⟨[(0, .s (.ref 0 [])), (10, .v (.int .i64))], [(0, (.osl (.int .i64)))]⟩ (.xr 0 ⟨[(0, .s (.ref 0 []))], [(0, (.osl (.int .i64)))]⟩) (.one (.two .none (.leaf) (.two .none (.two .none (.leaf) (.two .none (.leaf) (.leaf))) (.two (.x [10] ⟨[(0, .s (.ref 0 [])), (11, .v (.int .i64))], [(0, (.osl (.int .i64)))]⟩) (.two (.x [11] ⟨[(0, .s (.ref 0 [])), (40, .v .bool)], [(0, (.osl (.int .i64)))]⟩) (.draw [⟨0, [19], [11], [], [], []⟩, ⟨1, [20], [19], [0], [], []⟩, ⟨2, [21], [2], [], [], []⟩, ⟨3, [22], [20, 21], [1, 2], [], []⟩, ⟨4, [23], [22], [3], [], []⟩, ⟨5, [24], [4, 23], [4], [], []⟩, ⟨6, [25], [0, 23], [4], [500000], []⟩, ⟨7, [26], [3, 23], [4], [], []⟩, ⟨8, [27], [11, 23], [4], [], []⟩, ⟨9, [28], [26, 27, 23], [7, 8, 4], [], []⟩, ⟨10, [29], [25, 28, 23], [6, 9, 4], [0], []⟩, ⟨11, [30], [29, 23], [10, 4], [0], []⟩, ⟨12, [31], [0, 23], [4], [500000], []⟩, ⟨13, [32], [3, 23], [4], [], []⟩, ⟨14, [33], [11, 23], [4], [], []⟩, ⟨15, [34], [32, 33, 23], [13, 14, 4], [], []⟩, ⟨16, [35], [34, 23], [15, 4], [], []⟩, ⟨17, [36], [31, 35, 23], [12, 16, 4], [0], []⟩, ⟨18, [37], [36, 23], [17, 4], [0], []⟩, ⟨19, [38], [24, 30, 37, 23], [5, 11, 18, 4, 4], [], []⟩, ⟨20, [39], [38, 23], [19, 4], [], []⟩, ⟨21, [40], [23, 39], [4, 20], [], []⟩]) (.two .none (.leaf) (.leaf))) (.two .none (.two .none (.draw [⟨0, [43], [4], [], [], []⟩, ⟨1, [44], [0], [], [500000], []⟩, ⟨2, [45], [3], [], [], []⟩, ⟨3, [46], [10], [], [], []⟩, ⟨4, [47], [45, 46], [2, 3], [], []⟩, ⟨5, [48], [44, 47], [1, 4], [0], []⟩, ⟨6, [49], [48], [5], [0], []⟩, ⟨7, [50], [0], [], [500000], []⟩, ⟨8, [51], [3], [], [], []⟩, ⟨9, [52], [11], [], [], []⟩, ⟨10, [53], [51, 52], [8, 9], [], []⟩, ⟨11, [54], [50, 53], [7, 10], [0], []⟩, ⟨12, [55], [54], [11], [0], []⟩, ⟨13, [56], [43, 49, 55], [0, 6, 12], [], []⟩, ⟨14, [57], [56], [13], [], []⟩, ⟨15, [58], [57], [14], [], []⟩]) (.two .none (.leaf) (.leaf))) (.two .none (.draw [⟨0, [59], [0], [], [500000], []⟩, ⟨1, [60], [3], [], [], []⟩, ⟨2, [61], [10], [], [], []⟩, ⟨3, [62], [60, 61], [1, 2], [], []⟩, ⟨4, [63], [0], [], [500000], []⟩, ⟨5, [64], [3], [], [], []⟩, ⟨6, [65], [11], [], [], []⟩, ⟨7, [66], [64, 65], [5, 6], [], []⟩, ⟨8, [67], [0], [], [500000], []⟩, ⟨9, [68], [3], [], [], []⟩, ⟨10, [69], [11], [], [], []⟩, ⟨11, [70], [68, 69], [9, 10], [], []⟩, ⟨12, [71], [67, 70], [8, 11], [0], []⟩, ⟨13, [72], [71], [12], [0], []⟩, ⟨14, [73], [0], [], [500000], []⟩, ⟨15, [74], [3], [], [], []⟩, ⟨16, [75], [10], [], [], []⟩, ⟨17, [76], [74, 75], [15, 16], [], []⟩, ⟨18, [77], [73, 76], [14, 17], [0], []⟩, ⟨19, [78], [77], [18], [0], []⟩, ⟨20, [79], [59, 62], [0, 3, 0, 1, 2, 3, 8, 9, 10, 11, 12, 13, 19], [0], []⟩, ⟨21, [], [79, 72], [20, 13, 0, 1, 2, 3, 8, 9, 10, 11, 12, 13, 19], [0], [0]⟩, ⟨22, [80], [63, 66], [4, 7, 0, 1, 2, 3, 4, 5, 6, 7, 8, 9, 10, 11, 12, 13, 14, 15, 16, 17, 18, 19, 20, 21], [0], []⟩, ⟨23, [], [80, 78], [22, 19, 21, 0, 1, 2, 3, 4, 5, 6, 7, 8, 9, 10, 11, 12, 13, 14, 15, 16, 17, 18, 19, 20, 21], [0], [0]⟩]) (.leaf))))))))))) Try.func95 (by kernel_rfl) (by kernel_rfl) (by kernel_rfl) Try.call95 (tbl_cons ok41x0 tbl_nil) (by intro a; kernel_rfl)
noncomputable def F75x0 : Fun := ⟨75, [.m (.osl (.int .i64)), .v (.int .i64), .v (.int .i64), .c 41 [(.ptr .bor (.slc .bor (.int .i64))), (.ptr .bor (.slc .bor (.int .i64)))]], [], d_slices_heapSortCmpFunc_int_mem⟩
theorem ok75x0 : OkFun E F75x0 :=
  OkFun.of (fn := Try.f75) (rs := []) ((95, F95x0) :: []) [] [] (.keep [1, 2, 3] (.two .none (.leaf) (.two .none (.leaf) (.two .none (.leaf) (.two .none (.two .none (.leaf) (.one (.keep [8, 9, 10] (.loop ⟨[(0, .s (.ref 0 [])), (11, .v (.int .i64))], [(0, (.osl (.int .i64)))]⟩ (.x 0 ⟨[(0, .s (.ref 0 []))], [(0, (.osl (.int .i64)))]⟩) (.two .none (.two .none (.leaf) (.two .none (.leaf) (.leaf))) (.two .none (.one (.leaf)) (.leaf))))))) (.two .none (.leaf) (.one (.keep [8, 9] (.loop ⟨[(0, .s (.ref 0 [])), (12, .v (.int .i64))], [(0, (.osl (.int .i64)))]⟩ (.x 2 ⟨[(0, .s (.ref 0 []))], [(0, (.osl (.int .i64)))]⟩) (.two .none (.two .none (.leaf) (.two .none (.leaf) (.leaf))) (.two .none (.one (.two .none (.draw [⟨0, [36], [0], [], [500000], []⟩, ⟨1, [37], [8], [], [], []⟩, ⟨2, [38], [0], [], [500000], []⟩, ⟨3, [39], [8], [], [], []⟩, ⟨4, [40], [12], [], [], []⟩, ⟨5, [41], [39, 40], [3, 4], [], []⟩, ⟨6, [42], [0], [], [500000], []⟩, ⟨7, [43], [8], [], [], []⟩, ⟨8, [44], [12], [], [], []⟩, ⟨9, [45], [43, 44], [7, 8], [], []⟩, ⟨10, [46], [42, 45], [6, 9], [0], []⟩, ⟨11, [47], [46], [10], [0], []⟩, ⟨12, [48], [0], [], [500000], []⟩, ⟨13, [49], [8], [], [], []⟩, ⟨14, [50], [48, 49], [12, 13], [0], []⟩, ⟨15, [51], [50], [14], [0], []⟩, ⟨16, [52], [36, 37], [0, 1, 0, 1, 6, 7, 8, 9, 10, 11, 15], [0], []⟩, ⟨17, [], [52, 47], [16, 11, 0, 1, 6, 7, 8, 9, 10, 11, 15], [0], [0]⟩, ⟨18, [53], [38, 41], [2, 5, 0, 1, 2, 3, 4, 5, 6, 7, 8, 9, 10, 11, 12, 13, 14, 15, 16, 17], [0], []⟩, ⟨19, [], [53, 51], [18, 15, 17, 0, 1, 2, 3, 4, 5, 6, 7, 8, 9, 10, 11, 12, 13, 14, 15, 16, 17], [0], [0]⟩]) (.leaf))) (.leaf)))))))))))) Try.func75 (by kernel_rfl) (by kernel_rfl) (by kernel_rfl) Try.call75 (tbl_cons ok95x0 tbl_nil) (by intro a; kernel_rfl)
noncomputable def F76x0 : Fun := ⟨76, [.m (.osl (.int .i64)), .v (.int .i64), .v (.int .i64), .c 41 [(.ptr .bor (.slc .bor (.int .i64))), (.ptr .bor (.slc .bor (.int .i64)))]], [], d_slices_breakPatternsCmpFunc_int_mem⟩
theorem ok76x0 : OkFun E F76x0 :=
  OkFun.of (fn := Try.f76) (rs := []) ((97, F97) :: (96, F96) :: []) [(9, (.int .u64))] [] (.keep [1, 2, 3] (.two .none (.leaf) (.two .none (.leaf) (.two .none (.two .none (.leaf) (.two .none (.leaf) (.two .none (.leaf) (.one (.keep [8, 10] (.loop ⟨[(0, .s (.ref 0 [])), (9, .s (.ref 9 [])), (11, .v (.int .i64))], [(0, (.osl (.int .i64))), (9, (.optr (.int .u64)))]⟩ (.x 0 ⟨[(0, .s (.ref 0 []))], [(0, (.osl (.int .i64)))]⟩) (.two .none (.two .none (.leaf) (.two .none (.leaf) (.leaf))) (.two (.x [11] ⟨[(0, .s (.ref 0 [])), (9, .s (.ref 9 []))], [(0, (.osl (.int .i64))), (9, (.optr (.int .u64)))]⟩) (.one (.two .none (.leaf) (.two (.x [] ⟨[(0, .s (.ref 0 [])), (9, .s (.ref 9 [])), (12, .v (.int .i64))], [(0, (.osl (.int .i64))), (9, (.optr (.int .u64)))]⟩) (.two .none (.leaf) (.two .none (.leaf) (.leaf))) (.draw [⟨0, [49], [0], [], [500000], []⟩, ⟨1, [50], [11], [], [], []⟩, ⟨2, [51], [0], [], [500000], []⟩, ⟨3, [52], [1], [], [], []⟩, ⟨4, [53], [12], [], [], []⟩, ⟨5, [54], [52, 53], [3, 4], [], []⟩, ⟨6, [55], [0], [], [500000], []⟩, ⟨7, [56], [1], [], [], []⟩, ⟨8, [57], [12], [], [], []⟩, ⟨9, [58], [56, 57], [7, 8], [], []⟩, ⟨10, [59], [55, 58], [6, 9], [0], []⟩, ⟨11, [60], [59], [10], [0], []⟩, ⟨12, [61], [0], [], [500000], []⟩, ⟨13, [62], [11], [], [], []⟩, ⟨14, [63], [61, 62], [12, 13], [0], []⟩, ⟨15, [64], [63], [14], [0], []⟩, ⟨16, [65], [49, 50], [0, 1, 0, 1, 6, 7, 8, 9, 10, 11, 15], [0], []⟩, ⟨17, [], [65, 60], [16, 11, 0, 1, 6, 7, 8, 9, 10, 11, 15], [0], [0]⟩, ⟨18, [66], [51, 54], [2, 5, 0, 1, 2, 3, 4, 5, 6, 7, 8, 9, 10, 11, 12, 13, 14, 15, 16, 17], [0], []⟩, ⟨19, [], [66, 64], [18, 15, 17, 0, 1, 2, 3, 4, 5, 6, 7, 8, 9, 10, 11, 12, 13, 14, 15, 16, 17], [0], [0]⟩])))) (.leaf))))))))) (.leaf))))) Try.func76 (by kernel_rfl) (by kernel_rfl) (by kernel_rfl) Try.call76 (tbl_cons ok97 (tbl_cons ok96 tbl_nil)) (by intro a; kernel_rfl)
noncomputable def F102x0 : Fun := ⟨102, [.v (.slc .bor (.int .i64)), .v (.int .i64), .v (.int .i64), .m (.optr (.int .i64)), .c 41 [(.ptr .bor (.slc .bor (.int .i64))), (.ptr .bor (.slc .bor (.int .i64)))]], [(.int .i64), (.int .i64)], d_slices_order2CmpFunc_int_mem⟩
theorem ok102x0 : OkFun E F102x0 :=
  OkFun.of (fn := Try.f102) (rs := [.tmp 10, .tmp 11]) ((41, F41x0) :: []) [] [] (.keep [0, 1, 2, 4] (.two .none (.leaf) (.two .none (.two .none (.draw [⟨0, [12], [4], [], [], []⟩, ⟨1, [13], [0], [], [], []⟩, ⟨2, [14], [2], [], [], []⟩, ⟨3, [15], [13, 14], [1, 2], [], []⟩, ⟨4, [16], [15], [3], [], []⟩, ⟨5, [17], [0], [], [], []⟩, ⟨6, [18], [1], [], [], []⟩, ⟨7, [19], [17, 18], [5, 6], [], []⟩, ⟨8, [20], [19], [7], [], []⟩, ⟨9, [21], [12, 16, 20], [0, 4, 8], [], []⟩, ⟨10, [22], [21], [9], [], []⟩]) (.two .none (.two .none (.leaf) (.two .none (.leaf) (.leaf))) (.leaf))) (.two .none (.leaf) (.leaf))))) Try.func102 (by kernel_rfl) (by kernel_rfl) (by kernel_rfl) Try.call102 (tbl_cons ok41x0 tbl_nil) (by intro a; kernel_rfl)
noncomputable def F99x0 : Fun := ⟨99, [.v (.slc .bor (.int .i64)), .v (.int .i64), .v (.int .i64), .v (.int .i64), .m (.optr (.int .i64)), .c 41 [(.ptr .bor (.slc .bor (.int .i64))), (.ptr .bor (.slc .bor (.int .i64)))]], [(.int .i64)], d_slices_medianCmpFunc_int_mem⟩
theorem ok99x0 : OkFun E F99x0 :=
  OkFun.of (fn := Try.f99) (rs := [.tmp 12]) ((102, F102x0) :: []) [] [] (.keep [0, 5] (.two .none (.leaf) (.two .none (.leaf) (.two .none (.leaf) (.two .none (.leaf) (.two .none (.leaf) (.leaf))))))) Try.func99 (by kernel_rfl) (by kernel_rfl) (by kernel_rfl) Try.call99 (tbl_cons ok102x0 tbl_nil) (by intro a; kernel_rfl)
noncomputable def F98x0 : Fun := ⟨98, [.v (.slc .bor (.int .i64)), .v (.int .i64), .m (.optr (.int .i64)), .c 41 [(.ptr .bor (.slc .bor (.int .i64))), (.ptr .bor (.slc .bor (.int .i64)))]], [(.int .i64)], d_slices_medianAdjacentCmpFunc_int_mem⟩
theorem ok98x0 : OkFun E F98x0 :=
  OkFun.of (fn := Try.f98) (rs := [.tmp 8]) ((99, F99x0) :: []) [] [] (.keep [0, 1, 3] (.two .none (.leaf) (.two .none (.leaf) (.leaf)))) Try.func98 (by kernel_rfl) (by kernel_rfl) (by kernel_rfl) Try.call98 (tbl_cons ok99x0 tbl_nil) (by intro a; kernel_rfl)
noncomputable def F77x0 : Fun := ⟨77, [.v (.slc .bor (.int .i64)), .v (.int .i64), .v (.int .i64), .c 41 [(.ptr .bor (.slc .bor (.int .i64))), (.ptr .bor (.slc .bor (.int .i64)))]], [(.int .i64), (.int .i64)], d_slices_choosePivotCmpFunc_int_mem⟩
theorem ok77x0 : OkFun E F77x0 :=
  OkFun.of (fn := Try.f77) (rs := [.tmp 8, .tmp 9]) ((99, F99x0) :: (98, F98x0) :: []) [(11, (.int .i64))] [] (.keep [0, 1, 2, 3] (.two .none (.leaf) (.two .none (.leaf) (.two .none (.leaf) (.two .none (.leaf) (.two .none (.leaf) (.two .none (.leaf) (.two (.x [] ⟨[(11, .s (.ref 11 [])), (13, .v (.int .i64))], [(11, (.optr (.int .i64)))]⟩) (.two .none (.leaf) (.two .none (.two (.x [] ⟨[(11, .s (.ref 11 [])), (12, .v (.int .i64)), (13, .v (.int .i64)), (14, .v (.int .i64))], [(11, (.optr (.int .i64)))]⟩) (.two .none (.leaf) (.two .none (.two .none (.leaf) (.two .none (.leaf) (.leaf))) (.leaf))) (.leaf)) (.leaf))) (.two .none (.leaf) (.one (.two .none (.leaf) (.two .none (.two .none (.leaf) (.leaf)) (.two .none (.leaf) (.two .none (.two .none (.leaf) (.leaf)) (.two .none (.leaf) (.leaf)))))))))))))))) Try.func77 (by kernel_rfl) (by kernel_rfl) (by kernel_rfl) Try.call77 (tbl_cons ok99x0 (tbl_cons ok98x0 tbl_nil)) (by intro a; kernel_rfl)
noncomputable def F78x0 : Fun := ⟨78, [.m (.osl (.int .i64)), .v (.int .i64), .v (.int .i64), .c 41 [(.ptr .bor (.slc .bor (.int .i64))), (.ptr .bor (.slc .bor (.int .i64)))]], [], d_slices_reverseRangeCmpFunc_int_mem⟩
theorem ok78x0 : OkFun E F78x0 :=
  OkFun.of (fn := Try.f78) (rs := []) ([]) [] [] (.keep [1, 2, 3] (.two .none (.leaf) (.two .none (.leaf) (.one (.loop ⟨[(0, .s (.ref 0 [])), (8, .v (.int .i64)), (9, .v (.int .i64))], [(0, (.osl (.int .i64)))]⟩ (.x 0 ⟨[(0, .s (.ref 0 []))], [(0, (.osl (.int .i64)))]⟩) (.two .none (.two .none (.leaf) (.two .none (.leaf) (.leaf))) (.one (.two .none (.draw [⟨0, [16], [0], [], [500000], []⟩, ⟨1, [17], [8], [], [], []⟩, ⟨2, [18], [0], [], [500000], []⟩, ⟨3, [19], [9], [], [], []⟩, ⟨4, [20], [0], [], [500000], []⟩, ⟨5, [21], [9], [], [], []⟩, ⟨6, [22], [20, 21], [4, 5], [0], []⟩, ⟨7, [23], [22], [6], [0], []⟩, ⟨8, [24], [0], [], [500000], []⟩, ⟨9, [25], [8], [], [], []⟩, ⟨10, [26], [24, 25], [8, 9], [0], []⟩, ⟨11, [27], [26], [10], [0], []⟩, ⟨12, [28], [16, 17], [0, 1, 0, 1, 4, 5, 6, 7, 11], [0], []⟩, ⟨13, [], [28, 23], [12, 7, 0, 1, 4, 5, 6, 7, 11], [0], [0]⟩, ⟨14, [29], [18, 19], [2, 3, 0, 1, 2, 3, 4, 5, 6, 7, 8, 9, 10, 11, 12, 13], [0], []⟩, ⟨15, [], [29, 27], [14, 11, 13, 0, 1, 2, 3, 4, 5, 6, 7, 8, 9, 10, 11, 12, 13], [0], [0]⟩]) (.two .none (.leaf) (.leaf)))))))))) Try.func78 (by kernel_rfl) (by kernel_rfl) (by kernel_rfl) Try.call78 tbl_nil (by intro a; kernel_rfl)
noncomputable def F79x0 : Fun := ⟨79, [.m (.osl (.int .i64)), .v (.int .i64), .v (.int .i64), .c 41 [(.ptr .bor (.slc .bor (.int .i64))), (.ptr .bor (.slc .bor (.int .i64)))]], [.bool], d_slices_partialInsertionSortCmpFunc_int_mem⟩
theorem ok79x0 : OkFun E F79x0 :=
  OkFun.of (fn := Try.f79) (rs := [.tmp 8]) ((41, F41x0) :: []) [] [] (.keep [1, 2, 3] (.two .none (.leaf) (.two .none (.leaf) (.two .none (.two .none (.leaf) (.one (.loop ⟨[(0, .s (.ref 0 [])), (9, .v (.int .i64)), (10, .v (.int .i64))], [(0, (.osl (.int .i64)))]⟩ (.xr 0 ⟨[(0, .s (.ref 0 []))], [(0, (.osl (.int .i64)))]⟩) (.two .none (.two .none (.leaf) (.two .none (.leaf) (.leaf))) (.two (.xr [10] ⟨[(0, .s (.ref 0 [])), (9, .v (.int .i64))], [(0, (.osl (.int .i64)))]⟩) (.one (.two .none (.one (.loop ⟨[(0, .s (.ref 0 [])), (9, .v (.int .i64))], [(0, (.osl (.int .i64)))]⟩ (.x 2 ⟨[(0, .s (.ref 0 [])), (9, .v (.int .i64))], [(0, (.osl (.int .i64)))]⟩) (.two (.xr [9] ⟨[(0, .s (.ref 0 []))], [(0, (.osl (.int .i64)))]⟩) (.two .none (.draw [⟨0, [19], [9], [], [], []⟩, ⟨1, [20], [2], [], [], []⟩, ⟨2, [21], [19, 20], [0, 1], [], []⟩, ⟨3, [22], [21], [2], [], []⟩, ⟨4, [23], [3, 22], [3], [], []⟩, ⟨5, [24], [0, 22], [3], [500000], []⟩, ⟨6, [25], [9, 22], [3], [], []⟩, ⟨7, [26], [24, 25, 22], [5, 6, 3], [0], []⟩, ⟨8, [27], [26, 22], [7, 3], [0], []⟩, ⟨9, [28], [0, 22], [3], [500000], []⟩, ⟨10, [29], [9, 22], [3], [], []⟩, ⟨11, [30], [29, 22], [10, 3], [], []⟩, ⟨12, [31], [28, 30, 22], [9, 11, 3], [0], []⟩, ⟨13, [32], [31, 22], [12, 3], [0], []⟩, ⟨14, [33], [23, 27, 32, 22], [4, 8, 13, 3, 3], [], []⟩, ⟨15, [34], [33, 22], [14, 3], [], []⟩, ⟨16, [35], [34, 22], [15, 3], [], []⟩, ⟨17, [36], [22, 35], [3, 16], [], []⟩]) (.two .none (.leaf) (.leaf))) (.one (.leaf))))) (.two .none (.two .none (.leaf) (.two .none (.two .none (.leaf) (.leaf)) (.leaf))) (.two .none (.two .none (.leaf) (.two .none (.two .none (.leaf) (.leaf)) (.leaf))) (.two .none (.draw [⟨0, [46], [0], [], [500000], []⟩, ⟨1, [47], [9], [], [], []⟩, ⟨2, [48], [0], [], [500000], []⟩, ⟨3, [49], [9], [], [], []⟩, ⟨4, [50], [49], [3], [], []⟩, ⟨5, [51], [0], [], [500000], []⟩, ⟨6, [52], [9], [], [], []⟩, ⟨7, [53], [52], [6], [], []⟩, ⟨8, [54], [51, 53], [5, 7], [0], []⟩, ⟨9, [55], [54], [8], [0], []⟩, ⟨10, [56], [0], [], [500000], []⟩, ⟨11, [57], [9], [], [], []⟩, ⟨12, [58], [56, 57], [10, 11], [0], []⟩, ⟨13, [59], [58], [12], [0], []⟩, ⟨14, [60], [46, 47], [0, 1, 0, 1, 5, 6, 7, 8, 9, 13], [0], []⟩, ⟨15, [], [60, 55], [14, 9, 0, 1, 5, 6, 7, 8, 9, 13], [0], [0]⟩, ⟨16, [61], [48, 50], [2, 4, 0, 1, 2, 3, 4, 5, 6, 7, 8, 9, 10, 11, 12, 13, 14, 15], [0], []⟩, ⟨17, [], [61, 59], [16, 13, 15, 0, 1, 2, 3, 4, 5, 6, 7, 8, 9, 10, 11, 12, 13, 14, 15], [0], [0]⟩]) (.two (.x [9] ⟨[(0, .s (.ref 0 []))], [(0, (.osl (.int .i64)))]⟩) (.two .none (.leaf) (.two .none (.two .none (.leaf) (.one (.loop ⟨[(0, .s (.ref 0 [])), (11, .v (.int .i64))], [(0, (.osl (.int .i64)))]⟩ (.x 4 ⟨[(0, .s (.ref 0 []))], [(0, (.osl (.int .i64)))]⟩) (.two .none (.two .none (.leaf) (.two .none (.leaf) (.leaf))) (.two .none (.one (.two .none (.two .none (.draw [⟨0, [72], [3], [], [], []⟩, ⟨1, [73], [0], [], [500000], []⟩, ⟨2, [74], [11], [], [], []⟩, ⟨3, [75], [73, 74], [1, 2], [0], []⟩, ⟨4, [76], [75], [3], [0], []⟩, ⟨5, [77], [0], [], [500000], []⟩, ⟨6, [78], [11], [], [], []⟩, ⟨7, [79], [78], [6], [], []⟩, ⟨8, [80], [77, 79], [5, 7], [0], []⟩, ⟨9, [81], [80], [8], [0], []⟩, ⟨10, [82], [72, 76, 81], [0, 4, 9], [], []⟩, ⟨11, [83], [82], [10], [], []⟩, ⟨12, [84], [83], [11], [], []⟩]) (.two .none (.leaf) (.leaf))) (.draw [⟨0, [85], [0], [], [500000], []⟩, ⟨1, [86], [11], [], [], []⟩, ⟨2, [87], [0], [], [500000], []⟩, ⟨3, [88], [11], [], [], []⟩, ⟨4, [89], [88], [3], [], []⟩, ⟨5, [90], [0], [], [500000], []⟩, ⟨6, [91], [11], [], [], []⟩, ⟨7, [92], [91], [6], [], []⟩, ⟨8, [93], [90, 92], [5, 7], [0], []⟩, ⟨9, [94], [93], [8], [0], []⟩, ⟨10, [95], [0], [], [500000], []⟩, ⟨11, [96], [11], [], [], []⟩, ⟨12, [97], [95, 96], [10, 11], [0], []⟩, ⟨13, [98], [97], [12], [0], []⟩, ⟨14, [99], [85, 86], [0, 1, 0, 1, 5, 6, 7, 8, 9, 13], [0], []⟩, ⟨15, [], [99, 94], [14, 9, 0, 1, 5, 6, 7, 8, 9, 13], [0], [0]⟩, ⟨16, [100], [87, 89], [2, 4, 0, 1, 2, 3, 4, 5, 6, 7, 8, 9, 10, 11, 12, 13, 14, 15], [0], []⟩, ⟨17, [], [100, 98], [16, 13, 15, 0, 1, 2, 3, 4, 5, 6, 7, 8, 9, 10, 11, 12, 13, 14, 15], [0], [0]⟩]))) (.leaf)))))) (.leaf))) (.two .none (.leaf) (.two .none (.two .none (.leaf) (.one (.keep [9] (.loop ⟨[(0, .s (.ref 0 [])), (12, .v (.int .i64))], [(0, (.osl (.int .i64)))]⟩ (.x 6 ⟨[(0, .s (.ref 0 []))], [(0, (.osl (.int .i64)))]⟩) (.two .none (.two .none (.leaf) (.two .none (.leaf) (.leaf))) (.two .none (.one (.two .none (.two .none (.draw [⟨0, [112], [3], [], [], []⟩, ⟨1, [113], [0], [], [500000], []⟩, ⟨2, [114], [12], [], [], []⟩, ⟨3, [115], [113, 114], [1, 2], [0], []⟩, ⟨4, [116], [115], [3], [0], []⟩, ⟨5, [117], [0], [], [500000], []⟩, ⟨6, [118], [12], [], [], []⟩, ⟨7, [119], [118], [6], [], []⟩, ⟨8, [120], [117, 119], [5, 7], [0], []⟩, ⟨9, [121], [120], [8], [0], []⟩, ⟨10, [122], [112, 116, 121], [0, 4, 9], [], []⟩, ⟨11, [123], [122], [10], [], []⟩, ⟨12, [124], [123], [11], [], []⟩]) (.two .none (.leaf) (.leaf))) (.draw [⟨0, [125], [0], [], [500000], []⟩, ⟨1, [126], [12], [], [], []⟩, ⟨2, [127], [0], [], [500000], []⟩, ⟨3, [128], [12], [], [], []⟩, ⟨4, [129], [128], [3], [], []⟩, ⟨5, [130], [0], [], [500000], []⟩, ⟨6, [131], [12], [], [], []⟩, ⟨7, [132], [131], [6], [], []⟩, ⟨8, [133], [130, 132], [5, 7], [0], []⟩, ⟨9, [134], [133], [8], [0], []⟩, ⟨10, [135], [0], [], [500000], []⟩, ⟨11, [136], [12], [], [], []⟩, ⟨12, [137], [135, 136], [10, 11], [0], []⟩, ⟨13, [138], [137], [12], [0], []⟩, ⟨14, [139], [125, 126], [0, 1, 0, 1, 5, 6, 7, 8, 9, 13], [0], []⟩, ⟨15, [], [139, 134], [14, 9, 0, 1, 5, 6, 7, 8, 9, 13], [0], [0]⟩, ⟨16, [140], [127, 129], [2, 4, 0, 1, 2, 3, 4, 5, 6, 7, 8, 9, 10, 11, 12, 13, 14, 15], [0], []⟩, ⟨17, [], [140, 138], [16, 13, 15, 0, 1, 2, 3, 4, 5, 6, 7, 8, 9, 10, 11, 12, 13, 14, 15], [0], [0]⟩]))) (.leaf))))))) (.leaf))))))))) (.leaf)))))) (.two .none (.leaf) (.leaf)))))) Try.func79 (by kernel_rfl) (by kernel_rfl) (by kernel_rfl) Try.call79 (tbl_cons ok41x0 tbl_nil) (by intro a; kernel_rfl)
noncomputable def F80x0 : Fun := ⟨80, [.m (.osl (.int .i64)), .v (.int .i64), .v (.int .i64), .v (.int .i64), .c 41 [(.ptr .bor (.slc .bor (.int .i64))), (.ptr .bor (.slc .bor (.int .i64)))]], [(.int .i64)], d_slices_partitionEqualCmpFunc_int_mem⟩
theorem ok80x0 : OkFun E F80x0 :=
  OkFun.of (fn := Try.f80) (rs := [.tmp 10]) ((41, F41x0) :: []) [] [] (.keep [1, 2, 3, 4] (.two .none (.leaf) (.two .none (.draw [⟨0, [13], [0], [], [500000], []⟩, ⟨1, [14], [1], [], [], []⟩, ⟨2, [15], [0], [], [500000], []⟩, ⟨3, [16], [3], [], [], []⟩, ⟨4, [17], [0], [], [500000], []⟩, ⟨5, [18], [3], [], [], []⟩, ⟨6, [19], [17, 18], [4, 5], [0], []⟩, ⟨7, [20], [19], [6], [0], []⟩, ⟨8, [21], [0], [], [500000], []⟩, ⟨9, [22], [1], [], [], []⟩, ⟨10, [23], [21, 22], [8, 9], [0], []⟩, ⟨11, [24], [23], [10], [0], []⟩, ⟨12, [25], [13, 14], [0, 1, 0, 1, 4, 5, 6, 7, 11], [0], []⟩, ⟨13, [], [25, 20], [12, 7, 0, 1, 4, 5, 6, 7, 11], [0], [0]⟩, ⟨14, [26], [15, 16], [2, 3, 0, 1, 2, 3, 4, 5, 6, 7, 8, 9, 10, 11, 12, 13], [0], []⟩, ⟨15, [], [26, 24], [14, 11, 13, 0, 1, 2, 3, 4, 5, 6, 7, 8, 9, 10, 11, 12, 13], [0], [0]⟩]) (.two .none (.leaf) (.two .none (.one (.loop ⟨[(0, .s (.ref 0 [])), (11, .v (.int .i64)), (12, .v (.int .i64))], [(0, (.osl (.int .i64)))]⟩ (.x 0 ⟨[(0, .s (.ref 0 [])), (11, .v (.int .i64))], [(0, (.osl (.int .i64)))]⟩) (.one (.two .none (.one (.keep [12] (.loop ⟨[(0, .s (.ref 0 [])), (11, .v (.int .i64))], [(0, (.osl (.int .i64)))]⟩ (.x 2 ⟨[(0, .s (.ref 0 [])), (11, .v (.int .i64))], [(0, (.osl (.int .i64)))]⟩) (.two (.xr [11] ⟨[(0, .s (.ref 0 []))], [(0, (.osl (.int .i64)))]⟩) (.two .none (.draw [⟨0, [31], [11], [], [], []⟩, ⟨1, [32], [12], [], [], []⟩, ⟨2, [33], [31, 32], [0, 1], [], []⟩, ⟨3, [34], [33], [2], [], []⟩, ⟨4, [35], [4, 34], [3], [], []⟩, ⟨5, [36], [0, 34], [3], [500000], []⟩, ⟨6, [37], [1, 34], [3], [], []⟩, ⟨7, [38], [36, 37, 34], [5, 6, 3], [0], []⟩, ⟨8, [39], [38, 34], [7, 3], [0], []⟩, ⟨9, [40], [0, 34], [3], [500000], []⟩, ⟨10, [41], [11, 34], [3], [], []⟩, ⟨11, [42], [40, 41, 34], [9, 10, 3], [0], []⟩, ⟨12, [43], [42, 34], [11, 3], [0], []⟩, ⟨13, [44], [35, 39, 43, 34], [4, 8, 12, 3, 3], [], []⟩, ⟨14, [45], [44, 34], [13, 3], [], []⟩, ⟨15, [46], [45, 34], [14, 3], [], []⟩, ⟨16, [47], [34, 46], [3, 15], [], []⟩]) (.two .none (.leaf) (.leaf))) (.one (.leaf)))))) (.two .none (.one (.keep [11] (.loop ⟨[(0, .s (.ref 0 [])), (12, .v (.int .i64))], [(0, (.osl (.int .i64)))]⟩ (.x 4 ⟨[(0, .s (.ref 0 [])), (12, .v (.int .i64))], [(0, (.osl (.int .i64)))]⟩) (.two (.xr [12] ⟨[(0, .s (.ref 0 []))], [(0, (.osl (.int .i64)))]⟩) (.two .none (.draw [⟨0, [50], [11], [], [], []⟩, ⟨1, [51], [12], [], [], []⟩, ⟨2, [52], [50, 51], [0, 1], [], []⟩, ⟨3, [53], [52], [2], [], []⟩, ⟨4, [54], [4, 53], [3], [], []⟩, ⟨5, [55], [0, 53], [3], [500000], []⟩, ⟨6, [56], [1, 53], [3], [], []⟩, ⟨7, [57], [55, 56, 53], [5, 6, 3], [0], []⟩, ⟨8, [58], [57, 53], [7, 3], [0], []⟩, ⟨9, [59], [0, 53], [3], [500000], []⟩, ⟨10, [60], [12, 53], [3], [], []⟩, ⟨11, [61], [59, 60, 53], [9, 10, 3], [0], []⟩, ⟨12, [62], [61, 53], [11, 3], [0], []⟩, ⟨13, [63], [54, 58, 62, 53], [4, 8, 12, 3, 3], [], []⟩, ⟨14, [64], [63, 53], [13, 3], [], []⟩, ⟨15, [65], [53, 64], [3, 14], [], []⟩]) (.two .none (.leaf) (.leaf))) (.one (.leaf)))))) (.two .none (.two .none (.leaf) (.two .none (.leaf) (.leaf))) (.two .none (.draw [⟨0, [71], [0], [], [500000], []⟩, ⟨1, [72], [11], [], [], []⟩, ⟨2, [73], [0], [], [500000], []⟩, ⟨3, [74], [12], [], [], []⟩, ⟨4, [75], [0], [], [500000], []⟩, ⟨5, [76], [12], [], [], []⟩, ⟨6, [77], [75, 76], [4, 5], [0], []⟩, ⟨7, [78], [77], [6], [0], []⟩, ⟨8, [79], [0], [], [500000], []⟩, ⟨9, [80], [11], [], [], []⟩, ⟨10, [81], [79, 80], [8, 9], [0], []⟩, ⟨11, [82], [81], [10], [0], []⟩, ⟨12, [83], [71, 72], [0, 1, 0, 1, 4, 5, 6, 7, 11], [0], []⟩, ⟨13, [], [83, 78], [12, 7, 0, 1, 4, 5, 6, 7, 11], [0], [0]⟩, ⟨14, [84], [73, 74], [2, 3, 0, 1, 2, 3, 4, 5, 6, 7, 8, 9, 10, 11, 12, 13], [0], []⟩, ⟨15, [], [84, 82], [14, 11, 13, 0, 1, 2, 3, 4, 5, 6, 7, 8, 9, 10, 11, 12, 13], [0], [0]⟩]) (.two .none (.leaf) (.leaf))))))))) (.two .none (.leaf) (.leaf))))))) Try.func80 (by kernel_rfl) (by kernel_rfl) (by kernel_rfl) Try.call80 (tbl_cons ok41x0 tbl_nil) (by intro a; kernel_rfl)
noncomputable def F81x0 : Fun := ⟨81, [.m (.osl (.int .i64)), .v (.int .i64), .v (.int .i64), .v (.int .i64), .c 41 [(.ptr .bor (.slc .bor (.int .i64))), (.ptr .bor (.slc .bor (.int .i64)))]], [(.int .i64), .bool], d_slices_partitionCmpFunc_int_mem⟩
theorem ok81x0 : OkFun E F81x0 :=
  OkFun.of (fn := Try.f81) (rs := [.tmp 10, .tmp 11]) ((41, F41x0) :: []) [] [] (.keep [1, 2, 3, 4] (.two .none (.leaf) (.two .none (.draw [⟨0, [14], [0], [], [500000], []⟩, ⟨1, [15], [1], [], [], []⟩, ⟨2, [16], [0], [], [500000], []⟩, ⟨3, [17], [3], [], [], []⟩, ⟨4, [18], [0], [], [500000], []⟩, ⟨5, [19], [3], [], [], []⟩, ⟨6, [20], [18, 19], [4, 5], [0], []⟩, ⟨7, [21], [20], [6], [0], []⟩, ⟨8, [22], [0], [], [500000], []⟩, ⟨9, [23], [1], [], [], []⟩, ⟨10, [24], [22, 23], [8, 9], [0], []⟩, ⟨11, [25], [24], [10], [0], []⟩, ⟨12, [26], [14, 15], [0, 1, 0, 1, 4, 5, 6, 7, 11], [0], []⟩, ⟨13, [], [26, 21], [12, 7, 0, 1, 4, 5, 6, 7, 11], [0], [0]⟩, ⟨14, [27], [16, 17], [2, 3, 0, 1, 2, 3, 4, 5, 6, 7, 8, 9, 10, 11, 12, 13], [0], []⟩, ⟨15, [], [27, 25], [14, 11, 13, 0, 1, 2, 3, 4, 5, 6, 7, 8, 9, 10, 11, 12, 13], [0], [0]⟩]) (.two .none (.leaf) (.two .none (.one (.keep [13] (.loop ⟨[(0, .s (.ref 0 [])), (12, .v (.int .i64))], [(0, (.osl (.int .i64)))]⟩ (.x 0 ⟨[(0, .s (.ref 0 [])), (12, .v (.int .i64))], [(0, (.osl (.int .i64)))]⟩) (.two (.xr [12] ⟨[(0, .s (.ref 0 []))], [(0, (.osl (.int .i64)))]⟩) (.two .none (.draw [⟨0, [32], [12], [], [], []⟩, ⟨1, [33], [13], [], [], []⟩, ⟨2, [34], [32, 33], [0, 1], [], []⟩, ⟨3, [35], [34], [2], [], []⟩, ⟨4, [36], [4, 35], [3], [], []⟩, ⟨5, [37], [0, 35], [3], [500000], []⟩, ⟨6, [38], [12, 35], [3], [], []⟩, ⟨7, [39], [37, 38, 35], [5, 6, 3], [0], []⟩, ⟨8, [40], [39, 35], [7, 3], [0], []⟩, ⟨9, [41], [0, 35], [3], [500000], []⟩, ⟨10, [42], [1, 35], [3], [], []⟩, ⟨11, [43], [41, 42, 35], [9, 10, 3], [0], []⟩, ⟨12, [44], [43, 35], [11, 3], [0], []⟩, ⟨13, [45], [36, 40, 44, 35], [4, 8, 12, 3, 3], [], []⟩, ⟨14, [46], [45, 35], [13, 3], [], []⟩, ⟨15, [47], [35, 46], [3, 14], [], []⟩]) (.two .none (.leaf) (.leaf))) (.one (.leaf)))))) (.two .none (.one (.keep [12] (.loop ⟨[(0, .s (.ref 0 [])), (13, .v (.int .i64))], [(0, (.osl (.int .i64)))]⟩ (.x 2 ⟨[(0, .s (.ref 0 [])), (13, .v (.int .i64))], [(0, (.osl (.int .i64)))]⟩) (.two (.xr [13] ⟨[(0, .s (.ref 0 []))], [(0, (.osl (.int .i64)))]⟩) (.two .none (.draw [⟨0, [50], [12], [], [], []⟩, ⟨1, [51], [13], [], [], []⟩, ⟨2, [52], [50, 51], [0, 1], [], []⟩, ⟨3, [53], [52], [2], [], []⟩, ⟨4, [54], [4, 53], [3], [], []⟩, ⟨5, [55], [0, 53], [3], [500000], []⟩, ⟨6, [56], [13, 53], [3], [], []⟩, ⟨7, [57], [55, 56, 53], [5, 6, 3], [0], []⟩, ⟨8, [58], [57, 53], [7, 3], [0], []⟩, ⟨9, [59], [0, 53], [3], [500000], []⟩, ⟨10, [60], [1, 53], [3], [], []⟩, ⟨11, [61], [59, 60, 53], [9, 10, 3], [0], []⟩, ⟨12, [62], [61, 53], [11, 3], [0], []⟩, ⟨13, [63], [54, 58, 62, 53], [4, 8, 12, 3, 3], [], []⟩, ⟨14, [64], [63, 53], [13, 3], [], []⟩, ⟨15, [65], [64, 53], [14, 3], [], []⟩, ⟨16, [66], [53, 65], [3, 15], [], []⟩]) (.two .none (.leaf) (.leaf))) (.one (.leaf)))))) (.two .none (.two .none (.leaf) (.two .none (.two .none (.draw [⟨0, [72], [0], [], [500000], []⟩, ⟨1, [73], [13], [], [], []⟩, ⟨2, [74], [0], [], [500000], []⟩, ⟨3, [75], [1], [], [], []⟩, ⟨4, [76], [0], [], [500000], []⟩, ⟨5, [77], [1], [], [], []⟩, ⟨6, [78], [76, 77], [4, 5], [0], []⟩, ⟨7, [79], [78], [6], [0], []⟩, ⟨8, [80], [0], [], [500000], []⟩, ⟨9, [81], [13], [], [], []⟩, ⟨10, [82], [80, 81], [8, 9], [0], []⟩, ⟨11, [83], [82], [10], [0], []⟩, ⟨12, [84], [72, 73], [0, 1, 0, 1, 4, 5, 6, 7, 11], [0], []⟩, ⟨13, [], [84, 79], [12, 7, 0, 1, 4, 5, 6, 7, 11], [0], [0]⟩, ⟨14, [85], [74, 75], [2, 3, 0, 1, 2, 3, 4, 5, 6, 7, 8, 9, 10, 11, 12, 13], [0], []⟩, ⟨15, [], [85, 83], [14, 11, 13, 0, 1, 2, 3, 4, 5, 6, 7, 8, 9, 10, 11, 12, 13], [0], [0]⟩]) (.two .none (.leaf) (.leaf))) (.leaf))) (.two .none (.draw [⟨0, [87], [0], [], [500000], []⟩, ⟨1, [88], [12], [], [], []⟩, ⟨2, [89], [0], [], [500000], []⟩, ⟨3, [90], [13], [], [], []⟩, ⟨4, [91], [0], [], [500000], []⟩, ⟨5, [92], [13], [], [], []⟩, ⟨6, [93], [91, 92], [4, 5], [0], []⟩, ⟨7, [94], [93], [6], [0], []⟩, ⟨8, [95], [0], [], [500000], []⟩, ⟨9, [96], [12], [], [], []⟩, ⟨10, [97], [95, 96], [8, 9], [0], []⟩, ⟨11, [98], [97], [10], [0], []⟩, ⟨12, [99], [87, 88], [0, 1, 0, 1, 4, 5, 6, 7, 11], [0], []⟩, ⟨13, [], [99, 94], [12, 7, 0, 1, 4, 5, 6, 7, 11], [0], [0]⟩, ⟨14, [100], [89, 90], [2, 3, 0, 1, 2, 3, 4, 5, 6, 7, 8, 9, 10, 11, 12, 13], [0], []⟩, ⟨15, [], [100, 98], [14, 11, 13, 0, 1, 2, 3, 4, 5, 6, 7, 8, 9, 10, 11, 12, 13], [0], [0]⟩]) (.two .none (.leaf) (.two .none (.leaf) (.two .none (.one (.loop ⟨[(0, .s (.ref 0 [])), (12, .v (.int .i64)), (13, .v (.int .i64))], [(0, (.osl (.int .i64)))]⟩ (.x 4 ⟨[(0, .s (.ref 0 [])), (13, .v (.int .i64))], [(0, (.osl (.int .i64)))]⟩) (.one (.two .none (.one (.keep [13] (.loop ⟨[(0, .s (.ref 0 [])), (12, .v (.int .i64))], [(0, (.osl (.int .i64)))]⟩ (.x 6 ⟨[(0, .s (.ref 0 [])), (12, .v (.int .i64))], [(0, (.osl (.int .i64)))]⟩) (.two (.xr [12] ⟨[(0, .s (.ref 0 []))], [(0, (.osl (.int .i64)))]⟩) (.two .none (.draw [⟨0, [105], [12], [], [], []⟩, ⟨1, [106], [13], [], [], []⟩, ⟨2, [107], [105, 106], [0, 1], [], []⟩, ⟨3, [108], [107], [2], [], []⟩, ⟨4, [109], [4, 108], [3], [], []⟩, ⟨5, [110], [0, 108], [3], [500000], []⟩, ⟨6, [111], [12, 108], [3], [], []⟩, ⟨7, [112], [110, 111, 108], [5, 6, 3], [0], []⟩, ⟨8, [113], [112, 108], [7, 3], [0], []⟩, ⟨9, [114], [0, 108], [3], [500000], []⟩, ⟨10, [115], [1, 108], [3], [], []⟩, ⟨11, [116], [114, 115, 108], [9, 10, 3], [0], []⟩, ⟨12, [117], [116, 108], [11, 3], [0], []⟩, ⟨13, [118], [109, 113, 117, 108], [4, 8, 12, 3, 3], [], []⟩, ⟨14, [119], [118, 108], [13, 3], [], []⟩, ⟨15, [120], [108, 119], [3, 14], [], []⟩]) (.two .none (.leaf) (.leaf))) (.one (.leaf)))))) (.two .none (.one (.keep [12] (.loop ⟨[(0, .s (.ref 0 [])), (13, .v (.int .i64))], [(0, (.osl (.int .i64)))]⟩ (.x 8 ⟨[(0, .s (.ref 0 [])), (13, .v (.int .i64))], [(0, (.osl (.int .i64)))]⟩) (.two (.xr [13] ⟨[(0, .s (.ref 0 []))], [(0, (.osl (.int .i64)))]⟩) (.two .none (.draw [⟨0, [123], [12], [], [], []⟩, ⟨1, [124], [13], [], [], []⟩, ⟨2, [125], [123, 124], [0, 1], [], []⟩, ⟨3, [126], [125], [2], [], []⟩, ⟨4, [127], [4, 126], [3], [], []⟩, ⟨5, [128], [0, 126], [3], [500000], []⟩, ⟨6, [129], [13, 126], [3], [], []⟩, ⟨7, [130], [128, 129, 126], [5, 6, 3], [0], []⟩, ⟨8, [131], [130, 126], [7, 3], [0], []⟩, ⟨9, [132], [0, 126], [3], [500000], []⟩, ⟨10, [133], [1, 126], [3], [], []⟩, ⟨11, [134], [132, 133, 126], [9, 10, 3], [0], []⟩, ⟨12, [135], [134, 126], [11, 3], [0], []⟩, ⟨13, [136], [127, 131, 135, 126], [4, 8, 12, 3, 3], [], []⟩, ⟨14, [137], [136, 126], [13, 3], [], []⟩, ⟨15, [138], [137, 126], [14, 3], [], []⟩, ⟨16, [139], [126, 138], [3, 15], [], []⟩]) (.two .none (.leaf) (.leaf))) (.one (.leaf)))))) (.two .none (.two .none (.leaf) (.two .none (.leaf) (.leaf))) (.two .none (.draw [⟨0, [145], [0], [], [500000], []⟩, ⟨1, [146], [12], [], [], []⟩, ⟨2, [147], [0], [], [500000], []⟩, ⟨3, [148], [13], [], [], []⟩, ⟨4, [149], [0], [], [500000], []⟩, ⟨5, [150], [13], [], [], []⟩, ⟨6, [151], [149, 150], [4, 5], [0], []⟩, ⟨7, [152], [151], [6], [0], []⟩, ⟨8, [153], [0], [], [500000], []⟩, ⟨9, [154], [12], [], [], []⟩, ⟨10, [155], [153, 154], [8, 9], [0], []⟩, ⟨11, [156], [155], [10], [0], []⟩, ⟨12, [157], [145, 146], [0, 1, 0, 1, 4, 5, 6, 7, 11], [0], []⟩, ⟨13, [], [157, 152], [12, 7, 0, 1, 4, 5, 6, 7, 11], [0], [0]⟩, ⟨14, [158], [147, 148], [2, 3, 0, 1, 2, 3, 4, 5, 6, 7, 8, 9, 10, 11, 12, 13], [0], []⟩, ⟨15, [], [158, 156], [14, 11, 13, 0, 1, 2, 3, 4, 5, 6, 7, 8, 9, 10, 11, 12, 13], [0], [0]⟩]) (.two .none (.leaf) (.leaf))))))))) (.two .none (.draw [⟨0, [163], [0], [], [500000], []⟩, ⟨1, [164], [13], [], [], []⟩, ⟨2, [165], [0], [], [500000], []⟩, ⟨3, [166], [1], [], [], []⟩, ⟨4, [167], [0], [], [500000], []⟩, ⟨5, [168], [1], [], [], []⟩, ⟨6, [169], [167, 168], [4, 5], [0], []⟩, ⟨7, [170], [169], [6], [0], []⟩, ⟨8, [171], [0], [], [500000], []⟩, ⟨9, [172], [13], [], [], []⟩, ⟨10, [173], [171, 172], [8, 9], [0], []⟩, ⟨11, [174], [173], [10], [0], []⟩, ⟨12, [175], [163, 164], [0, 1, 0, 1, 4, 5, 6, 7, 11], [0], []⟩, ⟨13, [], [175, 170], [12, 7, 0, 1, 4, 5, 6, 7, 11], [0], [0]⟩, ⟨14, [176], [165, 166], [2, 3, 0, 1, 2, 3, 4, 5, 6, 7, 8, 9, 10, 11, 12, 13], [0], []⟩, ⟨15, [], [176, 174], [14, 11, 13, 0, 1, 2, 3, 4, 5, 6, 7, 8, 9, 10, 11, 12, 13], [0], [0]⟩]) (.two .none (.leaf) (.leaf)))))))))))))) Try.func81 (by kernel_rfl) (by kernel_rfl) (by kernel_rfl) Try.call81 (tbl_cons ok41x0 tbl_nil) (by intro a; kernel_rfl)
noncomputable def F59x0n (n : Nat) : Fun := ⟨59, [.m (.osl (.int .i64)), .v (.int .i64), .v (.int .i64), .v (.int .i64), .c 41 [(.ptr .bor (.slc .bor (.int .i64))), (.ptr .bor (.slc .bor (.int .i64)))]], [], r_slices_pdqsortCmpFunc_int_mem n⟩
theorem ok59x0n : ∀ n, OkFun E (F59x0n n)
  | 0 => ⟨Try.call59, fun _ _ h => by cases h⟩
  | n + 1 =>
    OkFun.of (fn := Try.f59) (rs := []) ((59, F59x0n n) :: (81, F81x0) :: (80, F80x0) :: (79, F79x0) :: (78, F78x0) :: (77, F77x0) :: (76, F76x0) :: (75, F75x0) :: (74, F74x0) :: (41, F41x0) :: []) [] [] (.keep [4] (.two .none (.leaf) (.two .none (.leaf) (.one (.loop ⟨[(0, .s (.ref 0 [])), (1, .v (.int .i64)), (2, .v (.int .i64)), (3, .v (.int .i64)), (10, .v .bool), (11, .v .bool)], [(0, (.osl (.int .i64)))]⟩ .r (.one (.two .none (.leaf) (.two .none (.two .none (.leaf) (.two .none (.two .none (.leaf) (.leaf)) (.leaf))) (.two .none (.two .none (.leaf) (.two .none (.two .none (.leaf) (.leaf)) (.leaf))) (.two (.x [1, 2, 10, 11, 12] ⟨[(0, .s (.ref 0 [])), (3, .v (.int .i64))], [(0, (.osl (.int .i64)))]⟩) (.two .none (.leaf) (.two .none (.two .none (.leaf) (.leaf)) (.leaf))) (.two .none (.leaf) (.two (.x [1, 2, 3, 10, 11, 12] ⟨[(0, .s (.ref 0 [])), (13, .v (.int .i64)), (14, .v (.int .i64))], [(0, (.osl (.int .i64)))]⟩) (.two .none (.leaf) (.two .none (.two .none (.leaf) (.two .none (.leaf) (.leaf))) (.leaf))) (.two (.xr [1, 2, 3, 10, 11, 12, 13] ⟨[(0, .s (.ref 0 []))], [(0, (.osl (.int .i64)))]⟩) (.two (.x [] ⟨[(0, .s (.ref 0 [])), (75, .v .bool)], [(0, (.osl (.int .i64)))]⟩) (.leaf) (.two .none (.two .none (.leaf) (.two .none (.leaf) (.leaf))) (.leaf))) (.two (.xr [2, 3, 12, 13] ⟨[(0, .s (.ref 0 [])), (1, .v (.int .i64))], [(0, (.osl (.int .i64)))]⟩) (.two (.x [1, 10, 11] ⟨[(0, .s (.ref 0 [])), (97, .v .bool)], [(0, (.osl (.int .i64)))]⟩) (.draw [⟨0, [81], [1], [], [], []⟩, ⟨1, [82], [81], [0], [], []⟩, ⟨2, [83], [82], [1], [], []⟩, ⟨3, [84], [4, 83], [2], [], []⟩, ⟨4, [85], [0, 83], [2], [500000], []⟩, ⟨5, [86], [1, 83], [2], [], []⟩, ⟨6, [87], [86, 83], [5, 2], [], []⟩, ⟨7, [88], [85, 87, 83], [4, 6, 2], [0], []⟩, ⟨8, [89], [88, 83], [7, 2], [0], []⟩, ⟨9, [90], [0, 83], [2], [500000], []⟩, ⟨10, [91], [13, 83], [2], [], []⟩, ⟨11, [92], [90, 91, 83], [9, 10, 2], [0], []⟩, ⟨12, [93], [92, 83], [11, 2], [0], []⟩, ⟨13, [94], [84, 89, 93, 83], [3, 8, 12, 2, 2], [], []⟩, ⟨14, [95], [94, 83], [13, 2], [], []⟩, ⟨15, [96], [95, 83], [14, 2], [], []⟩, ⟨16, [97], [83, 96], [2, 15], [], []⟩]) (.two .none (.two .none (.leaf) (.two .none (.leaf) (.leaf))) (.leaf))) (.two .none (.leaf) (.two .none (.leaf) (.two .none (.leaf) (.two .none (.leaf) (.two .none (.leaf) (.two .none (.two .none (.leaf) (.two .none (.leaf) (.leaf))) (.two .none (.leaf) (.two .none (.leaf) (.leaf))))))))))))))))))))))) Try.func59 (by kernel_rfl) (by kernel_rfl) (by kernel_rfl) Try.call59 (tbl_cons (ok59x0n n) (tbl_cons ok81x0 (tbl_cons ok80x0 (tbl_cons ok79x0 (tbl_cons ok78x0 (tbl_cons ok77x0 (tbl_cons ok76x0 (tbl_cons ok75x0 (tbl_cons ok74x0 (tbl_cons ok41x0 tbl_nil)))))))))) (by intro a; kernel_rfl)
noncomputable def F59x0 : Fun := ⟨59, [.m (.osl (.int .i64)), .v (.int .i64), .v (.int .i64), .v (.int .i64), .c 41 [(.ptr .bor (.slc .bor (.int .i64))), (.ptr .bor (.slc .bor (.int .i64)))]], [], d_slices_pdqsortCmpFunc_int_mem⟩
theorem ok59x0 : OkFun E F59x0 := fixO_ok ok59x0n
noncomputable def F40x0 : Fun := ⟨40, [.m (.osl (.int .i64)), .c 41 [(.ptr .bor (.slc .bor (.int .i64))), (.ptr .bor (.slc .bor (.int .i64)))]], [], d_slices_SortFunc_int_int_mem⟩
theorem ok40x0 : OkFun E F40x0 :=
  OkFun.of (fn := Try.f40) (rs := []) ((60, F60) :: (59, F59x0) :: []) [] [] (.keep [1] (.two .none (.leaf) (.leaf))) Try.func40 (by kernel_rfl) (by kernel_rfl) (by kernel_rfl) Try.call40 (tbl_cons ok60 (tbl_cons ok59x0 tbl_nil)) (by intro a; kernel_rfl)
noncomputable def F39x0 : Fun := ⟨39, [.m (.osl (.int .i64)), .v (.ptr .bor (.slc .bor (.int .i64))), .v (.ptr .bor (.slc .bor (.int .i64)))], [], d_memory_Best_1q_q0⟩
theorem ok39x0 : OkFun E F39x0 :=
  OkFun.of (fn := Try.f39) (rs := []) ((40, F40x0) :: []) [] [] (.keep [1, 2] (.leaf)) Try.func39 (by kernel_rfl) (by kernel_rfl) (by kernel_rfl) Try.call39 (tbl_cons ok40x0 tbl_nil) (by intro a; kernel_rfl)
noncomputable def F44x0n (n : Nat) : Fun := ⟨44, [.v (.int .i64), .v (.ptr .bor (.slc .bor (.slc .bor (.int .i64)))), .s 44 [1, 2, 3], .m (.optr (.osl (.int .i64)))], [], r_memory_Best_2q_q0 n⟩
theorem ok44x0n : ∀ n, OkFun E (F44x0n n)
  | 0 => ⟨Try.call44, fun _ _ h => by cases h⟩
  | n + 1 =>
    OkFun.ofT (fn := Try.f44) (rs := []) ((44, F44x0n n) :: []) [] [] (.keep [0, 1] (.two .none (.two .none (.leaf) (.one (.keep [10, 11] (.loop ⟨[(3, .s (.ref 3 [])), (12, .v (.int .i64))], [(3, (.optr (.osl (.int .i64))))]⟩ (.x 0 ⟨[(3, .s (.ref 3 []))], [(3, (.optr (.osl (.int .i64))))]⟩) (.two .none (.leaf) (.two .none (.two .none (.leaf) (.leaf)) (.two .none (.one (.two .none (.leaf) (.sc))) (.leaf)))))))) (.leaf))) [70] (fT_one (by kernel_rfl)) Try.func44 (by kernel_rfl) (by kernel_rfl) (by kernel_rfl) Try.call44 (tbl_cons (ok44x0n n) tbl_nil) (by intro a; kernel_rfl)
noncomputable def F44x0 : Fun := ⟨44, [.v (.int .i64), .v (.ptr .bor (.slc .bor (.slc .bor (.int .i64)))), .s 44 [1, 2, 3], .m (.optr (.osl (.int .i64)))], [], d_memory_Best_2q_q0⟩
theorem ok44x0 : OkFun E F44x0 := fixO_ok ok44x0n
noncomputable def F16 : Fun := ⟨16, [.v (.slc .bor (.st (.pr (.int .i64) (.pr (.int .i64) (.pr (.slc .bor (.int .i64)) (.pr (.int .i64) .nil))))))], [(.st (.pr (.slc .imm (.int .i64)) (.pr (.slc .imm (.int .i64)) (.pr (.slc .imm (.int .i64)) .nil)))), (.int .i64)], d_memory_Best⟩
theorem ok16 : OkFun E F16 :=
  OkFun.ofT (fn := Try.f16) (rs := [.cell 2 32, .tmp 3]) ((38, F38) :: (37, F37) :: (34, F34) :: (44, F44x0) :: (39, F39x0) :: []) [(2, (.st (.pr (.slc .imm (.int .i64)) (.pr (.slc .imm (.int .i64)) (.pr (.slc .imm (.int .i64)) .nil))))), (5, (.slc .imm (.int .i64))), (4, (.slc .imm (.int .i64))), (6, (.osl (.osl (.int .i64)))), (34, (.osl (.int .i64))), (8, (.osl (.int .i64))), (14, (.osl (.int .i64)))] [(4, 25000), (999999, 25001)] (.keep [0] (.two .none (.leaf) (.two .none (.two .none (.leaf) (.two .none (.two .none (.leaf) (.leaf)) (.leaf))) (.two .none (.leaf) (.two .none (.leaf) (.two .none (.leaf) (.two .none (.leaf) (.two .none (.two .none (.leaf) (.one (.keep [4, 37] (.loop ⟨[(2, .s (.ref 2 [])), (5, .s (.ref 5 [])), (6, .s (.ref 6 [])), (7, .s (.ref 7 [])), (8, .s (.ref 8 [])), (9, .s (.clo 39 [(.ref 8 []), (.ref 5 [])])), (38, .v (.int .i64))], [(2, (.optr (.st (.pr (.slc .imm (.int .i64)) (.pr (.slc .imm (.int .i64)) (.pr (.slc .imm (.int .i64)) .nil)))))), (5, (.optr (.slc .imm (.int .i64)))), (6, (.optr (.osl (.osl (.int .i64))))), (7, (.osl (.int .i64))), (8, (.optr (.osl (.int .i64))))]⟩ (.x 0 ⟨[(2, .s (.ref 2 [])), (5, .s (.ref 5 [])), (6, .s (.ref 6 [])), (7, .s (.ref 7 [])), (8, .s (.ref 8 [])), (9, .s (.clo 39 [(.ref 8 []), (.ref 5 [])]))], [(2, (.optr (.st (.pr (.slc .imm (.int .i64)) (.pr (.slc .imm (.int .i64)) (.pr (.slc .imm (.int .i64)) .nil)))))), (5, (.optr (.slc .imm (.int .i64)))), (6, (.optr (.osl (.osl (.int .i64))))), (7, (.osl (.int .i64))), (8, (.optr (.osl (.int .i64))))]⟩) (.two .none (.leaf) (.two .none (.two .none (.leaf) (.leaf)) (.two .none (.one (.two .none (.leaf) (.two .none (.leaf) (.two .none (.leaf) (.two .none (.two .none (.leaf) (.one (.keep [10, 38, 51] (.loop ⟨[(2, .s (.ref 2 [])), (5, .s (.ref 5 [])), (6, .s (.ref 6 [])), (7, .s (.ref 7 [])), (8, .s (.ref 8 [])), (9, .s (.clo 39 [(.ref 8 []), (.ref 5 [])])), (11, .v (.int .i64)), (50, .p 6 [.deref] []), (52, .v (.int .i64))], [(2, (.optr (.st (.pr (.slc .imm (.int .i64)) (.pr (.slc .imm (.int .i64)) (.pr (.slc .imm (.int .i64)) .nil)))))), (5, (.optr (.slc .imm (.int .i64)))), (6, (.optr (.osl (.osl (.int .i64))))), (7, (.osl (.int .i64))), (8, (.optr (.osl (.int .i64))))]⟩ (.x 2 ⟨[(2, .s (.ref 2 [])), (5, .s (.ref 5 [])), (6, .s (.ref 6 [])), (7, .s (.ref 7 [])), (8, .s (.ref 8 [])), (9, .s (.clo 39 [(.ref 8 []), (.ref 5 [])])), (11, .v (.int .i64))], [(2, (.optr (.st (.pr (.slc .imm (.int .i64)) (.pr (.slc .imm (.int .i64)) (.pr (.slc .imm (.int .i64)) .nil)))))), (5, (.optr (.slc .imm (.int .i64)))), (6, (.optr (.osl (.osl (.int .i64))))), (7, (.osl (.int .i64))), (8, (.optr (.osl (.int .i64))))]⟩) (.two .none (.leaf) (.two .none (.two .none (.leaf) (.leaf)) (.two .none (.one (.two .none (.leaf) (.two .none (.draw [⟨0, [56], [8], [], [8], []⟩, ⟨1, [57], [10], [], [], []⟩, ⟨2, [58], [8], [], [8], []⟩, ⟨3, [59], [10], [], [], []⟩, ⟨4, [60], [58, 59], [2, 3], [8], []⟩, ⟨5, [61], [60], [4], [8], []⟩, ⟨6, [62], [11], [], [], []⟩, ⟨7, [63], [8], [], [8], []⟩, ⟨8, [64], [13], [], [], []⟩, ⟨9, [65], [63, 64], [7, 8], [8], []⟩, ⟨10, [66], [65], [9], [8], []⟩, ⟨11, [67], [62, 66], [6, 10], [], []⟩, ⟨12, [68], [61, 67], [5, 11], [], []⟩, ⟨13, [69], [56, 57], [0, 1, 0, 1, 2, 3, 4, 5, 6, 7, 8, 9, 10, 11, 12], [8], []⟩, ⟨14, [], [69, 68], [13, 12, 0, 1, 2, 3, 4, 5, 6, 7, 8, 9, 10, 11, 12], [8], [8]⟩]) (.leaf)))) (.leaf)))))))) (.draw [⟨0, [77], [8], [], [8], []⟩, ⟨1, [78], [10], [], [], []⟩, ⟨2, [79], [8], [], [8], []⟩, ⟨3, [80], [10], [], [], []⟩, ⟨4, [81], [79, 80], [2, 3], [8], []⟩, ⟨5, [82], [81], [4], [8], []⟩, ⟨6, [83], [11], [], [], []⟩, ⟨7, [84], [4], [], [], []⟩, ⟨8, [85], [10], [], [], []⟩, ⟨9, [86], [84, 85], [7, 8], [], []⟩, ⟨10, [87], [86], [9], [], []⟩, ⟨11, [88], [83, 87], [6, 10], [], []⟩, ⟨12, [89], [82, 88], [5, 11], [], []⟩, ⟨13, [90], [77, 78], [0, 1, 0, 1, 2, 3, 4, 5, 6, 7, 8, 9, 10, 11, 12], [8], []⟩, ⟨14, [], [90, 89], [13, 12, 0, 1, 2, 3, 4, 5, 6, 7, 8, 9, 10, 11, 12], [8], [8]⟩])))))) (.leaf)))))))) (.two .none (.leaf) (.two .none (.leaf) (.mk (.two .none (.two .none (.leaf) (.one (.keep [97] (.loop ⟨[(2, .s (.ref 2 [])), (5, .s (.ref 5 [])), (6, .s (.ref 6 [])), (8, .s (.ref 8 [])), (14, .s (.ref 14 [])), (96, .s (.ref 7 [])), (98, .v (.int .i64))], [(2, (.optr (.st (.pr (.slc .imm (.int .i64)) (.pr (.slc .imm (.int .i64)) (.pr (.slc .imm (.int .i64)) .nil)))))), (5, (.optr (.slc .imm (.int .i64)))), (6, (.optr (.osl (.osl (.int .i64))))), (7, (.osl (.int .i64))), (8, (.optr (.osl (.int .i64)))), (14, (.optr (.osl (.int .i64))))]⟩ (.x 4 ⟨[(2, .s (.ref 2 [])), (5, .s (.ref 5 [])), (8, .s (.ref 8 [])), (14, .s (.ref 14 []))], [(2, (.optr (.st (.pr (.slc .imm (.int .i64)) (.pr (.slc .imm (.int .i64)) (.pr (.slc .imm (.int .i64)) .nil)))))), (5, (.optr (.slc .imm (.int .i64)))), (8, (.optr (.osl (.int .i64)))), (14, (.optr (.osl (.int .i64))))]⟩) (.two .none (.leaf) (.two .none (.two .none (.leaf) (.leaf)) (.two .none (.one (.two .none (.leaf) (.sc))) (.leaf)))))))) (.two .none (.fz [8, 14] (.leaf)) (.leaf)))))))))))))) [70] (fT_one (by kernel_rfl)) Try.func16 (by kernel_rfl) (by kernel_rfl) (by kernel_rfl) Try.call16 (tbl_cons ok38 (tbl_cons ok37 (tbl_cons ok34 (tbl_cons ok44x0 (tbl_cons ok39x0 tbl_nil))))) (by intro a; kernel_rfl)
noncomputable def F35 : Fun := ⟨35, [.v (.slc .bor (.int .i64))], [.bool], d_memory_permutation⟩
theorem ok35 : OkFun E F35 :=
  OkFun.of (fn := Try.f35) (rs := [.tmp 2]) ([]) [(8, (.osl .bool))] [] (.keep [0] (.two .none (.leaf) (.two .none (.leaf) (.two .none (.two .none (.leaf) (.one (.keep [9, 10] (.loop ⟨[(3, .s (.ref 3 [])), (11, .v (.int .i64))], [(3, (.osl .bool))]⟩ (.xr 0 ⟨[], []⟩) (.two .none (.leaf) (.two .none (.two .none (.leaf) (.leaf)) (.two (.xr [11] ⟨[(3, .s (.ref 3 []))], [(3, (.osl .bool))]⟩) (.one (.two .none (.leaf) (.two (.xr [5] ⟨[(3, .s (.ref 3 []))], [(3, (.osl .bool))]⟩) (.two .none (.leaf) (.two .none (.two .none (.leaf) (.leaf)) (.leaf))) (.leaf)))) (.leaf)))))))) (.two .none (.leaf) (.leaf)))))) Try.func35 (by kernel_rfl) (by kernel_rfl) (by kernel_rfl) Try.call35 tbl_nil (by intro a; kernel_rfl)
noncomputable def F36 : Fun := ⟨36, [.v (.slc .bor (.st (.pr (.int .i64) (.pr (.int .i64) (.pr (.slc .bor (.int .i64)) (.pr (.int .i64) .nil)))))), .v (.slc .bor (.int .i64))], [.bool], d_memory_processing⟩
theorem ok36 : OkFun E F36 :=
  OkFun.of (fn := Try.f36) (rs := [.tmp 4]) ([]) [(17, (.osl (.int .i64))), (20, (.osl (.int .i64))), (23, (.osl (.int .i64))), (12, (.st (.pr (.int .i64) (.pr (.int .i64) (.pr (.slc .bor (.int .i64)) (.pr (.int .i64) .nil))))))] [] (.keep [0, 1] (.two .none (.leaf) (.two .none (.draw [⟨0, [15], [0], [], [], []⟩, ⟨1, [16], [15], [0], [], []⟩, ⟨2, [17], [16, 16], [1, 1], [17], [17]⟩, ⟨3, [18], [0], [], [], []⟩, ⟨4, [19], [18], [3], [], []⟩, ⟨5, [20], [19, 19], [4, 4], [20], [20]⟩, ⟨6, [5], [17], [2, 0, 1, 2], [5, 17], [5, 17, 500005, 500017]⟩, ⟨7, [6], [20], [5, 6, 0, 1, 2, 3, 4, 5, 6], [6, 20], [6, 20, 500006, 500020]⟩]) (.two .none (.leaf) (.two .none (.two .none (.leaf) (.one (.keep [24, 25] (.loop ⟨[(5, .s (.ref 5 [])), (6, .s (.ref 6 [])), (7, .s (.ref 7 [])), (26, .v (.int .i64))], [(5, (.osl (.int .i64))), (6, (.osl (.int .i64))), (7, (.osl (.int .i64)))]⟩ (.x 0 ⟨[(5, .s (.ref 5 [])), (6, .s (.ref 6 [])), (7, .s (.ref 7 []))], [(5, (.osl (.int .i64))), (6, (.osl (.int .i64))), (7, (.osl (.int .i64)))]⟩) (.two .none (.leaf) (.two .none (.two .none (.leaf) (.leaf)) (.two .none (.one (.two .none (.leaf) (.leaf))) (.leaf)))))))) (.two .none (.two .none (.leaf) (.one (.keep [37] (.loop ⟨[(5, .s (.ref 5 [])), (6, .s (.ref 6 [])), (7, .s (.ref 7 [])), (38, .v (.int .i64))], [(5, (.osl (.int .i64))), (6, (.osl (.int .i64))), (7, (.osl (.int .i64)))]⟩ (.x 2 ⟨[(5, .s (.ref 5 [])), (6, .s (.ref 6 [])), (7, .s (.ref 7 []))], [(5, (.osl (.int .i64))), (6, (.osl (.int .i64))), (7, (.osl (.int .i64)))]⟩) (.two .none (.leaf) (.two .none (.two .none (.leaf) (.leaf)) (.two .none (.one (.two .none (.leaf) (.leaf))) (.leaf)))))))) (.two .none (.two .none (.leaf) (.one (.keep [49, 50] (.loop ⟨[(5, .s (.ref 5 [])), (6, .s (.ref 6 [])), (7, .s (.ref 7 [])), (51, .v (.int .i64))], [(5, (.osl (.int .i64))), (6, (.osl (.int .i64))), (7, (.osl (.int .i64)))]⟩ (.xr 4 ⟨[(5, .s (.ref 5 [])), (6, .s (.ref 6 [])), (7, .s (.ref 7 []))], [(5, (.osl (.int .i64))), (6, (.osl (.int .i64))), (7, (.osl (.int .i64)))]⟩) (.two .none (.leaf) (.two .none (.two .none (.leaf) (.leaf)) (.two (.xr [51] ⟨[(5, .s (.ref 5 [])), (6, .s (.ref 6 [])), (7, .s (.ref 7 []))], [(5, (.osl (.int .i64))), (6, (.osl (.int .i64))), (7, (.osl (.int .i64)))]⟩) (.one (.two .none (.leaf) (.two .none (.leaf) (.two .none (.leaf) (.two .none (.leaf) (.two .none (.two .none (.two .none (.draw [⟨0, [66], [7], [], [500007], []⟩, ⟨1, [67], [13], [], [], []⟩, ⟨2, [68], [66, 67], [0, 1], [7], []⟩, ⟨3, [69], [68], [2], [7], []⟩, ⟨4, [70], [7], [], [500007], []⟩, ⟨5, [71], [11], [], [], []⟩, ⟨6, [72], [70, 71], [4, 5], [7], []⟩, ⟨7, [73], [72], [6], [7], []⟩, ⟨8, [74], [69, 73], [3, 7], [], []⟩]) (.two .none (.two .none (.leaf) (.leaf)) (.leaf))) (.two .none (.draw [⟨0, [75], [5], [], [500005], []⟩, ⟨1, [76], [13], [], [], []⟩, ⟨2, [77], [75, 76], [0, 1], [5], []⟩, ⟨3, [78], [77], [2], [5], []⟩, ⟨4, [79], [5], [], [500005], []⟩, ⟨5, [80], [11], [], [], []⟩, ⟨6, [81], [79, 80], [4, 5], [5], []⟩, ⟨7, [82], [81], [6], [5], []⟩, ⟨8, [83], [78, 82], [3, 7], [], []⟩, ⟨9, [84], [75, 76], [0, 1, 0, 1, 2, 3, 4, 5, 6, 7, 8], [5], []⟩, ⟨10, [], [84, 83], [9, 8, 0, 1, 2, 3, 4, 5, 6, 7, 8], [5], [5]⟩]) (.draw [⟨0, [85], [6], [], [500006], []⟩, ⟨1, [86], [13], [], [], []⟩, ⟨2, [87], [6], [], [500006], []⟩, ⟨3, [88], [13], [], [], []⟩, ⟨4, [89], [87, 88], [2, 3], [6], []⟩, ⟨5, [90], [89], [4], [6], []⟩, ⟨6, [91], [6], [], [500006], []⟩, ⟨7, [92], [11], [], [], []⟩, ⟨8, [93], [91, 92], [6, 7], [6], []⟩, ⟨9, [94], [93], [8], [6], []⟩, ⟨10, [95], [90, 94], [5, 9], [], []⟩, ⟨11, [96], [85, 86], [0, 1, 0, 1, 2, 3, 4, 5, 6, 7, 8, 9, 10], [6], []⟩, ⟨12, [], [96, 95], [11, 10, 0, 1, 2, 3, 4, 5, 6, 7, 8, 9, 10], [6], [6]⟩]))) (.leaf))))))) (.leaf)))))))) (.two .none (.two .none (.leaf) (.one (.keep [99] (.loop ⟨[(5, .s (.ref 5 [])), (6, .s (.ref 6 [])), (7, .s (.ref 7 [])), (100, .v (.int .i64))], [(5, (.osl (.int .i64))), (6, (.osl (.int .i64))), (7, (.osl (.int .i64)))]⟩ (.xr 6 ⟨[], []⟩) (.two .none (.leaf) (.two .none (.two .none (.leaf) (.leaf)) (.two .none (.one (.two .none (.leaf) (.two .none (.draw [⟨0, [103], [7], [], [500007], []⟩, ⟨1, [104], [14], [], [], []⟩, ⟨2, [105], [103, 104], [0, 1], [7], []⟩, ⟨3, [106], [105], [2], [7], []⟩, ⟨4, [107], [6], [], [500006], []⟩, ⟨5, [108], [14], [], [], []⟩, ⟨6, [109], [107, 108], [4, 5], [6], []⟩, ⟨7, [110], [109], [6], [6], []⟩, ⟨8, [111], [106, 110], [3, 7], [], []⟩, ⟨9, [112], [111], [8], [], []⟩, ⟨10, [113], [5], [], [500005], []⟩, ⟨11, [114], [14], [], [], []⟩, ⟨12, [115], [113, 114], [10, 11], [5], []⟩, ⟨13, [116], [115], [12], [5], []⟩, ⟨14, [117], [112, 116], [9, 13], [], []⟩]) (.two .none (.two .none (.leaf) (.leaf)) (.leaf))))) (.leaf)))))))) (.two .none (.leaf) (.leaf)))))))))) Try.func36 (by kernel_rfl) (by kernel_rfl) (by kernel_rfl) Try.call36 tbl_nil (by intro a; kernel_rfl)
noncomputable def F14 : Fun := ⟨14, [.v (.slc .bor (.st (.pr (.int .i64) (.pr (.int .i64) (.pr (.slc .bor (.int .i64)) (.pr (.int .i64) .nil)))))), .v (.slc .bor (.int .i64))], [(.int .i64), (.int .i64)], d_memory_Simulate⟩
theorem ok14 : OkFun E F14 :=
  OkFun.of (fn := Try.f14) (rs := [.tmp 4, .tmp 5]) ((38, F38) :: (37, F37) :: (36, F36) :: (35, F35) :: (34, F34) :: []) [(6, (.slc .imm (.int .i64))), (7, (.slc .imm (.int .i64))), (8, (.slc .imm (.slc .imm (.int .i64)))), (9, (.slc .imm (.int .i64)))] [(6, 38000), (7, 38001), (8, 43000), (9, 43001)] (.keep [0, 1] (.two .none (.leaf) (.two .none (.one (.two .none (.leaf) (.two .none (.two .none (.leaf) (.leaf)) (.two .none (.leaf) (.two .none (.two .none (.leaf) (.leaf)) (.two .none (.leaf) (.two .none (.two .none (.leaf) (.leaf)) (.two .none (.leaf) (.two .none (.two .none (.leaf) (.leaf)) (.leaf)))))))))) (.two .none (.leaf) (.two .none (.leaf) (.two .none (.leaf) (.two .none (.two .none (.leaf) (.one (.keep [6, 7, 8, 45, 46] (.loop ⟨[(10, .v (.int .i64)), (11, .v (.int .i64)), (47, .v (.int .i64))], []⟩ (.x 1 ⟨[(11, .v (.int .i64))], []⟩) (.two .none (.leaf) (.two .none (.two .none (.leaf) (.leaf)) (.two .none (.one (.two .none (.leaf) (.two .none (.leaf) (.two .none (.two .none (.leaf) (.one (.keep [11, 13, 47, 62, 63] (.loop ⟨[(10, .v (.int .i64)), (64, .v (.int .i64))], []⟩ (.x 3 ⟨[(10, .v (.int .i64))], []⟩) (.two .none (.leaf) (.two .none (.two .none (.leaf) (.leaf)) (.two .none (.one (.two .none (.leaf) (.leaf))) (.leaf)))))))) (.leaf))))) (.leaf)))))))) (.two .none (.leaf) (.leaf))))))))) Try.func14 (by kernel_rfl) (by kernel_rfl) (by kernel_rfl) Try.call14 (tbl_cons ok38 (tbl_cons ok37 (tbl_cons ok36 (tbl_cons ok35 (tbl_cons ok34 tbl_nil))))) (by intro a; kernel_rfl)
noncomputable def F27 : Fun := ⟨27, [.v (.slc .bor (.int .i64)), .v (.slc .bor (.int .i64))], [.bool], d_sparsekit_Ints⟩
theorem ok27 : OkFun E F27 :=
  OkFun.of (fn := Try.f27) (rs := [.tmp 4]) ([]) [] [] (.keep [0, 1] (.two .none (.leaf) (.two .none (.two .none (.leaf) (.two .none (.two .none (.leaf) (.leaf)) (.leaf))) (.two .none (.two .none (.leaf) (.one (.loop ⟨[(5, .v (.int .i64))], []⟩ (.xr 0 ⟨[], []⟩) (.two .none (.two .none (.leaf) (.two .none (.leaf) (.leaf))) (.two .none (.one (.two .none (.draw [⟨0, [17], [0], [], [], []⟩, ⟨1, [18], [5], [], [], []⟩, ⟨2, [19], [17, 18], [0, 1], [], []⟩, ⟨3, [20], [19], [2], [], []⟩, ⟨4, [21], [1], [], [], []⟩, ⟨5, [22], [5], [], [], []⟩, ⟨6, [23], [21, 22], [4, 5], [], []⟩, ⟨7, [24], [23], [6], [], []⟩, ⟨8, [25], [20, 24], [3, 7], [], []⟩]) (.two .none (.two .none (.leaf) (.leaf)) (.leaf)))) (.leaf)))))) (.two .none (.leaf) (.leaf)))))) Try.func27 (by kernel_rfl) (by kernel_rfl) (by kernel_rfl) Try.call27 tbl_nil (by intro a; kernel_rfl)
noncomputable def F11 : Fun := ⟨11, [], [.bool], d_sparselaw22q_awake⟩
theorem ok11 : OkFun E F11 :=
  OkFun.of (fn := Try.f11) (rs := [.tmp 0]) ((27, F27) :: (16, F16) :: (14, F14) :: []) [(1, (.slc .imm (.st (.pr (.int .i64) (.pr (.int .i64) (.pr (.slc .imm (.int .i64)) (.pr (.int .i64) .nil))))))), (2, (.st (.pr (.slc .imm (.int .i64)) (.pr (.slc .imm (.int .i64)) (.pr (.slc .imm (.int .i64)) .nil)))))] [(1, 12), (7, 6), (9, 8), (11, 10)] (.two .none (.leaf) (.two .none (.leaf) (.two .none (.leaf) (.two .none (.leaf) (.two .none (.leaf) (.leaf)))))) Try.func11 (by kernel_rfl) (by kernel_rfl) (by kernel_rfl) Try.call11 (tbl_cons ok27 (tbl_cons ok16 (tbl_cons ok14 tbl_nil))) (by intro a; kernel_rfl)
noncomputable def F19 : Fun := ⟨19, [.v (.slc .bor (.int .i64)), .v (.int .i64)], [.bool], d_sparsekit_Perm⟩
theorem ok19 : OkFun E F19 :=
  OkFun.of (fn := Try.f19) (rs := [.tmp 4]) ([]) [(12, (.osl .bool))] [] (.keep [0, 1] (.two .none (.leaf) (.two .none (.two .none (.leaf) (.two .none (.two .none (.leaf) (.leaf)) (.leaf))) (.two .none (.leaf) (.two .none (.two .none (.leaf) (.one (.loop ⟨[(5, .s (.ref 5 [])), (6, .v (.int .i64))], [(5, (.osl .bool))]⟩ (.xr 0 ⟨[], []⟩) (.two .none (.two .none (.leaf) (.two .none (.leaf) (.leaf))) (.two (.xr [6] ⟨[(5, .s (.ref 5 []))], [(5, (.osl .bool))]⟩) (.one (.two (.xr [] ⟨[(5, .s (.ref 5 []))], [(5, (.osl .bool))]⟩) (.two .none (.leaf) (.two .none (.two .none (.leaf) (.leaf)) (.leaf))) (.leaf))) (.leaf)))))) (.two .none (.leaf) (.leaf))))))) Try.func19 (by kernel_rfl) (by kernel_rfl) (by kernel_rfl) Try.call19 tbl_nil (by intro a; kernel_rfl)
noncomputable def F24 : Fun := ⟨24, [.v (.slc .bor (.st (.pr (.int .i64) (.pr (.int .i64) (.pr (.slc .bor (.int .i64)) (.pr (.int .i64) .nil))))))], [(.osl (.int .i64)), (.osl (.int .i64)), (.int .i64)], d_memory_Sizes⟩
theorem ok24 : OkFun E F24 :=
  OkFun.of (fn := Try.f24) (rs := [.tmp 2, .tmp 3, .tmp 4]) ((37, F37) :: (34, F34) :: []) [(2, (.osl (.int .i64))), (3, (.osl (.int .i64)))] [] (.keep [0] (.two .none (.leaf) (.two .none (.two .none (.leaf) (.two .none (.two .none (.leaf) (.leaf)) (.leaf))) (.two .none (.leaf) (.two .none (.leaf) (.leaf)))))) Try.func24 (by kernel_rfl) (by kernel_rfl) (by kernel_rfl) Try.call24 (tbl_cons ok37 (tbl_cons ok34 tbl_nil)) (by intro a; kernel_rfl)
noncomputable def F62 : Fun := ⟨62, [.v (.slc .bor (.slc .bor .bool))], [(.st (.pr (.osl (.slc .imm (.int .i64))) .nil))], d_sparseref12q_FromTable⟩
theorem ok62 : OkFun E F62 :=
  OkFun.of (fn := Try.f62) (rs := [.cell 2 53]) ([]) [(2, (.st (.pr (.osl (.slc .imm (.int .i64))) .nil))), (3, (.st (.pr (.osl (.slc .imm (.int .i64))) .nil))), (5, (.osl (.int .i64)))] [] (.keep [0] (.two .none (.leaf) (.two .none (.leaf) (.two .none (.two .none (.leaf) (.one (.loop ⟨[(2, .s (.ref 2 [])), (3, .s (.ref 3 [])), (4, .v (.int .i64))], [(2, (.optr (.st (.pr (.osl (.slc .imm (.int .i64))) .nil)))), (3, (.optr (.st (.pr (.osl (.slc .imm (.int .i64))) .nil))))]⟩ (.x 0 ⟨[(2, .s (.ref 2 [])), (3, .s (.ref 3 []))], [(2, (.optr (.st (.pr (.osl (.slc .imm (.int .i64))) .nil)))), (3, (.optr (.st (.pr (.osl (.slc .imm (.int .i64))) .nil))))]⟩) (.two .none (.two .none (.leaf) (.two .none (.leaf) (.leaf))) (.two .none (.one (.two .none (.leaf) (.two .none (.two .none (.leaf) (.one (.keep [4] (.loop ⟨[(2, .s (.ref 2 [])), (3, .s (.ref 3 [])), (5, .s (.ref 5 [])), (6, .v (.int .i64))], [(2, (.optr (.st (.pr (.osl (.slc .imm (.int .i64))) .nil)))), (3, (.optr (.st (.pr (.osl (.slc .imm (.int .i64))) .nil)))), (5, (.osl (.int .i64)))]⟩ (.x 2 ⟨[(2, .s (.ref 2 [])), (3, .s (.ref 3 [])), (5, .s (.ref 5 []))], [(2, (.optr (.st (.pr (.osl (.slc .imm (.int .i64))) .nil)))), (3, (.optr (.st (.pr (.osl (.slc .imm (.int .i64))) .nil)))), (5, (.osl (.int .i64)))]⟩) (.two .none (.two .none (.leaf) (.two .none (.leaf) (.leaf))) (.two (.x [6] ⟨[(2, .s (.ref 2 [])), (3, .s (.ref 3 [])), (5, .s (.ref 5 []))], [(2, (.optr (.st (.pr (.osl (.slc .imm (.int .i64))) .nil)))), (3, (.optr (.st (.pr (.osl (.slc .imm (.int .i64))) .nil)))), (5, (.osl (.int .i64)))]⟩) (.one (.two (.x [] ⟨[(2, .s (.ref 2 [])), (3, .s (.ref 3 [])), (5, .s (.ref 5 [])), (39, .v .bool)], [(2, (.optr (.st (.pr (.osl (.slc .imm (.int .i64))) .nil)))), (3, (.optr (.st (.pr (.osl (.slc .imm (.int .i64))) .nil)))), (5, (.osl (.int .i64)))]⟩) (.leaf) (.two .none (.leaf) (.leaf)))) (.leaf))))))) (.fz [5] (.leaf))))) (.leaf)))))) (.two .none (.leaf) (.leaf)))))) Try.func62 (by kernel_rfl) (by kernel_rfl) (by kernel_rfl) Try.call62 tbl_nil (by intro a; kernel_rfl)
noncomputable def F49 : Fun := ⟨49, [.v (.int .i64), .v (.slc .bor (.int .i64))], [(.st (.pr (.slc .imm (.slc .imm (.int .i64))) .nil))], d_sparsemake_Graph⟩
theorem ok49 : OkFun E F49 :=
  OkFun.of (fn := Try.f49) (rs := [.cell 4 53]) ((62, F62) :: (10, F10) :: []) [(4, (.st (.pr (.slc .imm (.slc .imm (.int .i64))) .nil))), (5, (.osl (.osl .bool))), (15, (.osl .bool)), (16, (.osl (.osl .bool)))] [(999999, 47)] (.keep [0, 1] (.two .none (.leaf) (.two .none (.leaf) (.two .none (.two .none (.leaf) (.one (.loop ⟨[(4, .s (.ref 4 [])), (5, .s (.ref 5 [])), (6, .v (.int .i64))], [(4, (.optr (.st (.pr (.slc .imm (.slc .imm (.int .i64))) .nil)))), (5, (.osl (.osl .bool)))]⟩ (.x 0 ⟨[(4, .s (.ref 4 [])), (5, .s (.ref 5 []))], [(4, (.optr (.st (.pr (.slc .imm (.slc .imm (.int .i64))) .nil)))), (5, (.osl (.osl .bool)))]⟩) (.two .none (.two .none (.leaf) (.two .none (.leaf) (.leaf))) (.two .none (.one (.leaf)) (.leaf)))))) (.two .none (.two .none (.leaf) (.one (.loop ⟨[(4, .s (.ref 4 [])), (5, .s (.ref 5 [])), (7, .v (.int .i64))], [(4, (.optr (.st (.pr (.slc .imm (.slc .imm (.int .i64))) .nil)))), (5, (.osl (.osl .bool)))]⟩ (.x 2 ⟨[(4, .s (.ref 4 [])), (5, .s (.ref 5 []))], [(4, (.optr (.st (.pr (.slc .imm (.slc .imm (.int .i64))) .nil)))), (5, (.osl (.osl .bool)))]⟩) (.two (.xr [7] ⟨[(4, .s (.ref 4 [])), (5, .s (.ref 5 []))], [(4, (.optr (.st (.pr (.slc .imm (.slc .imm (.int .i64))) .nil)))), (5, (.osl (.osl .bool)))]⟩) (.two .none (.leaf) (.two .none (.leaf) (.leaf))) (.two .none (.one (.draw [⟨0, [29], [5], [], [500005], []⟩, ⟨1, [30], [1], [], [], []⟩, ⟨2, [31], [7], [], [], []⟩, ⟨3, [32], [30, 31], [1, 2], [], []⟩, ⟨4, [33], [32], [3], [], []⟩, ⟨5, [34], [0], [], [], []⟩, ⟨6, [35], [33, 34], [4, 5], [], []⟩, ⟨7, [36], [29, 35], [0, 6], [5], []⟩, ⟨8, [37], [36], [7], [5], []⟩, ⟨9, [38], [1], [], [], []⟩, ⟨10, [39], [7], [], [], []⟩, ⟨11, [40], [39], [10], [], []⟩, ⟨12, [41], [38, 40], [9, 11], [], []⟩, ⟨13, [42], [41], [12], [], []⟩, ⟨14, [43], [0], [], [], []⟩, ⟨15, [44], [42, 43], [13, 14, 6], [], []⟩, ⟨16, [45], [37, 44], [8, 15, 0, 1, 2, 3, 4, 5, 6, 7, 8, 9, 10, 11, 12, 13, 14, 15], [5], []⟩, ⟨17, [], [45], [16, 15, 0, 1, 2, 3, 4, 5, 6, 7, 8, 9, 10, 11, 12, 13, 14, 15], [5], [5]⟩])) (.leaf)))))) (.two .none (.leaf) (.leaf))))))) Try.func49 (by kernel_rfl) (by kernel_rfl) (by kernel_rfl) Try.call49 (tbl_cons ok62 (tbl_cons ok10 tbl_nil)) (by intro a; kernel_rfl)
noncomputable def F84 : Fun := ⟨84, [.v (.slc .bor (.int .i64))], [.bool], d_sparsekit_Ascending⟩
theorem ok84 : OkFun E F84 :=
  OkFun.of (fn := Try.f84) (rs := [.tmp 2]) ([]) [] [] (.keep [0] (.two .none (.leaf) (.two .none (.two .none (.leaf) (.one (.loop ⟨[(3, .v (.int .i64))], []⟩ (.xr 0 ⟨[], []⟩) (.two .none (.two .none (.leaf) (.two .none (.leaf) (.leaf))) (.two .none (.one (.two .none (.draw [⟨0, [10], [0], [], [], []⟩, ⟨1, [11], [3], [], [], []⟩, ⟨2, [12], [10, 11], [0, 1], [], []⟩, ⟨3, [13], [12], [2], [], []⟩, ⟨4, [14], [0], [], [], []⟩, ⟨5, [15], [3], [], [], []⟩, ⟨6, [16], [15], [5], [], []⟩, ⟨7, [17], [14, 16], [4, 6], [], []⟩, ⟨8, [18], [17], [7], [], []⟩, ⟨9, [19], [13, 18], [3, 8], [], []⟩]) (.two .none (.two .none (.leaf) (.leaf)) (.leaf)))) (.leaf)))))) (.two .none (.leaf) (.leaf))))) Try.func84 (by kernel_rfl) (by kernel_rfl) (by kernel_rfl) Try.call84 tbl_nil (by intro a; kernel_rfl)
noncomputable def F85 : Fun := ⟨85, [.v (.slc .bor (.int .i64)), .v (.int .i64)], [.bool], d_sparsekit_In⟩
theorem ok85 : OkFun E F85 :=
  OkFun.of (fn := Try.f85) (rs := [.tmp 4]) ([]) [] [] (.keep [0, 1] (.two .none (.leaf) (.two .none (.two .none (.leaf) (.one (.loop ⟨[(5, .v (.int .i64))], []⟩ (.xr 0 ⟨[], []⟩) (.two .none (.two .none (.leaf) (.two .none (.leaf) (.leaf))) (.two .none (.one (.two .none (.leaf) (.two .none (.two .none (.leaf) (.leaf)) (.leaf)))) (.leaf)))))) (.two .none (.leaf) (.leaf))))) Try.func85 (by kernel_rfl) (by kernel_rfl) (by kernel_rfl) Try.call85 tbl_nil (by intro a; kernel_rfl)
noncomputable def F63 : Fun := ⟨63, [.v (.st (.pr (.slc .bor (.slc .bor (.int .i64))) .nil))], [(.int .i64)], d_sparseref12q_Check⟩
theorem ok63 : OkFun E F63 :=
  OkFun.of (fn := Try.f63) (rs := [.tmp 2]) ((85, F85) :: (84, F84) :: []) [(1, (.ptr .imm (.st (.pr (.slc .bor (.slc .bor (.int .i64))) .nil))))] [] (.keep [0] (.two .none (.leaf) (.two .none (.leaf) (.two .none (.two .none (.leaf) (.two .none (.two .none (.leaf) (.leaf)) (.leaf))) (.two .none (.two .none (.leaf) (.one (.keep [1, 3] (.loop ⟨[(4, .v (.int .i64))], []⟩ (.xr 0 ⟨[], []⟩) (.two .none (.two .none (.leaf) (.two .none (.leaf) (.leaf))) (.two .none (.one (.two .none (.two .none (.leaf) (.two .none (.two .none (.leaf) (.leaf)) (.leaf))) (.two .none (.leaf) (.one (.keep [4] (.loop ⟨[(5, .v (.int .i64))], []⟩ (.xr 2 ⟨[], []⟩) (.two .none (.two .none (.leaf) (.two .none (.leaf) (.leaf))) (.two (.xr [5] ⟨[], []⟩) (.one (.two .none (.leaf) (.two .none (.leaf) (.two .none (.two .none (.leaf) (.leaf)) (.leaf))))) (.leaf))))))))) (.leaf))))))) (.two .none (.leaf) (.leaf))))))) Try.func63 (by kernel_rfl) (by kernel_rfl) (by kernel_rfl) Try.call63 (tbl_cons ok85 (tbl_cons ok84 tbl_nil)) (by intro a; kernel_rfl)
noncomputable def F86 : Fun := ⟨86, [.v (.st (.pr (.slc .bor (.slc .bor (.int .i64))) .nil))], [(.osl (.osl .bool))], d_sparseref12q_Table⟩
theorem ok86 : OkFun E F86 :=
  OkFun.of (fn := Try.f86) (rs := [.tmp 2]) ([]) [(1, (.ptr .imm (.st (.pr (.slc .bor (.slc .bor (.int .i64))) .nil)))), (4, (.osl (.osl .bool))), (17, (.osl .bool)), (40, (.osl (.osl .bool)))] [] (.keep [0] (.two .none (.leaf) (.two .none (.leaf) (.two .none (.leaf) (.two .none (.two .none (.leaf) (.one (.keep [1, 3] (.loop ⟨[(4, .s (.ref 4 [])), (5, .v (.int .i64))], [(4, (.osl (.osl .bool)))]⟩ (.x 0 ⟨[(4, .s (.ref 4 []))], [(4, (.osl (.osl .bool)))]⟩) (.two .none (.two .none (.leaf) (.two .none (.leaf) (.leaf))) (.two .none (.one (.two .none (.leaf) (.two .none (.two .none (.leaf) (.one (.keep [5] (.loop ⟨[(4, .s (.ref 4 [])), (6, .s (.ref 6 [])), (7, .v (.int .i64))], [(4, (.osl (.osl .bool))), (6, (.osl .bool))]⟩ (.x 2 ⟨[(4, .s (.ref 4 [])), (6, .s (.ref 6 []))], [(4, (.osl (.osl .bool))), (6, (.osl .bool))]⟩) (.two .none (.two .none (.leaf) (.two .none (.leaf) (.leaf))) (.two .none (.one (.leaf)) (.leaf))))))) (.leaf)))) (.leaf))))))) (.two .none (.leaf) (.leaf))))))) Try.func86 (by kernel_rfl) (by kernel_rfl) (by kernel_rfl) Try.call86 tbl_nil (by intro a; kernel_rfl)
noncomputable def F64 : Fun := ⟨64, [.v (.st (.pr (.slc .bor (.slc .bor (.int .i64))) .nil))], [(.optr (.st (.pr (.osl (.osl .bool)) (.pr (.osl .bool) .nil))))], d_sparseref16q_Begin⟩
theorem ok64 : OkFun E F64 :=
  OkFun.of (fn := Try.f64) (rs := [.tmp 2]) ((86, F86) :: []) [(1, (.ptr .imm (.st (.pr (.slc .bor (.slc .bor (.int .i64))) .nil)))), (8, (.osl .bool))] [] (.keep [0] (.two .none (.leaf) (.two .none (.draw [⟨0, [3], [1], [], [], []⟩, ⟨1, [4], [3], [0], [4], [4]⟩, ⟨2, [5], [1], [], [], []⟩, ⟨3, [6], [5], [2], [], []⟩, ⟨4, [7], [6], [3], [], []⟩, ⟨5, [8], [7, 7], [4, 4], [8], [8]⟩, ⟨6, [9], [4, 8], [1, 5], [4, 8, 9], [4, 8, 9, 500004, 500008]⟩, ⟨7, [10], [9], [6], [9, 10], [9, 10, 500009]⟩, ⟨8, [2], [10], [7, 1, 0, 1, 2, 3, 4, 5, 6, 7], [2, 10], [2, 10, 500002, 500010]⟩]) (.leaf)))) Try.func64 (by kernel_rfl) (by kernel_rfl) (by kernel_rfl) Try.call64 (tbl_cons ok86 tbl_nil) (by intro a; kernel_rfl)
noncomputable def F65 : Fun := ⟨65, [.v (.ptr .bor (.st (.pr (.slc .bor (.slc .bor .bool)) (.pr (.slc .bor .bool) .nil)))), .v (.int .i64)], [(.osl (.int .i64))], d_sparseref16q_Elimination_Neighbours⟩
theorem ok65 : OkFun E F65 :=
  OkFun.of (fn := Try.f65) (rs := [.tmp 4]) ([]) [(5, (.osl (.int .i64)))] [] (.keep [0, 1] (.two .none (.leaf) (.two .none (.leaf) (.two .none (.two .none (.leaf) (.one (.loop ⟨[(5, .s (.ref 5 [])), (6, .v (.int .i64))], [(5, (.osl (.int .i64)))]⟩ (.x 0 ⟨[(5, .s (.ref 5 []))], [(5, (.osl (.int .i64)))]⟩) (.two .none (.two .none (.leaf) (.two .none (.leaf) (.leaf))) (.two (.x [6] ⟨[(5, .s (.ref 5 []))], [(5, (.osl (.int .i64)))]⟩) (.one (.two (.x [] ⟨[(5, .s (.ref 5 [])), (35, .v .bool)], [(5, (.osl (.int .i64)))]⟩) (.leaf) (.two .none (.leaf) (.leaf)))) (.leaf)))))) (.two .none (.leaf) (.leaf)))))) Try.func65 (by kernel_rfl) (by kernel_rfl) (by kernel_rfl) Try.call65 tbl_nil (by intro a; kernel_rfl)
noncomputable def F66 : Fun := ⟨66, [.m (.optr (.st (.pr (.osl (.osl .bool)) (.pr (.osl .bool) .nil)))), .v (.int .i64)], [], d_sparseref16q_Elimination_Eliminate⟩
theorem ok66 : OkFun E F66 :=
  OkFun.of (fn := Try.f66) (rs := []) ((65, F65) :: []) [(4, (.slc .imm (.int .i64)))] [(4, 9)] (.keep [1] (.two .none (.leaf) (.two .none (.two .none (.leaf) (.one (.keep [4] (.loop ⟨[(0, .s (.ref 0 [])), (5, .v (.int .i64))], [(0, (.optr (.st (.pr (.osl (.osl .bool)) (.pr (.osl .bool) .nil)))))]⟩ (.x 0 ⟨[(0, .s (.ref 0 []))], [(0, (.optr (.st (.pr (.osl (.osl .bool)) (.pr (.osl .bool) .nil)))))]⟩) (.two .none (.two .none (.leaf) (.two .none (.leaf) (.leaf))) (.two .none (.one (.two .none (.leaf) (.one (.keep [5] (.loop ⟨[(0, .s (.ref 0 [])), (6, .v (.int .i64))], [(0, (.optr (.st (.pr (.osl (.osl .bool)) (.pr (.osl .bool) .nil)))))]⟩ (.x 2 ⟨[(0, .s (.ref 0 []))], [(0, (.optr (.st (.pr (.osl (.osl .bool)) (.pr (.osl .bool) .nil)))))]⟩) (.two .none (.two .none (.leaf) (.two .none (.leaf) (.leaf))) (.two (.x [6] ⟨[(0, .s (.ref 0 []))], [(0, (.optr (.st (.pr (.osl (.osl .bool)) (.pr (.osl .bool) .nil)))))]⟩) (.one (.two .none (.leaf) (.two .none (.draw [⟨0, [25], [0], [], [500000], []⟩, ⟨1, [26], [25], [0], [0], []⟩, ⟨2, [27], [26], [1], [0], []⟩, ⟨3, [28], [27], [2], [0], []⟩, ⟨4, [29], [4], [], [], []⟩, ⟨5, [30], [5], [], [], []⟩, ⟨6, [31], [29, 30], [4, 5], [], []⟩, ⟨7, [32], [31], [6], [], []⟩, ⟨8, [33], [28, 32], [3, 7], [0], []⟩, ⟨9, [34], [33], [8], [0], []⟩, ⟨10, [35], [4], [], [], []⟩, ⟨11, [36], [6], [], [], []⟩, ⟨12, [37], [35, 36], [10, 11], [], []⟩, ⟨13, [38], [37], [12], [], []⟩, ⟨14, [39], [34, 38], [9, 13, 0, 1, 2, 3, 4, 5, 6, 7, 8, 9, 10, 11, 12, 13], [0], []⟩, ⟨15, [], [39], [14, 0, 1, 2, 3, 4, 5, 6, 7, 8, 9, 10, 11, 12, 13], [0], [0]⟩]) (.leaf)))) (.leaf)))))))) (.leaf))))))) (.leaf)))) Try.func66 (by kernel_rfl) (by kernel_rfl) (by kernel_rfl) Try.call66 (tbl_cons ok65 tbl_nil) (by intro a; kernel_rfl)
noncomputable def F50 : Fun := ⟨50, [.v (.st (.pr (.slc .bor (.slc .bor (.int .i64))) .nil))], [(.osl (.int .i64)), (.int .i64)], d_sparseref19q_Parent⟩
theorem ok50 : OkFun E F50 :=
  OkFun.of (fn := Try.f50) (rs := [.tmp 2, .tmp 3]) ((66, F66) :: (65, F65) :: (64, F64) :: (63, F63) :: []) [(1, (.ptr .imm (.st (.pr (.slc .bor (.slc .bor (.int .i64))) .nil)))), (6, (.osl (.int .i64))), (9, (.slc .imm (.int .i64))), (2, (.osl (.int .i64)))] [(9, 26)] (.keep [0] (.two .none (.leaf) (.two .none (.two .none (.leaf) (.two .none (.leaf) (.two .none (.two .none (.leaf) (.leaf)) (.leaf)))) (.two .none (.leaf) (.two .none (.leaf) (.two .none (.two .none (.leaf) (.one (.keep [1] (.loop ⟨[(5, .s (.ref 5 [])), (6, .s (.ref 6 [])), (7, .v (.int .i64))], [(5, (.optr (.st (.pr (.osl (.osl .bool)) (.pr (.osl .bool) .nil))))), (6, (.osl (.int .i64)))]⟩ (.x 0 ⟨[(6, .s (.ref 6 []))], [(6, (.osl (.int .i64)))]⟩) (.two .none (.two .none (.leaf) (.two .none (.leaf) (.leaf))) (.two (.x [7] ⟨[(5, .s (.ref 5 [])), (6, .s (.ref 6 []))], [(5, (.optr (.st (.pr (.osl (.osl .bool)) (.pr (.osl .bool) .nil))))), (6, (.osl (.int .i64)))]⟩) (.one (.two .none (.leaf) (.two (.x [] ⟨[(5, .s (.ref 5 [])), (6, .s (.ref 6 [])), (8, .v (.int .i64))], [(5, (.optr (.st (.pr (.osl (.osl .bool)) (.pr (.osl .bool) .nil))))), (6, (.osl (.int .i64)))]⟩) (.two .none (.leaf) (.two .none (.leaf) (.two .none (.leaf) (.leaf)))) (.two .none (.leaf) (.leaf))))) (.leaf))))))) (.two .none (.leaf) (.leaf)))))))) Try.func50 (by kernel_rfl) (by kernel_rfl) (by kernel_rfl) Try.call50 (tbl_cons ok66 (tbl_cons ok65 (tbl_cons ok64 (tbl_cons ok63 tbl_nil)))) (by intro a; kernel_rfl)
noncomputable def F67 : Fun := ⟨67, [.v (.slc .bor (.int .i64))], [(.int .i64)], d_sparseref19q_Check⟩
theorem ok67 : OkFun E F67 :=
  OkFun.of (fn := Try.f67) (rs := [.tmp 2]) ([]) [] [] (.keep [0] (.two .none (.leaf) (.two .none (.leaf) (.two .none (.two .none (.leaf) (.two .none (.two .none (.leaf) (.leaf)) (.leaf))) (.two .none (.two .none (.leaf) (.one (.keep [3] (.loop ⟨[(4, .v (.int .i64))], []⟩ (.xr 0 ⟨[], []⟩) (.two .none (.two .none (.leaf) (.two .none (.leaf) (.leaf))) (.two (.xr [4] ⟨[], []⟩) (.one (.two .none (.leaf) (.two .none (.two .none (.leaf) (.leaf)) (.leaf)))) (.leaf))))))) (.two .none (.leaf) (.leaf))))))) Try.func67 (by kernel_rfl) (by kernel_rfl) (by kernel_rfl) Try.call67 tbl_nil (by intro a; kernel_rfl)
noncomputable def F68n (n : Nat) : Fun := ⟨68, [.v (.slc .bor (.int .i64)), .v (.int .i64), .o (.osl (.int .i64))], [(.osl (.int .i64))], r_sparseref19q_walk n⟩
theorem ok68n : ∀ n, OkFun E (F68n n)
  | 0 => ⟨Try.call68, fun _ _ h => by cases h⟩
  | n + 1 =>
    OkFun.of (fn := Try.f68) (rs := [.tmp 6]) ((68, F68n n) :: []) [] [] (.keep [0, 1] (.two .none (.leaf) (.two .none (.two .none (.leaf) (.one (.loop ⟨[(2, .s (.ref 2 [])), (7, .v (.int .i64))], [(2, (.osl (.int .i64)))]⟩ (.x 0 ⟨[(2, .s (.ref 2 []))], [(2, (.osl (.int .i64)))]⟩) (.two .none (.two .none (.leaf) (.two .none (.leaf) (.leaf))) (.two (.x [7] ⟨[(2, .s (.ref 2 []))], [(2, (.osl (.int .i64)))]⟩) (.one (.two .none (.leaf) (.two .none (.leaf) (.leaf)))) (.leaf)))))) (.two .none (.leaf) (.leaf))))) Try.func68 (by kernel_rfl) (by kernel_rfl) (by kernel_rfl) Try.call68 (tbl_cons (ok68n n) tbl_nil) (by intro a; kernel_rfl)
noncomputable def F68 : Fun := ⟨68, [.v (.slc .bor (.int .i64)), .v (.int .i64), .o (.osl (.int .i64))], [(.osl (.int .i64))], d_sparseref19q_walk⟩
theorem ok68 : OkFun E F68 := fixO_ok ok68n
noncomputable def F51 : Fun := ⟨51, [.v (.slc .bor (.int .i64))], [(.osl (.int .i64)), (.int .i64)], d_sparseref19q_Postorder⟩
theorem ok51 : OkFun E F51 :=
  OkFun.of (fn := Try.f51) (rs := [.tmp 2, .tmp 3]) ((68, F68) :: (67, F67) :: []) [(5, (.osl (.int .i64))), (2, (.osl (.int .i64)))] [] (.keep [0] (.two .none (.leaf) (.two .none (.two .none (.leaf) (.two .none (.leaf) (.two .none (.two .none (.leaf) (.leaf)) (.leaf)))) (.two .none (.leaf) (.two .none (.two .none (.leaf) (.one (.loop ⟨[(5, .s (.ref 5 [])), (6, .v (.int .i64))], [(5, (.osl (.int .i64)))]⟩ (.x 0 ⟨[(5, .s (.ref 5 []))], [(5, (.osl (.int .i64)))]⟩) (.two .none (.two .none (.leaf) (.two .none (.leaf) (.leaf))) (.two (.x [6] ⟨[(5, .s (.ref 5 []))], [(5, (.osl (.int .i64)))]⟩) (.one (.two .none (.leaf) (.two .none (.leaf) (.leaf)))) (.leaf)))))) (.two .none (.leaf) (.leaf))))))) Try.func51 (by kernel_rfl) (by kernel_rfl) (by kernel_rfl) Try.call51 (tbl_cons ok68 (tbl_cons ok67 tbl_nil)) (by intro a; kernel_rfl)
noncomputable def F87 : Fun := ⟨87, [.v (.slc .bor (.int .i64)), .v (.int .i64)], [.bool], d_sparseref09q_Range⟩
theorem ok87 : OkFun E F87 :=
  OkFun.of (fn := Try.f87) (rs := [.tmp 4]) ([]) [] [] (.keep [0, 1] (.two .none (.leaf) (.two .none (.two .none (.leaf) (.one (.loop ⟨[(5, .v (.int .i64))], []⟩ (.xr 0 ⟨[], []⟩) (.two .none (.two .none (.leaf) (.two .none (.leaf) (.leaf))) (.two (.xr [5] ⟨[], []⟩) (.one (.two .none (.leaf) (.two .none (.two .none (.leaf) (.leaf)) (.leaf)))) (.leaf)))))) (.two .none (.leaf) (.leaf))))) Try.func87 (by kernel_rfl) (by kernel_rfl) (by kernel_rfl) Try.call87 tbl_nil (by intro a; kernel_rfl)
noncomputable def F88 : Fun := ⟨88, [.v (.slc .bor (.int .i64))], [.bool], d_sparseref09q_Twice⟩
theorem ok88 : OkFun E F88 :=
  OkFun.of (fn := Try.f88) (rs := [.tmp 2]) ((85, F85) :: []) [] [] (.keep [0] (.two .none (.leaf) (.two .none (.two .none (.leaf) (.one (.loop ⟨[(3, .v (.int .i64))], []⟩ (.xr 0 ⟨[], []⟩) (.two .none (.two .none (.leaf) (.two .none (.leaf) (.leaf))) (.two .none (.one (.two .none (.draw [⟨0, [10], [0], [], [], []⟩, ⟨1, [11], [3], [], [], []⟩, ⟨2, [12], [10, 11], [0, 1], [], []⟩, ⟨3, [13], [0], [], [], []⟩, ⟨4, [14], [3], [], [], []⟩, ⟨5, [15], [13, 14], [3, 4], [], []⟩, ⟨6, [16], [15], [5], [], []⟩, ⟨7, [17], [12, 16], [2, 6], [], []⟩]) (.two .none (.two .none (.leaf) (.leaf)) (.leaf)))) (.leaf)))))) (.two .none (.leaf) (.leaf))))) Try.func88 (by kernel_rfl) (by kernel_rfl) (by kernel_rfl) Try.call88 (tbl_cons ok85 tbl_nil) (by intro a; kernel_rfl)
noncomputable def F89 : Fun := ⟨89, [.v (.int .i64)], [(.osl (.osl .bool))], d_sparseref12q_empty⟩
theorem ok89 : OkFun E F89 :=
  OkFun.of (fn := Try.f89) (rs := [.tmp 2]) ([]) [(3, (.osl (.osl .bool))), (12, (.osl .bool)), (13, (.osl (.osl .bool)))] [] (.keep [0] (.two .none (.leaf) (.two .none (.leaf) (.two .none (.two .none (.leaf) (.one (.loop ⟨[(3, .s (.ref 3 [])), (4, .v (.int .i64))], [(3, (.osl (.osl .bool)))]⟩ (.x 0 ⟨[(3, .s (.ref 3 []))], [(3, (.osl (.osl .bool)))]⟩) (.two .none (.two .none (.leaf) (.two .none (.leaf) (.leaf))) (.two .none (.one (.leaf)) (.leaf)))))) (.two .none (.leaf) (.leaf)))))) Try.func89 (by kernel_rfl) (by kernel_rfl) (by kernel_rfl) Try.call89 tbl_nil (by intro a; kernel_rfl)
noncomputable def F69 : Fun := ⟨69, [.v (.st (.pr (.slc .bor (.slc .bor (.int .i64))) .nil)), .v (.slc .bor (.int .i64))], [(.st (.pr (.slc .imm (.slc .imm (.int .i64))) .nil)), (.int .i64)], d_sparseref12q_Induced⟩
theorem ok69 : OkFun E F69 :=
  OkFun.of (fn := Try.f69) (rs := [.cell 4 53, .tmp 5]) ((89, F89) :: (88, F88) :: (87, F87) :: (86, F86) :: (63, F63) :: (62, F62) :: []) [(2, (.ptr .imm (.st (.pr (.slc .bor (.slc .bor (.int .i64))) .nil)))), (4, (.st (.pr (.slc .imm (.slc .imm (.int .i64))) .nil))), (7, (.slc .imm (.slc .imm .bool)))] [(7, 28), (999999, 64)] (.keep [0, 1] (.two .none (.leaf) (.two .none (.two .none (.leaf) (.two .none (.leaf) (.two .none (.two .none (.leaf) (.leaf)) (.leaf)))) (.two .none (.two .none (.leaf) (.two .none (.two .none (.leaf) (.leaf)) (.leaf))) (.two .none (.two .none (.leaf) (.two .none (.two .none (.leaf) (.leaf)) (.leaf))) (.two .none (.leaf) (.two .none (.leaf) (.two .none (.two .none (.leaf) (.one (.keep [7] (.loop ⟨[(4, .s (.ref 4 [])), (8, .s (.ref 8 [])), (9, .v (.int .i64))], [(4, (.optr (.st (.pr (.slc .imm (.slc .imm (.int .i64))) .nil)))), (8, (.osl (.osl .bool)))]⟩ (.x 0 ⟨[(4, .s (.ref 4 [])), (8, .s (.ref 8 []))], [(4, (.optr (.st (.pr (.slc .imm (.slc .imm (.int .i64))) .nil)))), (8, (.osl (.osl .bool)))]⟩) (.two .none (.two .none (.leaf) (.two .none (.leaf) (.leaf))) (.two .none (.one (.two .none (.leaf) (.one (.keep [9] (.loop ⟨[(4, .s (.ref 4 [])), (8, .s (.ref 8 [])), (10, .v (.int .i64))], [(4, (.optr (.st (.pr (.slc .imm (.slc .imm (.int .i64))) .nil)))), (8, (.osl (.osl .bool)))]⟩ (.x 2 ⟨[(4, .s (.ref 4 [])), (8, .s (.ref 8 []))], [(4, (.optr (.st (.pr (.slc .imm (.slc .imm (.int .i64))) .nil)))), (8, (.osl (.osl .bool)))]⟩) (.two .none (.two .none (.leaf) (.two .none (.leaf) (.leaf))) (.two .none (.one (.draw [⟨0, [44], [8], [], [500008], []⟩, ⟨1, [45], [9], [], [], []⟩, ⟨2, [46], [44, 45], [0, 1], [8], []⟩, ⟨3, [47], [46], [2], [8], []⟩, ⟨4, [48], [10], [], [], []⟩, ⟨5, [49], [7], [], [], []⟩, ⟨6, [50], [1], [], [], []⟩, ⟨7, [51], [9], [], [], []⟩, ⟨8, [52], [50, 51], [6, 7], [], []⟩, ⟨9, [53], [52], [8], [], []⟩, ⟨10, [54], [49, 53], [5, 9], [], []⟩, ⟨11, [55], [54], [10], [], []⟩, ⟨12, [56], [1], [], [], []⟩, ⟨13, [57], [10], [], [], []⟩, ⟨14, [58], [56, 57], [12, 13], [], []⟩, ⟨15, [59], [58], [14], [], []⟩, ⟨16, [60], [55, 59], [11, 15], [], []⟩, ⟨17, [61], [60], [16], [], []⟩, ⟨18, [62], [47, 48], [3, 4, 0, 1, 2, 3, 4, 5, 6, 7, 8, 9, 10, 11, 12, 13, 14, 15, 16, 17], [8], []⟩, ⟨19, [], [62, 61], [18, 17, 0, 1, 2, 3, 4, 5, 6, 7, 8, 9, 10, 11, 12, 13, 14, 15, 16, 17], [8], [8]⟩])) (.leaf)))))))) (.leaf))))))) (.two .none (.leaf) (.leaf)))))))))) Try.func69 (by kernel_rfl) (by kernel_rfl) (by kernel_rfl) Try.call69 (tbl_cons ok89 (tbl_cons ok88 (tbl_cons ok87 (tbl_cons ok86 (tbl_cons ok63 (tbl_cons ok62 tbl_nil)))))) (by intro a; kernel_rfl)
noncomputable def F52 : Fun := ⟨52, [.v (.st (.pr (.slc .bor (.slc .bor (.int .i64))) .nil)), .v (.slc .bor (.int .i64))], [(.st (.pr (.slc .imm (.slc .imm (.int .i64))) .nil)), (.int .i64)], d_sparseref12q_Relabel⟩
theorem ok52 : OkFun E F52 :=
  OkFun.of (fn := Try.f52) (rs := [.cell 4 53, .tmp 5]) ((69, F69) :: (63, F63) :: (19, F19) :: []) [(2, (.ptr .imm (.st (.pr (.slc .bor (.slc .bor (.int .i64))) .nil)))), (4, (.st (.pr (.slc .imm (.slc .imm (.int .i64))) .nil)))] [] (.keep [0, 1] (.two .none (.leaf) (.two .none (.two .none (.leaf) (.two .none (.leaf) (.two .none (.two .none (.leaf) (.leaf)) (.leaf)))) (.two .none (.two .none (.leaf) (.two .none (.two .none (.leaf) (.leaf)) (.leaf))) (.two .none (.two .none (.leaf) (.two .none (.two .none (.leaf) (.leaf)) (.leaf))) (.two .none (.leaf) (.leaf))))))) Try.func52 (by kernel_rfl) (by kernel_rfl) (by kernel_rfl) Try.call52 (tbl_cons ok69 (tbl_cons ok63 (tbl_cons ok19 tbl_nil))) (by intro a; kernel_rfl)
noncomputable def F28 : Fun := ⟨28, [.v (.int .i64), .v (.slc .bor (.int .i64))], [(.st (.pr (.slc .imm (.slc .imm (.int .i64))) .nil))], d_sparsemake_Post⟩
theorem ok28 : OkFun E F28 :=
  OkFun.of (fn := Try.f28) (rs := [.cell 4 53]) ((52, F52) :: (51, F51) :: (50, F50) :: (49, F49) :: []) [(4, (.st (.pr (.slc .imm (.slc .imm (.int .i64))) .nil))), (5, (.st (.pr (.slc .imm (.slc .imm (.int .i64))) .nil))), (6, (.slc .imm (.int .i64))), (8, (.slc .imm (.int .i64))), (10, (.st (.pr (.slc .imm (.slc .imm (.int .i64))) .nil)))] [(6, 18000), (8, 23000)] (.keep [0, 1] (.two .none (.leaf) (.two .none (.leaf) (.two .none (.leaf) (.two .none (.leaf) (.two .none (.leaf) (.two .none (.leaf) (.leaf)))))))) Try.func28 (by kernel_rfl) (by kernel_rfl) (by kernel_rfl) Try.call28 (tbl_cons ok52 (tbl_cons ok51 (tbl_cons ok50 (tbl_cons ok49 tbl_nil)))) (by intro a; kernel_rfl)
noncomputable def F100 : Fun := ⟨100, [.v (.slc .bor (.int .i64)), .v (.int .i64)], [.bool], d_graph_ascending⟩
theorem ok100 : OkFun E F100 :=
  OkFun.of (fn := Try.f100) (rs := [.tmp 4]) ([]) [] [] (.keep [0, 1] (.two .none (.leaf) (.two .none (.leaf) (.two .none (.two .none (.leaf) (.one (.keep [8, 9] (.loop ⟨[(5, .v (.int .i64)), (10, .v (.int .i64))], []⟩ (.xr 0 ⟨[], []⟩) (.two .none (.leaf) (.two .none (.two .none (.leaf) (.leaf)) (.two (.xr [10] ⟨[(5, .v (.int .i64))], []⟩) (.one (.two .none (.leaf) (.two (.xr [7] ⟨[], []⟩) (.two .none (.leaf) (.two .none (.two .none (.leaf) (.leaf)) (.leaf))) (.leaf)))) (.leaf)))))))) (.two .none (.leaf) (.leaf)))))) Try.func100 (by kernel_rfl) (by kernel_rfl) (by kernel_rfl) Try.call100 tbl_nil (by intro a; kernel_rfl)
noncomputable def F104 : Fun := ⟨104, [.v (.int .i64), .v (.int .i64)], [.bool], d_cmp_Less_int⟩
theorem ok104 : OkFun E F104 :=
  OkFun.of (fn := Try.f104) (rs := [.tmp 4]) ((61, F61) :: []) [] [] (.keep [0, 1] (.two .none (.leaf) (.two .none (.leaf) (.leaf)))) Try.func104 (by kernel_rfl) (by kernel_rfl) (by kernel_rfl) Try.call104 (tbl_cons ok61 tbl_nil) (by intro a; kernel_rfl)
noncomputable def F105 : Fun := ⟨105, [.v (.int .i64)], [.bool], d_slices_isNaN_int⟩
theorem ok105 : OkFun E F105 :=
  OkFun.of (fn := Try.f105) (rs := [.tmp 2]) ([]) [] [] (.keep [0] (.two .none (.leaf) (.two .none (.leaf) (.leaf)))) Try.func105 (by kernel_rfl) (by kernel_rfl) (by kernel_rfl) Try.call105 tbl_nil (by intro a; kernel_rfl)
noncomputable def F103 : Fun := ⟨103, [.v (.slc .bor (.int .i64)), .v (.int .i64)], [(.int .i64), .bool], d_slices_BinarySearch_int_int⟩
theorem ok103 : OkFun E F103 :=
  OkFun.of (fn := Try.f103) (rs := [.tmp 4, .tmp 5]) ((105, F105) :: (104, F104) :: []) [] [] (.keep [0, 1] (.two .none (.leaf) (.two .none (.leaf) (.two .none (.leaf) (.two .none (.one (.keep [6] (.loop ⟨[(7, .v (.int .i64)), (8, .v (.int .i64))], []⟩ (.x 0 ⟨[(7, .v (.int .i64))], []⟩) (.two .none (.two .none (.leaf) (.two .none (.leaf) (.leaf))) (.one (.two .none (.leaf) (.two .none (.leaf) (.two .none (.leaf) (.leaf))))))))) (.two .none (.leaf) (.leaf))))))) Try.func103 (by kernel_rfl) (by kernel_rfl) (by kernel_rfl) Try.call103 (tbl_cons ok105 (tbl_cons ok104 tbl_nil)) (by intro a; kernel_rfl)
noncomputable def F101 : Fun := ⟨101, [.v (.st (.pr (.slc .bor (.slc .bor (.int .i64))) .nil)), .v (.int .i64), .v (.int .i64)], [.bool], d_graph_joined⟩
theorem ok101 : OkFun E F101 :=
  OkFun.of (fn := Try.f101) (rs := [.tmp 6]) ((103, F103) :: []) [(3, (.ptr .imm (.st (.pr (.slc .bor (.slc .bor (.int .i64))) .nil))))] [] (.keep [0, 1, 2] (.two .none (.leaf) (.two .none (.leaf) (.two .none (.leaf) (.leaf))))) Try.func101 (by kernel_rfl) (by kernel_rfl) (by kernel_rfl) Try.call101 (tbl_cons ok103 tbl_nil) (by intro a; kernel_rfl)
noncomputable def F90 : Fun := ⟨90, [.v (.st (.pr (.slc .bor (.slc .bor (.int .i64))) .nil))], [(.int .i64)], d_graph_Check⟩
theorem ok90 : OkFun E F90 :=
  OkFun.of (fn := Try.f90) (rs := [.tmp 2]) ((101, F101) :: (100, F100) :: []) [(1, (.ptr .imm (.st (.pr (.slc .bor (.slc .bor (.int .i64))) .nil))))] [] (.keep [0] (.two .none (.leaf) (.two .none (.leaf) (.two .none (.two .none (.leaf) (.two .none (.two .none (.leaf) (.leaf)) (.leaf))) (.two .none (.two .none (.leaf) (.one (.keep [1, 3, 16, 17] (.loop ⟨[(18, .v (.int .i64))], []⟩ (.xr 0 ⟨[], []⟩) (.two .none (.leaf) (.two .none (.two .none (.leaf) (.leaf)) (.two (.xr [18] ⟨[], []⟩) (.one (.two .none (.leaf) (.two .none (.leaf) (.two .none (.two .none (.leaf) (.leaf)) (.leaf))))) (.leaf)))))))) (.two .none (.two .none (.leaf) (.one (.keep [1, 35, 36] (.loop ⟨[(37, .v (.int .i64))], []⟩ (.xr 2 ⟨[], []⟩) (.two .none (.leaf) (.two .none (.two .none (.leaf) (.leaf)) (.two .none (.one (.two .none (.leaf) (.two .none (.leaf) (.one (.keep [6, 37, 42, 43] (.loop ⟨[(44, .v (.int .i64))], []⟩ (.xr 4 ⟨[], []⟩) (.two .none (.leaf) (.two .none (.two .none (.leaf) (.leaf)) (.two .none (.one (.two .none (.leaf) (.two .none (.leaf) (.two .none (.two .none (.leaf) (.leaf)) (.leaf))))) (.leaf)))))))))) (.leaf)))))))) (.two .none (.leaf) (.leaf)))))))) Try.func90 (by kernel_rfl) (by kernel_rfl) (by kernel_rfl) Try.call90 (tbl_cons ok101 (tbl_cons ok100 tbl_nil)) (by intro a; kernel_rfl)
noncomputable def F91 : Fun := ⟨91, [.v (.int .i64)], [(.optr (.st (.pr (.osl (.int .i64)) (.pr (.osl (.int .i64)) .nil))))], d_etree_newForest⟩
theorem ok91 : OkFun E F91 :=
  OkFun.of (fn := Try.f91) (rs := [.tmp 2]) ([]) [(6, (.osl (.int .i64))), (8, (.osl (.int .i64)))] [] (.keep [0] (.two .none (.leaf) (.two .none (.draw [⟨0, [5], [0], [], [], []⟩, ⟨1, [6], [5, 5], [0, 0], [6], [6]⟩, ⟨2, [7], [0], [], [], []⟩, ⟨3, [8], [7, 7], [2, 2], [8], [8]⟩, ⟨4, [9], [6, 8], [1, 3], [6, 8, 9], [6, 8, 9, 500006, 500008]⟩, ⟨5, [10], [9], [4], [9, 10], [9, 10, 500009]⟩, ⟨6, [3], [10], [5, 0, 1, 2, 3, 4, 5], [3, 10], [3, 10, 500003, 500010]⟩]) (.two .none (.two .none (.leaf) (.one (.keep [11] (.loop ⟨[(3, .s (.ref 3 [])), (12, .v (.int .i64))], [(3, (.optr (.st (.pr (.osl (.int .i64)) (.pr (.osl (.int .i64)) .nil)))))]⟩ (.x 0 ⟨[(3, .s (.ref 3 []))], [(3, (.optr (.st (.pr (.osl (.int .i64)) (.pr (.osl (.int .i64)) .nil)))))]⟩) (.two .none (.leaf) (.two .none (.two .none (.leaf) (.leaf)) (.two .none (.one (.two .none (.leaf) (.draw [⟨0, [15], [3], [], [500003], []⟩, ⟨1, [16], [15], [0], [3], []⟩, ⟨2, [17], [16], [1], [3], []⟩, ⟨3, [18], [17], [2], [3], []⟩, ⟨4, [19], [4], [], [], []⟩, ⟨5, [20], [3], [], [500003], []⟩, ⟨6, [21], [20], [5], [3], []⟩, ⟨7, [22], [21], [6], [3], []⟩, ⟨8, [23], [22], [7], [3], []⟩, ⟨9, [24], [4], [], [], []⟩, ⟨10, [25], [18, 19], [3, 4, 0, 1, 2, 3, 4, 8], [3], []⟩, ⟨11, [], [25], [10, 0, 1, 2, 3, 4, 8], [3], [3]⟩, ⟨12, [26], [23, 24], [8, 9, 0, 1, 2, 3, 4, 5, 6, 7, 8, 9, 10, 11], [3], []⟩, ⟨13, [], [26], [12, 11, 0, 1, 2, 3, 4, 5, 6, 7, 8, 9, 10, 11], [3], [3]⟩]))) (.leaf)))))))) (.two .none (.leaf) (.leaf)))))) Try.func91 (by kernel_rfl) (by kernel_rfl) (by kernel_rfl) Try.call91 tbl_nil (by intro a; kernel_rfl)
noncomputable def F92 : Fun := ⟨92, [.m (.optr (.st (.pr (.osl (.int .i64)) (.pr (.osl (.int .i64)) .nil)))), .v (.int .i64), .v (.int .i64)], [], d_etree_forest_join⟩
theorem ok92 : OkFun E F92 :=
  OkFun.of (fn := Try.f92) (rs := []) ([]) [] [] (.keep [2] (.one (.loop ⟨[(0, .s (.ref 0 [])), (1, .v (.int .i64))], [(0, (.optr (.st (.pr (.osl (.int .i64)) (.pr (.osl (.int .i64)) .nil)))))]⟩ (.x 0 ⟨[(0, .s (.ref 0 []))], [(0, (.optr (.st (.pr (.osl (.int .i64)) (.pr (.osl (.int .i64)) .nil)))))]⟩) (.two (.xr [1] ⟨[(0, .s (.ref 0 []))], [(0, (.optr (.st (.pr (.osl (.int .i64)) (.pr (.osl (.int .i64)) .nil)))))]⟩) (.two .none (.leaf) (.two .none (.leaf) (.leaf))) (.one (.two .none (.leaf) (.two .none (.leaf) (.two (.x [6] ⟨[(0, .s (.ref 0 []))], [(0, (.optr (.st (.pr (.osl (.int .i64)) (.pr (.osl (.int .i64)) .nil)))))]⟩) (.two .none (.leaf) (.two .none (.leaf) (.leaf))) (.leaf))))))))) Try.func92 (by kernel_rfl) (by kernel_rfl) (by kernel_rfl) Try.call92 tbl_nil (by intro a; kernel_rfl)
noncomputable def F70 : Fun := ⟨70, [.v (.st (.pr (.slc .bor (.slc .bor (.int .i64))) .nil))], [(.osl (.int .i64)), (.int .i64)], d_etree_Parent⟩
theorem ok70 : OkFun E F70 :=
  OkFun.of (fn := Try.f70) (rs := [.tmp 2, .tmp 3]) ((92, F92) :: (91, F91) :: (90, F90) :: []) [(1, (.ptr .imm (.st (.pr (.slc .bor (.slc .bor (.int .i64))) .nil)))), (2, (.osl (.int .i64)))] [] (.keep [0] (.two .none (.leaf) (.two .none (.leaf) (.two .none (.two .none (.leaf) (.two .none (.two .none (.leaf) (.leaf)) (.leaf))) (.two .none (.leaf) (.two .none (.two .none (.leaf) (.one (.keep [20, 21] (.loop ⟨[(5, .s (.ref 5 [])), (22, .v (.int .i64))], [(5, (.optr (.st (.pr (.osl (.int .i64)) (.pr (.osl (.int .i64)) .nil)))))]⟩ (.x 0 ⟨[(5, .s (.ref 5 []))], [(5, (.optr (.st (.pr (.osl (.int .i64)) (.pr (.osl (.int .i64)) .nil)))))]⟩) (.two .none (.leaf) (.two .none (.two .none (.leaf) (.leaf)) (.two .none (.one (.two .none (.leaf) (.two .none (.leaf) (.one (.keep [6, 22, 27, 28] (.loop ⟨[(5, .s (.ref 5 [])), (29, .v (.int .i64))], [(5, (.optr (.st (.pr (.osl (.int .i64)) (.pr (.osl (.int .i64)) .nil)))))]⟩ (.x 2 ⟨[(5, .s (.ref 5 []))], [(5, (.optr (.st (.pr (.osl (.int .i64)) (.pr (.osl (.int .i64)) .nil)))))]⟩) (.two .none (.leaf) (.two .none (.two .none (.leaf) (.leaf)) (.two .none (.one (.two .none (.leaf) (.leaf))) (.leaf)))))))))) (.leaf)))))))) (.two .none (.leaf) (.leaf)))))))) Try.func70 (by kernel_rfl) (by kernel_rfl) (by kernel_rfl) Try.call70 (tbl_cons ok92 (tbl_cons ok91 (tbl_cons ok90 tbl_nil))) (by intro a; kernel_rfl)
noncomputable def F93 : Fun := ⟨93, [.v (.slc .bor (.int .i64))], [(.int .i64)], d_etree_Check⟩
theorem ok93 : OkFun E F93 :=
  OkFun.of (fn := Try.f93) (rs := [.tmp 2]) ([]) [] [] (.keep [0] (.two .none (.leaf) (.two .none (.two .none (.leaf) (.two .none (.two .none (.leaf) (.leaf)) (.leaf))) (.two .none (.two .none (.leaf) (.one (.keep [8, 9] (.loop ⟨[(10, .v (.int .i64))], []⟩ (.xr 0 ⟨[], []⟩) (.two .none (.leaf) (.two .none (.two .none (.leaf) (.leaf)) (.two (.xr [10] ⟨[], []⟩) (.one (.two .none (.leaf) (.two .none (.leaf) (.two .none (.two .none (.leaf) (.leaf)) (.leaf))))) (.leaf)))))))) (.two .none (.leaf) (.leaf)))))) Try.func93 (by kernel_rfl) (by kernel_rfl) (by kernel_rfl) Try.call93 tbl_nil (by intro a; kernel_rfl)
noncomputable def F71 : Fun := ⟨71, [.v (.slc .bor (.int .i64))], [(.osl (.int .i64)), (.int .i64)], d_etree_Sizes⟩
theorem ok71 : OkFun E F71 :=
  OkFun.of (fn := Try.f71) (rs := [.tmp 2, .tmp 3]) ((93, F93) :: []) [(15, (.osl (.int .i64))), (2, (.osl (.int .i64)))] [] (.keep [0] (.two .none (.leaf) (.two .none (.leaf) (.two .none (.two .none (.leaf) (.two .none (.two .none (.leaf) (.leaf)) (.leaf))) (.two .none (.leaf) (.two .none (.two .none (.leaf) (.one (.keep [16, 17] (.loop ⟨[(5, .s (.ref 5 [])), (18, .v (.int .i64))], [(5, (.osl (.int .i64)))]⟩ (.x 0 ⟨[(5, .s (.ref 5 []))], [(5, (.osl (.int .i64)))]⟩) (.two .none (.leaf) (.two .none (.two .none (.leaf) (.leaf)) (.two (.x [18] ⟨[(5, .s (.ref 5 []))], [(5, (.osl (.int .i64)))]⟩) (.one (.two .none (.leaf) (.two .none (.leaf) (.two .none (.leaf) (.two .none (.draw [⟨0, [31], [5], [], [500005], []⟩, ⟨1, [32], [7], [], [], []⟩, ⟨2, [33], [31, 32], [0, 1], [5], []⟩, ⟨3, [34], [33], [2], [5], []⟩, ⟨4, [35], [5], [], [500005], []⟩, ⟨5, [36], [6], [], [], []⟩, ⟨6, [37], [35, 36], [4, 5], [5], []⟩, ⟨7, [38], [37], [6], [5], []⟩, ⟨8, [39], [34, 38], [3, 7], [], []⟩, ⟨9, [40], [31, 32], [0, 1, 0, 1, 2, 3, 4, 5, 6, 7, 8], [5], []⟩, ⟨10, [], [40, 39], [9, 8, 0, 1, 2, 3, 4, 5, 6, 7, 8], [5], [5]⟩]) (.leaf)))))) (.leaf)))))))) (.two .none (.leaf) (.leaf)))))))) Try.func71 (by kernel_rfl) (by kernel_rfl) (by kernel_rfl) Try.call71 (tbl_cons ok93 tbl_nil) (by intro a; kernel_rfl)
noncomputable def F72 : Fun := ⟨72, [.v (.slc .bor (.int .i64)), .v (.slc .bor (.int .i64))], [.bool], d_supernode_contiguous⟩
theorem ok72 : OkFun E F72 :=
  OkFun.of (fn := Try.f72) (rs := [.tmp 4]) ([]) [(12, (.osl (.int .i64)))] [] (.keep [0, 1] (.two .none (.leaf) (.two .none (.leaf) (.two .none (.two .none (.leaf) (.one (.keep [14] (.loop ⟨[(5, .s (.ref 5 [])), (15, .v (.int .i64))], [(5, (.osl (.int .i64)))]⟩ (.x 0 ⟨[(5, .s (.ref 5 []))], [(5, (.osl (.int .i64)))]⟩) (.two .none (.leaf) (.two .none (.two .none (.leaf) (.leaf)) (.two .none (.one (.two .none (.leaf) (.leaf))) (.leaf)))))))) (.two .none (.two .none (.leaf) (.one (.keep [23, 24] (.loop ⟨[(5, .s (.ref 5 [])), (25, .v (.int .i64))], [(5, (.osl (.int .i64)))]⟩ (.x 2 ⟨[(5, .s (.ref 5 []))], [(5, (.osl (.int .i64)))]⟩) (.two .none (.leaf) (.two .none (.two .none (.leaf) (.leaf)) (.two (.x [25] ⟨[(5, .s (.ref 5 []))], [(5, (.osl (.int .i64)))]⟩) (.one (.two .none (.leaf) (.two .none (.leaf) (.two .none (.draw [⟨0, [32], [5], [], [500005], []⟩, ⟨1, [33], [8], [], [], []⟩, ⟨2, [34], [5], [], [500005], []⟩, ⟨3, [35], [8], [], [], []⟩, ⟨4, [36], [34, 35], [2, 3], [5], []⟩, ⟨5, [37], [36], [4], [5], []⟩, ⟨6, [38], [5], [], [500005], []⟩, ⟨7, [39], [7], [], [], []⟩, ⟨8, [40], [38, 39], [6, 7], [5], []⟩, ⟨9, [41], [40], [8], [5], []⟩, ⟨10, [42], [37, 41], [5, 9], [], []⟩, ⟨11, [43], [32, 33], [0, 1, 0, 1, 2, 3, 4, 5, 6, 7, 8, 9, 10], [5], []⟩, ⟨12, [], [43, 42], [11, 10, 0, 1, 2, 3, 4, 5, 6, 7, 8, 9, 10], [5], [5]⟩]) (.leaf))))) (.leaf)))))))) (.two .none (.two .none (.leaf) (.one (.keep [46] (.loop ⟨[(5, .s (.ref 5 [])), (47, .v (.int .i64))], [(5, (.osl (.int .i64)))]⟩ (.xr 4 ⟨[], []⟩) (.two .none (.leaf) (.two .none (.two .none (.leaf) (.leaf)) (.two .none (.one (.two .none (.leaf) (.two .none (.draw [⟨0, [50], [5], [], [500005], []⟩, ⟨1, [51], [9], [], [], []⟩, ⟨2, [52], [50, 51], [0, 1], [5], []⟩, ⟨3, [53], [52], [2], [5], []⟩, ⟨4, [54], [9], [], [], []⟩, ⟨5, [55], [1], [], [], []⟩, ⟨6, [56], [9], [], [], []⟩, ⟨7, [57], [55, 56], [5, 6], [], []⟩, ⟨8, [58], [57], [7], [], []⟩, ⟨9, [59], [54, 58], [4, 8], [], []⟩, ⟨10, [60], [59], [9], [], []⟩, ⟨11, [61], [53, 60], [3, 10], [], []⟩]) (.two .none (.two .none (.leaf) (.leaf)) (.leaf))))) (.leaf)))))))) (.two .none (.leaf) (.leaf)))))))) Try.func72 (by kernel_rfl) (by kernel_rfl) (by kernel_rfl) Try.call72 tbl_nil (by intro a; kernel_rfl)
noncomputable def F94 : Fun := ⟨94, [.v (.st (.pr (.slc .bor (.slc .bor (.int .i64))) .nil)), .v (.slc .bor (.int .i64)), .v (.int .i64)], [(.osl (.int .i64))], d_symbolic_row⟩
theorem ok94 : OkFun E F94 :=
  OkFun.of (fn := Try.f94) (rs := [.tmp 6]) ([]) [(3, (.ptr .imm (.st (.pr (.slc .bor (.slc .bor (.int .i64))) .nil)))), (15, (.osl .bool)), (10, (.osl (.int .i64)))] [] (.keep [0, 1, 2] (.two .none (.leaf) (.two .none (.leaf) (.two .none (.leaf) (.two .none (.two .none (.leaf) (.one (.keep [23, 24] (.loop ⟨[(7, .s (.ref 7 [])), (25, .v (.int .i64))], [(7, (.osl .bool))]⟩ (.x 0 ⟨[(7, .s (.ref 7 []))], [(7, (.osl .bool))]⟩) (.two .none (.leaf) (.two .none (.two .none (.leaf) (.leaf)) (.two .none (.one (.two .none (.leaf) (.one (.keep [25] (.loop ⟨[(7, .s (.ref 7 [])), (9, .v (.int .i64))], [(7, (.osl .bool))]⟩ (.x 2 ⟨[(7, .s (.ref 7 []))], [(7, (.osl .bool))]⟩) (.two (.xr [9] ⟨[(7, .s (.ref 7 []))], [(7, (.osl .bool))]⟩) (.two .none (.leaf) (.two .none (.leaf) (.leaf))) (.one (.two .none (.leaf) (.leaf))))))))) (.leaf)))))))) (.two .none (.leaf) (.two .none (.two .none (.leaf) (.one (.keep [52] (.loop ⟨[(10, .s (.ref 10 [])), (51, .s (.ref 7 [])), (53, .v (.int .i64))], [(7, (.osl .bool)), (10, (.osl (.int .i64)))]⟩ (.x 4 ⟨[(10, .s (.ref 10 []))], [(10, (.osl (.int .i64)))]⟩) (.two .none (.leaf) (.two .none (.two .none (.leaf) (.leaf)) (.two (.x [53] ⟨[(10, .s (.ref 10 [])), (51, .s (.ref 7 []))], [(7, (.osl .bool)), (10, (.osl (.int .i64)))]⟩) (.one (.two .none (.leaf) (.two .none (.leaf) (.two .none (.leaf) (.leaf))))) (.leaf)))))))) (.two .none (.leaf) (.leaf))))))))) Try.func94 (by kernel_rfl) (by kernel_rfl) (by kernel_rfl) Try.call94 tbl_nil (by intro a; kernel_rfl)
noncomputable def F73 : Fun := ⟨73, [.v (.st (.pr (.slc .bor (.slc .bor (.int .i64))) .nil))], [(.osl (.osl (.int .i64))), (.int .i64)], d_symbolic_Columns⟩
theorem ok73 : OkFun E F73 :=
  OkFun.of (fn := Try.f73) (rs := [.tmp 2, .tmp 3]) ((94, F94) :: (70, F70) :: []) [(1, (.ptr .imm (.st (.pr (.slc .bor (.slc .bor (.int .i64))) .nil)))), (4, (.slc .imm (.int .i64))), (20, (.osl (.osl (.int .i64)))), (2, (.osl (.osl (.int .i64))))] [(4, 13000)] (.keep [0] (.two .none (.leaf) (.two .none (.leaf) (.two .none (.two .none (.leaf) (.two .none (.two .none (.leaf) (.leaf)) (.leaf))) (.two .none (.leaf) (.two .none (.two .none (.leaf) (.one (.keep [1, 4, 22] (.loop ⟨[(6, .s (.ref 6 [])), (23, .v (.int .i64))], [(6, (.osl (.osl (.int .i64))))]⟩ (.x 0 ⟨[(6, .s (.ref 6 []))], [(6, (.osl (.osl (.int .i64))))]⟩) (.two .none (.leaf) (.two .none (.two .none (.leaf) (.leaf)) (.two .none (.one (.two .none (.leaf) (.two .none (.leaf) (.one (.keep [7, 23, 30] (.loop ⟨[(6, .s (.ref 6 [])), (29, .s (.ref 29 [])), (31, .v (.int .i64))], [(6, (.osl (.osl (.int .i64)))), (29, (.osl (.int .i64)))]⟩ (.x 2 ⟨[(6, .s (.ref 6 []))], [(6, (.osl (.osl (.int .i64))))]⟩) (.two .none (.leaf) (.two .none (.two .none (.leaf) (.leaf)) (.two .none (.one (.two .none (.leaf) (.leaf))) (.leaf)))))))))) (.leaf)))))))) (.two .none (.leaf) (.leaf)))))))) Try.func73 (by kernel_rfl) (by kernel_rfl) (by kernel_rfl) Try.call73 (tbl_cons ok94 (tbl_cons ok70 tbl_nil)) (by intro a; kernel_rfl)
noncomputable def F53 : Fun := ⟨53, [.v (.st (.pr (.slc .bor (.slc .bor (.int .i64))) .nil))], [(.st (.pr (.slc .imm (.int .i64)) (.pr (.slc .imm (.int .i64)) (.pr (.slc .imm (.slc .imm (.int .i64))) .nil)))), (.int .i64)], d_supernode_analyse⟩
theorem ok53 : OkFun E F53 :=
  OkFun.of (fn := Try.f53) (rs := [.cell 2 79, .tmp 3]) ((73, F73) :: (72, F72) :: (71, F71) :: (70, F70) :: []) [(1, (.ptr .imm (.st (.pr (.slc .bor (.slc .bor (.int .i64))) .nil)))), (2, (.st (.pr (.slc .imm (.int .i64)) (.pr (.slc .imm (.int .i64)) (.pr (.slc .imm (.slc .imm (.int .i64))) .nil))))), (4, (.slc .imm (.int .i64))), (6, (.slc .imm (.int .i64))), (8, (.slc .imm (.slc .imm (.int .i64))))] [(4, 13000), (6, 22000), (8, 32000)] (.keep [0] (.two .none (.leaf) (.two .none (.leaf) (.two .none (.two .none (.leaf) (.two .none (.two .none (.leaf) (.leaf)) (.leaf))) (.two .none (.leaf) (.two .none (.two .none (.leaf) (.two .none (.two .none (.leaf) (.leaf)) (.leaf))) (.two .none (.leaf) (.two .none (.leaf) (.leaf))))))))) Try.func53 (by kernel_rfl) (by kernel_rfl) (by kernel_rfl) Try.call53 (tbl_cons ok73 (tbl_cons ok72 (tbl_cons ok71 (tbl_cons ok70 tbl_nil)))) (by intro a; kernel_rfl)
noncomputable def F54 : Fun := ⟨54, [.v (.slc .bor (.int .i64))], [(.osl (.osl (.int .i64))), (.osl (.int .i64))], d_etree_Children⟩
theorem ok54 : OkFun E F54 :=
  OkFun.of (fn := Try.f54) (rs := [.tmp 2, .tmp 3]) ([]) [(8, (.osl (.osl (.int .i64)))), (3, (.osl (.int .i64)))] [] (.keep [0] (.two .none (.leaf) (.two .none (.leaf) (.two .none (.two .none (.leaf) (.one (.keep [9, 10] (.loop ⟨[(2, .s (.ref 2 [])), (3, .s (.ref 3 [])), (11, .v (.int .i64))], [(2, (.osl (.osl (.int .i64)))), (3, (.osl (.int .i64)))]⟩ (.x 0 ⟨[(2, .s (.ref 2 [])), (3, .s (.ref 3 []))], [(2, (.osl (.osl (.int .i64)))), (3, (.osl (.int .i64)))]⟩) (.two .none (.leaf) (.two .none (.two .none (.leaf) (.leaf)) (.two (.x [11] ⟨[(2, .s (.ref 2 [])), (3, .s (.ref 3 []))], [(2, (.osl (.osl (.int .i64)))), (3, (.osl (.int .i64)))]⟩) (.one (.two .none (.leaf) (.two .none (.two .none (.leaf) (.two .none (.two .none (.leaf) (.leaf)) (.leaf))) (.leaf)))) (.leaf)))))))) (.two .none (.leaf) (.leaf)))))) Try.func54 (by kernel_rfl) (by kernel_rfl) (by kernel_rfl) Try.call54 tbl_nil (by intro a; kernel_rfl)
noncomputable def F29 : Fun := ⟨29, [.v (.st (.pr (.slc .bor (.slc .bor (.int .i64))) .nil))], [(.osl (.int .i64)), (.int .i64)], d_supernode_Fundamental⟩
theorem ok29 : OkFun E F29 :=
  OkFun.of (fn := Try.f29) (rs := [.tmp 2, .tmp 3]) ((54, F54) :: (53, F53) :: []) [(1, (.ptr .imm (.st (.pr (.slc .bor (.slc .bor (.int .i64))) .nil)))), (4, (.st (.pr (.slc .imm (.int .i64)) (.pr (.slc .imm (.int .i64)) (.pr (.slc .imm (.slc .imm (.int .i64))) .nil))))), (6, (.slc .imm (.slc .imm (.int .i64)))), (7, (.slc .imm (.int .i64))), (8, (.osl (.int .i64))), (2, (.osl (.int .i64)))] [(6, 22000), (7, 22001)] (.keep [0] (.two .none (.leaf) (.two .none (.leaf) (.two .none (.two .none (.leaf) (.two .none (.two .none (.leaf) (.leaf)) (.leaf))) (.two .none (.leaf) (.two .none (.leaf) (.two .none (.two .none (.leaf) (.one (.keep [6, 26] (.loop ⟨[(4, .s (.ref 4 [])), (8, .s (.ref 8 [])), (27, .v (.int .i64))], [(4, (.optr (.st (.pr (.slc .imm (.int .i64)) (.pr (.slc .imm (.int .i64)) (.pr (.slc .imm (.slc .imm (.int .i64))) .nil)))))), (8, (.osl (.int .i64)))]⟩ (.x 0 ⟨[(8, .s (.ref 8 []))], [(8, (.osl (.int .i64)))]⟩) (.two .none (.leaf) (.two .none (.two .none (.leaf) (.leaf)) (.two (.x [27] ⟨[(4, .s (.ref 4 [])), (8, .s (.ref 8 []))], [(4, (.optr (.st (.pr (.slc .imm (.int .i64)) (.pr (.slc .imm (.int .i64)) (.pr (.slc .imm (.slc .imm (.int .i64))) .nil)))))), (8, (.osl (.int .i64)))]⟩) (.one (.two .none (.leaf) (.two (.xr [9] ⟨[(4, .s (.ref 4 [])), (8, .s (.ref 8 []))], [(4, (.optr (.st (.pr (.slc .imm (.int .i64)) (.pr (.slc .imm (.int .i64)) (.pr (.slc .imm (.slc .imm (.int .i64))) .nil)))))), (8, (.osl (.int .i64)))]⟩) (.two .none (.draw [⟨0, [30], [9], [], [], []⟩, ⟨1, [31], [30], [0], [], []⟩, ⟨2, [32], [31], [1], [], []⟩, ⟨3, [33], [4, 32], [2], [4], []⟩, ⟨4, [34], [33, 32], [3, 2], [4], []⟩, ⟨5, [35], [9, 32], [2], [], []⟩, ⟨6, [36], [35, 32], [5, 2], [], []⟩, ⟨7, [37], [34, 36, 32], [4, 6, 2], [], []⟩, ⟨8, [38], [37, 32], [7, 2], [], []⟩, ⟨9, [39], [9, 32], [2], [], []⟩, ⟨10, [40], [38, 39, 32], [8, 9, 2], [], []⟩, ⟨11, [41], [32, 40], [2, 10], [], []⟩, ⟨12, [42], [41], [11, 2], [], []⟩, ⟨13, [43], [6, 42], [12], [], []⟩, ⟨14, [44], [9, 42], [12], [], []⟩, ⟨15, [45], [43, 44, 42], [13, 14, 12], [], []⟩, ⟨16, [46], [45, 42], [15, 12], [], []⟩, ⟨17, [47], [46, 42], [16, 12], [], []⟩, ⟨18, [48], [47, 42], [17, 12], [], []⟩, ⟨19, [49], [42, 48], [12, 18], [], []⟩, ⟨20, [50], [49], [19, 12], [], []⟩, ⟨21, [51], [4, 50], [20], [4], []⟩, ⟨22, [52], [51, 50], [21, 20], [4], []⟩, ⟨23, [53], [9, 50], [20], [], []⟩, ⟨24, [54], [53, 50], [23, 20], [], []⟩, ⟨25, [55], [52, 54, 50], [22, 24, 20], [], []⟩, ⟨26, [56], [55, 50], [25, 20], [], []⟩, ⟨27, [57], [56, 50], [26, 20], [], []⟩, ⟨28, [58], [4, 50], [20], [4], []⟩, ⟨29, [59], [58, 50], [28, 20], [4], []⟩, ⟨30, [60], [9, 50], [20], [], []⟩, ⟨31, [61], [59, 60, 50], [29, 30, 20], [], []⟩, ⟨32, [62], [61, 50], [31, 20], [], []⟩, ⟨33, [63], [62, 50], [32, 20], [], []⟩, ⟨34, [64], [63, 50], [33, 20], [], []⟩, ⟨35, [65], [57, 64, 50], [27, 34, 20], [], []⟩, ⟨36, [66], [50, 65], [20, 35], [], []⟩]) (.two .none (.leaf) (.leaf))) (.leaf)))) (.leaf)))))))) (.two .none (.leaf) (.leaf))))))))) Try.func29 (by kernel_rfl) (by kernel_rfl) (by kernel_rfl) Try.call29 (tbl_cons ok54 (tbl_cons ok53 tbl_nil)) (by intro a; kernel_rfl)
noncomputable def F55 : Fun := ⟨55, [.v (.st (.pr (.slc .bor (.int .i64)) (.pr (.slc .bor (.int .i64)) (.pr (.slc .bor (.slc .bor (.int .i64))) .nil)))), .v (.slc .bor (.int .i64))], [.bool], d_supernode_analysis_permitted⟩
theorem ok55 : OkFun E F55 :=
  OkFun.of (fn := Try.f55) (rs := [.tmp 4]) ([]) [(2, (.ptr .imm (.st (.pr (.slc .bor (.int .i64)) (.pr (.slc .bor (.int .i64)) (.pr (.slc .bor (.slc .bor (.int .i64))) .nil))))))] [] (.keep [0, 1] (.two .none (.leaf) (.two .none (.leaf) (.two (.xr [2, 5] ⟨[], []⟩) (.two (.x [] ⟨[(18, .v .bool)], []⟩) (.leaf) (.two .none (.two .none (.leaf) (.leaf)) (.leaf))) (.two .none (.two .none (.leaf) (.two .none (.two .none (.leaf) (.leaf)) (.leaf))) (.two .none (.two .none (.leaf) (.one (.keep [2, 5, 30, 31] (.loop ⟨[(32, .v (.int .i64))], []⟩ (.xr 0 ⟨[], []⟩) (.two .none (.leaf) (.two .none (.two .none (.leaf) (.leaf)) (.two (.xr [32] ⟨[], []⟩) (.one (.two .none (.leaf) (.two .none (.leaf) (.two (.x [7] ⟨[(8, .v (.int .i64))], []⟩) (.two .none (.leaf) (.two .none (.leaf) (.leaf))) (.two .none (.leaf) (.two .none (.two .none (.leaf) (.leaf)) (.leaf))))))) (.leaf)))))))) (.two .none (.leaf) (.leaf)))))))) Try.func55 (by kernel_rfl) (by kernel_rfl) (by kernel_rfl) Try.call55 tbl_nil (by intro a; kernel_rfl)
noncomputable def F57 : Fun := ⟨57, [.v (.st (.pr (.slc .bor (.int .i64)) (.pr (.slc .bor (.int .i64)) (.pr (.slc .bor (.slc .bor (.int .i64))) .nil)))), .v (.int .i64), .v (.int .i64)], [(.osl (.int .i64))], d_supernode_analysis_rows⟩
theorem ok57 : OkFun E F57 :=
  OkFun.of (fn := Try.f57) (rs := [.tmp 6]) ([]) [(3, (.ptr .imm (.st (.pr (.slc .bor (.int .i64)) (.pr (.slc .bor (.int .i64)) (.pr (.slc .bor (.slc .bor (.int .i64))) .nil)))))), (7, (.osl (.int .i64)))] [] (.keep [0, 1, 2] (.two .none (.leaf) (.two .none (.leaf) (.two .none (.two .none (.leaf) (.one (.keep [3] (.loop ⟨[(7, .s (.ref 7 [])), (8, .v (.int .i64))], [(7, (.osl (.int .i64)))]⟩ (.x 0 ⟨[(7, .s (.ref 7 []))], [(7, (.osl (.int .i64)))]⟩) (.two .none (.two .none (.leaf) (.two .none (.leaf) (.leaf))) (.two .none (.one (.leaf)) (.leaf))))))) (.two .none (.leaf) (.leaf)))))) Try.func57 (by kernel_rfl) (by kernel_rfl) (by kernel_rfl) Try.call57 tbl_nil (by intro a; kernel_rfl)
noncomputable def F56 : Fun := ⟨56, [.v (.st (.pr (.slc .bor (.int .i64)) (.pr (.slc .bor (.int .i64)) (.pr (.slc .bor (.slc .bor (.int .i64))) .nil)))), .v (.int .i64), .v (.int .i64)], [(.int .i64)], d_supernode_analysis_zeros⟩
theorem ok56 : OkFun E F56 :=
  OkFun.of (fn := Try.f56) (rs := [.tmp 6]) ((57, F57) :: []) [(3, (.ptr .imm (.st (.pr (.slc .bor (.int .i64)) (.pr (.slc .bor (.int .i64)) (.pr (.slc .bor (.slc .bor (.int .i64))) .nil))))))] [] (.keep [0, 1, 2] (.two .none (.leaf) (.two .none (.leaf) (.two .none (.leaf) (.two .none (.two .none (.leaf) (.one (.keep [3, 7] (.loop ⟨[(8, .v (.int .i64)), (9, .v (.int .i64))], []⟩ (.x 0 ⟨[(8, .v (.int .i64))], []⟩) (.two .none (.two .none (.leaf) (.two .none (.leaf) (.leaf))) (.two .none (.one (.leaf)) (.leaf))))))) (.two .none (.leaf) (.leaf))))))) Try.func56 (by kernel_rfl) (by kernel_rfl) (by kernel_rfl) Try.call56 (tbl_cons ok57 tbl_nil) (by intro a; kernel_rfl)
noncomputable def F30 : Fun := ⟨30, [.v (.st (.pr (.slc .bor (.slc .bor (.int .i64))) .nil)), .v (.slc .bor (.int .i64)), .v (.int .i64)], [(.osl (.int .i64)), (.int .i64)], d_supernode_Relax⟩
theorem ok30 : OkFun E F30 :=
  OkFun.of (fn := Try.f30) (rs := [.tmp 6, .tmp 7]) ((56, F56) :: (55, F55) :: (53, F53) :: []) [(3, (.ptr .imm (.st (.pr (.slc .bor (.slc .bor (.int .i64))) .nil)))), (8, (.st (.pr (.slc .imm (.int .i64)) (.pr (.slc .imm (.int .i64)) (.pr (.slc .imm (.slc .imm (.int .i64))) .nil))))), (10, (.osl (.int .i64))), (6, (.osl (.int .i64)))] [] (.keep [0, 1, 2] (.two .none (.leaf) (.two .none (.leaf) (.two (.xr [] ⟨[(8, .s (.ref 8 []))], [(8, (.optr (.st (.pr (.slc .imm (.int .i64)) (.pr (.slc .imm (.int .i64)) (.pr (.slc .imm (.slc .imm (.int .i64))) .nil))))))]⟩) (.one (.two .none (.leaf) (.two .none (.two .none (.leaf) (.leaf)) (.two (.x [] ⟨[(8, .s (.ref 8 [])), (25, .v .bool)], [(8, (.optr (.st (.pr (.slc .imm (.int .i64)) (.pr (.slc .imm (.int .i64)) (.pr (.slc .imm (.slc .imm (.int .i64))) .nil))))))]⟩) (.leaf) (.two .none (.two .none (.leaf) (.leaf)) (.leaf)))))) (.two .none (.leaf) (.two .none (.two .none (.leaf) (.one (.keep [34, 35] (.loop ⟨[(8, .s (.ref 8 [])), (10, .s (.ref 10 [])), (36, .v (.int .i64))], [(8, (.optr (.st (.pr (.slc .imm (.int .i64)) (.pr (.slc .imm (.int .i64)) (.pr (.slc .imm (.slc .imm (.int .i64))) .nil)))))), (10, (.osl (.int .i64)))]⟩ (.x 1 ⟨[(10, .s (.ref 10 []))], [(10, (.osl (.int .i64)))]⟩) (.two .none (.leaf) (.two .none (.two .none (.leaf) (.leaf)) (.two (.x [36] ⟨[(8, .s (.ref 8 [])), (10, .s (.ref 10 []))], [(8, (.optr (.st (.pr (.slc .imm (.int .i64)) (.pr (.slc .imm (.int .i64)) (.pr (.slc .imm (.slc .imm (.int .i64))) .nil)))))), (10, (.osl (.int .i64)))]⟩) (.one (.two .none (.leaf) (.two .none (.leaf) (.two (.x [12] ⟨[(8, .s (.ref 8 [])), (10, .s (.ref 10 [])), (13, .v (.int .i64))], [(8, (.optr (.st (.pr (.slc .imm (.int .i64)) (.pr (.slc .imm (.int .i64)) (.pr (.slc .imm (.slc .imm (.int .i64))) .nil)))))), (10, (.osl (.int .i64)))]⟩) (.two .none (.leaf) (.two .none (.leaf) (.leaf))) (.two .none (.one (.keep [13] (.loop ⟨[(8, .s (.ref 8 [])), (10, .s (.ref 10 [])), (12, .v (.int .i64))], [(8, (.optr (.st (.pr (.slc .imm (.int .i64)) (.pr (.slc .imm (.int .i64)) (.pr (.slc .imm (.slc .imm (.int .i64))) .nil)))))), (10, (.osl (.int .i64)))]⟩ (.x 3 ⟨[(8, .s (.ref 8 [])), (10, .s (.ref 10 [])), (12, .v (.int .i64))], [(8, (.optr (.st (.pr (.slc .imm (.int .i64)) (.pr (.slc .imm (.int .i64)) (.pr (.slc .imm (.slc .imm (.int .i64))) .nil)))))), (10, (.osl (.int .i64)))]⟩) (.two .none (.two .none (.leaf) (.two .none (.leaf) (.leaf))) (.one (.two .none (.leaf) (.two .none (.leaf) (.two (.xr [15] ⟨[(8, .s (.ref 8 [])), (10, .s (.ref 10 []))], [(8, (.optr (.st (.pr (.slc .imm (.int .i64)) (.pr (.slc .imm (.int .i64)) (.pr (.slc .imm (.slc .imm (.int .i64))) .nil)))))), (10, (.osl (.int .i64)))]⟩) (.two .none (.leaf) (.two .none (.leaf) (.leaf))) (.leaf))))))))) (.leaf)))))) (.leaf)))))))) (.two .none (.leaf) (.leaf)))))))) Try.func30 (by kernel_rfl) (by kernel_rfl) (by kernel_rfl) Try.call30 (tbl_cons ok56 (tbl_cons ok55 (tbl_cons ok53 tbl_nil))) (by intro a; kernel_rfl)
noncomputable def F31 : Fun := ⟨31, [.v (.st (.pr (.slc .bor (.slc .bor (.int .i64))) .nil)), .v (.slc .bor (.int .i64))], [(.osl (.st (.pr (.int .i64) (.pr (.int .i64) (.pr (.slc .imm (.int .i64)) (.pr (.int .i64) .nil)))))), (.int .i64)], d_supernode_Fronts⟩
theorem ok31 : OkFun E F31 :=
  OkFun.of (fn := Try.f31) (rs := [.tmp 4, .tmp 5]) ((57, F57) :: (55, F55) :: (53, F53) :: []) [(2, (.ptr .imm (.st (.pr (.slc .bor (.slc .bor (.int .i64))) .nil)))), (6, (.st (.pr (.slc .imm (.int .i64)) (.pr (.slc .imm (.int .i64)) (.pr (.slc .imm (.slc .imm (.int .i64))) .nil))))), (34, (.osl (.int .i64))), (9, (.osl (.st (.pr (.int .i64) (.pr (.int .i64) (.pr (.slc .imm (.int .i64)) (.pr (.int .i64) .nil))))))), (15, (.st (.pr (.int .i64) (.pr (.int .i64) (.pr (.slc .imm (.int .i64)) (.pr (.int .i64) .nil)))))), (4, (.osl (.st (.pr (.int .i64) (.pr (.int .i64) (.pr (.slc .imm (.int .i64)) (.pr (.int .i64) .nil)))))))] [(72, 71)] (.keep [0, 1] (.two .none (.leaf) (.two .none (.leaf) (.two .none (.one (.two .none (.leaf) (.two .none (.two .none (.leaf) (.leaf)) (.two .none (.leaf) (.two .none (.two .none (.leaf) (.leaf)) (.leaf)))))) (.two .none (.leaf) (.two .none (.leaf) (.two .none (.two .none (.leaf) (.one (.keep [35, 36] (.loop ⟨[(6, .s (.ref 6 [])), (8, .s (.ref 8 [])), (9, .s (.ref 9 [])), (37, .v (.int .i64))], [(6, (.optr (.st (.pr (.slc .imm (.int .i64)) (.pr (.slc .imm (.int .i64)) (.pr (.slc .imm (.slc .imm (.int .i64))) .nil)))))), (8, (.osl (.int .i64))), (9, (.osl (.st (.pr (.int .i64) (.pr (.int .i64) (.pr (.slc .imm (.int .i64)) (.pr (.int .i64) .nil)))))))]⟩ (.x 1 ⟨[(6, .s (.ref 6 [])), (8, .s (.ref 8 [])), (9, .s (.ref 9 []))], [(6, (.optr (.st (.pr (.slc .imm (.int .i64)) (.pr (.slc .imm (.int .i64)) (.pr (.slc .imm (.slc .imm (.int .i64))) .nil)))))), (8, (.osl (.int .i64))), (9, (.osl (.st (.pr (.int .i64) (.pr (.int .i64) (.pr (.slc .imm (.int .i64)) (.pr (.int .i64) .nil)))))))]⟩) (.two .none (.leaf) (.two .none (.two .none (.leaf) (.leaf)) (.two (.x [37] ⟨[(6, .s (.ref 6 [])), (8, .s (.ref 8 [])), (9, .s (.ref 9 []))], [(6, (.optr (.st (.pr (.slc .imm (.int .i64)) (.pr (.slc .imm (.int .i64)) (.pr (.slc .imm (.slc .imm (.int .i64))) .nil)))))), (8, (.osl (.int .i64))), (9, (.osl (.st (.pr (.int .i64) (.pr (.int .i64) (.pr (.slc .imm (.int .i64)) (.pr (.int .i64) .nil)))))))]⟩) (.one (.two .none (.leaf) (.two .none (.leaf) (.two (.x [10, 11] ⟨[(6, .s (.ref 6 [])), (8, .s (.ref 8 [])), (9, .s (.ref 9 [])), (12, .v (.int .i64))], [(6, (.optr (.st (.pr (.slc .imm (.int .i64)) (.pr (.slc .imm (.int .i64)) (.pr (.slc .imm (.slc .imm (.int .i64))) .nil)))))), (8, (.osl (.int .i64))), (9, (.osl (.st (.pr (.int .i64) (.pr (.int .i64) (.pr (.slc .imm (.int .i64)) (.pr (.int .i64) .nil)))))))]⟩) (.two .none (.leaf) (.two .none (.leaf) (.leaf))) (.two .none (.two .none (.leaf) (.one (.keep [10, 11, 12] (.loop ⟨[(6, .s (.ref 6 [])), (8, .s (.ref 8 [])), (9, .s (.ref 9 [])), (13, .v (.int .i64))], [(6, (.optr (.st (.pr (.slc .imm (.int .i64)) (.pr (.slc .imm (.int .i64)) (.pr (.slc .imm (.slc .imm (.int .i64))) .nil)))))), (8, (.osl (.int .i64))), (9, (.osl (.st (.pr (.int .i64) (.pr (.int .i64) (.pr (.slc .imm (.int .i64)) (.pr (.int .i64) .nil)))))))]⟩ (.x 3 ⟨[(6, .s (.ref 6 [])), (8, .s (.ref 8 [])), (9, .s (.ref 9 []))], [(6, (.optr (.st (.pr (.slc .imm (.int .i64)) (.pr (.slc .imm (.int .i64)) (.pr (.slc .imm (.slc .imm (.int .i64))) .nil)))))), (8, (.osl (.int .i64))), (9, (.osl (.st (.pr (.int .i64) (.pr (.int .i64) (.pr (.slc .imm (.int .i64)) (.pr (.int .i64) .nil)))))))]⟩) (.two .none (.two .none (.leaf) (.two .none (.leaf) (.leaf))) (.two .none (.one (.leaf)) (.leaf))))))) (.leaf)))))) (.leaf)))))))) (.two .none (.two .none (.leaf) (.one (.keep [77] (.loop ⟨[(6, .s (.ref 6 [])), (8, .s (.ref 8 [])), (9, .s (.ref 9 [])), (76, .s (.ref 9 [])), (78, .v (.int .i64))], [(6, (.optr (.st (.pr (.slc .imm (.int .i64)) (.pr (.slc .imm (.int .i64)) (.pr (.slc .imm (.slc .imm (.int .i64))) .nil)))))), (8, (.osl (.int .i64))), (9, (.osl (.st (.pr (.int .i64) (.pr (.int .i64) (.pr (.slc .imm (.int .i64)) (.pr (.int .i64) .nil)))))))]⟩ (.x 5 ⟨[(9, .s (.ref 9 []))], [(9, (.osl (.st (.pr (.int .i64) (.pr (.int .i64) (.pr (.slc .imm (.int .i64)) (.pr (.int .i64) .nil)))))))]⟩) (.two .none (.leaf) (.two .none (.two .none (.leaf) (.leaf)) (.two (.x [78] ⟨[(6, .s (.ref 6 [])), (8, .s (.ref 8 [])), (9, .s (.ref 9 [])), (76, .s (.ref 9 []))], [(6, (.optr (.st (.pr (.slc .imm (.int .i64)) (.pr (.slc .imm (.int .i64)) (.pr (.slc .imm (.slc .imm (.int .i64))) .nil)))))), (8, (.osl (.int .i64))), (9, (.osl (.st (.pr (.int .i64) (.pr (.int .i64) (.pr (.slc .imm (.int .i64)) (.pr (.int .i64) .nil)))))))]⟩) (.one (.two .none (.leaf) (.two .none (.leaf) (.two .none (.leaf) (.two .none (.leaf) (.leaf)))))) (.leaf)))))))) (.two .none (.leaf) (.leaf)))))))))) Try.func31 (by kernel_rfl) (by kernel_rfl) (by kernel_rfl) Try.call31 (tbl_cons ok57 (tbl_cons ok55 (tbl_cons ok53 tbl_nil))) (by intro a; kernel_rfl)
noncomputable def F9 : Fun := ⟨9, [.v (.int .i64), .v (.slc .bor (.int .i64)), .v (.int .i64)], [.bool], d_sparselaw22q_MemoryFactor⟩
theorem ok9 : OkFun E F9 :=
  OkFun.of (fn := Try.f9) (rs := [.tmp 6]) ((31, F31) :: (30, F30) :: (29, F29) :: (28, F28) :: (24, F24) :: (19, F19) :: (16, F16) :: (11, F11) :: (10, F10) :: []) [(7, (.st (.pr (.slc .imm (.slc .imm (.int .i64))) .nil))), (8, (.slc .imm (.int .i64))), (10, (.slc .imm (.int .i64))), (12, (.slc .imm (.st (.pr (.int .i64) (.pr (.int .i64) (.pr (.slc .imm (.int .i64)) (.pr (.int .i64) .nil))))))), (14, (.slc .imm (.int .i64))), (15, (.slc .imm (.int .i64))), (17, (.st (.pr (.slc .imm (.int .i64)) (.pr (.slc .imm (.int .i64)) (.pr (.slc .imm (.int .i64)) .nil)))))] [(8, 34000), (10, 42000), (12, 48000), (14, 53000), (15, 53001)] (.keep [1, 2] (.two .none (.leaf) (.two .none (.two .none (.leaf) (.two .none (.two .none (.leaf) (.leaf)) (.leaf))) (.two .none (.leaf) (.two .none (.leaf) (.two .none (.leaf) (.two .none (.draw [⟨0, [37], [7], [], [7], []⟩, ⟨1, [38], [8], [], [], []⟩, ⟨2, [39], [2], [], [], []⟩, ⟨3, [40], [39], [2], [], []⟩, ⟨4, [41], [37, 38, 40], [0, 1, 3, 3], [42000], [42000]⟩, ⟨5, [36], [41], [4], [42000], []⟩, ⟨6, [42], [36], [5], [542000], []⟩, ⟨7, [43], [36], [5], [], []⟩, ⟨8, [10], [42], [6, 4, 0, 1, 2, 3, 4, 5, 6], [42000], [42000, 542000]⟩, ⟨9, [11], [43], [7, 8, 0, 1, 2, 3, 4, 5, 6, 7, 8], [], []⟩]) (.two .none (.leaf) (.two .none (.leaf) (.two .none (.leaf) (.two (.xr [0, 12, 14, 15] ⟨[(17, .s (.ref 17 []))], [(17, (.optr (.st (.pr (.slc .imm (.int .i64)) (.pr (.slc .imm (.int .i64)) (.pr (.slc .imm (.int .i64)) .nil))))))]⟩) (.two .none (.leaf) (.two .none (.two .none (.leaf) (.leaf)) (.leaf))) (.two .none (.leaf) (.two .none (.two .none (.leaf) (.one (.keep [0, 12, 14, 15] (.loop ⟨[(17, .s (.ref 17 [])), (19, .v (.int .i64)), (20, .v (.int .i64))], [(17, (.optr (.st (.pr (.slc .imm (.int .i64)) (.pr (.slc .imm (.int .i64)) (.pr (.slc .imm (.int .i64)) .nil))))))]⟩ (.xr 0 ⟨[(17, .s (.ref 17 [])), (19, .v (.int .i64))], [(17, (.optr (.st (.pr (.slc .imm (.int .i64)) (.pr (.slc .imm (.int .i64)) (.pr (.slc .imm (.int .i64)) .nil))))))]⟩) (.two .none (.two .none (.leaf) (.two .none (.leaf) (.leaf))) (.two .none (.one (.two .none (.draw [⟨0, [99], [12], [], [], []⟩, ⟨1, [100], [20], [], [], []⟩, ⟨2, [101], [99, 100], [0, 1], [], []⟩, ⟨3, [102], [101], [2], [], []⟩, ⟨4, [103], [102], [3], [], []⟩, ⟨5, [104], [12], [], [], []⟩, ⟨6, [105], [20], [], [], []⟩, ⟨7, [106], [104, 105], [5, 6], [], []⟩, ⟨8, [107], [106], [7], [], []⟩, ⟨9, [108], [107], [8], [], []⟩, ⟨10, [109], [103, 108], [4, 9], [], []⟩, ⟨11, [21], [109], [10, 0, 1, 2, 3, 4, 5, 6, 7, 8, 9, 10], [], []⟩]) (.two .none (.leaf) (.two .none (.draw [⟨0, [113], [14], [], [], []⟩, ⟨1, [114], [20], [], [], []⟩, ⟨2, [115], [113, 114], [0, 1], [], []⟩, ⟨3, [116], [115], [2], [], []⟩, ⟨4, [117], [15], [], [], []⟩, ⟨5, [118], [20], [], [], []⟩, ⟨6, [119], [117, 118], [4, 5], [], []⟩, ⟨7, [120], [119], [6], [], []⟩, ⟨8, [121], [116, 120], [3, 7], [], []⟩, ⟨9, [122], [21], [], [], []⟩, ⟨10, [123], [12], [], [], []⟩, ⟨11, [124], [20], [], [], []⟩, ⟨12, [125], [123, 124], [10, 11], [], []⟩, ⟨13, [126], [125], [12], [], []⟩, ⟨14, [127], [126], [13], [], []⟩, ⟨15, [128], [127], [14], [], []⟩, ⟨16, [129], [122, 128], [9, 15], [], []⟩, ⟨17, [130], [21], [], [], []⟩, ⟨18, [131], [21], [], [], []⟩, ⟨19, [132], [131], [18], [], []⟩, ⟨20, [133], [130, 132], [17, 19], [], []⟩, ⟨21, [134], [133], [20], [], []⟩, ⟨22, [135], [129, 134], [16, 21], [], []⟩, ⟨23, [136], [121, 135], [8, 22], [], []⟩]) (.two .none (.two .none (.leaf) (.leaf)) (.leaf)))))) (.leaf))))))) (.two .none (.leaf) (.leaf))))))))))))))) Try.func9 (by kernel_rfl) (by kernel_rfl) (by kernel_rfl) Try.call9 (tbl_cons ok31 (tbl_cons ok30 (tbl_cons ok29 (tbl_cons ok28 (tbl_cons ok24 (tbl_cons ok19 (tbl_cons ok16 (tbl_cons ok11 (tbl_cons ok10 tbl_nil))))))))) (by intro a; kernel_rfl)
end Go.Fw
end

section
namespace Go.Fw
theorem take_snoc {α : Type} {a : List α} {i : Nat} (h : i < a.length) : a.take i ++ [a[i]] = a.take (i + 1) := by
  rw [List.take_add_one, List.getElem?_eq_getElem h]; rfl
theorem pairwise_iff {l : List Int} : l.Pairwise (· < ·) ↔ ∀ k, (h : k + 1 < l.length) → l[k] < l[k + 1] := by
  constructor
  · intro h k hk
    exact (List.pairwise_iff_getElem.1 h) k (k + 1) (by omega) hk (by omega)
  · intro h
    rw [List.pairwise_iff_getElem]
    have key : ∀ d i (hi : i < l.length) (hj : i + d + 1 < l.length), l[i] < l[i + d + 1] := by
      intro d
      induction d with
      | zero => intro i hi hj; exact h i hj
      | succ d ih =>
        intro i hi hj
        have h1 := ih i hi (by omega)
        have h2 := h (i + d + 1) (by omega)
        exact Int.lt_trans h1 h2
    intro i j hi hj hij
    obtain ⟨d, rfl⟩ : ∃ d, j = i + d + 1 := ⟨j - i - 1, by omega⟩
    exact key d i hi hj
theorem Ascending_eq (l : List Int) (hl : l.length < 4611686018427387904) : d_sparsekit_Ascending (l, ()) = some (decide (l.Pairwise (· < ·)), ()) := by
  rw [← Ok.eq_iff]
  unfold d_sparsekit_Ascending
  simp only [Ok.bind_iff]
  by_cases h0 : l.length = 0
  · have : l = [] := List.length_eq_zero_iff.1 h0
    subst this
    refine Ok.loop (fun s => s = (1, ())) (fun _ => 0) rfl ?_
    rintro _ rfl
    simp [Ok.some_iff]
  · refine Ok.for (i0 := 1) l.length (fun i _ => ∀ k, (h : k + 1 < l.length) → k + 1 < i → l[k] < l[k + 1]) rfl (fun k _ h => by omega) (by omega) ?_ ?_
    · rintro i _ h1 hi hI
      simp only [Ok.bif_iff, Ok.bind_iff, Ok.some_iff, Ok.getN_iff]
      have e : IntKind.i64.wrap ((i : Int) - 1) = ((i - 1 : Nat) : Int) := by rw [wrap64 (by omega) (by omega)]; omega
      rw [e]
      refine ⟨fun _ => ⟨hi, ?_⟩, fun hf => ?_⟩
      · rw [Ok.getN_iff]
        refine ⟨by omega, ?_⟩
        refine ⟨fun hle => ?_, fun hlt => ⟨wrap_succ (by omega), fun k hk hki => ?_⟩⟩
        · have : ¬ l.Pairwise (· < ·) := fun hp => by
            have := pairwise_iff.1 hp (i - 1) (by omega)
            simp only [show i - 1 + 1 = i by omega] at this
            simp at hle; omega
          simp [this]
        · rcases Nat.lt_or_ge (k + 1) i with h2 | h2
          · exact hI k hk h2
          · obtain rfl : i = k + 1 := by omega
            simp at hlt
            exact hlt
      · simp at hf; omega
    · intro t hI
      simp only [Ok.bif_iff, Ok.bind_iff, Ok.some_iff]
      refine ⟨fun hf => by simp at hf, fun _ => ?_⟩
      have : l.Pairwise (· < ·) := pairwise_iff.2 (fun k hk => hI k hk hk)
      simp [this]
end Go.Fw
end

section
namespace Go.Fw
def mark (m : List Bool) (l : List Int) : List Bool := l.foldl (fun m i => m.set i.toNat true) m
end Go.Fw
end

section
set_option linter.unusedSimpArgs false
set_option linter.unusedVariables false
namespace Go.Fw
def AscIn (l : List Int) (n : Int) : Prop := l.Pairwise (· < ·) ∧ ∀ x ∈ l, 0 ≤ x ∧ x < n
theorem Ok.count {σ ρ : Type} {f : σ → Option (σ ⊕ ρ)} {Q : ρ → Prop} (ix : σ → Int) (n : Nat) (I : Nat → σ → Prop) {i0 : Nat} {s0 : σ} (hix : ix s0 = (i0 : Int)) (h0 : I i0 s0) (hi : i0 ≤ n)
    (hstep : ∀ i s, i0 ≤ i → i < n → ix s = (i : Int) → I i s → Ok (f s) (fun | .inl s' => ix s' = ((i + 1 : Nat) : Int) ∧ I (i + 1) s' | .inr r => Q r))
    (hend : ∀ s, ix s = (n : Int) → I n s → Ok (f s) (fun | .inl _ => False | .inr r => Q r)) : Ok (Fw.loop f s0) Q := by
  refine Ok.loop (fun s => ∃ i : Nat, i0 ≤ i ∧ i ≤ n ∧ ix s = (i : Int) ∧ I i s) (fun s => n - (ix s).toNat) ⟨i0, Nat.le_refl _, hi, hix, h0⟩ ?_
  rintro s ⟨i, hl, hi, e, ht⟩
  rcases Nat.lt_or_ge i n with h | h
  · refine (hstep i s hl h e ht).mono ?_
    rintro (s' | r) hy
    · obtain ⟨e', h2⟩ := hy
      exact ⟨⟨i + 1, by omega, by omega, e', h2⟩, by rw [e, e']; simp; omega⟩
    · exact hy
  · obtain rfl : i = n := by omega
    refine (hend s e ht).mono ?_
    rintro (s' | r) hy
    · exact hy.elim
    · exact hy
open Classical in
theorem ascending_eq (l : List Int) (n : Int) (hl : l.length < 4611686018427387904) : d_graph_ascending (l, n, ()) = some (decide (AscIn l n), ()) := by
  rw [← Ok.eq_iff]
  unfold d_graph_ascending
  simp only [Ok.bind_iff]
  refine Ok.count (fun s => s.2.1) l.length (fun i s => s.1 = (if i = 0 then -1 else l.getD (i - 1) 0) ∧ (l.take i).Pairwise (· < ·) ∧ ∀ x ∈ l.take i, 0 ≤ x ∧ x < n) (i0 := 0) rfl ⟨rfl, by simp, by simp⟩ (Nat.zero_le _) ?_ ?_
  · rintro i ⟨last, j, _⟩ _ hi e ⟨h1, h2, h3⟩
    simp only at e h1
    subst e
    simp only [Ok.bif_iff, Ok.bind_iff, Ok.some_iff, Ok.getN_iff]
    -- what is before is less than the last one, which is at least -1
    have hlast : ∀ x ∈ l.take i, x ≤ last := by
      intro x hx
      rw [h1]
      obtain ⟨k, hk, rfl⟩ := List.mem_iff_getElem.1 hx
      simp only [List.length_take] at hk
      have hi0 : i ≠ 0 := by omega
      rw [if_neg hi0]
      simp only [List.getElem_take, List.getD, List.getElem?_eq_getElem (show i - 1 < l.length by omega), Option.getD_some]
      rcases Nat.lt_or_ge k (i - 1) with h | h
      · have := (List.pairwise_iff_getElem.1 h2) k (i - 1) (by simp; omega) (by simp; omega) h
        simp only [List.getElem_take] at this
        omega
      · have : k = i - 1 := by omega
        subst this; exact Int.le_refl _
    have hm1 : -1 ≤ last := by
      rw [h1]
      by_cases h0 : i = 0
      · rw [if_pos h0]; exact Int.le_refl _
      · rw [if_neg h0]
        simp only [List.getD, List.getElem?_eq_getElem (show i - 1 < l.length by omega), Option.getD_some]
        have := h3 (l[i - 1]) (List.mem_iff_getElem.2 ⟨i - 1, by simp; omega, by simp⟩)
        omega
    have hbad : (l[i] ≤ last ∨ n ≤ l[i]) → ¬ AscIn l n := by
      rintro h ⟨p1, p2⟩
      rcases h with h | h
      · rw [h1] at h
        by_cases h0 : i = 0
        · rw [if_pos h0] at h
          have := p2 _ (List.getElem_mem hi); omega
        · rw [if_neg h0] at h
          simp only [List.getD, List.getElem?_eq_getElem (show i - 1 < l.length by omega), Option.getD_some] at h
          have := (List.pairwise_iff_getElem.1 p1) (i - 1) i (by omega) hi (by omega)
          omega
      · have := p2 _ (List.getElem_mem hi); omega
    refine ⟨fun _ => ⟨hi, fun g1 => ⟨fun g2 => ?_, fun g2 => ?_⟩, fun g1 => ?_⟩, fun hf => by simp at hf; omega⟩
    · have := hbad (.inr (by simpa using g2))
      simp [this]
    · simp at g1 g2
      refine ⟨wrap_succ (by omega), ?_, ?_, ?_⟩
      · simp [List.getD, hi]
      · rw [← take_snoc hi, List.pairwise_append]
        refine ⟨h2, by simp, fun a ha b hb => ?_⟩
        simp only [List.mem_singleton] at hb
        subst hb
        have := hlast a ha; omega
      · rw [← take_snoc hi]
        intro x hx
        rcases List.mem_append.1 hx with hx | hx
        · exact h3 x hx
        · simp only [List.mem_singleton] at hx
          subst hx
          omega
    · have := hbad (.inl (by simpa using g1))
      simp [this]
  · rintro ⟨last, j, _⟩ e ⟨h1, h2, h3⟩
    simp only at e
    subst e
    simp only [Ok.bif_iff, Ok.some_iff]
    refine ⟨fun hf => by simp at hf, fun _ => ?_⟩
    rw [List.take_length] at h2 h3
    have : AscIn l n := ⟨h2, h3⟩
    simp [this]
theorem Less_eq (x y : Int) : d_cmp_Less_int (x, y, ()) = some (decide (x < y), ()) := by
  unfold d_cmp_Less_int d_cmp_isNaN_int
  simp
theorem wrapUq_eq (x : Int) (h1 : 0 ≤ x) (h2 : x < 18446744073709551616) : IntKind.u64.wrap x = x := by
  unfold IntKind.wrap
  rw [if_neg (by simp [IntKind.signed])]
  show x % 18446744073709551616 = x
  omega
theorem BinarySearch_eq (l : List Int) (v : Int) (hl : l.length < 4611686018427387904) (hp : l.Pairwise (· < ·)) : Ok (d_slices_BinarySearch_int_int (l, v, ())) (fun r => r.2.1 = decide (v ∈ l)) := by
  unfold d_slices_BinarySearch_int_int
  simp only [Ok.bind_iff]
  refine Ok.mono (P := fun q => ∃ i : Nat, q.1 = (i : Int) ∧ i ≤ l.length ∧ (∀ k, (h : k < l.length) → k < i → l[k] < v) ∧ (∀ k, (h : k < l.length) → i ≤ k → v ≤ l[k])) ?_ ?_
  · refine Ok.loop (fun s => ∃ i j : Nat, s.1 = (i : Int) ∧ s.2.1 = (j : Int) ∧ i ≤ j ∧ j ≤ l.length ∧ (∀ k, (h : k < l.length) → k < i → l[k] < v) ∧ (∀ k, (h : k < l.length) → j ≤ k → v ≤ l[k])) (fun s => (s.2.1 - s.1).toNat) ⟨0, l.length, rfl, rfl, Nat.zero_le _, Nat.le_refl _, fun k _ h => by omega, fun k h1 h2 => by omega⟩ ?_
    rintro ⟨i', j', _⟩ ⟨i, j, rfl, rfl, hij, hj, h1, h2⟩
    simp only [Ok.bif_iff, Ok.bind_iff, Ok.some_iff]
    refine ⟨fun hlt => ?_, fun hge => ?_⟩
    · have hlt : i < j := by simpa using hlt
      have e1 : IntKind.i64.wrap ((i : Int) + j) = (i : Int) + j := wrap64 (by omega) (by omega)
      rw [e1, wrapUq_eq _ (by omega) (by omega)]
      have hs : shrO IntKind.u64 ((i : Int) + j) 1 = some (((i + j) / 2 : Nat) : Int) := by
        unfold shrO
        rw [if_pos (by omega)]
        congr 1
        show ((i : Int) + j).fdiv (2 ^ min 1 64) = _
        rw [show (2 : Int) ^ min 1 64 = 2 from rfl, Int.fdiv_eq_ediv_of_nonneg _ (by omega)]
        omega
      rw [hs]
      simp only [Ok.some_iff]
      have e2 : IntKind.i64.wrap (((i + j) / 2 : Nat) : Int) = (((i + j) / 2 : Nat) : Int) := wrap64 (by omega) (by omega)
      rw [e2, Ok.getN_iff]
      refine ⟨by omega, ?_⟩
      rw [Less_eq]
      simp only [Ok.some_iff, Ok.bif_iff]
      have hh : (i + j) / 2 < l.length := by omega
      refine ⟨fun hlv => ?_, fun hlv => ?_⟩
      · have hlv : l[(i + j) / 2] < v := by simpa using hlv
        rw [wrap_succ (by omega)]
        refine ⟨⟨(i + j) / 2 + 1, j, rfl, rfl, by omega, hj, fun k hk hki => ?_, h2⟩, by omega⟩
        rcases Nat.lt_or_ge k ((i + j) / 2) with h | h
        · exact Int.lt_trans ((List.pairwise_iff_getElem.1 hp) k _ hk hh h) hlv
        · have : k = (i + j) / 2 := by omega
          subst this; exact hlv
      · have hlv : v ≤ l[(i + j) / 2] := by simpa using hlv
        refine ⟨⟨i, (i + j) / 2, rfl, rfl, by omega, by omega, h1, fun k hk hki => ?_⟩, by omega⟩
        rcases Nat.lt_or_ge ((i + j) / 2) k with h | h
        · have := (List.pairwise_iff_getElem.1 hp) _ k hh hk h; omega
        · have : k = (i + j) / 2 := by omega
          subst this; exact hlv
    · have hij' : i = j := by have : ¬ i < j := by simpa using hge
                              omega
      subst hij'
      exact ⟨i, rfl, hj, h1, h2⟩
  · rintro ⟨i', _⟩ ⟨i, rfl, hi, h1, h2⟩
    simp only
    have hno : (∀ h : i < l.length, l[i] ≠ v) → v ∉ l := by
      intro hne hm
      obtain ⟨k, hk, rfl⟩ := List.mem_iff_getElem.1 hm
      rcases Nat.lt_trichotomy k i with h | h | h
      · have := h1 k hk h; omega
      · subst h; exact hne hk rfl
      · have a1 := h2 i (by omega) (Nat.le_refl _)
        have a2 := (List.pairwise_iff_getElem.1 hp) i k (by omega) hk h
        omega
    simp only [Ok.bif_iff, Ok.bind_iff, Ok.some_iff, Ok.getN_iff]
    refine ⟨fun hlt => ?_, fun hge => ?_⟩
    · have hlt : i < l.length := by simpa using hlt
      refine ⟨hlt, fun hne => ?_, fun heq => ?_⟩
      · have hne : l[i] ≠ v := by simpa using hne
        refine ⟨hlt, ?_⟩
        unfold d_slices_isNaN_int
        simp [Ok.some_iff]
        exact hno (fun _ => hne)
      · have heq : l[i] = v := by simpa using heq
        simp [← heq]
    · have hge : ¬ i < l.length := by simpa using hge
      simp
      exact hno (fun h => absurd h hge)
structure Valid (adj : List (List Int)) : Prop where
  asc : ∀ v, (h : v < adj.length) → AscIn adj[v] adj.length
  irr : ∀ v, (h : v < adj.length) → (v : Int) ∉ adj[v]
  sym : ∀ v, (h : v < adj.length) → ∀ w : Nat, (hw : w < adj.length) → (w : Int) ∈ adj[v] → (v : Int) ∈ adj[w]
open Classical in
noncomputable def chk (adj : List (List Int)) : Int := if 200 < adj.length then 6 else if Valid adj then 0 else 1
open Classical in
theorem joined_eq (adj : List (List Int)) (v : Nat) (w : Int) (hv : v < adj.length) (hl : adj[v].length < 4611686018427387904) (hp : adj[v].Pairwise (· < ·)) : d_graph_joined ((adj, ()), (v : Int), w, ()) = some (decide (w ∈ adj[v]), ()) := by
  rw [← Ok.eq_iff]
  unfold d_graph_joined
  simp only [Ok.bind_iff, Ok.getN_iff]
  refine ⟨hv, (BinarySearch_eq _ _ hl hp).mono ?_⟩
  rintro ⟨i, b, _⟩ h
  simp only at h
  rw [Ok.some_iff, h]
theorem Check_eq (adj : List (List Int)) (hc : ∀ l ∈ adj, l.length < 4611686018427387904) : d_graph_Check ((adj, ()), ()) = some (chk adj, ()) := by
  classical
  rw [← Ok.eq_iff]
  unfold d_graph_Check
  simp only [Ok.bif_iff, Ok.bind_iff, Ok.some_iff]
  refine ⟨fun h => ?_, fun h => ?_⟩
  · have : 200 < adj.length := by simp at h; omega
    simp [chk, this]
  have hn : ¬ 200 < adj.length := by simp at h; omega
  have hbad : ¬ Valid adj → (1 : Int) = chk adj := fun h => by simp [chk, hn, h]
  refine Ok.mono (P := fun q => (q = .inr (1, ()) ∧ ¬ Valid adj) ∨ (q = .inl () ∧ ∀ k, (h : k < adj.length) → AscIn adj[k] adj.length ∧ (k : Int) ∉ adj[k])) ?_ ?_
  · refine Ok.for (i0 := 0) adj.length (fun i _ => ∀ k, k < i → (h : k < adj.length) → AscIn adj[k] adj.length ∧ (k : Int) ∉ adj[k]) rfl (fun k hk => by omega) (Nat.zero_le _) ?_ ?_
    · rintro i _ _ hi hI
      simp only [Ok.bif_iff, Ok.bind_iff, Ok.some_iff, Ok.getN_iff]
      refine ⟨fun _ => ⟨hi, ?_⟩, fun hf => by simp at hf; omega⟩
      rw [ascending_eq _ _ (hc _ (List.getElem_mem hi))]
      simp only [Ok.some_iff]
      refine ⟨fun ha => ?_, fun ha => .inl ⟨trivial, fun hv => ?_⟩⟩
      · have ha : AscIn adj[i] adj.length := by simpa using ha
        rw [joined_eq adj i i hi (hc _ (List.getElem_mem hi)) ha.1]
        simp only [Ok.some_iff, Ok.bif_iff]
        refine ⟨fun hj => .inl ⟨trivial, fun hv => hv.irr i hi (by simpa using hj)⟩, fun hj => ⟨wrap_succ (by omega), fun k hk hkl => ?_⟩⟩
        rcases Nat.lt_or_ge k i with h2 | h2
        · exact hI k h2 hkl
        · obtain rfl : k = i := by omega
          exact ⟨ha, by simpa using hj⟩
      · have := hv.asc i hi
        simp [this] at ha
    · intro t hI
      simp only [Ok.bif_iff, Ok.some_iff]
      exact ⟨fun hf => by simp at hf, fun _ => .inr ⟨trivial, fun k hk => hI k hk hk⟩⟩
  · rintro q (⟨rfl, hv⟩ | ⟨rfl, hA⟩)
    · simp only [Ok.some_iff, hbad hv]
    simp only [Ok.bind_iff]
    have hsym : (∀ v, (h : v < adj.length) → ∀ x ∈ adj[v], ∀ w : Nat, x = (w : Int) → (hw : w < adj.length) → (v : Int) ∈ adj[w]) → Valid adj := fun h => ⟨fun v hv => (hA v hv).1, fun v hv => (hA v hv).2, fun v hv w hw hm => h v hv w hm w rfl hw⟩
    refine Ok.mono (P := fun q => (q = .inr (1, ()) ∧ ¬ Valid adj) ∨ (q = .inl () ∧ ∀ v, (h : v < adj.length) → ∀ x ∈ adj[v], ∀ w : Nat, x = (w : Int) → (hw : w < adj.length) → (v : Int) ∈ adj[w])) ?_ ?_
    · refine Ok.for (i0 := 0) adj.length (fun i _ => ∀ v, v < i → (h : v < adj.length) → ∀ x ∈ adj[v], ∀ w : Nat, x = (w : Int) → (hw : w < adj.length) → (v : Int) ∈ adj[w]) rfl (fun k hk => by omega) (Nat.zero_le _) ?_ ?_
      · rintro i _ _ hi hI
        simp only [Ok.bif_iff, Ok.bind_iff, Ok.getN_iff]
        refine ⟨fun _ => ⟨hi, ?_⟩, fun hf => by simp at hf; omega⟩
        have hli := hc _ (List.getElem_mem hi)
        refine Ok.mono (P := fun q => (q = .inr (.inr (.inr (1, ()))) ∧ ¬ Valid adj) ∨ (q = .inl () ∧ ∀ x ∈ adj[i], ∀ w : Nat, x = (w : Int) → (hw : w < adj.length) → (i : Int) ∈ adj[w])) ?_ ?_
        · refine Ok.for (i0 := 0) adj[i].length (fun k _ => ∀ m, m < k → (h : m < adj[i].length) → ∀ w : Nat, adj[i][m] = (w : Int) → (hw : w < adj.length) → (i : Int) ∈ adj[w]) rfl (fun k hk => by omega) (Nat.zero_le _) ?_ ?_
          · rintro k _ _ hk hK
            simp only [Ok.bif_iff, Ok.bind_iff, Ok.getN_iff]
            refine ⟨fun _ => ⟨hk, ?_⟩, fun hf => by simp at hf; omega⟩
            have hr := (hA i hi).1.2 _ (List.getElem_mem hk)
            obtain ⟨w, hw⟩ : ∃ w : Nat, adj[i][k] = (w : Int) := ⟨adj[i][k].toNat, by omega⟩
            have hwl : w < adj.length := by omega
            rw [hw, joined_eq adj w i hwl (hc _ (List.getElem_mem hwl)) (hA w hwl).1.1]
            simp only [Ok.some_iff, Ok.bif_iff]
            refine ⟨fun hno => .inl ⟨trivial, fun hv => ?_⟩, fun hyes => ⟨wrap_succ (by omega), fun m hm hml w' hw' hw'l => ?_⟩⟩
            · have := hv.sym i hi w hwl (hw ▸ List.getElem_mem hk)
              simp [this] at hno
            · rcases Nat.lt_or_ge m k with h2 | h2
              · exact hK m h2 hml w' hw' hw'l
              · obtain rfl : m = k := by omega
                have : w' = w := by omega
                subst this
                simpa using hyes
          · intro t hK
            simp only [Ok.bif_iff, Ok.some_iff]
            refine ⟨fun hf => by simp at hf, fun _ => .inr ⟨trivial, fun x hx w hw hwl => ?_⟩⟩
            obtain ⟨m, hm, rfl⟩ := List.mem_iff_getElem.1 hx
            exact hK m hm hm w hw hwl
        · rintro q (⟨rfl, hv⟩ | ⟨rfl, hX⟩)
          · simp only [Ok.some_iff]
            exact .inl ⟨trivial, hv⟩
          · simp only [Ok.some_iff]
            refine ⟨wrap_succ (by omega), fun v hv hvl => ?_⟩
            rcases Nat.lt_or_ge v i with h2 | h2
            · exact hI v h2 hvl
            · obtain rfl : v = i := by omega
              exact hX
      · intro t hI
        simp only [Ok.bif_iff, Ok.some_iff]
        exact ⟨fun hf => by simp at hf, fun _ => .inr ⟨trivial, fun k hk => hI k hk hk⟩⟩
    · rintro q (⟨rfl, hv⟩ | ⟨rfl, hX⟩)
      · simp only [Ok.some_iff, hbad hv]
      · simp only [Ok.some_iff]
        simp [chk, hn, hsym hX]
end Go.Fw
end
