/-
  What the functions that SymbolicReach reaches compute: each call of one answers as its pure program says.
-/
import Derived.Test.YtlalecmgnaoiiaaFw36
import Derived.Test.YtlalecmgnaoiiaaDn20
import Derived.Test.YtlalecmgnaoiiaaProg
import Derived.KernelRfl
namespace Go.Fw
open Go.Proofs
def tt : List (Nat × Ty) := [(3, (.int .i64)), (4, .bool), (22, (.slc .imm (.slc .imm (.int .i64)))), (23, (.slc .imm (.int .i64))), (35, (.st (.pr (.slc .imm (.slc .imm (.int .i64))) .nil))), (58, (.slc .imm .bool)), (59, (.int .u64)), (69, (.st (.pr (.slc .imm (.int .i64)) (.pr (.slc .imm (.int .i64)) .nil))))]
noncomputable def E : Env := ⟨Try.prog, tt, tt_ok (by kernel_rfl), by kernel_rfl⟩

/-- sparse/graph.ascending -/
noncomputable def F59 : Fun := ⟨59, [.v (.slc .bor (.int .i64)), .v (.int .i64)], [.bool], d_graph_ascending⟩
theorem ok59 : OkFun E F59 :=
  OkFun.of (fn := Try.f59) (rs := [.tmp 4]) ([]) [] [] (.keep [0, 1] (.two .none (.leaf) (.two .none (.leaf) (.two .none (.two .none (.leaf) (.one (.keep [8, 9] (.loop ⟨[(5, .v (.int .i64)), (10, .v (.int .i64))], []⟩ (.xr 0 ⟨[], []⟩) (.two .none (.leaf) (.two .none (.two .none (.leaf) (.leaf)) (.two (.xr [10] ⟨[(5, .v (.int .i64))], []⟩) (.one (.two .none (.leaf) (.two (.xr [7] ⟨[], []⟩) (.two .none (.leaf) (.two .none (.two .none (.leaf) (.leaf)) (.leaf))) (.leaf)))) (.leaf)))))))) (.two .none (.leaf) (.leaf)))))) Try.func59 (by kernel_rfl) (by kernel_rfl) (by kernel_rfl) Try.call59 tbl_nil (by intro a; kernel_rfl)

/-- cmp.isNaN[int] -/
noncomputable def F81 : Fun := ⟨81, [.v (.int .i64)], [.bool], d_cmp_isNaN_int⟩
theorem ok81 : OkFun E F81 :=
  OkFun.of (fn := Try.f81) (rs := [.tmp 2]) ([]) [] [] (.keep [0] (.two .none (.leaf) (.two .none (.leaf) (.leaf)))) Try.func81 (by kernel_rfl) (by kernel_rfl) (by kernel_rfl) Try.call81 tbl_nil (by intro a; kernel_rfl)

/-- cmp.Less[int] -/
noncomputable def F76 : Fun := ⟨76, [.v (.int .i64), .v (.int .i64)], [.bool], d_cmp_Less_int⟩
theorem ok76 : OkFun E F76 :=
  OkFun.of (fn := Try.f76) (rs := [.tmp 4]) ((81, F81) :: []) [] [] (.keep [0, 1] (.two .none (.leaf) (.two .none (.leaf) (.leaf)))) Try.func76 (by kernel_rfl) (by kernel_rfl) (by kernel_rfl) Try.call76 (tbl_cons ok81 tbl_nil) (by intro a; kernel_rfl)

/-- slices.isNaN[int] -/
noncomputable def F77 : Fun := ⟨77, [.v (.int .i64)], [.bool], d_slices_isNaN_int⟩
theorem ok77 : OkFun E F77 :=
  OkFun.of (fn := Try.f77) (rs := [.tmp 2]) ([]) [] [] (.keep [0] (.two .none (.leaf) (.two .none (.leaf) (.leaf)))) Try.func77 (by kernel_rfl) (by kernel_rfl) (by kernel_rfl) Try.call77 tbl_nil (by intro a; kernel_rfl)

/-- slices.BinarySearch[[]int,int] -/
noncomputable def F71 : Fun := ⟨71, [.v (.slc .bor (.int .i64)), .v (.int .i64)], [(.int .i64), .bool], d_slices_BinarySearch_int_int⟩
theorem ok71 : OkFun E F71 :=
  OkFun.of (fn := Try.f71) (rs := [.tmp 4, .tmp 5]) ((77, F77) :: (76, F76) :: []) [] [] (.keep [0, 1] (.two .none (.leaf) (.two .none (.leaf) (.two .none (.leaf) (.two .none (.one (.keep [6] (.loop ⟨[(7, .v (.int .i64)), (8, .v (.int .i64))], []⟩ (.x 0 ⟨[(7, .v (.int .i64))], []⟩) (.two .none (.two .none (.leaf) (.two .none (.leaf) (.leaf))) (.one (.two .none (.leaf) (.two .none (.leaf) (.two .none (.leaf) (.leaf))))))))) (.two .none (.leaf) (.leaf))))))) Try.func71 (by kernel_rfl) (by kernel_rfl) (by kernel_rfl) Try.call71 (tbl_cons ok77 (tbl_cons ok76 tbl_nil)) (by intro a; kernel_rfl)

/-- sparse/graph.joined -/
noncomputable def F60 : Fun := ⟨60, [.v (.st (.pr (.slc .bor (.slc .bor (.int .i64))) .nil)), .v (.int .i64), .v (.int .i64)], [.bool], d_graph_joined⟩
theorem ok60 : OkFun E F60 :=
  OkFun.of (fn := Try.f60) (rs := [.tmp 6]) ((71, F71) :: []) [(3, (.ptr .imm (.st (.pr (.slc .bor (.slc .bor (.int .i64))) .nil))))] [] (.keep [0, 1, 2] (.two .none (.leaf) (.two .none (.leaf) (.two .none (.leaf) (.leaf))))) Try.func60 (by kernel_rfl) (by kernel_rfl) (by kernel_rfl) Try.call60 (tbl_cons ok71 tbl_nil) (by intro a; kernel_rfl)

/-- sparse/graph.Check -/
noncomputable def F43 : Fun := ⟨43, [.v (.st (.pr (.slc .bor (.slc .bor (.int .i64))) .nil))], [(.int .i64)], d_graph_Check⟩
theorem ok43 : OkFun E F43 :=
  OkFun.of (fn := Try.f43) (rs := [.tmp 2]) ((60, F60) :: (59, F59) :: []) [(1, (.ptr .imm (.st (.pr (.slc .bor (.slc .bor (.int .i64))) .nil))))] [] (.keep [0] (.two .none (.leaf) (.two .none (.leaf) (.two .none (.two .none (.leaf) (.two .none (.two .none (.leaf) (.leaf)) (.leaf))) (.two .none (.two .none (.leaf) (.one (.keep [1, 3, 16, 17] (.loop ⟨[(18, .v (.int .i64))], []⟩ (.xr 0 ⟨[], []⟩) (.two .none (.leaf) (.two .none (.two .none (.leaf) (.leaf)) (.two (.xr [18] ⟨[], []⟩) (.one (.two .none (.leaf) (.two .none (.leaf) (.two .none (.two .none (.leaf) (.leaf)) (.leaf))))) (.leaf)))))))) (.two .none (.two .none (.leaf) (.one (.keep [1, 35, 36] (.loop ⟨[(37, .v (.int .i64))], []⟩ (.xr 2 ⟨[], []⟩) (.two .none (.leaf) (.two .none (.two .none (.leaf) (.leaf)) (.two .none (.one (.two .none (.leaf) (.two .none (.leaf) (.one (.keep [6, 37, 42, 43] (.loop ⟨[(44, .v (.int .i64))], []⟩ (.xr 4 ⟨[], []⟩) (.two .none (.leaf) (.two .none (.two .none (.leaf) (.leaf)) (.two .none (.one (.two .none (.leaf) (.two .none (.leaf) (.two .none (.two .none (.leaf) (.leaf)) (.leaf))))) (.leaf)))))))))) (.leaf)))))))) (.two .none (.leaf) (.leaf)))))))) Try.func43 (by kernel_rfl) (by kernel_rfl) (by kernel_rfl) Try.call43 (tbl_cons ok60 (tbl_cons ok59 tbl_nil)) (by intro a; kernel_rfl)

/-- sparse/etree.newForest -/
noncomputable def F44 : Fun := ⟨44, [.v (.int .i64)], [(.optr (.st (.pr (.osl (.int .i64)) (.pr (.osl (.int .i64)) .nil))))], d_etree_newForest⟩
theorem ok44 : OkFun E F44 :=
  OkFun.of (fn := Try.f44) (rs := [.tmp 2]) ([]) [(6, (.osl (.int .i64))), (8, (.osl (.int .i64)))] [] (.keep [0] (.two .none (.leaf) (.two .none (.draw [(1, [6], [6]), (3, [8], [8]), (4, [6, 8, 9], [6, 8, 9]), (5, [9, 10], [9, 10]), (6, [3, 10], [3, 10])] [0, 1, 2, 3, 4, 5, 6]) (.two .none (.two .none (.leaf) (.one (.keep [11] (.loop ⟨[(3, .s (.ref 3 [])), (12, .v (.int .i64))], [(3, (.optr (.st (.pr (.osl (.int .i64)) (.pr (.osl (.int .i64)) .nil)))))]⟩ (.x 0 ⟨[(3, .s (.ref 3 []))], [(3, (.optr (.st (.pr (.osl (.int .i64)) (.pr (.osl (.int .i64)) .nil)))))]⟩) (.two .none (.leaf) (.two .none (.two .none (.leaf) (.leaf)) (.two .none (.one (.two .none (.leaf) (.draw [(0, [3], []), (1, [3], []), (2, [3], []), (3, [3], []), (5, [3], []), (6, [3], []), (7, [3], []), (8, [3], []), (10, [3], []), (11, [3], [3]), (12, [3], []), (13, [3], [3])] [0, 1, 2, 3, 4, 5, 6, 7, 8, 9, 10, 11, 12, 13]))) (.leaf)))))))) (.two .none (.leaf) (.leaf)))))) Try.func44 (by kernel_rfl) (by kernel_rfl) (by kernel_rfl) Try.call44 tbl_nil (by intro a; kernel_rfl)

/-- (*sparse/etree.forest).join -/
noncomputable def F45 : Fun := ⟨45, [.m (.optr (.st (.pr (.osl (.int .i64)) (.pr (.osl (.int .i64)) .nil)))), .v (.int .i64), .v (.int .i64)], [], d_etree_forest_join⟩
theorem ok45 : OkFun E F45 :=
  OkFun.of (fn := Try.f45) (rs := []) ([]) [] [] (.keep [2] (.one (.loop ⟨[(0, .s (.ref 0 [])), (1, .v (.int .i64))], [(0, (.optr (.st (.pr (.osl (.int .i64)) (.pr (.osl (.int .i64)) .nil)))))]⟩ (.x 0 ⟨[(0, .s (.ref 0 []))], [(0, (.optr (.st (.pr (.osl (.int .i64)) (.pr (.osl (.int .i64)) .nil)))))]⟩) (.two (.xr [1] ⟨[(0, .s (.ref 0 []))], [(0, (.optr (.st (.pr (.osl (.int .i64)) (.pr (.osl (.int .i64)) .nil)))))]⟩) (.two .none (.leaf) (.two .none (.leaf) (.leaf))) (.one (.two .none (.leaf) (.two .none (.leaf) (.two (.x [6] ⟨[(0, .s (.ref 0 []))], [(0, (.optr (.st (.pr (.osl (.int .i64)) (.pr (.osl (.int .i64)) .nil)))))]⟩) (.two .none (.leaf) (.two .none (.leaf) (.leaf))) (.leaf))))))))) Try.func45 (by kernel_rfl) (by kernel_rfl) (by kernel_rfl) Try.call45 tbl_nil (by intro a; kernel_rfl)

/-- sparse/etree.Parent -/
noncomputable def F23 : Fun := ⟨23, [.v (.st (.pr (.slc .bor (.slc .bor (.int .i64))) .nil))], [(.osl (.int .i64)), (.int .i64)], d_etree_Parent⟩
theorem ok23 : OkFun E F23 :=
  OkFun.of (fn := Try.f23) (rs := [.tmp 2, .tmp 3]) ((45, F45) :: (44, F44) :: (43, F43) :: []) [(1, (.ptr .imm (.st (.pr (.slc .bor (.slc .bor (.int .i64))) .nil)))), (2, (.osl (.int .i64)))] [] (.keep [0] (.two .none (.leaf) (.two .none (.leaf) (.two .none (.two .none (.leaf) (.two .none (.two .none (.leaf) (.leaf)) (.leaf))) (.two .none (.leaf) (.two .none (.two .none (.leaf) (.one (.keep [20, 21] (.loop ⟨[(5, .s (.ref 5 [])), (22, .v (.int .i64))], [(5, (.optr (.st (.pr (.osl (.int .i64)) (.pr (.osl (.int .i64)) .nil)))))]⟩ (.x 0 ⟨[(5, .s (.ref 5 []))], [(5, (.optr (.st (.pr (.osl (.int .i64)) (.pr (.osl (.int .i64)) .nil)))))]⟩) (.two .none (.leaf) (.two .none (.two .none (.leaf) (.leaf)) (.two .none (.one (.two .none (.leaf) (.two .none (.leaf) (.one (.keep [6, 22, 27, 28] (.loop ⟨[(5, .s (.ref 5 [])), (29, .v (.int .i64))], [(5, (.optr (.st (.pr (.osl (.int .i64)) (.pr (.osl (.int .i64)) .nil)))))]⟩ (.x 2 ⟨[(5, .s (.ref 5 []))], [(5, (.optr (.st (.pr (.osl (.int .i64)) (.pr (.osl (.int .i64)) .nil)))))]⟩) (.two .none (.leaf) (.two .none (.two .none (.leaf) (.leaf)) (.two .none (.one (.two .none (.leaf) (.leaf))) (.leaf)))))))))) (.leaf)))))))) (.two .none (.leaf) (.leaf)))))))) Try.func23 (by kernel_rfl) (by kernel_rfl) (by kernel_rfl) Try.call23 (tbl_cons ok45 (tbl_cons ok44 (tbl_cons ok43 tbl_nil))) (by intro a; kernel_rfl)

/-- sparse/symbolic.row -/
noncomputable def F40 : Fun := ⟨40, [.v (.st (.pr (.slc .bor (.slc .bor (.int .i64))) .nil)), .v (.slc .bor (.int .i64)), .v (.int .i64)], [(.osl (.int .i64))], d_symbolic_row⟩
theorem ok40 : OkFun E F40 :=
  OkFun.of (fn := Try.f40) (rs := [.tmp 6]) ([]) [(3, (.ptr .imm (.st (.pr (.slc .bor (.slc .bor (.int .i64))) .nil)))), (15, (.osl .bool)), (10, (.osl (.int .i64)))] [] (.keep [0, 1, 2] (.two .none (.leaf) (.two .none (.leaf) (.two .none (.leaf) (.two .none (.two .none (.leaf) (.one (.keep [23, 24] (.loop ⟨[(7, .s (.ref 7 [])), (25, .v (.int .i64))], [(7, (.osl .bool))]⟩ (.x 0 ⟨[(7, .s (.ref 7 []))], [(7, (.osl .bool))]⟩) (.two .none (.leaf) (.two .none (.two .none (.leaf) (.leaf)) (.two .none (.one (.two .none (.leaf) (.one (.keep [25] (.loop ⟨[(7, .s (.ref 7 [])), (9, .v (.int .i64))], [(7, (.osl .bool))]⟩ (.x 2 ⟨[(7, .s (.ref 7 []))], [(7, (.osl .bool))]⟩) (.two (.xr [9] ⟨[(7, .s (.ref 7 []))], [(7, (.osl .bool))]⟩) (.two .none (.leaf) (.two .none (.leaf) (.leaf))) (.one (.two .none (.leaf) (.leaf))))))))) (.leaf)))))))) (.two .none (.leaf) (.two .none (.two .none (.leaf) (.one (.keep [52] (.loop ⟨[(10, .s (.ref 10 [])), (51, .s (.ref 7 [])), (53, .v (.int .i64))], [(7, (.osl .bool)), (10, (.osl (.int .i64)))]⟩ (.x 4 ⟨[(10, .s (.ref 10 []))], [(10, (.osl (.int .i64)))]⟩) (.two .none (.leaf) (.two .none (.two .none (.leaf) (.leaf)) (.two (.x [53] ⟨[(10, .s (.ref 10 [])), (51, .s (.ref 7 []))], [(7, (.osl .bool)), (10, (.osl (.int .i64)))]⟩) (.one (.two .none (.leaf) (.two .none (.leaf) (.two .none (.leaf) (.leaf))))) (.leaf)))))))) (.two .none (.leaf) (.leaf))))))))) Try.func40 (by kernel_rfl) (by kernel_rfl) (by kernel_rfl) Try.call40 tbl_nil (by intro a; kernel_rfl)

/-- sparse/symbolic.Columns -/
noncomputable def F20 : Fun := ⟨20, [.v (.st (.pr (.slc .bor (.slc .bor (.int .i64))) .nil))], [(.osl (.osl (.int .i64))), (.int .i64)], d_symbolic_Columns⟩
theorem ok20 : OkFun E F20 :=
  OkFun.of (fn := Try.f20) (rs := [.tmp 2, .tmp 3]) ((40, F40) :: (23, F23) :: []) [(1, (.ptr .imm (.st (.pr (.slc .bor (.slc .bor (.int .i64))) .nil)))), (4, (.slc .imm (.int .i64))), (20, (.osl (.osl (.int .i64)))), (2, (.osl (.osl (.int .i64))))] [(4, 13000)] (.keep [0] (.two .none (.leaf) (.two .none (.leaf) (.two .none (.two .none (.leaf) (.two .none (.two .none (.leaf) (.leaf)) (.leaf))) (.two .none (.leaf) (.two .none (.two .none (.leaf) (.one (.keep [1, 4, 22] (.loop ⟨[(6, .s (.ref 6 [])), (23, .v (.int .i64))], [(6, (.osl (.osl (.int .i64))))]⟩ (.x 0 ⟨[(6, .s (.ref 6 []))], [(6, (.osl (.osl (.int .i64))))]⟩) (.two .none (.leaf) (.two .none (.two .none (.leaf) (.leaf)) (.two .none (.one (.two .none (.leaf) (.two .none (.leaf) (.one (.keep [7, 23, 30] (.loop ⟨[(6, .s (.ref 6 [])), (29, .s (.ref 29 [])), (31, .v (.int .i64))], [(6, (.osl (.osl (.int .i64)))), (29, (.osl (.int .i64)))]⟩ (.x 2 ⟨[(6, .s (.ref 6 []))], [(6, (.osl (.osl (.int .i64))))]⟩) (.two .none (.leaf) (.two .none (.two .none (.leaf) (.leaf)) (.two .none (.one (.two .none (.leaf) (.leaf))) (.leaf)))))))))) (.leaf)))))))) (.two .none (.leaf) (.leaf)))))))) Try.func20 (by kernel_rfl) (by kernel_rfl) (by kernel_rfl) Try.call20 (tbl_cons ok40 (tbl_cons ok23 tbl_nil)) (by intro a; kernel_rfl)

/-- sparse/symbolic.column -/
noncomputable def F38 : Fun := ⟨38, [.v (.slc .bor (.int .i64)), .v (.int .i64), .v (.int .i64)], [.bool], d_symbolic_column⟩
theorem ok38 : OkFun E F38 :=
  OkFun.of (fn := Try.f38) (rs := [.tmp 6]) ([]) [] [] (.keep [0, 1, 2] (.two .none (.leaf) (.two (.xr [] ⟨[], []⟩) (.two .none (.leaf) (.two .none (.two .none (.leaf) (.leaf)) (.leaf))) (.two .none (.two .none (.leaf) (.one (.keep [19, 20] (.loop ⟨[(21, .v (.int .i64))], []⟩ (.xr 0 ⟨[], []⟩) (.two .none (.leaf) (.two .none (.two .none (.leaf) (.leaf)) (.two (.xr [21] ⟨[], []⟩) (.one (.two .none (.leaf) (.two .none (.leaf) (.two .none (.two .none (.leaf) (.leaf)) (.leaf))))) (.leaf)))))))) (.two .none (.leaf) (.leaf)))))) Try.func38 (by kernel_rfl) (by kernel_rfl) (by kernel_rfl) Try.call38 tbl_nil (by intro a; kernel_rfl)

/-- sparse/symbolic.Reach -/
noncomputable def F14 : Fun := ⟨14, [.v (.slc .bor (.slc .bor (.int .i64))), .v (.slc .bor (.int .i64))], [(.osl (.int .i64)), (.int .i64)], d_symbolic_Reach⟩
theorem ok14 : OkFun E F14 :=
  OkFun.of (fn := Try.f14) (rs := [.tmp 4, .tmp 5]) ((38, F38) :: []) [(35, (.osl .bool)), (12, (.osl (.int .i64))), (4, (.osl (.int .i64)))] [] (.keep [0, 1] (.two .none (.leaf) (.two .none (.leaf) (.two .none (.two .none (.leaf) (.two .none (.two .none (.leaf) (.leaf)) (.leaf))) (.two .none (.two .none (.leaf) (.one (.keep [6, 21, 22] (.loop ⟨[(23, .v (.int .i64))], []⟩ (.xr 0 ⟨[], []⟩) (.two .none (.leaf) (.two .none (.two .none (.leaf) (.leaf)) (.two .none (.one (.two .none (.leaf) (.two .none (.leaf) (.two .none (.two .none (.leaf) (.leaf)) (.leaf))))) (.leaf)))))))) (.two .none (.leaf) (.two .none (.two .none (.leaf) (.one (.keep [6, 36, 37] (.loop ⟨[(9, .s (.ref 9 [])), (38, .v (.int .i64))], [(9, (.osl .bool))]⟩ (.xr 2 ⟨[(9, .s (.ref 9 []))], [(9, (.osl .bool))]⟩) (.two .none (.leaf) (.two .none (.two .none (.leaf) (.leaf)) (.two (.xr [38] ⟨[(9, .s (.ref 9 []))], [(9, (.osl .bool))]⟩) (.one (.two .none (.leaf) (.two (.xr [11] ⟨[(9, .s (.ref 9 []))], [(9, (.osl .bool))]⟩) (.two (.x [] ⟨[(9, .s (.ref 9 [])), (48, .v .bool)], [(9, (.osl .bool))]⟩) (.leaf) (.two .none (.two .none (.leaf) (.leaf)) (.leaf))) (.leaf)))) (.leaf)))))))) (.two .none (.leaf) (.two .none (.two .none (.leaf) (.one (.keep [53, 54] (.loop ⟨[(9, .s (.ref 9 [])), (12, .s (.ref 12 [])), (55, .v (.int .i64))], [(9, (.osl .bool)), (12, (.osl (.int .i64)))]⟩ (.x 4 ⟨[(12, .s (.ref 12 []))], [(12, (.osl (.int .i64)))]⟩) (.two .none (.leaf) (.two .none (.two .none (.leaf) (.leaf)) (.two (.x [55] ⟨[(9, .s (.ref 9 [])), (12, .s (.ref 12 []))], [(9, (.osl .bool)), (12, (.osl (.int .i64)))]⟩) (.one (.two .none (.leaf) (.two .none (.two .none (.leaf) (.two .none (.leaf) (.leaf))) (.two .none (.leaf) (.two .none (.leaf) (.one (.keep [69, 70] (.loop ⟨[(9, .s (.ref 9 [])), (12, .s (.ref 12 [])), (71, .v (.int .i64))], [(9, (.osl .bool)), (12, (.osl (.int .i64)))]⟩ (.x 6 ⟨[(9, .s (.ref 9 [])), (12, .s (.ref 12 []))], [(9, (.osl .bool)), (12, (.osl (.int .i64)))]⟩) (.two .none (.leaf) (.two .none (.two .none (.leaf) (.leaf)) (.two .none (.one (.two .none (.leaf) (.leaf))) (.leaf)))))))))))) (.leaf)))))))) (.two .none (.leaf) (.leaf))))))))))) Try.func14 (by kernel_rfl) (by kernel_rfl) (by kernel_rfl) Try.call14 (tbl_cons ok38 tbl_nil) (by intro a; kernel_rfl)

/-- sparse/sparsekit.Ints -/
noncomputable def F16 : Fun := ⟨16, [.v (.slc .bor (.int .i64)), .v (.slc .bor (.int .i64))], [.bool], d_sparsekit_Ints⟩
theorem ok16 : OkFun E F16 :=
  OkFun.of (fn := Try.f16) (rs := [.tmp 4]) ([]) [] [] (.keep [0, 1] (.two .none (.leaf) (.two .none (.two .none (.leaf) (.two .none (.two .none (.leaf) (.leaf)) (.leaf))) (.two .none (.two .none (.leaf) (.one (.loop ⟨[(5, .v (.int .i64))], []⟩ (.xr 0 ⟨[], []⟩) (.two .none (.two .none (.leaf) (.two .none (.leaf) (.leaf))) (.two .none (.one (.two .none (.draw [] [0, 1, 2, 3, 4, 5, 6, 7, 8]) (.two .none (.two .none (.leaf) (.leaf)) (.leaf)))) (.leaf)))))) (.two .none (.leaf) (.leaf)))))) Try.func16 (by kernel_rfl) (by kernel_rfl) (by kernel_rfl) Try.call16 tbl_nil (by intro a; kernel_rfl)

/-- sparse/sparsekit.Lists -/
noncomputable def F17 : Fun := ⟨17, [.v (.slc .bor (.slc .bor (.int .i64))), .v (.slc .bor (.slc .bor (.int .i64)))], [.bool], d_sparsekit_Lists⟩
theorem ok17 : OkFun E F17 :=
  OkFun.of (fn := Try.f17) (rs := [.tmp 4]) ((16, F16) :: []) [] [] (.keep [0, 1] (.two .none (.leaf) (.two .none (.two .none (.leaf) (.two .none (.two .none (.leaf) (.leaf)) (.leaf))) (.two .none (.two .none (.leaf) (.one (.loop ⟨[(5, .v (.int .i64))], []⟩ (.xr 0 ⟨[], []⟩) (.two .none (.two .none (.leaf) (.two .none (.leaf) (.leaf))) (.two .none (.one (.two .none (.draw [] [0, 1, 2, 3, 4, 5, 6, 7, 8, 9]) (.two .none (.two .none (.leaf) (.leaf)) (.leaf)))) (.leaf)))))) (.two .none (.leaf) (.leaf)))))) Try.func17 (by kernel_rfl) (by kernel_rfl) (by kernel_rfl) Try.call17 (tbl_cons ok16 tbl_nil) (by intro a; kernel_rfl)

/-- sparse/sparselaw20.awake -/
noncomputable def F11 : Fun := ⟨11, [], [.bool], d_sparselaw20q_awake⟩
theorem ok11 : OkFun E F11 :=
  OkFun.of (fn := Try.f11) (rs := [.tmp 0]) ((20, F20) :: (17, F17) :: (16, F16) :: (14, F14) :: []) [(1, (.st (.pr (.slc .imm (.slc .imm (.int .i64))) .nil))), (2, (.slc .imm (.slc .imm (.int .i64)))), (4, (.slc .imm (.int .i64)))] [(2, 14000), (4, 20000), (9, 6), (9, 7), (9, 8), (10, 9), (33, 30), (33, 31), (33, 32)] (.two .none (.leaf) (.two .none (.leaf) (.two .none (.leaf) (.two .none (.leaf) (.two .none (.leaf) (.leaf)))))) Try.func11 (by kernel_rfl) (by kernel_rfl) (by kernel_rfl) Try.call11 (tbl_cons ok20 (tbl_cons ok17 (tbl_cons ok16 (tbl_cons ok14 tbl_nil)))) (by intro a; kernel_rfl)

/-- sparse/sparsekit.TwinInts -/
noncomputable def F13 : Fun := ⟨13, [.v (.slc .bor (.int .i64))], [(.osl (.int .i64))], d_sparsekit_TwinInts⟩
theorem ok13 : OkFun E F13 :=
  OkFun.of (fn := Try.f13) (rs := [.tmp 2]) ([]) [(3, (.osl (.int .i64)))] [] (.keep [0] (.two .none (.leaf) (.two .none (.leaf) (.two .none (.two .none (.leaf) (.one (.loop ⟨[(3, .s (.ref 3 [])), (4, .v (.int .i64))], [(3, (.osl (.int .i64)))]⟩ (.x 0 ⟨[(3, .s (.ref 3 []))], [(3, (.osl (.int .i64)))]⟩) (.two .none (.two .none (.leaf) (.two .none (.leaf) (.leaf))) (.two .none (.one (.leaf)) (.leaf)))))) (.two .none (.leaf) (.leaf)))))) Try.func13 (by kernel_rfl) (by kernel_rfl) (by kernel_rfl) Try.call13 tbl_nil (by intro a; kernel_rfl)

/-- sparse/sparsekit.TwinLists -/
noncomputable def F12 : Fun := ⟨12, [.v (.slc .bor (.slc .bor (.int .i64)))], [(.osl (.slc .imm (.int .i64)))], d_sparsekit_TwinLists⟩
theorem ok12 : OkFun E F12 :=
  OkFun.of (fn := Try.f12) (rs := [.tmp 2]) ((13, F13) :: []) [(3, (.osl (.slc .imm (.int .i64))))] [(17, 16)] (.keep [0] (.two .none (.leaf) (.two .none (.leaf) (.two .none (.two .none (.leaf) (.one (.loop ⟨[(3, .s (.ref 3 [])), (4, .v (.int .i64))], [(3, (.osl (.slc .imm (.int .i64))))]⟩ (.x 0 ⟨[(3, .s (.ref 3 []))], [(3, (.osl (.slc .imm (.int .i64))))]⟩) (.two .none (.two .none (.leaf) (.two .none (.leaf) (.leaf))) (.two .none (.one (.leaf)) (.leaf)))))) (.two .none (.leaf) (.leaf)))))) Try.func12 (by kernel_rfl) (by kernel_rfl) (by kernel_rfl) Try.call12 (tbl_cons ok13 tbl_nil) (by intro a; kernel_rfl)

/-- sparse/sparsekit.Ascending -/
noncomputable def F25 : Fun := ⟨25, [.v (.slc .bor (.int .i64))], [.bool], d_sparsekit_Ascending⟩
theorem ok25 : OkFun E F25 :=
  OkFun.of (fn := Try.f25) (rs := [.tmp 2]) ([]) [] [] (.keep [0] (.two .none (.leaf) (.two .none (.two .none (.leaf) (.one (.loop ⟨[(3, .v (.int .i64))], []⟩ (.xr 0 ⟨[], []⟩) (.two .none (.two .none (.leaf) (.two .none (.leaf) (.leaf))) (.two .none (.one (.two .none (.draw [] [0, 1, 2, 3, 4, 5, 6, 7, 8, 9]) (.two .none (.two .none (.leaf) (.leaf)) (.leaf)))) (.leaf)))))) (.two .none (.leaf) (.leaf))))) Try.func25 (by kernel_rfl) (by kernel_rfl) (by kernel_rfl) Try.call25 tbl_nil (by intro a; kernel_rfl)

/-- sparse/sparseref20.Reach -/
noncomputable def F15 : Fun := ⟨15, [.v (.slc .bor (.slc .bor (.int .i64))), .v (.slc .bor (.int .i64))], [(.osl (.int .i64)), (.int .i64)], d_sparseref20q_Reach⟩
theorem ok15 : OkFun E F15 :=
  OkFun.of (fn := Try.f15) (rs := [.tmp 4, .tmp 5]) ((25, F25) :: []) [(53, (.osl .bool)), (11, (.osl (.int .i64))), (4, (.osl (.int .i64)))] [] (.keep [0, 1] (.two .none (.leaf) (.two .none (.leaf) (.two .none (.two .none (.leaf) (.two .none (.two .none (.leaf) (.leaf)) (.leaf))) (.two .none (.two .none (.leaf) (.one (.keep [6] (.loop ⟨[(7, .v (.int .i64))], []⟩ (.xr 0 ⟨[], []⟩) (.two .none (.two .none (.leaf) (.two .none (.leaf) (.leaf))) (.two (.xr [7] ⟨[], []⟩) (.one (.two .none (.leaf) (.two (.x [] ⟨[(51, .v .bool)], []⟩) (.leaf) (.two .none (.two .none (.leaf) (.leaf)) (.leaf))))) (.leaf))))))) (.two .none (.leaf) (.two .none (.two .none (.leaf) (.one (.keep [6] (.loop ⟨[(9, .s (.ref 9 [])), (10, .v (.int .i64))], [(9, (.osl .bool))]⟩ (.xr 2 ⟨[(9, .s (.ref 9 []))], [(9, (.osl .bool))]⟩) (.two .none (.two .none (.leaf) (.two .none (.leaf) (.leaf))) (.two (.xr [10] ⟨[(9, .s (.ref 9 []))], [(9, (.osl .bool))]⟩) (.one (.two (.xr [] ⟨[(9, .s (.ref 9 []))], [(9, (.osl .bool))]⟩) (.two (.x [] ⟨[(9, .s (.ref 9 [])), (72, .v .bool)], [(9, (.osl .bool))]⟩) (.leaf) (.two .none (.two .none (.leaf) (.leaf)) (.leaf))) (.leaf))) (.leaf))))))) (.two .none (.leaf) (.two .none (.two .none (.leaf) (.one (.keep [6] (.loop ⟨[(9, .s (.ref 9 [])), (11, .s (.ref 11 [])), (12, .v (.int .i64))], [(9, (.osl .bool)), (11, (.osl (.int .i64)))]⟩ (.x 4 ⟨[(11, .s (.ref 11 []))], [(11, (.osl (.int .i64)))]⟩) (.two .none (.two .none (.leaf) (.two .none (.leaf) (.leaf))) (.two (.x [12] ⟨[(9, .s (.ref 9 [])), (11, .s (.ref 11 []))], [(9, (.osl .bool)), (11, (.osl (.int .i64)))]⟩) (.one (.two .none (.two .none (.leaf) (.two .none (.leaf) (.leaf))) (.two .none (.leaf) (.two .none (.leaf) (.one (.loop ⟨[(9, .s (.ref 9 [])), (11, .s (.ref 11 [])), (13, .v (.int .i64))], [(9, (.osl .bool)), (11, (.osl (.int .i64)))]⟩ (.x 6 ⟨[(9, .s (.ref 9 [])), (11, .s (.ref 11 []))], [(9, (.osl .bool)), (11, (.osl (.int .i64)))]⟩) (.two .none (.two .none (.leaf) (.two .none (.leaf) (.leaf))) (.two .none (.one (.leaf)) (.leaf))))))))) (.leaf))))))) (.two .none (.leaf) (.leaf))))))))))) Try.func15 (by kernel_rfl) (by kernel_rfl) (by kernel_rfl) Try.call15 (tbl_cons ok25 tbl_nil) (by intro a; kernel_rfl)

/-- sparse/sparselaw20.SymbolicReach -/
noncomputable def F3 : Fun := ⟨3, [.v (.slc .bor (.slc .bor (.int .i64))), .v (.slc .bor (.int .i64))], [.bool], d_sparselaw20q_SymbolicReach⟩
theorem ok3 : OkFun E F3 :=
  OkFun.of (fn := Try.f3) (rs := [.tmp 4]) ((17, F17) :: (16, F16) :: (15, F15) :: (14, F14) :: (13, F13) :: (12, F12) :: (11, F11) :: []) [(6, (.slc .imm (.slc .imm (.int .i64)))), (7, (.slc .imm (.int .i64))), (8, (.slc .imm (.int .i64))), (10, (.slc .imm (.int .i64)))] [(6, 45), (7, 47), (8, 52000), (10, 58000)] (.keep [0, 1] (.two .none (.leaf) (.two (.xr [] ⟨[], []⟩) (.two (.x [] ⟨[(29, .v .bool)], []⟩) (.leaf) (.two .none (.two .none (.leaf) (.leaf)) (.leaf))) (.two .none (.two .none (.leaf) (.one (.loop ⟨[(5, .v (.int .i64))], []⟩ (.xr 0 ⟨[], []⟩) (.two .none (.two .none (.leaf) (.two .none (.leaf) (.leaf))) (.two .none (.one (.two .none (.leaf) (.two .none (.two .none (.leaf) (.leaf)) (.leaf)))) (.leaf)))))) (.two .none (.leaf) (.two .none (.leaf) (.two .none (.leaf) (.two .none (.leaf) (.leaf))))))))) Try.func3 (by kernel_rfl) (by kernel_rfl) (by kernel_rfl) Try.call3 (tbl_cons ok17 (tbl_cons ok16 (tbl_cons ok15 (tbl_cons ok14 (tbl_cons ok13 (tbl_cons ok12 (tbl_cons ok11 tbl_nil))))))) (by intro a; kernel_rfl)
end Go.Fw
