/-
  Parts of the proof: Ok16b, Pl2, Pl5, Pl6, Pl8, Pl9, Pl10, Pl12, ThT, Th2, Pl16, Pl18, Th3, Pl20, Pl23, Pl24, Pl26, Pl29, Pl30, Pl40, Pl41, Pl42, Pl44, Pl46, Pl47, Pl48, Pl49, Pl50, Pl51, Pl54, Pl57: the framework (Fw), pure forms (Dn), plain laws (Pl, Th), calls of functions (Ok).
-/
import Derived.Test.YtcjbeengjcmpaaaProg
import Derived.KernelRfl
import Derived.Test.YtcjbeengjcmpaaaBbf011b2a

set_option linter.all false
section
namespace Go.Fw
open Go.Proofs
def tt : List (Nat × Ty) := [(3, (.int .i64)), (4, .bool), (5, (.int .u8)), (9, .str), (22, (.slc .imm (.int .i64))), (25, (.slc .imm (.slc .imm (.int .i64)))), (27, (.st (.pr (.slc .imm (.slc .imm (.int .i64))) .nil))), (40, (.slc .imm (.slc .imm .bool))), (41, (.slc .imm .bool)), (43, (.st (.pr (.slc .imm (.slc .imm .bool)) (.pr (.slc .imm .bool) .nil)))), (51, (.int .u64)), (56, (.slc .imm (.slc .imm .bool))), (58, (.st (.pr (.slc .imm (.slc .imm .bool)) (.pr (.slc .imm .bool) .nil)))), (77, (.slc .imm (.vm .imm .bool))), (79, (.st (.pr (.slc .imm (.vm .imm .bool)) (.pr (.slc .imm (.vm .imm .bool)) (.pr (.slc .imm (.vm .imm .bool)) (.pr (.slc .imm (.int .i64)) (.pr (.slc .imm .bool) (.pr (.int .i64) .nil)))))))), (84, (.st (.pr (.slc .imm (.slc .imm .bool)) (.pr (.slc .imm (.slc .imm .bool)) (.pr (.slc .imm (.slc .imm .bool)) (.pr (.slc .imm (.int .i64)) (.pr (.slc .imm .bool) .nil))))))), (96, (.vm .imm .bool)), (112, (.int .u32)), (114, (.int .u64)), (115, (.int .u64))]
noncomputable def E : Env := ⟨Try.prog, tt, tt_ok (by kernel_rfl), by kernel_rfl⟩
noncomputable def F45 : Fun := ⟨45, [.v (.slc .bor (.int .i64)), .v (.int .i64)], [.bool], d_graph_ascending⟩
theorem ok45 : OkFun E F45 :=
 OkFun.of (fn := Try.f45) (rs := [.tmp 4]) ([]) [] [] (.keep [0, 1] (.two .none (.leaf) (.two .none (.leaf) (.two .none (.two .none (.leaf) (.one (.keep [8, 9] (.loop ⟨[(5, .v (.int .i64)), (10, .v (.int .i64))], []⟩ (.xr 0 ⟨[], []⟩) (.two .none (.leaf) (.two .none (.two .none (.leaf) (.leaf)) (.two (.xr [10] ⟨[(5, .v (.int .i64))], []⟩) (.one (.two .none (.leaf) (.two (.xr [7] ⟨[], []⟩) (.two .none (.leaf) (.two .none (.two .none (.leaf) (.leaf)) (.leaf))) (.leaf)))) (.leaf)))))))) (.two .none (.leaf) (.leaf)))))) Try.func45 (by kernel_rfl) (by kernel_rfl) (by kernel_rfl) Try.call45 tbl_nil (by intro a; kernel_rfl)
noncomputable def F73 : Fun := ⟨73, [.v (.int .i64)], [.bool], d_cmp_isNaN_int⟩
theorem ok73 : OkFun E F73 :=
 OkFun.of (fn := Try.f73) (rs := [.tmp 2]) ([]) [] [] (.keep [0] (.two .none (.leaf) (.two .none (.leaf) (.leaf)))) Try.func73 (by kernel_rfl) (by kernel_rfl) (by kernel_rfl) Try.call73 tbl_nil (by intro a; kernel_rfl)
noncomputable def F67 : Fun := ⟨67, [.v (.int .i64), .v (.int .i64)], [.bool], d_cmp_Less_int⟩
theorem ok67 : OkFun E F67 :=
 OkFun.of (fn := Try.f67) (rs := [.tmp 4]) ((73, F73) :: []) [] [] (.keep [0, 1] (.two .none (.leaf) (.two .none (.leaf) (.leaf)))) Try.func67 (by kernel_rfl) (by kernel_rfl) (by kernel_rfl) Try.call67 (tbl_cons ok73 tbl_nil) (by intro a; kernel_rfl)
noncomputable def F68 : Fun := ⟨68, [.v (.int .i64)], [.bool], d_slices_isNaN_int⟩
theorem ok68 : OkFun E F68 :=
 OkFun.of (fn := Try.f68) (rs := [.tmp 2]) ([]) [] [] (.keep [0] (.two .none (.leaf) (.two .none (.leaf) (.leaf)))) Try.func68 (by kernel_rfl) (by kernel_rfl) (by kernel_rfl) Try.call68 tbl_nil (by intro a; kernel_rfl)
noncomputable def F59 : Fun := ⟨59, [.v (.slc .bor (.int .i64)), .v (.int .i64)], [(.int .i64), .bool], d_slices_BinarySearch_int_int⟩
theorem ok59 : OkFun E F59 :=
 OkFun.of (fn := Try.f59) (rs := [.tmp 4, .tmp 5]) ((68, F68) :: (67, F67) :: []) [] [] (.keep [0, 1] (.two .none (.leaf) (.two .none (.leaf) (.two .none (.leaf) (.two .none (.one (.keep [6] (.loop ⟨[(7, .v (.int .i64)), (8, .v (.int .i64))], []⟩ (.x 0 ⟨[(7, .v (.int .i64))], []⟩) (.two .none (.two .none (.leaf) (.two .none (.leaf) (.leaf))) (.one (.two .none (.leaf) (.two .none (.leaf) (.two .none (.leaf) (.leaf))))))))) (.two .none (.leaf) (.leaf))))))) Try.func59 (by kernel_rfl) (by kernel_rfl) (by kernel_rfl) Try.call59 (tbl_cons ok68 (tbl_cons ok67 tbl_nil)) (by intro a; kernel_rfl)
noncomputable def F46 : Fun := ⟨46, [.v (.st (.pr (.slc .bor (.slc .bor (.int .i64))) .nil)), .v (.int .i64), .v (.int .i64)], [.bool], d_graph_joined⟩
theorem ok46 : OkFun E F46 :=
 OkFun.of (fn := Try.f46) (rs := [.tmp 6]) ((59, F59) :: []) [(3, (.ptr .imm (.st (.pr (.slc .bor (.slc .bor (.int .i64))) .nil))))] [] (.keep [0, 1, 2] (.two .none (.leaf) (.two .none (.leaf) (.two .none (.leaf) (.leaf))))) Try.func46 (by kernel_rfl) (by kernel_rfl) (by kernel_rfl) Try.call46 (tbl_cons ok59 tbl_nil) (by intro a; kernel_rfl)
noncomputable def F33 : Fun := ⟨33, [.v (.st (.pr (.slc .bor (.slc .bor (.int .i64))) .nil))], [(.int .i64)], d_graph_Check⟩
theorem ok33 : OkFun E F33 :=
 OkFun.of (fn := Try.f33) (rs := [.tmp 2]) ((46, F46) :: (45, F45) :: []) [(1, (.ptr .imm (.st (.pr (.slc .bor (.slc .bor (.int .i64))) .nil))))] [] (.keep [0] (.two .none (.leaf) (.two .none (.leaf) (.two .none (.two .none (.leaf) (.two .none (.two .none (.leaf) (.leaf)) (.leaf))) (.two .none (.two .none (.leaf) (.one (.keep [1, 3, 16, 17] (.loop ⟨[(18, .v (.int .i64))], []⟩ (.xr 0 ⟨[], []⟩) (.two .none (.leaf) (.two .none (.two .none (.leaf) (.leaf)) (.two (.xr [18] ⟨[], []⟩) (.one (.two .none (.leaf) (.two .none (.leaf) (.two .none (.two .none (.leaf) (.leaf)) (.leaf))))) (.leaf)))))))) (.two .none (.two .none (.leaf) (.one (.keep [1, 35, 36] (.loop ⟨[(37, .v (.int .i64))], []⟩ (.xr 2 ⟨[], []⟩) (.two .none (.leaf) (.two .none (.two .none (.leaf) (.leaf)) (.two .none (.one (.two .none (.leaf) (.two .none (.leaf) (.one (.keep [6, 37, 42, 43] (.loop ⟨[(44, .v (.int .i64))], []⟩ (.xr 4 ⟨[], []⟩) (.two .none (.leaf) (.two .none (.two .none (.leaf) (.leaf)) (.two .none (.one (.two .none (.leaf) (.two .none (.leaf) (.two .none (.two .none (.leaf) (.leaf)) (.leaf))))) (.leaf)))))))))) (.leaf)))))))) (.two .none (.leaf) (.leaf)))))))) Try.func33 (by kernel_rfl) (by kernel_rfl) (by kernel_rfl) Try.call33 (tbl_cons ok46 (tbl_cons ok45 tbl_nil)) (by intro a; kernel_rfl)
noncomputable def F60 : Fun := ⟨60, [.v (.int .i64)], [(.osl (.osl .bool))], d_graph_NewSets⟩
theorem ok60 : OkFun E F60 :=
 OkFun.of (fn := Try.f60) (rs := [.tmp 2]) ([]) [(6, (.osl (.osl .bool))), (15, (.osl .bool))] [] (.keep [0] (.two .none (.leaf) (.two .none (.leaf) (.two .none (.two .none (.leaf) (.one (.keep [8] (.loop ⟨[(3, .s (.ref 3 [])), (9, .v (.int .i64))], [(3, (.osl (.osl .bool)))]⟩ (.x 0 ⟨[(3, .s (.ref 3 []))], [(3, (.osl (.osl .bool)))]⟩) (.two .none (.leaf) (.two .none (.two .none (.leaf) (.leaf)) (.two .none (.one (.two .none (.leaf) (.leaf))) (.leaf)))))))) (.two .none (.leaf) (.leaf)))))) Try.func60 (by kernel_rfl) (by kernel_rfl) (by kernel_rfl) Try.call60 tbl_nil (by intro a; kernel_rfl)
noncomputable def F48 : Fun := ⟨48, [.m (.osl (.osl .bool)), .v (.int .i64), .v (.int .i64)], [], d_graph_Sets_Join⟩
theorem ok48 : OkFun E F48 :=
 OkFun.of (fn := Try.f48) (rs := []) ([]) [] [] (.keep [1, 2] (.two .none (.leaf) (.two .none (.draw [⟨0, [9], [0], [], [500000], []⟩, ⟨1, [10], [1], [], [], []⟩, ⟨2, [11], [9, 10], [0, 1], [0], []⟩, ⟨3, [12], [11], [2], [0], []⟩, ⟨4, [13], [2], [], [], []⟩, ⟨5, [14], [0], [], [500000], []⟩, ⟨6, [15], [2], [], [], []⟩, ⟨7, [16], [14, 15], [5, 6], [0], []⟩, ⟨8, [17], [16], [7], [0], []⟩, ⟨9, [18], [1], [], [], []⟩, ⟨10, [19], [12, 13], [3, 4, 0, 1, 2, 3, 4, 8], [0], []⟩, ⟨11, [], [19], [10, 0, 1, 2, 3, 4, 8], [0], [0]⟩, ⟨12, [20], [17, 18], [8, 9, 0, 1, 2, 3, 4, 5, 6, 7, 8, 9, 10, 11], [0], []⟩, ⟨13, [], [20], [12, 11, 0, 1, 2, 3, 4, 5, 6, 7, 8, 9, 10, 11], [0], [0]⟩]) (.leaf)))) Try.func48 (by kernel_rfl) (by kernel_rfl) (by kernel_rfl) Try.call48 tbl_nil (by intro a; kernel_rfl)
noncomputable def F47 : Fun := ⟨47, [.v (.st (.pr (.slc .bor (.slc .bor (.int .i64))) .nil))], [(.osl (.osl .bool))], d_graph_Table⟩
theorem ok47 : OkFun E F47 :=
 OkFun.of (fn := Try.f47) (rs := [.tmp 2]) ((60, F60) :: (48, F48) :: []) [(1, (.ptr .imm (.st (.pr (.slc .bor (.slc .bor (.int .i64))) .nil))))] [] (.keep [0] (.two .none (.leaf) (.two .none (.leaf) (.two .none (.two .none (.leaf) (.one (.keep [13, 14] (.loop ⟨[(3, .s (.ref 3 [])), (15, .v (.int .i64))], [(3, (.osl (.osl .bool)))]⟩ (.x 0 ⟨[(3, .s (.ref 3 []))], [(3, (.osl (.osl .bool)))]⟩) (.two .none (.leaf) (.two .none (.two .none (.leaf) (.leaf)) (.two .none (.one (.two .none (.leaf) (.two .none (.leaf) (.one (.keep [4, 15, 20, 21] (.loop ⟨[(3, .s (.ref 3 [])), (22, .v (.int .i64))], [(3, (.osl (.osl .bool)))]⟩ (.x 2 ⟨[(3, .s (.ref 3 []))], [(3, (.osl (.osl .bool)))]⟩) (.two .none (.leaf) (.two .none (.two .none (.leaf) (.leaf)) (.two .none (.one (.two .none (.leaf) (.leaf))) (.leaf)))))))))) (.leaf)))))))) (.two .none (.leaf) (.leaf)))))) Try.func47 (by kernel_rfl) (by kernel_rfl) (by kernel_rfl) Try.call47 (tbl_cons ok60 (tbl_cons ok48 tbl_nil)) (by intro a; kernel_rfl)
noncomputable def F34 : Fun := ⟨34, [.v (.st (.pr (.slc .bor (.slc .bor (.int .i64))) .nil))], [(.optr (.st (.pr (.osl (.osl .bool)) (.pr (.osl .bool) .nil))))], d_mindeg_Start⟩
theorem ok34 : OkFun E F34 :=
 OkFun.of (fn := Try.f34) (rs := [.tmp 2]) ((47, F47) :: []) [(1, (.ptr .imm (.st (.pr (.slc .bor (.slc .bor (.int .i64))) .nil)))), (8, (.osl .bool))] [] (.keep [0] (.two .none (.leaf) (.two .none (.draw [⟨0, [3], [1], [], [], []⟩, ⟨1, [4], [3], [0], [4], [4]⟩, ⟨2, [5], [1], [], [], []⟩, ⟨3, [6], [5], [2], [], []⟩, ⟨4, [7], [6], [3], [], []⟩, ⟨5, [8], [7, 7], [4, 4], [8], [8]⟩, ⟨6, [9], [4, 8], [1, 5], [4, 8, 9], [4, 8, 9, 500004, 500008]⟩, ⟨7, [10], [9], [6], [9, 10], [9, 10, 500009]⟩, ⟨8, [2], [10], [7, 1, 0, 1, 2, 3, 4, 5, 6, 7], [2, 10], [2, 10, 500002, 500010]⟩]) (.leaf)))) Try.func34 (by kernel_rfl) (by kernel_rfl) (by kernel_rfl) Try.call34 (tbl_cons ok47 tbl_nil) (by intro a; kernel_rfl)
noncomputable def F35 : Fun := ⟨35, [.v (.slc .bor (.slc .bor .bool)), .v (.int .i64)], [(.osl (.int .i64))], d_graph_Sets_List⟩
theorem ok35 : OkFun E F35 :=
 OkFun.of (fn := Try.f35) (rs := [.tmp 4]) ([]) [(5, (.osl (.int .i64)))] [] (.keep [0, 1] (.two .none (.leaf) (.two .none (.leaf) (.two .none (.two .none (.leaf) (.one (.keep [11, 12] (.loop ⟨[(5, .s (.ref 5 [])), (13, .v (.int .i64))], [(5, (.osl (.int .i64)))]⟩ (.x 0 ⟨[(5, .s (.ref 5 []))], [(5, (.osl (.int .i64)))]⟩) (.two .none (.leaf) (.two .none (.two .none (.leaf) (.leaf)) (.two (.x [13] ⟨[(5, .s (.ref 5 []))], [(5, (.osl (.int .i64)))]⟩) (.one (.two .none (.leaf) (.two .none (.leaf) (.two .none (.leaf) (.leaf))))) (.leaf)))))))) (.two .none (.leaf) (.leaf)))))) Try.func35 (by kernel_rfl) (by kernel_rfl) (by kernel_rfl) Try.call35 tbl_nil (by intro a; kernel_rfl)
noncomputable def F36 : Fun := ⟨36, [.m (.optr (.st (.pr (.osl (.osl .bool)) (.pr (.osl .bool) .nil)))), .v (.int .i64)], [(.slc .imm (.int .i64))], d_mindeg_Elimination_Eliminate⟩
theorem ok36 : OkFun E F36 :=
 OkFun.of (fn := Try.f36) (rs := [.tmp 4]) ((48, F48) :: (35, F35) :: []) [(5, (.slc .imm (.int .i64)))] [(5, 15)] (.keep [1] (.two .none (.leaf) (.two .none (.leaf) (.two .none (.two .none (.leaf) (.one (.keep [5, 16, 17] (.loop ⟨[(0, .s (.ref 0 [])), (18, .v (.int .i64))], [(0, (.optr (.st (.pr (.osl (.osl .bool)) (.pr (.osl .bool) .nil)))))]⟩ (.x 0 ⟨[(0, .s (.ref 0 []))], [(0, (.optr (.st (.pr (.osl (.osl .bool)) (.pr (.osl .bool) .nil)))))]⟩) (.two .none (.leaf) (.two .none (.two .none (.leaf) (.leaf)) (.two .none (.one (.two .none (.leaf) (.two .none (.two .none (.leaf) (.one (.keep [7, 18, 25, 26] (.loop ⟨[(0, .s (.ref 0 [])), (27, .v (.int .i64))], [(0, (.optr (.st (.pr (.osl (.osl .bool)) (.pr (.osl .bool) .nil)))))]⟩ (.x 2 ⟨[(0, .s (.ref 0 []))], [(0, (.optr (.st (.pr (.osl (.osl .bool)) (.pr (.osl .bool) .nil)))))]⟩) (.two .none (.leaf) (.two .none (.two .none (.leaf) (.leaf)) (.two .none (.one (.two .none (.leaf) (.leaf))) (.leaf)))))))) (.draw [⟨0, [39], [0], [], [500000], []⟩, ⟨1, [40], [39], [0], [0], []⟩, ⟨2, [41], [40], [1], [0], []⟩, ⟨3, [42], [41], [2], [0], []⟩, ⟨4, [43], [7], [], [], []⟩, ⟨5, [44], [42, 43], [3, 4], [0], []⟩, ⟨6, [45], [44], [5], [0], []⟩, ⟨7, [46], [1], [], [], []⟩, ⟨8, [47], [0], [], [500000], []⟩, ⟨9, [48], [47], [8], [0], []⟩, ⟨10, [49], [48], [9], [0], []⟩, ⟨11, [50], [49], [10], [0], []⟩, ⟨12, [51], [1], [], [], []⟩, ⟨13, [52], [50, 51], [11, 12], [0], []⟩, ⟨14, [53], [52], [13], [0], []⟩, ⟨15, [54], [7], [], [], []⟩, ⟨16, [55], [45, 46], [6, 7, 0, 1, 2, 3, 4, 5, 6, 7, 11, 14], [0], []⟩, ⟨17, [], [55], [16, 0, 1, 2, 3, 4, 5, 6, 7, 11, 14], [0], [0]⟩, ⟨18, [56], [53, 54], [14, 15, 0, 1, 2, 3, 4, 5, 6, 7, 8, 9, 10, 11, 12, 13, 14, 15, 16, 17], [0], []⟩, ⟨19, [], [56], [18, 17, 0, 1, 2, 3, 4, 5, 6, 7, 8, 9, 10, 11, 12, 13, 14, 15, 16, 17], [0], [0]⟩])))) (.leaf)))))))) (.two .none (.leaf) (.two .none (.leaf) (.leaf))))))) Try.func36 (by kernel_rfl) (by kernel_rfl) (by kernel_rfl) Try.call36 (tbl_cons ok48 (tbl_cons ok35 tbl_nil)) (by intro a; kernel_rfl)
noncomputable def F14 : Fun := ⟨14, [.v (.st (.pr (.slc .bor (.slc .bor (.int .i64))) .nil))], [(.osl (.int .i64)), (.int .i64)], d_mindeg_Exact⟩
theorem ok14 : OkFun E F14 :=
 OkFun.of (fn := Try.f14) (rs := [.tmp 2, .tmp 3]) ((36, F36) :: (35, F35) :: (34, F34) :: (33, F33) :: []) [(1, (.ptr .imm (.st (.pr (.slc .bor (.slc .bor (.int .i64))) .nil)))), (6, (.osl (.int .i64))), (2, (.osl (.int .i64)))] [] (.keep [0] (.two .none (.leaf) (.two .none (.leaf) (.two .none (.two .none (.leaf) (.two .none (.two .none (.leaf) (.leaf)) (.leaf))) (.two .none (.leaf) (.two .none (.leaf) (.two .none (.two .none (.leaf) (.one (.keep [1, 20] (.loop ⟨[(5, .s (.ref 5 [])), (6, .s (.ref 6 [])), (21, .v (.int .i64))], [(5, (.optr (.st (.pr (.osl (.osl .bool)) (.pr (.osl .bool) .nil))))), (6, (.osl (.int .i64)))]⟩ (.x 0 ⟨[(6, .s (.ref 6 []))], [(6, (.osl (.int .i64)))]⟩) (.two .none (.leaf) (.two .none (.two .none (.leaf) (.leaf)) (.two .none (.one (.two .none (.leaf) (.two .none (.two .none (.leaf) (.one (.keep [21, 25] (.loop ⟨[(5, .s (.ref 5 [])), (6, .s (.ref 6 [])), (7, .v (.int .i64)), (8, .v (.int .i64)), (26, .v (.int .i64))], [(5, (.optr (.st (.pr (.osl (.osl .bool)) (.pr (.osl .bool) .nil))))), (6, (.osl (.int .i64)))]⟩ (.x 2 ⟨[(5, .s (.ref 5 [])), (6, .s (.ref 6 [])), (7, .v (.int .i64))], [(5, (.optr (.st (.pr (.osl (.osl .bool)) (.pr (.osl .bool) .nil))))), (6, (.osl (.int .i64)))]⟩) (.two .none (.leaf) (.two .none (.two .none (.leaf) (.leaf)) (.two (.x [26] ⟨[(5, .s (.ref 5 [])), (6, .s (.ref 6 [])), (7, .v (.int .i64)), (8, .v (.int .i64))], [(5, (.optr (.st (.pr (.osl (.osl .bool)) (.pr (.osl .bool) .nil))))), (6, (.osl (.int .i64)))]⟩) (.one (.two .none (.leaf) (.two .none (.leaf) (.two (.x [7, 8, 9, 10] ⟨[(5, .s (.ref 5 [])), (6, .s (.ref 6 [])), (52, .v .bool)], [(5, (.optr (.st (.pr (.osl (.osl .bool)) (.pr (.osl .bool) .nil))))), (6, (.osl (.int .i64)))]⟩) (.leaf) (.two .none (.leaf) (.leaf)))))) (.leaf)))))))) (.two .none (.leaf) (.leaf))))) (.leaf)))))))) (.two .none (.leaf) (.leaf))))))))) Try.func14 (by kernel_rfl) (by kernel_rfl) (by kernel_rfl) Try.call14 (tbl_cons ok36 (tbl_cons ok35 (tbl_cons ok34 (tbl_cons ok33 tbl_nil)))) (by intro a; kernel_rfl)
noncomputable def F52 : Fun := ⟨52, [.v (.st (.pr (.slc .bor (.slc .bor (.int .i64))) .nil)), .v (.int .i64)], [.bool], d_graph_vertex⟩
theorem ok52 : OkFun E F52 :=
 OkFun.of (fn := Try.f52) (rs := [.tmp 4]) ([]) [(2, (.ptr .imm (.st (.pr (.slc .bor (.slc .bor (.int .i64))) .nil))))] [] (.keep [0, 1] (.two .none (.leaf) (.two .none (.leaf) (.leaf)))) Try.func52 (by kernel_rfl) (by kernel_rfl) (by kernel_rfl) Try.call52 tbl_nil (by intro a; kernel_rfl)
noncomputable def F86 : Fun := ⟨86, [.v (.int .u64)], [(.int .i64)], d_math_bits_Len64⟩
theorem ok86 : OkFun E F86 :=
 OkFun.of (fn := Try.f86) (rs := [.tmp 2]) ([]) [] [] (.two .none (.leaf) (.two (.x [] ⟨[(0, .v (.int .u64)), (2, .v (.int .i64))], []⟩) (.two .none (.leaf) (.two .none (.two .none (.leaf) (.leaf)) (.leaf))) (.two (.x [] ⟨[(0, .v (.int .u64)), (2, .v (.int .i64))], []⟩) (.two .none (.leaf) (.two .none (.two .none (.leaf) (.leaf)) (.leaf))) (.two (.x [] ⟨[(0, .v (.int .u64)), (2, .v (.int .i64))], []⟩) (.two .none (.leaf) (.two .none (.two .none (.leaf) (.leaf)) (.leaf))) (.two .none (.leaf) (.leaf)))))) Try.func86 (by kernel_rfl) (by kernel_rfl) (by kernel_rfl) Try.call86 tbl_nil (by intro a; kernel_rfl)
noncomputable def F76 : Fun := ⟨76, [.v (.int .u64)], [(.int .i64)], d_math_bits_Len⟩
theorem ok76 : OkFun E F76 :=
 OkFun.of (fn := Try.f76) (rs := [.tmp 2]) ((86, F86) :: []) [] [] (.keep [0] (.two .none (.leaf) (.two .none (.two .none (.two .none (.leaf) (.leaf)) (.leaf)) (.two .none (.leaf) (.leaf))))) Try.func76 (by kernel_rfl) (by kernel_rfl) (by kernel_rfl) Try.call76 (tbl_cons ok86 tbl_nil) (by intro a; kernel_rfl)
noncomputable def F77 : Fun := ⟨77, [.m (.osl (.int .i64)), .v (.int .i64), .v (.int .i64)], [], d_slices_insertionSortOrdered_int⟩
theorem ok77 : OkFun E F77 :=
 OkFun.of (fn := Try.f77) (rs := []) ((67, F67) :: []) [] [] (.keep [1, 2] (.two .none (.leaf) (.one (.loop ⟨[(0, .s (.ref 0 [])), (6, .v (.int .i64))], [(0, (.osl (.int .i64)))]⟩ (.x 0 ⟨[(0, .s (.ref 0 []))], [(0, (.osl (.int .i64)))]⟩) (.two .none (.two .none (.leaf) (.two .none (.leaf) (.leaf))) (.two .none (.one (.two .none (.leaf) (.one (.keep [6] (.loop ⟨[(0, .s (.ref 0 [])), (7, .v (.int .i64))], [(0, (.osl (.int .i64)))]⟩ (.x 2 ⟨[(0, .s (.ref 0 []))], [(0, (.osl (.int .i64)))]⟩) (.two (.xr [7] ⟨[(0, .s (.ref 0 []))], [(0, (.osl (.int .i64)))]⟩) (.two .none (.draw [⟨0, [16], [7], [], [], []⟩, ⟨1, [17], [1], [], [], []⟩, ⟨2, [18], [16, 17], [0, 1], [], []⟩, ⟨3, [19], [18], [2], [], []⟩, ⟨4, [20], [0, 19], [3], [500000], []⟩, ⟨5, [21], [7, 19], [3], [], []⟩, ⟨6, [22], [20, 21, 19], [4, 5, 3], [0], []⟩, ⟨7, [23], [22, 19], [6, 3], [0], []⟩, ⟨8, [24], [0, 19], [3], [500000], []⟩, ⟨9, [25], [7, 19], [3], [], []⟩, ⟨10, [26], [25, 19], [9, 3], [], []⟩, ⟨11, [27], [24, 26, 19], [8, 10, 3], [0], []⟩, ⟨12, [28], [27, 19], [11, 3], [0], []⟩, ⟨13, [29], [23, 28, 19], [7, 12, 3, 3], [], []⟩, ⟨14, [30], [19, 29], [3, 13], [], []⟩]) (.two .none (.leaf) (.leaf))) (.two .none (.one (.draw [⟨0, [33], [0], [], [500000], []⟩, ⟨1, [34], [7], [], [], []⟩, ⟨2, [35], [0], [], [500000], []⟩, ⟨3, [36], [7], [], [], []⟩, ⟨4, [37], [36], [3], [], []⟩, ⟨5, [38], [0], [], [500000], []⟩, ⟨6, [39], [7], [], [], []⟩, ⟨7, [40], [39], [6], [], []⟩, ⟨8, [41], [38, 40], [5, 7], [0], []⟩, ⟨9, [42], [41], [8], [0], []⟩, ⟨10, [43], [0], [], [500000], []⟩, ⟨11, [44], [7], [], [], []⟩, ⟨12, [45], [43, 44], [10, 11], [0], []⟩, ⟨13, [46], [45], [12], [0], []⟩, ⟨14, [47], [33, 34], [0, 1, 0, 1, 5, 6, 7, 8, 9, 13], [0], []⟩, ⟨15, [], [47, 42], [14, 9, 0, 1, 5, 6, 7, 8, 9, 13], [0], [0]⟩, ⟨16, [48], [35, 37], [2, 4, 0, 1, 2, 3, 4, 5, 6, 7, 8, 9, 10, 11, 12, 13, 14, 15], [0], []⟩, ⟨17, [], [48, 46], [16, 13, 15, 0, 1, 2, 3, 4, 5, 6, 7, 8, 9, 10, 11, 12, 13, 14, 15], [0], [0]⟩])) (.leaf)))))))) (.leaf))))))) Try.func77 (by kernel_rfl) (by kernel_rfl) (by kernel_rfl) Try.call77 (tbl_cons ok67 tbl_nil) (by intro a; kernel_rfl)
noncomputable def F87 : Fun := ⟨87, [.m (.osl (.int .i64)), .v (.int .i64), .v (.int .i64), .v (.int .i64)], [], d_slices_siftDownOrdered_int⟩
theorem ok87 : OkFun E F87 :=
 OkFun.of (fn := Try.f87) (rs := []) ((67, F67) :: []) [] [] (.keep [1, 2, 3] (.two .none (.leaf) (.one (.loop ⟨[(0, .s (.ref 0 [])), (8, .v (.int .i64))], [(0, (.osl (.int .i64)))]⟩ (.xr 0 ⟨[(0, .s (.ref 0 []))], [(0, (.osl (.int .i64)))]⟩) (.one (.two .none (.leaf) (.two .none (.two .none (.leaf) (.two .none (.leaf) (.leaf))) (.two (.x [8] ⟨[(0, .s (.ref 0 [])), (9, .v (.int .i64))], [(0, (.osl (.int .i64)))]⟩) (.two (.x [9] ⟨[(0, .s (.ref 0 [])), (36, .v .bool)], [(0, (.osl (.int .i64)))]⟩) (.draw [⟨0, [17], [9], [], [], []⟩, ⟨1, [18], [17], [0], [], []⟩, ⟨2, [19], [2], [], [], []⟩, ⟨3, [20], [18, 19], [1, 2], [], []⟩, ⟨4, [21], [20], [3], [], []⟩, ⟨5, [22], [0, 21], [4], [500000], []⟩, ⟨6, [23], [3, 21], [4], [], []⟩, ⟨7, [24], [9, 21], [4], [], []⟩, ⟨8, [25], [23, 24, 21], [6, 7, 4], [], []⟩, ⟨9, [26], [22, 25, 21], [5, 8, 4], [0], []⟩, ⟨10, [27], [26, 21], [9, 4], [0], []⟩, ⟨11, [28], [0, 21], [4], [500000], []⟩, ⟨12, [29], [3, 21], [4], [], []⟩, ⟨13, [30], [9, 21], [4], [], []⟩, ⟨14, [31], [29, 30, 21], [12, 13, 4], [], []⟩, ⟨15, [32], [31, 21], [14, 4], [], []⟩, ⟨16, [33], [28, 32, 21], [11, 15, 4], [0], []⟩, ⟨17, [34], [33, 21], [16, 4], [0], []⟩, ⟨18, [35], [27, 34, 21], [10, 17, 4, 4], [], []⟩, ⟨19, [36], [21, 35], [4, 18], [], []⟩]) (.two .none (.leaf) (.leaf))) (.two .none (.two .none (.draw [⟨0, [39], [0], [], [500000], []⟩, ⟨1, [40], [3], [], [], []⟩, ⟨2, [41], [8], [], [], []⟩, ⟨3, [42], [40, 41], [1, 2], [], []⟩, ⟨4, [43], [39, 42], [0, 3], [0], []⟩, ⟨5, [44], [43], [4], [0], []⟩, ⟨6, [45], [0], [], [500000], []⟩, ⟨7, [46], [3], [], [], []⟩, ⟨8, [47], [9], [], [], []⟩, ⟨9, [48], [46, 47], [7, 8], [], []⟩, ⟨10, [49], [45, 48], [6, 9], [0], []⟩, ⟨11, [50], [49], [10], [0], []⟩, ⟨12, [51], [44, 50], [5, 11], [], []⟩, ⟨13, [52], [51], [12], [], []⟩]) (.two .none (.leaf) (.leaf))) (.two .none (.draw [⟨0, [53], [0], [], [500000], []⟩, ⟨1, [54], [3], [], [], []⟩, ⟨2, [55], [8], [], [], []⟩, ⟨3, [56], [54, 55], [1, 2], [], []⟩, ⟨4, [57], [0], [], [500000], []⟩, ⟨5, [58], [3], [], [], []⟩, ⟨6, [59], [9], [], [], []⟩, ⟨7, [60], [58, 59], [5, 6], [], []⟩, ⟨8, [61], [0], [], [500000], []⟩, ⟨9, [62], [3], [], [], []⟩, ⟨10, [63], [9], [], [], []⟩, ⟨11, [64], [62, 63], [9, 10], [], []⟩, ⟨12, [65], [61, 64], [8, 11], [0], []⟩, ⟨13, [66], [65], [12], [0], []⟩, ⟨14, [67], [0], [], [500000], []⟩, ⟨15, [68], [3], [], [], []⟩, ⟨16, [69], [8], [], [], []⟩, ⟨17, [70], [68, 69], [15, 16], [], []⟩, ⟨18, [71], [67, 70], [14, 17], [0], []⟩, ⟨19, [72], [71], [18], [0], []⟩, ⟨20, [73], [53, 56], [0, 3, 0, 1, 2, 3, 8, 9, 10, 11, 12, 13, 19], [0], []⟩, ⟨21, [], [73, 66], [20, 13, 0, 1, 2, 3, 8, 9, 10, 11, 12, 13, 19], [0], [0]⟩, ⟨22, [74], [57, 60], [4, 7, 0, 1, 2, 3, 4, 5, 6, 7, 8, 9, 10, 11, 12, 13, 14, 15, 16, 17, 18, 19, 20, 21], [0], []⟩, ⟨23, [], [74, 72], [22, 19, 21, 0, 1, 2, 3, 4, 5, 6, 7, 8, 9, 10, 11, 12, 13, 14, 15, 16, 17, 18, 19, 20, 21], [0], [0]⟩]) (.leaf))))))))))) Try.func87 (by kernel_rfl) (by kernel_rfl) (by kernel_rfl) Try.call87 (tbl_cons ok67 tbl_nil) (by intro a; kernel_rfl)
noncomputable def F78 : Fun := ⟨78, [.m (.osl (.int .i64)), .v (.int .i64), .v (.int .i64)], [], d_slices_heapSortOrdered_int⟩
theorem ok78 : OkFun E F78 :=
 OkFun.of (fn := Try.f78) (rs := []) ((87, F87) :: []) [] [] (.keep [1, 2] (.two .none (.leaf) (.two .none (.leaf) (.two .none (.leaf) (.two .none (.two .none (.leaf) (.one (.keep [6, 7, 8] (.loop ⟨[(0, .s (.ref 0 [])), (9, .v (.int .i64))], [(0, (.osl (.int .i64)))]⟩ (.x 0 ⟨[(0, .s (.ref 0 []))], [(0, (.osl (.int .i64)))]⟩) (.two .none (.two .none (.leaf) (.two .none (.leaf) (.leaf))) (.two .none (.one (.leaf)) (.leaf))))))) (.two .none (.leaf) (.one (.keep [6, 7] (.loop ⟨[(0, .s (.ref 0 [])), (10, .v (.int .i64))], [(0, (.osl (.int .i64)))]⟩ (.x 2 ⟨[(0, .s (.ref 0 []))], [(0, (.osl (.int .i64)))]⟩) (.two .none (.two .none (.leaf) (.two .none (.leaf) (.leaf))) (.two .none (.one (.two .none (.draw [⟨0, [33], [0], [], [500000], []⟩, ⟨1, [34], [6], [], [], []⟩, ⟨2, [35], [0], [], [500000], []⟩, ⟨3, [36], [6], [], [], []⟩, ⟨4, [37], [10], [], [], []⟩, ⟨5, [38], [36, 37], [3, 4], [], []⟩, ⟨6, [39], [0], [], [500000], []⟩, ⟨7, [40], [6], [], [], []⟩, ⟨8, [41], [10], [], [], []⟩, ⟨9, [42], [40, 41], [7, 8], [], []⟩, ⟨10, [43], [39, 42], [6, 9], [0], []⟩, ⟨11, [44], [43], [10], [0], []⟩, ⟨12, [45], [0], [], [500000], []⟩, ⟨13, [46], [6], [], [], []⟩, ⟨14, [47], [45, 46], [12, 13], [0], []⟩, ⟨15, [48], [47], [14], [0], []⟩, ⟨16, [49], [33, 34], [0, 1, 0, 1, 6, 7, 8, 9, 10, 11, 15], [0], []⟩, ⟨17, [], [49, 44], [16, 11, 0, 1, 6, 7, 8, 9, 10, 11, 15], [0], [0]⟩, ⟨18, [50], [35, 38], [2, 5, 0, 1, 2, 3, 4, 5, 6, 7, 8, 9, 10, 11, 12, 13, 14, 15, 16, 17], [0], []⟩, ⟨19, [], [50, 48], [18, 15, 17, 0, 1, 2, 3, 4, 5, 6, 7, 8, 9, 10, 11, 12, 13, 14, 15, 16, 17], [0], [0]⟩]) (.leaf))) (.leaf)))))))))))) Try.func78 (by kernel_rfl) (by kernel_rfl) (by kernel_rfl) Try.call78 (tbl_cons ok87 tbl_nil) (by intro a; kernel_rfl)
noncomputable def F88 : Fun := ⟨88, [.v (.int .i64)], [(.int .u64)], d_slices_nextPowerOfTwo⟩
theorem ok88 : OkFun E F88 :=
 OkFun.of (fn := Try.f88) (rs := [.tmp 2]) ((76, F76) :: []) [] [] (.keep [0] (.two .none (.leaf) (.two .none (.leaf) (.leaf)))) Try.func88 (by kernel_rfl) (by kernel_rfl) (by kernel_rfl) Try.call88 (tbl_cons ok76 tbl_nil) (by intro a; kernel_rfl)
noncomputable def F89 : Fun := ⟨89, [.m (.optr (.int .u64))], [(.int .u64)], d_slices_xorshift_Next⟩
theorem ok89 : OkFun E F89 :=
 OkFun.of (fn := Try.f89) (rs := [.tmp 2]) ([]) [] [] (.two .none (.leaf) (.two .none (.draw [⟨0, [3], [0], [], [500000], []⟩, ⟨1, [4], [3], [0], [0], []⟩, ⟨2, [5], [4], [1], [0], []⟩, ⟨3, [6], [0], [], [500000], []⟩, ⟨4, [7], [6], [3], [0], []⟩, ⟨5, [8], [7], [4], [0], []⟩, ⟨6, [9], [8], [5], [], []⟩, ⟨7, [10], [5, 9], [2, 6], [], []⟩, ⟨8, [11], [3], [0, 0, 1, 2, 3, 4, 5, 6, 7], [0], []⟩, ⟨9, [], [11, 10], [8, 7, 0, 1, 2, 3, 4, 5, 6, 7], [0], [0]⟩]) (.two .none (.draw [⟨0, [12], [0], [], [500000], []⟩, ⟨1, [13], [12], [0], [0], []⟩, ⟨2, [14], [13], [1], [0], []⟩, ⟨3, [15], [0], [], [500000], []⟩, ⟨4, [16], [15], [3], [0], []⟩, ⟨5, [17], [16], [4], [0], []⟩, ⟨6, [18], [17], [5], [], []⟩, ⟨7, [19], [14, 18], [2, 6], [], []⟩, ⟨8, [20], [12], [0, 0, 1, 2, 3, 4, 5, 6, 7], [0], []⟩, ⟨9, [], [20, 19], [8, 7, 0, 1, 2, 3, 4, 5, 6, 7], [0], [0]⟩]) (.two .none (.draw [⟨0, [21], [0], [], [500000], []⟩, ⟨1, [22], [21], [0], [0], []⟩, ⟨2, [23], [22], [1], [0], []⟩, ⟨3, [24], [0], [], [500000], []⟩, ⟨4, [25], [24], [3], [0], []⟩, ⟨5, [26], [25], [4], [0], []⟩, ⟨6, [27], [26], [5], [], []⟩, ⟨7, [28], [23, 27], [2, 6], [], []⟩, ⟨8, [29], [21], [0, 0, 1, 2, 3, 4, 5, 6, 7], [0], []⟩, ⟨9, [], [29, 28], [8, 7, 0, 1, 2, 3, 4, 5, 6, 7], [0], [0]⟩]) (.two .none (.leaf) (.leaf)))))) Try.func89 (by kernel_rfl) (by kernel_rfl) (by kernel_rfl) Try.call89 tbl_nil (by intro a; kernel_rfl)
noncomputable def F79 : Fun := ⟨79, [.m (.osl (.int .i64)), .v (.int .i64), .v (.int .i64)], [], d_slices_breakPatternsOrdered_int⟩
theorem ok79 : OkFun E F79 :=
 OkFun.of (fn := Try.f79) (rs := []) ((89, F89) :: (88, F88) :: []) [(7, (.int .u64))] [] (.keep [1, 2] (.two .none (.leaf) (.two .none (.leaf) (.two .none (.two .none (.leaf) (.two .none (.leaf) (.two .none (.leaf) (.one (.keep [6, 8] (.loop ⟨[(0, .s (.ref 0 [])), (7, .s (.ref 7 [])), (9, .v (.int .i64))], [(0, (.osl (.int .i64))), (7, (.optr (.int .u64)))]⟩ (.x 0 ⟨[(0, .s (.ref 0 []))], [(0, (.osl (.int .i64)))]⟩) (.two .none (.two .none (.leaf) (.two .none (.leaf) (.leaf))) (.two (.x [9] ⟨[(0, .s (.ref 0 [])), (7, .s (.ref 7 []))], [(0, (.osl (.int .i64))), (7, (.optr (.int .u64)))]⟩) (.one (.two .none (.leaf) (.two (.x [] ⟨[(0, .s (.ref 0 [])), (7, .s (.ref 7 [])), (10, .v (.int .i64))], [(0, (.osl (.int .i64))), (7, (.optr (.int .u64)))]⟩) (.two .none (.leaf) (.two .none (.leaf) (.leaf))) (.draw [⟨0, [47], [0], [], [500000], []⟩, ⟨1, [48], [9], [], [], []⟩, ⟨2, [49], [0], [], [500000], []⟩, ⟨3, [50], [1], [], [], []⟩, ⟨4, [51], [10], [], [], []⟩, ⟨5, [52], [50, 51], [3, 4], [], []⟩, ⟨6, [53], [0], [], [500000], []⟩, ⟨7, [54], [1], [], [], []⟩, ⟨8, [55], [10], [], [], []⟩, ⟨9, [56], [54, 55], [7, 8], [], []⟩, ⟨10, [57], [53, 56], [6, 9], [0], []⟩, ⟨11, [58], [57], [10], [0], []⟩, ⟨12, [59], [0], [], [500000], []⟩, ⟨13, [60], [9], [], [], []⟩, ⟨14, [61], [59, 60], [12, 13], [0], []⟩, ⟨15, [62], [61], [14], [0], []⟩, ⟨16, [63], [47, 48], [0, 1, 0, 1, 6, 7, 8, 9, 10, 11, 15], [0], []⟩, ⟨17, [], [63, 58], [16, 11, 0, 1, 6, 7, 8, 9, 10, 11, 15], [0], [0]⟩, ⟨18, [64], [49, 52], [2, 5, 0, 1, 2, 3, 4, 5, 6, 7, 8, 9, 10, 11, 12, 13, 14, 15, 16, 17], [0], []⟩, ⟨19, [], [64, 62], [18, 15, 17, 0, 1, 2, 3, 4, 5, 6, 7, 8, 9, 10, 11, 12, 13, 14, 15, 16, 17], [0], [0]⟩])))) (.leaf))))))))) (.leaf))))) Try.func79 (by kernel_rfl) (by kernel_rfl) (by kernel_rfl) Try.call79 (tbl_cons ok89 (tbl_cons ok88 tbl_nil)) (by intro a; kernel_rfl)
noncomputable def F92 : Fun := ⟨92, [.v (.slc .bor (.int .i64)), .v (.int .i64), .v (.int .i64), .m (.optr (.int .i64))], [(.int .i64), (.int .i64)], d_slices_order2Ordered_int⟩
theorem ok92 : OkFun E F92 :=
 OkFun.of (fn := Try.f92) (rs := [.tmp 8, .tmp 9]) ((67, F67) :: []) [] [] (.keep [0, 1, 2] (.two .none (.leaf) (.two .none (.two .none (.draw [⟨0, [10], [0], [], [], []⟩, ⟨1, [11], [2], [], [], []⟩, ⟨2, [12], [10, 11], [0, 1], [], []⟩, ⟨3, [13], [12], [2], [], []⟩, ⟨4, [14], [0], [], [], []⟩, ⟨5, [15], [1], [], [], []⟩, ⟨6, [16], [14, 15], [4, 5], [], []⟩, ⟨7, [17], [16], [6], [], []⟩, ⟨8, [18], [13, 17], [3, 7], [], []⟩]) (.two .none (.two .none (.leaf) (.two .none (.leaf) (.leaf))) (.leaf))) (.two .none (.leaf) (.leaf))))) Try.func92 (by kernel_rfl) (by kernel_rfl) (by kernel_rfl) Try.call92 (tbl_cons ok67 tbl_nil) (by intro a; kernel_rfl)
noncomputable def F91 : Fun := ⟨91, [.v (.slc .bor (.int .i64)), .v (.int .i64), .v (.int .i64), .v (.int .i64), .m (.optr (.int .i64))], [(.int .i64)], d_slices_medianOrdered_int⟩
theorem ok91 : OkFun E F91 :=
 OkFun.of (fn := Try.f91) (rs := [.tmp 10]) ((92, F92) :: []) [] [] (.keep [0] (.two .none (.leaf) (.two .none (.leaf) (.two .none (.leaf) (.two .none (.leaf) (.two .none (.leaf) (.leaf))))))) Try.func91 (by kernel_rfl) (by kernel_rfl) (by kernel_rfl) Try.call91 (tbl_cons ok92 tbl_nil) (by intro a; kernel_rfl)
noncomputable def F90 : Fun := ⟨90, [.v (.slc .bor (.int .i64)), .v (.int .i64), .m (.optr (.int .i64))], [(.int .i64)], d_slices_medianAdjacentOrdered_int⟩
theorem ok90 : OkFun E F90 :=
 OkFun.of (fn := Try.f90) (rs := [.tmp 6]) ((91, F91) :: []) [] [] (.keep [0, 1] (.two .none (.leaf) (.two .none (.leaf) (.leaf)))) Try.func90 (by kernel_rfl) (by kernel_rfl) (by kernel_rfl) Try.call90 (tbl_cons ok91 tbl_nil) (by intro a; kernel_rfl)
noncomputable def F80 : Fun := ⟨80, [.v (.slc .bor (.int .i64)), .v (.int .i64), .v (.int .i64)], [(.int .i64), (.int .i64)], d_slices_choosePivotOrdered_int⟩
theorem ok80 : OkFun E F80 :=
 OkFun.of (fn := Try.f80) (rs := [.tmp 6, .tmp 7]) ((91, F91) :: (90, F90) :: []) [(9, (.int .i64))] [] (.keep [0, 1, 2] (.two .none (.leaf) (.two .none (.leaf) (.two .none (.leaf) (.two .none (.leaf) (.two .none (.leaf) (.two .none (.leaf) (.two (.x [] ⟨[(9, .s (.ref 9 [])), (11, .v (.int .i64))], [(9, (.optr (.int .i64)))]⟩) (.two .none (.leaf) (.two .none (.two (.x [] ⟨[(9, .s (.ref 9 [])), (10, .v (.int .i64)), (11, .v (.int .i64)), (12, .v (.int .i64))], [(9, (.optr (.int .i64)))]⟩) (.two .none (.leaf) (.two .none (.two .none (.leaf) (.two .none (.leaf) (.leaf))) (.leaf))) (.leaf)) (.leaf))) (.two .none (.leaf) (.one (.two .none (.leaf) (.two .none (.two .none (.leaf) (.leaf)) (.two .none (.leaf) (.two .none (.two .none (.leaf) (.leaf)) (.two .none (.leaf) (.leaf)))))))))))))))) Try.func80 (by kernel_rfl) (by kernel_rfl) (by kernel_rfl) Try.call80 (tbl_cons ok91 (tbl_cons ok90 tbl_nil)) (by intro a; kernel_rfl)
noncomputable def F81 : Fun := ⟨81, [.m (.osl (.int .i64)), .v (.int .i64), .v (.int .i64)], [], d_slices_reverseRangeOrdered_int⟩
theorem ok81 : OkFun E F81 :=
 OkFun.of (fn := Try.f81) (rs := []) ([]) [] [] (.keep [1, 2] (.two .none (.leaf) (.two .none (.leaf) (.one (.loop ⟨[(0, .s (.ref 0 [])), (6, .v (.int .i64)), (7, .v (.int .i64))], [(0, (.osl (.int .i64)))]⟩ (.x 0 ⟨[(0, .s (.ref 0 []))], [(0, (.osl (.int .i64)))]⟩) (.two .none (.two .none (.leaf) (.two .none (.leaf) (.leaf))) (.one (.two .none (.draw [⟨0, [14], [0], [], [500000], []⟩, ⟨1, [15], [6], [], [], []⟩, ⟨2, [16], [0], [], [500000], []⟩, ⟨3, [17], [7], [], [], []⟩, ⟨4, [18], [0], [], [500000], []⟩, ⟨5, [19], [7], [], [], []⟩, ⟨6, [20], [18, 19], [4, 5], [0], []⟩, ⟨7, [21], [20], [6], [0], []⟩, ⟨8, [22], [0], [], [500000], []⟩, ⟨9, [23], [6], [], [], []⟩, ⟨10, [24], [22, 23], [8, 9], [0], []⟩, ⟨11, [25], [24], [10], [0], []⟩, ⟨12, [26], [14, 15], [0, 1, 0, 1, 4, 5, 6, 7, 11], [0], []⟩, ⟨13, [], [26, 21], [12, 7, 0, 1, 4, 5, 6, 7, 11], [0], [0]⟩, ⟨14, [27], [16, 17], [2, 3, 0, 1, 2, 3, 4, 5, 6, 7, 8, 9, 10, 11, 12, 13], [0], []⟩, ⟨15, [], [27, 25], [14, 11, 13, 0, 1, 2, 3, 4, 5, 6, 7, 8, 9, 10, 11, 12, 13], [0], [0]⟩]) (.two .none (.leaf) (.leaf)))))))))) Try.func81 (by kernel_rfl) (by kernel_rfl) (by kernel_rfl) Try.call81 tbl_nil (by intro a; kernel_rfl)
noncomputable def F82 : Fun := ⟨82, [.m (.osl (.int .i64)), .v (.int .i64), .v (.int .i64)], [.bool], d_slices_partialInsertionSortOrdered_int⟩
theorem ok82 : OkFun E F82 :=
 OkFun.of (fn := Try.f82) (rs := [.tmp 6]) ((67, F67) :: []) [] [] (.keep [1, 2] (.two .none (.leaf) (.two .none (.leaf) (.two .none (.two .none (.leaf) (.one (.loop ⟨[(0, .s (.ref 0 [])), (7, .v (.int .i64)), (8, .v (.int .i64))], [(0, (.osl (.int .i64)))]⟩ (.xr 0 ⟨[(0, .s (.ref 0 []))], [(0, (.osl (.int .i64)))]⟩) (.two .none (.two .none (.leaf) (.two .none (.leaf) (.leaf))) (.two (.xr [8] ⟨[(0, .s (.ref 0 [])), (7, .v (.int .i64))], [(0, (.osl (.int .i64)))]⟩) (.one (.two .none (.one (.loop ⟨[(0, .s (.ref 0 [])), (7, .v (.int .i64))], [(0, (.osl (.int .i64)))]⟩ (.x 2 ⟨[(0, .s (.ref 0 [])), (7, .v (.int .i64))], [(0, (.osl (.int .i64)))]⟩) (.two (.xr [7] ⟨[(0, .s (.ref 0 []))], [(0, (.osl (.int .i64)))]⟩) (.two .none (.draw [⟨0, [17], [7], [], [], []⟩, ⟨1, [18], [2], [], [], []⟩, ⟨2, [19], [17, 18], [0, 1], [], []⟩, ⟨3, [20], [19], [2], [], []⟩, ⟨4, [21], [0, 20], [3], [500000], []⟩, ⟨5, [22], [7, 20], [3], [], []⟩, ⟨6, [23], [21, 22, 20], [4, 5, 3], [0], []⟩, ⟨7, [24], [23, 20], [6, 3], [0], []⟩, ⟨8, [25], [0, 20], [3], [500000], []⟩, ⟨9, [26], [7, 20], [3], [], []⟩, ⟨10, [27], [26, 20], [9, 3], [], []⟩, ⟨11, [28], [25, 27, 20], [8, 10, 3], [0], []⟩, ⟨12, [29], [28, 20], [11, 3], [0], []⟩, ⟨13, [30], [24, 29, 20], [7, 12, 3, 3], [], []⟩, ⟨14, [31], [30, 20], [13, 3], [], []⟩, ⟨15, [32], [20, 31], [3, 14], [], []⟩]) (.two .none (.leaf) (.leaf))) (.one (.leaf))))) (.two .none (.two .none (.leaf) (.two .none (.two .none (.leaf) (.leaf)) (.leaf))) (.two .none (.two .none (.leaf) (.two .none (.two .none (.leaf) (.leaf)) (.leaf))) (.two .none (.draw [⟨0, [42], [0], [], [500000], []⟩, ⟨1, [43], [7], [], [], []⟩, ⟨2, [44], [0], [], [500000], []⟩, ⟨3, [45], [7], [], [], []⟩, ⟨4, [46], [45], [3], [], []⟩, ⟨5, [47], [0], [], [500000], []⟩, ⟨6, [48], [7], [], [], []⟩, ⟨7, [49], [48], [6], [], []⟩, ⟨8, [50], [47, 49], [5, 7], [0], []⟩, ⟨9, [51], [50], [8], [0], []⟩, ⟨10, [52], [0], [], [500000], []⟩, ⟨11, [53], [7], [], [], []⟩, ⟨12, [54], [52, 53], [10, 11], [0], []⟩, ⟨13, [55], [54], [12], [0], []⟩, ⟨14, [56], [42, 43], [0, 1, 0, 1, 5, 6, 7, 8, 9, 13], [0], []⟩, ⟨15, [], [56, 51], [14, 9, 0, 1, 5, 6, 7, 8, 9, 13], [0], [0]⟩, ⟨16, [57], [44, 46], [2, 4, 0, 1, 2, 3, 4, 5, 6, 7, 8, 9, 10, 11, 12, 13, 14, 15], [0], []⟩, ⟨17, [], [57, 55], [16, 13, 15, 0, 1, 2, 3, 4, 5, 6, 7, 8, 9, 10, 11, 12, 13, 14, 15], [0], [0]⟩]) (.two (.x [7] ⟨[(0, .s (.ref 0 []))], [(0, (.osl (.int .i64)))]⟩) (.two .none (.leaf) (.two .none (.two .none (.leaf) (.one (.loop ⟨[(0, .s (.ref 0 [])), (9, .v (.int .i64))], [(0, (.osl (.int .i64)))]⟩ (.x 4 ⟨[(0, .s (.ref 0 []))], [(0, (.osl (.int .i64)))]⟩) (.two .none (.two .none (.leaf) (.two .none (.leaf) (.leaf))) (.two .none (.one (.two .none (.two .none (.draw [⟨0, [68], [0], [], [500000], []⟩, ⟨1, [69], [9], [], [], []⟩, ⟨2, [70], [68, 69], [0, 1], [0], []⟩, ⟨3, [71], [70], [2], [0], []⟩, ⟨4, [72], [0], [], [500000], []⟩, ⟨5, [73], [9], [], [], []⟩, ⟨6, [74], [73], [5], [], []⟩, ⟨7, [75], [72, 74], [4, 6], [0], []⟩, ⟨8, [76], [75], [7], [0], []⟩, ⟨9, [77], [71, 76], [3, 8], [], []⟩, ⟨10, [78], [77], [9], [], []⟩]) (.two .none (.leaf) (.leaf))) (.draw [⟨0, [79], [0], [], [500000], []⟩, ⟨1, [80], [9], [], [], []⟩, ⟨2, [81], [0], [], [500000], []⟩, ⟨3, [82], [9], [], [], []⟩, ⟨4, [83], [82], [3], [], []⟩, ⟨5, [84], [0], [], [500000], []⟩, ⟨6, [85], [9], [], [], []⟩, ⟨7, [86], [85], [6], [], []⟩, ⟨8, [87], [84, 86], [5, 7], [0], []⟩, ⟨9, [88], [87], [8], [0], []⟩, ⟨10, [89], [0], [], [500000], []⟩, ⟨11, [90], [9], [], [], []⟩, ⟨12, [91], [89, 90], [10, 11], [0], []⟩, ⟨13, [92], [91], [12], [0], []⟩, ⟨14, [93], [79, 80], [0, 1, 0, 1, 5, 6, 7, 8, 9, 13], [0], []⟩, ⟨15, [], [93, 88], [14, 9, 0, 1, 5, 6, 7, 8, 9, 13], [0], [0]⟩, ⟨16, [94], [81, 83], [2, 4, 0, 1, 2, 3, 4, 5, 6, 7, 8, 9, 10, 11, 12, 13, 14, 15], [0], []⟩, ⟨17, [], [94, 92], [16, 13, 15, 0, 1, 2, 3, 4, 5, 6, 7, 8, 9, 10, 11, 12, 13, 14, 15], [0], [0]⟩]))) (.leaf)))))) (.leaf))) (.two .none (.leaf) (.two .none (.two .none (.leaf) (.one (.keep [7] (.loop ⟨[(0, .s (.ref 0 [])), (10, .v (.int .i64))], [(0, (.osl (.int .i64)))]⟩ (.x 6 ⟨[(0, .s (.ref 0 []))], [(0, (.osl (.int .i64)))]⟩) (.two .none (.two .none (.leaf) (.two .none (.leaf) (.leaf))) (.two .none (.one (.two .none (.two .none (.draw [⟨0, [106], [0], [], [500000], []⟩, ⟨1, [107], [10], [], [], []⟩, ⟨2, [108], [106, 107], [0, 1], [0], []⟩, ⟨3, [109], [108], [2], [0], []⟩, ⟨4, [110], [0], [], [500000], []⟩, ⟨5, [111], [10], [], [], []⟩, ⟨6, [112], [111], [5], [], []⟩, ⟨7, [113], [110, 112], [4, 6], [0], []⟩, ⟨8, [114], [113], [7], [0], []⟩, ⟨9, [115], [109, 114], [3, 8], [], []⟩, ⟨10, [116], [115], [9], [], []⟩]) (.two .none (.leaf) (.leaf))) (.draw [⟨0, [117], [0], [], [500000], []⟩, ⟨1, [118], [10], [], [], []⟩, ⟨2, [119], [0], [], [500000], []⟩, ⟨3, [120], [10], [], [], []⟩, ⟨4, [121], [120], [3], [], []⟩, ⟨5, [122], [0], [], [500000], []⟩, ⟨6, [123], [10], [], [], []⟩, ⟨7, [124], [123], [6], [], []⟩, ⟨8, [125], [122, 124], [5, 7], [0], []⟩, ⟨9, [126], [125], [8], [0], []⟩, ⟨10, [127], [0], [], [500000], []⟩, ⟨11, [128], [10], [], [], []⟩, ⟨12, [129], [127, 128], [10, 11], [0], []⟩, ⟨13, [130], [129], [12], [0], []⟩, ⟨14, [131], [117, 118], [0, 1, 0, 1, 5, 6, 7, 8, 9, 13], [0], []⟩, ⟨15, [], [131, 126], [14, 9, 0, 1, 5, 6, 7, 8, 9, 13], [0], [0]⟩, ⟨16, [132], [119, 121], [2, 4, 0, 1, 2, 3, 4, 5, 6, 7, 8, 9, 10, 11, 12, 13, 14, 15], [0], []⟩, ⟨17, [], [132, 130], [16, 13, 15, 0, 1, 2, 3, 4, 5, 6, 7, 8, 9, 10, 11, 12, 13, 14, 15], [0], [0]⟩]))) (.leaf))))))) (.leaf))))))))) (.leaf)))))) (.two .none (.leaf) (.leaf)))))) Try.func82 (by kernel_rfl) (by kernel_rfl) (by kernel_rfl) Try.call82 (tbl_cons ok67 tbl_nil) (by intro a; kernel_rfl)
noncomputable def F83 : Fun := ⟨83, [.m (.osl (.int .i64)), .v (.int .i64), .v (.int .i64), .v (.int .i64)], [(.int .i64)], d_slices_partitionEqualOrdered_int⟩
theorem ok83 : OkFun E F83 :=
 OkFun.of (fn := Try.f83) (rs := [.tmp 8]) ((67, F67) :: []) [] [] (.keep [1, 2, 3] (.two .none (.leaf) (.two .none (.draw [⟨0, [11], [0], [], [500000], []⟩, ⟨1, [12], [1], [], [], []⟩, ⟨2, [13], [0], [], [500000], []⟩, ⟨3, [14], [3], [], [], []⟩, ⟨4, [15], [0], [], [500000], []⟩, ⟨5, [16], [3], [], [], []⟩, ⟨6, [17], [15, 16], [4, 5], [0], []⟩, ⟨7, [18], [17], [6], [0], []⟩, ⟨8, [19], [0], [], [500000], []⟩, ⟨9, [20], [1], [], [], []⟩, ⟨10, [21], [19, 20], [8, 9], [0], []⟩, ⟨11, [22], [21], [10], [0], []⟩, ⟨12, [23], [11, 12], [0, 1, 0, 1, 4, 5, 6, 7, 11], [0], []⟩, ⟨13, [], [23, 18], [12, 7, 0, 1, 4, 5, 6, 7, 11], [0], [0]⟩, ⟨14, [24], [13, 14], [2, 3, 0, 1, 2, 3, 4, 5, 6, 7, 8, 9, 10, 11, 12, 13], [0], []⟩, ⟨15, [], [24, 22], [14, 11, 13, 0, 1, 2, 3, 4, 5, 6, 7, 8, 9, 10, 11, 12, 13], [0], [0]⟩]) (.two .none (.leaf) (.two .none (.one (.loop ⟨[(0, .s (.ref 0 [])), (9, .v (.int .i64)), (10, .v (.int .i64))], [(0, (.osl (.int .i64)))]⟩ (.x 0 ⟨[(0, .s (.ref 0 [])), (9, .v (.int .i64))], [(0, (.osl (.int .i64)))]⟩) (.one (.two .none (.one (.keep [10] (.loop ⟨[(0, .s (.ref 0 [])), (9, .v (.int .i64))], [(0, (.osl (.int .i64)))]⟩ (.x 2 ⟨[(0, .s (.ref 0 [])), (9, .v (.int .i64))], [(0, (.osl (.int .i64)))]⟩) (.two (.xr [9] ⟨[(0, .s (.ref 0 []))], [(0, (.osl (.int .i64)))]⟩) (.two .none (.draw [⟨0, [29], [9], [], [], []⟩, ⟨1, [30], [10], [], [], []⟩, ⟨2, [31], [29, 30], [0, 1], [], []⟩, ⟨3, [32], [31], [2], [], []⟩, ⟨4, [33], [0, 32], [3], [500000], []⟩, ⟨5, [34], [1, 32], [3], [], []⟩, ⟨6, [35], [33, 34, 32], [4, 5, 3], [0], []⟩, ⟨7, [36], [35, 32], [6, 3], [0], []⟩, ⟨8, [37], [0, 32], [3], [500000], []⟩, ⟨9, [38], [9, 32], [3], [], []⟩, ⟨10, [39], [37, 38, 32], [8, 9, 3], [0], []⟩, ⟨11, [40], [39, 32], [10, 3], [0], []⟩, ⟨12, [41], [36, 40, 32], [7, 11, 3, 3], [], []⟩, ⟨13, [42], [41, 32], [12, 3], [], []⟩, ⟨14, [43], [32, 42], [3, 13], [], []⟩]) (.two .none (.leaf) (.leaf))) (.one (.leaf)))))) (.two .none (.one (.keep [9] (.loop ⟨[(0, .s (.ref 0 [])), (10, .v (.int .i64))], [(0, (.osl (.int .i64)))]⟩ (.x 4 ⟨[(0, .s (.ref 0 [])), (10, .v (.int .i64))], [(0, (.osl (.int .i64)))]⟩) (.two (.xr [10] ⟨[(0, .s (.ref 0 []))], [(0, (.osl (.int .i64)))]⟩) (.two .none (.draw [⟨0, [46], [9], [], [], []⟩, ⟨1, [47], [10], [], [], []⟩, ⟨2, [48], [46, 47], [0, 1], [], []⟩, ⟨3, [49], [48], [2], [], []⟩, ⟨4, [50], [0, 49], [3], [500000], []⟩, ⟨5, [51], [1, 49], [3], [], []⟩, ⟨6, [52], [50, 51, 49], [4, 5, 3], [0], []⟩, ⟨7, [53], [52, 49], [6, 3], [0], []⟩, ⟨8, [54], [0, 49], [3], [500000], []⟩, ⟨9, [55], [10, 49], [3], [], []⟩, ⟨10, [56], [54, 55, 49], [8, 9, 3], [0], []⟩, ⟨11, [57], [56, 49], [10, 3], [0], []⟩, ⟨12, [58], [53, 57, 49], [7, 11, 3, 3], [], []⟩, ⟨13, [59], [49, 58], [3, 12], [], []⟩]) (.two .none (.leaf) (.leaf))) (.one (.leaf)))))) (.two .none (.two .none (.leaf) (.two .none (.leaf) (.leaf))) (.two .none (.draw [⟨0, [65], [0], [], [500000], []⟩, ⟨1, [66], [9], [], [], []⟩, ⟨2, [67], [0], [], [500000], []⟩, ⟨3, [68], [10], [], [], []⟩, ⟨4, [69], [0], [], [500000], []⟩, ⟨5, [70], [10], [], [], []⟩, ⟨6, [71], [69, 70], [4, 5], [0], []⟩, ⟨7, [72], [71], [6], [0], []⟩, ⟨8, [73], [0], [], [500000], []⟩, ⟨9, [74], [9], [], [], []⟩, ⟨10, [75], [73, 74], [8, 9], [0], []⟩, ⟨11, [76], [75], [10], [0], []⟩, ⟨12, [77], [65, 66], [0, 1, 0, 1, 4, 5, 6, 7, 11], [0], []⟩, ⟨13, [], [77, 72], [12, 7, 0, 1, 4, 5, 6, 7, 11], [0], [0]⟩, ⟨14, [78], [67, 68], [2, 3, 0, 1, 2, 3, 4, 5, 6, 7, 8, 9, 10, 11, 12, 13], [0], []⟩, ⟨15, [], [78, 76], [14, 11, 13, 0, 1, 2, 3, 4, 5, 6, 7, 8, 9, 10, 11, 12, 13], [0], [0]⟩]) (.two .none (.leaf) (.leaf))))))))) (.two .none (.leaf) (.leaf))))))) Try.func83 (by kernel_rfl) (by kernel_rfl) (by kernel_rfl) Try.call83 (tbl_cons ok67 tbl_nil) (by intro a; kernel_rfl)
noncomputable def F84 : Fun := ⟨84, [.m (.osl (.int .i64)), .v (.int .i64), .v (.int .i64), .v (.int .i64)], [(.int .i64), .bool], d_slices_partitionOrdered_int⟩
theorem ok84 : OkFun E F84 :=
 OkFun.of (fn := Try.f84) (rs := [.tmp 8, .tmp 9]) ((67, F67) :: []) [] [] (.keep [1, 2, 3] (.two .none (.leaf) (.two .none (.draw [⟨0, [12], [0], [], [500000], []⟩, ⟨1, [13], [1], [], [], []⟩, ⟨2, [14], [0], [], [500000], []⟩, ⟨3, [15], [3], [], [], []⟩, ⟨4, [16], [0], [], [500000], []⟩, ⟨5, [17], [3], [], [], []⟩, ⟨6, [18], [16, 17], [4, 5], [0], []⟩, ⟨7, [19], [18], [6], [0], []⟩, ⟨8, [20], [0], [], [500000], []⟩, ⟨9, [21], [1], [], [], []⟩, ⟨10, [22], [20, 21], [8, 9], [0], []⟩, ⟨11, [23], [22], [10], [0], []⟩, ⟨12, [24], [12, 13], [0, 1, 0, 1, 4, 5, 6, 7, 11], [0], []⟩, ⟨13, [], [24, 19], [12, 7, 0, 1, 4, 5, 6, 7, 11], [0], [0]⟩, ⟨14, [25], [14, 15], [2, 3, 0, 1, 2, 3, 4, 5, 6, 7, 8, 9, 10, 11, 12, 13], [0], []⟩, ⟨15, [], [25, 23], [14, 11, 13, 0, 1, 2, 3, 4, 5, 6, 7, 8, 9, 10, 11, 12, 13], [0], [0]⟩]) (.two .none (.leaf) (.two .none (.one (.keep [11] (.loop ⟨[(0, .s (.ref 0 [])), (10, .v (.int .i64))], [(0, (.osl (.int .i64)))]⟩ (.x 0 ⟨[(0, .s (.ref 0 [])), (10, .v (.int .i64))], [(0, (.osl (.int .i64)))]⟩) (.two (.xr [10] ⟨[(0, .s (.ref 0 []))], [(0, (.osl (.int .i64)))]⟩) (.two .none (.draw [⟨0, [30], [10], [], [], []⟩, ⟨1, [31], [11], [], [], []⟩, ⟨2, [32], [30, 31], [0, 1], [], []⟩, ⟨3, [33], [32], [2], [], []⟩, ⟨4, [34], [0, 33], [3], [500000], []⟩, ⟨5, [35], [10, 33], [3], [], []⟩, ⟨6, [36], [34, 35, 33], [4, 5, 3], [0], []⟩, ⟨7, [37], [36, 33], [6, 3], [0], []⟩, ⟨8, [38], [0, 33], [3], [500000], []⟩, ⟨9, [39], [1, 33], [3], [], []⟩, ⟨10, [40], [38, 39, 33], [8, 9, 3], [0], []⟩, ⟨11, [41], [40, 33], [10, 3], [0], []⟩, ⟨12, [42], [37, 41, 33], [7, 11, 3, 3], [], []⟩, ⟨13, [43], [33, 42], [3, 12], [], []⟩]) (.two .none (.leaf) (.leaf))) (.one (.leaf)))))) (.two .none (.one (.keep [10] (.loop ⟨[(0, .s (.ref 0 [])), (11, .v (.int .i64))], [(0, (.osl (.int .i64)))]⟩ (.x 2 ⟨[(0, .s (.ref 0 [])), (11, .v (.int .i64))], [(0, (.osl (.int .i64)))]⟩) (.two (.xr [11] ⟨[(0, .s (.ref 0 []))], [(0, (.osl (.int .i64)))]⟩) (.two .none (.draw [⟨0, [46], [10], [], [], []⟩, ⟨1, [47], [11], [], [], []⟩, ⟨2, [48], [46, 47], [0, 1], [], []⟩, ⟨3, [49], [48], [2], [], []⟩, ⟨4, [50], [0, 49], [3], [500000], []⟩, ⟨5, [51], [11, 49], [3], [], []⟩, ⟨6, [52], [50, 51, 49], [4, 5, 3], [0], []⟩, ⟨7, [53], [52, 49], [6, 3], [0], []⟩, ⟨8, [54], [0, 49], [3], [500000], []⟩, ⟨9, [55], [1, 49], [3], [], []⟩, ⟨10, [56], [54, 55, 49], [8, 9, 3], [0], []⟩, ⟨11, [57], [56, 49], [10, 3], [0], []⟩, ⟨12, [58], [53, 57, 49], [7, 11, 3, 3], [], []⟩, ⟨13, [59], [58, 49], [12, 3], [], []⟩, ⟨14, [60], [49, 59], [3, 13], [], []⟩]) (.two .none (.leaf) (.leaf))) (.one (.leaf)))))) (.two .none (.two .none (.leaf) (.two .none (.two .none (.draw [⟨0, [66], [0], [], [500000], []⟩, ⟨1, [67], [11], [], [], []⟩, ⟨2, [68], [0], [], [500000], []⟩, ⟨3, [69], [1], [], [], []⟩, ⟨4, [70], [0], [], [500000], []⟩, ⟨5, [71], [1], [], [], []⟩, ⟨6, [72], [70, 71], [4, 5], [0], []⟩, ⟨7, [73], [72], [6], [0], []⟩, ⟨8, [74], [0], [], [500000], []⟩, ⟨9, [75], [11], [], [], []⟩, ⟨10, [76], [74, 75], [8, 9], [0], []⟩, ⟨11, [77], [76], [10], [0], []⟩, ⟨12, [78], [66, 67], [0, 1, 0, 1, 4, 5, 6, 7, 11], [0], []⟩, ⟨13, [], [78, 73], [12, 7, 0, 1, 4, 5, 6, 7, 11], [0], [0]⟩, ⟨14, [79], [68, 69], [2, 3, 0, 1, 2, 3, 4, 5, 6, 7, 8, 9, 10, 11, 12, 13], [0], []⟩, ⟨15, [], [79, 77], [14, 11, 13, 0, 1, 2, 3, 4, 5, 6, 7, 8, 9, 10, 11, 12, 13], [0], [0]⟩]) (.two .none (.leaf) (.leaf))) (.leaf))) (.two .none (.draw [⟨0, [81], [0], [], [500000], []⟩, ⟨1, [82], [10], [], [], []⟩, ⟨2, [83], [0], [], [500000], []⟩, ⟨3, [84], [11], [], [], []⟩, ⟨4, [85], [0], [], [500000], []⟩, ⟨5, [86], [11], [], [], []⟩, ⟨6, [87], [85, 86], [4, 5], [0], []⟩, ⟨7, [88], [87], [6], [0], []⟩, ⟨8, [89], [0], [], [500000], []⟩, ⟨9, [90], [10], [], [], []⟩, ⟨10, [91], [89, 90], [8, 9], [0], []⟩, ⟨11, [92], [91], [10], [0], []⟩, ⟨12, [93], [81, 82], [0, 1, 0, 1, 4, 5, 6, 7, 11], [0], []⟩, ⟨13, [], [93, 88], [12, 7, 0, 1, 4, 5, 6, 7, 11], [0], [0]⟩, ⟨14, [94], [83, 84], [2, 3, 0, 1, 2, 3, 4, 5, 6, 7, 8, 9, 10, 11, 12, 13], [0], []⟩, ⟨15, [], [94, 92], [14, 11, 13, 0, 1, 2, 3, 4, 5, 6, 7, 8, 9, 10, 11, 12, 13], [0], [0]⟩]) (.two .none (.leaf) (.two .none (.leaf) (.two .none (.one (.loop ⟨[(0, .s (.ref 0 [])), (10, .v (.int .i64)), (11, .v (.int .i64))], [(0, (.osl (.int .i64)))]⟩ (.x 4 ⟨[(0, .s (.ref 0 [])), (11, .v (.int .i64))], [(0, (.osl (.int .i64)))]⟩) (.one (.two .none (.one (.keep [11] (.loop ⟨[(0, .s (.ref 0 [])), (10, .v (.int .i64))], [(0, (.osl (.int .i64)))]⟩ (.x 6 ⟨[(0, .s (.ref 0 [])), (10, .v (.int .i64))], [(0, (.osl (.int .i64)))]⟩) (.two (.xr [10] ⟨[(0, .s (.ref 0 []))], [(0, (.osl (.int .i64)))]⟩) (.two .none (.draw [⟨0, [99], [10], [], [], []⟩, ⟨1, [100], [11], [], [], []⟩, ⟨2, [101], [99, 100], [0, 1], [], []⟩, ⟨3, [102], [101], [2], [], []⟩, ⟨4, [103], [0, 102], [3], [500000], []⟩, ⟨5, [104], [10, 102], [3], [], []⟩, ⟨6, [105], [103, 104, 102], [4, 5, 3], [0], []⟩, ⟨7, [106], [105, 102], [6, 3], [0], []⟩, ⟨8, [107], [0, 102], [3], [500000], []⟩, ⟨9, [108], [1, 102], [3], [], []⟩, ⟨10, [109], [107, 108, 102], [8, 9, 3], [0], []⟩, ⟨11, [110], [109, 102], [10, 3], [0], []⟩, ⟨12, [111], [106, 110, 102], [7, 11, 3, 3], [], []⟩, ⟨13, [112], [102, 111], [3, 12], [], []⟩]) (.two .none (.leaf) (.leaf))) (.one (.leaf)))))) (.two .none (.one (.keep [10] (.loop ⟨[(0, .s (.ref 0 [])), (11, .v (.int .i64))], [(0, (.osl (.int .i64)))]⟩ (.x 8 ⟨[(0, .s (.ref 0 [])), (11, .v (.int .i64))], [(0, (.osl (.int .i64)))]⟩) (.two (.xr [11] ⟨[(0, .s (.ref 0 []))], [(0, (.osl (.int .i64)))]⟩) (.two .none (.draw [⟨0, [115], [10], [], [], []⟩, ⟨1, [116], [11], [], [], []⟩, ⟨2, [117], [115, 116], [0, 1], [], []⟩, ⟨3, [118], [117], [2], [], []⟩, ⟨4, [119], [0, 118], [3], [500000], []⟩, ⟨5, [120], [11, 118], [3], [], []⟩, ⟨6, [121], [119, 120, 118], [4, 5, 3], [0], []⟩, ⟨7, [122], [121, 118], [6, 3], [0], []⟩, ⟨8, [123], [0, 118], [3], [500000], []⟩, ⟨9, [124], [1, 118], [3], [], []⟩, ⟨10, [125], [123, 124, 118], [8, 9, 3], [0], []⟩, ⟨11, [126], [125, 118], [10, 3], [0], []⟩, ⟨12, [127], [122, 126, 118], [7, 11, 3, 3], [], []⟩, ⟨13, [128], [127, 118], [12, 3], [], []⟩, ⟨14, [129], [118, 128], [3, 13], [], []⟩]) (.two .none (.leaf) (.leaf))) (.one (.leaf)))))) (.two .none (.two .none (.leaf) (.two .none (.leaf) (.leaf))) (.two .none (.draw [⟨0, [135], [0], [], [500000], []⟩, ⟨1, [136], [10], [], [], []⟩, ⟨2, [137], [0], [], [500000], []⟩, ⟨3, [138], [11], [], [], []⟩, ⟨4, [139], [0], [], [500000], []⟩, ⟨5, [140], [11], [], [], []⟩, ⟨6, [141], [139, 140], [4, 5], [0], []⟩, ⟨7, [142], [141], [6], [0], []⟩, ⟨8, [143], [0], [], [500000], []⟩, ⟨9, [144], [10], [], [], []⟩, ⟨10, [145], [143, 144], [8, 9], [0], []⟩, ⟨11, [146], [145], [10], [0], []⟩, ⟨12, [147], [135, 136], [0, 1, 0, 1, 4, 5, 6, 7, 11], [0], []⟩, ⟨13, [], [147, 142], [12, 7, 0, 1, 4, 5, 6, 7, 11], [0], [0]⟩, ⟨14, [148], [137, 138], [2, 3, 0, 1, 2, 3, 4, 5, 6, 7, 8, 9, 10, 11, 12, 13], [0], []⟩, ⟨15, [], [148, 146], [14, 11, 13, 0, 1, 2, 3, 4, 5, 6, 7, 8, 9, 10, 11, 12, 13], [0], [0]⟩]) (.two .none (.leaf) (.leaf))))))))) (.two .none (.draw [⟨0, [153], [0], [], [500000], []⟩, ⟨1, [154], [11], [], [], []⟩, ⟨2, [155], [0], [], [500000], []⟩, ⟨3, [156], [1], [], [], []⟩, ⟨4, [157], [0], [], [500000], []⟩, ⟨5, [158], [1], [], [], []⟩, ⟨6, [159], [157, 158], [4, 5], [0], []⟩, ⟨7, [160], [159], [6], [0], []⟩, ⟨8, [161], [0], [], [500000], []⟩, ⟨9, [162], [11], [], [], []⟩, ⟨10, [163], [161, 162], [8, 9], [0], []⟩, ⟨11, [164], [163], [10], [0], []⟩, ⟨12, [165], [153, 154], [0, 1, 0, 1, 4, 5, 6, 7, 11], [0], []⟩, ⟨13, [], [165, 160], [12, 7, 0, 1, 4, 5, 6, 7, 11], [0], [0]⟩, ⟨14, [166], [155, 156], [2, 3, 0, 1, 2, 3, 4, 5, 6, 7, 8, 9, 10, 11, 12, 13], [0], []⟩, ⟨15, [], [166, 164], [14, 11, 13, 0, 1, 2, 3, 4, 5, 6, 7, 8, 9, 10, 11, 12, 13], [0], [0]⟩]) (.two .none (.leaf) (.leaf)))))))))))))) Try.func84 (by kernel_rfl) (by kernel_rfl) (by kernel_rfl) Try.call84 (tbl_cons ok67 tbl_nil) (by intro a; kernel_rfl)
noncomputable def F75n (n : Nat) : Fun := ⟨75, [.m (.osl (.int .i64)), .v (.int .i64), .v (.int .i64), .v (.int .i64)], [], r_slices_pdqsortOrdered_int n⟩
theorem ok75n : ∀ n, OkFun E (F75n n)
 | 0 => ⟨Try.call75, fun _ _ h => by cases h⟩
 | n + 1 =>
   OkFun.of (fn := Try.f75) (rs := []) ((75, F75n n) :: (84, F84) :: (83, F83) :: (82, F82) :: (81, F81) :: (80, F80) :: (79, F79) :: (78, F78) :: (77, F77) :: (67, F67) :: []) [] [] (.two .none (.leaf) (.two .none (.leaf) (.one (.loop ⟨[(0, .s (.ref 0 [])), (1, .v (.int .i64)), (2, .v (.int .i64)), (3, .v (.int .i64)), (8, .v .bool), (9, .v .bool)], [(0, (.osl (.int .i64)))]⟩ .r (.one (.two .none (.leaf) (.two .none (.two .none (.leaf) (.two .none (.two .none (.leaf) (.leaf)) (.leaf))) (.two .none (.two .none (.leaf) (.two .none (.two .none (.leaf) (.leaf)) (.leaf))) (.two (.x [1, 2, 8, 9, 10] ⟨[(0, .s (.ref 0 [])), (3, .v (.int .i64))], [(0, (.osl (.int .i64)))]⟩) (.two .none (.leaf) (.two .none (.two .none (.leaf) (.leaf)) (.leaf))) (.two .none (.leaf) (.two (.x [1, 2, 3, 8, 9, 10] ⟨[(0, .s (.ref 0 [])), (11, .v (.int .i64)), (12, .v (.int .i64))], [(0, (.osl (.int .i64)))]⟩) (.two .none (.leaf) (.two .none (.two .none (.leaf) (.two .none (.leaf) (.leaf))) (.leaf))) (.two (.xr [1, 2, 3, 8, 9, 10, 11] ⟨[(0, .s (.ref 0 []))], [(0, (.osl (.int .i64)))]⟩) (.two (.x [] ⟨[(0, .s (.ref 0 [])), (68, .v .bool)], [(0, (.osl (.int .i64)))]⟩) (.leaf) (.two .none (.two .none (.leaf) (.two .none (.leaf) (.leaf))) (.leaf))) (.two (.xr [2, 3, 10, 11] ⟨[(0, .s (.ref 0 [])), (1, .v (.int .i64))], [(0, (.osl (.int .i64)))]⟩) (.two (.x [1, 8, 9] ⟨[(0, .s (.ref 0 [])), (87, .v .bool)], [(0, (.osl (.int .i64)))]⟩) (.draw [⟨0, [73], [1], [], [], []⟩, ⟨1, [74], [73], [0], [], []⟩, ⟨2, [75], [74], [1], [], []⟩, ⟨3, [76], [0, 75], [2], [500000], []⟩, ⟨4, [77], [1, 75], [2], [], []⟩, ⟨5, [78], [77, 75], [4, 2], [], []⟩, ⟨6, [79], [76, 78, 75], [3, 5, 2], [0], []⟩, ⟨7, [80], [79, 75], [6, 2], [0], []⟩, ⟨8, [81], [0, 75], [2], [500000], []⟩, ⟨9, [82], [11, 75], [2], [], []⟩, ⟨10, [83], [81, 82, 75], [8, 9, 2], [0], []⟩, ⟨11, [84], [83, 75], [10, 2], [0], []⟩, ⟨12, [85], [80, 84, 75], [7, 11, 2, 2], [], []⟩, ⟨13, [86], [85, 75], [12, 2], [], []⟩, ⟨14, [87], [75, 86], [2, 13], [], []⟩]) (.two .none (.two .none (.leaf) (.two .none (.leaf) (.leaf))) (.leaf))) (.two .none (.leaf) (.two .none (.leaf) (.two .none (.leaf) (.two .none (.leaf) (.two .none (.leaf) (.two .none (.two .none (.leaf) (.two .none (.leaf) (.leaf))) (.two .none (.leaf) (.two .none (.leaf) (.leaf)))))))))))))))))))))) Try.func75 (by kernel_rfl) (by kernel_rfl) (by kernel_rfl) Try.call75 (tbl_cons (ok75n n) (tbl_cons ok84 (tbl_cons ok83 (tbl_cons ok82 (tbl_cons ok81 (tbl_cons ok80 (tbl_cons ok79 (tbl_cons ok78 (tbl_cons ok77 (tbl_cons ok67 tbl_nil)))))))))) (by intro a; kernel_rfl)
noncomputable def F75 : Fun := ⟨75, [.m (.osl (.int .i64)), .v (.int .i64), .v (.int .i64), .v (.int .i64)], [], d_slices_pdqsortOrdered_int⟩
theorem ok75 : OkFun E F75 := fixO_ok ok75n
noncomputable def F70 : Fun := ⟨70, [.m (.osl (.int .i64))], [], d_slices_Sort_int_int⟩
theorem ok70 : OkFun E F70 :=
 OkFun.of (fn := Try.f70) (rs := []) ((76, F76) :: (75, F75) :: []) [] [] (.two .none (.leaf) (.leaf)) Try.func70 (by kernel_rfl) (by kernel_rfl) (by kernel_rfl) Try.call70 (tbl_cons ok76 (tbl_cons ok75 tbl_nil)) (by intro a; kernel_rfl)
noncomputable def F53 : Fun := ⟨53, [.v (.slc .bor (.int .i64))], [.bool], d_graph_twice⟩
theorem ok53 : OkFun E F53 := Tw.tw_ok rfl (sort := fun l => (d_slices_Sort_int_int (l, ())).map fun r => r.1) (fun zs ys h => by obtain ⟨r, hr, rfl⟩ := Option.map_eq_some_iff.1 h; exact ok70.2 (zs, ()) r hr)
noncomputable def F51x0 : Fun := ⟨51, [.v (.int .i64), .v (.ptr .imm (.st (.pr (.slc .bor (.slc .bor (.int .i64))) .nil)))], [.bool], d_graph_Permuted_1q_q0⟩
theorem ok51x0 : OkFun E F51x0 :=
 OkFun.of (fn := Try.f51) (rs := [.tmp 3]) ((52, F52) :: []) [] [] (.keep [0, 1] (.two .none (.leaf) (.two .none (.leaf) (.leaf)))) Try.func51 (by kernel_rfl) (by kernel_rfl) (by kernel_rfl) Try.call51 (tbl_cons ok52 tbl_nil) (by intro a; kernel_rfl)
noncomputable def F61x0 : Fun := ⟨61, [.v (.slc .bor (.int .i64)), .c 51 [(.ptr .imm (.st (.pr (.slc .bor (.slc .bor (.int .i64))) .nil)))]], [(.int .i64)], d_slices_IndexFunc_int_int_q0⟩
theorem ok61x0 : OkFun E F61x0 :=
 OkFun.of (fn := Try.f61) (rs := [.tmp 4]) ((51, F51x0) :: []) [] [] (.keep [0, 1] (.two .none (.leaf) (.two .none (.two .none (.leaf) (.one (.keep [7] (.loop ⟨[(8, .v (.int .i64))], []⟩ (.xr 0 ⟨[], []⟩) (.two .none (.leaf) (.two .none (.two .none (.leaf) (.leaf)) (.two .none (.one (.two .none (.leaf) (.two .none (.leaf) (.two .none (.two .none (.leaf) (.leaf)) (.leaf))))) (.leaf)))))))) (.two .none (.leaf) (.leaf))))) Try.func61 (by kernel_rfl) (by kernel_rfl) (by kernel_rfl) Try.call61 (tbl_cons ok51x0 tbl_nil) (by intro a; kernel_rfl)
noncomputable def F50x0 : Fun := ⟨50, [.v (.slc .bor (.int .i64)), .c 51 [(.ptr .imm (.st (.pr (.slc .bor (.slc .bor (.int .i64))) .nil)))]], [.bool], d_slices_ContainsFunc_int_int_q0⟩
theorem ok50x0 : OkFun E F50x0 :=
 OkFun.of (fn := Try.f50) (rs := [.tmp 4]) ((61, F61x0) :: []) [] [] (.keep [0, 1] (.two .none (.leaf) (.two .none (.leaf) (.leaf)))) Try.func50 (by kernel_rfl) (by kernel_rfl) (by kernel_rfl) Try.call50 (tbl_cons ok61x0 tbl_nil) (by intro a; kernel_rfl)
noncomputable def F38 : Fun := ⟨38, [.v (.st (.pr (.slc .bor (.slc .bor (.int .i64))) .nil)), .v (.slc .bor (.int .i64))], [(.int .i64)], d_graph_Permuted⟩
theorem ok38 : OkFun E F38 :=
 OkFun.of (fn := Try.f38) (rs := [.tmp 4]) ((53, F53) :: (33, F33) :: (50, F50x0) :: []) [(2, (.ptr .imm (.st (.pr (.slc .bor (.slc .bor (.int .i64))) .nil))))] [] (.keep [0, 1] (.two .none (.leaf) (.two .none (.leaf) (.two .none (.one (.two .none (.leaf) (.two .none (.two .none (.leaf) (.leaf)) (.two .none (.leaf) (.two .none (.two .none (.leaf) (.leaf)) (.two .none (.leaf) (.two .none (.two .none (.leaf) (.leaf)) (.leaf)))))))) (.two .none (.leaf) (.leaf)))))) Try.func38 (by kernel_rfl) (by kernel_rfl) (by kernel_rfl) Try.call38 (tbl_cons ok53 (tbl_cons ok33 (tbl_cons ok50x0 tbl_nil))) (by intro a; kernel_rfl)
noncomputable def F16 : Fun := ⟨16, [.v (.st (.pr (.slc .bor (.slc .bor (.int .i64))) .nil)), .v (.slc .bor (.int .i64))], [(.osl (.int .i64)), (.int .i64)], d_mindeg_Degrees⟩
theorem ok16 : OkFun E F16 :=
 OkFun.of (fn := Try.f16) (rs := [.tmp 4, .tmp 5]) ((38, F38) :: (36, F36) :: (34, F34) :: []) [(2, (.ptr .imm (.st (.pr (.slc .bor (.slc .bor (.int .i64))) .nil)))), (8, (.osl (.int .i64))), (4, (.osl (.int .i64)))] [] (.keep [0, 1] (.two .none (.leaf) (.two .none (.leaf) (.two .none (.two .none (.leaf) (.two .none (.two .none (.leaf) (.leaf)) (.leaf))) (.two .none (.leaf) (.two .none (.leaf) (.two .none (.two .none (.leaf) (.one (.keep [19, 20] (.loop ⟨[(7, .s (.ref 7 [])), (8, .s (.ref 8 [])), (21, .v (.int .i64))], [(7, (.optr (.st (.pr (.osl (.osl .bool)) (.pr (.osl .bool) .nil))))), (8, (.osl (.int .i64)))]⟩ (.x 0 ⟨[(8, .s (.ref 8 []))], [(8, (.osl (.int .i64)))]⟩) (.two .none (.leaf) (.two .none (.two .none (.leaf) (.leaf)) (.two .none (.one (.two .none (.leaf) (.leaf))) (.leaf)))))))) (.two .none (.leaf) (.leaf))))))))) Try.func16 (by kernel_rfl) (by kernel_rfl) (by kernel_rfl) Try.call16 (tbl_cons ok38 (tbl_cons ok36 (tbl_cons ok34 tbl_nil))) (by intro a; kernel_rfl)
noncomputable def F18 : Fun := ⟨18, [.v (.slc .bor (.int .i64)), .v (.slc .bor (.int .i64))], [.bool], d_sparsekit_Ints⟩
theorem ok18 : OkFun E F18 :=
 OkFun.of (fn := Try.f18) (rs := [.tmp 4]) ([]) [] [] (.keep [0, 1] (.two .none (.leaf) (.two .none (.two .none (.leaf) (.two .none (.two .none (.leaf) (.leaf)) (.leaf))) (.two .none (.two .none (.leaf) (.one (.loop ⟨[(5, .v (.int .i64))], []⟩ (.xr 0 ⟨[], []⟩) (.two .none (.two .none (.leaf) (.two .none (.leaf) (.leaf))) (.two .none (.one (.two .none (.draw [⟨0, [17], [0], [], [], []⟩, ⟨1, [18], [5], [], [], []⟩, ⟨2, [19], [17, 18], [0, 1], [], []⟩, ⟨3, [20], [19], [2], [], []⟩, ⟨4, [21], [1], [], [], []⟩, ⟨5, [22], [5], [], [], []⟩, ⟨6, [23], [21, 22], [4, 5], [], []⟩, ⟨7, [24], [23], [6], [], []⟩, ⟨8, [25], [20, 24], [3, 7], [], []⟩]) (.two .none (.two .none (.leaf) (.leaf)) (.leaf)))) (.leaf)))))) (.two .none (.leaf) (.leaf)))))) Try.func18 (by kernel_rfl) (by kernel_rfl) (by kernel_rfl) Try.call18 tbl_nil (by intro a; kernel_rfl)
noncomputable def F10 : Fun := ⟨10, [], [.bool], d_sparselaw16q_awake⟩
theorem ok10 : OkFun E F10 :=
 OkFun.of (fn := Try.f10) (rs := [.tmp 0]) ((18, F18) :: (16, F16) :: (14, F14) :: []) [(1, (.st (.pr (.slc .imm (.slc .imm (.int .i64))) .nil))), (2, (.slc .imm (.int .i64))), (4, (.slc .imm (.int .i64)))] [(2, 15000), (4, 21000), (10, 6), (10, 7), (10, 8), (10, 9), (11, 10)] (.two .none (.leaf) (.two .none (.leaf) (.two .none (.leaf) (.two .none (.leaf) (.two .none (.leaf) (.leaf)))))) Try.func10 (by kernel_rfl) (by kernel_rfl) (by kernel_rfl) Try.call10 (tbl_cons ok18 (tbl_cons ok16 (tbl_cons ok14 tbl_nil))) (by intro a; kernel_rfl)
noncomputable def F49 : Fun := ⟨49, [.v (.slc .bor (.int .i64))], [.bool], d_sparsekit_Ascending⟩
theorem ok49 : OkFun E F49 :=
 OkFun.of (fn := Try.f49) (rs := [.tmp 2]) ([]) [] [] (.keep [0] (.two .none (.leaf) (.two .none (.two .none (.leaf) (.one (.loop ⟨[(3, .v (.int .i64))], []⟩ (.xr 0 ⟨[], []⟩) (.two .none (.two .none (.leaf) (.two .none (.leaf) (.leaf))) (.two .none (.one (.two .none (.draw [⟨0, [10], [0], [], [], []⟩, ⟨1, [11], [3], [], [], []⟩, ⟨2, [12], [10, 11], [0, 1], [], []⟩, ⟨3, [13], [12], [2], [], []⟩, ⟨4, [14], [0], [], [], []⟩, ⟨5, [15], [3], [], [], []⟩, ⟨6, [16], [15], [5], [], []⟩, ⟨7, [17], [14, 16], [4, 6], [], []⟩, ⟨8, [18], [17], [7], [], []⟩, ⟨9, [19], [13, 18], [3, 8], [], []⟩]) (.two .none (.two .none (.leaf) (.leaf)) (.leaf)))) (.leaf)))))) (.two .none (.leaf) (.leaf))))) Try.func49 (by kernel_rfl) (by kernel_rfl) (by kernel_rfl) Try.call49 tbl_nil (by intro a; kernel_rfl)
noncomputable def F23 : Fun := ⟨23, [.v (.slc .bor (.int .i64)), .v (.int .i64)], [.bool], d_sparsekit_In⟩
theorem ok23 : OkFun E F23 :=
 OkFun.of (fn := Try.f23) (rs := [.tmp 4]) ([]) [] [] (.keep [0, 1] (.two .none (.leaf) (.two .none (.two .none (.leaf) (.one (.loop ⟨[(5, .v (.int .i64))], []⟩ (.xr 0 ⟨[], []⟩) (.two .none (.two .none (.leaf) (.two .none (.leaf) (.leaf))) (.two .none (.one (.two .none (.leaf) (.two .none (.two .none (.leaf) (.leaf)) (.leaf)))) (.leaf)))))) (.two .none (.leaf) (.leaf))))) Try.func23 (by kernel_rfl) (by kernel_rfl) (by kernel_rfl) Try.call23 tbl_nil (by intro a; kernel_rfl)
noncomputable def F37 : Fun := ⟨37, [.v (.st (.pr (.slc .bor (.slc .bor (.int .i64))) .nil))], [(.int .i64)], d_sparseref12q_Check⟩
theorem ok37 : OkFun E F37 :=
 OkFun.of (fn := Try.f37) (rs := [.tmp 2]) ((49, F49) :: (23, F23) :: []) [(1, (.ptr .imm (.st (.pr (.slc .bor (.slc .bor (.int .i64))) .nil))))] [] (.keep [0] (.two .none (.leaf) (.two .none (.leaf) (.two .none (.two .none (.leaf) (.two .none (.two .none (.leaf) (.leaf)) (.leaf))) (.two .none (.two .none (.leaf) (.one (.keep [1, 3] (.loop ⟨[(4, .v (.int .i64))], []⟩ (.xr 0 ⟨[], []⟩) (.two .none (.two .none (.leaf) (.two .none (.leaf) (.leaf))) (.two .none (.one (.two .none (.two .none (.leaf) (.two .none (.two .none (.leaf) (.leaf)) (.leaf))) (.two .none (.leaf) (.one (.keep [4] (.loop ⟨[(5, .v (.int .i64))], []⟩ (.xr 2 ⟨[], []⟩) (.two .none (.two .none (.leaf) (.two .none (.leaf) (.leaf))) (.two (.xr [5] ⟨[], []⟩) (.one (.two .none (.leaf) (.two .none (.leaf) (.two .none (.two .none (.leaf) (.leaf)) (.leaf))))) (.leaf))))))))) (.leaf))))))) (.two .none (.leaf) (.leaf))))))) Try.func37 (by kernel_rfl) (by kernel_rfl) (by kernel_rfl) Try.call37 (tbl_cons ok49 (tbl_cons ok23 tbl_nil)) (by intro a; kernel_rfl)
noncomputable def F39 : Fun := ⟨39, [.v (.st (.pr (.slc .bor (.slc .bor (.int .i64))) .nil))], [(.osl (.osl .bool))], d_sparseref12q_Table⟩
theorem ok39 : OkFun E F39 :=
 OkFun.of (fn := Try.f39) (rs := [.tmp 2]) ([]) [(1, (.ptr .imm (.st (.pr (.slc .bor (.slc .bor (.int .i64))) .nil)))), (4, (.osl (.osl .bool))), (17, (.osl .bool)), (40, (.osl (.osl .bool)))] [] (.keep [0] (.two .none (.leaf) (.two .none (.leaf) (.two .none (.leaf) (.two .none (.two .none (.leaf) (.one (.keep [1, 3] (.loop ⟨[(4, .s (.ref 4 [])), (5, .v (.int .i64))], [(4, (.osl (.osl .bool)))]⟩ (.x 0 ⟨[(4, .s (.ref 4 []))], [(4, (.osl (.osl .bool)))]⟩) (.two .none (.two .none (.leaf) (.two .none (.leaf) (.leaf))) (.two .none (.one (.two .none (.leaf) (.two .none (.two .none (.leaf) (.one (.keep [5] (.loop ⟨[(4, .s (.ref 4 [])), (6, .s (.ref 6 [])), (7, .v (.int .i64))], [(4, (.osl (.osl .bool))), (6, (.osl .bool))]⟩ (.x 2 ⟨[(4, .s (.ref 4 [])), (6, .s (.ref 6 []))], [(4, (.osl (.osl .bool))), (6, (.osl .bool))]⟩) (.two .none (.two .none (.leaf) (.two .none (.leaf) (.leaf))) (.two .none (.one (.leaf)) (.leaf))))))) (.leaf)))) (.leaf))))))) (.two .none (.leaf) (.leaf))))))) Try.func39 (by kernel_rfl) (by kernel_rfl) (by kernel_rfl) Try.call39 tbl_nil (by intro a; kernel_rfl)
noncomputable def F20 : Fun := ⟨20, [.v (.st (.pr (.slc .bor (.slc .bor (.int .i64))) .nil))], [(.optr (.st (.pr (.osl (.osl .bool)) (.pr (.osl .bool) .nil))))], d_sparseref16q_Begin⟩
theorem ok20 : OkFun E F20 :=
 OkFun.of (fn := Try.f20) (rs := [.tmp 2]) ((39, F39) :: []) [(1, (.ptr .imm (.st (.pr (.slc .bor (.slc .bor (.int .i64))) .nil)))), (8, (.osl .bool))] [] (.keep [0] (.two .none (.leaf) (.two .none (.draw [⟨0, [3], [1], [], [], []⟩, ⟨1, [4], [3], [0], [4], [4]⟩, ⟨2, [5], [1], [], [], []⟩, ⟨3, [6], [5], [2], [], []⟩, ⟨4, [7], [6], [3], [], []⟩, ⟨5, [8], [7, 7], [4, 4], [8], [8]⟩, ⟨6, [9], [4, 8], [1, 5], [4, 8, 9], [4, 8, 9, 500004, 500008]⟩, ⟨7, [10], [9], [6], [9, 10], [9, 10, 500009]⟩, ⟨8, [2], [10], [7, 1, 0, 1, 2, 3, 4, 5, 6, 7], [2, 10], [2, 10, 500002, 500010]⟩]) (.leaf)))) Try.func20 (by kernel_rfl) (by kernel_rfl) (by kernel_rfl) Try.call20 (tbl_cons ok39 tbl_nil) (by intro a; kernel_rfl)
noncomputable def F21 : Fun := ⟨21, [.v (.ptr .bor (.st (.pr (.slc .bor (.slc .bor .bool)) (.pr (.slc .bor .bool) .nil)))), .v (.int .i64)], [(.osl (.int .i64))], d_sparseref16q_Elimination_Neighbours⟩
theorem ok21 : OkFun E F21 :=
 OkFun.of (fn := Try.f21) (rs := [.tmp 4]) ([]) [(5, (.osl (.int .i64)))] [] (.keep [0, 1] (.two .none (.leaf) (.two .none (.leaf) (.two .none (.two .none (.leaf) (.one (.loop ⟨[(5, .s (.ref 5 [])), (6, .v (.int .i64))], [(5, (.osl (.int .i64)))]⟩ (.x 0 ⟨[(5, .s (.ref 5 []))], [(5, (.osl (.int .i64)))]⟩) (.two .none (.two .none (.leaf) (.two .none (.leaf) (.leaf))) (.two (.x [6] ⟨[(5, .s (.ref 5 []))], [(5, (.osl (.int .i64)))]⟩) (.one (.two (.x [] ⟨[(5, .s (.ref 5 [])), (35, .v .bool)], [(5, (.osl (.int .i64)))]⟩) (.leaf) (.two .none (.leaf) (.leaf)))) (.leaf)))))) (.two .none (.leaf) (.leaf)))))) Try.func21 (by kernel_rfl) (by kernel_rfl) (by kernel_rfl) Try.call21 tbl_nil (by intro a; kernel_rfl)
noncomputable def F22 : Fun := ⟨22, [.m (.optr (.st (.pr (.osl (.osl .bool)) (.pr (.osl .bool) .nil)))), .v (.int .i64)], [], d_sparseref16q_Elimination_Eliminate⟩
theorem ok22 : OkFun E F22 :=
 OkFun.of (fn := Try.f22) (rs := []) ((21, F21) :: []) [(4, (.slc .imm (.int .i64)))] [(4, 9)] (.keep [1] (.two .none (.leaf) (.two .none (.two .none (.leaf) (.one (.keep [4] (.loop ⟨[(0, .s (.ref 0 [])), (5, .v (.int .i64))], [(0, (.optr (.st (.pr (.osl (.osl .bool)) (.pr (.osl .bool) .nil)))))]⟩ (.x 0 ⟨[(0, .s (.ref 0 []))], [(0, (.optr (.st (.pr (.osl (.osl .bool)) (.pr (.osl .bool) .nil)))))]⟩) (.two .none (.two .none (.leaf) (.two .none (.leaf) (.leaf))) (.two .none (.one (.two .none (.leaf) (.one (.keep [5] (.loop ⟨[(0, .s (.ref 0 [])), (6, .v (.int .i64))], [(0, (.optr (.st (.pr (.osl (.osl .bool)) (.pr (.osl .bool) .nil)))))]⟩ (.x 2 ⟨[(0, .s (.ref 0 []))], [(0, (.optr (.st (.pr (.osl (.osl .bool)) (.pr (.osl .bool) .nil)))))]⟩) (.two .none (.two .none (.leaf) (.two .none (.leaf) (.leaf))) (.two (.x [6] ⟨[(0, .s (.ref 0 []))], [(0, (.optr (.st (.pr (.osl (.osl .bool)) (.pr (.osl .bool) .nil)))))]⟩) (.one (.two .none (.leaf) (.two .none (.draw [⟨0, [25], [0], [], [500000], []⟩, ⟨1, [26], [25], [0], [0], []⟩, ⟨2, [27], [26], [1], [0], []⟩, ⟨3, [28], [27], [2], [0], []⟩, ⟨4, [29], [4], [], [], []⟩, ⟨5, [30], [5], [], [], []⟩, ⟨6, [31], [29, 30], [4, 5], [], []⟩, ⟨7, [32], [31], [6], [], []⟩, ⟨8, [33], [28, 32], [3, 7], [0], []⟩, ⟨9, [34], [33], [8], [0], []⟩, ⟨10, [35], [4], [], [], []⟩, ⟨11, [36], [6], [], [], []⟩, ⟨12, [37], [35, 36], [10, 11], [], []⟩, ⟨13, [38], [37], [12], [], []⟩, ⟨14, [39], [34, 38], [9, 13, 0, 1, 2, 3, 4, 5, 6, 7, 8, 9, 10, 11, 12, 13], [0], []⟩, ⟨15, [], [39], [14, 0, 1, 2, 3, 4, 5, 6, 7, 8, 9, 10, 11, 12, 13], [0], [0]⟩]) (.leaf)))) (.leaf)))))))) (.leaf))))))) (.leaf)))) Try.func22 (by kernel_rfl) (by kernel_rfl) (by kernel_rfl) Try.call22 (tbl_cons ok21 tbl_nil) (by intro a; kernel_rfl)
noncomputable def F15 : Fun := ⟨15, [.v (.st (.pr (.slc .bor (.slc .bor (.int .i64))) .nil))], [(.osl (.int .i64)), (.int .i64)], d_sparseref16q_Exact⟩
theorem ok15 : OkFun E F15 :=
 OkFun.of (fn := Try.f15) (rs := [.tmp 2, .tmp 3]) ((37, F37) :: (22, F22) :: (21, F21) :: (20, F20) :: []) [(1, (.ptr .imm (.st (.pr (.slc .bor (.slc .bor (.int .i64))) .nil)))), (6, (.osl (.int .i64))), (2, (.osl (.int .i64)))] [] (.keep [0] (.two .none (.leaf) (.two .none (.two .none (.leaf) (.two .none (.leaf) (.two .none (.two .none (.leaf) (.leaf)) (.leaf)))) (.two .none (.leaf) (.two .none (.leaf) (.two .none (.one (.keep [1] (.loop ⟨[(5, .s (.ref 5 [])), (6, .s (.ref 6 []))], [(5, (.optr (.st (.pr (.osl (.osl .bool)) (.pr (.osl .bool) .nil))))), (6, (.osl (.int .i64)))]⟩ (.x 0 ⟨[(6, .s (.ref 6 []))], [(6, (.osl (.int .i64)))]⟩) (.two .none (.two .none (.leaf) (.two .none (.leaf) (.leaf))) (.one (.two .none (.leaf) (.two .none (.two .none (.leaf) (.one (.loop ⟨[(5, .s (.ref 5 [])), (6, .s (.ref 6 [])), (7, .v (.int .i64)), (8, .v (.int .i64)), (9, .v (.int .i64))], [(5, (.optr (.st (.pr (.osl (.osl .bool)) (.pr (.osl .bool) .nil))))), (6, (.osl (.int .i64)))]⟩ (.x 2 ⟨[(5, .s (.ref 5 [])), (6, .s (.ref 6 [])), (7, .v (.int .i64))], [(5, (.optr (.st (.pr (.osl (.osl .bool)) (.pr (.osl .bool) .nil))))), (6, (.osl (.int .i64)))]⟩) (.two .none (.two .none (.leaf) (.two .none (.leaf) (.leaf))) (.two (.x [9] ⟨[(5, .s (.ref 5 [])), (6, .s (.ref 6 [])), (7, .v (.int .i64)), (8, .v (.int .i64))], [(5, (.optr (.st (.pr (.osl (.osl .bool)) (.pr (.osl .bool) .nil))))), (6, (.osl (.int .i64)))]⟩) (.one (.two .none (.leaf) (.two (.x [7, 8, 10] ⟨[(5, .s (.ref 5 [])), (6, .s (.ref 6 [])), (51, .v .bool)], [(5, (.optr (.st (.pr (.osl (.osl .bool)) (.pr (.osl .bool) .nil))))), (6, (.osl (.int .i64)))]⟩) (.leaf) (.two .none (.leaf) (.leaf))))) (.leaf)))))) (.two .none (.leaf) (.leaf))))))))) (.two .none (.leaf) (.leaf)))))))) Try.func15 (by kernel_rfl) (by kernel_rfl) (by kernel_rfl) Try.call15 (tbl_cons ok37 (tbl_cons ok22 (tbl_cons ok21 (tbl_cons ok20 tbl_nil)))) (by intro a; kernel_rfl)
noncomputable def F19 : Fun := ⟨19, [.v (.slc .bor (.int .i64)), .v (.int .i64)], [.bool], d_sparsekit_Perm⟩
theorem ok19 : OkFun E F19 :=
 OkFun.of (fn := Try.f19) (rs := [.tmp 4]) ([]) [(12, (.osl .bool))] [] (.keep [0, 1] (.two .none (.leaf) (.two .none (.two .none (.leaf) (.two .none (.two .none (.leaf) (.leaf)) (.leaf))) (.two .none (.leaf) (.two .none (.two .none (.leaf) (.one (.loop ⟨[(5, .s (.ref 5 [])), (6, .v (.int .i64))], [(5, (.osl .bool))]⟩ (.xr 0 ⟨[], []⟩) (.two .none (.two .none (.leaf) (.two .none (.leaf) (.leaf))) (.two (.xr [6] ⟨[(5, .s (.ref 5 []))], [(5, (.osl .bool))]⟩) (.one (.two (.xr [] ⟨[(5, .s (.ref 5 []))], [(5, (.osl .bool))]⟩) (.two .none (.leaf) (.two .none (.two .none (.leaf) (.leaf)) (.leaf))) (.leaf))) (.leaf)))))) (.two .none (.leaf) (.leaf))))))) Try.func19 (by kernel_rfl) (by kernel_rfl) (by kernel_rfl) Try.call19 tbl_nil (by intro a; kernel_rfl)
noncomputable def F17 : Fun := ⟨17, [.v (.st (.pr (.slc .bor (.slc .bor (.int .i64))) .nil)), .v (.slc .bor (.int .i64))], [(.osl (.int .i64)), (.int .i64)], d_sparseref16q_Degrees⟩
theorem ok17 : OkFun E F17 :=
 OkFun.of (fn := Try.f17) (rs := [.tmp 4, .tmp 5]) ((37, F37) :: (22, F22) :: (21, F21) :: (20, F20) :: (19, F19) :: []) [(2, (.ptr .imm (.st (.pr (.slc .bor (.slc .bor (.int .i64))) .nil)))), (8, (.osl (.int .i64))), (4, (.osl (.int .i64)))] [] (.keep [0, 1] (.two .none (.leaf) (.two .none (.two .none (.leaf) (.two .none (.leaf) (.two .none (.two .none (.leaf) (.leaf)) (.leaf)))) (.two .none (.two .none (.leaf) (.two .none (.two .none (.leaf) (.leaf)) (.leaf))) (.two .none (.two .none (.leaf) (.two .none (.two .none (.leaf) (.leaf)) (.leaf))) (.two .none (.leaf) (.two .none (.leaf) (.two .none (.two .none (.leaf) (.one (.loop ⟨[(7, .s (.ref 7 [])), (8, .s (.ref 8 [])), (9, .v (.int .i64))], [(7, (.optr (.st (.pr (.osl (.osl .bool)) (.pr (.osl .bool) .nil))))), (8, (.osl (.int .i64)))]⟩ (.x 0 ⟨[(8, .s (.ref 8 []))], [(8, (.osl (.int .i64)))]⟩) (.two .none (.two .none (.leaf) (.two .none (.leaf) (.leaf))) (.two .none (.one (.two .none (.leaf) (.leaf))) (.leaf)))))) (.two .none (.leaf) (.leaf)))))))))) Try.func17 (by kernel_rfl) (by kernel_rfl) (by kernel_rfl) Try.call17 (tbl_cons ok37 (tbl_cons ok22 (tbl_cons ok21 (tbl_cons ok20 (tbl_cons ok19 tbl_nil))))) (by intro a; kernel_rfl)
noncomputable def F54 : Fun := ⟨54, [.v (.st (.pr (.slc .bor (.slc .bor (.int .i64))) .nil))], [(.optr (.st (.pr (.osl (.mp .bool)) (.pr (.osl (.mp .bool)) (.pr (.osl (.mp .bool)) (.pr (.osl (.int .i64)) (.pr (.osl .bool) (.pr (.int .i64) .nil))))))))], d_mindeg_newQuotient⟩
theorem ok54 : OkFun E F54 :=
 OkFun.of (fn := Try.f54) (rs := [.tmp 2]) ([]) [(1, (.ptr .imm (.st (.pr (.slc .bor (.slc .bor (.int .i64))) .nil)))), (13, (.osl (.mp .bool))), (15, (.osl (.mp .bool))), (17, (.osl (.mp .bool))), (19, (.osl (.int .i64))), (21, (.osl .bool)), (48, (.mp .bool)), (49, (.mp .bool))] [] (.keep [0] (.two .none (.leaf) (.two .none (.leaf) (.two .none (.draw [⟨0, [12], [3], [], [], []⟩, ⟨1, [13], [12, 12], [0, 0], [13], [13]⟩, ⟨2, [14], [3], [], [], []⟩, ⟨3, [15], [14, 14], [2, 2], [15], [15]⟩, ⟨4, [16], [3], [], [], []⟩, ⟨5, [17], [16, 16], [4, 4], [17], [17]⟩, ⟨6, [18], [3], [], [], []⟩, ⟨7, [19], [18, 18], [6, 6], [19], [19]⟩, ⟨8, [20], [3], [], [], []⟩, ⟨9, [21], [20, 20], [8, 8], [21], [21]⟩, ⟨10, [22], [3], [], [], []⟩, ⟨11, [23], [13, 15, 17, 19, 21, 22], [1, 3, 5, 7, 9, 10], [13, 15, 17, 19, 21, 23], [13, 15, 17, 19, 21, 23, 500013, 500015, 500017, 500019, 500021]⟩, ⟨12, [24], [23], [11], [23, 24], [23, 24, 500023]⟩, ⟨13, [4], [24], [12, 0, 1, 2, 3, 4, 5, 6, 7, 8, 9, 10, 11, 12], [4, 24], [4, 24, 500004, 500024]⟩]) (.two .none (.two .none (.leaf) (.one (.keep [26, 27] (.loop ⟨[(4, .s (.ref 4 [])), (28, .v (.int .i64))], [(4, (.optr (.st (.pr (.osl (.mp .bool)) (.pr (.osl (.mp .bool)) (.pr (.osl (.mp .bool)) (.pr (.osl (.int .i64)) (.pr (.osl .bool) (.pr (.int .i64) .nil)))))))))]⟩ (.x 0 ⟨[(4, .s (.ref 4 []))], [(4, (.optr (.st (.pr (.osl (.mp .bool)) (.pr (.osl (.mp .bool)) (.pr (.osl (.mp .bool)) (.pr (.osl (.int .i64)) (.pr (.osl .bool) (.pr (.int .i64) .nil)))))))))]⟩) (.two .none (.leaf) (.two .none (.two .none (.leaf) (.leaf)) (.two .none (.one (.two .none (.leaf) (.two .none (.draw [⟨0, [33], [4], [], [500004], []⟩, ⟨1, [34], [33], [0], [4], []⟩, ⟨2, [35], [34], [1], [4], []⟩, ⟨3, [36], [35], [2], [4], []⟩, ⟨4, [37], [5], [], [], []⟩, ⟨5, [38], [4], [], [500004], []⟩, ⟨6, [39], [38], [5], [4], []⟩, ⟨7, [40], [39], [6], [4], []⟩, ⟨8, [41], [40], [7], [4], []⟩, ⟨9, [42], [5], [], [], []⟩, ⟨10, [43], [4], [], [500004], []⟩, ⟨11, [44], [43], [10], [4], []⟩, ⟨12, [45], [44], [11], [4], []⟩, ⟨13, [46], [45], [12], [4], []⟩, ⟨14, [47], [5], [], [], []⟩, ⟨15, [48], [], [], [48], [48]⟩, ⟨16, [49], [], [], [49], [49]⟩, ⟨17, [50], [6], [], [], []⟩, ⟨18, [51], [50], [17], [], []⟩, ⟨19, [52], [36, 37], [3, 4, 0, 1, 2, 3, 4, 8, 13, 15], [4], []⟩, ⟨20, [], [52, 48], [19, 15, 0, 1, 2, 3, 4, 8, 13, 15], [4, 48], [4, 48, 500048]⟩, ⟨21, [53], [41, 42], [8, 9, 0, 1, 2, 3, 4, 5, 6, 7, 8, 9, 13, 15, 16, 19, 20], [4], []⟩, ⟨22, [], [53, 49], [21, 16, 20, 0, 1, 2, 3, 4, 5, 6, 7, 8, 9, 13, 15, 16, 19, 20], [4, 49], [4, 49, 500049]⟩, ⟨23, [54], [46, 47], [13, 14, 0, 1, 2, 3, 4, 5, 6, 7, 8, 9, 10, 11, 12, 13, 14, 15, 16, 17, 18, 19, 20, 21, 22], [4], []⟩, ⟨24, [], [54, 51], [23, 18, 22, 0, 1, 2, 3, 4, 5, 6, 7, 8, 9, 10, 11, 12, 13, 14, 15, 16, 17, 18, 19, 20, 21, 22], [4], [4]⟩]) (.two .none (.leaf) (.one (.keep [5, 28, 55, 56] (.loop ⟨[(4, .s (.ref 4 [])), (57, .v (.int .i64))], [(4, (.optr (.st (.pr (.osl (.mp .bool)) (.pr (.osl (.mp .bool)) (.pr (.osl (.mp .bool)) (.pr (.osl (.int .i64)) (.pr (.osl .bool) (.pr (.int .i64) .nil)))))))))]⟩ (.x 2 ⟨[(4, .s (.ref 4 []))], [(4, (.optr (.st (.pr (.osl (.mp .bool)) (.pr (.osl (.mp .bool)) (.pr (.osl (.mp .bool)) (.pr (.osl (.int .i64)) (.pr (.osl .bool) (.pr (.int .i64) .nil)))))))))]⟩) (.two .none (.leaf) (.two .none (.two .none (.leaf) (.leaf)) (.two .none (.one (.two .none (.leaf) (.leaf))) (.leaf))))))))))) (.leaf)))))))) (.two .none (.leaf) (.leaf))))))) Try.func54 (by kernel_rfl) (by kernel_rfl) (by kernel_rfl) Try.call54 tbl_nil (by intro a; kernel_rfl)
noncomputable def F55 : Fun := ⟨55, [.v (.ptr .bor (.st (.pr (.slc .bor (.vm .bor .bool)) (.pr (.slc .bor (.vm .bor .bool)) (.pr (.slc .bor (.vm .bor .bool)) (.pr (.slc .bor (.int .i64)) (.pr (.slc .bor .bool) (.pr (.int .i64) .nil))))))))], [(.int .i64)], d_mindeg_quotient_least⟩
theorem ok55 : OkFun E F55 :=
 OkFun.of (fn := Try.f55) (rs := [.tmp 2]) ([]) [] [] (.keep [0] (.two .none (.leaf) (.two .none (.leaf) (.two .none (.two .none (.leaf) (.one (.keep [9, 10] (.loop ⟨[(3, .v (.int .i64)), (11, .v (.int .i64))], []⟩ (.x 0 ⟨[(3, .v (.int .i64))], []⟩) (.two .none (.leaf) (.two .none (.two .none (.leaf) (.leaf)) (.two (.x [11] ⟨[(3, .v (.int .i64))], []⟩) (.one (.two .none (.leaf) (.two (.x [3, 4] ⟨[(38, .v .bool)], []⟩) (.leaf) (.two .none (.leaf) (.leaf))))) (.leaf)))))))) (.two .none (.leaf) (.leaf)))))) Try.func55 (by kernel_rfl) (by kernel_rfl) (by kernel_rfl) Try.call55 tbl_nil (by intro a; kernel_rfl)
noncomputable def F72 : Fun := ⟨72, [.v (.vm .bor .bool), .v (.vm .bor .bool)], [(.int .i64)], d_mindeg_set_outside⟩
theorem ok72 : OkFun E F72 :=
 OkFun.of (fn := Try.f72) (rs := [.tmp 4]) ([]) [] [] (.keep [0, 1] (.two .none (.leaf) (.two .none (.leaf) (.two .none (.mr [7] ⟨[(5, .v (.int .i64))], []⟩ (.two .none (.leaf) (.two .none (.leaf) (.leaf)))) (.two .none (.leaf) (.leaf)))))) Try.func72 (by kernel_rfl) (by kernel_rfl) (by kernel_rfl) Try.call72 tbl_nil (by intro a; kernel_rfl)
noncomputable def F65 : Fun := ⟨65, [.v (.ptr .bor (.st (.pr (.slc .bor (.vm .bor .bool)) (.pr (.slc .bor (.vm .bor .bool)) (.pr (.slc .bor (.vm .bor .bool)) (.pr (.slc .bor (.int .i64)) (.pr (.slc .bor .bool) (.pr (.int .i64) .nil)))))))), .v (.int .i64), .v (.int .i64)], [(.int .i64)], d_mindeg_quotient_bound⟩
theorem ok65 : OkFun E F65 :=
 OkFun.of (fn := Try.f65) (rs := [.tmp 6]) ((72, F72) :: []) [] [] (.keep [0, 1, 2] (.two .none (.leaf) (.two .none (.leaf) (.two .none (.leaf) (.two .none (.mr [7, 35] ⟨[(8, .v (.int .i64))], []⟩ (.two .none (.leaf) (.two .none (.draw [⟨0, [44], [8], [], [], []⟩, ⟨1, [45], [0], [], [], []⟩, ⟨2, [46], [45], [1], [], []⟩, ⟨3, [47], [46], [2], [], []⟩, ⟨4, [48], [47], [3], [], []⟩, ⟨5, [49], [9], [], [], []⟩, ⟨6, [50], [48, 49], [4, 5], [], []⟩, ⟨7, [51], [50], [6], [], []⟩, ⟨8, [52], [0], [], [], []⟩, ⟨9, [53], [52], [8], [], []⟩, ⟨10, [54], [53], [9], [], []⟩, ⟨11, [55], [54], [10], [], []⟩, ⟨12, [56], [2], [], [], []⟩, ⟨13, [57], [55, 56], [11, 12], [], []⟩, ⟨14, [58], [57], [13], [], []⟩, ⟨15, [59], [51, 58], [7, 14], [], []⟩, ⟨16, [60], [44, 59], [0, 15], [], []⟩, ⟨17, [8], [60], [16, 15, 0, 1, 2, 3, 4, 5, 6, 7, 8, 9, 10, 11, 12, 13, 14, 15, 16], [], []⟩]) (.leaf)))) (.two .none (.draw [⟨0, [61], [0], [], [], []⟩, ⟨1, [62], [61], [0], [], []⟩, ⟨2, [63], [62], [1], [], []⟩, ⟨3, [64], [63], [2], [], []⟩, ⟨4, [65], [64], [3], [], []⟩, ⟨5, [66], [0], [], [], []⟩, ⟨6, [67], [66], [5], [], []⟩, ⟨7, [68], [67], [6], [], []⟩, ⟨8, [69], [68], [7], [], []⟩, ⟨9, [70], [1], [], [], []⟩, ⟨10, [71], [69, 70], [8, 9], [], []⟩, ⟨11, [72], [71], [10], [], []⟩, ⟨12, [73], [7], [], [], []⟩, ⟨13, [74], [72, 73], [11, 12], [], []⟩, ⟨14, [75], [8], [], [], []⟩, ⟨15, [76], [65, 74, 75], [4, 13, 14], [], []⟩, ⟨16, [6], [76], [15, 0, 1, 2, 3, 4, 5, 6, 7, 8, 9, 10, 11, 12, 13, 14, 15], [], []⟩]) (.leaf))))))) Try.func65 (by kernel_rfl) (by kernel_rfl) (by kernel_rfl) Try.call65 (tbl_cons ok72 tbl_nil) (by intro a; kernel_rfl)
noncomputable def F56 : Fun := ⟨56, [.m (.optr (.st (.pr (.osl (.mp .bool)) (.pr (.osl (.mp .bool)) (.pr (.osl (.mp .bool)) (.pr (.osl (.int .i64)) (.pr (.osl .bool) (.pr (.int .i64) .nil)))))))), .v (.int .i64)], [], d_mindeg_quotient_eliminate⟩
theorem ok56 : OkFun E F56 :=
 OkFun.of (fn := Try.f56) (rs := []) ((65, F65) :: []) [(25, (.mp .bool))] [] (.keep [1] (.two .none (.leaf) (.two .none (.leaf) (.two .none (.leaf) (.two .none (.mr [] ⟨[(0, .s (.ref 0 [])), (4, .s (.ref 4 [])), (32, .p 0 [.deref, .unst, .fst] [])], [(0, (.optr (.st (.pr (.osl (.mp .bool)) (.pr (.osl (.mp .bool)) (.pr (.osl (.mp .bool)) (.pr (.osl (.int .i64)) (.pr (.osl .bool) (.pr (.int .i64) .nil))))))))), (4, (.mp .bool))]⟩ (.leaf)) (.two .none (.mr [] ⟨[(0, .s (.ref 0 [])), (4, .s (.ref 4 [])), (46, .p 0 [.deref, .unst, .snd, .fst] [])], [(0, (.optr (.st (.pr (.osl (.mp .bool)) (.pr (.osl (.mp .bool)) (.pr (.osl (.mp .bool)) (.pr (.osl (.int .i64)) (.pr (.osl .bool) (.pr (.int .i64) .nil))))))))), (4, (.mp .bool))]⟩ (.mr [] ⟨[(0, .s (.ref 0 [])), (4, .s (.ref 4 [])), (46, .p 0 [.deref, .unst, .snd, .fst] []), (58, .p 0 [.deref, .unst, .snd, .snd, .fst] [])], [(0, (.optr (.st (.pr (.osl (.mp .bool)) (.pr (.osl (.mp .bool)) (.pr (.osl (.mp .bool)) (.pr (.osl (.int .i64)) (.pr (.osl .bool) (.pr (.int .i64) .nil))))))))), (4, (.mp .bool))]⟩ (.leaf))) (.two .none (.leaf) (.two .none (.mv [4]) (.two .none (.mr [] ⟨[(0, .s (.ref 0 [])), (4, .p 0 [.deref, .unst, .snd, .snd, .fst] []), (75, .p 0 [.deref, .unst, .snd, .snd, .fst] [])], [(0, (.optr (.st (.pr (.osl (.mp .bool)) (.pr (.osl (.mp .bool)) (.pr (.osl (.mp .bool)) (.pr (.osl (.int .i64)) (.pr (.osl .bool) (.pr (.int .i64) .nil)))))))))]⟩ (.two .none (.leaf) (.two .none (.mr [8] ⟨[(0, .s (.ref 0 [])), (4, .p 0 [.deref, .unst, .snd, .snd, .fst] []), (75, .p 0 [.deref, .unst, .snd, .snd, .fst] []), (89, .p 0 [.deref, .unst, .snd, .snd, .fst] [])], [(0, (.optr (.st (.pr (.osl (.mp .bool)) (.pr (.osl (.mp .bool)) (.pr (.osl (.mp .bool)) (.pr (.osl (.int .i64)) (.pr (.osl .bool) (.pr (.int .i64) .nil)))))))))]⟩ (.leaf)) (.two .none (.mr [8] ⟨[(0, .s (.ref 0 [])), (4, .p 0 [.deref, .unst, .snd, .snd, .fst] []), (75, .p 0 [.deref, .unst, .snd, .snd, .fst] []), (109, .p 0 [.deref, .unst, .snd, .fst] [])], [(0, (.optr (.st (.pr (.osl (.mp .bool)) (.pr (.osl (.mp .bool)) (.pr (.osl (.mp .bool)) (.pr (.osl (.int .i64)) (.pr (.osl .bool) (.pr (.int .i64) .nil)))))))))]⟩ (.leaf)) (.leaf))))) (.mr [] ⟨[(0, .s (.ref 0 [])), (131, .p 0 [.deref, .unst, .snd, .snd, .fst] [])], [(0, (.optr (.st (.pr (.osl (.mp .bool)) (.pr (.osl (.mp .bool)) (.pr (.osl (.mp .bool)) (.pr (.osl (.int .i64)) (.pr (.osl .bool) (.pr (.int .i64) .nil)))))))))]⟩ (.draw [⟨0, [137], [0], [], [500000], []⟩, ⟨1, [138], [137], [0], [0], []⟩, ⟨2, [139], [138], [1], [0], []⟩, ⟨3, [140], [139], [2], [0], []⟩, ⟨4, [141], [11], [], [], []⟩, ⟨5, [142], [0], [], [500000], []⟩, ⟨6, [143], [11], [], [], []⟩, ⟨7, [144], [1], [], [], []⟩, ⟨8, [145], [142, 143, 144], [5, 6, 7], [0], []⟩, ⟨9, [146], [140, 141], [3, 4, 0, 1, 2, 3, 4, 5, 6, 7, 8], [0], []⟩, ⟨10, [], [146, 145], [9, 8, 8, 0, 1, 2, 3, 4, 5, 6, 7, 8], [0], [0]⟩]))))))))))) Try.func56 (by kernel_rfl) (by kernel_rfl) (by kernel_rfl) Try.call56 (tbl_cons ok65 tbl_nil) (by intro a; kernel_rfl)
noncomputable def F41 : Fun := ⟨41, [.v (.st (.pr (.slc .bor (.slc .bor (.int .i64))) .nil))], [(.osl (.int .i64)), (.osl (.int .i64)), (.int .i64)], d_mindeg_approx⟩
theorem ok41 : OkFun E F41 :=
 OkFun.of (fn := Try.f41) (rs := [.tmp 2, .tmp 3, .tmp 4]) ((56, F56) :: (55, F55) :: (54, F54) :: (33, F33) :: []) [(1, (.ptr .imm (.st (.pr (.slc .bor (.slc .bor (.int .i64))) .nil)))), (2, (.osl (.int .i64))), (3, (.osl (.int .i64)))] [] (.keep [0] (.two .none (.leaf) (.two .none (.leaf) (.two .none (.two .none (.leaf) (.two .none (.two .none (.leaf) (.leaf)) (.leaf))) (.two .none (.leaf) (.two .none (.one (.loop ⟨[(2, .s (.ref 2 [])), (3, .s (.ref 3 [])), (5, .s (.ref 5 []))], [(2, (.osl (.int .i64))), (3, (.osl (.int .i64))), (5, (.optr (.st (.pr (.osl (.mp .bool)) (.pr (.osl (.mp .bool)) (.pr (.osl (.mp .bool)) (.pr (.osl (.int .i64)) (.pr (.osl .bool) (.pr (.int .i64) .nil)))))))))]⟩ (.x 0 ⟨[(2, .s (.ref 2 [])), (3, .s (.ref 3 []))], [(2, (.osl (.int .i64))), (3, (.osl (.int .i64)))]⟩) (.two .none (.two .none (.leaf) (.two .none (.leaf) (.leaf))) (.one (.two .none (.leaf) (.two .none (.draw [⟨0, [21], [2], [], [500002], []⟩, ⟨1, [22], [6], [], [], []⟩, ⟨2, [23], [22], [1], [23], [23]⟩, ⟨3, [24], [21, 23], [0, 2], [2, 23, 24], [2, 24, 500002, 500024]⟩, ⟨4, [25], [3], [], [500003], []⟩, ⟨5, [26], [5], [], [500005], []⟩, ⟨6, [27], [26], [5], [5], []⟩, ⟨7, [28], [27], [6], [5], []⟩, ⟨8, [29], [28], [7], [5], []⟩, ⟨9, [30], [6], [], [], []⟩, ⟨10, [31], [29, 30], [8, 9], [5], []⟩, ⟨11, [32], [31], [10], [5], []⟩, ⟨12, [33], [32], [11], [33], [33]⟩, ⟨13, [34], [25, 33], [4, 12, 3], [3, 33, 34], [3, 34, 500003, 500034]⟩, ⟨14, [2], [24], [3, 13, 0, 1, 2, 3], [2, 24], [2, 24, 500002, 500024]⟩, ⟨15, [3], [34], [13, 14, 0, 1, 2, 3, 4, 5, 6, 7, 8, 9, 10, 11, 12, 13, 14], [3, 34], [3, 34, 500003, 500034]⟩]) (.leaf))))))) (.two .none (.leaf) (.leaf)))))))) Try.func41 (by kernel_rfl) (by kernel_rfl) (by kernel_rfl) Try.call41 (tbl_cons ok56 (tbl_cons ok55 (tbl_cons ok54 (tbl_cons ok33 tbl_nil)))) (by intro a; kernel_rfl)
noncomputable def F25 : Fun := ⟨25, [.v (.st (.pr (.slc .bor (.slc .bor (.int .i64))) .nil))], [(.slc .imm (.int .i64)), (.int .i64)], d_mindeg_Approx⟩
theorem ok25 : OkFun E F25 :=
 OkFun.of (fn := Try.f25) (rs := [.tmp 2, .tmp 3]) ((41, F41) :: []) [(1, (.ptr .imm (.st (.pr (.slc .bor (.slc .bor (.int .i64))) .nil)))), (4, (.slc .imm (.int .i64))), (5, (.slc .imm (.int .i64)))] [(4, 10000), (5, 10001)] (.keep [0] (.two .none (.leaf) (.two .none (.leaf) (.two .none (.leaf) (.leaf))))) Try.func25 (by kernel_rfl) (by kernel_rfl) (by kernel_rfl) Try.call25 (tbl_cons ok41 tbl_nil) (by intro a; kernel_rfl)
noncomputable def F26 : Fun := ⟨26, [.v (.st (.pr (.slc .bor (.slc .bor (.int .i64))) .nil))], [.bool], d_sparselaw16q_small⟩
theorem ok26 : OkFun E F26 :=
 OkFun.of (fn := Try.f26) (rs := [.tmp 2]) ([]) [(1, (.ptr .imm (.st (.pr (.slc .bor (.slc .bor (.int .i64))) .nil))))] [] (.keep [0] (.two .none (.leaf) (.two (.xr [1] ⟨[], []⟩) (.two .none (.leaf) (.two .none (.two .none (.leaf) (.leaf)) (.leaf))) (.two .none (.two .none (.leaf) (.one (.keep [1] (.loop ⟨[(3, .v (.int .i64))], []⟩ (.xr 0 ⟨[], []⟩) (.two .none (.two .none (.leaf) (.two .none (.leaf) (.leaf))) (.two .none (.one (.two .none (.leaf) (.two .none (.two .none (.leaf) (.leaf)) (.leaf)))) (.leaf))))))) (.two .none (.leaf) (.leaf)))))) Try.func26 (by kernel_rfl) (by kernel_rfl) (by kernel_rfl) Try.call26 tbl_nil (by intro a; kernel_rfl)
noncomputable def F57 : Fun := ⟨57, [.v (.slc .bor (.int .i64))], [(.osl (.int .i64))], d_sparsekit_TwinInts⟩
theorem ok57 : OkFun E F57 :=
 OkFun.of (fn := Try.f57) (rs := [.tmp 2]) ([]) [(3, (.osl (.int .i64)))] [] (.keep [0] (.two .none (.leaf) (.two .none (.leaf) (.two .none (.two .none (.leaf) (.one (.loop ⟨[(3, .s (.ref 3 [])), (4, .v (.int .i64))], [(3, (.osl (.int .i64)))]⟩ (.x 0 ⟨[(3, .s (.ref 3 []))], [(3, (.osl (.int .i64)))]⟩) (.two .none (.two .none (.leaf) (.two .none (.leaf) (.leaf))) (.two .none (.one (.leaf)) (.leaf)))))) (.two .none (.leaf) (.leaf)))))) Try.func57 (by kernel_rfl) (by kernel_rfl) (by kernel_rfl) Try.call57 tbl_nil (by intro a; kernel_rfl)
noncomputable def F42 : Fun := ⟨42, [.v (.slc .bor (.slc .bor (.int .i64)))], [(.osl (.slc .imm (.int .i64)))], d_sparsekit_TwinLists⟩
theorem ok42 : OkFun E F42 :=
 OkFun.of (fn := Try.f42) (rs := [.tmp 2]) ((57, F57) :: []) [(3, (.osl (.slc .imm (.int .i64))))] [(17, 16)] (.keep [0] (.two .none (.leaf) (.two .none (.leaf) (.two .none (.two .none (.leaf) (.one (.loop ⟨[(3, .s (.ref 3 [])), (4, .v (.int .i64))], [(3, (.osl (.slc .imm (.int .i64))))]⟩ (.x 0 ⟨[(3, .s (.ref 3 []))], [(3, (.osl (.slc .imm (.int .i64))))]⟩) (.two .none (.two .none (.leaf) (.two .none (.leaf) (.leaf))) (.two .none (.one (.leaf)) (.leaf)))))) (.two .none (.leaf) (.leaf)))))) Try.func42 (by kernel_rfl) (by kernel_rfl) (by kernel_rfl) Try.call42 (tbl_cons ok57 tbl_nil) (by intro a; kernel_rfl)
noncomputable def F27 : Fun := ⟨27, [.v (.st (.pr (.slc .bor (.slc .bor (.int .i64))) .nil))], [(.st (.pr (.slc .imm (.slc .imm (.int .i64))) .nil))], d_sparsekit_TwinGraph⟩
theorem ok27 : OkFun E F27 :=
 OkFun.of (fn := Try.f27) (rs := [.cell 2 27]) ((42, F42) :: []) [(1, (.ptr .imm (.st (.pr (.slc .bor (.slc .bor (.int .i64))) .nil)))), (2, (.st (.pr (.slc .imm (.slc .imm (.int .i64))) .nil)))] [(6, 5)] (.keep [0] (.two .none (.leaf) (.two .none (.leaf) (.leaf)))) Try.func27 (by kernel_rfl) (by kernel_rfl) (by kernel_rfl) Try.call27 (tbl_cons ok42 tbl_nil) (by intro a; kernel_rfl)
noncomputable def F66 : Fun := ⟨66, [.v (.slc .bor .bool)], [(.int .i64)], d_sparseref16q_size⟩
theorem ok66 : OkFun E F66 :=
 OkFun.of (fn := Try.f66) (rs := [.tmp 2]) ([]) [] [] (.keep [0] (.two .none (.leaf) (.two .none (.leaf) (.two .none (.two .none (.leaf) (.one (.loop ⟨[(3, .v (.int .i64)), (4, .v (.int .i64))], []⟩ (.x 0 ⟨[(3, .v (.int .i64))], []⟩) (.two .none (.two .none (.leaf) (.two .none (.leaf) (.leaf))) (.two (.x [4] ⟨[(3, .v (.int .i64))], []⟩) (.one (.two .none (.leaf) (.two .none (.leaf) (.leaf)))) (.leaf)))))) (.two .none (.leaf) (.leaf)))))) Try.func66 (by kernel_rfl) (by kernel_rfl) (by kernel_rfl) Try.call66 tbl_nil (by intro a; kernel_rfl)
noncomputable def F58 : Fun := ⟨58, [.m (.optr (.st (.pr (.osl (.osl .bool)) (.pr (.osl (.osl .bool)) (.pr (.osl (.osl .bool)) (.pr (.osl (.int .i64)) (.pr (.osl .bool) .nil)))))))], [(.int .i64), (.int .i64)], d_sparseref16q_Quotient_step⟩
theorem ok58 : OkFun E F58 :=
 OkFun.of (fn := Try.f58) (rs := [.tmp 2, .tmp 3]) ((66, F66) :: []) [] [] (.two .none (.leaf) (.two .none (.leaf) (.two .none (.leaf) (.two .none (.two .none (.leaf) (.one (.keep [4] (.loop ⟨[(0, .s (.ref 0 [])), (5, .v (.int .i64)), (6, .v (.int .i64))], [(0, (.optr (.st (.pr (.osl (.osl .bool)) (.pr (.osl (.osl .bool)) (.pr (.osl (.osl .bool)) (.pr (.osl (.int .i64)) (.pr (.osl .bool) .nil))))))))]⟩ (.x 0 ⟨[(0, .s (.ref 0 [])), (5, .v (.int .i64))], [(0, (.optr (.st (.pr (.osl (.osl .bool)) (.pr (.osl (.osl .bool)) (.pr (.osl (.osl .bool)) (.pr (.osl (.int .i64)) (.pr (.osl .bool) .nil))))))))]⟩) (.two .none (.two .none (.leaf) (.two .none (.leaf) (.leaf))) (.two (.x [6] ⟨[(0, .s (.ref 0 [])), (5, .v (.int .i64))], [(0, (.optr (.st (.pr (.osl (.osl .bool)) (.pr (.osl (.osl .bool)) (.pr (.osl (.osl .bool)) (.pr (.osl (.int .i64)) (.pr (.osl .bool) .nil))))))))]⟩) (.one (.two (.x [5] ⟨[(0, .s (.ref 0 [])), (58, .v .bool)], [(0, (.optr (.st (.pr (.osl (.osl .bool)) (.pr (.osl (.osl .bool)) (.pr (.osl (.osl .bool)) (.pr (.osl (.int .i64)) (.pr (.osl .bool) .nil))))))))]⟩) (.draw [⟨0, [30], [0], [], [500000], []⟩, ⟨1, [31], [30], [0], [0], []⟩, ⟨2, [32], [31], [1], [0], []⟩, ⟨3, [33], [32], [2], [0], []⟩, ⟨4, [34], [6], [], [], []⟩, ⟨5, [35], [33, 34], [3, 4], [0], []⟩, ⟨6, [36], [35], [5], [0], []⟩, ⟨7, [37], [36], [6], [], []⟩, ⟨8, [38], [37], [7], [], []⟩, ⟨9, [39], [5, 38], [8], [], []⟩, ⟨10, [40], [39, 38], [9, 8], [], []⟩, ⟨11, [41], [40, 38], [10, 8, 8], [], []⟩, ⟨12, [42], [0, 41], [11], [500000], []⟩, ⟨13, [43], [42, 41], [12, 11], [0], []⟩, ⟨14, [44], [43, 41], [13, 11], [0], []⟩, ⟨15, [45], [44, 41], [14, 11], [0], []⟩, ⟨16, [46], [6, 41], [11], [], []⟩, ⟨17, [47], [45, 46, 41], [15, 16, 11], [0], []⟩, ⟨18, [48], [47, 41], [17, 11], [0], []⟩, ⟨19, [49], [0, 41], [11], [500000], []⟩, ⟨20, [50], [49, 41], [19, 11], [0], []⟩, ⟨21, [51], [50, 41], [20, 11], [0], []⟩, ⟨22, [52], [51, 41], [21, 11], [0], []⟩, ⟨23, [53], [5, 41], [11], [], []⟩, ⟨24, [54], [52, 53, 41], [22, 23, 11], [0], []⟩, ⟨25, [55], [54, 41], [24, 11], [0], []⟩, ⟨26, [56], [48, 55, 41], [18, 25, 11], [], []⟩, ⟨27, [57], [41, 56, 38], [11, 26, 8], [], []⟩, ⟨28, [58], [38, 57], [8, 27], [], []⟩]) (.two .none (.leaf) (.leaf)))) (.leaf))))))) (.two .none (.leaf) (.two .none (.leaf) (.two .none (.two .none (.leaf) (.one (.keep [4, 5, 7] (.loop ⟨[(0, .s (.ref 0 [])), (8, .v (.int .i64))], [(0, (.optr (.st (.pr (.osl (.osl .bool)) (.pr (.osl (.osl .bool)) (.pr (.osl (.osl .bool)) (.pr (.osl (.int .i64)) (.pr (.osl .bool) .nil))))))))]⟩ (.x 2 ⟨[(0, .s (.ref 0 []))], [(0, (.optr (.st (.pr (.osl (.osl .bool)) (.pr (.osl (.osl .bool)) (.pr (.osl (.osl .bool)) (.pr (.osl (.int .i64)) (.pr (.osl .bool) .nil))))))))]⟩) (.two .none (.two .none (.leaf) (.two .none (.leaf) (.leaf))) (.two (.x [8] ⟨[(0, .s (.ref 0 []))], [(0, (.optr (.st (.pr (.osl (.osl .bool)) (.pr (.osl (.osl .bool)) (.pr (.osl (.osl .bool)) (.pr (.osl (.int .i64)) (.pr (.osl .bool) .nil))))))))]⟩) (.one (.two .none (.leaf) (.two .none (.two .none (.leaf) (.one (.loop ⟨[(0, .s (.ref 0 [])), (9, .v .bool), (10, .v (.int .i64))], [(0, (.optr (.st (.pr (.osl (.osl .bool)) (.pr (.osl (.osl .bool)) (.pr (.osl (.osl .bool)) (.pr (.osl (.int .i64)) (.pr (.osl .bool) .nil))))))))]⟩ (.x 4 ⟨[(0, .s (.ref 0 [])), (9, .v .bool)], [(0, (.optr (.st (.pr (.osl (.osl .bool)) (.pr (.osl (.osl .bool)) (.pr (.osl (.osl .bool)) (.pr (.osl (.int .i64)) (.pr (.osl .bool) .nil))))))))]⟩) (.two .none (.two .none (.leaf) (.two .none (.leaf) (.leaf))) (.two (.x [10] ⟨[(0, .s (.ref 0 [])), (9, .v .bool)], [(0, (.optr (.st (.pr (.osl (.osl .bool)) (.pr (.osl (.osl .bool)) (.pr (.osl (.osl .bool)) (.pr (.osl (.int .i64)) (.pr (.osl .bool) .nil))))))))]⟩) (.one (.leaf)) (.leaf)))))) (.leaf)))) (.leaf))))))) (.two .none (.leaf) (.two .none (.leaf) (.two .none (.two .none (.leaf) (.one (.keep [4, 5, 7, 12] (.loop ⟨[(0, .s (.ref 0 [])), (11, .p 0 [.deref, .unst, .snd, .fst] []), (13, .v (.int .i64))], [(0, (.optr (.st (.pr (.osl (.osl .bool)) (.pr (.osl (.osl .bool)) (.pr (.osl (.osl .bool)) (.pr (.osl (.int .i64)) (.pr (.osl .bool) .nil))))))))]⟩ (.x 6 ⟨[(0, .s (.ref 0 []))], [(0, (.optr (.st (.pr (.osl (.osl .bool)) (.pr (.osl (.osl .bool)) (.pr (.osl (.osl .bool)) (.pr (.osl (.int .i64)) (.pr (.osl .bool) .nil))))))))]⟩) (.two .none (.two .none (.leaf) (.two .none (.leaf) (.leaf))) (.two (.x [13] ⟨[(0, .s (.ref 0 [])), (11, .p 0 [.deref, .unst, .snd, .fst] [])], [(0, (.optr (.st (.pr (.osl (.osl .bool)) (.pr (.osl (.osl .bool)) (.pr (.osl (.osl .bool)) (.pr (.osl (.int .i64)) (.pr (.osl .bool) .nil))))))))]⟩) (.one (.two .none (.two .none (.leaf) (.two .none (.leaf) (.leaf))) (.two .none (.leaf) (.one (.loop ⟨[(0, .s (.ref 0 [])), (11, .p 0 [.deref, .unst, .snd, .fst] []), (14, .v (.int .i64))], [(0, (.optr (.st (.pr (.osl (.osl .bool)) (.pr (.osl (.osl .bool)) (.pr (.osl (.osl .bool)) (.pr (.osl (.int .i64)) (.pr (.osl .bool) .nil))))))))]⟩ (.x 8 ⟨[(0, .s (.ref 0 [])), (11, .p 0 [.deref, .unst, .snd, .fst] [])], [(0, (.optr (.st (.pr (.osl (.osl .bool)) (.pr (.osl (.osl .bool)) (.pr (.osl (.osl .bool)) (.pr (.osl (.int .i64)) (.pr (.osl .bool) .nil))))))))]⟩) (.two .none (.two .none (.leaf) (.two .none (.leaf) (.leaf))) (.two (.x [14] ⟨[(0, .s (.ref 0 [])), (11, .p 0 [.deref, .unst, .snd, .fst] [])], [(0, (.optr (.st (.pr (.osl (.osl .bool)) (.pr (.osl (.osl .bool)) (.pr (.osl (.osl .bool)) (.pr (.osl (.int .i64)) (.pr (.osl .bool) .nil))))))))]⟩) (.one (.two (.x [] ⟨[(0, .s (.ref 0 [])), (11, .p 0 [.deref, .unst, .snd, .fst] [])], [(0, (.optr (.st (.pr (.osl (.osl .bool)) (.pr (.osl (.osl .bool)) (.pr (.osl (.osl .bool)) (.pr (.osl (.int .i64)) (.pr (.osl .bool) .nil))))))))]⟩) (.draw [⟨0, [168], [0], [], [500000], []⟩, ⟨1, [169], [168], [0], [0], []⟩, ⟨2, [170], [169], [1], [0], []⟩, ⟨3, [171], [170], [2], [0], []⟩, ⟨4, [172], [13], [], [], []⟩, ⟨5, [173], [171, 172], [3, 4], [0], []⟩, ⟨6, [174], [173], [5], [0], []⟩, ⟨7, [175], [14], [], [], []⟩, ⟨8, [176], [0], [], [500000], []⟩, ⟨9, [177], [176], [8], [0], []⟩, ⟨10, [178], [177], [9], [0], []⟩, ⟨11, [179], [178], [10], [0], []⟩, ⟨12, [180], [13], [], [], []⟩, ⟨13, [181], [179, 180], [11, 12], [0], []⟩, ⟨14, [182], [181], [13], [0], []⟩, ⟨15, [183], [14], [], [], []⟩, ⟨16, [184], [182, 183], [14, 15], [0], []⟩, ⟨17, [185], [184], [16], [0], []⟩, ⟨18, [186], [185], [17], [], []⟩, ⟨19, [187], [14, 186], [18], [], []⟩, ⟨20, [188], [5, 186], [18], [], []⟩, ⟨21, [189], [187, 188, 186], [19, 20, 18], [], []⟩, ⟨22, [190], [186, 189], [18, 21], [], []⟩, ⟨23, [191], [190], [22, 18], [], []⟩, ⟨24, [192], [0, 191], [23], [500000], []⟩, ⟨25, [193], [192, 191], [24, 23], [0], []⟩, ⟨26, [194], [193, 191], [25, 23], [0], []⟩, ⟨27, [195], [194, 191], [26, 23], [0], []⟩, ⟨28, [196], [5, 191], [23], [], []⟩, ⟨29, [197], [195, 196, 191], [27, 28, 23], [0], []⟩, ⟨30, [198], [197, 191], [29, 23], [0], []⟩, ⟨31, [199], [14, 191], [23], [], []⟩, ⟨32, [200], [198, 199, 191], [30, 31, 23], [0], []⟩, ⟨33, [201], [200, 191], [32, 23], [0], []⟩, ⟨34, [202], [201, 191], [33, 23], [], []⟩, ⟨35, [203], [191, 202], [23, 34], [], []⟩, ⟨36, [204], [174, 175], [6, 7, 0, 1, 2, 3, 4, 5, 6, 7, 8, 9, 10, 11, 12, 13, 14, 15, 16, 17, 18, 19, 20, 21, 22, 23, 24, 25, 26, 27, 28, 29, 30, 31, 32, 33, 34, 35], [0], []⟩, ⟨37, [], [204, 203], [36, 35, 23, 0, 1, 2, 3, 4, 5, 6, 7, 8, 9, 10, 11, 12, 13, 14, 15, 16, 17, 18, 19, 20, 21, 22, 23, 24, 25, 26, 27, 28, 29, 30, 31, 32, 33, 34, 35], [0], [0]⟩]) (.draw [⟨0, [205], [0], [], [500000], []⟩, ⟨1, [206], [205], [0], [0], []⟩, ⟨2, [207], [206], [1], [0], []⟩, ⟨3, [208], [207], [2], [0], []⟩, ⟨4, [209], [13], [], [], []⟩, ⟨5, [210], [208, 209], [3, 4], [0], []⟩, ⟨6, [211], [210], [5], [0], []⟩, ⟨7, [212], [14], [], [], []⟩, ⟨8, [213], [0], [], [500000], []⟩, ⟨9, [214], [213], [8], [0], []⟩, ⟨10, [215], [214], [9], [0], []⟩, ⟨11, [216], [215], [10], [0], []⟩, ⟨12, [217], [13], [], [], []⟩, ⟨13, [218], [216, 217], [11, 12], [0], []⟩, ⟨14, [219], [218], [13], [0], []⟩, ⟨15, [220], [14], [], [], []⟩, ⟨16, [221], [219, 220], [14, 15], [0], []⟩, ⟨17, [222], [221], [16], [0], []⟩, ⟨18, [223], [222], [17], [], []⟩, ⟨19, [224], [11, 223], [18], [0], []⟩, ⟨20, [225], [14, 223], [18], [], []⟩, ⟨21, [226], [224, 225, 223], [19, 20, 18], [0], []⟩, ⟨22, [227], [226, 223], [21, 18], [0], []⟩, ⟨23, [228], [227, 223], [22, 18], [], []⟩, ⟨24, [229], [223, 228], [18, 23], [], []⟩, ⟨25, [230], [229], [24, 18], [], []⟩, ⟨26, [231], [14, 230], [25], [], []⟩, ⟨27, [232], [5, 230], [25], [], []⟩, ⟨28, [233], [231, 232, 230], [26, 27, 25], [], []⟩, ⟨29, [234], [230, 233], [25, 28], [], []⟩, ⟨30, [235], [211, 212], [6, 7, 0, 1, 2, 3, 4, 5, 6, 7, 8, 9, 10, 11, 12, 13, 14, 15, 16, 17, 18, 19, 20, 21, 22, 23, 24, 25, 26, 27, 28, 29], [0], []⟩, ⟨31, [], [235, 234], [30, 29, 25, 0, 1, 2, 3, 4, 5, 6, 7, 8, 9, 10, 11, 12, 13, 14, 15, 16, 17, 18, 19, 20, 21, 22, 23, 24, 25, 26, 27, 28, 29], [0], [0]⟩]))) (.leaf)))))))) (.leaf))))))) (.two .none (.two .none (.leaf) (.one (.keep [4, 5, 7, 12] (.loop ⟨[(0, .s (.ref 0 [])), (15, .v (.int .i64))], [(0, (.optr (.st (.pr (.osl (.osl .bool)) (.pr (.osl (.osl .bool)) (.pr (.osl (.osl .bool)) (.pr (.osl (.int .i64)) (.pr (.osl .bool) .nil))))))))]⟩ (.x 10 ⟨[(0, .s (.ref 0 []))], [(0, (.optr (.st (.pr (.osl (.osl .bool)) (.pr (.osl (.osl .bool)) (.pr (.osl (.osl .bool)) (.pr (.osl (.int .i64)) (.pr (.osl .bool) .nil))))))))]⟩) (.two .none (.two .none (.leaf) (.two .none (.leaf) (.leaf))) (.two (.x [15] ⟨[(0, .s (.ref 0 []))], [(0, (.optr (.st (.pr (.osl (.osl .bool)) (.pr (.osl (.osl .bool)) (.pr (.osl (.osl .bool)) (.pr (.osl (.int .i64)) (.pr (.osl .bool) .nil))))))))]⟩) (.one (.two .none (.two .none (.leaf) (.two .none (.leaf) (.leaf))) (.two .none (.leaf) (.two .none (.leaf) (.two .none (.two .none (.leaf) (.one (.keep [16] (.loop ⟨[(0, .s (.ref 0 [])), (17, .v (.int .i64)), (18, .v (.int .i64))], [(0, (.optr (.st (.pr (.osl (.osl .bool)) (.pr (.osl (.osl .bool)) (.pr (.osl (.osl .bool)) (.pr (.osl (.int .i64)) (.pr (.osl .bool) .nil))))))))]⟩ (.x 12 ⟨[(0, .s (.ref 0 [])), (17, .v (.int .i64))], [(0, (.optr (.st (.pr (.osl (.osl .bool)) (.pr (.osl (.osl .bool)) (.pr (.osl (.osl .bool)) (.pr (.osl (.int .i64)) (.pr (.osl .bool) .nil))))))))]⟩) (.two .none (.two .none (.leaf) (.two .none (.leaf) (.leaf))) (.two .none (.one (.two .none (.leaf) (.one (.keep [18] (.loop ⟨[(0, .s (.ref 0 [])), (17, .v (.int .i64)), (19, .v (.int .i64))], [(0, (.optr (.st (.pr (.osl (.osl .bool)) (.pr (.osl (.osl .bool)) (.pr (.osl (.osl .bool)) (.pr (.osl (.int .i64)) (.pr (.osl .bool) .nil))))))))]⟩ (.x 14 ⟨[(0, .s (.ref 0 [])), (17, .v (.int .i64))], [(0, (.optr (.st (.pr (.osl (.osl .bool)) (.pr (.osl (.osl .bool)) (.pr (.osl (.osl .bool)) (.pr (.osl (.int .i64)) (.pr (.osl .bool) .nil))))))))]⟩) (.two (.xr [17, 19] ⟨[(0, .s (.ref 0 []))], [(0, (.optr (.st (.pr (.osl (.osl .bool)) (.pr (.osl (.osl .bool)) (.pr (.osl (.osl .bool)) (.pr (.osl (.int .i64)) (.pr (.osl .bool) .nil))))))))]⟩) (.two .none (.leaf) (.two .none (.leaf) (.leaf))) (.two (.x [19] ⟨[(0, .s (.ref 0 [])), (17, .v (.int .i64))], [(0, (.optr (.st (.pr (.osl (.osl .bool)) (.pr (.osl (.osl .bool)) (.pr (.osl (.osl .bool)) (.pr (.osl (.int .i64)) (.pr (.osl .bool) .nil))))))))]⟩) (.one (.two (.x [17] ⟨[(0, .s (.ref 0 [])), (320, .v .bool)], [(0, (.optr (.st (.pr (.osl (.osl .bool)) (.pr (.osl (.osl .bool)) (.pr (.osl (.osl .bool)) (.pr (.osl (.int .i64)) (.pr (.osl .bool) .nil))))))))]⟩) (.leaf) (.two .none (.leaf) (.leaf)))) (.leaf)))))))) (.leaf))))))) (.draw [⟨0, [323], [0], [], [500000], []⟩, ⟨1, [324], [323], [0], [0], []⟩, ⟨2, [325], [324], [1], [0], []⟩, ⟨3, [326], [325], [2], [0], []⟩, ⟨4, [327], [15], [], [], []⟩, ⟨5, [328], [12], [], [], []⟩, ⟨6, [329], [328], [5], [], []⟩, ⟨7, [330], [0], [], [500000], []⟩, ⟨8, [331], [330], [7], [0], []⟩, ⟨9, [332], [331], [8], [0], []⟩, ⟨10, [333], [332], [9], [0], []⟩, ⟨11, [334], [15], [], [], []⟩, ⟨12, [335], [333, 334], [10, 11], [0], []⟩, ⟨13, [336], [335], [12], [0], []⟩, ⟨14, [337], [16], [], [], []⟩, ⟨15, [338], [336, 337], [13, 14], [], []⟩, ⟨16, [339], [17], [], [], []⟩, ⟨17, [340], [329, 338, 339], [6, 15, 16], [], []⟩, ⟨18, [341], [326, 327], [3, 4, 0, 1, 2, 3, 4, 5, 6, 7, 8, 9, 10, 11, 12, 13, 14, 15, 16, 17], [0], []⟩, ⟨19, [], [341, 340], [18, 17, 0, 1, 2, 3, 4, 5, 6, 7, 8, 9, 10, 11, 12, 13, 14, 15, 16, 17], [0], [0]⟩])))))) (.leaf))))))) (.two .none (.leaf) (.leaf))))))))))))) Try.func58 (by kernel_rfl) (by kernel_rfl) (by kernel_rfl) Try.call58 (tbl_cons ok66 tbl_nil) (by intro a; kernel_rfl)
noncomputable def F43 : Fun := ⟨43, [.v (.st (.pr (.slc .bor (.slc .bor (.int .i64))) .nil))], [(.osl (.int .i64)), (.osl (.int .i64))], d_sparseref16q_Method⟩
theorem ok43 : OkFun E F43 :=
 OkFun.of (fn := Try.f43) (rs := [.tmp 2, .tmp 3]) ((58, F58) :: (39, F39) :: []) [(1, (.ptr .imm (.st (.pr (.slc .bor (.slc .bor (.int .i64))) .nil)))), (18, (.osl .bool)), (19, (.st (.pr (.osl (.osl .bool)) (.pr (.osl (.osl .bool)) (.pr (.osl (.osl .bool)) (.pr (.osl (.int .i64)) (.pr (.osl .bool) .nil))))))), (32, (.osl .bool)), (33, (.osl (.osl .bool))), (43, (.osl .bool)), (44, (.osl (.osl .bool))), (7, (.osl (.int .i64))), (8, (.osl (.int .i64)))] [] (.keep [0] (.two .none (.leaf) (.two .none (.leaf) (.two .none (.draw [⟨0, [15], [1], [], [], []⟩, ⟨1, [16], [15], [0], [16], [16]⟩, ⟨2, [17], [4], [], [], []⟩, ⟨3, [18], [17, 17], [2, 2], [18], [18]⟩, ⟨4, [19], [16, 18], [1, 3], [16, 18, 19], [16, 18, 19, 500016, 500018]⟩, ⟨5, [20], [19], [4], [19, 20], [19, 20, 500019]⟩, ⟨6, [5], [20], [5, 1, 0, 1, 2, 3, 4, 5], [5, 20], [5, 20, 500005, 500020]⟩]) (.two .none (.two .none (.leaf) (.one (.keep [1, 4] (.loop ⟨[(5, .s (.ref 5 [])), (6, .v (.int .i64))], [(5, (.optr (.st (.pr (.osl (.osl .bool)) (.pr (.osl (.osl .bool)) (.pr (.osl (.osl .bool)) (.pr (.osl (.int .i64)) (.pr (.osl .bool) .nil))))))))]⟩ (.x 0 ⟨[(5, .s (.ref 5 []))], [(5, (.optr (.st (.pr (.osl (.osl .bool)) (.pr (.osl (.osl .bool)) (.pr (.osl (.osl .bool)) (.pr (.osl (.int .i64)) (.pr (.osl .bool) .nil))))))))]⟩) (.two .none (.two .none (.leaf) (.two .none (.leaf) (.leaf))) (.two .none (.one (.two .none (.draw [⟨0, [26], [5], [], [500005], []⟩, ⟨1, [27], [5], [], [500005], []⟩, ⟨2, [28], [27], [1], [5], []⟩, ⟨3, [29], [28], [2], [5], []⟩, ⟨4, [30], [29], [3], [5], []⟩, ⟨5, [31], [4], [], [], []⟩, ⟨6, [32], [31, 31], [5, 5], [32], [32]⟩, ⟨7, [33], [32], [6], [32, 33], [32, 33, 500032]⟩, ⟨8, [34], [30, 33], [4, 7], [5, 33, 34], [5, 34]⟩, ⟨9, [35], [26], [0, 0, 1, 2, 3, 4, 5, 6, 7, 8], [5], []⟩, ⟨10, [36], [35], [9, 0, 1, 2, 3, 4, 5, 6, 7, 8], [5], []⟩, ⟨11, [], [36, 34], [10, 8, 8, 0, 1, 2, 3, 4, 5, 6, 7, 8], [5, 33, 34], [5, 33, 34, 500033, 500034]⟩]) (.two .none (.draw [⟨0, [37], [5], [], [500005], []⟩, ⟨1, [38], [5], [], [500005], []⟩, ⟨2, [39], [38], [1], [5], []⟩, ⟨3, [40], [39], [2], [5], []⟩, ⟨4, [41], [40], [3], [5], []⟩, ⟨5, [42], [4], [], [], []⟩, ⟨6, [43], [42, 42], [5, 5], [43], [43]⟩, ⟨7, [44], [43], [6], [43, 44], [43, 44, 500043]⟩, ⟨8, [45], [41, 44], [4, 7], [5, 44, 45], [5, 45]⟩, ⟨9, [46], [37], [0, 0, 1, 2, 3, 4, 5, 6, 7, 8], [5], []⟩, ⟨10, [47], [46], [9, 0, 1, 2, 3, 4, 5, 6, 7, 8], [5], []⟩, ⟨11, [], [47, 45], [10, 8, 8, 0, 1, 2, 3, 4, 5, 6, 7, 8], [5, 44, 45], [5, 44, 45, 500044, 500045]⟩]) (.draw [⟨0, [48], [5], [], [500005], []⟩, ⟨1, [49], [5], [], [500005], []⟩, ⟨2, [50], [49], [1], [5], []⟩, ⟨3, [51], [50], [2], [5], []⟩, ⟨4, [52], [51], [3], [5], []⟩, ⟨5, [53], [1], [], [], []⟩, ⟨6, [54], [53], [5], [], []⟩, ⟨7, [55], [6], [], [], []⟩, ⟨8, [56], [54, 55], [6, 7], [], []⟩, ⟨9, [57], [56], [8], [], []⟩, ⟨10, [58], [57], [9], [], []⟩, ⟨11, [59], [58], [10], [59], [59]⟩, ⟨12, [60], [52, 59], [4, 11], [5, 59, 60], [5, 60]⟩, ⟨13, [61], [48], [0, 0, 1, 2, 3, 4, 5, 6, 7, 8, 9, 10, 11, 12], [5], []⟩, ⟨14, [62], [61], [13, 0, 1, 2, 3, 4, 5, 6, 7, 8, 9, 10, 11, 12], [5], []⟩, ⟨15, [], [62, 60], [14, 12, 12, 0, 1, 2, 3, 4, 5, 6, 7, 8, 9, 10, 11, 12], [5, 60], [5, 60, 500060]⟩])))) (.leaf))))))) (.two .none (.leaf) (.two .none (.two .none (.leaf) (.one (.keep [4] (.loop ⟨[(5, .s (.ref 5 [])), (7, .s (.ref 7 [])), (8, .s (.ref 8 [])), (9, .v (.int .i64))], [(5, (.optr (.st (.pr (.osl (.osl .bool)) (.pr (.osl (.osl .bool)) (.pr (.osl (.osl .bool)) (.pr (.osl (.int .i64)) (.pr (.osl .bool) .nil)))))))), (7, (.osl (.int .i64))), (8, (.osl (.int .i64)))]⟩ (.x 2 ⟨[(7, .s (.ref 7 [])), (8, .s (.ref 8 []))], [(7, (.osl (.int .i64))), (8, (.osl (.int .i64)))]⟩) (.two .none (.two .none (.leaf) (.two .none (.leaf) (.leaf))) (.two .none (.one (.two .none (.leaf) (.two .none (.leaf) (.leaf)))) (.leaf))))))) (.two .none (.leaf) (.leaf))))))))) Try.func43 (by kernel_rfl) (by kernel_rfl) (by kernel_rfl) Try.call43 (tbl_cons ok58 (tbl_cons ok39 tbl_nil)) (by intro a; kernel_rfl)
noncomputable def F28 : Fun := ⟨28, [.v (.st (.pr (.slc .bor (.slc .bor (.int .i64))) .nil))], [(.slc .imm (.int .i64)), (.int .i64)], d_sparseref16q_Approx⟩
theorem ok28 : OkFun E F28 :=
 OkFun.of (fn := Try.f28) (rs := [.tmp 2, .tmp 3]) ((43, F43) :: (37, F37) :: []) [(1, (.ptr .imm (.st (.pr (.slc .bor (.slc .bor (.int .i64))) .nil)))), (5, (.slc .imm (.int .i64))), (6, (.slc .imm (.int .i64)))] [(5, 15000), (6, 15001)] (.keep [0] (.two .none (.leaf) (.two .none (.two .none (.leaf) (.two .none (.leaf) (.two .none (.two .none (.leaf) (.leaf)) (.leaf)))) (.two .none (.leaf) (.two .none (.leaf) (.leaf)))))) Try.func28 (by kernel_rfl) (by kernel_rfl) (by kernel_rfl) Try.call28 (tbl_cons ok43 (tbl_cons ok37 tbl_nil)) (by intro a; kernel_rfl)
noncomputable def F29 : Fun := ⟨29, [.v (.st (.pr (.slc .bor (.slc .bor (.int .i64))) .nil))], [(.slc .imm (.int .i64)), (.int .i64)], d_mindeg_Bounds⟩
theorem ok29 : OkFun E F29 :=
 OkFun.of (fn := Try.f29) (rs := [.tmp 2, .tmp 3]) ((41, F41) :: []) [(1, (.ptr .imm (.st (.pr (.slc .bor (.slc .bor (.int .i64))) .nil)))), (4, (.slc .imm (.int .i64))), (5, (.slc .imm (.int .i64)))] [(4, 10000), (5, 10001)] (.keep [0] (.two .none (.leaf) (.two .none (.leaf) (.two .none (.leaf) (.leaf))))) Try.func29 (by kernel_rfl) (by kernel_rfl) (by kernel_rfl) Try.call29 (tbl_cons ok41 tbl_nil) (by intro a; kernel_rfl)
noncomputable def F30 : Fun := ⟨30, [.v (.st (.pr (.slc .bor (.slc .bor (.int .i64))) .nil))], [(.slc .imm (.int .i64)), (.int .i64)], d_sparseref16q_Bounds⟩
theorem ok30 : OkFun E F30 :=
 OkFun.of (fn := Try.f30) (rs := [.tmp 2, .tmp 3]) ((43, F43) :: (37, F37) :: []) [(1, (.ptr .imm (.st (.pr (.slc .bor (.slc .bor (.int .i64))) .nil)))), (5, (.slc .imm (.int .i64))), (6, (.slc .imm (.int .i64)))] [(5, 15000), (6, 15001)] (.keep [0] (.two .none (.leaf) (.two .none (.two .none (.leaf) (.two .none (.leaf) (.two .none (.two .none (.leaf) (.leaf)) (.leaf)))) (.two .none (.leaf) (.two .none (.leaf) (.leaf)))))) Try.func30 (by kernel_rfl) (by kernel_rfl) (by kernel_rfl) Try.call30 (tbl_cons ok43 (tbl_cons ok37 tbl_nil)) (by intro a; kernel_rfl)
noncomputable def F44 : Fun := ⟨44, [.v (.slc .bor (.slc .bor (.int .i64))), .v (.slc .bor (.slc .bor (.int .i64)))], [.bool], d_sparsekit_Lists⟩
theorem ok44 : OkFun E F44 :=
 OkFun.of (fn := Try.f44) (rs := [.tmp 4]) ((18, F18) :: []) [] [] (.keep [0, 1] (.two .none (.leaf) (.two .none (.two .none (.leaf) (.two .none (.two .none (.leaf) (.leaf)) (.leaf))) (.two .none (.two .none (.leaf) (.one (.loop ⟨[(5, .v (.int .i64))], []⟩ (.xr 0 ⟨[], []⟩) (.two .none (.two .none (.leaf) (.two .none (.leaf) (.leaf))) (.two .none (.one (.two .none (.draw [⟨0, [17], [0], [], [], []⟩, ⟨1, [18], [5], [], [], []⟩, ⟨2, [19], [17, 18], [0, 1], [], []⟩, ⟨3, [20], [19], [2], [], []⟩, ⟨4, [21], [1], [], [], []⟩, ⟨5, [22], [5], [], [], []⟩, ⟨6, [23], [21, 22], [4, 5], [], []⟩, ⟨7, [24], [23], [6], [], []⟩, ⟨8, [25], [20, 24], [3, 7], [], []⟩, ⟨9, [26], [25], [8], [], []⟩]) (.two .none (.two .none (.leaf) (.leaf)) (.leaf)))) (.leaf)))))) (.two .none (.leaf) (.leaf)))))) Try.func44 (by kernel_rfl) (by kernel_rfl) (by kernel_rfl) Try.call44 (tbl_cons ok18 tbl_nil) (by intro a; kernel_rfl)
noncomputable def F31 : Fun := ⟨31, [.v (.st (.pr (.slc .bor (.slc .bor (.int .i64))) .nil)), .v (.st (.pr (.slc .bor (.slc .bor (.int .i64))) .nil))], [.bool], d_sparsekit_Graph⟩
theorem ok31 : OkFun E F31 :=
 OkFun.of (fn := Try.f31) (rs := [.tmp 4]) ((44, F44) :: []) [(2, (.ptr .imm (.st (.pr (.slc .bor (.slc .bor (.int .i64))) .nil)))), (3, (.ptr .imm (.st (.pr (.slc .bor (.slc .bor (.int .i64))) .nil))))] [] (.keep [0, 1] (.two .none (.leaf) (.two .none (.leaf) (.leaf)))) Try.func31 (by kernel_rfl) (by kernel_rfl) (by kernel_rfl) Try.call31 (tbl_cons ok44 tbl_nil) (by intro a; kernel_rfl)
noncomputable def F7 : Fun := ⟨7, [.v (.st (.pr (.slc .bor (.slc .bor (.int .i64))) .nil)), .v (.slc .bor (.int .i64))], [.bool], d_sparselaw16q_MindegAny⟩
theorem ok7 : OkFun E F7 :=
 OkFun.of (fn := Try.f7) (rs := [.tmp 4]) ((31, F31) :: (30, F30) :: (29, F29) :: (28, F28) :: (27, F27) :: (26, F26) :: (25, F25) :: (18, F18) :: (17, F17) :: (16, F16) :: (15, F15) :: (14, F14) :: (10, F10) :: []) [(2, (.ptr .imm (.st (.pr (.slc .bor (.slc .bor (.int .i64))) .nil)))), (5, (.st (.pr (.slc .imm (.slc .imm (.int .i64))) .nil))), (6, (.slc .imm (.int .i64))), (8, (.slc .imm (.int .i64))), (18, (.slc .imm (.int .i64))), (20, (.slc .imm (.int .i64)))] [(6, 36000), (8, 41000), (18, 67000), (20, 73000)] (.keep [0, 1] (.two .none (.leaf) (.two (.xr [2] ⟨[], []⟩) (.two (.x [] ⟨[(29, .v .bool)], []⟩) (.leaf) (.two .none (.two .none (.leaf) (.leaf)) (.leaf))) (.two .none (.leaf) (.two .none (.leaf) (.two .none (.leaf) (.two .none (.leaf) (.two .none (.leaf) (.two .none (.leaf) (.two .none (.leaf) (.two .none (.leaf) (.two .none (.leaf) (.two .none (.leaf) (.leaf)))))))))))))) Try.func7 (by kernel_rfl) (by kernel_rfl) (by kernel_rfl) Try.call7 (tbl_cons ok31 (tbl_cons ok30 (tbl_cons ok29 (tbl_cons ok28 (tbl_cons ok27 (tbl_cons ok26 (tbl_cons ok25 (tbl_cons ok18 (tbl_cons ok17 (tbl_cons ok16 (tbl_cons ok15 (tbl_cons ok14 (tbl_cons ok10 tbl_nil))))))))))))) (by intro a; kernel_rfl)
end Go.Fw
end
section
namespace Go.Fw
theorem getElem?_ext_lt {α : Type} {a b : List α} (hl : a.length = b.length) (h : ∀ k, k < a.length → a[k]? = b[k]?) : a = b := by
 apply List.ext_getElem?
 intro k
 rcases Nat.lt_or_ge k a.length with h1 | h1
 ·exact h k h1
 ·rw [List.getElem?_eq_none h1, List.getElem?_eq_none (by omega)]
theorem Ints_eq (a b : List Int) (ha : a.length < 4611686018427387904) : d_sparsekit_Ints (a, b, ()) = some (a == b, ()) := by
 rw [← Ok.eq_iff]
 unfold d_sparsekit_Ints
 simp only [Ok.bif_iff, Ok.bind_iff, Ok.some_iff]
 refine ⟨fun h => ?_, fun h => ?_⟩
 ·simp at h
  have : a ≠ b := fun e => h (by rw [e])
  simp [this]
 ·simp at h
  have hl : a.length = b.length := by omega
  refine Ok.for (i0 := 0) a.length (fun i _ => ∀ k, k < i → a[k]? = b[k]?) rfl (by simp) (Nat.zero_le _) ?_ ?_
  ·intro i t _ hi hI
   simp only [Ok.bif_iff, Ok.bind_iff, Ok.some_iff, Ok.getN_iff]
   refine ⟨fun _ => ⟨hi, by omega, fun hne => ?_, fun he => ?_⟩, fun hf => ?_⟩
   ·simp at hne
    have : a ≠ b := fun e => hne (by simp [e])
    simp [this]
   ·refine ⟨wrap_succ (by omega), fun k hk => ?_⟩
    rcases Nat.lt_or_ge k i with h1 | h1
    ·exact hI k h1
    ·obtain rfl : k = i := by omega
     simp at he
     rw [List.getElem?_eq_getElem hi, List.getElem?_eq_getElem (by omega), he]
   ·simp at hf; omega
  ·intro t hI
   simp only [Ok.bif_iff, Ok.bind_iff, Ok.some_iff]
   refine ⟨fun hf => by simp at hf, fun _ => ?_⟩
   simp [getElem?_ext_lt hl hI]
theorem Lists_eq (a b : List (List Int)) (ha : a.length < 4611686018427387904) (hb : ∀ x ∈ a, x.length < 4611686018427387904) : d_sparsekit_Lists (a, b, ()) = some (a == b, ()) := by
 rw [← Ok.eq_iff]
 unfold d_sparsekit_Lists
 simp only [Ok.bif_iff, Ok.bind_iff, Ok.some_iff]
 refine ⟨fun h => ?_, fun h => ?_⟩
 ·simp at h
  have : a ≠ b := fun e => h (by rw [e])
  simp [this]
 ·simp at h
  have hl : a.length = b.length := by omega
  refine Ok.for (i0 := 0) a.length (fun i _ => ∀ k, k < i → a[k]? = b[k]?) rfl (by simp) (Nat.zero_le _) ?_ ?_
  ·intro i t _ hi hI
   simp only [Ok.bif_iff, Ok.bind_iff, Ok.some_iff, Ok.getN_iff]
   refine ⟨fun _ => ⟨hi, by omega, ?_⟩, fun hf => ?_⟩
   ·rw [Ints_eq _ _ (hb _ (List.getElem_mem hi))]
    simp only [Ok.some_iff, Ok.bif_iff]
    refine ⟨fun hne => ?_, fun he => ?_⟩
    ·simp at hne
     have : a ≠ b := fun e => hne (by simp [e])
     simp [this]
    ·refine ⟨wrap_succ (by omega), fun k hk => ?_⟩
     rcases Nat.lt_or_ge k i with h1 | h1
     ·exact hI k h1
     ·obtain rfl : k = i := by omega
      simp at he
      rw [List.getElem?_eq_getElem hi, List.getElem?_eq_getElem (by omega), he]
   ·simp at hf; omega
  ·intro t hI
   simp only [Ok.bif_iff, Ok.bind_iff, Ok.some_iff]
   refine ⟨fun hf => by simp at hf, fun _ => ?_⟩
   simp [getElem?_ext_lt hl hI]
theorem take_snoc {α : Type} {a : List α} {i : Nat} (h : i < a.length) : a.take i ++ [a[i]] = a.take (i + 1) := by
 rw [List.take_add_one, List.getElem?_eq_getElem h]; rfl
theorem TwinInts_eq (a : List Int) (ha : a.length ≤ lim) : d_sparsekit_TwinInts (a, ()) = some (a, ()) := by
 rw [← Ok.eq_iff]
 unfold d_sparsekit_TwinInts
 simp only [Ok.bind_iff, Ok.some_iff]
 have hlim : lim = 4294967296 := rfl
 refine Ok.for (i0 := 0) a.length (fun i t => t.1 = a.take i) rfl rfl (Nat.zero_le _) ?_ ?_
 ·rintro i ⟨o, _⟩ _ hi rfl
  simp only [Ok.bif_iff, Ok.bind_iff, Ok.some_iff, Ok.getN_iff, Ok.limO_iff]
  refine ⟨fun _ => ⟨hi, ?_, wrap_succ (by omega), take_snoc hi⟩, fun hf => ?_⟩
  ·simp; omega
  ·simp at hf; omega
 ·rintro ⟨o, _⟩ rfl
  simp only [Ok.bif_iff, Ok.bind_iff, Ok.some_iff]
  exact ⟨fun hf => by simp at hf, fun _ => by simp⟩
theorem TwinLists_eq (a : List (List Int)) (ha : a.length ≤ lim) (hb : ∀ x ∈ a, x.length ≤ lim) : d_sparsekit_TwinLists (a, ()) = some (a, ()) := by
 rw [← Ok.eq_iff]
 unfold d_sparsekit_TwinLists
 simp only [Ok.bind_iff, Ok.some_iff]
 have hlim : lim = 4294967296 := rfl
 refine Ok.for (i0 := 0) a.length (fun i t => t.1 = a.take i) rfl rfl (Nat.zero_le _) ?_ ?_
 ·rintro i ⟨o, _⟩ _ hi rfl
  simp only [Ok.bif_iff, Ok.bind_iff, Ok.some_iff, Ok.getN_iff, Ok.limO_iff]
  refine ⟨fun _ => ⟨hi, ?_⟩, fun hf => ?_⟩
  ·rw [TwinInts_eq _ (hb _ (List.getElem_mem hi))]
   simp only [Ok.some_iff]
   exact ⟨by simp; omega, wrap_succ (by omega), take_snoc hi⟩
  ·simp at hf; omega
 ·rintro ⟨o, _⟩ rfl
  simp only [Ok.bif_iff, Ok.bind_iff, Ok.some_iff]
  exact ⟨fun hf => by simp at hf, fun _ => by simp⟩
theorem pairwise_iff {l : List Int} : l.Pairwise (· < ·) ↔ ∀ k, (h : k + 1 < l.length) → l[k] < l[k + 1] := by
 constructor
 ·intro h k hk
  exact (List.pairwise_iff_getElem.1 h) k (k + 1) (by omega) hk (by omega)
 ·intro h
  rw [List.pairwise_iff_getElem]
  have key : ∀ d i (hi : i < l.length) (hj : i + d + 1 < l.length), l[i] < l[i + d + 1] := by
   intro d
   induction d with
   | zero => intro i hi hj; exact h i hj
   | succ d ih =>
     intro i hi hj
     have h1 := ih i hi (by omega)
     have h2 := h (i + d + 1) (by omega)
     exact Int.lt_trans h1 h2
  intro i j hi hj hij
  obtain ⟨d, rfl⟩ : ∃ d, j = i + d + 1 := ⟨j - i - 1, by omega⟩
  exact key d i hi hj
theorem Ascending_eq (l : List Int) (hl : l.length < 4611686018427387904) : d_sparsekit_Ascending (l, ()) = some (decide (l.Pairwise (· < ·)), ()) := by
 rw [← Ok.eq_iff]
 unfold d_sparsekit_Ascending
 simp only [Ok.bind_iff]
 by_cases h0 : l.length = 0
 ·have : l = [] := List.length_eq_zero_iff.1 h0
  subst this
  refine Ok.loop (fun s => s = (1, ())) (fun _ => 0) rfl ?_
  rintro _ rfl
  simp [Ok.some_iff]
 ·refine Ok.for (i0 := 1) l.length (fun i _ => ∀ k, (h : k + 1 < l.length) → k + 1 < i → l[k] < l[k + 1]) rfl (fun k _ h => by omega) (by omega) ?_ ?_
  ·rintro i _ h1 hi hI
   simp only [Ok.bif_iff, Ok.bind_iff, Ok.some_iff, Ok.getN_iff]
   have e : IntKind.i64.wrap ((i : Int) - 1) = ((i - 1 : Nat) : Int) := by rw [wrap64 (by omega) (by omega)]; omega
   rw [e]
   refine ⟨fun _ => ⟨hi, ?_⟩, fun hf => ?_⟩
   ·rw [Ok.getN_iff]
    refine ⟨by omega, ?_⟩
    refine ⟨fun hle => ?_, fun hlt => ⟨wrap_succ (by omega), fun k hk hki => ?_⟩⟩
    ·have : ¬ l.Pairwise (· < ·) := fun hp => by
      have := pairwise_iff.1 hp (i - 1) (by omega)
      simp only [show i - 1 + 1 = i by omega] at this
      simp at hle; omega
     simp [this]
    ·rcases Nat.lt_or_ge (k + 1) i with h2 | h2
     ·exact hI k hk h2
     ·obtain rfl : i = k + 1 := by omega
      simp at hlt
      exact hlt
   ·simp at hf; omega
  ·intro t hI
   simp only [Ok.bif_iff, Ok.bind_iff, Ok.some_iff]
   refine ⟨fun hf => by simp at hf, fun _ => ?_⟩
   have : l.Pairwise (· < ·) := pairwise_iff.2 (fun k hk => hI k hk hk)
   simp [this]
end Go.Fw
end
section
namespace Go.Fw
def AscIn (l : List Int) (n : Int) : Prop := l.Pairwise (· < ·) ∧ ∀ x ∈ l, 0 ≤ x ∧ x < n
theorem Ok.count {σ ρ : Type} {f : σ → Option (σ ⊕ ρ)} {Q : ρ → Prop} (ix : σ → Int) (n : Nat) (I : Nat → σ → Prop) {i0 : Nat} {s0 : σ} (hix : ix s0 = (i0 : Int)) (h0 : I i0 s0) (hi : i0 ≤ n)
  (hstep : ∀ i s, i0 ≤ i → i < n → ix s = (i : Int) → I i s → Ok (f s) (fun | .inl s' => ix s' = ((i + 1 : Nat) : Int) ∧ I (i + 1) s' | .inr r => Q r))
  (hend : ∀ s, ix s = (n : Int) → I n s → Ok (f s) (fun | .inl _ => False | .inr r => Q r)) : Ok (Fw.loop f s0) Q := by
 refine Ok.loop (fun s => ∃ i : Nat, i0 ≤ i ∧ i ≤ n ∧ ix s = (i : Int) ∧ I i s) (fun s => n - (ix s).toNat) ⟨i0, Nat.le_refl _, hi, hix, h0⟩ ?_
 rintro s ⟨i, hl, hi, e, ht⟩
 rcases Nat.lt_or_ge i n with h | h
 ·refine (hstep i s hl h e ht).mono ?_
  rintro (s' | r) hy
  ·obtain ⟨e', h2⟩ := hy
   exact ⟨⟨i + 1, by omega, by omega, e', h2⟩, by rw [e, e']; simp; omega⟩
  ·exact hy
 ·obtain rfl : i = n := by omega
  refine (hend s e ht).mono ?_
  rintro (s' | r) hy
  ·exact hy.elim
  ·exact hy
open Classical in
theorem ascending_eq (l : List Int) (n : Int) (hl : l.length < 4611686018427387904) : d_graph_ascending (l, n, ()) = some (decide (AscIn l n), ()) := by
 rw [← Ok.eq_iff]
 unfold d_graph_ascending
 simp only [Ok.bind_iff]
 refine Ok.count (fun s => s.2.1) l.length (fun i s => s.1 = (if i = 0 then -1 else l.getD (i - 1) 0) ∧ (l.take i).Pairwise (· < ·) ∧ ∀ x ∈ l.take i, 0 ≤ x ∧ x < n) (i0 := 0) rfl ⟨rfl, by simp, by simp⟩ (Nat.zero_le _) ?_ ?_
 ·rintro i ⟨last, j, _⟩ _ hi e ⟨h1, h2, h3⟩
  simp only at e h1
  subst e
  simp only [Ok.bif_iff, Ok.bind_iff, Ok.some_iff, Ok.getN_iff]
  -- what is before is less than the last one, which is at least -1
  have hlast : ∀ x ∈ l.take i, x ≤ last := by
   intro x hx
   rw [h1]
   obtain ⟨k, hk, rfl⟩ := List.mem_iff_getElem.1 hx
   simp only [List.length_take] at hk
   have hi0 : i ≠ 0 := by omega
   rw [if_neg hi0]
   simp only [List.getElem_take, List.getD, List.getElem?_eq_getElem (show i - 1 < l.length by omega), Option.getD_some]
   rcases Nat.lt_or_ge k (i - 1) with h | h
   ·have := (List.pairwise_iff_getElem.1 h2) k (i - 1) (by simp; omega) (by simp; omega) h
    simp only [List.getElem_take] at this
    omega
   ·have : k = i - 1 := by omega
    subst this; exact Int.le_refl _
  have hm1 : -1 ≤ last := by
   rw [h1]
   by_cases h0 : i = 0
   ·rw [if_pos h0]; exact Int.le_refl _
   ·rw [if_neg h0]
    simp only [List.getD, List.getElem?_eq_getElem (show i - 1 < l.length by omega), Option.getD_some]
    have := h3 (l[i - 1]) (List.mem_iff_getElem.2 ⟨i - 1, by simp; omega, by simp⟩)
    omega
  have hbad : (l[i] ≤ last ∨ n ≤ l[i]) → ¬ AscIn l n := by
   rintro h ⟨p1, p2⟩
   rcases h with h | h
   ·rw [h1] at h
    by_cases h0 : i = 0
    ·rw [if_pos h0] at h
     have := p2 _ (List.getElem_mem hi); omega
    ·rw [if_neg h0] at h
     simp only [List.getD, List.getElem?_eq_getElem (show i - 1 < l.length by omega), Option.getD_some] at h
     have := (List.pairwise_iff_getElem.1 p1) (i - 1) i (by omega) hi (by omega)
     omega
   ·have := p2 _ (List.getElem_mem hi); omega
  refine ⟨fun _ => ⟨hi, fun g1 => ⟨fun g2 => ?_, fun g2 => ?_⟩, fun g1 => ?_⟩, fun hf => by simp at hf; omega⟩
  ·have := hbad (.inr (by simpa using g2))
   simp [this]
  ·simp at g1 g2
   refine ⟨wrap_succ (by omega), ?_, ?_, ?_⟩
   ·simp [List.getD, hi]
   ·rw [← take_snoc hi, List.pairwise_append]
    refine ⟨h2, by simp, fun a ha b hb => ?_⟩
    simp only [List.mem_singleton] at hb
    subst hb
    have := hlast a ha; omega
   ·rw [← take_snoc hi]
    intro x hx
    rcases List.mem_append.1 hx with hx | hx
    ·exact h3 x hx
    ·simp only [List.mem_singleton] at hx
     subst hx
     omega
  ·have := hbad (.inl (by simpa using g1))
   simp [this]
 ·rintro ⟨last, j, _⟩ e ⟨h1, h2, h3⟩
  simp only at e
  subst e
  simp only [Ok.bif_iff, Ok.some_iff]
  refine ⟨fun hf => by simp at hf, fun _ => ?_⟩
  rw [List.take_length] at h2 h3
  have : AscIn l n := ⟨h2, h3⟩
  simp [this]
theorem Less_eq (x y : Int) : d_cmp_Less_int (x, y, ()) = some (decide (x < y), ()) := by
 unfold d_cmp_Less_int d_cmp_isNaN_int
 simp
theorem wrapUq_eq (x : Int) (h1 : 0 ≤ x) (h2 : x < 18446744073709551616) : IntKind.u64.wrap x = x := by
 unfold IntKind.wrap
 rw [if_neg (by simp [IntKind.signed])]
 show x % 18446744073709551616 = x
 omega
theorem BinarySearch_eq (l : List Int) (v : Int) (hl : l.length < 4611686018427387904) (hp : l.Pairwise (· < ·)) : Ok (d_slices_BinarySearch_int_int (l, v, ())) (fun r => r.2.1 = decide (v ∈ l)) := by
 unfold d_slices_BinarySearch_int_int
 simp only [Ok.bind_iff]
 refine Ok.mono (P := fun q => ∃ i : Nat, q.1 = (i : Int) ∧ i ≤ l.length ∧ (∀ k, (h : k < l.length) → k < i → l[k] < v) ∧ (∀ k, (h : k < l.length) → i ≤ k → v ≤ l[k])) ?_ ?_
 ·refine Ok.loop (fun s => ∃ i j : Nat, s.1 = (i : Int) ∧ s.2.1 = (j : Int) ∧ i ≤ j ∧ j ≤ l.length ∧ (∀ k, (h : k < l.length) → k < i → l[k] < v) ∧ (∀ k, (h : k < l.length) → j ≤ k → v ≤ l[k])) (fun s => (s.2.1 - s.1).toNat) ⟨0, l.length, rfl, rfl, Nat.zero_le _, Nat.le_refl _, fun k _ h => by omega, fun k h1 h2 => by omega⟩ ?_
  rintro ⟨i', j', _⟩ ⟨i, j, rfl, rfl, hij, hj, h1, h2⟩
  simp only [Ok.bif_iff, Ok.bind_iff, Ok.some_iff]
  refine ⟨fun hlt => ?_, fun hge => ?_⟩
  ·have hlt : i < j := by simpa using hlt
   have e1 : IntKind.i64.wrap ((i : Int) + j) = (i : Int) + j := wrap64 (by omega) (by omega)
   rw [e1, wrapUq_eq _ (by omega) (by omega)]
   have hs : shrO IntKind.u64 ((i : Int) + j) 1 = some (((i + j) / 2 : Nat) : Int) := by
    unfold shrO
    rw [if_pos (by omega)]
    congr 1
    show ((i : Int) + j).fdiv (2 ^ min 1 64) = _
    rw [show (2 : Int) ^ min 1 64 = 2 from rfl, Int.fdiv_eq_ediv_of_nonneg _ (by omega)]
    omega
   rw [hs]
   simp only [Ok.some_iff]
   have e2 : IntKind.i64.wrap (((i + j) / 2 : Nat) : Int) = (((i + j) / 2 : Nat) : Int) := wrap64 (by omega) (by omega)
   rw [e2, Ok.getN_iff]
   refine ⟨by omega, ?_⟩
   rw [Less_eq]
   simp only [Ok.some_iff, Ok.bif_iff]
   have hh : (i + j) / 2 < l.length := by omega
   refine ⟨fun hlv => ?_, fun hlv => ?_⟩
   ·have hlv : l[(i + j) / 2] < v := by simpa using hlv
    rw [wrap_succ (by omega)]
    refine ⟨⟨(i + j) / 2 + 1, j, rfl, rfl, by omega, hj, fun k hk hki => ?_, h2⟩, by omega⟩
    rcases Nat.lt_or_ge k ((i + j) / 2) with h | h
    ·exact Int.lt_trans ((List.pairwise_iff_getElem.1 hp) k _ hk hh h) hlv
    ·have : k = (i + j) / 2 := by omega
     subst this; exact hlv
   ·have hlv : v ≤ l[(i + j) / 2] := by simpa using hlv
    refine ⟨⟨i, (i + j) / 2, rfl, rfl, by omega, by omega, h1, fun k hk hki => ?_⟩, by omega⟩
    rcases Nat.lt_or_ge ((i + j) / 2) k with h | h
    ·have := (List.pairwise_iff_getElem.1 hp) _ k hh hk h; omega
    ·have : k = (i + j) / 2 := by omega
     subst this; exact hlv
  ·have hij' : i = j := by have : ¬ i < j := by simpa using hge
                           omega
   subst hij'
   exact ⟨i, rfl, hj, h1, h2⟩
 ·rintro ⟨i', _⟩ ⟨i, rfl, hi, h1, h2⟩
  simp only
  have hno : (∀ h : i < l.length, l[i] ≠ v) → v ∉ l := by
   intro hne hm
   obtain ⟨k, hk, rfl⟩ := List.mem_iff_getElem.1 hm
   rcases Nat.lt_trichotomy k i with h | h | h
   ·have := h1 k hk h; omega
   ·subst h; exact hne hk rfl
   ·have a1 := h2 i (by omega) (Nat.le_refl _)
    have a2 := (List.pairwise_iff_getElem.1 hp) i k (by omega) hk h
    omega
  simp only [Ok.bif_iff, Ok.bind_iff, Ok.some_iff, Ok.getN_iff]
  refine ⟨fun hlt => ?_, fun hge => ?_⟩
  ·have hlt : i < l.length := by simpa using hlt
   refine ⟨hlt, fun hne => ?_, fun heq => ?_⟩
   ·have hne : l[i] ≠ v := by simpa using hne
    refine ⟨hlt, ?_⟩
    unfold d_slices_isNaN_int
    simp [Ok.some_iff]
    exact hno (fun _ => hne)
   ·have heq : l[i] = v := by simpa using heq
    simp [← heq]
  ·have hge : ¬ i < l.length := by simpa using hge
   simp
   exact hno (fun h => absurd h hge)
structure Valid (adj : List (List Int)) : Prop where
 asc : ∀ v, (h : v < adj.length) → AscIn adj[v] adj.length
 irr : ∀ v, (h : v < adj.length) → (v : Int) ∉ adj[v]
 sym : ∀ v, (h : v < adj.length) → ∀ w : Nat, (hw : w < adj.length) → (w : Int) ∈ adj[v] → (v : Int) ∈ adj[w]
open Classical in
noncomputable def chk (adj : List (List Int)) : Int := if 200 < adj.length then 6 else if Valid adj then 0 else 1
open Classical in
theorem joined_eq (adj : List (List Int)) (v : Nat) (w : Int) (hv : v < adj.length) (hl : adj[v].length < 4611686018427387904) (hp : adj[v].Pairwise (· < ·)) : d_graph_joined ((adj, ()), (v : Int), w, ()) = some (decide (w ∈ adj[v]), ()) := by
 rw [← Ok.eq_iff]
 unfold d_graph_joined
 simp only [Ok.bind_iff, Ok.getN_iff]
 refine ⟨hv, (BinarySearch_eq _ _ hl hp).mono ?_⟩
 rintro ⟨i, b, _⟩ h
 simp only at h
 rw [Ok.some_iff, h]
theorem Check_eq (adj : List (List Int)) (hc : ∀ l ∈ adj, l.length < 4611686018427387904) : d_graph_Check ((adj, ()), ()) = some (chk adj, ()) := by
 classical
 rw [← Ok.eq_iff]
 unfold d_graph_Check
 simp only [Ok.bif_iff, Ok.bind_iff, Ok.some_iff]
 refine ⟨fun h => ?_, fun h => ?_⟩
 ·have : 200 < adj.length := by simp at h; omega
  simp [chk, this]
 have hn : ¬ 200 < adj.length := by simp at h; omega
 have hbad : ¬ Valid adj → (1 : Int) = chk adj := fun h => by simp [chk, hn, h]
 refine Ok.mono (P := fun q => (q = .inr (1, ()) ∧ ¬ Valid adj) ∨ (q = .inl () ∧ ∀ k, (h : k < adj.length) → AscIn adj[k] adj.length ∧ (k : Int) ∉ adj[k])) ?_ ?_
 ·refine Ok.for (i0 := 0) adj.length (fun i _ => ∀ k, k < i → (h : k < adj.length) → AscIn adj[k] adj.length ∧ (k : Int) ∉ adj[k]) rfl (fun k hk => by omega) (Nat.zero_le _) ?_ ?_
  ·rintro i _ _ hi hI
   simp only [Ok.bif_iff, Ok.bind_iff, Ok.some_iff, Ok.getN_iff]
   refine ⟨fun _ => ⟨hi, ?_⟩, fun hf => by simp at hf; omega⟩
   rw [ascending_eq _ _ (hc _ (List.getElem_mem hi))]
   simp only [Ok.some_iff]
   refine ⟨fun ha => ?_, fun ha => .inl ⟨trivial, fun hv => ?_⟩⟩
   ·have ha : AscIn adj[i] adj.length := by simpa using ha
    rw [joined_eq adj i i hi (hc _ (List.getElem_mem hi)) ha.1]
    simp only [Ok.some_iff, Ok.bif_iff]
    refine ⟨fun hj => .inl ⟨trivial, fun hv => hv.irr i hi (by simpa using hj)⟩, fun hj => ⟨wrap_succ (by omega), fun k hk hkl => ?_⟩⟩
    rcases Nat.lt_or_ge k i with h2 | h2
    ·exact hI k h2 hkl
    ·obtain rfl : k = i := by omega
     exact ⟨ha, by simpa using hj⟩
   ·have := hv.asc i hi
    simp [this] at ha
  ·intro t hI
   simp only [Ok.bif_iff, Ok.some_iff]
   exact ⟨fun hf => by simp at hf, fun _ => .inr ⟨trivial, fun k hk => hI k hk hk⟩⟩
 ·rintro q (⟨rfl, hv⟩ | ⟨rfl, hA⟩)
  ·simp only [Ok.some_iff, hbad hv]
  simp only [Ok.bind_iff]
  have hsym : (∀ v, (h : v < adj.length) → ∀ x ∈ adj[v], ∀ w : Nat, x = (w : Int) → (hw : w < adj.length) → (v : Int) ∈ adj[w]) → Valid adj := fun h => ⟨fun v hv => (hA v hv).1, fun v hv => (hA v hv).2, fun v hv w hw hm => h v hv w hm w rfl hw⟩
  refine Ok.mono (P := fun q => (q = .inr (1, ()) ∧ ¬ Valid adj) ∨ (q = .inl () ∧ ∀ v, (h : v < adj.length) → ∀ x ∈ adj[v], ∀ w : Nat, x = (w : Int) → (hw : w < adj.length) → (v : Int) ∈ adj[w])) ?_ ?_
  ·refine Ok.for (i0 := 0) adj.length (fun i _ => ∀ v, v < i → (h : v < adj.length) → ∀ x ∈ adj[v], ∀ w : Nat, x = (w : Int) → (hw : w < adj.length) → (v : Int) ∈ adj[w]) rfl (fun k hk => by omega) (Nat.zero_le _) ?_ ?_
   ·rintro i _ _ hi hI
    simp only [Ok.bif_iff, Ok.bind_iff, Ok.getN_iff]
    refine ⟨fun _ => ⟨hi, ?_⟩, fun hf => by simp at hf; omega⟩
    have hli := hc _ (List.getElem_mem hi)
    refine Ok.mono (P := fun q => (q = .inr (.inr (.inr (1, ()))) ∧ ¬ Valid adj) ∨ (q = .inl () ∧ ∀ x ∈ adj[i], ∀ w : Nat, x = (w : Int) → (hw : w < adj.length) → (i : Int) ∈ adj[w])) ?_ ?_
    ·refine Ok.for (i0 := 0) adj[i].length (fun k _ => ∀ m, m < k → (h : m < adj[i].length) → ∀ w : Nat, adj[i][m] = (w : Int) → (hw : w < adj.length) → (i : Int) ∈ adj[w]) rfl (fun k hk => by omega) (Nat.zero_le _) ?_ ?_
     ·rintro k _ _ hk hK
      simp only [Ok.bif_iff, Ok.bind_iff, Ok.getN_iff]
      refine ⟨fun _ => ⟨hk, ?_⟩, fun hf => by simp at hf; omega⟩
      have hr := (hA i hi).1.2 _ (List.getElem_mem hk)
      obtain ⟨w, hw⟩ : ∃ w : Nat, adj[i][k] = (w : Int) := ⟨adj[i][k].toNat, by omega⟩
      have hwl : w < adj.length := by omega
      rw [hw, joined_eq adj w i hwl (hc _ (List.getElem_mem hwl)) (hA w hwl).1.1]
      simp only [Ok.some_iff, Ok.bif_iff]
      refine ⟨fun hno => .inl ⟨trivial, fun hv => ?_⟩, fun hyes => ⟨wrap_succ (by omega), fun m hm hml w' hw' hw'l => ?_⟩⟩
      ·have := hv.sym i hi w hwl (hw ▸ List.getElem_mem hk)
       simp [this] at hno
      ·rcases Nat.lt_or_ge m k with h2 | h2
       ·exact hK m h2 hml w' hw' hw'l
       ·obtain rfl : m = k := by omega
        have : w' = w := by omega
        subst this
        simpa using hyes
     ·intro t hK
      simp only [Ok.bif_iff, Ok.some_iff]
      refine ⟨fun hf => by simp at hf, fun _ => .inr ⟨trivial, fun x hx w hw hwl => ?_⟩⟩
      obtain ⟨m, hm, rfl⟩ := List.mem_iff_getElem.1 hx
      exact hK m hm hm w hw hwl
    ·rintro q (⟨rfl, hv⟩ | ⟨rfl, hX⟩)
     ·simp only [Ok.some_iff]
      exact .inl ⟨trivial, hv⟩
     ·simp only [Ok.some_iff]
      refine ⟨wrap_succ (by omega), fun v hv hvl => ?_⟩
      rcases Nat.lt_or_ge v i with h2 | h2
      ·exact hI v h2 hvl
      ·obtain rfl : v = i := by omega
       exact hX
   ·intro t hI
    simp only [Ok.bif_iff, Ok.some_iff]
    exact ⟨fun hf => by simp at hf, fun _ => .inr ⟨trivial, fun k hk => hI k hk hk⟩⟩
  ·rintro q (⟨rfl, hv⟩ | ⟨rfl, hX⟩)
   ·simp only [Ok.some_iff, hbad hv]
   ·simp only [Ok.some_iff]
    simp [chk, hn, hsym hX]
end Go.Fw
end
section
namespace Go.Fw
def Nb (adj : List (List Int)) (v w : Nat) : Prop := ∃ h : v < adj.length, (w : Int) ∈ adj[v]
theorem Nb.lt {adj : List (List Int)} (hv : Valid adj) {v w : Nat} (h : Nb adj v w) : v < adj.length ∧ w < adj.length := by
 obtain ⟨h1, h2⟩ := h
 have := (hv.asc v h1).2 _ h2
 exact ⟨h1, by omega⟩
theorem Nb.symm {adj : List (List Int)} (hv : Valid adj) : ∀ v w, Nb adj v w → Nb adj w v := fun v w h => by
 obtain ⟨h1, h2⟩ := h.lt hv
 exact ⟨h2, hv.sym v h1 w h2 h.2⟩
theorem Nb.ne {adj : List (List Int)} (hv : Valid adj) {v w : Nat} (h : Nb adj v w) : v ≠ w := fun e => by
 subst e
 exact hv.irr v h.1 h.2
inductive Up (R : Nat → Nat → Prop) : Nat → Nat → Prop
 | refl (u : Nat) : Up R u u
 | step {u p v : Nat} : R u p → Up R p v → Up R u v
section
variable (adj : List (List Int))
variable {adj} {j : Nat} {T : Nat → Prop} {par ah : List Int}
end
end Go.Fw
end
section
namespace Go.Fw
theorem sorted_filter (p : Nat → Bool) (k : Nat) : (((List.range k).filter p).map fun (j : Nat) => (j : Int)).Pairwise (· < ·) := by
 rw [List.pairwise_map]
 refine List.Pairwise.filter _ ?_
 exact (List.pairwise_lt_range).imp (fun h => by omega)
end Go.Fw
end
section
namespace Go.Fw
theorem In_eq (l : List Int) (v : Int) (hl : l.length < 4611686018427387904) : d_sparsekit_In (l, v, ()) = some (decide (v ∈ l), ()) := by
 rw [← Ok.eq_iff]
 unfold d_sparsekit_In
 simp only [Ok.bind_iff]
 refine Ok.for (i0 := 0) l.length (fun i _ => v ∉ l.take i) rfl (by simp) (Nat.zero_le _) ?_ ?_
 ·rintro i _ _ hi hI
  simp only [Ok.bif_iff, Ok.bind_iff, Ok.some_iff, Ok.getN_iff]
  refine ⟨fun _ => ⟨hi, fun he => ?_, fun hne => ⟨wrap_succ (by omega), ?_⟩⟩, fun hf => by simp at hf; omega⟩
  ·have he : l[i] = v := by simpa using he
   have : v ∈ l := he ▸ List.getElem_mem hi
   simp [this]
  ·rw [← take_snoc hi, List.mem_append]
   have hne : ¬ l[i] = v := by simpa using hne
   rintro (h | h)
   ·exact hI h
   ·exact hne (List.mem_singleton.1 h).symm
 ·rintro _ hI
  simp only [Ok.bif_iff, Ok.some_iff]
  refine ⟨fun hf => by simp at hf, fun _ => ?_⟩
  rw [List.take_length] at hI
  simp [hI]
def bitT (t : List (List Bool)) (v w : Nat) : Bool := (t.getD v []).getD w false
theorem bitT_get {t : List (List Bool)} {v w : Nat} (hv : v < t.length) (hw : w < t[v].length) : bitT t v w = t[v][w] := by
 unfold bitT
 simp [List.getD, hv, hw]
end Go.Fw
end
section
namespace Go.Fw
theorem getN_some {α : Type} {xs : List α} {i : Nat} {y : α} (h : xs[i]? = some y) : getI xs (i : Int) = some y := by
 unfold getI; rw [if_pos (by omega), Int.toNat_natCast, h]
end Go.Fw
end
section
namespace Go.Fw
theorem Valid_iff (adj : List (List Int)) : Valid adj ↔ ∀ v, (h : v < adj.length) → adj[v].Pairwise (· < ·) ∧ ∀ k, (hk : k < adj[v].length) → (0 ≤ adj[v][k] ∧ adj[v][k] < adj.length) ∧ adj[v][k] ≠ (v : Int) ∧ (v : Int) ∈ adj.getD (adj[v][k]).toNat [] := by
 constructor
 ·rintro ⟨h1, h2, h3⟩ v hv
  refine ⟨(h1 v hv).1, fun k hk => ?_⟩
  have hr := (h1 v hv).2 _ (List.getElem_mem hk)
  refine ⟨hr, fun e => h2 v hv (e ▸ List.getElem_mem hk), ?_⟩
  have hw : (adj[v][k]).toNat < adj.length := by omega
  have := h3 v hv _ hw (by rw [Int.toNat_of_nonneg hr.1]; exact List.getElem_mem hk)
  rw [List.getD, List.getElem?_eq_getElem hw]
  exact this
 ·intro h
  refine ⟨fun v hv => ⟨(h v hv).1, fun x hx => ?_⟩, fun v hv hm => ?_, fun v hv w hw hm => ?_⟩
  ·obtain ⟨k, hk, rfl⟩ := List.mem_iff_getElem.1 hx
   exact ((h v hv).2 k hk).1
  ·obtain ⟨k, hk, e⟩ := List.mem_iff_getElem.1 hm
   exact ((h v hv).2 k hk).2.1 e
  ·obtain ⟨k, hk, e⟩ := List.mem_iff_getElem.1 hm
   have := ((h v hv).2 k hk).2.2
   rw [e, Int.toNat_natCast, List.getD, List.getElem?_eq_getElem hw] at this
   exact this
theorem refCheck_eq (adj : List (List Int)) (hc : ∀ l ∈ adj, l.length < 4611686018427387904) : d_sparseref12q_Check ((adj, ()), ()) = some (chk adj, ()) := by
 classical
 rw [← Ok.eq_iff]
 unfold d_sparseref12q_Check
 simp only [Ok.bif_iff, Ok.some_iff, Ok.bind_iff]
 refine ⟨fun h => ?_, fun h => ?_⟩
 ·have : 200 < adj.length := by simp at h; omega
  simp [chk, this]
 have hn : ¬ 200 < adj.length := by simp at h; omega
 refine Ok.mono (P := fun q => (q = .inl () ∧ Valid adj) ∨ (q = .inr (1, ()) ∧ ¬ Valid adj)) ?_ ?_
 rotate_left
 ·rintro _ (⟨rfl, hv⟩ | ⟨rfl, hv⟩)
  ·simp only [Ok.some_iff]; simp [chk, hn, hv]
  ·simp only [Ok.some_iff]; simp [chk, hn, hv]
 refine Ok.for (i0 := 0) adj.length (fun i _ => ∀ v, (h : v < adj.length) → v < i → adj[v].Pairwise (· < ·) ∧ ∀ k, (hk : k < adj[v].length) → (0 ≤ adj[v][k] ∧ adj[v][k] < adj.length) ∧ adj[v][k] ≠ (v : Int) ∧ (v : Int) ∈ adj.getD (adj[v][k]).toNat []) rfl (fun v _ h => by omega) (Nat.zero_le _) ?_ ?_
 ·rintro v _ _ hv hI
  have hvl := hc _ (List.getElem_mem hv)
  simp only [Ok.bif_iff, Ok.some_iff, Ok.bind_iff, Ok.getN_iff]
  refine ⟨fun _ => ⟨hv, ?_⟩, fun hf => by simp at hf; omega⟩
  rw [Ascending_eq _ hvl]
  simp only [Ok.some_iff]
  refine ⟨fun ha => .inr ⟨trivial, fun hV => ?_⟩, fun ha => ?_⟩
  ·have := (hV.asc v hv).1
   simp [this] at ha
  have ha : adj[v].Pairwise (· < ·) := by simpa using ha
  refine Ok.mono (P := fun q => (q = .inl () ∧ ∀ k, (hk : k < adj[v].length) → (0 ≤ adj[v][k] ∧ adj[v][k] < adj.length) ∧ adj[v][k] ≠ (v : Int) ∧ (v : Int) ∈ adj.getD (adj[v][k]).toNat []) ∨ (q = .inr (.inr (.inr (1, ()))) ∧ ¬ Valid adj)) ?_ ?_
  rotate_left
  ·rintro _ (⟨rfl, hq⟩ | ⟨rfl, hq⟩)
   ·simp only [Ok.some_iff]
    refine ⟨wrap_succ (by omega), fun u hu huv => ?_⟩
    rcases Nat.lt_or_ge u v with h | h
    ·exact hI u hu h
    ·obtain rfl : u = v := by omega
     exact ⟨ha, hq⟩
   ·simp only [Ok.some_iff]
    exact .inr ⟨trivial, hq⟩
  refine Ok.for (i0 := 0) adj[v].length (fun i _ => ∀ k, (hk : k < adj[v].length) → k < i → (0 ≤ adj[v][k] ∧ adj[v][k] < adj.length) ∧ adj[v][k] ≠ (v : Int) ∧ (v : Int) ∈ adj.getD (adj[v][k]).toNat []) rfl (fun v _ h => by omega) (Nat.zero_le _) ?_ ?_
  ·rintro k _ _ hk hI2
   have hbad : ¬ ((0 ≤ adj[v][k] ∧ adj[v][k] < adj.length) ∧ adj[v][k] ≠ (v : Int) ∧ (v : Int) ∈ adj.getD (adj[v][k]).toNat []) → ¬ Valid adj := fun h hV => h (((Valid_iff adj).1 hV v hv).2 k hk)
   simp only [Ok.bif_iff, Ok.some_iff, Ok.bind_iff, Ok.getN_iff]
   refine ⟨hv, fun _ => ⟨hv, hk, fun h1 => ⟨fun h2 => ⟨fun h3 => ?_, fun h3 => ?_⟩, fun h2 => ?_⟩, fun h1 => ?_⟩, fun hf => by simp at hf; omega⟩
   ·have hr : 0 ≤ adj[v][k] ∧ adj[v][k] < (adj.length : Int) := by simp at h1 h2; omega
    have hne : adj[v][k] ≠ (v : Int) := by simpa using h3
    rw [Ok.getI_iff]
    refine ⟨by omega, hr.1, ?_⟩
    rw [In_eq _ _ (hc _ (List.getElem_mem _))]
    have hg : adj.getD (adj[v][k]).toNat [] = adj[(adj[v][k]).toNat]'(by omega) := by
     rw [List.getD, List.getElem?_eq_getElem (by omega)]; rfl
    simp only [Ok.some_iff]
    refine ⟨fun h4 => .inr ⟨trivial, hbad ?_⟩, fun h4 => ⟨wrap_succ (by omega), fun k' hk' hkk => ?_⟩⟩
    ·rintro ⟨_, _, hm⟩
     rw [hg] at hm
     simp [hm] at h4
    ·rcases Nat.lt_or_ge k' k with h | h
     ·exact hI2 k' hk' h
     ·obtain rfl : k' = k := by omega
      refine ⟨hr, hne, ?_⟩
      rw [hg]
      simpa using h4
   ·refine .inr ⟨trivial, hbad (fun hh => hh.2.1 ?_)⟩
    simpa using h3
   ·refine .inr ⟨trivial, hbad (fun hh => ?_)⟩
    simp at h2; omega
   ·refine .inr ⟨trivial, hbad (fun hh => ?_)⟩
    simp at h1; omega
  ·rintro _ hI2
   simp only [Ok.bif_iff, Ok.some_iff, Ok.bind_iff, Ok.getN_iff]
   exact ⟨hv, fun hf => by simp at hf, fun _ => .inl ⟨trivial, fun k hk => hI2 k hk hk⟩⟩
 ·rintro _ hI
  simp only [Ok.bif_iff, Ok.some_iff]
  exact ⟨fun hf => by simp at hf, fun _ => .inl ⟨trivial, (Valid_iff adj).2 fun v hv => hI v hv hv⟩⟩
theorem nodup_iff {l : List Int} : l.Nodup ↔ ∀ i, (h : i < l.length) → l[i] ∉ l.take i := by
 unfold List.Nodup
 rw [List.pairwise_iff_getElem]
 constructor
 ·intro h i hi hm
  obtain ⟨k, hk, e⟩ := List.mem_iff_getElem.1 hm
  simp only [List.length_take] at hk
  simp only [List.getElem_take] at e
  exact h k i (by omega) hi (by omega) e
 ·intro h i j hi hj hij e
  exact h j hj (List.mem_iff_getElem.2 ⟨i, by simp; omega, by simp [e]⟩)
def tabT (adj : List (List Int)) : List (List Bool) := (List.range adj.length).map fun v => (List.range adj.length).map fun (w : Nat) => decide ((w : Int) ∈ adj.getD v [])
theorem tabT_length (adj : List (List Int)) : (tabT adj).length = adj.length := by simp [tabT]
theorem tabT_row {adj : List (List Int)} {v : Nat} (hv : v < adj.length) : (tabT adj)[v]? = some ((List.range adj.length).map fun (w : Nat) => decide ((w : Int) ∈ adj[v])) := by
 simp [tabT, hv, List.getD]
theorem Table_eq {adj : List (List Int)} (hc : ∀ l ∈ adj, l.length < 4611686018427387904) (hn : adj.length ≤ 200) (hr : ∀ v, (h : v < adj.length) → ∀ x ∈ adj[v], 0 ≤ x ∧ x < (adj.length : Int)) : d_sparseref12q_Table ((adj, ()), ()) = some (tabT adj, ()) := by
 rw [← Ok.eq_iff]
 unfold d_sparseref12q_Table
 have hlim : lim = 4294967296 := rfl
 simp only [Ok.bind_iff]
 refine Ok.mono (P := fun q => q.1 = tabT adj) ?_ (by rintro ⟨o, _⟩ h; simp only at h; simp only [Ok.some_iff]; rw [h])
 refine Ok.for (i0 := 0) adj.length (fun i t => t.1 = (tabT adj).take i) rfl (by simp) (Nat.zero_le _) ?_ ?_
 ·rintro v ⟨out, _⟩ _ hv ho
  simp only at ho
  have hvl := hc _ (List.getElem_mem hv)
  simp only [Ok.bif_iff, Ok.bind_iff, Ok.madeO_iff, Int.toNat_natCast]
  refine ⟨fun _ => ⟨⟨by omega, by omega, by omega⟩, ?_⟩, fun hf => by simp at hf; omega⟩
  refine Ok.mono (P := fun q => q.1 = out ∧ q.2.1 = (List.range adj.length).map fun (w : Nat) => decide ((w : Int) ∈ adj[v])) ?_ ?_
  ·refine Ok.for (i0 := 0) adj[v].length (fun k t => t.1 = out ∧ t.2.1 = (List.range adj.length).map fun (w : Nat) => decide ((w : Int) ∈ adj[v].take k)) rfl ⟨rfl, ?_⟩ (Nat.zero_le _) ?_ ?_
   ·apply List.ext_getElem?
    intro k
    simp [List.getElem?_replicate]
    split <;> simp_all
   ·rintro k ⟨o, row, _⟩ _ hk ⟨h1, h2⟩
    simp only at h1 h2
    have hx := hr v hv _ (List.getElem_mem hk)
    have hrl : row.length = adj.length := by rw [h2]; simp
    simp only [Ok.bif_iff, Ok.bind_iff, Ok.getN_iff, Ok.idxN_iff, Ok.atO_iff, Ok.some_iff]
    refine ⟨hv, fun _ => ⟨hv, hk, ⟨hx.1, by omega⟩, by omega, wrap_succ (by omega), h1, ?_⟩, fun hf => by simp at hf; omega⟩
    apply List.ext_getElem?
    intro u
    rw [List.getElem?_set, h2, List.getElem?_map, List.getElem?_map]
    rcases Nat.lt_or_ge u adj.length with h | h
    ·rw [List.getElem?_range h]
     simp only [Option.map_some, ← take_snoc hk, List.mem_append, List.mem_singleton, List.length_map, List.length_range]
     by_cases hu : (adj[v][k]).toNat = u
     ·rw [if_pos hu, if_pos (by omega)]
      have : (u : Int) = adj[v][k] := by omega
      simp [this]
     ·rw [if_neg hu]
      have : ¬ (u : Int) = adj[v][k] := by omega
      simp [this]
    ·rw [if_neg (by omega), List.getElem?_eq_none (by simpa using h)]; rfl
   ·rintro ⟨o, row, _⟩ ⟨h1, h2⟩
    simp only at h1 h2
    simp only [Ok.bif_iff, Ok.bind_iff, Ok.getN_iff, Ok.some_iff]
    refine ⟨hv, fun hf => by simp at hf, fun _ => ⟨h1, ?_⟩⟩
    rw [h2, List.take_length]
  ·rintro ⟨o, row, _⟩ ⟨h1, h2⟩
   simp only at h1 h2
   subst h1
   simp only [Ok.bind_iff, Ok.limO_iff, Ok.some_iff]
   refine ⟨by rw [ho]; simp; omega, wrap_succ (by omega), ?_⟩
   rw [ho, h2]
   have := tabT_row hv
   rw [List.take_add_one, this]; rfl
 ·rintro ⟨out, _⟩ ho
  simp only at ho
  simp only [Ok.bif_iff, Ok.some_iff]
  refine ⟨fun hf => by simp at hf, fun _ => ?_⟩
  rw [ho, ← tabT_length, List.take_length]
end Go.Fw
end
section
namespace Go.Fw
def fT {α : Type} (n : Nat) (f : Nat → α) : List α := (List.range n).map f
def upd {α : Type} (f : Nat → α) (i : Nat) (v : α) : Nat → α := fun j => if j = i then v else f j
section
variable {α β γ : Type}
theorem upd_same (f : Nat → α) (i : Nat) (v : α) : upd f i v i = v := if_pos rfl
theorem upd_ne (f : Nat → α) {i j : Nat} (v : α) (h : j ≠ i) : upd f i v j = f j := if_neg h
theorem fT_length (n : Nat) (f : Nat → α) : (fT n f).length = n := by simp [fT]
theorem fT_get? (n : Nat) (f : Nat → α) (i : Nat) : (fT n f)[i]? = if i < n then some (f i) else none := by
 unfold fT
 rw [List.getElem?_map]
 rcases Nat.lt_or_ge i n with h | h
 ·rw [List.getElem?_range h, if_pos h]; rfl
 ·rw [List.getElem?_eq_none (by simpa using h), if_neg (by omega)]; rfl
theorem fT_get {n : Nat} {f : Nat → α} {i : Nat} (h : i < n) : (fT n f)[i]? = some (f i) := by rw [fT_get?, if_pos h]
theorem fT_getElem {n : Nat} {f : Nat → α} {i : Nat} (h : i < (fT n f).length) : (fT n f)[i] = f i := by simp [fT]
theorem fT_congr {n : Nat} {f g : Nat → α} (h : ∀ i, i < n → f i = g i) : fT n f = fT n g := List.map_congr_left fun i hi => h i (List.mem_range.1 hi)
theorem fT_zero (f : Nat → α) : fT 0 f = [] := rfl
theorem fT_succ (n : Nat) (f : Nat → α) : fT (n + 1) f = fT n f ++ [f n] := by simp [fT, List.range_succ]
theorem fT_replicate (n : Nat) (x : α) : List.replicate n x = fT n fun _ => x := by
 apply List.ext_getElem?
 intro i
 rw [List.getElem?_replicate, fT_get?]
theorem fT_set {n : Nat} {f : Nat → α} {i : Nat} (v : α) : (fT n f).set i v = fT n (upd f i v) := by
 apply List.ext_getElem?
 intro j
 rw [List.getElem?_set, fT_get?, fT_get?, fT_length]
 unfold upd
 by_cases h : i = j
 ·subst h; simp
 ·have h' : ¬ j = i := fun e => h (Eq.symm e)
  simp only [if_neg h, if_neg h']
theorem fT_of (l : List α) (f : Nat → α) (h : ∀ i, (hi : i < l.length) → l[i] = f i) : l = fT l.length f := by
 apply List.ext_getElem?
 intro i
 rw [fT_get?]
 split
 ·rename_i hi; rw [List.getElem?_eq_getElem hi, h i hi]
 ·rename_i hi; exact List.getElem?_eq_none (by omega)
theorem idxN_nat {n i : Nat} (h : i < n) : idxN n (i : Int) = some i := by
 unfold idxN
 rw [if_pos ⟨by omega, by simpa using h⟩]; simp
theorem atO_some {xs : List α} {k : Nat} {v : α} {f : α → Option β} (h : xs[k]? = some v) : atO xs k f = f v := by unfold atO; rw [h]
theorem atO_fT {n k : Nat} {f : Nat → α} {g : α → Option β} (h : k < n) : atO (fT n f) k g = g (f k) := atO_some (fT_get h)
theorem getI_fT {n k : Nat} {f : Nat → α} (h : k < n) : getI (fT n f) (k : Int) = some (f k) := getN_some (fT_get h)
theorem limO_ok {n : Nat} (h : n ≤ 4294967296) : limO n = some () := if_pos h
theorem madeO_ok {l : Nat} (h : l ≤ 4294967296) : madeO (l : Int) (l : Int) = some l := by
 unfold madeO
 rw [if_pos ⟨by omega, by omega, by have : lim = 4294967296 := rfl; omega⟩]; simp
theorem natO_ok {i : Nat} : natO (i : Int) = some i := by unfold natO; rw [if_pos (by omega)]; simp
theorem leO_ok {a b n : Nat} (h : a ≤ b ∧ b ≤ n) : leO a b n = some () := if_pos h
theorem bneI (a b : Int) : (a != b) = !decide (a = b) := by
 by_cases h : a = b <;> simp [h]
theorem decT {p : Prop} [Decidable p] (h : p) : decide p = true := decide_eq_true h
theorem decF {p : Prop} [Decidable p] (h : ¬ p) : decide p = false := decide_eq_false h
theorem cond_dec {p : Prop} [Decidable p] {x y : α} : (bif decide p then x else y) = if p then x else y := by
 by_cases h : p <;> simp [h]
theorem cond_dec_beq {p : Prop} [Decidable p] {x y : α} : (bif decide p == true then x else y) = if p then x else y := by
 by_cases h : p <;> simp [h]
theorem cond_dec_beqF {p : Prop} [Decidable p] {x y : α} : (bif decide p == false then x else y) = if p then y else x := by
 by_cases h : p <;> simp [h]
theorem wrapN {n : Nat} (h : n < 9223372036854775808) : IntKind.i64.wrap (n : Int) = (n : Int) := wrap64 (by omega) (by omega)
theorem wrap_pred {a : Nat} (hb : 1 ≤ a) (h : a < 9223372036854775808) : IntKind.i64.wrap ((a : Int) - 1) = ((a - 1 : Nat) : Int) := by
 rw [wrap64 (by omega) (by omega)]; omega
theorem wrap_inc {a : Nat} (h : a + 1 < 9223372036854775808) : IntKind.i64.wrap ((a : Int) + 1) = ((a + 1 : Nat) : Int) := by
 rw [wrap64 (by omega) (by omega)]; omega
end
theorem Ok.bind_of {α β : Type} {x : Option α} {f : α → Option β} {P : α → Prop} {Q : β → Prop} (h : Ok x P) (hf : ∀ y, P y → Ok (f y) Q) : Ok (x.bind f) Q :=
 Ok.bind_iff.2 (h.mono hf)
theorem Ok.ite {α : Type} {p : Prop} [Decidable p] {x y : Option α} {Q : α → Prop} (h1 : p → Ok x Q) (h2 : ¬ p → Ok y Q) : Ok (if p then x else y) Q := by
 by_cases h : p
 ·rw [if_pos h]; exact h1 h
 ·rw [if_neg h]; exact h2 h
theorem bind_eq {α β : Type} {x : Option α} {k : α → Option β} {y : α} {r : Option β} (h : x = some y) (h2 : k y = r) : x.bind k = r := by rw [h]; exact h2
theorem loop_for {τ ρ : Type} {f : Int × τ → Option ((Int × τ) ⊕ ρ)} {r : ρ} {j0 : Int} {t0 : τ} (n : Nat) (I : Nat → τ) (i0 : Nat) (hj : j0 = (i0 : Int)) (ht : t0 = I i0) (hi : i0 ≤ n)
  (hstep : ∀ i, i0 ≤ i → i < n → f ((i : Int), I i) = some (.inl (((i + 1 : Nat) : Int), I (i + 1)))) (hend : f ((n : Int), I n) = some (.inr r)) : loop f (j0, t0) = some r := by
 subst hj ht
 rw [← Ok.eq_iff]
 refine Ok.for n (fun i t => t = I i) rfl rfl hi ?_ ?_
 ·rintro i _ h0 h1 rfl
  rw [hstep i h0 h1]
  exact Ok.some_iff.2 ⟨rfl, rfl⟩
 ·rintro _ rfl
  rw [hend]
  exact Ok.some_iff.2 rfl
theorem loop_index {f : Int × Unit → Option ((Int × Unit) ⊕ (Unit ⊕ (Int × Unit)))} (n : Nat) (P : Nat → Prop)
  (hstep : ∀ i, i < n → f ((i : Int), ()) = some (open Classical in if P i then .inl (((i + 1 : Nat) : Int), ()) else .inr (.inr ((i : Int), ())))) (hend : f ((n : Int), ()) = some (.inr (.inl ()))) :
  Ok (loop f (0, ())) (fun q => match q with | .inl _ => ∀ i, i < n → P i | .inr r => 0 ≤ r.1 ∧ ¬ ∀ i, i < n → P i) := by
 classical
 refine Ok.for n (fun i _ => ∀ j, j < i → P j) (i0 := 0) rfl (fun j h => by omega) (Nat.zero_le _) ?_ ?_
 ·rintro i ⟨⟩ _ h1 hI
  rw [hstep i h1]
  by_cases hp : P i
  ·rw [if_pos hp]
   refine Ok.some_iff.2 ⟨rfl, fun j h3 => ?_⟩
   rcases Nat.lt_or_ge j i with h | h
   ·exact hI j h
   ·obtain rfl : j = i := by omega
    exact hp
  ·rw [if_neg hp]
   exact Ok.some_iff.2 ⟨by show (0 : Int) ≤ (i : Int); omega, fun h => hp (h i h1)⟩
 ·rintro ⟨⟩ hI
  rw [hend]
  exact Ok.some_iff.2 hI
end Go.Fw
end
section
namespace Go.Fw
inductive WalkP (A : Nat → Nat → Prop) (P : Nat → Prop) : Nat → Nat → Prop
 | one {i j : Nat} : A i j → WalkP A P i j
 | step {i m j : Nat} : A i m → P m → WalkP A P m j → WalkP A P i j
section
variable {A : Nat → Nat → Prop} {P : Nat → Prop}
theorem WalkP.trans {i m j : Nat} (h : WalkP A P i m) (hm : P m) (h2 : WalkP A P m j) : WalkP A P i j := by
 induction h with
 | one h => exact .step h hm h2
 | step h hk _ ih => exact .step h hk (ih hm h2)
theorem WalkP.symm (hA : ∀ a b, A a b → A b a) {i j : Nat} (h : WalkP A P i j) : WalkP A P j i := by
 induction h with
 | one h => exact .one (hA _ _ h)
 | step h hk _ ih => exact ih.trans hk (.one (hA _ _ h))
theorem WalkP.mono {P' : Nat → Prop} (hP : ∀ x, P x → P' x) {i j : Nat} (h : WalkP A P i j) : WalkP A P' i j := by
 induction h with
 | one h => exact .one h
 | step h h2 _ ih => exact .step h (hP _ h2) ih
theorem WalkP.insert_iff {v i j : Nat} : WalkP A (fun x => P x ∨ x = v) i j ↔ WalkP A P i j ∨ (WalkP A P i v ∧ WalkP A P v j) := by
 constructor
 ·intro h
  induction h with
  | one h => exact .inl (.one h)
  | @step i m j h hm _ ih =>
    rcases hm with hm | rfl
    ·rcases ih with ih | ⟨ih1, ih2⟩
     ·exact .inl (.step h hm ih)
     ·exact .inr ⟨.step h hm ih1, ih2⟩
    ·rcases ih with ih | ⟨_, ih2⟩
     ·exact .inr ⟨.one h, ih⟩
     ·exact .inr ⟨.one h, ih2⟩
 ·rintro (h | ⟨h1, h2⟩)
  ·exact h.mono fun x hx => .inl hx
  ·exact (h1.mono fun x hx => .inl hx).trans (.inr rfl) (h2.mono fun x hx => .inl hx)
theorem WalkP.none {i j : Nat} : WalkP A (fun _ => False) i j ↔ A i j := by
 constructor
 ·intro h
  cases h with
  | one h => exact h
  | step _ h _ => exact h.elim
 ·exact .one
end
end Go.Fw
end
section
namespace Go.Fw
theorem sorted_ext : ∀ {a b : List Int}, a.Pairwise (· < ·) → b.Pairwise (· < ·) → (∀ x, x ∈ a ↔ x ∈ b) → a = b := by
 intro a
 induction a with
 | nil =>
   intro b _ _ h
   cases b with
   | nil => rfl
   | cons y b => exact absurd ((h y).2 (List.mem_cons_self ..)) (by simp)
 | cons x a ih =>
   intro b ha hb h
   cases b with
   | nil => exact absurd ((h x).1 (List.mem_cons_self ..)) (by simp)
   | cons y b =>
     rw [List.pairwise_cons] at ha hb
     have hxy : x = y := by
      have h1 := (h x).1 (List.mem_cons_self ..)
      have h2 := (h y).2 (List.mem_cons_self ..)
      rcases List.mem_cons.1 h1 with h1 | h1
      ·exact h1
      ·rcases List.mem_cons.1 h2 with h2 | h2
       ·exact h2.symm
       ·have := hb.1 _ h1; have := ha.1 _ h2; omega
     subst hxy
     rw [ih ha.2 hb.2]
     intro z
     have := h z
     simp only [List.mem_cons] at this
     constructor
     ·intro hz
      have h1 := ha.1 _ hz
      rcases this.1 (.inr hz) with h2 | h2
      ·omega
      ·exact h2
     ·intro hz
      have h1 := hb.1 _ hz
      rcases this.2 (.inr hz) with h2 | h2
      ·omega
      ·exact h2
structure Elim (adj : List (List Int)) (S : Nat → Prop) (T : List (List Bool)) (gone : List Bool) : Prop where
 tl : T.length = adj.length
 rows : ∀ v, (h : v < T.length) → T[v].length = adj.length
 gl : gone.length = adj.length
 gi : ∀ v, (h : v < gone.length) → (gone[v] = true ↔ S v)
 ti : ∀ u w, (hu : u < T.length) → (hw : w < T[u].length) → ¬ S u → ¬ S w → (T[u][w] = true ↔ u ≠ w ∧ WalkP (Nb adj) S u w)
def nbrV (T : List (List Bool)) (gone : List Bool) (v k : Nat) : List Int := ((List.range k).filter fun w => bitT T v w && !gone.getD w false).map fun (w : Nat) => (w : Int)
theorem mem_nbrV {adj : List (List Int)} {S : Nat → Prop} {T : List (List Bool)} {gone : List Bool} (h : Elim adj S T gone) {v w : Nat} (hv : v < adj.length) (hS : ¬ S v) :
  (w : Int) ∈ nbrV T gone v adj.length ↔ w < adj.length ∧ ¬ S w ∧ v ≠ w ∧ WalkP (Nb adj) S v w := by
 unfold nbrV
 simp only [List.mem_map, List.mem_filter, List.mem_range, Bool.and_eq_true, Bool.not_eq_true']
 have key : ∀ w, w < adj.length → ((bitT T v w = true ∧ gone.getD w false = false) ↔ ¬ S w ∧ v ≠ w ∧ WalkP (Nb adj) S v w) := by
  intro w hw
  have h1 : v < T.length := by rw [h.tl]; exact hv
  have h2 : w < T[v].length := by rw [h.rows v h1]; exact hw
  have h3 : w < gone.length := by rw [h.gl]; exact hw
  have h4 : gone.getD w false = gone[w] := by simp [List.getD, h3]
  rw [bitT_get h1 h2, h4, Bool.eq_false_iff, ne_eq, h.gi w h3]
  constructor
  ·rintro ⟨g1, g2⟩; exact ⟨g2, (h.ti v w h1 h2 hS g2).1 g1⟩
  ·rintro ⟨g1, g2⟩; exact ⟨(h.ti v w h1 h2 hS g1).2 g2, g1⟩
 constructor
 ·rintro ⟨a, ⟨h1, h2⟩, h3⟩
  obtain rfl : a = w := by omega
  exact ⟨h1, (key a h1).1 h2⟩
 ·exact fun ⟨h1, h2⟩ => ⟨w, ⟨h1, (key w h1).2 h2⟩, rfl⟩
theorem nbrV_length (T : List (List Bool)) (gone : List Bool) (v k : Nat) : (nbrV T gone v k).length ≤ k := by
 unfold nbrV
 rw [List.length_map]
 exact Nat.le_trans (List.length_filter_le _ _) (by simp)
theorem nbrV_rng {T : List (List Bool)} {gone : List Bool} {v k : Nat} {x : Int} (h : x ∈ nbrV T gone v k) : ∃ w : Nat, x = (w : Int) ∧ w < k := by
 unfold nbrV at h
 simp only [List.mem_map, List.mem_filter, List.mem_range] at h
 obtain ⟨a, ⟨h1, _⟩, h3⟩ := h
 exact ⟨a, h3.symm, h1⟩
theorem Neighbours_eq {n : Nat} {T : List (List Bool)} {gone : List Bool} (hT : T.length = n) (hr : ∀ v, (h : v < T.length) → T[v].length = n) (hg : gone.length = n) (hn : n ≤ 4294967296) {v : Nat} (hv : v < n) :
  d_sparseref16q_Elimination_Neighbours (some (T, gone, ()), (v : Int), ()) = some (nbrV T gone v n, ()) := by
 rw [← Ok.eq_iff]
 unfold d_sparseref16q_Elimination_Neighbours
 have hlim : lim = 4294967296 := rfl
 simp only [Ok.bind_iff, Ok.some_iff]
 refine Ok.mono (P := fun q => q.1 = nbrV T gone v n) ?_ (by rintro ⟨o, _⟩ h; simp only at h; rw [h])
 refine Ok.for (i0 := 0) n (fun k t => t.1 = nbrV T gone v k) rfl rfl (Nat.zero_le _) ?_ ?_
 ·rintro w ⟨o, _⟩ _ hw ho
  simp only at ho
  have hol := nbrV_length T gone v w
  simp only [Option.bind_some]
  rw [Ok.bif_iff]
  refine ⟨fun _ => ?_, fun hf => by simp at hf; omega⟩
  rw [Ok.bind_iff, Ok.bind_iff]
  have hvT : v < T.length := by omega
  have hwr : w < T[v].length := by rw [hr v hvT]; exact hw
  have hg1 : getI T (v : Int) = some T[v] := getN_some (List.getElem?_eq_getElem hvT)
  have hg2 : getI T[v] (w : Int) = some T[v][w] := getN_some (List.getElem?_eq_getElem hwr)
  have hg3 : getI gone (w : Int) = some (gone.getD w false) := getN_some (by rw [List.getElem?_eq_getElem (by omega)]; simp [List.getD, show w < gone.length by omega])
  refine Ok.mono (P := fun q => q = ((bitT T v w && !gone.getD w false), o, ())) ?_ ?_
  ·simp only [hg1, hg2, hg3, Ok.bind_iff, Ok.bif_iff, Ok.some_iff, bitT_get hvT hwr]
   refine ⟨fun h => ?_, fun h => ?_⟩
   ·have h : T[v][w] = true := by simpa using h
    rw [h]; rfl
   ·have h : T[v][w] = false := by simpa using h
    rw [h]; rfl
  ·rintro _ rfl
   simp only [Ok.bif_iff, Ok.bind_iff, Ok.some_iff, Ok.limO_iff]
   refine ⟨fun h => ⟨by rw [ho]; simp; omega, wrap_succ (by omega), ?_⟩, fun h => ⟨wrap_succ (by omega), ?_⟩⟩
   ·unfold nbrV at ho ⊢
    rw [List.range_succ, List.filter_append, List.map_append, ← ho]; simp only [List.filter_cons, List.filter_nil]; rw [if_pos h]; rfl
   ·unfold nbrV at ho ⊢
    rw [List.range_succ, List.filter_append, List.map_append, ← ho]; simp only [List.filter_cons, List.filter_nil]; rw [if_neg (by rw [h]; simp)]; simp
 ·rintro ⟨o, _⟩ ho
  simp only at ho
  simp only [Option.bind_some, Ok.bif_iff, Ok.some_iff]
  exact ⟨fun hf => by simp at hf; omega, fun _ => ho⟩
theorem bit_set {T : List (List Bool)} {k k2 : Nat} (h : k < T.length) (h2 : k2 < T[k].length) (u w : Nat) : bitT (T.set k (T[k].set k2 true)) u w = (bitT T u w || (u == k && w == k2)) := by
 unfold bitT
 simp only [List.getD, List.getElem?_set]
 by_cases hu : k = u
 ·subst hu
  rw [if_pos rfl, if_pos h, List.getElem?_eq_getElem h]
  simp only [Option.getD_some, List.getElem?_set]
  by_cases hw : k2 = w
  ·subst hw
   rw [if_pos rfl, if_pos h2]; simp
  ·rw [if_neg hw]
   have : (w == k2) = false := by rw [beq_eq_false_iff_ne]; omega
   simp [this]
 ·rw [if_neg hu]
  have : (u == k) = false := by rw [beq_eq_false_iff_ne]; omega
  simp [this]
theorem nbrV_asc (T : List (List Bool)) (gone : List Bool) (v k : Nat) : (nbrV T gone v k).Pairwise (· < ·) := sorted_filter _ _
theorem Eliminate_tab {n : Nat} {T : List (List Bool)} {gone : List Bool} (hT : T.length = n) (hr : ∀ v, (h : v < T.length) → T[v].length = n) (hg : gone.length = n) (hn : n ≤ 4294967296) {v : Nat} (hv : v < n) :
  Ok (d_sparseref16q_Elimination_Eliminate ((T, gone, ()), (v : Int), ())) (fun r => r.1.2.1 = gone.set v true ∧ r.1.1.length = n ∧ (∀ v, (h : v < r.1.1.length) → r.1.1[v].length = n) ∧
   ∀ u w, u < n → w < n → (bitT r.1.1 u w = true ↔ bitT T u w = true ∨ ((u : Int) ∈ nbrV T gone v n ∧ (w : Int) ∈ nbrV T gone v n ∧ u ≠ w))) := by
 unfold d_sparseref16q_Elimination_Eliminate
 simp only [Neighbours_eq hT hr hg hn hv, Option.bind_some]
 have hLl := nbrV_length T gone v n
 have hLr : ∀ x ∈ nbrV T gone v n, ∃ w : Nat, x = (w : Int) ∧ w < n := fun x hx => nbrV_rng hx
 have hLs := nbrV_asc T gone v n
 generalize nbrV T gone v n = L at hLl hLr hLs
 have uniq : ∀ k k' : Nat, (h : k < L.length) → (h' : k' < L.length) → L[k] = L[k'] → k = k' := fun k k' h h' e => by
  rcases Nat.lt_trichotomy k k' with g | g | g
  ·have := (List.pairwise_iff_getElem.1 hLs) k k' h h' g; omega
  ·exact g
  ·have := (List.pairwise_iff_getElem.1 hLs) k' k h' h g; omega
 simp only [Ok.bind_iff]
 refine Ok.mono (P := fun q : ((List (List Bool)) × ((List Bool) × Unit)) × Unit => q.1.2.1 = gone ∧ q.1.1.length = n ∧ (∀ v, (h : v < q.1.1.length) → q.1.1[v].length = n) ∧
   ∀ u w, u < n → w < n → (bitT q.1.1 u w = true ↔ bitT T u w = true ∨ ((u : Int) ∈ L ∧ (w : Int) ∈ L ∧ u ≠ w))) ?_ ?_
 ·refine Ok.for (i0 := 0) L.length (fun i q => q.1.2.1 = gone ∧ q.1.1.length = n ∧ (∀ v, (h : v < q.1.1.length) → q.1.1[v].length = n) ∧
   ∀ u w, u < n → w < n → (bitT q.1.1 u w = true ↔ bitT T u w = true ∨ ((u : Int) ∈ L.take i ∧ (w : Int) ∈ L ∧ u ≠ w))) rfl ⟨rfl, hT, hr, fun u w _ _ => by simp⟩ (Nat.zero_le _) ?_ ?_
  ·rintro i ⟨⟨T1, g1, _⟩, _⟩ _ hi ⟨h1, h2, h3, h4⟩
   simp only at h1 h2 h3 h4
   simp only [Ok.bif_iff, Ok.bind_iff]
   refine ⟨fun _ => ?_, fun hf => by simp at hf; omega⟩
   refine Ok.mono (P := fun q : ((List (List Bool)) × ((List Bool) × Unit)) × Unit => q.1.2.1 = gone ∧ q.1.1.length = n ∧ (∀ v, (h : v < q.1.1.length) → q.1.1[v].length = n) ∧
    ∀ u w, u < n → w < n → (bitT q.1.1 u w = true ↔ bitT T u w = true ∨ ((u : Int) ∈ L.take (i + 1) ∧ (w : Int) ∈ L ∧ u ≠ w))) ?_ (by rintro ⟨e, _⟩ h; simp only [Ok.some_iff]; exact ⟨wrap_succ (by omega), h⟩)
   obtain ⟨a, ha, han⟩ := hLr _ (List.getElem_mem hi)
   refine Ok.for (i0 := 0) L.length (fun j q => q.1.2.1 = gone ∧ q.1.1.length = n ∧ (∀ v, (h : v < q.1.1.length) → q.1.1[v].length = n) ∧
    ∀ u w, u < n → w < n → (bitT q.1.1 u w = true ↔ bitT T u w = true ∨ ((u : Int) ∈ L.take i ∧ (w : Int) ∈ L ∧ u ≠ w) ∨ (u = a ∧ (w : Int) ∈ L.take j ∧ u ≠ w))) rfl ⟨h1, h2, h3, fun u w hu hw => by rw [h4 u w hu hw]; simp⟩ (Nat.zero_le _) ?_ ?_
   ·rintro j ⟨⟨T2, g2, _⟩, _⟩ _ hj ⟨k1, k2, k3, k4⟩
    simp only at k1 k2 k3 k4
    obtain ⟨b, hb, hbn⟩ := hLr _ (List.getElem_mem hj)
    have ga : getI L (i : Int) = some (a : Int) := getN_some (by rw [List.getElem?_eq_getElem hi, ha])
    have gb : getI L (j : Int) = some (b : Int) := getN_some (by rw [List.getElem?_eq_getElem hj, hb])
    have haT : a < T2.length := by omega
    have hbT : b < T2[a].length := by rw [k3 a haT]; exact hbn
    simp only [Ok.bif_iff, Ok.bind_iff, ga, gb, Ok.some_iff, Ok.idxN_iff, Ok.atO_iff, Ok.map_iff, Int.toNat_natCast]
    refine ⟨fun _ => ⟨fun hne => ⟨⟨by omega, haT⟩, haT, ⟨by omega, hbT⟩, haT, hbT, wrap_succ (by omega), k1, by simpa using k2, fun x hx => ?_, fun u w hu hw => ?_⟩, fun heq => ⟨wrap_succ (by omega), k1, k2, k3, fun u w hu hw => ?_⟩⟩, fun hf => by simp at hf; omega⟩
    ·rw [List.getElem_set]
     split
     ·rw [List.length_set]; exact k3 a haT
     ·exact k3 x (by simpa using hx)
    ·have hne : i ≠ j := by simp at hne; omega
     have hab : a ≠ b := fun e => hne (uniq i j hi hj (by rw [ha, hb, e]))
     rw [bit_set haT hbT, Bool.or_eq_true, k4 u w hu hw, ← take_snoc hj, hb, List.mem_append, List.mem_singleton]
     simp only [Bool.and_eq_true, beq_iff_eq]
     constructor
     ·rintro ((h | h | ⟨h, h', h''⟩) | ⟨h, h'⟩)
      ·exact .inl h
      ·exact .inr (.inl h)
      ·exact .inr (.inr ⟨h, .inl h', h''⟩)
      ·exact .inr (.inr ⟨h, .inr (by omega), by omega⟩)
     ·rintro (h | h | ⟨h, h' | h', h''⟩)
      ·exact .inl (.inl h)
      ·exact .inl (.inr (.inl h))
      ·exact .inl (.inr (.inr ⟨h, h', h''⟩))
      ·exact .inr ⟨h, by omega⟩
    ·have hij : i = j := by simp at heq; omega
     have hab : a = b := by
      subst hij
      rw [ha] at hb; omega
     rw [k4 u w hu hw, ← take_snoc hj, hb, List.mem_append, List.mem_singleton]
     constructor
     ·rintro (h | h | ⟨h, h', h''⟩)
      ·exact .inl h
      ·exact .inr (.inl h)
      ·exact .inr (.inr ⟨h, .inl h', h''⟩)
     ·rintro (h | h | ⟨h, h' | h', h''⟩)
      ·exact .inl h
      ·exact .inr (.inl h)
      ·exact .inr (.inr ⟨h, h', h''⟩)
      ·omega
   ·rintro ⟨⟨T2, g2, _⟩, _⟩ ⟨k1, k2, k3, k4⟩
    simp only at k1 k2 k3 k4
    simp only [Ok.bif_iff, Ok.some_iff]
    refine ⟨fun hf => by simp at hf, fun _ => ⟨k1, k2, k3, fun u w hu hw => ?_⟩⟩
    rw [k4 u w hu hw, List.take_length, ← take_snoc hi, ha, List.mem_append, List.mem_singleton]
    constructor
    ·rintro (h | ⟨h, h', h''⟩ | ⟨h, h', h''⟩)
     ·exact .inl h
     ·exact .inr ⟨.inl h, h', h''⟩
     ·exact .inr ⟨.inr (by omega), h', h''⟩
    ·rintro (h | ⟨h | h, h', h''⟩)
     ·exact .inl h
     ·exact .inr (.inl ⟨h, h', h''⟩)
     ·exact .inr (.inr ⟨by omega, h', h''⟩)
  ·rintro ⟨⟨T1, g1, _⟩, _⟩ ⟨h1, h2, h3, h4⟩
   simp only at h1 h2 h3 h4
   simp only [Ok.bif_iff, Ok.some_iff]
   refine ⟨fun hf => by simp at hf, fun _ => ⟨h1, h2, h3, fun u w hu hw => ?_⟩⟩
   rw [h4 u w hu hw, List.take_length]
 ·rintro ⟨⟨T1, g1, _⟩, _⟩ ⟨h1, h2, h3, h4⟩
  simp only at h1 h2 h3 h4
  subst h1
  simp only [Ok.bind_iff, Ok.idxN_iff, Ok.atO_iff, Ok.some_iff, Ok.map_iff, Int.toNat_natCast]
  exact ⟨⟨by omega, by omega⟩, by omega, trivial, h2, h3, h4⟩
theorem Eliminate_ok {adj : List (List Int)} (hV : Valid adj) (hn : adj.length ≤ 4294967296) {S : Nat → Prop} {T : List (List Bool)} {gone : List Bool} (h : Elim adj S T gone) {v : Nat} (hv : v < adj.length) (hS : ¬ S v) :
  Ok (d_sparseref16q_Elimination_Eliminate ((T, gone, ()), (v : Int), ())) (fun r => Elim adj (fun x => S x ∨ x = v) r.1.1 r.1.2.1) := by
 refine (Eliminate_tab h.tl h.rows h.gl hn hv).mono ?_
 rintro ⟨⟨T1, g1, _⟩, _⟩ ⟨h1, h2, h3, h4⟩
 simp only at h1 h2 h3 h4 ⊢
 subst h1
 have hs := Nb.symm hV
 refine ⟨h2, h3, by rw [List.length_set]; exact h.gl, fun x hx => ?_, fun u w hu hw hSu hSw => ?_⟩
 ·rw [List.getElem_set]
  by_cases hxv : v = x
  ·rw [if_pos hxv]; simp [hxv]
  ·rw [if_neg hxv, h.gi]
   constructor
   ·exact .inl
   ·rintro (g | g)
    ·exact g
    ·exact absurd g.symm hxv
 ·have hul : u < adj.length := by omega
  have hwl : w < adj.length := by rw [h3 u hu] at hw; exact hw
  have := h4 u w hul hwl
  rw [bitT_get hu hw] at this
  have huT : u < T.length := by rw [h.tl]; exact hul
  have hwT : w < T[u].length := by rw [h.rows u huT]; exact hwl
  have nu : ¬ S u := fun g => hSu (.inl g)
  have nw : ¬ S w := fun g => hSw (.inl g)
  have uv : v ≠ u := fun g => hSu (.inr g.symm)
  have wv : v ≠ w := fun g => hSw (.inr g.symm)
  rw [this, bitT_get huT hwT, h.ti u w huT hwT nu nw, mem_nbrV h hv hS, mem_nbrV h hv hS, WalkP.insert_iff]
  constructor
  ·rintro (⟨g1, g2⟩ | ⟨⟨_, _, _, g2⟩, ⟨_, _, _, g4⟩, g5⟩)
   ·exact ⟨g1, .inl g2⟩
   ·exact ⟨g5, .inr ⟨g2.symm hs, g4⟩⟩
  ·rintro ⟨g1, g2 | ⟨g2, g3⟩⟩
   ·exact .inl ⟨g1, g2⟩
   ·exact .inr ⟨⟨hul, nu, uv, g2.symm hs⟩, ⟨hwl, nw, wv, g3⟩, g1⟩
theorem Begin_ok {adj : List (List Int)} (hV : Valid adj) (hc : ∀ l ∈ adj, l.length < 4611686018427387904) (hn : adj.length ≤ 200) :
  Ok (d_sparseref16q_Begin ((adj, ()), ())) (fun r => Elim adj (fun _ => False) r.1.1 r.1.2.1) := by
 unfold d_sparseref16q_Begin
 have hlim : lim = 4294967296 := rfl
 simp only [Table_eq hc hn (fun v hv => (hV.asc v hv).2), Option.bind_some, Ok.bind_iff, Ok.madeO_iff, Ok.some_iff, Int.toNat_natCast]
 refine ⟨⟨by omega, by omega, by omega⟩, tabT_length adj, fun v h => ?_, by simp, fun v h => by simp, fun u w hu hw _ _ => ?_⟩
 ·simp [tabT]
 ·rw [WalkP.none]
  have hul : u < adj.length := by rw [tabT_length] at hu; exact hu
  have hwl : w < adj.length := by simp [tabT] at hw; exact hw
  have e : (tabT adj)[u][w] = decide ((w : Int) ∈ adj[u]) := by simp [tabT, List.getD, hul]
  rw [e, decide_eq_true_eq]
  constructor
  ·exact fun hm => ⟨Nb.ne hV ⟨hul, hm⟩, hul, hm⟩
  ·exact fun hm => hm.2.2
end Go.Fw
end
section
namespace Go.Fw
theorem asc_ge {l : List Int} (h : l.Pairwise (· < ·)) (h0 : ∀ x ∈ l, 0 ≤ x) : ∀ k, (hk : k < l.length) → (k : Int) ≤ l[k] := by
 intro k
 induction k with
 | zero => intro hk; exact h0 _ (List.getElem_mem hk)
 | succ k ih =>
   intro hk
   have h1 := ih (by omega)
   have h2 := pairwise_iff.1 h k hk
   omega
theorem AscIn.length {l : List Int} {n : Nat} (h : AscIn l n) : l.length ≤ n := by
 rcases Nat.eq_zero_or_pos l.length with h0 | h0
 ·omega
 ·have h1 := asc_ge h.1 (fun x hx => (h.2 x hx).1) (l.length - 1) (by omega)
  have h2 := (h.2 _ (List.getElem_mem (show l.length - 1 < l.length by omega))).2
  omega
theorem Valid.rows {adj : List (List Int)} (hV : Valid adj) : ∀ l ∈ adj, l.length ≤ adj.length := by
 intro l hl
 obtain ⟨v, hv, rfl⟩ := List.mem_iff_getElem.1 hl
 exact (hV.asc v hv).length
theorem Valid.hc {adj : List (List Int)} (hV : Valid adj) (hn : adj.length ≤ 200) : ∀ l ∈ adj, l.length < 4611686018427387904 := fun l hl => by
 have := hV.rows l hl; omega
theorem chk_zero {adj : List (List Int)} : chk adj = 0 ↔ adj.length ≤ 200 ∧ Valid adj := by
 unfold chk
 by_cases h : 200 < adj.length
 ·rw [if_pos h]; constructor
  ·intro h; omega
  ·intro h; omega
 ·rw [if_neg h]
  by_cases h2 : Valid adj
  ·rw [if_pos h2]; exact ⟨fun _ => ⟨by omega, h2⟩, fun _ => rfl⟩
  ·rw [if_neg h2]; exact ⟨fun h => by omega, fun h => absurd h.2 h2⟩
end Go.Fw
end
section
namespace Go.Fw
noncomputable def cnt (P : Nat → Prop) : Nat → Nat
 | 0 => 0
 | k + 1 => cnt P k + (open Classical in if P k then 1 else 0)
section
variable {P Q : Nat → Prop} {k : Nat}
end
def PF (n : Nat) (f : Nat → Int) : Prop := ∀ j, j < n → f j = -1 ∨ ((j : Int) < f j ∧ f j < n)
def RelF (n : Nat) (f : Nat → Int) (u p : Nat) : Prop := u < n ∧ f u = (p : Int)
def Sub (n : Nat) (f : Nat → Int) (u v : Nat) : Prop := Up (RelF n f) u v
section
variable {n : Nat} {f : Nat → Int} (hf : PF n f)
include hf
noncomputable def sz (n : Nat) (f : Nat → Int) (v : Nat) : Nat := cnt (fun u => Sub n f u v) n
end
end Go.Fw
end
section
namespace Go.Fw
section
variable {adj : List (List Int)} (hV : Valid adj) (hn : adj.length ≤ 200)
include hV hn
end
def nxI (starts : List Int) (n k : Nat) : Int := (starts[k + 1]?).getD n
section
variable {n : Nat} {f : Nat → Int} (hf : PF n f) (hn : n ≤ 200)
include hf hn
end
end Go.Fw
end
section
namespace Go.Fw
structure PN (n : Nat) (f : Nat → Int) (starts : List Int) (m : Nat) (s e : Nat → Nat) : Prop where
 len : starts.length = m
 st : starts = fT m fun k => (s k : Int)
 s0 : 0 < n → 0 < m ∧ s 0 = 0
 mz : n = 0 → m = 0
 ok : ∀ k, k < m → s k < e k ∧ e k ≤ n ∧ e k ≤ s k + sz n f (e k - 1)
 nx : ∀ k, k < m → nxI starts n k = (e k : Int)
 ek : ∀ k, k + 1 < m → e k = s (k + 1)
 el : ∀ k, k + 1 = m → e k = n
section
variable {adj : List (List Int)} (hV : Valid adj) (hn : adj.length ≤ 200)
include hV hn
end
end Go.Fw
end
section
namespace Go.Fw
abbrev FrT := Int × (Int × (List Int × (Int × Unit)))
section
variable {n : Nat} {f : Nat → Int} {starts : List Int} {m : Nat} {s e : Nat → Nat} (hP : PN n f starts m s e)
include hP
end
section
variable {adj : List (List Int)} (hV : Valid adj) (hn : adj.length ≤ 200)
include hV hn
end
end Go.Fw
end
section
namespace Go.Fw
def cE (l : List FrT) : Nat → Nat
 | 0 => 0
 | k + 1 => ((l[k]?).map fun (x : FrT) => x.2.1.toNat).getD 0
end Go.Fw
end
section
namespace Go.Fw
def natL (l : List Nat) : List Int := l.map fun (x : Nat) => (x : Int)
theorem natL_append (a b : List Nat) : natL (a ++ b) = natL a ++ natL b := by simp [natL]
theorem natL_length (a : List Nat) : (natL a).length = a.length := by simp [natL]
section
variable {n : Nat} {f : Nat → Int} (hf : PF n f) (hn : n ≤ 200)
include hf hn
end
end Go.Fw
end
section
namespace Go.Fw
theorem getD_lt {α : Type} {l : List α} {i : Nat} (h : i < l.length) (d : α) : l.getD i d = l[i] := by
 simp only [List.getD, List.getElem?_eq_getElem h, Option.getD_some]
section
variable {adj : List (List Int)} (hV : Valid adj) (hn : adj.length ≤ 200)
include hV hn
end
end Go.Fw
end
section
namespace Go.Fw
structure SOrd {α : Type} (lt : α → α → Bool) : Prop where
 asym : ∀ a b, lt a b = true → lt b a = false
 trans : ∀ a b c, lt b a = false → lt c b = false → lt c a = false
theorem SOrd.int : SOrd (fun a b : Int => decide (a < b)) := ⟨fun a b h => by simp at h ⊢; omega, fun a b c h1 h2 => by simp at h1 h2 ⊢; omega⟩
def InsI {α : Type} (lt : α → α → Bool) (g : Nat → α) (i j : Nat) : Prop := ∀ p q, p < q → q ≤ i → q ≠ j → lt (g q) (g p) = false
def SortedI {α : Type} (lt : α → α → Bool) (g : Nat → α) (k : Nat) : Prop := ∀ p q, p < q → q < k → lt (g q) (g p) = false
def swp {α : Type} (g : Nat → α) (j : Nat) : Nat → α := upd (upd g j (g (j - 1))) (j - 1) (g j)
theorem swp_at {α : Type} (g : Nat → α) {j : Nat} (k : Nat) : swp g j k = if k = j - 1 then g j else if k = j then g (j - 1) else g k := rfl
theorem InsI.swp {α : Type} {lt : α → α → Bool} (h : SOrd lt) {g : Nat → α} {i j : Nat} (hI : InsI lt g i j) (hj : 0 < j) (hji : j ≤ i) (hl : lt (g j) (g (j - 1)) = true) : InsI lt (swp g j) i (j - 1) := by
 intro p q hpq hq hne
 rw [swp_at, swp_at, if_neg hne]
 by_cases h1 : q = j
 ·subst h1
  rw [if_pos rfl]
  by_cases h2 : p = q - 1
  ·rw [if_pos h2]; exact h.asym _ _ hl
  ·rw [if_neg h2, if_neg (by omega)]; exact hI p (q - 1) (by omega) (by omega) (by omega)
 ·rw [if_neg h1]
  by_cases h2 : p = j - 1
  ·rw [if_pos h2]; exact hI j q (by omega) hq h1
  ·rw [if_neg h2]
   by_cases h3 : p = j
   ·rw [if_pos h3]; exact hI (j - 1) q (by omega) hq h1
   ·rw [if_neg h3]; exact hI p q hpq hq h1
theorem InsI.done {α : Type} {lt : α → α → Bool} (h : SOrd lt) {g : Nat → α} {i j : Nat} (hI : InsI lt g i j) (hji : j ≤ i) (hl : j = 0 ∨ lt (g j) (g (j - 1)) = false) : SortedI lt g (i + 1) := by
 intro p q hpq hq
 by_cases h1 : q = j
 ·subst h1
  rcases hl with hl | hl
  ·omega
  ·by_cases h2 : p = q - 1
   ·subst h2; exact hl
   ·exact h.trans _ _ _ (hI p (q - 1) (by omega) (by omega) (by omega)) hl
 ·exact hI p q hpq (by omega) h1
theorem swp_perm {α : Type} {n : Nat} {g : Nat → α} {j : Nat} (hj : 0 < j) (hn : j < n) : (fT n (swp g j)).Perm (fT n g) := by
 have h1 : j < (fT n g).length := by rw [fT_length]; exact hn
 have h2 : j - 1 < (fT n g).length := by rw [fT_length]; omega
 have := List.set_set_perm h1 h2
 rw [fT_getElem, fT_getElem, fT_set, fT_set] at this
 exact this
theorem fT_self {α : Type} [Inhabited α] (l : List α) : l = fT l.length (fun i => l[i]?.getD default) := fT_of l _ (fun i hi => by simp [hi])
theorem insertion_ok (l : List Int) (hl : l.length ≤ 1000) : Ok (d_slices_insertionSortOrdered_int (l, 0, (l.length : Int), ())) (fun r => ∃ g, r.1 = fT l.length g ∧ SortedI (fun a b => decide (a < b)) g l.length ∧ r.1.Perm l) := by
 unfold d_slices_insertionSortOrdered_int
 simp only []
 generalize hn : l.length = n at *
 have h0 : IntKind.i64.wrap (0 + 1) = ((1 : Nat) : Int) := by rw [wrap64] <;> omega
 rw [h0]
 rcases Nat.eq_zero_or_pos n with hz | hpos
 ·subst hz
  refine Ok.bind_of (P := fun r => r.1 = l) ?_ ?_
  ·refine Ok.loop (fun s => s = (((1 : Nat) : Int), l, ())) (fun _ => 0) rfl ?_
   rintro _ rfl
   simp only [cond_dec]
   rw [if_neg (by omega)]
   exact Ok.some_iff.2 rfl
  ·rintro ⟨r, _⟩ rfl
   refine Ok.some_iff.2 ⟨fun _ => 0, ?_, fun p q h1 h2 => by omega, List.Perm.refl _⟩
   show r = []
   exact List.eq_nil_of_length_eq_zero hn
 refine Ok.bind_of (P := fun r => ∃ g, r.1 = fT n g ∧ SortedI (fun a b => decide (a < b)) g n ∧ r.1.Perm l) ?_ (fun r hr => Ok.some_iff.2 hr)
 refine Ok.for n (fun i t => ∃ g, t = (fT n g, ()) ∧ SortedI (fun a b => decide (a < b)) g i ∧ (fT n g).Perm l) rfl ⟨fun i => l[i]?.getD default, ?_, fun p q h1 h2 => by omega, ?_⟩ hpos ?_ ?_
 ·rw [← hn, ← fT_self]
 ·rw [← hn, ← fT_self]
 ·rintro i _ h1 h2 ⟨g, rfl, hS, hP⟩
  simp only [cond_dec]
  rw [if_pos (by omega)]
  refine Ok.bind_of (P := fun r => ∃ g, r = (fT n g, ()) ∧ SortedI (fun a b => decide (a < b)) g (i + 1) ∧ (fT n g).Perm l) ?_ ?_
  ·refine Ok.loop (fun s => ∃ (j : Nat) (g : Nat → Int), s = ((j : Int), fT n g, ()) ∧ j ≤ i ∧ InsI (fun a b => decide (a < b)) g i j ∧ (fT n g).Perm l) (fun s => s.1.toNat) ⟨i, g, rfl, Nat.le_refl _, fun p q hpq hq hne => hS p q hpq (by omega), hP⟩ ?_
   rintro _ ⟨j, g, rfl, hj, hI, hP⟩
   simp only [cond_dec_beq]
   by_cases hj0 : 0 < j
   ·have hj1 : j - 1 < n := by omega
    have hj2 : j < n := by omega
    simp (disch := omega) only [if_pos, fT_length, wrap_pred, idxN_nat, atO_fT, Option.bind_some, Less_eq, cond_dec]
    by_cases hlt : g j < g (j - 1)
    ·rw [if_pos hlt]
     simp (disch := omega) only [Option.bind_some, fT_length, wrap_pred, idxN_nat, atO_fT, fT_set]
     refine Ok.some_iff.2 ⟨⟨j - 1, swp g j, rfl, by omega, hI.swp SOrd.int hj0 hj (by simpa using hlt), (swp_perm hj0 hj2).trans hP⟩, ?_⟩
     show ((j - 1 : Nat) : Int).toNat < ((j : Nat) : Int).toNat
     omega
    ·rw [if_neg hlt]
     exact Ok.some_iff.2 ⟨g, rfl, hI.done SOrd.int hj (.inr (by simpa using hlt)), hP⟩
   ·rw [if_neg (by omega)]
    exact Ok.some_iff.2 ⟨g, rfl, hI.done SOrd.int hj (.inl (by omega)), hP⟩
  ·rintro _ ⟨g, rfl, hS, hP⟩
   simp (disch := omega) only [wrap_inc]
   exact Ok.some_iff.2 ⟨rfl, g, rfl, hS, hP⟩
 ·rintro _ ⟨g, rfl, hS, hP⟩
  simp only [cond_dec]
  rw [if_neg (by omega)]
  exact Ok.some_iff.2 ⟨g, rfl, hS, hP⟩
theorem SortedI.pairwise {g : Nat → Int} {n : Nat} (h : SortedI (fun a b => decide (a < b)) g n) : (fT n g).Pairwise (· ≤ ·) := by
 rw [List.pairwise_iff_getElem]
 intro i j hi hj hij
 rw [fT_getElem, fT_getElem]
 have := h i j hij (by simpa [fT_length] using hj)
 simpa using this
theorem Len_ok (n : Nat) (hn : n ≤ 12) : ∃ b, d_math_bits_Len ((n : Int), ()) = some (b, ()) := by
 have : n = 0 ∨ n = 1 ∨ n = 2 ∨ n = 3 ∨ n = 4 ∨ n = 5 ∨ n = 6 ∨ n = 7 ∨ n = 8 ∨ n = 9 ∨ n = 10 ∨ n = 11 ∨ n = 12 := by omega
 rcases this with rfl | rfl | rfl | rfl | rfl | rfl | rfl | rfl | rfl | rfl | rfl | rfl | rfl
 ·exact ⟨0, by kernel_rfl⟩
 ·exact ⟨1, by kernel_rfl⟩
 ·exact ⟨2, by kernel_rfl⟩
 ·exact ⟨2, by kernel_rfl⟩
 ·exact ⟨3, by kernel_rfl⟩
 ·exact ⟨3, by kernel_rfl⟩
 ·exact ⟨3, by kernel_rfl⟩
 ·exact ⟨3, by kernel_rfl⟩
 ·exact ⟨4, by kernel_rfl⟩
 ·exact ⟨4, by kernel_rfl⟩
 ·exact ⟨4, by kernel_rfl⟩
 ·exact ⟨4, by kernel_rfl⟩
 ·exact ⟨4, by kernel_rfl⟩
theorem pdq_small (l : List Int) (b : Int) (hl : l.length ≤ 12) : Ok (d_slices_pdqsortOrdered_int (l, 0, (l.length : Int), b, ())) (fun r => r.1.Pairwise (· ≤ ·) ∧ r.1.Perm l) := by
 obtain ⟨r, hr, g, hg, hS, hP⟩ := insertion_ok l (by omega)
 refine ⟨r, ?_, by rw [hg]; exact hS.pairwise, hP⟩
 unfold d_slices_pdqsortOrdered_int
 show fixO (deep r_slices_pdqsortOrdered_intq_s) _ = some r
 rw [fixO_iff r_slices_pdqsortOrdered_intq_mono]
 refine ⟨1, ?_⟩
 have e1 : deep r_slices_pdqsortOrdered_intq_s 1 (l, 0, (l.length : Int), b, ()) = r_slices_pdqsortOrdered_intq_s (deep r_slices_pdqsortOrdered_intq_s 0) (l, 0, (l.length : Int), b, ()) := rfl
 rw [e1]
 unfold r_slices_pdqsortOrdered_intq_s
 dsimp only
 rw [loop_unfold]
 dsimp only
 have hw : IntKind.i64.wrap ((l.length : Int) - 0) = ((l.length : Nat) : Int) := by rw [Int.sub_zero]; exact wrapN (by omega)
 simp only [hw, cond_dec]
 rw [if_pos (by omega), hr]
 rfl
theorem Sort_ok (l : List Int) (hl : l.length ≤ 12) : Ok (d_slices_Sort_int_int (l, ())) (fun r => r.1.Pairwise (· ≤ ·) ∧ r.1.Perm l) := by
 unfold d_slices_Sort_int_int
 simp only []
 rw [wrapUq_eq _ (by omega) (by omega)]
 obtain ⟨b, hb⟩ := Len_ok l.length hl
 rw [hb]
 simp only [Option.bind_some]
 exact Ok.bind_of (pdq_small l b hl) (fun r hr => Ok.some_iff.2 hr)
end Go.Fw
end
section
namespace Go.Fw
open Go
theorem compact_lt {ys : List Int} (hs : ys.Pairwise (· ≤ ·)) : (Lib.compact ys).length < ys.length ↔ ¬ ys.Nodup := by
 have hlen : (Lib.compact ys).length = ((List.range ys.length).filter (Lib.keeps ys.toArray)).length := by simp [Lib.compact, Lib.compactUpTo]
 have hadj : (∀ j, j < ys.length → Lib.keeps ys.toArray j = true) ↔ ys.Nodup := by
  have hk : ∀ j, (h : j < ys.length) → (Lib.keeps ys.toArray j = true ↔ j = 0 ∨ ys[j] ≠ ys[j - 1]) := fun j h => by
   have h2 : j - 1 < ys.length := by omega
   simp [Lib.keeps, h, h2]
  constructor
  ·intro h
   have hlt : ys.Pairwise (· < ·) := by
    rw [pairwise_iff]
    intro k hk2
    have h1 := (hk (k + 1) hk2).1 (h _ hk2)
    have h2 := List.pairwise_iff_getElem.1 hs k (k + 1) (by omega) hk2 (by omega)
    have h3 : ys[k + 1] ≠ ys[k] := by rcases h1 with h1 | h1; omega; exact h1
    omega
   exact hlt.imp (fun h => by omega)
  ·intro h j hj
   rw [hk j hj]
   by_cases h0 : j = 0
   ·exact .inl h0
   ·refine .inr fun e => ?_
    have := (List.getElem_inj h).1 e
    omega
 rw [← hadj, hlen]
 have hle := List.length_filter_le (Lib.keeps ys.toArray) (List.range ys.length)
 rw [List.length_range] at hle
 constructor
 ·intro h h2
  rw [List.filter_eq_self.2 (fun j hj => h2 j (List.mem_range.1 hj)), List.length_range] at h
  omega
 ·intro h
  rcases Nat.lt_or_ge ((List.range ys.length).filter (Lib.keeps ys.toArray)).length ys.length with h1 | h1
  ·exact h1
  ·refine absurd (fun j hj => ?_) h
   have e : ((List.range ys.length).filter (Lib.keeps ys.toArray)).length = (List.range ys.length).length := by rw [List.length_range]; omega
   exact List.length_filter_eq_length_iff.1 e j (List.mem_range.2 hj)
theorem twice_eq (l : List Int) (hl : l.length ≤ 12) : d_graph_twice (l, ()) = some (decide (¬ l.Nodup), ()) := by
 obtain ⟨r, hr, hs, hp⟩ := Sort_ok l hl
 have hlen := hp.length_eq
 unfold d_graph_twice twSem
 simp only [hr, Option.map_some, Option.bind_some]
 rw [show Nat.ble l.length 1000000 = true from Nat.ble_eq_true_of_le (by omega)]
 simp only [cond_true]
 rw [show Nat.ble r.1.length 1000000 = true from Nat.ble_eq_true_of_le (by omega)]
 simp only [cond_true, Option.map_some]
 have e : decide ((Lib.compact r.1).length < l.length) = decide (¬ l.Nodup) := by
  rw [decide_eq_decide, ← hlen, compact_lt hs, hp.nodup_iff]
 rw [e]
def mT (n : Nat) (B : Nat → Nat → Bool) : List (List Bool) := fT n fun v => fT n (B v)
theorem mT_length (n : Nat) (B : Nat → Nat → Bool) : (mT n B).length = n := fT_length n _
theorem mT_congr {n : Nat} {B B' : Nat → Nat → Bool} (h : ∀ v w, v < n → w < n → B v w = B' v w) : mT n B = mT n B' := fT_congr fun v hv => fT_congr fun w hw => h v w hv hw
theorem NewSets_eq (n : Nat) (hn : n ≤ 4294967296) : d_graph_NewSets ((n : Int), ()) = some (mT n fun _ _ => false, ()) := by
 unfold d_graph_NewSets
 simp only []
 rw [madeO_ok hn]
 simp only [Option.bind_some]
 refine bind_eq (y := (mT n fun _ _ => false, ())) (loop_for n (fun i => (fT n (fun v => if v < i then List.replicate n false else []), ())) 0 rfl ?_ (Nat.zero_le _) ?_ ?_) rfl
 ·rw [fT_replicate]; simp
 ·intro i _ hi
  simp (disch := omega) only [fT_length, List.length_replicate, cond_dec, if_pos, Option.bind_some, idxN_nat, atO_fT, fT_set, wrap_inc]
  congr 4
  refine fT_congr fun v hv => ?_
  simp only [upd]
  by_cases h : v = i
  ·subst h; rw [if_pos rfl, if_pos (by omega)]
  ·rw [if_neg h]
   by_cases h2 : v < i
   ·rw [if_pos h2, if_pos (by omega)]
   ·rw [if_neg h2, if_neg (by omega)]
 ·simp only [List.length_replicate, cond_dec]
  rw [if_neg (by omega)]
  congr 2
  refine congrArg (·, ()) (fT_congr fun v hv => ?_)
  rw [if_pos hv, fT_replicate]
theorem Join_eq {n : Nat} {B : Nat → Nat → Bool} {i j : Nat} (hi : i < n) (hj : j < n) :
  d_graph_Sets_Join (mT n B, (i : Int), (j : Int), ()) = some (mT n (fun a b => B a b || (decide (i ≠ j) && ((decide (a = i) && decide (b = j)) || (decide (a = j) && decide (b = i))))), ()) := by
 unfold d_graph_Sets_Join
 simp only [bneI]
 by_cases h : i = j
 ·subst h
  simp only [decide_true, Bool.not_true, cond_false]
  congr 2
  exact mT_congr fun a b _ _ => by simp
 ·rw [decF (show ¬ ((i : Int) = (j : Int)) by omega)]
  unfold mT
  simp (disch := omega) only [Bool.not_false, cond_true, fT_length, idxN_nat, Option.bind_some, atO_fT, Option.map_some, fT_set]
  rw [show upd (fun v => fT n (B v)) i (fT n (upd (B i) j true)) j = fT n (B j) from upd_ne _ _ (fun e => h e.symm)]
  simp (disch := omega) only [fT_length, idxN_nat, Option.bind_some, atO_fT, Option.map_some, fT_set]
  congr 2
  refine fT_congr fun a ha => ?_
  simp only [upd]
  by_cases h1 : a = j
  ·rw [if_pos h1, h1]
   refine fT_congr fun b hb => ?_
   simp only [upd]
   have h' : ¬ j = i := fun e => h e.symm
   by_cases h2 : b = i
   ·simp [h2, h', h]
   ·simp [h2, h', h]
  ·rw [if_neg h1]
   by_cases h3 : a = i
   ·subst h3
    rw [if_pos rfl]
    refine fT_congr fun b hb => ?_
    simp only [upd]
    by_cases h2 : b = j
    ·simp [h2, h]
    ·simp [h2, h1]
   ·rw [if_neg h3]
    refine fT_congr fun b hb => ?_
    simp [h1, h3]
theorem List_eq {n : Nat} (hn : n ≤ 4294967296) {B : Nat → Nat → Bool} {v : Nat} (hv : v < n) : d_graph_Sets_List (mT n B, (v : Int), ()) = some (natL ((List.range n).filter (B v)), ()) := by
 unfold d_graph_Sets_List
 simp only []
 rw [show getI (mT n B) (v : Int) = some (fT n (B v)) from getI_fT hv]
 simp only [Option.bind_some]
 refine bind_eq (y := (natL ((List.range n).filter (B v)), ())) (loop_for n (fun i => (natL ((List.range i).filter (B v)), ())) 0 rfl rfl (Nat.zero_le _) ?_ ?_) rfl
 ·intro i _ hi
  have hlen : (natL ((List.range i).filter (B v))).length ≤ i := by rw [natL_length]; have := List.length_filter_le (B v) (List.range i); simpa using this
  have hs : natL ((List.range (i + 1)).filter (B v)) = if B v i = true then natL ((List.range i).filter (B v)) ++ [(i : Int)] else natL ((List.range i).filter (B v)) := by
   rw [List.range_succ, List.filter_append, natL_append]
   by_cases h : B v i = true <;> simp [h, natL]
  simp (disch := omega) only [fT_length, cond_dec, if_pos, getI_fT, Option.bind_some, wrap_inc]
  rw [hs]
  by_cases h : B v i = true
  ·rw [if_pos h, h, limO_ok (by simp only [List.length_singleton]; omega)]; rfl
  ·rw [if_neg h, Bool.eq_false_iff.2 h]; rfl
 ·simp only [fT_length, cond_dec]
  rw [if_neg (by omega)]
end Go.Fw
end
section
namespace Go.Fw
open Go
def IsPerm (l : List Int) (n : Nat) : Prop := l.length = n ∧ (∀ x ∈ l, 0 ≤ x ∧ x < (n : Int)) ∧ l.Nodup
open Classical in
theorem Perm_eq (l : List Int) (n : Nat) (hn : n ≤ 4294967296) : d_sparsekit_Perm (l, (n : Int), ()) = some (decide (IsPerm l n), ()) := by
 unfold d_sparsekit_Perm
 simp only [bneI]
 by_cases hl : l.length = n
 ·rw [decT (show (((l.length : Nat) : Int) = (n : Int)) by omega)]
  simp only [Bool.not_true, cond_false, madeO_ok hn, Option.bind_some, fT_replicate]
  rw [← Ok.eq_iff]
  refine Ok.bind_of (P := fun q => match q with | .inl _ => IsPerm l n | .inr r => r = (false, ()) ∧ ¬ IsPerm l n) ?_ ?_
  ·refine Ok.for n (fun i t => t = (fT n (fun v => decide ((v : Int) ∈ l.take i)), ()) ∧ (∀ k, (h : k < l.length) → k < i → 0 ≤ l[k] ∧ l[k] < (n : Int)) ∧ (l.take i).Nodup) (i0 := 0) rfl ⟨by simp, fun k _ h => by omega, by simp⟩ (Nat.zero_le _) ?_ ?_
   ·rintro i _ _ hi ⟨rfl, hr, hd⟩
    have hil : i < l.length := by omega
    have hg : getI l (i : Int) = some l[i] := getN_some (List.getElem?_eq_getElem hil)
    have hmem : l[i] ∈ l := List.getElem_mem hil
    simp (disch := omega) only [cond_dec, if_pos, hg, Option.bind_some, cond_dec_beqF]
    by_cases c1 : l[i] < 0
    ·rw [if_pos c1]
     exact Ok.some_iff.2 ⟨rfl, fun h => by have := h.2.1 _ hmem; omega⟩
    rw [if_neg c1]
    by_cases c2 : l[i] ≥ (n : Int)
    ·rw [if_pos c2]
     exact Ok.some_iff.2 ⟨rfl, fun h => by have := h.2.1 _ hmem; omega⟩
    rw [if_neg c2]
    obtain ⟨x, hx⟩ : ∃ x : Nat, l[i] = (x : Int) := ⟨l[i].toNat, by omega⟩
    have hxn : x < n := by omega
    rw [hx]
    simp (disch := omega) only [fT_length, idxN_nat, Option.bind_some, atO_fT, cond_dec]
    by_cases c3 : (x : Int) ∈ l.take i
    ·rw [if_pos c3]
     refine Ok.some_iff.2 ⟨rfl, fun h => ?_⟩
     obtain ⟨m, hm1, hm2⟩ := List.mem_iff_getElem.1 c3
     simp only [List.length_take] at hm1
     simp only [List.getElem_take] at hm2
     have := (List.getElem_inj h.2.2).1 (hm2.trans hx.symm)
     omega
    rw [if_neg c3]
    simp (disch := omega) only [Option.bind_some, hg, hx, fT_length, idxN_nat, atO_fT, fT_set, wrap_inc]
    have ht : l.take (i + 1) = l.take i ++ [(x : Int)] := by rw [← take_snoc hil, hx]
    refine Ok.some_iff.2 ⟨rfl, ?_, fun k hk hki => ?_, ?_⟩
    ·show ((_, ()) : _ × Unit) = _
     refine congrArg (·, ()) (fT_congr fun v _ => ?_)
     simp only [upd]
     rw [ht]
     by_cases h : v = x
     ·subst h
      rw [if_pos rfl, decT (List.mem_append_right _ (List.mem_singleton_self _))]
     ·rw [if_neg h, decide_eq_decide, List.mem_append, List.mem_singleton]
      exact ⟨.inl, fun h' => h'.resolve_right (by omega)⟩
    ·by_cases h : k = i
     ·subst h; omega
     ·exact hr k hk (by omega)
    ·rw [ht, List.nodup_append]
     refine ⟨hd, by simp, fun a ha b hb e => ?_⟩
     rw [List.mem_singleton] at hb
     rw [e, hb] at ha; exact c3 ha
   ·rintro _ ⟨rfl, hr, hd⟩
    simp (disch := omega) only [cond_dec, if_neg]
    refine Ok.some_iff.2 ⟨hl, fun y hy => ?_, ?_⟩
    ·obtain ⟨m, hm, rfl⟩ := List.mem_iff_getElem.1 hy
     exact hr m hm (by omega)
    ·rw [List.take_of_length_le (by omega)] at hd; exact hd
  ·rintro (q | q) hq
   ·exact Ok.some_iff.2 (by rw [decT (show IsPerm l n from hq)])
   ·exact Ok.some_iff.2 (by rw [hq.1, decF hq.2])
 ·rw [decF (show ¬ (((l.length : Nat) : Int) = (n : Int)) by omega)]
  simp only [Bool.not_false, cond_true]
  rw [decF (fun h => hl h.1)]
noncomputable def permE (adj : List (List Int)) (o : List Int) : Int := open Classical in if chk adj ≠ 0 then chk adj else if o.length ≠ adj.length then 2 else if IsPerm o adj.length then 0 else 90
theorem vertex_eq (adj : List (List Int)) (v : Int) : d_graph_vertex ((adj, ()), v, ()) = some (decide (0 ≤ v ∧ v < (adj.length : Int)), ()) := by
 unfold d_graph_vertex
 simp only [cond_dec_beq]
 by_cases h : v ≥ 0
 ·rw [if_pos h]
  congr 2
  exact decide_eq_decide.2 ⟨fun h2 => ⟨h, h2⟩, fun h2 => h2.2⟩
 ·rw [if_neg h, decF (fun h2 => h h2.1)]
theorem outside_eq (adj : List (List Int)) (o : List Int) (ho : o.length < 4611686018427387904) : d_slices_ContainsFunc_int_int_q0 (o, ((some (adj, ())), ()), ()) = some (decide (¬ ∀ x ∈ o, 0 ≤ x ∧ x < (adj.length : Int)), ()) := by
 classical
 unfold d_slices_ContainsFunc_int_int_q0 d_slices_IndexFunc_int_int_q0
 simp only []
 rw [← Ok.eq_iff]
 have hall : (∀ x ∈ o, 0 ≤ x ∧ x < (adj.length : Int)) ↔ ∀ i, i < o.length → ∀ h : i < o.length, 0 ≤ o[i] ∧ o[i] < (adj.length : Int) :=
  ⟨fun h i _ hi => h _ (List.getElem_mem hi), fun h x hx => by obtain ⟨i, hi, rfl⟩ := List.mem_iff_getElem.1 hx; exact h i hi hi⟩
 refine Ok.bind_of (P := fun r => decide (r.1 ≥ 0) = decide (¬ ∀ x ∈ o, 0 ≤ x ∧ x < (adj.length : Int))) ?_ (fun r hr => Ok.some_iff.2 (by rw [hr]))
 refine Ok.bind_of (loop_index o.length (fun i => ∀ h : i < o.length, 0 ≤ o[i] ∧ o[i] < (adj.length : Int)) ?_ ?_) ?_
 ·intro i hi
  simp (disch := omega) only [cond_dec, if_pos, getN_some (List.getElem?_eq_getElem hi), Option.bind_some, wrap_inc]
  unfold d_graph_Permuted_1q_q0
  simp only [Option.bind_some, vertex_eq]
  by_cases h : 0 ≤ o[i] ∧ o[i] < (adj.length : Int)
  ·rw [decT h, if_pos (fun _ => h)]; rfl
  ·rw [decF h, if_neg (fun h2 => h (h2 hi))]; rfl
 ·simp (disch := omega) only [cond_dec, if_neg]
 ·rintro (q | q) hq
  ·refine Ok.some_iff.2 ?_
   rw [decF (by decide), decF (fun h => h (hall.2 hq))]
  ·refine Ok.some_iff.2 ?_
   rw [decT (show q.1 ≥ 0 from hq.1), decT (show ¬ ∀ x ∈ o, 0 ≤ x ∧ x < (adj.length : Int) from fun h => hq.2 (hall.1 h))]
theorem Permuted_eq {adj : List (List Int)} (hc : ∀ l ∈ adj, l.length < 4611686018427387904) (o : List Int) (ho : adj.length ≤ 200 → Valid adj → adj.length ≤ 12) (ho2 : o.length < 4611686018427387904) :
  d_graph_Permuted ((adj, ()), o, ()) = some (permE adj o, ()) := by
 classical
 unfold d_graph_Permuted permE
 simp only [Check_eq adj hc, Option.bind_some, bneI]
 by_cases h0 : chk adj = 0
 ·obtain ⟨hn, hV⟩ := chk_zero.1 h0
  have h12 := ho hn hV
  rw [decT h0]
  simp only [Bool.not_true, cond_false, h0, ne_eq, not_true_eq_false, if_false]
  by_cases hl : o.length = adj.length
  ·rw [decT (show (((o.length : Nat) : Int) = ((adj.length : Nat) : Int)) by omega)]
   simp only [Bool.not_true, cond_false, hl, not_true_eq_false, if_false]
   rw [outside_eq adj o ho2]
   simp only [Option.bind_some]
   by_cases h1 : ∀ x ∈ o, 0 ≤ x ∧ x < (adj.length : Int)
   ·rw [decF (not_not_intro h1)]
    simp only [beq_self_eq_true, cond_true]
    rw [twice_eq o (by omega)]
    simp only [Option.bind_some, cond_dec]
    by_cases h2 : o.Nodup
    ·rw [if_neg (not_not_intro h2), if_pos ⟨hl, h1, h2⟩]
    ·rw [if_pos h2, if_neg (fun h => h2 h.2.2)]
   ·rw [decT h1, if_neg (fun h => h1 h.2.1)]
    rfl
  ·rw [decF (show ¬ (((o.length : Nat) : Int) = ((adj.length : Nat) : Int)) by omega)]
   simp only [Bool.not_false, cond_true, hl, not_false_eq_true, if_true]
 ·rw [decF h0]
  simp only [Bool.not_false, cond_true, h0, ne_eq, not_false_eq_true, if_true]
end Go.Fw
end
section
namespace Go.Fw
open Go
section
variable {adj : List (List Int)} (hc : ∀ l ∈ adj, l.length < 4611686018427387904)
include hc
end
theorem perm_of {adj : List (List Int)} {o : List Int} (h : permE adj o = 0) : adj.length ≤ 200 ∧ Valid adj ∧ IsPerm o adj.length := by
 classical
 have h0 : chk adj = 0 := by
  by_cases hz : chk adj = 0
  ·exact hz
  ·unfold permE at h; rw [if_pos hz] at h; exact absurd h hz
 obtain ⟨hn, hV⟩ := chk_zero.1 h0
 refine ⟨hn, hV, ?_⟩
 unfold permE at h
 rw [if_neg (not_not_intro h0)] at h
 by_cases hl : o.length = adj.length
 ·rw [if_neg (not_not_intro hl)] at h
  by_cases hp : IsPerm o adj.length
  ·exact hp
  ·rw [if_neg hp] at h; omega
 ·rw [if_pos hl] at h; omega
theorem perm_iff {adj : List (List Int)} {o : List Int} (hn : adj.length ≤ 200) (hV : Valid adj) (hp : IsPerm o adj.length) : permE adj o = 0 := by
 unfold permE
 rw [if_neg (not_not_intro (chk_zero.2 ⟨hn, hV⟩)), if_neg (not_not_intro hp.1), if_pos hp]
end Go.Fw
end
section
namespace Go.Fw
open Go
theorem idxO {n : Nat} {B : Nat → Nat → Bool} {a : Nat} (h : a < n) : atO (mT n B) a (fun e => some e) = some (fT n (B a)) := atO_fT h
theorem clear_eq {n : Nat} {B : Nat → Nat → Bool} {a b : Nat} (ha : a < n) (hb : b < n) :
  atO (mT n B) a (fun e => (atO e b fun _ => some (e.set b false)).map fun z => (mT n B).set a z) = some (mT n (fun x y => if x = a ∧ y = b then false else B x y)) := by
 have h1 : atO (mT n B) a (fun e => (atO e b fun _ => some (e.set b false)).map fun z => (mT n B).set a z) = (atO (fT n (B a)) b fun _ => some ((fT n (B a)).set b false)).map fun z => (mT n B).set a z := atO_fT ha
 rw [h1, atO_fT hb]
 simp only [Option.map_some]
 unfold mT
 rw [fT_set, fT_set]
 refine congrArg some (fT_congr fun x hx => ?_)
 simp only [upd]
 by_cases h : x = a
 ·rw [if_pos h]
  refine fT_congr fun y hy => ?_
  simp only [upd]
  by_cases h2 : y = b
  ·rw [if_pos h2, if_pos ⟨h, h2⟩]
  ·rw [if_neg h2, if_neg (fun e => h2 e.2), h]
 ·rw [if_neg h]
  refine fT_congr fun y hy => ?_
  rw [if_neg (fun e => h e.1)]
theorem nat_get {L : List Nat} {k : Nat} (h : k < L.length) : getI (natL L) (k : Int) = some ((L[k] : Nat) : Int) := getN_some (by simp [natL, h])
def elB (B : Nat → Nat → Bool) (v : Nat) : Nat → Nat → Bool := fun a b => if a = v ∨ b = v then false else B a b || (decide (a ≠ b) && (B v a && B v b))
theorem elim_mT {n : Nat} (hn : n ≤ 4294967296) {B : Nat → Nat → Bool} {γ : Nat → Bool} {v : Nat} (hv : v < n) (hs : ∀ a b, B a b = B b a) (hd : B v v = false) :
  d_mindeg_Elimination_Eliminate ((mT n B, (fT n γ, ())), (v : Int), ()) = some ((mT n (elB B v), (fT n (upd γ v true), ())), natL ((List.range n).filter (B v)), ()) := by
 unfold d_mindeg_Elimination_Eliminate
 simp only []
 rw [List_eq hn hv]
 simp only [Option.bind_some]
 generalize hL : (List.range n).filter (B v) = L
 have hmem : ∀ x, x ∈ L ↔ x < n ∧ B v x = true := fun x => by rw [← hL, List.mem_filter, List.mem_range]
 have hnd : L.Nodup := by rw [← hL]; exact List.nodup_range.sublist List.filter_sublist
 have hlt : ∀ k, (h : k < L.length) → L[k] < n := fun k h => ((hmem _).1 (List.getElem_mem h)).1
 have hvL : v ∉ L := fun h => by have := ((hmem v).1 h).2; rw [hd] at this; cases this
 let Bk : Nat → Nat → Nat → Bool := fun k a b => if (a = v ∧ b ∈ L.take k) ∨ (b = v ∧ a ∈ L.take k) then false else B a b || (decide (a ≠ b) && (decide (a ∈ L.take k) && decide (b ∈ L.take k)))
 have hll : L.length ≤ n := by rw [← hL]; exact Nat.le_trans (List.length_filter_le _ _) (by simp)
 have hnl : (natL L).length = L.length := natL_length L
 refine bind_eq (y := ((mT n (Bk L.length), (fT n γ, ())), ())) (loop_for L.length (fun k => ((mT n (Bk k), (fT n γ, ())), ())) 0 rfl ?_ (Nat.zero_le _) ?_ ?_) ?_
 ·refine congrArg (fun t => ((t, (fT n γ, ())), ())) (mT_congr fun a b _ _ => ?_)
  simp [Bk]
 ·intro k _ hk
  have hkn := hlt k hk
  have hkv : L[k] ≠ v := fun e => hvL (e ▸ List.getElem_mem hk)
  have hlen : ((natL L).take k).length = k := by rw [List.length_take, hnl]; omega
  simp (disch := omega) only [hnl, cond_dec, if_pos, nat_get hk, Option.bind_some, natO_ok, leO_ok, Option.map_some, List.drop_zero]
  have htk : ∀ x, x ∈ L.take (k + 1) ↔ x ∈ L.take k ∨ x = L[k] := fun x => by
   rw [← take_snoc hk, List.mem_append, List.mem_singleton]
  have hnk : L[k] ∉ L.take k := fun hm => by
   obtain ⟨m, hm1, hm2⟩ := List.mem_iff_getElem.1 hm
   simp only [List.length_take] at hm1
   simp only [List.getElem_take] at hm2
   have := (List.getElem_inj hnd).1 hm2
   omega
  let Bj : Nat → Nat → Nat → Bool := fun j a b => Bk k a b || (decide (a ≠ b) && ((decide (a = L[k]) && decide (b ∈ L.take j)) || (decide (b = L[k]) && decide (a ∈ L.take j))))
  refine bind_eq (y := ((mT n (Bj k), (fT n γ, ())), ())) (loop_for k (fun j => ((mT n (Bj j), (fT n γ, ())), ())) 0 rfl ?_ (Nat.zero_le _) ?_ ?_) ?_
  ·refine congrArg (fun t => ((t, (fT n γ, ())), ())) (mT_congr fun a b _ _ => ?_)
   simp [Bj]
  ·intro j _ hj
   have hjl : j < L.length := by omega
   have hg2 : getI ((natL L).take k) (j : Int) = some ((L[j] : Nat) : Int) := getN_some (by rw [List.getElem?_take_of_lt hj]; simp [natL, hjl])
   simp (disch := omega) only [hlen, cond_dec, if_pos, hg2, Option.bind_some, wrap_inc, Join_eq hkn (hlt j hjl)]
   refine congrArg (fun t => some (Sum.inl (((j + 1 : Nat) : Int), (t, (fT n γ, ())), ()))) (mT_congr fun a b _ _ => ?_)
   have hjk : L[j] ≠ L[k] := fun e => by have := (List.getElem_inj hnd).1 e; omega
   have htj : ∀ x, x ∈ L.take (j + 1) ↔ x ∈ L.take j ∨ x = L[j] := fun x => by
    rw [← take_snoc hjl, List.mem_append, List.mem_singleton]
   simp only [Bj]
   rw [Bool.eq_iff_iff]
   simp only [Bool.or_eq_true, Bool.and_eq_true, decide_eq_true_eq, htj]
   constructor
   ·rintro ((h | ⟨h1, h2⟩) | ⟨h1, ⟨rfl, rfl⟩ | ⟨rfl, rfl⟩⟩)
    ·exact .inl h
    ·exact .inr ⟨h1, h2.imp (fun h => ⟨h.1, .inl h.2⟩) (fun h => ⟨h.1, .inl h.2⟩)⟩
    ·exact .inr ⟨h1, .inl ⟨rfl, .inr rfl⟩⟩
    ·exact .inr ⟨fun e => h1 e.symm, .inr ⟨rfl, .inr rfl⟩⟩
   ·rintro (h | ⟨h1, ⟨h2, h3 | h3⟩ | ⟨h2, h3 | h3⟩⟩)
    ·exact .inl (.inl h)
    ·exact .inl (.inr ⟨h1, .inl ⟨h2, h3⟩⟩)
    ·exact .inr ⟨fun e => hjk e.symm, .inl ⟨h2, h3⟩⟩
    ·exact .inl (.inr ⟨h1, .inr ⟨h2, h3⟩⟩)
    ·exact .inr ⟨fun e => hjk e.symm, .inr ⟨h3, h2⟩⟩
  ·simp (disch := omega) only [hlen, cond_dec, if_neg]
  ·simp (disch := omega) only [mT_length, idxN_nat, Option.bind_some, idxO, fT_length, clear_eq, Option.map_some, wrap_inc]
   refine congrArg (fun t => some (Sum.inl (((k + 1 : Nat) : Int), (t, (fT n γ, ())), ()))) (mT_congr fun a b _ _ => ?_)
   simp only [Bj, Bk]
   by_cases h1 : a = v ∧ b = L[k]
   ·rw [if_pos h1, if_pos (.inl ⟨h1.1, (htk b).2 (.inr h1.2)⟩)]
   rw [if_neg h1]
   by_cases h2 : a = L[k] ∧ b = v
   ·rw [if_pos h2, if_pos (.inr ⟨h2.2, (htk a).2 (.inr h2.1)⟩)]
   rw [if_neg h2]
   by_cases h3 : (a = v ∧ b ∈ L.take k) ∨ (b = v ∧ a ∈ L.take k)
   ·rw [if_pos h3, if_pos (h3.imp (fun h => ⟨h.1, (htk b).2 (.inl h.2)⟩) (fun h => ⟨h.1, (htk a).2 (.inl h.2)⟩))]
    rw [Bool.eq_false_iff]
    simp only [Bool.false_or, ne_eq, Bool.and_eq_true, Bool.or_eq_true, decide_eq_true_eq]
    rintro ⟨_, ⟨g1, g2⟩ | ⟨g1, g2⟩⟩
    ·rcases h3 with h | h
     ·exact hkv (g1.symm.trans h.1)
     ·exact hvL (h.1 ▸ List.mem_of_mem_take g2)
    ·rcases h3 with h | h
     ·exact hvL (h.1 ▸ List.mem_of_mem_take g2)
     ·exact hkv (g1.symm.trans h.1)
   ·rw [if_neg h3, if_neg (by
     rintro (⟨g1, g2⟩ | ⟨g1, g2⟩)
     ·rcases (htk b).1 g2 with g | g
      ·exact h3 (.inl ⟨g1, g⟩)
      ·exact h1 ⟨g1, g⟩
     ·rcases (htk a).1 g2 with g | g
      ·exact h3 (.inr ⟨g1, g⟩)
      ·exact h2 ⟨g, g1⟩)]
    rw [Bool.eq_iff_iff]
    simp only [Bool.or_eq_true, Bool.and_eq_true, decide_eq_true_eq, htk]
    constructor
    ·rintro ((h | ⟨g1, g2, g3⟩) | ⟨g1, ⟨g2, g3⟩ | ⟨g2, g3⟩⟩)
     ·exact .inl h
     ·exact .inr ⟨g1, .inl g2, .inl g3⟩
     ·exact .inr ⟨g1, .inr g2, .inl g3⟩
     ·exact .inr ⟨g1, .inl g3, .inr g2⟩
    ·rintro (h | ⟨g1, g2 | g2, g3 | g3⟩)
     ·exact .inl (.inl h)
     ·exact .inl (.inr ⟨g1, g2, g3⟩)
     ·exact .inr ⟨g1, .inr ⟨g3, g2⟩⟩
     ·exact .inr ⟨g1, .inl ⟨g2, g3⟩⟩
     ·exact absurd (g2.trans g3.symm) g1
 ·simp (disch := omega) only [hnl, cond_dec, if_neg]
 ·simp (disch := omega) only [fT_length, idxN_nat, Option.bind_some, atO_fT, fT_set, Option.map_some]
  refine congrArg (fun t => some ((t, (fT n (upd γ v true), ())), natL L, ())) (mT_congr fun a b ha hb => ?_)
  simp only [Bk, elB, List.take_length, hmem]
  by_cases h0 : a = v ∨ b = v
  ·rw [if_pos h0]
   by_cases h1 : (a = v ∧ b < n ∧ B v b = true) ∨ (b = v ∧ a < n ∧ B v a = true)
   ·rw [if_pos h1]
   ·rw [if_neg h1, Bool.eq_false_iff]
    simp only [ne_eq, Bool.or_eq_true, Bool.and_eq_true, decide_eq_true_eq, not_or, not_and]
    rcases h0 with h0 | h0
    ·subst h0
     refine ⟨fun h => h1 (.inl ⟨rfl, hb, h⟩), fun _ h => ?_⟩
     rw [hd] at h; cases h.2
    ·subst h0
     refine ⟨fun h => h1 (.inr ⟨rfl, ha, by rw [hs]; exact h⟩), fun _ _ _ h => ?_⟩
     rw [hd] at h; cases h
  ·rw [if_neg h0, if_neg (fun h => h0 (h.imp (fun h => h.1) (fun h => h.1)))]
   simp [ha, hb]
def nbB (adj : List (List Int)) (a b : Nat) : Bool := decide ((b : Int) ∈ adj.getD a [])
theorem nbB_iff {adj : List (List Int)} {a b : Nat} : nbB adj a b = true ↔ Nb adj a b := by
 unfold nbB
 rw [decide_eq_true_eq]
 by_cases h : a < adj.length
 ·rw [getD_lt h]; exact ⟨fun h2 => ⟨h, h2⟩, fun ⟨_, h2⟩ => h2⟩
 ·rw [show adj.getD a [] = [] by simp [List.getD, List.getElem?_eq_none (Nat.le_of_not_lt h)]]
  exact ⟨fun h2 => (by cases h2), fun ⟨h2, _⟩ => absurd h2 h⟩
theorem nbB_symm {adj : List (List Int)} (hV : Valid adj) (a b : Nat) : nbB adj a b = nbB adj b a := by
 rw [Bool.eq_iff_iff, nbB_iff, nbB_iff]; exact ⟨Nb.symm hV a b, Nb.symm hV b a⟩
theorem Table_mT {adj : List (List Int)} (hV : Valid adj) (hn : adj.length ≤ 200) : d_graph_Table ((adj, ()), ()) = some (mT adj.length (nbB adj), ()) := by
 generalize hN : adj.length = n at *
 unfold d_graph_Table
 simp only [hN]
 rw [NewSets_eq n (by omega)]
 simp only [Option.bind_some]
 let Bv : Nat → Nat → Nat → Bool := fun v a b => nbB adj a b && (decide (a < v) || decide (b < v))
 refine bind_eq (y := (mT n (Bv n), ())) (loop_for n (fun v => (mT n (Bv v), ())) 0 rfl ?_ (Nat.zero_le _) ?_ ?_) ?_
 ·refine congrArg (fun t => (t, ())) (mT_congr fun a b _ _ => ?_)
  simp [Bv]
 ·intro v _ hv
  have hvl : v < adj.length := by omega
  have hg : getI adj (v : Int) = some adj[v] := getN_some (List.getElem?_eq_getElem hvl)
  have hrow := (Valid_iff adj).1 hV v hvl
  have hlen : adj[v].length ≤ n := by have := hV.rows _ (List.getElem_mem hvl); omega
  simp (disch := omega) only [cond_dec, if_pos, hg, Option.bind_some]
  let Bk : Nat → Nat → Nat → Bool := fun k a b => Bv v a b || ((decide (a = v) && decide ((b : Int) ∈ adj[v].take k)) || (decide (b = v) && decide ((a : Int) ∈ adj[v].take k)))
  refine bind_eq (y := (mT n (Bk adj[v].length), ())) (loop_for adj[v].length (fun k => (mT n (Bk k), ())) 0 rfl ?_ (Nat.zero_le _) ?_ ?_) ?_
  ·refine congrArg (fun t => (t, ())) (mT_congr fun a b _ _ => ?_)
   simp [Bk]
  ·intro k _ hk
   have hx := hrow.2 k hk
   obtain ⟨x, hxx⟩ : ∃ x : Nat, adj[v][k] = (x : Int) := ⟨adj[v][k].toNat, by omega⟩
   have hxn : x < n := by omega
   have hxv : v ≠ x := fun e => hx.2.1 (by rw [hxx, e])
   have hg2 : getI adj[v] (k : Int) = some (x : Int) := by rw [getN_some (List.getElem?_eq_getElem hk), hxx]
   simp (disch := omega) only [cond_dec, if_pos, hg2, Option.bind_some, Join_eq hv hxn, wrap_inc]
   refine congrArg (fun t => some (Sum.inl (((k + 1 : Nat) : Int), t, ()))) (mT_congr fun a b _ _ => ?_)
   have htk : ∀ y : Nat, (y : Int) ∈ adj[v].take (k + 1) ↔ (y : Int) ∈ adj[v].take k ∨ y = x := fun y => by
    rw [← take_snoc hk, List.mem_append, List.mem_singleton, hxx]; exact or_congr Iff.rfl Int.ofNat_inj
   simp only [Bk]
   rw [Bool.eq_iff_iff]
   simp only [Bool.or_eq_true, Bool.and_eq_true, decide_eq_true_eq, htk]
   constructor
   ·rintro ((h | h | h) | ⟨_, ⟨rfl, rfl⟩ | ⟨rfl, rfl⟩⟩)
    ·exact .inl h
    ·exact .inr (.inl ⟨h.1, .inl h.2⟩)
    ·exact .inr (.inr ⟨h.1, .inl h.2⟩)
    ·exact .inr (.inl ⟨rfl, .inr rfl⟩)
    ·exact .inr (.inr ⟨rfl, .inr rfl⟩)
   ·rintro (h | ⟨h1, h2 | h2⟩ | ⟨h1, h2 | h2⟩)
    ·exact .inl (.inl h)
    ·exact .inl (.inr (.inl ⟨h1, h2⟩))
    ·exact .inr ⟨hxv, .inl ⟨h1, h2⟩⟩
    ·exact .inl (.inr (.inr ⟨h1, h2⟩))
    ·exact .inr ⟨hxv, .inr ⟨h2, h1⟩⟩
  ·simp (disch := omega) only [cond_dec, if_neg]
  ·simp (disch := omega) only [wrap_inc]
   refine congrArg (fun t => some (Sum.inl (((v + 1 : Nat) : Int), t, ()))) (mT_congr fun a b _ _ => ?_)
   have hvb : ∀ y : Nat, (y : Int) ∈ adj[v] ↔ nbB adj v y = true := fun y => by rw [nbB_iff]; exact ⟨fun h => ⟨hvl, h⟩, fun ⟨_, h⟩ => h⟩
   simp only [Bk, Bv, List.take_length]
   rw [Bool.eq_iff_iff]
   simp only [Bool.or_eq_true, Bool.and_eq_true, decide_eq_true_eq, hvb]
   constructor
   ·rintro (⟨h1, h2⟩ | ⟨rfl, h2⟩ | ⟨rfl, h2⟩)
    ·exact ⟨h1, by omega⟩
    ·exact ⟨h2, by omega⟩
    ·exact ⟨by rw [nbB_symm hV]; exact h2, by omega⟩
   ·rintro ⟨h1, h2⟩
    by_cases h3 : a = v
    ·exact .inr (.inl ⟨h3, h3 ▸ h1⟩)
    ·by_cases h4 : b = v
     ·exact .inr (.inr ⟨h4, by rw [nbB_symm hV, ← h4]; exact h1⟩)
     ·exact .inl ⟨h1, by omega⟩
 ·simp (disch := omega) only [cond_dec, if_neg]
 ·refine congrArg (fun t => some (t, ())) (mT_congr fun a b ha hb => ?_)
  simp [Bv, ha, hb]
noncomputable def bT (adj : List (List Int)) (S : Nat → Prop) (a b : Nat) : Bool := open Classical in decide (a ≠ b ∧ ¬ S a ∧ ¬ S b ∧ WalkP (Nb adj) S a b)
theorem bT_iff {adj : List (List Int)} {S : Nat → Prop} {a b : Nat} : bT adj S a b = true ↔ a ≠ b ∧ ¬ S a ∧ ¬ S b ∧ WalkP (Nb adj) S a b := by classical unfold bT; exact decide_eq_true_iff
theorem bT_symm {adj : List (List Int)} (hV : Valid adj) {S : Nat → Prop} (a b : Nat) : bT adj S a b = bT adj S b a := by
 rw [Bool.eq_iff_iff, bT_iff, bT_iff]
 exact ⟨fun ⟨h1, h2, h3, h4⟩ => ⟨fun e => h1 e.symm, h3, h2, h4.symm (Nb.symm hV)⟩, fun ⟨h1, h2, h3, h4⟩ => ⟨fun e => h1 e.symm, h3, h2, h4.symm (Nb.symm hV)⟩⟩
theorem bT_self {adj : List (List Int)} {S : Nat → Prop} (a : Nat) : bT adj S a a = false := by rw [Bool.eq_false_iff]; exact fun h => (bT_iff.1 h).1 rfl
theorem bT_none {adj : List (List Int)} (hV : Valid adj) (a b : Nat) : bT adj (fun _ => False) a b = nbB adj a b := by
 rw [Bool.eq_iff_iff, bT_iff, nbB_iff, WalkP.none]
 exact ⟨fun h => h.2.2.2, fun h => ⟨Nb.ne hV h, fun h => h, fun h => h, h⟩⟩
theorem bT_next {adj : List (List Int)} (hV : Valid adj) {S : Nat → Prop} {v : Nat} (hv : ¬ S v) (a b : Nat) : elB (bT adj S) v a b = bT adj (fun x => S x ∨ x = v) a b := by
 unfold elB
 rw [Bool.eq_iff_iff, bT_iff, WalkP.insert_iff]
 by_cases h : a = v ∨ b = v
 ·rw [if_pos h]
  exact ⟨fun h2 => (by cases h2), fun ⟨_, h1, h2, _⟩ => absurd h (fun h => h.elim (fun h => h1 (.inr h)) (fun h => h2 (.inr h)))⟩
 ·rw [if_neg h]
  simp only [Bool.or_eq_true, Bool.and_eq_true, decide_eq_true_eq, bT_iff]
  have hs := Nb.symm hV
  constructor
  ·rintro (⟨h1, h2, h3, h4⟩ | ⟨h1, ⟨_, _, h2, h3⟩, ⟨_, _, h4, h5⟩⟩)
   ·exact ⟨h1, fun h' => h'.elim h2 (fun e => h (.inl e)), fun h' => h'.elim h3 (fun e => h (.inr e)), .inl h4⟩
   ·exact ⟨h1, fun h' => h'.elim h2 (fun e => h (.inl e)), fun h' => h'.elim h4 (fun e => h (.inr e)), .inr ⟨h3.symm hs, h5⟩⟩
  ·rintro ⟨h1, h2, h3, h4 | ⟨h4, h5⟩⟩
   ·exact .inl ⟨h1, fun q => h2 (.inl q), fun q => h3 (.inl q), h4⟩
   ·exact .inr ⟨h1, ⟨fun e => h (.inl e.symm), hv, fun q => h2 (.inl q), h4.symm hs⟩, ⟨fun e => h (.inr e.symm), hv, fun q => h3 (.inl q), h5⟩⟩
theorem Start_eq {adj : List (List Int)} (hV : Valid adj) (hn : adj.length ≤ 200) : d_mindeg_Start ((adj, ()), ()) = some ((mT adj.length (bT adj fun _ => False), (fT adj.length (fun _ => false), ())), ()) := by
 unfold d_mindeg_Start
 simp only [Table_mT hV hn, Option.bind_some, madeO_ok (show adj.length ≤ 4294967296 by omega), fT_replicate]
 rw [mT_congr (fun a b _ _ => (bT_none hV a b).symm)]
def ordN (o : List Int) (k : Nat) : Nat := (o.getD k 0).toNat
def ahead (o : List Int) (k : Nat) (x : Nat) : Prop := ∃ j, j < k ∧ x = ordN o j
noncomputable def dgN (adj : List (List Int)) (o : List Int) (k : Nat) : Nat := ((List.range adj.length).filter (bT adj (ahead o k) (ordN o k))).length
theorem IsPerm.get {o : List Int} {n : Nat} (h : IsPerm o n) {k : Nat} (hk : k < n) : getI o (k : Int) = some ((ordN o k : Nat) : Int) ∧ ordN o k < n := by
 have hl : k < o.length := by rw [h.1]; exact hk
 have h1 := h.2.1 _ (List.getElem_mem hl)
 have h2 : ordN o k = o[k].toNat := by unfold ordN; rw [getD_lt hl]
 exact ⟨by rw [getN_some (List.getElem?_eq_getElem hl), h2]; congr 1; omega, by omega⟩
theorem IsPerm.inj {o : List Int} {n : Nat} (h : IsPerm o n) {j k : Nat} (hj : j < n) (hk : k < n) (e : ordN o j = ordN o k) : j = k := by
 have hjl : j < o.length := by rw [h.1]; exact hj
 have hkl : k < o.length := by rw [h.1]; exact hk
 have h1 := h.2.1 _ (List.getElem_mem hjl)
 have h2 := h.2.1 _ (List.getElem_mem hkl)
 unfold ordN at e
 rw [getD_lt hjl, getD_lt hkl] at e
 exact (List.getElem_inj h.2.2).1 (by omega)
theorem Degrees_eq {adj : List (List Int)} (hV : Valid adj) (hn : adj.length ≤ 12) {o : List Int} (hp : IsPerm o adj.length) :
  d_mindeg_Degrees ((adj, ()), o, ()) = some (fT adj.length (fun k => (dgN adj o k : Int)), 0, ()) := by
 classical
 have hc := hV.hc (by omega)
 unfold d_mindeg_Degrees
 simp only [Permuted_eq hc o (fun _ _ => hn) (by have := hp.1; omega), perm_iff (by omega) hV hp, Option.bind_some, bneI, decide_true, Bool.not_true, cond_false, Start_eq hV (by omega), hp.1]
 refine bind_eq (loop_for (r := (fT adj.length (fun k => (dgN adj o k : Int)), ())) adj.length (fun k => ((mT adj.length (bT adj (ahead o k)), (fT adj.length (fun x => open Classical in decide (ahead o k x)), ())), fT k (fun k => (dgN adj o k : Int)), ())) 0 rfl ?_ (Nat.zero_le _) ?_ ?_) rfl
 ·have e : ahead o 0 = fun _ => False := by funext x; exact eq_false (fun ⟨j, h, _⟩ => by omega)
  rw [e]
  simp [fT_zero]
 ·intro k _ hk
  obtain ⟨hg, hv⟩ := hp.get hk
  have hS : ¬ ahead o k (ordN o k) := fun ⟨j, hj, e⟩ => by have := hp.inj hk (by omega) e; omega
  have hnext : (fun x => ahead o k x ∨ x = ordN o k) = ahead o (k + 1) := by
   funext x
   refine propext ⟨?_, ?_⟩
   ·rintro (⟨j, hj, e⟩ | e)
    ·exact ⟨j, by omega, e⟩
    ·exact ⟨k, by omega, e⟩
   ·rintro ⟨j, hj, e⟩
    by_cases h : j = k
    ·exact .inr (h ▸ e)
    ·exact .inl ⟨j, by omega, e⟩
  simp (disch := omega) only [cond_dec, if_pos, hg, Option.bind_some, elim_mT (by omega) hv (bT_symm hV) (bT_self _), fT_length, List.length_singleton, limO_ok, wrap_inc, natL_length]
  rw [mT_congr (fun a b _ _ => bT_next hV hS a b), hnext, fT_succ]
  refine congrArg (fun t => some (Sum.inl (((k + 1 : Nat) : Int), (mT adj.length (bT adj (ahead o (k + 1))), (t, ())), fT k (fun k => (dgN adj o k : Int)) ++ [(dgN adj o k : Int)], ()))) (fT_congr fun x _ => ?_)
  have hx : ahead o (k + 1) x ↔ ahead o k x ∨ x = ordN o k := by rw [← hnext]
  simp only [upd]
  by_cases h : x = ordN o k
  ·rw [if_pos h]; exact (decide_eq_true (hx.2 (.inr h))).symm
  ·rw [if_neg h]
   exact decide_eq_decide.2 ⟨fun q => hx.2 (.inl q), fun q => (hx.1 q).resolve_right h⟩
 ·simp (disch := omega) only [cond_dec, if_neg]
end Go.Fw
end
section
namespace Go.Fw
open Go
def nB (n : Nat) (p : Nat → Bool) : Nat := ((List.range n).filter p).length
theorem nB_congr {n : Nat} {p q : Nat → Bool} (h : ∀ i, i < n → p i = q i) : nB n p = nB n q := by
 unfold nB; rw [List.filter_congr fun i hi => h i (List.mem_range.1 hi)]
theorem nB_le (n : Nat) (p : Nat → Bool) : nB n p ≤ n := by unfold nB; exact Nat.le_trans (List.length_filter_le _ _) (by simp)
theorem nB_mono {n : Nat} {p q : Nat → Bool} (h : ∀ i, i < n → p i = true → q i = true) : nB n p ≤ nB n q := by
 unfold nB
 refine List.Sublist.length_le ?_
 have : (List.range n).filter p = ((List.range n).filter q).filter p := by
  rw [List.filter_filter]
  refine List.filter_congr fun i hi => ?_
  have := h i (List.mem_range.1 hi)
  cases hp : p i
  ·simp
  ·simp [this hp]
 rw [this]; exact List.filter_sublist
theorem nB_or {n : Nat} {p q : Nat → Bool} (h : ∀ i, i < n → p i = true → q i = false) : nB n (fun i => p i || q i) = nB n p + nB n q := by
 unfold nB
 induction n with
 | zero => rfl
 | succ n ih =>
   have ih := ih (fun i hi => h i (by omega))
   rw [List.range_succ, List.filter_append, List.filter_append, List.filter_append, List.length_append, List.length_append, List.length_append, ih]
   have := h n (by omega)
   cases hp : p n
   ·cases hq : q n <;> simp [hp, hq] <;> omega
   ·simp [hp, this hp]; omega
theorem nB_one {n k : Nat} (hk : k < n) : nB n (fun i => decide (i = k)) = 1 := by
 unfold nB
 induction n with
 | zero => omega
 | succ n ih =>
   rw [List.range_succ, List.filter_append, List.length_append]
   by_cases h : k = n
   ·subst h
    have : (List.range k).filter (fun i => decide (i = k)) = [] := List.filter_eq_nil_iff.2 fun i hi => by have := List.mem_range.1 hi; simp; omega
    rw [this]; simp
   ·rw [ih (by omega)]
    have h' : ¬ n = k := fun e => h e.symm
    simp [h']
section
variable {adj : List (List Int)} (hV : Valid adj) {o : List Int} (hp : IsPerm o adj.length)
include hV hp
end
end Go.Fw
end
section
namespace Go.Fw
open Go
theorem mem_natL {l : List Nat} {x : Nat} : (x : Int) ∈ natL l ↔ x ∈ l := by
 unfold natL
 rw [List.mem_map]
 constructor
 ·rintro ⟨y, h1, h2⟩
  obtain rfl : y = x := by omega
  exact h1
 ·exact fun h => ⟨x, h, rfl⟩
section
variable {adj : List (List Int)} (hV : Valid adj)
include hV
end
end Go.Fw
end
section
namespace Go.Fw
open Go
theorem Ok.seq {σ ρ : Type} {f : σ → Option (σ ⊕ ρ)} {Q : ρ → Prop} {s0 : σ} (n : Nat) (I : Nat → σ → Prop) (i0 : Nat) (h0 : I i0 s0) (hi : i0 ≤ n)
  (hstep : ∀ i s, i0 ≤ i → i < n → I i s → Ok (f s) (fun | .inl s' => I (i + 1) s' | .inr r => Q r))
  (hend : ∀ s, I n s → Ok (f s) (fun | .inl _ => False | .inr r => Q r)) : Ok (Fw.loop f s0) Q := by
 obtain ⟨d, hd⟩ : ∃ d, n = i0 + d := ⟨n - i0, by omega⟩
 induction d generalizing i0 s0 with
 | zero =>
   obtain rfl : n = i0 := by omega
   rw [loop_unfold]
   obtain ⟨y, hy, hq⟩ := hend s0 h0
   rw [hy]
   cases y with
   | inl => exact hq.elim
   | inr r => exact Ok.some_iff.2 hq
 | succ d ih =>
   rw [loop_unfold]
   obtain ⟨y, hy, hq⟩ := hstep i0 s0 (Nat.le_refl _) (by omega) h0
   rw [hy]
   cases y with
   | inl s' => exact ih (i0 + 1) hq (by omega) (fun i s h => hstep i s (by omega)) (by omega)
   | inr r => exact Ok.some_iff.2 hq
theorem loop_seq {σ ρ : Type} {f : σ → Option (σ ⊕ ρ)} {r : ρ} {s0 : σ} (n : Nat) (I : Nat → σ) (i0 : Nat) (hs : s0 = I i0) (hi : i0 ≤ n)
  (hstep : ∀ i, i0 ≤ i → i < n → f (I i) = some (.inl (I (i + 1)))) (hend : f (I n) = some (.inr r)) : loop f s0 = some r := by
 rw [← Ok.eq_iff]
 refine Ok.seq n (fun i s => s = I i) i0 hs hi ?_ ?_
 ·rintro i _ h1 h2 rfl
  rw [hstep i h1 h2]
  exact Ok.some_iff.2 rfl
 ·rintro _ rfl
  rw [hend]
  exact Ok.some_iff.2 rfl
theorem bindR {α β : Type} {x : Option α} {g : α → Option β} {r : Option β} (y : α) (h2 : g y = r) (h : x = some y) : x.bind g = r := by rw [h]; exact h2
section
variable {adj : List (List Int)} (hV : Valid adj)
include hV
end
end Go.Fw
end
section
namespace Go.Fw
open Go
def dgV (adj : List (List Int)) (x : Int) : Nat := (adj.getD x.toNat []).length
section
variable {adj : List (List Int)} (hV : Valid adj) (hn : adj.length ≤ 200)
include hV hn
end
end Go.Fw
end
section
namespace Go.Fw
open Go
def lexI (adj : List (List Int)) (x y : Int) : Prop := dgV adj x < dgV adj y ∨ (dgV adj x = dgV adj y ∧ x < y)
instance (adj : List (List Int)) (x y : Int) : Decidable (lexI adj x y) := by unfold lexI; exact inferInstance
end Go.Fw
end
section
namespace Go.Fw
open Go
theorem subset_le : ∀ {l m : List Nat}, l.Nodup → (∀ x ∈ l, x ∈ m) → l.length ≤ m.length := by
 intro l
 induction l with
 | nil => intro m _ _; exact Nat.zero_le _
 | cons a l ih =>
   intro m hd h
   obtain ⟨h1, h2⟩ := List.nodup_cons.1 hd
   have ha := h a (List.mem_cons_self ..)
   have := ih (m := m.erase a) h2 (fun x hx => (List.mem_erase_of_ne (fun e => by subst e; exact h1 hx)).2 (h x (List.mem_cons_of_mem _ hx)))
   rw [List.length_erase_of_mem ha] at this
   have := List.length_pos_of_mem ha
   rw [List.length_cons]; omega
section
variable {o : List Int} {n : Nat} (hp : IsPerm o n)
include hp
end
section
variable {adj : List (List Int)} (hV : Valid adj) {o : List Int} (hp : IsPerm o adj.length)
include hV hp
end
end Go.Fw
end
section
namespace Go.Fw
open Go
section
variable {adj : List (List Int)} (hV : Valid adj) {o : List Int}
include hV
theorem refDegrees_ok (hn : adj.length ≤ 200) (hp : IsPerm o adj.length) : d_sparseref16q_Degrees ((adj, ()), o, ()) = some (fT adj.length (fun k => (dgN adj o k : Int)), 0, ()) := by
 classical
 have h0 : chk adj = 0 := chk_zero.2 ⟨hn, hV⟩
 have hl : ((o.length : Nat) : Int) = ((adj.length : Nat) : Int) := by rw [hp.1]
 rw [← Ok.eq_iff]
 unfold d_sparseref16q_Degrees
 simp only [refCheck_eq adj (hV.hc hn), Option.bind_some, h0, bne_self_eq_false, cond_false, hl, Perm_eq o adj.length (by omega), decT hp, Bool.not_true]
 refine Ok.bind_of (Begin_ok hV (hV.hc hn) hn) ?_
 rintro ⟨⟨T, gone, ⟨⟩⟩, ⟨⟩⟩ hE
 simp only at hE
 refine Ok.bind_of (P := fun r => r = (fT adj.length (fun k => (dgN adj o k : Int)), ())) ?_ (by rintro _ rfl; exact Ok.some_iff.2 rfl)
 refine Ok.for adj.length (fun k t => ∃ T gone, t = ((T, gone, ()), fT k (fun k => (dgN adj o k : Int)), ()) ∧ Elim adj (ahead o k) T gone) (i0 := 0) rfl ⟨T, gone, rfl, ?_⟩ (Nat.zero_le _) ?_ ?_
 ·have : ahead o 0 = fun _ => False := by
   funext x
   exact propext ⟨fun ⟨j, h, _⟩ => by omega, fun h => h.elim⟩
  rw [this]; exact hE
 ·rintro k _ _ hk ⟨T, gone, rfl, hE⟩
  obtain ⟨g1, g2⟩ := hp.get hk
  have hna : ¬ ahead o k (ordN o k) := fun ⟨j, hj, e⟩ => by
   have := hp.inj (by omega) hk e.symm
   omega
  have hdl : (nbrV T gone (ordN o k) adj.length).length = dgN adj o k := by
   have : nbrV T gone (ordN o k) adj.length = natL ((List.range adj.length).filter (bT adj (ahead o k) (ordN o k))) := by
    refine sorted_ext (nbrV_asc ..) (sorted_filter _ _) fun x => ?_
    constructor
    ·intro hx
     obtain ⟨w, rfl, hw⟩ := nbrV_rng hx
     obtain ⟨h1, h2, h3, h4⟩ := (mem_nbrV hE g2 hna).1 hx
     exact mem_natL.2 (List.mem_filter.2 ⟨List.mem_range.2 h1, bT_iff.2 ⟨h3, hna, h2, h4⟩⟩)
    ·intro hx
     obtain ⟨w, hw, rfl⟩ := List.mem_map.1 hx
     obtain ⟨h1, h2⟩ := List.mem_filter.1 hw
     obtain ⟨b1, b2, b3, b4⟩ := bT_iff.1 h2
     exact (mem_nbrV hE g2 hna).2 ⟨List.mem_range.1 h1, b3, b1, b4⟩
   rw [this, natL_length]; rfl
  simp (disch := first | omega | (simp [fT_length]; omega)) only [cond_dec, if_pos, g1, Option.bind_some, Neighbours_eq hE.tl hE.rows hE.gl (by omega) g2, limO_ok, hdl]
  refine Ok.bind_of (Eliminate_ok hV (by omega) hE g2 hna) ?_
  rintro ⟨⟨T2, gone2, ⟨⟩⟩, ⟨⟩⟩ hE2
  simp only at hE2
  simp (disch := omega) only [wrap_inc]
  refine Ok.some_iff.2 ⟨rfl, T2, gone2, by rw [fT_succ], ?_⟩
  have : ahead o (k + 1) = fun x => ahead o k x ∨ x = ordN o k := by
   funext x
   refine propext ⟨fun ⟨j, h, e⟩ => ?_, ?_⟩
   ·rcases Nat.lt_or_ge j k with h2 | h2
    ·exact .inl ⟨j, h2, e⟩
    ·obtain rfl : j = k := by omega
     exact .inr e
   ·rintro (⟨j, h, e⟩ | e)
    ·exact ⟨j, by omega, e⟩
    ·exact ⟨k, by omega, e⟩
  rw [this]; exact hE2
 ·rintro _ ⟨T, gone, rfl, hE⟩
  simp (disch := omega) only [cond_dec, if_neg]
  exact Ok.some_iff.2 rfl
end
end Go.Fw
end