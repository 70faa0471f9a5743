/-
  Parts of the proof: Ok16b, Pl2, Pl5, Pl6, Pl8, Pl9, Pl10, Pl12, ThT, Th2, Pl16, Pl18, Th3, Pl20, Pl23, Pl24, Pl26, Pl29, Pl30, Pl33, Pl40, Pl41, Pl42, Pl44, Pl46, Pl47, Pl49, Pl50, Pl51, Pl54, Ev16: the framework (Fw), pure forms (Dn), plain laws (Pl, Th), calls of functions (Ok).
-/
import Derived.Test.YtcjbeengjcmpaaaProg
import Derived.KernelRfl
import Derived.Test.YtcjbeengjcmpaaaB5e15d055

set_option linter.all false
section
namespace Go.Fw
open Go.Proofs
def tt : List (Nat × Ty) := [(3, (.int .i64)), (4, .bool), (5, (.int .u8)), (9, .str), (22, (.slc .imm (.int .i64))), (25, (.slc .imm (.slc .imm (.int .i64)))), (27, (.st (.pr (.slc .imm (.slc .imm (.int .i64))) .nil))), (40, (.slc .imm (.slc .imm .bool))), (41, (.slc .imm .bool)), (43, (.st (.pr (.slc .imm (.slc .imm .bool)) (.pr (.slc .imm .bool) .nil)))), (51, (.int .u64)), (56, (.slc .imm (.slc .imm .bool))), (58, (.st (.pr (.slc .imm (.slc .imm .bool)) (.pr (.slc .imm .bool) .nil)))), (77, (.slc .imm (.vm .imm .bool))), (79, (.st (.pr (.slc .imm (.vm .imm .bool)) (.pr (.slc .imm (.vm .imm .bool)) (.pr (.slc .imm (.vm .imm .bool)) (.pr (.slc .imm (.int .i64)) (.pr (.slc .imm .bool) (.pr (.int .i64) .nil)))))))), (84, (.st (.pr (.slc .imm (.slc .imm .bool)) (.pr (.slc .imm (.slc .imm .bool)) (.pr (.slc .imm (.slc .imm .bool)) (.pr (.slc .imm (.int .i64)) (.pr (.slc .imm .bool) .nil))))))), (96, (.vm .imm .bool)), (112, (.int .u32)), (114, (.int .u64)), (115, (.int .u64))]
noncomputable def E : Env := ⟨Try.prog, tt, tt_ok (by kernel_rfl), by kernel_rfl⟩
noncomputable def F45 : Fun := ⟨45, [.v (.slc .bor (.int .i64)), .v (.int .i64)], [.bool], d_graph_ascending⟩
theorem ok45 : OkFun E F45 :=
  OkFun.of (fn := Try.f45) (rs := [.tmp 4]) ([]) [] [] (.keep [0, 1] (.two .none (.leaf) (.two .none (.leaf) (.two .none (.two .none (.leaf) (.one (.keep [8, 9] (.loop ⟨[(5, .v (.int .i64)), (10, .v (.int .i64))], []⟩ (.xr 0 ⟨[], []⟩) (.two .none (.leaf) (.two .none (.two .none (.leaf) (.leaf)) (.two (.xr [10] ⟨[(5, .v (.int .i64))], []⟩) (.one (.two .none (.leaf) (.two (.xr [7] ⟨[], []⟩) (.two .none (.leaf) (.two .none (.two .none (.leaf) (.leaf)) (.leaf))) (.leaf)))) (.leaf)))))))) (.two .none (.leaf) (.leaf)))))) Try.func45 (by kernel_rfl) (by kernel_rfl) (by kernel_rfl) Try.call45 tbl_nil (by intro a; kernel_rfl)
noncomputable def F73 : Fun := ⟨73, [.v (.int .i64)], [.bool], d_cmp_isNaN_int⟩
theorem ok73 : OkFun E F73 :=
  OkFun.of (fn := Try.f73) (rs := [.tmp 2]) ([]) [] [] (.keep [0] (.two .none (.leaf) (.two .none (.leaf) (.leaf)))) Try.func73 (by kernel_rfl) (by kernel_rfl) (by kernel_rfl) Try.call73 tbl_nil (by intro a; kernel_rfl)
noncomputable def F67 : Fun := ⟨67, [.v (.int .i64), .v (.int .i64)], [.bool], d_cmp_Less_int⟩
theorem ok67 : OkFun E F67 :=
  OkFun.of (fn := Try.f67) (rs := [.tmp 4]) ((73, F73) :: []) [] [] (.keep [0, 1] (.two .none (.leaf) (.two .none (.leaf) (.leaf)))) Try.func67 (by kernel_rfl) (by kernel_rfl) (by kernel_rfl) Try.call67 (tbl_cons ok73 tbl_nil) (by intro a; kernel_rfl)
noncomputable def F68 : Fun := ⟨68, [.v (.int .i64)], [.bool], d_slices_isNaN_int⟩
theorem ok68 : OkFun E F68 :=
  OkFun.of (fn := Try.f68) (rs := [.tmp 2]) ([]) [] [] (.keep [0] (.two .none (.leaf) (.two .none (.leaf) (.leaf)))) Try.func68 (by kernel_rfl) (by kernel_rfl) (by kernel_rfl) Try.call68 tbl_nil (by intro a; kernel_rfl)
noncomputable def F59 : Fun := ⟨59, [.v (.slc .bor (.int .i64)), .v (.int .i64)], [(.int .i64), .bool], d_slices_BinarySearch_int_int⟩
theorem ok59 : OkFun E F59 :=
  OkFun.of (fn := Try.f59) (rs := [.tmp 4, .tmp 5]) ((68, F68) :: (67, F67) :: []) [] [] (.keep [0, 1] (.two .none (.leaf) (.two .none (.leaf) (.two .none (.leaf) (.two .none (.one (.keep [6] (.loop ⟨[(7, .v (.int .i64)), (8, .v (.int .i64))], []⟩ (.x 0 ⟨[(7, .v (.int .i64))], []⟩) (.two .none (.two .none (.leaf) (.two .none (.leaf) (.leaf))) (.one (.two .none (.leaf) (.two .none (.leaf) (.two .none (.leaf) (.leaf))))))))) (.two .none (.leaf) (.leaf))))))) Try.func59 (by kernel_rfl) (by kernel_rfl) (by kernel_rfl) Try.call59 (tbl_cons ok68 (tbl_cons ok67 tbl_nil)) (by intro a; kernel_rfl)
noncomputable def F46 : Fun := ⟨46, [.v (.st (.pr (.slc .bor (.slc .bor (.int .i64))) .nil)), .v (.int .i64), .v (.int .i64)], [.bool], d_graph_joined⟩
theorem ok46 : OkFun E F46 :=
  OkFun.of (fn := Try.f46) (rs := [.tmp 6]) ((59, F59) :: []) [(3, (.ptr .imm (.st (.pr (.slc .bor (.slc .bor (.int .i64))) .nil))))] [] (.keep [0, 1, 2] (.two .none (.leaf) (.two .none (.leaf) (.two .none (.leaf) (.leaf))))) Try.func46 (by kernel_rfl) (by kernel_rfl) (by kernel_rfl) Try.call46 (tbl_cons ok59 tbl_nil) (by intro a; kernel_rfl)
noncomputable def F33 : Fun := ⟨33, [.v (.st (.pr (.slc .bor (.slc .bor (.int .i64))) .nil))], [(.int .i64)], d_graph_Check⟩
theorem ok33 : OkFun E F33 :=
  OkFun.of (fn := Try.f33) (rs := [.tmp 2]) ((46, F46) :: (45, F45) :: []) [(1, (.ptr .imm (.st (.pr (.slc .bor (.slc .bor (.int .i64))) .nil))))] [] (.keep [0] (.two .none (.leaf) (.two .none (.leaf) (.two .none (.two .none (.leaf) (.two .none (.two .none (.leaf) (.leaf)) (.leaf))) (.two .none (.two .none (.leaf) (.one (.keep [1, 3, 16, 17] (.loop ⟨[(18, .v (.int .i64))], []⟩ (.xr 0 ⟨[], []⟩) (.two .none (.leaf) (.two .none (.two .none (.leaf) (.leaf)) (.two (.xr [18] ⟨[], []⟩) (.one (.two .none (.leaf) (.two .none (.leaf) (.two .none (.two .none (.leaf) (.leaf)) (.leaf))))) (.leaf)))))))) (.two .none (.two .none (.leaf) (.one (.keep [1, 35, 36] (.loop ⟨[(37, .v (.int .i64))], []⟩ (.xr 2 ⟨[], []⟩) (.two .none (.leaf) (.two .none (.two .none (.leaf) (.leaf)) (.two .none (.one (.two .none (.leaf) (.two .none (.leaf) (.one (.keep [6, 37, 42, 43] (.loop ⟨[(44, .v (.int .i64))], []⟩ (.xr 4 ⟨[], []⟩) (.two .none (.leaf) (.two .none (.two .none (.leaf) (.leaf)) (.two .none (.one (.two .none (.leaf) (.two .none (.leaf) (.two .none (.two .none (.leaf) (.leaf)) (.leaf))))) (.leaf)))))))))) (.leaf)))))))) (.two .none (.leaf) (.leaf)))))))) Try.func33 (by kernel_rfl) (by kernel_rfl) (by kernel_rfl) Try.call33 (tbl_cons ok46 (tbl_cons ok45 tbl_nil)) (by intro a; kernel_rfl)
noncomputable def F60 : Fun := ⟨60, [.v (.int .i64)], [(.osl (.osl .bool))], d_graph_NewSets⟩
theorem ok60 : OkFun E F60 :=
  OkFun.of (fn := Try.f60) (rs := [.tmp 2]) ([]) [(6, (.osl (.osl .bool))), (15, (.osl .bool))] [] (.keep [0] (.two .none (.leaf) (.two .none (.leaf) (.two .none (.two .none (.leaf) (.one (.keep [8] (.loop ⟨[(3, .s (.ref 3 [])), (9, .v (.int .i64))], [(3, (.osl (.osl .bool)))]⟩ (.x 0 ⟨[(3, .s (.ref 3 []))], [(3, (.osl (.osl .bool)))]⟩) (.two .none (.leaf) (.two .none (.two .none (.leaf) (.leaf)) (.two .none (.one (.two .none (.leaf) (.leaf))) (.leaf)))))))) (.two .none (.leaf) (.leaf)))))) Try.func60 (by kernel_rfl) (by kernel_rfl) (by kernel_rfl) Try.call60 tbl_nil (by intro a; kernel_rfl)
noncomputable def F48 : Fun := ⟨48, [.m (.osl (.osl .bool)), .v (.int .i64), .v (.int .i64)], [], d_graph_Sets_Join⟩
theorem ok48 : OkFun E F48 :=
  OkFun.of (fn := Try.f48) (rs := []) ([]) [] [] (.keep [1, 2] (.two .none (.leaf) (.two .none (.draw [⟨0, [9], [0], [], [500000], []⟩, ⟨1, [10], [1], [], [], []⟩, ⟨2, [11], [9, 10], [0, 1], [0], []⟩, ⟨3, [12], [11], [2], [0], []⟩, ⟨4, [13], [2], [], [], []⟩, ⟨5, [14], [0], [], [500000], []⟩, ⟨6, [15], [2], [], [], []⟩, ⟨7, [16], [14, 15], [5, 6], [0], []⟩, ⟨8, [17], [16], [7], [0], []⟩, ⟨9, [18], [1], [], [], []⟩, ⟨10, [19], [12, 13], [3, 4, 0, 1, 2, 3, 4, 8], [0], []⟩, ⟨11, [], [19], [10, 0, 1, 2, 3, 4, 8], [0], [0]⟩, ⟨12, [20], [17, 18], [8, 9, 0, 1, 2, 3, 4, 5, 6, 7, 8, 9, 10, 11], [0], []⟩, ⟨13, [], [20], [12, 11, 0, 1, 2, 3, 4, 5, 6, 7, 8, 9, 10, 11], [0], [0]⟩]) (.leaf)))) Try.func48 (by kernel_rfl) (by kernel_rfl) (by kernel_rfl) Try.call48 tbl_nil (by intro a; kernel_rfl)
noncomputable def F47 : Fun := ⟨47, [.v (.st (.pr (.slc .bor (.slc .bor (.int .i64))) .nil))], [(.osl (.osl .bool))], d_graph_Table⟩
theorem ok47 : OkFun E F47 :=
  OkFun.of (fn := Try.f47) (rs := [.tmp 2]) ((60, F60) :: (48, F48) :: []) [(1, (.ptr .imm (.st (.pr (.slc .bor (.slc .bor (.int .i64))) .nil))))] [] (.keep [0] (.two .none (.leaf) (.two .none (.leaf) (.two .none (.two .none (.leaf) (.one (.keep [13, 14] (.loop ⟨[(3, .s (.ref 3 [])), (15, .v (.int .i64))], [(3, (.osl (.osl .bool)))]⟩ (.x 0 ⟨[(3, .s (.ref 3 []))], [(3, (.osl (.osl .bool)))]⟩) (.two .none (.leaf) (.two .none (.two .none (.leaf) (.leaf)) (.two .none (.one (.two .none (.leaf) (.two .none (.leaf) (.one (.keep [4, 15, 20, 21] (.loop ⟨[(3, .s (.ref 3 [])), (22, .v (.int .i64))], [(3, (.osl (.osl .bool)))]⟩ (.x 2 ⟨[(3, .s (.ref 3 []))], [(3, (.osl (.osl .bool)))]⟩) (.two .none (.leaf) (.two .none (.two .none (.leaf) (.leaf)) (.two .none (.one (.two .none (.leaf) (.leaf))) (.leaf)))))))))) (.leaf)))))))) (.two .none (.leaf) (.leaf)))))) Try.func47 (by kernel_rfl) (by kernel_rfl) (by kernel_rfl) Try.call47 (tbl_cons ok60 (tbl_cons ok48 tbl_nil)) (by intro a; kernel_rfl)
noncomputable def F34 : Fun := ⟨34, [.v (.st (.pr (.slc .bor (.slc .bor (.int .i64))) .nil))], [(.optr (.st (.pr (.osl (.osl .bool)) (.pr (.osl .bool) .nil))))], d_mindeg_Start⟩
theorem ok34 : OkFun E F34 :=
  OkFun.of (fn := Try.f34) (rs := [.tmp 2]) ((47, F47) :: []) [(1, (.ptr .imm (.st (.pr (.slc .bor (.slc .bor (.int .i64))) .nil)))), (8, (.osl .bool))] [] (.keep [0] (.two .none (.leaf) (.two .none (.draw [⟨0, [3], [1], [], [], []⟩, ⟨1, [4], [3], [0], [4], [4]⟩, ⟨2, [5], [1], [], [], []⟩, ⟨3, [6], [5], [2], [], []⟩, ⟨4, [7], [6], [3], [], []⟩, ⟨5, [8], [7, 7], [4, 4], [8], [8]⟩, ⟨6, [9], [4, 8], [1, 5], [4, 8, 9], [4, 8, 9, 500004, 500008]⟩, ⟨7, [10], [9], [6], [9, 10], [9, 10, 500009]⟩, ⟨8, [2], [10], [7, 1, 0, 1, 2, 3, 4, 5, 6, 7], [2, 10], [2, 10, 500002, 500010]⟩]) (.leaf)))) Try.func34 (by kernel_rfl) (by kernel_rfl) (by kernel_rfl) Try.call34 (tbl_cons ok47 tbl_nil) (by intro a; kernel_rfl)
noncomputable def F35 : Fun := ⟨35, [.v (.slc .bor (.slc .bor .bool)), .v (.int .i64)], [(.osl (.int .i64))], d_graph_Sets_List⟩
theorem ok35 : OkFun E F35 :=
  OkFun.of (fn := Try.f35) (rs := [.tmp 4]) ([]) [(5, (.osl (.int .i64)))] [] (.keep [0, 1] (.two .none (.leaf) (.two .none (.leaf) (.two .none (.two .none (.leaf) (.one (.keep [11, 12] (.loop ⟨[(5, .s (.ref 5 [])), (13, .v (.int .i64))], [(5, (.osl (.int .i64)))]⟩ (.x 0 ⟨[(5, .s (.ref 5 []))], [(5, (.osl (.int .i64)))]⟩) (.two .none (.leaf) (.two .none (.two .none (.leaf) (.leaf)) (.two (.x [13] ⟨[(5, .s (.ref 5 []))], [(5, (.osl (.int .i64)))]⟩) (.one (.two .none (.leaf) (.two .none (.leaf) (.two .none (.leaf) (.leaf))))) (.leaf)))))))) (.two .none (.leaf) (.leaf)))))) Try.func35 (by kernel_rfl) (by kernel_rfl) (by kernel_rfl) Try.call35 tbl_nil (by intro a; kernel_rfl)
noncomputable def F36 : Fun := ⟨36, [.m (.optr (.st (.pr (.osl (.osl .bool)) (.pr (.osl .bool) .nil)))), .v (.int .i64)], [(.slc .imm (.int .i64))], d_mindeg_Elimination_Eliminate⟩
theorem ok36 : OkFun E F36 :=
  OkFun.of (fn := Try.f36) (rs := [.tmp 4]) ((48, F48) :: (35, F35) :: []) [(5, (.slc .imm (.int .i64)))] [(5, 15)] (.keep [1] (.two .none (.leaf) (.two .none (.leaf) (.two .none (.two .none (.leaf) (.one (.keep [5, 16, 17] (.loop ⟨[(0, .s (.ref 0 [])), (18, .v (.int .i64))], [(0, (.optr (.st (.pr (.osl (.osl .bool)) (.pr (.osl .bool) .nil)))))]⟩ (.x 0 ⟨[(0, .s (.ref 0 []))], [(0, (.optr (.st (.pr (.osl (.osl .bool)) (.pr (.osl .bool) .nil)))))]⟩) (.two .none (.leaf) (.two .none (.two .none (.leaf) (.leaf)) (.two .none (.one (.two .none (.leaf) (.two .none (.two .none (.leaf) (.one (.keep [7, 18, 25, 26] (.loop ⟨[(0, .s (.ref 0 [])), (27, .v (.int .i64))], [(0, (.optr (.st (.pr (.osl (.osl .bool)) (.pr (.osl .bool) .nil)))))]⟩ (.x 2 ⟨[(0, .s (.ref 0 []))], [(0, (.optr (.st (.pr (.osl (.osl .bool)) (.pr (.osl .bool) .nil)))))]⟩) (.two .none (.leaf) (.two .none (.two .none (.leaf) (.leaf)) (.two .none (.one (.two .none (.leaf) (.leaf))) (.leaf)))))))) (.draw [⟨0, [39], [0], [], [500000], []⟩, ⟨1, [40], [39], [0], [0], []⟩, ⟨2, [41], [40], [1], [0], []⟩, ⟨3, [42], [41], [2], [0], []⟩, ⟨4, [43], [7], [], [], []⟩, ⟨5, [44], [42, 43], [3, 4], [0], []⟩, ⟨6, [45], [44], [5], [0], []⟩, ⟨7, [46], [1], [], [], []⟩, ⟨8, [47], [0], [], [500000], []⟩, ⟨9, [48], [47], [8], [0], []⟩, ⟨10, [49], [48], [9], [0], []⟩, ⟨11, [50], [49], [10], [0], []⟩, ⟨12, [51], [1], [], [], []⟩, ⟨13, [52], [50, 51], [11, 12], [0], []⟩, ⟨14, [53], [52], [13], [0], []⟩, ⟨15, [54], [7], [], [], []⟩, ⟨16, [55], [45, 46], [6, 7, 0, 1, 2, 3, 4, 5, 6, 7, 11, 14], [0], []⟩, ⟨17, [], [55], [16, 0, 1, 2, 3, 4, 5, 6, 7, 11, 14], [0], [0]⟩, ⟨18, [56], [53, 54], [14, 15, 0, 1, 2, 3, 4, 5, 6, 7, 8, 9, 10, 11, 12, 13, 14, 15, 16, 17], [0], []⟩, ⟨19, [], [56], [18, 17, 0, 1, 2, 3, 4, 5, 6, 7, 8, 9, 10, 11, 12, 13, 14, 15, 16, 17], [0], [0]⟩])))) (.leaf)))))))) (.two .none (.leaf) (.two .none (.leaf) (.leaf))))))) Try.func36 (by kernel_rfl) (by kernel_rfl) (by kernel_rfl) Try.call36 (tbl_cons ok48 (tbl_cons ok35 tbl_nil)) (by intro a; kernel_rfl)
noncomputable def F14 : Fun := ⟨14, [.v (.st (.pr (.slc .bor (.slc .bor (.int .i64))) .nil))], [(.osl (.int .i64)), (.int .i64)], d_mindeg_Exact⟩
theorem ok14 : OkFun E F14 :=
  OkFun.of (fn := Try.f14) (rs := [.tmp 2, .tmp 3]) ((36, F36) :: (35, F35) :: (34, F34) :: (33, F33) :: []) [(1, (.ptr .imm (.st (.pr (.slc .bor (.slc .bor (.int .i64))) .nil)))), (6, (.osl (.int .i64))), (2, (.osl (.int .i64)))] [] (.keep [0] (.two .none (.leaf) (.two .none (.leaf) (.two .none (.two .none (.leaf) (.two .none (.two .none (.leaf) (.leaf)) (.leaf))) (.two .none (.leaf) (.two .none (.leaf) (.two .none (.two .none (.leaf) (.one (.keep [1, 20] (.loop ⟨[(5, .s (.ref 5 [])), (6, .s (.ref 6 [])), (21, .v (.int .i64))], [(5, (.optr (.st (.pr (.osl (.osl .bool)) (.pr (.osl .bool) .nil))))), (6, (.osl (.int .i64)))]⟩ (.x 0 ⟨[(6, .s (.ref 6 []))], [(6, (.osl (.int .i64)))]⟩) (.two .none (.leaf) (.two .none (.two .none (.leaf) (.leaf)) (.two .none (.one (.two .none (.leaf) (.two .none (.two .none (.leaf) (.one (.keep [21, 25] (.loop ⟨[(5, .s (.ref 5 [])), (6, .s (.ref 6 [])), (7, .v (.int .i64)), (8, .v (.int .i64)), (26, .v (.int .i64))], [(5, (.optr (.st (.pr (.osl (.osl .bool)) (.pr (.osl .bool) .nil))))), (6, (.osl (.int .i64)))]⟩ (.x 2 ⟨[(5, .s (.ref 5 [])), (6, .s (.ref 6 [])), (7, .v (.int .i64))], [(5, (.optr (.st (.pr (.osl (.osl .bool)) (.pr (.osl .bool) .nil))))), (6, (.osl (.int .i64)))]⟩) (.two .none (.leaf) (.two .none (.two .none (.leaf) (.leaf)) (.two (.x [26] ⟨[(5, .s (.ref 5 [])), (6, .s (.ref 6 [])), (7, .v (.int .i64)), (8, .v (.int .i64))], [(5, (.optr (.st (.pr (.osl (.osl .bool)) (.pr (.osl .bool) .nil))))), (6, (.osl (.int .i64)))]⟩) (.one (.two .none (.leaf) (.two .none (.leaf) (.two (.x [7, 8, 9, 10] ⟨[(5, .s (.ref 5 [])), (6, .s (.ref 6 [])), (52, .v .bool)], [(5, (.optr (.st (.pr (.osl (.osl .bool)) (.pr (.osl .bool) .nil))))), (6, (.osl (.int .i64)))]⟩) (.leaf) (.two .none (.leaf) (.leaf)))))) (.leaf)))))))) (.two .none (.leaf) (.leaf))))) (.leaf)))))))) (.two .none (.leaf) (.leaf))))))))) Try.func14 (by kernel_rfl) (by kernel_rfl) (by kernel_rfl) Try.call14 (tbl_cons ok36 (tbl_cons ok35 (tbl_cons ok34 (tbl_cons ok33 tbl_nil)))) (by intro a; kernel_rfl)
noncomputable def F52 : Fun := ⟨52, [.v (.st (.pr (.slc .bor (.slc .bor (.int .i64))) .nil)), .v (.int .i64)], [.bool], d_graph_vertex⟩
theorem ok52 : OkFun E F52 :=
  OkFun.of (fn := Try.f52) (rs := [.tmp 4]) ([]) [(2, (.ptr .imm (.st (.pr (.slc .bor (.slc .bor (.int .i64))) .nil))))] [] (.keep [0, 1] (.two .none (.leaf) (.two .none (.leaf) (.leaf)))) Try.func52 (by kernel_rfl) (by kernel_rfl) (by kernel_rfl) Try.call52 tbl_nil (by intro a; kernel_rfl)
noncomputable def F86 : Fun := ⟨86, [.v (.int .u64)], [(.int .i64)], d_math_bits_Len64⟩
theorem ok86 : OkFun E F86 :=
  OkFun.of (fn := Try.f86) (rs := [.tmp 2]) ([]) [] [] (.two .none (.leaf) (.two (.x [] ⟨[(0, .v (.int .u64)), (2, .v (.int .i64))], []⟩) (.two .none (.leaf) (.two .none (.two .none (.leaf) (.leaf)) (.leaf))) (.two (.x [] ⟨[(0, .v (.int .u64)), (2, .v (.int .i64))], []⟩) (.two .none (.leaf) (.two .none (.two .none (.leaf) (.leaf)) (.leaf))) (.two (.x [] ⟨[(0, .v (.int .u64)), (2, .v (.int .i64))], []⟩) (.two .none (.leaf) (.two .none (.two .none (.leaf) (.leaf)) (.leaf))) (.two .none (.leaf) (.leaf)))))) Try.func86 (by kernel_rfl) (by kernel_rfl) (by kernel_rfl) Try.call86 tbl_nil (by intro a; kernel_rfl)
noncomputable def F76 : Fun := ⟨76, [.v (.int .u64)], [(.int .i64)], d_math_bits_Len⟩
theorem ok76 : OkFun E F76 :=
  OkFun.of (fn := Try.f76) (rs := [.tmp 2]) ((86, F86) :: []) [] [] (.keep [0] (.two .none (.leaf) (.two .none (.two .none (.two .none (.leaf) (.leaf)) (.leaf)) (.two .none (.leaf) (.leaf))))) Try.func76 (by kernel_rfl) (by kernel_rfl) (by kernel_rfl) Try.call76 (tbl_cons ok86 tbl_nil) (by intro a; kernel_rfl)
noncomputable def F77 : Fun := ⟨77, [.m (.osl (.int .i64)), .v (.int .i64), .v (.int .i64)], [], d_slices_insertionSortOrdered_int⟩
theorem ok77 : OkFun E F77 :=
  OkFun.of (fn := Try.f77) (rs := []) ((67, F67) :: []) [] [] (.keep [1, 2] (.two .none (.leaf) (.one (.loop ⟨[(0, .s (.ref 0 [])), (6, .v (.int .i64))], [(0, (.osl (.int .i64)))]⟩ (.x 0 ⟨[(0, .s (.ref 0 []))], [(0, (.osl (.int .i64)))]⟩) (.two .none (.two .none (.leaf) (.two .none (.leaf) (.leaf))) (.two .none (.one (.two .none (.leaf) (.one (.keep [6] (.loop ⟨[(0, .s (.ref 0 [])), (7, .v (.int .i64))], [(0, (.osl (.int .i64)))]⟩ (.x 2 ⟨[(0, .s (.ref 0 []))], [(0, (.osl (.int .i64)))]⟩) (.two (.xr [7] ⟨[(0, .s (.ref 0 []))], [(0, (.osl (.int .i64)))]⟩) (.two .none (.draw [⟨0, [16], [7], [], [], []⟩, ⟨1, [17], [1], [], [], []⟩, ⟨2, [18], [16, 17], [0, 1], [], []⟩, ⟨3, [19], [18], [2], [], []⟩, ⟨4, [20], [0, 19], [3], [500000], []⟩, ⟨5, [21], [7, 19], [3], [], []⟩, ⟨6, [22], [20, 21, 19], [4, 5, 3], [0], []⟩, ⟨7, [23], [22, 19], [6, 3], [0], []⟩, ⟨8, [24], [0, 19], [3], [500000], []⟩, ⟨9, [25], [7, 19], [3], [], []⟩, ⟨10, [26], [25, 19], [9, 3], [], []⟩, ⟨11, [27], [24, 26, 19], [8, 10, 3], [0], []⟩, ⟨12, [28], [27, 19], [11, 3], [0], []⟩, ⟨13, [29], [23, 28, 19], [7, 12, 3, 3], [], []⟩, ⟨14, [30], [19, 29], [3, 13], [], []⟩]) (.two .none (.leaf) (.leaf))) (.two .none (.one (.draw [⟨0, [33], [0], [], [500000], []⟩, ⟨1, [34], [7], [], [], []⟩, ⟨2, [35], [0], [], [500000], []⟩, ⟨3, [36], [7], [], [], []⟩, ⟨4, [37], [36], [3], [], []⟩, ⟨5, [38], [0], [], [500000], []⟩, ⟨6, [39], [7], [], [], []⟩, ⟨7, [40], [39], [6], [], []⟩, ⟨8, [41], [38, 40], [5, 7], [0], []⟩, ⟨9, [42], [41], [8], [0], []⟩, ⟨10, [43], [0], [], [500000], []⟩, ⟨11, [44], [7], [], [], []⟩, ⟨12, [45], [43, 44], [10, 11], [0], []⟩, ⟨13, [46], [45], [12], [0], []⟩, ⟨14, [47], [33, 34], [0, 1, 0, 1, 5, 6, 7, 8, 9, 13], [0], []⟩, ⟨15, [], [47, 42], [14, 9, 0, 1, 5, 6, 7, 8, 9, 13], [0], [0]⟩, ⟨16, [48], [35, 37], [2, 4, 0, 1, 2, 3, 4, 5, 6, 7, 8, 9, 10, 11, 12, 13, 14, 15], [0], []⟩, ⟨17, [], [48, 46], [16, 13, 15, 0, 1, 2, 3, 4, 5, 6, 7, 8, 9, 10, 11, 12, 13, 14, 15], [0], [0]⟩])) (.leaf)))))))) (.leaf))))))) Try.func77 (by kernel_rfl) (by kernel_rfl) (by kernel_rfl) Try.call77 (tbl_cons ok67 tbl_nil) (by intro a; kernel_rfl)
noncomputable def F87 : Fun := ⟨87, [.m (.osl (.int .i64)), .v (.int .i64), .v (.int .i64), .v (.int .i64)], [], d_slices_siftDownOrdered_int⟩
theorem ok87 : OkFun E F87 :=
  OkFun.of (fn := Try.f87) (rs := []) ((67, F67) :: []) [] [] (.keep [1, 2, 3] (.two .none (.leaf) (.one (.loop ⟨[(0, .s (.ref 0 [])), (8, .v (.int .i64))], [(0, (.osl (.int .i64)))]⟩ (.xr 0 ⟨[(0, .s (.ref 0 []))], [(0, (.osl (.int .i64)))]⟩) (.one (.two .none (.leaf) (.two .none (.two .none (.leaf) (.two .none (.leaf) (.leaf))) (.two (.x [8] ⟨[(0, .s (.ref 0 [])), (9, .v (.int .i64))], [(0, (.osl (.int .i64)))]⟩) (.two (.x [9] ⟨[(0, .s (.ref 0 [])), (36, .v .bool)], [(0, (.osl (.int .i64)))]⟩) (.draw [⟨0, [17], [9], [], [], []⟩, ⟨1, [18], [17], [0], [], []⟩, ⟨2, [19], [2], [], [], []⟩, ⟨3, [20], [18, 19], [1, 2], [], []⟩, ⟨4, [21], [20], [3], [], []⟩, ⟨5, [22], [0, 21], [4], [500000], []⟩, ⟨6, [23], [3, 21], [4], [], []⟩, ⟨7, [24], [9, 21], [4], [], []⟩, ⟨8, [25], [23, 24, 21], [6, 7, 4], [], []⟩, ⟨9, [26], [22, 25, 21], [5, 8, 4], [0], []⟩, ⟨10, [27], [26, 21], [9, 4], [0], []⟩, ⟨11, [28], [0, 21], [4], [500000], []⟩, ⟨12, [29], [3, 21], [4], [], []⟩, ⟨13, [30], [9, 21], [4], [], []⟩, ⟨14, [31], [29, 30, 21], [12, 13, 4], [], []⟩, ⟨15, [32], [31, 21], [14, 4], [], []⟩, ⟨16, [33], [28, 32, 21], [11, 15, 4], [0], []⟩, ⟨17, [34], [33, 21], [16, 4], [0], []⟩, ⟨18, [35], [27, 34, 21], [10, 17, 4, 4], [], []⟩, ⟨19, [36], [21, 35], [4, 18], [], []⟩]) (.two .none (.leaf) (.leaf))) (.two .none (.two .none (.draw [⟨0, [39], [0], [], [500000], []⟩, ⟨1, [40], [3], [], [], []⟩, ⟨2, [41], [8], [], [], []⟩, ⟨3, [42], [40, 41], [1, 2], [], []⟩, ⟨4, [43], [39, 42], [0, 3], [0], []⟩, ⟨5, [44], [43], [4], [0], []⟩, ⟨6, [45], [0], [], [500000], []⟩, ⟨7, [46], [3], [], [], []⟩, ⟨8, [47], [9], [], [], []⟩, ⟨9, [48], [46, 47], [7, 8], [], []⟩, ⟨10, [49], [45, 48], [6, 9], [0], []⟩, ⟨11, [50], [49], [10], [0], []⟩, ⟨12, [51], [44, 50], [5, 11], [], []⟩, ⟨13, [52], [51], [12], [], []⟩]) (.two .none (.leaf) (.leaf))) (.two .none (.draw [⟨0, [53], [0], [], [500000], []⟩, ⟨1, [54], [3], [], [], []⟩, ⟨2, [55], [8], [], [], []⟩, ⟨3, [56], [54, 55], [1, 2], [], []⟩, ⟨4, [57], [0], [], [500000], []⟩, ⟨5, [58], [3], [], [], []⟩, ⟨6, [59], [9], [], [], []⟩, ⟨7, [60], [58, 59], [5, 6], [], []⟩, ⟨8, [61], [0], [], [500000], []⟩, ⟨9, [62], [3], [], [], []⟩, ⟨10, [63], [9], [], [], []⟩, ⟨11, [64], [62, 63], [9, 10], [], []⟩, ⟨12, [65], [61, 64], [8, 11], [0], []⟩, ⟨13, [66], [65], [12], [0], []⟩, ⟨14, [67], [0], [], [500000], []⟩, ⟨15, [68], [3], [], [], []⟩, ⟨16, [69], [8], [], [], []⟩, ⟨17, [70], [68, 69], [15, 16], [], []⟩, ⟨18, [71], [67, 70], [14, 17], [0], []⟩, ⟨19, [72], [71], [18], [0], []⟩, ⟨20, [73], [53, 56], [0, 3, 0, 1, 2, 3, 8, 9, 10, 11, 12, 13, 19], [0], []⟩, ⟨21, [], [73, 66], [20, 13, 0, 1, 2, 3, 8, 9, 10, 11, 12, 13, 19], [0], [0]⟩, ⟨22, [74], [57, 60], [4, 7, 0, 1, 2, 3, 4, 5, 6, 7, 8, 9, 10, 11, 12, 13, 14, 15, 16, 17, 18, 19, 20, 21], [0], []⟩, ⟨23, [], [74, 72], [22, 19, 21, 0, 1, 2, 3, 4, 5, 6, 7, 8, 9, 10, 11, 12, 13, 14, 15, 16, 17, 18, 19, 20, 21], [0], [0]⟩]) (.leaf))))))))))) Try.func87 (by kernel_rfl) (by kernel_rfl) (by kernel_rfl) Try.call87 (tbl_cons ok67 tbl_nil) (by intro a; kernel_rfl)
noncomputable def F78 : Fun := ⟨78, [.m (.osl (.int .i64)), .v (.int .i64), .v (.int .i64)], [], d_slices_heapSortOrdered_int⟩
theorem ok78 : OkFun E F78 :=
  OkFun.of (fn := Try.f78) (rs := []) ((87, F87) :: []) [] [] (.keep [1, 2] (.two .none (.leaf) (.two .none (.leaf) (.two .none (.leaf) (.two .none (.two .none (.leaf) (.one (.keep [6, 7, 8] (.loop ⟨[(0, .s (.ref 0 [])), (9, .v (.int .i64))], [(0, (.osl (.int .i64)))]⟩ (.x 0 ⟨[(0, .s (.ref 0 []))], [(0, (.osl (.int .i64)))]⟩) (.two .none (.two .none (.leaf) (.two .none (.leaf) (.leaf))) (.two .none (.one (.leaf)) (.leaf))))))) (.two .none (.leaf) (.one (.keep [6, 7] (.loop ⟨[(0, .s (.ref 0 [])), (10, .v (.int .i64))], [(0, (.osl (.int .i64)))]⟩ (.x 2 ⟨[(0, .s (.ref 0 []))], [(0, (.osl (.int .i64)))]⟩) (.two .none (.two .none (.leaf) (.two .none (.leaf) (.leaf))) (.two .none (.one (.two .none (.draw [⟨0, [33], [0], [], [500000], []⟩, ⟨1, [34], [6], [], [], []⟩, ⟨2, [35], [0], [], [500000], []⟩, ⟨3, [36], [6], [], [], []⟩, ⟨4, [37], [10], [], [], []⟩, ⟨5, [38], [36, 37], [3, 4], [], []⟩, ⟨6, [39], [0], [], [500000], []⟩, ⟨7, [40], [6], [], [], []⟩, ⟨8, [41], [10], [], [], []⟩, ⟨9, [42], [40, 41], [7, 8], [], []⟩, ⟨10, [43], [39, 42], [6, 9], [0], []⟩, ⟨11, [44], [43], [10], [0], []⟩, ⟨12, [45], [0], [], [500000], []⟩, ⟨13, [46], [6], [], [], []⟩, ⟨14, [47], [45, 46], [12, 13], [0], []⟩, ⟨15, [48], [47], [14], [0], []⟩, ⟨16, [49], [33, 34], [0, 1, 0, 1, 6, 7, 8, 9, 10, 11, 15], [0], []⟩, ⟨17, [], [49, 44], [16, 11, 0, 1, 6, 7, 8, 9, 10, 11, 15], [0], [0]⟩, ⟨18, [50], [35, 38], [2, 5, 0, 1, 2, 3, 4, 5, 6, 7, 8, 9, 10, 11, 12, 13, 14, 15, 16, 17], [0], []⟩, ⟨19, [], [50, 48], [18, 15, 17, 0, 1, 2, 3, 4, 5, 6, 7, 8, 9, 10, 11, 12, 13, 14, 15, 16, 17], [0], [0]⟩]) (.leaf))) (.leaf)))))))))))) Try.func78 (by kernel_rfl) (by kernel_rfl) (by kernel_rfl) Try.call78 (tbl_cons ok87 tbl_nil) (by intro a; kernel_rfl)
noncomputable def F88 : Fun := ⟨88, [.v (.int .i64)], [(.int .u64)], d_slices_nextPowerOfTwo⟩
theorem ok88 : OkFun E F88 :=
  OkFun.of (fn := Try.f88) (rs := [.tmp 2]) ((76, F76) :: []) [] [] (.keep [0] (.two .none (.leaf) (.two .none (.leaf) (.leaf)))) Try.func88 (by kernel_rfl) (by kernel_rfl) (by kernel_rfl) Try.call88 (tbl_cons ok76 tbl_nil) (by intro a; kernel_rfl)
noncomputable def F89 : Fun := ⟨89, [.m (.optr (.int .u64))], [(.int .u64)], d_slices_xorshift_Next⟩
theorem ok89 : OkFun E F89 :=
  OkFun.of (fn := Try.f89) (rs := [.tmp 2]) ([]) [] [] (.two .none (.leaf) (.two .none (.draw [⟨0, [3], [0], [], [500000], []⟩, ⟨1, [4], [3], [0], [0], []⟩, ⟨2, [5], [4], [1], [0], []⟩, ⟨3, [6], [0], [], [500000], []⟩, ⟨4, [7], [6], [3], [0], []⟩, ⟨5, [8], [7], [4], [0], []⟩, ⟨6, [9], [8], [5], [], []⟩, ⟨7, [10], [5, 9], [2, 6], [], []⟩, ⟨8, [11], [3], [0, 0, 1, 2, 3, 4, 5, 6, 7], [0], []⟩, ⟨9, [], [11, 10], [8, 7, 0, 1, 2, 3, 4, 5, 6, 7], [0], [0]⟩]) (.two .none (.draw [⟨0, [12], [0], [], [500000], []⟩, ⟨1, [13], [12], [0], [0], []⟩, ⟨2, [14], [13], [1], [0], []⟩, ⟨3, [15], [0], [], [500000], []⟩, ⟨4, [16], [15], [3], [0], []⟩, ⟨5, [17], [16], [4], [0], []⟩, ⟨6, [18], [17], [5], [], []⟩, ⟨7, [19], [14, 18], [2, 6], [], []⟩, ⟨8, [20], [12], [0, 0, 1, 2, 3, 4, 5, 6, 7], [0], []⟩, ⟨9, [], [20, 19], [8, 7, 0, 1, 2, 3, 4, 5, 6, 7], [0], [0]⟩]) (.two .none (.draw [⟨0, [21], [0], [], [500000], []⟩, ⟨1, [22], [21], [0], [0], []⟩, ⟨2, [23], [22], [1], [0], []⟩, ⟨3, [24], [0], [], [500000], []⟩, ⟨4, [25], [24], [3], [0], []⟩, ⟨5, [26], [25], [4], [0], []⟩, ⟨6, [27], [26], [5], [], []⟩, ⟨7, [28], [23, 27], [2, 6], [], []⟩, ⟨8, [29], [21], [0, 0, 1, 2, 3, 4, 5, 6, 7], [0], []⟩, ⟨9, [], [29, 28], [8, 7, 0, 1, 2, 3, 4, 5, 6, 7], [0], [0]⟩]) (.two .none (.leaf) (.leaf)))))) Try.func89 (by kernel_rfl) (by kernel_rfl) (by kernel_rfl) Try.call89 tbl_nil (by intro a; kernel_rfl)
noncomputable def F79 : Fun := ⟨79, [.m (.osl (.int .i64)), .v (.int .i64), .v (.int .i64)], [], d_slices_breakPatternsOrdered_int⟩
theorem ok79 : OkFun E F79 :=
  OkFun.of (fn := Try.f79) (rs := []) ((89, F89) :: (88, F88) :: []) [(7, (.int .u64))] [] (.keep [1, 2] (.two .none (.leaf) (.two .none (.leaf) (.two .none (.two .none (.leaf) (.two .none (.leaf) (.two .none (.leaf) (.one (.keep [6, 8] (.loop ⟨[(0, .s (.ref 0 [])), (7, .s (.ref 7 [])), (9, .v (.int .i64))], [(0, (.osl (.int .i64))), (7, (.optr (.int .u64)))]⟩ (.x 0 ⟨[(0, .s (.ref 0 []))], [(0, (.osl (.int .i64)))]⟩) (.two .none (.two .none (.leaf) (.two .none (.leaf) (.leaf))) (.two (.x [9] ⟨[(0, .s (.ref 0 [])), (7, .s (.ref 7 []))], [(0, (.osl (.int .i64))), (7, (.optr (.int .u64)))]⟩) (.one (.two .none (.leaf) (.two (.x [] ⟨[(0, .s (.ref 0 [])), (7, .s (.ref 7 [])), (10, .v (.int .i64))], [(0, (.osl (.int .i64))), (7, (.optr (.int .u64)))]⟩) (.two .none (.leaf) (.two .none (.leaf) (.leaf))) (.draw [⟨0, [47], [0], [], [500000], []⟩, ⟨1, [48], [9], [], [], []⟩, ⟨2, [49], [0], [], [500000], []⟩, ⟨3, [50], [1], [], [], []⟩, ⟨4, [51], [10], [], [], []⟩, ⟨5, [52], [50, 51], [3, 4], [], []⟩, ⟨6, [53], [0], [], [500000], []⟩, ⟨7, [54], [1], [], [], []⟩, ⟨8, [55], [10], [], [], []⟩, ⟨9, [56], [54, 55], [7, 8], [], []⟩, ⟨10, [57], [53, 56], [6, 9], [0], []⟩, ⟨11, [58], [57], [10], [0], []⟩, ⟨12, [59], [0], [], [500000], []⟩, ⟨13, [60], [9], [], [], []⟩, ⟨14, [61], [59, 60], [12, 13], [0], []⟩, ⟨15, [62], [61], [14], [0], []⟩, ⟨16, [63], [47, 48], [0, 1, 0, 1, 6, 7, 8, 9, 10, 11, 15], [0], []⟩, ⟨17, [], [63, 58], [16, 11, 0, 1, 6, 7, 8, 9, 10, 11, 15], [0], [0]⟩, ⟨18, [64], [49, 52], [2, 5, 0, 1, 2, 3, 4, 5, 6, 7, 8, 9, 10, 11, 12, 13, 14, 15, 16, 17], [0], []⟩, ⟨19, [], [64, 62], [18, 15, 17, 0, 1, 2, 3, 4, 5, 6, 7, 8, 9, 10, 11, 12, 13, 14, 15, 16, 17], [0], [0]⟩])))) (.leaf))))))))) (.leaf))))) Try.func79 (by kernel_rfl) (by kernel_rfl) (by kernel_rfl) Try.call79 (tbl_cons ok89 (tbl_cons ok88 tbl_nil)) (by intro a; kernel_rfl)
noncomputable def F92 : Fun := ⟨92, [.v (.slc .bor (.int .i64)), .v (.int .i64), .v (.int .i64), .m (.optr (.int .i64))], [(.int .i64), (.int .i64)], d_slices_order2Ordered_int⟩
theorem ok92 : OkFun E F92 :=
  OkFun.of (fn := Try.f92) (rs := [.tmp 8, .tmp 9]) ((67, F67) :: []) [] [] (.keep [0, 1, 2] (.two .none (.leaf) (.two .none (.two .none (.draw [⟨0, [10], [0], [], [], []⟩, ⟨1, [11], [2], [], [], []⟩, ⟨2, [12], [10, 11], [0, 1], [], []⟩, ⟨3, [13], [12], [2], [], []⟩, ⟨4, [14], [0], [], [], []⟩, ⟨5, [15], [1], [], [], []⟩, ⟨6, [16], [14, 15], [4, 5], [], []⟩, ⟨7, [17], [16], [6], [], []⟩, ⟨8, [18], [13, 17], [3, 7], [], []⟩]) (.two .none (.two .none (.leaf) (.two .none (.leaf) (.leaf))) (.leaf))) (.two .none (.leaf) (.leaf))))) Try.func92 (by kernel_rfl) (by kernel_rfl) (by kernel_rfl) Try.call92 (tbl_cons ok67 tbl_nil) (by intro a; kernel_rfl)
noncomputable def F91 : Fun := ⟨91, [.v (.slc .bor (.int .i64)), .v (.int .i64), .v (.int .i64), .v (.int .i64), .m (.optr (.int .i64))], [(.int .i64)], d_slices_medianOrdered_int⟩
theorem ok91 : OkFun E F91 :=
  OkFun.of (fn := Try.f91) (rs := [.tmp 10]) ((92, F92) :: []) [] [] (.keep [0] (.two .none (.leaf) (.two .none (.leaf) (.two .none (.leaf) (.two .none (.leaf) (.two .none (.leaf) (.leaf))))))) Try.func91 (by kernel_rfl) (by kernel_rfl) (by kernel_rfl) Try.call91 (tbl_cons ok92 tbl_nil) (by intro a; kernel_rfl)
noncomputable def F90 : Fun := ⟨90, [.v (.slc .bor (.int .i64)), .v (.int .i64), .m (.optr (.int .i64))], [(.int .i64)], d_slices_medianAdjacentOrdered_int⟩
theorem ok90 : OkFun E F90 :=
  OkFun.of (fn := Try.f90) (rs := [.tmp 6]) ((91, F91) :: []) [] [] (.keep [0, 1] (.two .none (.leaf) (.two .none (.leaf) (.leaf)))) Try.func90 (by kernel_rfl) (by kernel_rfl) (by kernel_rfl) Try.call90 (tbl_cons ok91 tbl_nil) (by intro a; kernel_rfl)
noncomputable def F80 : Fun := ⟨80, [.v (.slc .bor (.int .i64)), .v (.int .i64), .v (.int .i64)], [(.int .i64), (.int .i64)], d_slices_choosePivotOrdered_int⟩
theorem ok80 : OkFun E F80 :=
  OkFun.of (fn := Try.f80) (rs := [.tmp 6, .tmp 7]) ((91, F91) :: (90, F90) :: []) [(9, (.int .i64))] [] (.keep [0, 1, 2] (.two .none (.leaf) (.two .none (.leaf) (.two .none (.leaf) (.two .none (.leaf) (.two .none (.leaf) (.two .none (.leaf) (.two (.x [] ⟨[(9, .s (.ref 9 [])), (11, .v (.int .i64))], [(9, (.optr (.int .i64)))]⟩) (.two .none (.leaf) (.two .none (.two (.x [] ⟨[(9, .s (.ref 9 [])), (10, .v (.int .i64)), (11, .v (.int .i64)), (12, .v (.int .i64))], [(9, (.optr (.int .i64)))]⟩) (.two .none (.leaf) (.two .none (.two .none (.leaf) (.two .none (.leaf) (.leaf))) (.leaf))) (.leaf)) (.leaf))) (.two .none (.leaf) (.one (.two .none (.leaf) (.two .none (.two .none (.leaf) (.leaf)) (.two .none (.leaf) (.two .none (.two .none (.leaf) (.leaf)) (.two .none (.leaf) (.leaf)))))))))))))))) Try.func80 (by kernel_rfl) (by kernel_rfl) (by kernel_rfl) Try.call80 (tbl_cons ok91 (tbl_cons ok90 tbl_nil)) (by intro a; kernel_rfl)
noncomputable def F81 : Fun := ⟨81, [.m (.osl (.int .i64)), .v (.int .i64), .v (.int .i64)], [], d_slices_reverseRangeOrdered_int⟩
theorem ok81 : OkFun E F81 :=
  OkFun.of (fn := Try.f81) (rs := []) ([]) [] [] (.keep [1, 2] (.two .none (.leaf) (.two .none (.leaf) (.one (.loop ⟨[(0, .s (.ref 0 [])), (6, .v (.int .i64)), (7, .v (.int .i64))], [(0, (.osl (.int .i64)))]⟩ (.x 0 ⟨[(0, .s (.ref 0 []))], [(0, (.osl (.int .i64)))]⟩) (.two .none (.two .none (.leaf) (.two .none (.leaf) (.leaf))) (.one (.two .none (.draw [⟨0, [14], [0], [], [500000], []⟩, ⟨1, [15], [6], [], [], []⟩, ⟨2, [16], [0], [], [500000], []⟩, ⟨3, [17], [7], [], [], []⟩, ⟨4, [18], [0], [], [500000], []⟩, ⟨5, [19], [7], [], [], []⟩, ⟨6, [20], [18, 19], [4, 5], [0], []⟩, ⟨7, [21], [20], [6], [0], []⟩, ⟨8, [22], [0], [], [500000], []⟩, ⟨9, [23], [6], [], [], []⟩, ⟨10, [24], [22, 23], [8, 9], [0], []⟩, ⟨11, [25], [24], [10], [0], []⟩, ⟨12, [26], [14, 15], [0, 1, 0, 1, 4, 5, 6, 7, 11], [0], []⟩, ⟨13, [], [26, 21], [12, 7, 0, 1, 4, 5, 6, 7, 11], [0], [0]⟩, ⟨14, [27], [16, 17], [2, 3, 0, 1, 2, 3, 4, 5, 6, 7, 8, 9, 10, 11, 12, 13], [0], []⟩, ⟨15, [], [27, 25], [14, 11, 13, 0, 1, 2, 3, 4, 5, 6, 7, 8, 9, 10, 11, 12, 13], [0], [0]⟩]) (.two .none (.leaf) (.leaf)))))))))) Try.func81 (by kernel_rfl) (by kernel_rfl) (by kernel_rfl) Try.call81 tbl_nil (by intro a; kernel_rfl)
noncomputable def F82 : Fun := ⟨82, [.m (.osl (.int .i64)), .v (.int .i64), .v (.int .i64)], [.bool], d_slices_partialInsertionSortOrdered_int⟩
theorem ok82 : OkFun E F82 :=
  OkFun.of (fn := Try.f82) (rs := [.tmp 6]) ((67, F67) :: []) [] [] (.keep [1, 2] (.two .none (.leaf) (.two .none (.leaf) (.two .none (.two .none (.leaf) (.one (.loop ⟨[(0, .s (.ref 0 [])), (7, .v (.int .i64)), (8, .v (.int .i64))], [(0, (.osl (.int .i64)))]⟩ (.xr 0 ⟨[(0, .s (.ref 0 []))], [(0, (.osl (.int .i64)))]⟩) (.two .none (.two .none (.leaf) (.two .none (.leaf) (.leaf))) (.two (.xr [8] ⟨[(0, .s (.ref 0 [])), (7, .v (.int .i64))], [(0, (.osl (.int .i64)))]⟩) (.one (.two .none (.one (.loop ⟨[(0, .s (.ref 0 [])), (7, .v (.int .i64))], [(0, (.osl (.int .i64)))]⟩ (.x 2 ⟨[(0, .s (.ref 0 [])), (7, .v (.int .i64))], [(0, (.osl (.int .i64)))]⟩) (.two (.xr [7] ⟨[(0, .s (.ref 0 []))], [(0, (.osl (.int .i64)))]⟩) (.two .none (.draw [⟨0, [17], [7], [], [], []⟩, ⟨1, [18], [2], [], [], []⟩, ⟨2, [19], [17, 18], [0, 1], [], []⟩, ⟨3, [20], [19], [2], [], []⟩, ⟨4, [21], [0, 20], [3], [500000], []⟩, ⟨5, [22], [7, 20], [3], [], []⟩, ⟨6, [23], [21, 22, 20], [4, 5, 3], [0], []⟩, ⟨7, [24], [23, 20], [6, 3], [0], []⟩, ⟨8, [25], [0, 20], [3], [500000], []⟩, ⟨9, [26], [7, 20], [3], [], []⟩, ⟨10, [27], [26, 20], [9, 3], [], []⟩, ⟨11, [28], [25, 27, 20], [8, 10, 3], [0], []⟩, ⟨12, [29], [28, 20], [11, 3], [0], []⟩, ⟨13, [30], [24, 29, 20], [7, 12, 3, 3], [], []⟩, ⟨14, [31], [30, 20], [13, 3], [], []⟩, ⟨15, [32], [20, 31], [3, 14], [], []⟩]) (.two .none (.leaf) (.leaf))) (.one (.leaf))))) (.two .none (.two .none (.leaf) (.two .none (.two .none (.leaf) (.leaf)) (.leaf))) (.two .none (.two .none (.leaf) (.two .none (.two .none (.leaf) (.leaf)) (.leaf))) (.two .none (.draw [⟨0, [42], [0], [], [500000], []⟩, ⟨1, [43], [7], [], [], []⟩, ⟨2, [44], [0], [], [500000], []⟩, ⟨3, [45], [7], [], [], []⟩, ⟨4, [46], [45], [3], [], []⟩, ⟨5, [47], [0], [], [500000], []⟩, ⟨6, [48], [7], [], [], []⟩, ⟨7, [49], [48], [6], [], []⟩, ⟨8, [50], [47, 49], [5, 7], [0], []⟩, ⟨9, [51], [50], [8], [0], []⟩, ⟨10, [52], [0], [], [500000], []⟩, ⟨11, [53], [7], [], [], []⟩, ⟨12, [54], [52, 53], [10, 11], [0], []⟩, ⟨13, [55], [54], [12], [0], []⟩, ⟨14, [56], [42, 43], [0, 1, 0, 1, 5, 6, 7, 8, 9, 13], [0], []⟩, ⟨15, [], [56, 51], [14, 9, 0, 1, 5, 6, 7, 8, 9, 13], [0], [0]⟩, ⟨16, [57], [44, 46], [2, 4, 0, 1, 2, 3, 4, 5, 6, 7, 8, 9, 10, 11, 12, 13, 14, 15], [0], []⟩, ⟨17, [], [57, 55], [16, 13, 15, 0, 1, 2, 3, 4, 5, 6, 7, 8, 9, 10, 11, 12, 13, 14, 15], [0], [0]⟩]) (.two (.x [7] ⟨[(0, .s (.ref 0 []))], [(0, (.osl (.int .i64)))]⟩) (.two .none (.leaf) (.two .none (.two .none (.leaf) (.one (.loop ⟨[(0, .s (.ref 0 [])), (9, .v (.int .i64))], [(0, (.osl (.int .i64)))]⟩ (.x 4 ⟨[(0, .s (.ref 0 []))], [(0, (.osl (.int .i64)))]⟩) (.two .none (.two .none (.leaf) (.two .none (.leaf) (.leaf))) (.two .none (.one (.two .none (.two .none (.draw [⟨0, [68], [0], [], [500000], []⟩, ⟨1, [69], [9], [], [], []⟩, ⟨2, [70], [68, 69], [0, 1], [0], []⟩, ⟨3, [71], [70], [2], [0], []⟩, ⟨4, [72], [0], [], [500000], []⟩, ⟨5, [73], [9], [], [], []⟩, ⟨6, [74], [73], [5], [], []⟩, ⟨7, [75], [72, 74], [4, 6], [0], []⟩, ⟨8, [76], [75], [7], [0], []⟩, ⟨9, [77], [71, 76], [3, 8], [], []⟩, ⟨10, [78], [77], [9], [], []⟩]) (.two .none (.leaf) (.leaf))) (.draw [⟨0, [79], [0], [], [500000], []⟩, ⟨1, [80], [9], [], [], []⟩, ⟨2, [81], [0], [], [500000], []⟩, ⟨3, [82], [9], [], [], []⟩, ⟨4, [83], [82], [3], [], []⟩, ⟨5, [84], [0], [], [500000], []⟩, ⟨6, [85], [9], [], [], []⟩, ⟨7, [86], [85], [6], [], []⟩, ⟨8, [87], [84, 86], [5, 7], [0], []⟩, ⟨9, [88], [87], [8], [0], []⟩, ⟨10, [89], [0], [], [500000], []⟩, ⟨11, [90], [9], [], [], []⟩, ⟨12, [91], [89, 90], [10, 11], [0], []⟩, ⟨13, [92], [91], [12], [0], []⟩, ⟨14, [93], [79, 80], [0, 1, 0, 1, 5, 6, 7, 8, 9, 13], [0], []⟩, ⟨15, [], [93, 88], [14, 9, 0, 1, 5, 6, 7, 8, 9, 13], [0], [0]⟩, ⟨16, [94], [81, 83], [2, 4, 0, 1, 2, 3, 4, 5, 6, 7, 8, 9, 10, 11, 12, 13, 14, 15], [0], []⟩, ⟨17, [], [94, 92], [16, 13, 15, 0, 1, 2, 3, 4, 5, 6, 7, 8, 9, 10, 11, 12, 13, 14, 15], [0], [0]⟩]))) (.leaf)))))) (.leaf))) (.two .none (.leaf) (.two .none (.two .none (.leaf) (.one (.keep [7] (.loop ⟨[(0, .s (.ref 0 [])), (10, .v (.int .i64))], [(0, (.osl (.int .i64)))]⟩ (.x 6 ⟨[(0, .s (.ref 0 []))], [(0, (.osl (.int .i64)))]⟩) (.two .none (.two .none (.leaf) (.two .none (.leaf) (.leaf))) (.two .none (.one (.two .none (.two .none (.draw [⟨0, [106], [0], [], [500000], []⟩, ⟨1, [107], [10], [], [], []⟩, ⟨2, [108], [106, 107], [0, 1], [0], []⟩, ⟨3, [109], [108], [2], [0], []⟩, ⟨4, [110], [0], [], [500000], []⟩, ⟨5, [111], [10], [], [], []⟩, ⟨6, [112], [111], [5], [], []⟩, ⟨7, [113], [110, 112], [4, 6], [0], []⟩, ⟨8, [114], [113], [7], [0], []⟩, ⟨9, [115], [109, 114], [3, 8], [], []⟩, ⟨10, [116], [115], [9], [], []⟩]) (.two .none (.leaf) (.leaf))) (.draw [⟨0, [117], [0], [], [500000], []⟩, ⟨1, [118], [10], [], [], []⟩, ⟨2, [119], [0], [], [500000], []⟩, ⟨3, [120], [10], [], [], []⟩, ⟨4, [121], [120], [3], [], []⟩, ⟨5, [122], [0], [], [500000], []⟩, ⟨6, [123], [10], [], [], []⟩, ⟨7, [124], [123], [6], [], []⟩, ⟨8, [125], [122, 124], [5, 7], [0], []⟩, ⟨9, [126], [125], [8], [0], []⟩, ⟨10, [127], [0], [], [500000], []⟩, ⟨11, [128], [10], [], [], []⟩, ⟨12, [129], [127, 128], [10, 11], [0], []⟩, ⟨13, [130], [129], [12], [0], []⟩, ⟨14, [131], [117, 118], [0, 1, 0, 1, 5, 6, 7, 8, 9, 13], [0], []⟩, ⟨15, [], [131, 126], [14, 9, 0, 1, 5, 6, 7, 8, 9, 13], [0], [0]⟩, ⟨16, [132], [119, 121], [2, 4, 0, 1, 2, 3, 4, 5, 6, 7, 8, 9, 10, 11, 12, 13, 14, 15], [0], []⟩, ⟨17, [], [132, 130], [16, 13, 15, 0, 1, 2, 3, 4, 5, 6, 7, 8, 9, 10, 11, 12, 13, 14, 15], [0], [0]⟩]))) (.leaf))))))) (.leaf))))))))) (.leaf)))))) (.two .none (.leaf) (.leaf)))))) Try.func82 (by kernel_rfl) (by kernel_rfl) (by kernel_rfl) Try.call82 (tbl_cons ok67 tbl_nil) (by intro a; kernel_rfl)
noncomputable def F83 : Fun := ⟨83, [.m (.osl (.int .i64)), .v (.int .i64), .v (.int .i64), .v (.int .i64)], [(.int .i64)], d_slices_partitionEqualOrdered_int⟩
theorem ok83 : OkFun E F83 :=
  OkFun.of (fn := Try.f83) (rs := [.tmp 8]) ((67, F67) :: []) [] [] (.keep [1, 2, 3] (.two .none (.leaf) (.two .none (.draw [⟨0, [11], [0], [], [500000], []⟩, ⟨1, [12], [1], [], [], []⟩, ⟨2, [13], [0], [], [500000], []⟩, ⟨3, [14], [3], [], [], []⟩, ⟨4, [15], [0], [], [500000], []⟩, ⟨5, [16], [3], [], [], []⟩, ⟨6, [17], [15, 16], [4, 5], [0], []⟩, ⟨7, [18], [17], [6], [0], []⟩, ⟨8, [19], [0], [], [500000], []⟩, ⟨9, [20], [1], [], [], []⟩, ⟨10, [21], [19, 20], [8, 9], [0], []⟩, ⟨11, [22], [21], [10], [0], []⟩, ⟨12, [23], [11, 12], [0, 1, 0, 1, 4, 5, 6, 7, 11], [0], []⟩, ⟨13, [], [23, 18], [12, 7, 0, 1, 4, 5, 6, 7, 11], [0], [0]⟩, ⟨14, [24], [13, 14], [2, 3, 0, 1, 2, 3, 4, 5, 6, 7, 8, 9, 10, 11, 12, 13], [0], []⟩, ⟨15, [], [24, 22], [14, 11, 13, 0, 1, 2, 3, 4, 5, 6, 7, 8, 9, 10, 11, 12, 13], [0], [0]⟩]) (.two .none (.leaf) (.two .none (.one (.loop ⟨[(0, .s (.ref 0 [])), (9, .v (.int .i64)), (10, .v (.int .i64))], [(0, (.osl (.int .i64)))]⟩ (.x 0 ⟨[(0, .s (.ref 0 [])), (9, .v (.int .i64))], [(0, (.osl (.int .i64)))]⟩) (.one (.two .none (.one (.keep [10] (.loop ⟨[(0, .s (.ref 0 [])), (9, .v (.int .i64))], [(0, (.osl (.int .i64)))]⟩ (.x 2 ⟨[(0, .s (.ref 0 [])), (9, .v (.int .i64))], [(0, (.osl (.int .i64)))]⟩) (.two (.xr [9] ⟨[(0, .s (.ref 0 []))], [(0, (.osl (.int .i64)))]⟩) (.two .none (.draw [⟨0, [29], [9], [], [], []⟩, ⟨1, [30], [10], [], [], []⟩, ⟨2, [31], [29, 30], [0, 1], [], []⟩, ⟨3, [32], [31], [2], [], []⟩, ⟨4, [33], [0, 32], [3], [500000], []⟩, ⟨5, [34], [1, 32], [3], [], []⟩, ⟨6, [35], [33, 34, 32], [4, 5, 3], [0], []⟩, ⟨7, [36], [35, 32], [6, 3], [0], []⟩, ⟨8, [37], [0, 32], [3], [500000], []⟩, ⟨9, [38], [9, 32], [3], [], []⟩, ⟨10, [39], [37, 38, 32], [8, 9, 3], [0], []⟩, ⟨11, [40], [39, 32], [10, 3], [0], []⟩, ⟨12, [41], [36, 40, 32], [7, 11, 3, 3], [], []⟩, ⟨13, [42], [41, 32], [12, 3], [], []⟩, ⟨14, [43], [32, 42], [3, 13], [], []⟩]) (.two .none (.leaf) (.leaf))) (.one (.leaf)))))) (.two .none (.one (.keep [9] (.loop ⟨[(0, .s (.ref 0 [])), (10, .v (.int .i64))], [(0, (.osl (.int .i64)))]⟩ (.x 4 ⟨[(0, .s (.ref 0 [])), (10, .v (.int .i64))], [(0, (.osl (.int .i64)))]⟩) (.two (.xr [10] ⟨[(0, .s (.ref 0 []))], [(0, (.osl (.int .i64)))]⟩) (.two .none (.draw [⟨0, [46], [9], [], [], []⟩, ⟨1, [47], [10], [], [], []⟩, ⟨2, [48], [46, 47], [0, 1], [], []⟩, ⟨3, [49], [48], [2], [], []⟩, ⟨4, [50], [0, 49], [3], [500000], []⟩, ⟨5, [51], [1, 49], [3], [], []⟩, ⟨6, [52], [50, 51, 49], [4, 5, 3], [0], []⟩, ⟨7, [53], [52, 49], [6, 3], [0], []⟩, ⟨8, [54], [0, 49], [3], [500000], []⟩, ⟨9, [55], [10, 49], [3], [], []⟩, ⟨10, [56], [54, 55, 49], [8, 9, 3], [0], []⟩, ⟨11, [57], [56, 49], [10, 3], [0], []⟩, ⟨12, [58], [53, 57, 49], [7, 11, 3, 3], [], []⟩, ⟨13, [59], [49, 58], [3, 12], [], []⟩]) (.two .none (.leaf) (.leaf))) (.one (.leaf)))))) (.two .none (.two .none (.leaf) (.two .none (.leaf) (.leaf))) (.two .none (.draw [⟨0, [65], [0], [], [500000], []⟩, ⟨1, [66], [9], [], [], []⟩, ⟨2, [67], [0], [], [500000], []⟩, ⟨3, [68], [10], [], [], []⟩, ⟨4, [69], [0], [], [500000], []⟩, ⟨5, [70], [10], [], [], []⟩, ⟨6, [71], [69, 70], [4, 5], [0], []⟩, ⟨7, [72], [71], [6], [0], []⟩, ⟨8, [73], [0], [], [500000], []⟩, ⟨9, [74], [9], [], [], []⟩, ⟨10, [75], [73, 74], [8, 9], [0], []⟩, ⟨11, [76], [75], [10], [0], []⟩, ⟨12, [77], [65, 66], [0, 1, 0, 1, 4, 5, 6, 7, 11], [0], []⟩, ⟨13, [], [77, 72], [12, 7, 0, 1, 4, 5, 6, 7, 11], [0], [0]⟩, ⟨14, [78], [67, 68], [2, 3, 0, 1, 2, 3, 4, 5, 6, 7, 8, 9, 10, 11, 12, 13], [0], []⟩, ⟨15, [], [78, 76], [14, 11, 13, 0, 1, 2, 3, 4, 5, 6, 7, 8, 9, 10, 11, 12, 13], [0], [0]⟩]) (.two .none (.leaf) (.leaf))))))))) (.two .none (.leaf) (.leaf))))))) Try.func83 (by kernel_rfl) (by kernel_rfl) (by kernel_rfl) Try.call83 (tbl_cons ok67 tbl_nil) (by intro a; kernel_rfl)
noncomputable def F84 : Fun := ⟨84, [.m (.osl (.int .i64)), .v (.int .i64), .v (.int .i64), .v (.int .i64)], [(.int .i64), .bool], d_slices_partitionOrdered_int⟩
theorem ok84 : OkFun E F84 :=
  OkFun.of (fn := Try.f84) (rs := [.tmp 8, .tmp 9]) ((67, F67) :: []) [] [] (.keep [1, 2, 3] (.two .none (.leaf) (.two .none (.draw [⟨0, [12], [0], [], [500000], []⟩, ⟨1, [13], [1], [], [], []⟩, ⟨2, [14], [0], [], [500000], []⟩, ⟨3, [15], [3], [], [], []⟩, ⟨4, [16], [0], [], [500000], []⟩, ⟨5, [17], [3], [], [], []⟩, ⟨6, [18], [16, 17], [4, 5], [0], []⟩, ⟨7, [19], [18], [6], [0], []⟩, ⟨8, [20], [0], [], [500000], []⟩, ⟨9, [21], [1], [], [], []⟩, ⟨10, [22], [20, 21], [8, 9], [0], []⟩, ⟨11, [23], [22], [10], [0], []⟩, ⟨12, [24], [12, 13], [0, 1, 0, 1, 4, 5, 6, 7, 11], [0], []⟩, ⟨13, [], [24, 19], [12, 7, 0, 1, 4, 5, 6, 7, 11], [0], [0]⟩, ⟨14, [25], [14, 15], [2, 3, 0, 1, 2, 3, 4, 5, 6, 7, 8, 9, 10, 11, 12, 13], [0], []⟩, ⟨15, [], [25, 23], [14, 11, 13, 0, 1, 2, 3, 4, 5, 6, 7, 8, 9, 10, 11, 12, 13], [0], [0]⟩]) (.two .none (.leaf) (.two .none (.one (.keep [11] (.loop ⟨[(0, .s (.ref 0 [])), (10, .v (.int .i64))], [(0, (.osl (.int .i64)))]⟩ (.x 0 ⟨[(0, .s (.ref 0 [])), (10, .v (.int .i64))], [(0, (.osl (.int .i64)))]⟩) (.two (.xr [10] ⟨[(0, .s (.ref 0 []))], [(0, (.osl (.int .i64)))]⟩) (.two .none (.draw [⟨0, [30], [10], [], [], []⟩, ⟨1, [31], [11], [], [], []⟩, ⟨2, [32], [30, 31], [0, 1], [], []⟩, ⟨3, [33], [32], [2], [], []⟩, ⟨4, [34], [0, 33], [3], [500000], []⟩, ⟨5, [35], [10, 33], [3], [], []⟩, ⟨6, [36], [34, 35, 33], [4, 5, 3], [0], []⟩, ⟨7, [37], [36, 33], [6, 3], [0], []⟩, ⟨8, [38], [0, 33], [3], [500000], []⟩, ⟨9, [39], [1, 33], [3], [], []⟩, ⟨10, [40], [38, 39, 33], [8, 9, 3], [0], []⟩, ⟨11, [41], [40, 33], [10, 3], [0], []⟩, ⟨12, [42], [37, 41, 33], [7, 11, 3, 3], [], []⟩, ⟨13, [43], [33, 42], [3, 12], [], []⟩]) (.two .none (.leaf) (.leaf))) (.one (.leaf)))))) (.two .none (.one (.keep [10] (.loop ⟨[(0, .s (.ref 0 [])), (11, .v (.int .i64))], [(0, (.osl (.int .i64)))]⟩ (.x 2 ⟨[(0, .s (.ref 0 [])), (11, .v (.int .i64))], [(0, (.osl (.int .i64)))]⟩) (.two (.xr [11] ⟨[(0, .s (.ref 0 []))], [(0, (.osl (.int .i64)))]⟩) (.two .none (.draw [⟨0, [46], [10], [], [], []⟩, ⟨1, [47], [11], [], [], []⟩, ⟨2, [48], [46, 47], [0, 1], [], []⟩, ⟨3, [49], [48], [2], [], []⟩, ⟨4, [50], [0, 49], [3], [500000], []⟩, ⟨5, [51], [11, 49], [3], [], []⟩, ⟨6, [52], [50, 51, 49], [4, 5, 3], [0], []⟩, ⟨7, [53], [52, 49], [6, 3], [0], []⟩, ⟨8, [54], [0, 49], [3], [500000], []⟩, ⟨9, [55], [1, 49], [3], [], []⟩, ⟨10, [56], [54, 55, 49], [8, 9, 3], [0], []⟩, ⟨11, [57], [56, 49], [10, 3], [0], []⟩, ⟨12, [58], [53, 57, 49], [7, 11, 3, 3], [], []⟩, ⟨13, [59], [58, 49], [12, 3], [], []⟩, ⟨14, [60], [49, 59], [3, 13], [], []⟩]) (.two .none (.leaf) (.leaf))) (.one (.leaf)))))) (.two .none (.two .none (.leaf) (.two .none (.two .none (.draw [⟨0, [66], [0], [], [500000], []⟩, ⟨1, [67], [11], [], [], []⟩, ⟨2, [68], [0], [], [500000], []⟩, ⟨3, [69], [1], [], [], []⟩, ⟨4, [70], [0], [], [500000], []⟩, ⟨5, [71], [1], [], [], []⟩, ⟨6, [72], [70, 71], [4, 5], [0], []⟩, ⟨7, [73], [72], [6], [0], []⟩, ⟨8, [74], [0], [], [500000], []⟩, ⟨9, [75], [11], [], [], []⟩, ⟨10, [76], [74, 75], [8, 9], [0], []⟩, ⟨11, [77], [76], [10], [0], []⟩, ⟨12, [78], [66, 67], [0, 1, 0, 1, 4, 5, 6, 7, 11], [0], []⟩, ⟨13, [], [78, 73], [12, 7, 0, 1, 4, 5, 6, 7, 11], [0], [0]⟩, ⟨14, [79], [68, 69], [2, 3, 0, 1, 2, 3, 4, 5, 6, 7, 8, 9, 10, 11, 12, 13], [0], []⟩, ⟨15, [], [79, 77], [14, 11, 13, 0, 1, 2, 3, 4, 5, 6, 7, 8, 9, 10, 11, 12, 13], [0], [0]⟩]) (.two .none (.leaf) (.leaf))) (.leaf))) (.two .none (.draw [⟨0, [81], [0], [], [500000], []⟩, ⟨1, [82], [10], [], [], []⟩, ⟨2, [83], [0], [], [500000], []⟩, ⟨3, [84], [11], [], [], []⟩, ⟨4, [85], [0], [], [500000], []⟩, ⟨5, [86], [11], [], [], []⟩, ⟨6, [87], [85, 86], [4, 5], [0], []⟩, ⟨7, [88], [87], [6], [0], []⟩, ⟨8, [89], [0], [], [500000], []⟩, ⟨9, [90], [10], [], [], []⟩, ⟨10, [91], [89, 90], [8, 9], [0], []⟩, ⟨11, [92], [91], [10], [0], []⟩, ⟨12, [93], [81, 82], [0, 1, 0, 1, 4, 5, 6, 7, 11], [0], []⟩, ⟨13, [], [93, 88], [12, 7, 0, 1, 4, 5, 6, 7, 11], [0], [0]⟩, ⟨14, [94], [83, 84], [2, 3, 0, 1, 2, 3, 4, 5, 6, 7, 8, 9, 10, 11, 12, 13], [0], []⟩, ⟨15, [], [94, 92], [14, 11, 13, 0, 1, 2, 3, 4, 5, 6, 7, 8, 9, 10, 11, 12, 13], [0], [0]⟩]) (.two .none (.leaf) (.two .none (.leaf) (.two .none (.one (.loop ⟨[(0, .s (.ref 0 [])), (10, .v (.int .i64)), (11, .v (.int .i64))], [(0, (.osl (.int .i64)))]⟩ (.x 4 ⟨[(0, .s (.ref 0 [])), (11, .v (.int .i64))], [(0, (.osl (.int .i64)))]⟩) (.one (.two .none (.one (.keep [11] (.loop ⟨[(0, .s (.ref 0 [])), (10, .v (.int .i64))], [(0, (.osl (.int .i64)))]⟩ (.x 6 ⟨[(0, .s (.ref 0 [])), (10, .v (.int .i64))], [(0, (.osl (.int .i64)))]⟩) (.two (.xr [10] ⟨[(0, .s (.ref 0 []))], [(0, (.osl (.int .i64)))]⟩) (.two .none (.draw [⟨0, [99], [10], [], [], []⟩, ⟨1, [100], [11], [], [], []⟩, ⟨2, [101], [99, 100], [0, 1], [], []⟩, ⟨3, [102], [101], [2], [], []⟩, ⟨4, [103], [0, 102], [3], [500000], []⟩, ⟨5, [104], [10, 102], [3], [], []⟩, ⟨6, [105], [103, 104, 102], [4, 5, 3], [0], []⟩, ⟨7, [106], [105, 102], [6, 3], [0], []⟩, ⟨8, [107], [0, 102], [3], [500000], []⟩, ⟨9, [108], [1, 102], [3], [], []⟩, ⟨10, [109], [107, 108, 102], [8, 9, 3], [0], []⟩, ⟨11, [110], [109, 102], [10, 3], [0], []⟩, ⟨12, [111], [106, 110, 102], [7, 11, 3, 3], [], []⟩, ⟨13, [112], [102, 111], [3, 12], [], []⟩]) (.two .none (.leaf) (.leaf))) (.one (.leaf)))))) (.two .none (.one (.keep [10] (.loop ⟨[(0, .s (.ref 0 [])), (11, .v (.int .i64))], [(0, (.osl (.int .i64)))]⟩ (.x 8 ⟨[(0, .s (.ref 0 [])), (11, .v (.int .i64))], [(0, (.osl (.int .i64)))]⟩) (.two (.xr [11] ⟨[(0, .s (.ref 0 []))], [(0, (.osl (.int .i64)))]⟩) (.two .none (.draw [⟨0, [115], [10], [], [], []⟩, ⟨1, [116], [11], [], [], []⟩, ⟨2, [117], [115, 116], [0, 1], [], []⟩, ⟨3, [118], [117], [2], [], []⟩, ⟨4, [119], [0, 118], [3], [500000], []⟩, ⟨5, [120], [11, 118], [3], [], []⟩, ⟨6, [121], [119, 120, 118], [4, 5, 3], [0], []⟩, ⟨7, [122], [121, 118], [6, 3], [0], []⟩, ⟨8, [123], [0, 118], [3], [500000], []⟩, ⟨9, [124], [1, 118], [3], [], []⟩, ⟨10, [125], [123, 124, 118], [8, 9, 3], [0], []⟩, ⟨11, [126], [125, 118], [10, 3], [0], []⟩, ⟨12, [127], [122, 126, 118], [7, 11, 3, 3], [], []⟩, ⟨13, [128], [127, 118], [12, 3], [], []⟩, ⟨14, [129], [118, 128], [3, 13], [], []⟩]) (.two .none (.leaf) (.leaf))) (.one (.leaf)))))) (.two .none (.two .none (.leaf) (.two .none (.leaf) (.leaf))) (.two .none (.draw [⟨0, [135], [0], [], [500000], []⟩, ⟨1, [136], [10], [], [], []⟩, ⟨2, [137], [0], [], [500000], []⟩, ⟨3, [138], [11], [], [], []⟩, ⟨4, [139], [0], [], [500000], []⟩, ⟨5, [140], [11], [], [], []⟩, ⟨6, [141], [139, 140], [4, 5], [0], []⟩, ⟨7, [142], [141], [6], [0], []⟩, ⟨8, [143], [0], [], [500000], []⟩, ⟨9, [144], [10], [], [], []⟩, ⟨10, [145], [143, 144], [8, 9], [0], []⟩, ⟨11, [146], [145], [10], [0], []⟩, ⟨12, [147], [135, 136], [0, 1, 0, 1, 4, 5, 6, 7, 11], [0], []⟩, ⟨13, [], [147, 142], [12, 7, 0, 1, 4, 5, 6, 7, 11], [0], [0]⟩, ⟨14, [148], [137, 138], [2, 3, 0, 1, 2, 3, 4, 5, 6, 7, 8, 9, 10, 11, 12, 13], [0], []⟩, ⟨15, [], [148, 146], [14, 11, 13, 0, 1, 2, 3, 4, 5, 6, 7, 8, 9, 10, 11, 12, 13], [0], [0]⟩]) (.two .none (.leaf) (.leaf))))))))) (.two .none (.draw [⟨0, [153], [0], [], [500000], []⟩, ⟨1, [154], [11], [], [], []⟩, ⟨2, [155], [0], [], [500000], []⟩, ⟨3, [156], [1], [], [], []⟩, ⟨4, [157], [0], [], [500000], []⟩, ⟨5, [158], [1], [], [], []⟩, ⟨6, [159], [157, 158], [4, 5], [0], []⟩, ⟨7, [160], [159], [6], [0], []⟩, ⟨8, [161], [0], [], [500000], []⟩, ⟨9, [162], [11], [], [], []⟩, ⟨10, [163], [161, 162], [8, 9], [0], []⟩, ⟨11, [164], [163], [10], [0], []⟩, ⟨12, [165], [153, 154], [0, 1, 0, 1, 4, 5, 6, 7, 11], [0], []⟩, ⟨13, [], [165, 160], [12, 7, 0, 1, 4, 5, 6, 7, 11], [0], [0]⟩, ⟨14, [166], [155, 156], [2, 3, 0, 1, 2, 3, 4, 5, 6, 7, 8, 9, 10, 11, 12, 13], [0], []⟩, ⟨15, [], [166, 164], [14, 11, 13, 0, 1, 2, 3, 4, 5, 6, 7, 8, 9, 10, 11, 12, 13], [0], [0]⟩]) (.two .none (.leaf) (.leaf)))))))))))))) Try.func84 (by kernel_rfl) (by kernel_rfl) (by kernel_rfl) Try.call84 (tbl_cons ok67 tbl_nil) (by intro a; kernel_rfl)
noncomputable def F75n (n : Nat) : Fun := ⟨75, [.m (.osl (.int .i64)), .v (.int .i64), .v (.int .i64), .v (.int .i64)], [], r_slices_pdqsortOrdered_int n⟩
theorem ok75n : ∀ n, OkFun E (F75n n)
  | 0 => ⟨Try.call75, fun _ _ h => by cases h⟩
  | n + 1 =>
    OkFun.of (fn := Try.f75) (rs := []) ((75, F75n n) :: (84, F84) :: (83, F83) :: (82, F82) :: (81, F81) :: (80, F80) :: (79, F79) :: (78, F78) :: (77, F77) :: (67, F67) :: []) [] [] (.two .none (.leaf) (.two .none (.leaf) (.one (.loop ⟨[(0, .s (.ref 0 [])), (1, .v (.int .i64)), (2, .v (.int .i64)), (3, .v (.int .i64)), (8, .v .bool), (9, .v .bool)], [(0, (.osl (.int .i64)))]⟩ .r (.one (.two .none (.leaf) (.two .none (.two .none (.leaf) (.two .none (.two .none (.leaf) (.leaf)) (.leaf))) (.two .none (.two .none (.leaf) (.two .none (.two .none (.leaf) (.leaf)) (.leaf))) (.two (.x [1, 2, 8, 9, 10] ⟨[(0, .s (.ref 0 [])), (3, .v (.int .i64))], [(0, (.osl (.int .i64)))]⟩) (.two .none (.leaf) (.two .none (.two .none (.leaf) (.leaf)) (.leaf))) (.two .none (.leaf) (.two (.x [1, 2, 3, 8, 9, 10] ⟨[(0, .s (.ref 0 [])), (11, .v (.int .i64)), (12, .v (.int .i64))], [(0, (.osl (.int .i64)))]⟩) (.two .none (.leaf) (.two .none (.two .none (.leaf) (.two .none (.leaf) (.leaf))) (.leaf))) (.two (.xr [1, 2, 3, 8, 9, 10, 11] ⟨[(0, .s (.ref 0 []))], [(0, (.osl (.int .i64)))]⟩) (.two (.x [] ⟨[(0, .s (.ref 0 [])), (68, .v .bool)], [(0, (.osl (.int .i64)))]⟩) (.leaf) (.two .none (.two .none (.leaf) (.two .none (.leaf) (.leaf))) (.leaf))) (.two (.xr [2, 3, 10, 11] ⟨[(0, .s (.ref 0 [])), (1, .v (.int .i64))], [(0, (.osl (.int .i64)))]⟩) (.two (.x [1, 8, 9] ⟨[(0, .s (.ref 0 [])), (87, .v .bool)], [(0, (.osl (.int .i64)))]⟩) (.draw [⟨0, [73], [1], [], [], []⟩, ⟨1, [74], [73], [0], [], []⟩, ⟨2, [75], [74], [1], [], []⟩, ⟨3, [76], [0, 75], [2], [500000], []⟩, ⟨4, [77], [1, 75], [2], [], []⟩, ⟨5, [78], [77, 75], [4, 2], [], []⟩, ⟨6, [79], [76, 78, 75], [3, 5, 2], [0], []⟩, ⟨7, [80], [79, 75], [6, 2], [0], []⟩, ⟨8, [81], [0, 75], [2], [500000], []⟩, ⟨9, [82], [11, 75], [2], [], []⟩, ⟨10, [83], [81, 82, 75], [8, 9, 2], [0], []⟩, ⟨11, [84], [83, 75], [10, 2], [0], []⟩, ⟨12, [85], [80, 84, 75], [7, 11, 2, 2], [], []⟩, ⟨13, [86], [85, 75], [12, 2], [], []⟩, ⟨14, [87], [75, 86], [2, 13], [], []⟩]) (.two .none (.two .none (.leaf) (.two .none (.leaf) (.leaf))) (.leaf))) (.two .none (.leaf) (.two .none (.leaf) (.two .none (.leaf) (.two .none (.leaf) (.two .none (.leaf) (.two .none (.two .none (.leaf) (.two .none (.leaf) (.leaf))) (.two .none (.leaf) (.two .none (.leaf) (.leaf)))))))))))))))))))))) Try.func75 (by kernel_rfl) (by kernel_rfl) (by kernel_rfl) Try.call75 (tbl_cons (ok75n n) (tbl_cons ok84 (tbl_cons ok83 (tbl_cons ok82 (tbl_cons ok81 (tbl_cons ok80 (tbl_cons ok79 (tbl_cons ok78 (tbl_cons ok77 (tbl_cons ok67 tbl_nil)))))))))) (by intro a; kernel_rfl)
noncomputable def F75 : Fun := ⟨75, [.m (.osl (.int .i64)), .v (.int .i64), .v (.int .i64), .v (.int .i64)], [], d_slices_pdqsortOrdered_int⟩
theorem ok75 : OkFun E F75 := fixO_ok ok75n
noncomputable def F70 : Fun := ⟨70, [.m (.osl (.int .i64))], [], d_slices_Sort_int_int⟩
theorem ok70 : OkFun E F70 :=
  OkFun.of (fn := Try.f70) (rs := []) ((76, F76) :: (75, F75) :: []) [] [] (.two .none (.leaf) (.leaf)) Try.func70 (by kernel_rfl) (by kernel_rfl) (by kernel_rfl) Try.call70 (tbl_cons ok76 (tbl_cons ok75 tbl_nil)) (by intro a; kernel_rfl)
noncomputable def F53 : Fun := ⟨53, [.v (.slc .bor (.int .i64))], [.bool], d_graph_twice⟩
theorem ok53 : OkFun E F53 := Tw.tw_ok rfl (sort := fun l => (d_slices_Sort_int_int (l, ())).map fun r => r.1) (fun zs ys h => by obtain ⟨r, hr, rfl⟩ := Option.map_eq_some_iff.1 h; exact ok70.2 (zs, ()) r hr)
noncomputable def F51x0 : Fun := ⟨51, [.v (.int .i64), .v (.ptr .imm (.st (.pr (.slc .bor (.slc .bor (.int .i64))) .nil)))], [.bool], d_graph_Permuted_1q_q0⟩
theorem ok51x0 : OkFun E F51x0 :=
  OkFun.of (fn := Try.f51) (rs := [.tmp 3]) ((52, F52) :: []) [] [] (.keep [0, 1] (.two .none (.leaf) (.two .none (.leaf) (.leaf)))) Try.func51 (by kernel_rfl) (by kernel_rfl) (by kernel_rfl) Try.call51 (tbl_cons ok52 tbl_nil) (by intro a; kernel_rfl)
noncomputable def F61x0 : Fun := ⟨61, [.v (.slc .bor (.int .i64)), .c 51 [(.ptr .imm (.st (.pr (.slc .bor (.slc .bor (.int .i64))) .nil)))]], [(.int .i64)], d_slices_IndexFunc_int_int_q0⟩
theorem ok61x0 : OkFun E F61x0 :=
  OkFun.of (fn := Try.f61) (rs := [.tmp 4]) ((51, F51x0) :: []) [] [] (.keep [0, 1] (.two .none (.leaf) (.two .none (.two .none (.leaf) (.one (.keep [7] (.loop ⟨[(8, .v (.int .i64))], []⟩ (.xr 0 ⟨[], []⟩) (.two .none (.leaf) (.two .none (.two .none (.leaf) (.leaf)) (.two .none (.one (.two .none (.leaf) (.two .none (.leaf) (.two .none (.two .none (.leaf) (.leaf)) (.leaf))))) (.leaf)))))))) (.two .none (.leaf) (.leaf))))) Try.func61 (by kernel_rfl) (by kernel_rfl) (by kernel_rfl) Try.call61 (tbl_cons ok51x0 tbl_nil) (by intro a; kernel_rfl)
noncomputable def F50x0 : Fun := ⟨50, [.v (.slc .bor (.int .i64)), .c 51 [(.ptr .imm (.st (.pr (.slc .bor (.slc .bor (.int .i64))) .nil)))]], [.bool], d_slices_ContainsFunc_int_int_q0⟩
theorem ok50x0 : OkFun E F50x0 :=
  OkFun.of (fn := Try.f50) (rs := [.tmp 4]) ((61, F61x0) :: []) [] [] (.keep [0, 1] (.two .none (.leaf) (.two .none (.leaf) (.leaf)))) Try.func50 (by kernel_rfl) (by kernel_rfl) (by kernel_rfl) Try.call50 (tbl_cons ok61x0 tbl_nil) (by intro a; kernel_rfl)
noncomputable def F38 : Fun := ⟨38, [.v (.st (.pr (.slc .bor (.slc .bor (.int .i64))) .nil)), .v (.slc .bor (.int .i64))], [(.int .i64)], d_graph_Permuted⟩
theorem ok38 : OkFun E F38 :=
  OkFun.of (fn := Try.f38) (rs := [.tmp 4]) ((53, F53) :: (33, F33) :: (50, F50x0) :: []) [(2, (.ptr .imm (.st (.pr (.slc .bor (.slc .bor (.int .i64))) .nil))))] [] (.keep [0, 1] (.two .none (.leaf) (.two .none (.leaf) (.two .none (.one (.two .none (.leaf) (.two .none (.two .none (.leaf) (.leaf)) (.two .none (.leaf) (.two .none (.two .none (.leaf) (.leaf)) (.two .none (.leaf) (.two .none (.two .none (.leaf) (.leaf)) (.leaf)))))))) (.two .none (.leaf) (.leaf)))))) Try.func38 (by kernel_rfl) (by kernel_rfl) (by kernel_rfl) Try.call38 (tbl_cons ok53 (tbl_cons ok33 (tbl_cons ok50x0 tbl_nil))) (by intro a; kernel_rfl)
noncomputable def F16 : Fun := ⟨16, [.v (.st (.pr (.slc .bor (.slc .bor (.int .i64))) .nil)), .v (.slc .bor (.int .i64))], [(.osl (.int .i64)), (.int .i64)], d_mindeg_Degrees⟩
theorem ok16 : OkFun E F16 :=
  OkFun.of (fn := Try.f16) (rs := [.tmp 4, .tmp 5]) ((38, F38) :: (36, F36) :: (34, F34) :: []) [(2, (.ptr .imm (.st (.pr (.slc .bor (.slc .bor (.int .i64))) .nil)))), (8, (.osl (.int .i64))), (4, (.osl (.int .i64)))] [] (.keep [0, 1] (.two .none (.leaf) (.two .none (.leaf) (.two .none (.two .none (.leaf) (.two .none (.two .none (.leaf) (.leaf)) (.leaf))) (.two .none (.leaf) (.two .none (.leaf) (.two .none (.two .none (.leaf) (.one (.keep [19, 20] (.loop ⟨[(7, .s (.ref 7 [])), (8, .s (.ref 8 [])), (21, .v (.int .i64))], [(7, (.optr (.st (.pr (.osl (.osl .bool)) (.pr (.osl .bool) .nil))))), (8, (.osl (.int .i64)))]⟩ (.x 0 ⟨[(8, .s (.ref 8 []))], [(8, (.osl (.int .i64)))]⟩) (.two .none (.leaf) (.two .none (.two .none (.leaf) (.leaf)) (.two .none (.one (.two .none (.leaf) (.leaf))) (.leaf)))))))) (.two .none (.leaf) (.leaf))))))))) Try.func16 (by kernel_rfl) (by kernel_rfl) (by kernel_rfl) Try.call16 (tbl_cons ok38 (tbl_cons ok36 (tbl_cons ok34 tbl_nil))) (by intro a; kernel_rfl)
noncomputable def F18 : Fun := ⟨18, [.v (.slc .bor (.int .i64)), .v (.slc .bor (.int .i64))], [.bool], d_sparsekit_Ints⟩
theorem ok18 : OkFun E F18 :=
  OkFun.of (fn := Try.f18) (rs := [.tmp 4]) ([]) [] [] (.keep [0, 1] (.two .none (.leaf) (.two .none (.two .none (.leaf) (.two .none (.two .none (.leaf) (.leaf)) (.leaf))) (.two .none (.two .none (.leaf) (.one (.loop ⟨[(5, .v (.int .i64))], []⟩ (.xr 0 ⟨[], []⟩) (.two .none (.two .none (.leaf) (.two .none (.leaf) (.leaf))) (.two .none (.one (.two .none (.draw [⟨0, [17], [0], [], [], []⟩, ⟨1, [18], [5], [], [], []⟩, ⟨2, [19], [17, 18], [0, 1], [], []⟩, ⟨3, [20], [19], [2], [], []⟩, ⟨4, [21], [1], [], [], []⟩, ⟨5, [22], [5], [], [], []⟩, ⟨6, [23], [21, 22], [4, 5], [], []⟩, ⟨7, [24], [23], [6], [], []⟩, ⟨8, [25], [20, 24], [3, 7], [], []⟩]) (.two .none (.two .none (.leaf) (.leaf)) (.leaf)))) (.leaf)))))) (.two .none (.leaf) (.leaf)))))) Try.func18 (by kernel_rfl) (by kernel_rfl) (by kernel_rfl) Try.call18 tbl_nil (by intro a; kernel_rfl)
noncomputable def F10 : Fun := ⟨10, [], [.bool], d_sparselaw16q_awake⟩
theorem ok10 : OkFun E F10 :=
  OkFun.of (fn := Try.f10) (rs := [.tmp 0]) ((18, F18) :: (16, F16) :: (14, F14) :: []) [(1, (.st (.pr (.slc .imm (.slc .imm (.int .i64))) .nil))), (2, (.slc .imm (.int .i64))), (4, (.slc .imm (.int .i64)))] [(2, 15000), (4, 21000), (10, 6), (10, 7), (10, 8), (10, 9), (11, 10)] (.two .none (.leaf) (.two .none (.leaf) (.two .none (.leaf) (.two .none (.leaf) (.two .none (.leaf) (.leaf)))))) Try.func10 (by kernel_rfl) (by kernel_rfl) (by kernel_rfl) Try.call10 (tbl_cons ok18 (tbl_cons ok16 (tbl_cons ok14 tbl_nil))) (by intro a; kernel_rfl)
noncomputable def F11 : Fun := ⟨11, [.v (.int .i64), .v (.int .i64)], [(.int .i64)], d_sparsekit_Place⟩
theorem ok11 : OkFun E F11 :=
  OkFun.of (fn := Try.f11) (rs := [.tmp 4]) ([]) [] [] (.keep [0, 1] (.two .none (.leaf) (.two .none (.leaf) (.leaf)))) Try.func11 (by kernel_rfl) (by kernel_rfl) (by kernel_rfl) Try.call11 tbl_nil (by intro a; kernel_rfl)
noncomputable def F32 : Fun := ⟨32, [.v (.slc .bor (.slc .bor .bool))], [(.st (.pr (.osl (.slc .imm (.int .i64))) .nil))], d_sparseref12q_FromTable⟩
theorem ok32 : OkFun E F32 :=
  OkFun.of (fn := Try.f32) (rs := [.cell 2 27]) ([]) [(2, (.st (.pr (.osl (.slc .imm (.int .i64))) .nil))), (3, (.st (.pr (.osl (.slc .imm (.int .i64))) .nil))), (5, (.osl (.int .i64)))] [] (.keep [0] (.two .none (.leaf) (.two .none (.leaf) (.two .none (.two .none (.leaf) (.one (.loop ⟨[(2, .s (.ref 2 [])), (3, .s (.ref 3 [])), (4, .v (.int .i64))], [(2, (.optr (.st (.pr (.osl (.slc .imm (.int .i64))) .nil)))), (3, (.optr (.st (.pr (.osl (.slc .imm (.int .i64))) .nil))))]⟩ (.x 0 ⟨[(2, .s (.ref 2 [])), (3, .s (.ref 3 []))], [(2, (.optr (.st (.pr (.osl (.slc .imm (.int .i64))) .nil)))), (3, (.optr (.st (.pr (.osl (.slc .imm (.int .i64))) .nil))))]⟩) (.two .none (.two .none (.leaf) (.two .none (.leaf) (.leaf))) (.two .none (.one (.two .none (.leaf) (.two .none (.two .none (.leaf) (.one (.keep [4] (.loop ⟨[(2, .s (.ref 2 [])), (3, .s (.ref 3 [])), (5, .s (.ref 5 [])), (6, .v (.int .i64))], [(2, (.optr (.st (.pr (.osl (.slc .imm (.int .i64))) .nil)))), (3, (.optr (.st (.pr (.osl (.slc .imm (.int .i64))) .nil)))), (5, (.osl (.int .i64)))]⟩ (.x 2 ⟨[(2, .s (.ref 2 [])), (3, .s (.ref 3 [])), (5, .s (.ref 5 []))], [(2, (.optr (.st (.pr (.osl (.slc .imm (.int .i64))) .nil)))), (3, (.optr (.st (.pr (.osl (.slc .imm (.int .i64))) .nil)))), (5, (.osl (.int .i64)))]⟩) (.two .none (.two .none (.leaf) (.two .none (.leaf) (.leaf))) (.two (.x [6] ⟨[(2, .s (.ref 2 [])), (3, .s (.ref 3 [])), (5, .s (.ref 5 []))], [(2, (.optr (.st (.pr (.osl (.slc .imm (.int .i64))) .nil)))), (3, (.optr (.st (.pr (.osl (.slc .imm (.int .i64))) .nil)))), (5, (.osl (.int .i64)))]⟩) (.one (.two (.x [] ⟨[(2, .s (.ref 2 [])), (3, .s (.ref 3 [])), (5, .s (.ref 5 [])), (39, .v .bool)], [(2, (.optr (.st (.pr (.osl (.slc .imm (.int .i64))) .nil)))), (3, (.optr (.st (.pr (.osl (.slc .imm (.int .i64))) .nil)))), (5, (.osl (.int .i64)))]⟩) (.leaf) (.two .none (.leaf) (.leaf)))) (.leaf))))))) (.fz [5] (.leaf))))) (.leaf)))))) (.two .none (.leaf) (.leaf)))))) Try.func32 (by kernel_rfl) (by kernel_rfl) (by kernel_rfl) Try.call32 tbl_nil (by intro a; kernel_rfl)
noncomputable def F12 : Fun := ⟨12, [.v (.int .i64), .v (.slc .bor (.int .i64))], [(.st (.pr (.slc .imm (.slc .imm (.int .i64))) .nil))], d_sparsemake_Graph⟩
theorem ok12 : OkFun E F12 :=
  OkFun.of (fn := Try.f12) (rs := [.cell 4 27]) ((32, F32) :: (11, F11) :: []) [(4, (.st (.pr (.slc .imm (.slc .imm (.int .i64))) .nil))), (5, (.osl (.osl .bool))), (15, (.osl .bool)), (16, (.osl (.osl .bool)))] [(999999, 47)] (.keep [0, 1] (.two .none (.leaf) (.two .none (.leaf) (.two .none (.two .none (.leaf) (.one (.loop ⟨[(4, .s (.ref 4 [])), (5, .s (.ref 5 [])), (6, .v (.int .i64))], [(4, (.optr (.st (.pr (.slc .imm (.slc .imm (.int .i64))) .nil)))), (5, (.osl (.osl .bool)))]⟩ (.x 0 ⟨[(4, .s (.ref 4 [])), (5, .s (.ref 5 []))], [(4, (.optr (.st (.pr (.slc .imm (.slc .imm (.int .i64))) .nil)))), (5, (.osl (.osl .bool)))]⟩) (.two .none (.two .none (.leaf) (.two .none (.leaf) (.leaf))) (.two .none (.one (.leaf)) (.leaf)))))) (.two .none (.two .none (.leaf) (.one (.loop ⟨[(4, .s (.ref 4 [])), (5, .s (.ref 5 [])), (7, .v (.int .i64))], [(4, (.optr (.st (.pr (.slc .imm (.slc .imm (.int .i64))) .nil)))), (5, (.osl (.osl .bool)))]⟩ (.x 2 ⟨[(4, .s (.ref 4 [])), (5, .s (.ref 5 []))], [(4, (.optr (.st (.pr (.slc .imm (.slc .imm (.int .i64))) .nil)))), (5, (.osl (.osl .bool)))]⟩) (.two (.xr [7] ⟨[(4, .s (.ref 4 [])), (5, .s (.ref 5 []))], [(4, (.optr (.st (.pr (.slc .imm (.slc .imm (.int .i64))) .nil)))), (5, (.osl (.osl .bool)))]⟩) (.two .none (.leaf) (.two .none (.leaf) (.leaf))) (.two .none (.one (.draw [⟨0, [29], [5], [], [500005], []⟩, ⟨1, [30], [1], [], [], []⟩, ⟨2, [31], [7], [], [], []⟩, ⟨3, [32], [30, 31], [1, 2], [], []⟩, ⟨4, [33], [32], [3], [], []⟩, ⟨5, [34], [0], [], [], []⟩, ⟨6, [35], [33, 34], [4, 5], [], []⟩, ⟨7, [36], [29, 35], [0, 6], [5], []⟩, ⟨8, [37], [36], [7], [5], []⟩, ⟨9, [38], [1], [], [], []⟩, ⟨10, [39], [7], [], [], []⟩, ⟨11, [40], [39], [10], [], []⟩, ⟨12, [41], [38, 40], [9, 11], [], []⟩, ⟨13, [42], [41], [12], [], []⟩, ⟨14, [43], [0], [], [], []⟩, ⟨15, [44], [42, 43], [13, 14, 6], [], []⟩, ⟨16, [45], [37, 44], [8, 15, 0, 1, 2, 3, 4, 5, 6, 7, 8, 9, 10, 11, 12, 13, 14, 15], [5], []⟩, ⟨17, [], [45], [16, 15, 0, 1, 2, 3, 4, 5, 6, 7, 8, 9, 10, 11, 12, 13, 14, 15], [5], [5]⟩])) (.leaf)))))) (.two .none (.leaf) (.leaf))))))) Try.func12 (by kernel_rfl) (by kernel_rfl) (by kernel_rfl) Try.call12 (tbl_cons ok32 (tbl_cons ok11 tbl_nil)) (by intro a; kernel_rfl)
noncomputable def F40 : Fun := ⟨40, [.v (.slc .bor (.int .i64)), .v (.int .i64)], [(.int .i64)], d_sparsemake_At⟩
theorem ok40 : OkFun E F40 :=
  OkFun.of (fn := Try.f40) (rs := [.tmp 4]) ([]) [] [] (.keep [0, 1] (.two .none (.leaf) (.two .none (.two .none (.leaf) (.two .none (.two .none (.leaf) (.leaf)) (.leaf))) (.two .none (.leaf) (.leaf))))) Try.func40 (by kernel_rfl) (by kernel_rfl) (by kernel_rfl) Try.call40 tbl_nil (by intro a; kernel_rfl)
noncomputable def F24 : Fun := ⟨24, [.v (.int .i64), .v (.slc .bor (.int .i64))], [(.osl (.int .i64))], d_sparsemake_Tree⟩
theorem ok24 : OkFun E F24 :=
  OkFun.of (fn := Try.f24) (rs := [.tmp 4]) ((40, F40) :: (11, F11) :: []) [(5, (.osl (.int .i64)))] [] (.keep [0, 1] (.two .none (.leaf) (.two .none (.leaf) (.two .none (.two .none (.leaf) (.one (.loop ⟨[(5, .s (.ref 5 [])), (6, .v (.int .i64))], [(5, (.osl (.int .i64)))]⟩ (.x 0 ⟨[(5, .s (.ref 5 []))], [(5, (.osl (.int .i64)))]⟩) (.two .none (.two .none (.leaf) (.two .none (.leaf) (.leaf))) (.two (.x [6] ⟨[(5, .s (.ref 5 []))], [(5, (.osl (.int .i64)))]⟩) (.one (.two .none (.leaf) (.two (.x [] ⟨[(5, .s (.ref 5 [])), (7, .v (.int .i64))], [(5, (.osl (.int .i64)))]⟩) (.two .none (.leaf) (.two .none (.leaf) (.leaf))) (.leaf)))) (.leaf)))))) (.two .none (.leaf) (.leaf)))))) Try.func24 (by kernel_rfl) (by kernel_rfl) (by kernel_rfl) Try.call24 (tbl_cons ok40 (tbl_cons ok11 tbl_nil)) (by intro a; kernel_rfl)
noncomputable def F54 : Fun := ⟨54, [.v (.st (.pr (.slc .bor (.slc .bor (.int .i64))) .nil))], [(.optr (.st (.pr (.osl (.mp .bool)) (.pr (.osl (.mp .bool)) (.pr (.osl (.mp .bool)) (.pr (.osl (.int .i64)) (.pr (.osl .bool) (.pr (.int .i64) .nil))))))))], d_mindeg_newQuotient⟩
theorem ok54 : OkFun E F54 :=
  OkFun.of (fn := Try.f54) (rs := [.tmp 2]) ([]) [(1, (.ptr .imm (.st (.pr (.slc .bor (.slc .bor (.int .i64))) .nil)))), (13, (.osl (.mp .bool))), (15, (.osl (.mp .bool))), (17, (.osl (.mp .bool))), (19, (.osl (.int .i64))), (21, (.osl .bool)), (48, (.mp .bool)), (49, (.mp .bool))] [] (.keep [0] (.two .none (.leaf) (.two .none (.leaf) (.two .none (.draw [⟨0, [12], [3], [], [], []⟩, ⟨1, [13], [12, 12], [0, 0], [13], [13]⟩, ⟨2, [14], [3], [], [], []⟩, ⟨3, [15], [14, 14], [2, 2], [15], [15]⟩, ⟨4, [16], [3], [], [], []⟩, ⟨5, [17], [16, 16], [4, 4], [17], [17]⟩, ⟨6, [18], [3], [], [], []⟩, ⟨7, [19], [18, 18], [6, 6], [19], [19]⟩, ⟨8, [20], [3], [], [], []⟩, ⟨9, [21], [20, 20], [8, 8], [21], [21]⟩, ⟨10, [22], [3], [], [], []⟩, ⟨11, [23], [13, 15, 17, 19, 21, 22], [1, 3, 5, 7, 9, 10], [13, 15, 17, 19, 21, 23], [13, 15, 17, 19, 21, 23, 500013, 500015, 500017, 500019, 500021]⟩, ⟨12, [24], [23], [11], [23, 24], [23, 24, 500023]⟩, ⟨13, [4], [24], [12, 0, 1, 2, 3, 4, 5, 6, 7, 8, 9, 10, 11, 12], [4, 24], [4, 24, 500004, 500024]⟩]) (.two .none (.two .none (.leaf) (.one (.keep [26, 27] (.loop ⟨[(4, .s (.ref 4 [])), (28, .v (.int .i64))], [(4, (.optr (.st (.pr (.osl (.mp .bool)) (.pr (.osl (.mp .bool)) (.pr (.osl (.mp .bool)) (.pr (.osl (.int .i64)) (.pr (.osl .bool) (.pr (.int .i64) .nil)))))))))]⟩ (.x 0 ⟨[(4, .s (.ref 4 []))], [(4, (.optr (.st (.pr (.osl (.mp .bool)) (.pr (.osl (.mp .bool)) (.pr (.osl (.mp .bool)) (.pr (.osl (.int .i64)) (.pr (.osl .bool) (.pr (.int .i64) .nil)))))))))]⟩) (.two .none (.leaf) (.two .none (.two .none (.leaf) (.leaf)) (.two .none (.one (.two .none (.leaf) (.two .none (.draw [⟨0, [33], [4], [], [500004], []⟩, ⟨1, [34], [33], [0], [4], []⟩, ⟨2, [35], [34], [1], [4], []⟩, ⟨3, [36], [35], [2], [4], []⟩, ⟨4, [37], [5], [], [], []⟩, ⟨5, [38], [4], [], [500004], []⟩, ⟨6, [39], [38], [5], [4], []⟩, ⟨7, [40], [39], [6], [4], []⟩, ⟨8, [41], [40], [7], [4], []⟩, ⟨9, [42], [5], [], [], []⟩, ⟨10, [43], [4], [], [500004], []⟩, ⟨11, [44], [43], [10], [4], []⟩, ⟨12, [45], [44], [11], [4], []⟩, ⟨13, [46], [45], [12], [4], []⟩, ⟨14, [47], [5], [], [], []⟩, ⟨15, [48], [], [], [48], [48]⟩, ⟨16, [49], [], [], [49], [49]⟩, ⟨17, [50], [6], [], [], []⟩, ⟨18, [51], [50], [17], [], []⟩, ⟨19, [52], [36, 37], [3, 4, 0, 1, 2, 3, 4, 8, 13, 15], [4], []⟩, ⟨20, [], [52, 48], [19, 15, 0, 1, 2, 3, 4, 8, 13, 15], [4, 48], [4, 48, 500048]⟩, ⟨21, [53], [41, 42], [8, 9, 0, 1, 2, 3, 4, 5, 6, 7, 8, 9, 13, 15, 16, 19, 20], [4], []⟩, ⟨22, [], [53, 49], [21, 16, 20, 0, 1, 2, 3, 4, 5, 6, 7, 8, 9, 13, 15, 16, 19, 20], [4, 49], [4, 49, 500049]⟩, ⟨23, [54], [46, 47], [13, 14, 0, 1, 2, 3, 4, 5, 6, 7, 8, 9, 10, 11, 12, 13, 14, 15, 16, 17, 18, 19, 20, 21, 22], [4], []⟩, ⟨24, [], [54, 51], [23, 18, 22, 0, 1, 2, 3, 4, 5, 6, 7, 8, 9, 10, 11, 12, 13, 14, 15, 16, 17, 18, 19, 20, 21, 22], [4], [4]⟩]) (.two .none (.leaf) (.one (.keep [5, 28, 55, 56] (.loop ⟨[(4, .s (.ref 4 [])), (57, .v (.int .i64))], [(4, (.optr (.st (.pr (.osl (.mp .bool)) (.pr (.osl (.mp .bool)) (.pr (.osl (.mp .bool)) (.pr (.osl (.int .i64)) (.pr (.osl .bool) (.pr (.int .i64) .nil)))))))))]⟩ (.x 2 ⟨[(4, .s (.ref 4 []))], [(4, (.optr (.st (.pr (.osl (.mp .bool)) (.pr (.osl (.mp .bool)) (.pr (.osl (.mp .bool)) (.pr (.osl (.int .i64)) (.pr (.osl .bool) (.pr (.int .i64) .nil)))))))))]⟩) (.two .none (.leaf) (.two .none (.two .none (.leaf) (.leaf)) (.two .none (.one (.two .none (.leaf) (.leaf))) (.leaf))))))))))) (.leaf)))))))) (.two .none (.leaf) (.leaf))))))) Try.func54 (by kernel_rfl) (by kernel_rfl) (by kernel_rfl) Try.call54 tbl_nil (by intro a; kernel_rfl)
noncomputable def F55 : Fun := ⟨55, [.v (.ptr .bor (.st (.pr (.slc .bor (.vm .bor .bool)) (.pr (.slc .bor (.vm .bor .bool)) (.pr (.slc .bor (.vm .bor .bool)) (.pr (.slc .bor (.int .i64)) (.pr (.slc .bor .bool) (.pr (.int .i64) .nil))))))))], [(.int .i64)], d_mindeg_quotient_least⟩
theorem ok55 : OkFun E F55 :=
  OkFun.of (fn := Try.f55) (rs := [.tmp 2]) ([]) [] [] (.keep [0] (.two .none (.leaf) (.two .none (.leaf) (.two .none (.two .none (.leaf) (.one (.keep [9, 10] (.loop ⟨[(3, .v (.int .i64)), (11, .v (.int .i64))], []⟩ (.x 0 ⟨[(3, .v (.int .i64))], []⟩) (.two .none (.leaf) (.two .none (.two .none (.leaf) (.leaf)) (.two (.x [11] ⟨[(3, .v (.int .i64))], []⟩) (.one (.two .none (.leaf) (.two (.x [3, 4] ⟨[(38, .v .bool)], []⟩) (.leaf) (.two .none (.leaf) (.leaf))))) (.leaf)))))))) (.two .none (.leaf) (.leaf)))))) Try.func55 (by kernel_rfl) (by kernel_rfl) (by kernel_rfl) Try.call55 tbl_nil (by intro a; kernel_rfl)
noncomputable def F72 : Fun := ⟨72, [.v (.vm .bor .bool), .v (.vm .bor .bool)], [(.int .i64)], d_mindeg_set_outside⟩
theorem ok72 : OkFun E F72 :=
  OkFun.of (fn := Try.f72) (rs := [.tmp 4]) ([]) [] [] (.keep [0, 1] (.two .none (.leaf) (.two .none (.leaf) (.two .none (.mr [7] ⟨[(5, .v (.int .i64))], []⟩ (.two .none (.leaf) (.two .none (.leaf) (.leaf)))) (.two .none (.leaf) (.leaf)))))) Try.func72 (by kernel_rfl) (by kernel_rfl) (by kernel_rfl) Try.call72 tbl_nil (by intro a; kernel_rfl)
noncomputable def F65 : Fun := ⟨65, [.v (.ptr .bor (.st (.pr (.slc .bor (.vm .bor .bool)) (.pr (.slc .bor (.vm .bor .bool)) (.pr (.slc .bor (.vm .bor .bool)) (.pr (.slc .bor (.int .i64)) (.pr (.slc .bor .bool) (.pr (.int .i64) .nil)))))))), .v (.int .i64), .v (.int .i64)], [(.int .i64)], d_mindeg_quotient_bound⟩
theorem ok65 : OkFun E F65 :=
  OkFun.of (fn := Try.f65) (rs := [.tmp 6]) ((72, F72) :: []) [] [] (.keep [0, 1, 2] (.two .none (.leaf) (.two .none (.leaf) (.two .none (.leaf) (.two .none (.mr [7, 35] ⟨[(8, .v (.int .i64))], []⟩ (.two .none (.leaf) (.two .none (.draw [⟨0, [44], [8], [], [], []⟩, ⟨1, [45], [0], [], [], []⟩, ⟨2, [46], [45], [1], [], []⟩, ⟨3, [47], [46], [2], [], []⟩, ⟨4, [48], [47], [3], [], []⟩, ⟨5, [49], [9], [], [], []⟩, ⟨6, [50], [48, 49], [4, 5], [], []⟩, ⟨7, [51], [50], [6], [], []⟩, ⟨8, [52], [0], [], [], []⟩, ⟨9, [53], [52], [8], [], []⟩, ⟨10, [54], [53], [9], [], []⟩, ⟨11, [55], [54], [10], [], []⟩, ⟨12, [56], [2], [], [], []⟩, ⟨13, [57], [55, 56], [11, 12], [], []⟩, ⟨14, [58], [57], [13], [], []⟩, ⟨15, [59], [51, 58], [7, 14], [], []⟩, ⟨16, [60], [44, 59], [0, 15], [], []⟩, ⟨17, [8], [60], [16, 15, 0, 1, 2, 3, 4, 5, 6, 7, 8, 9, 10, 11, 12, 13, 14, 15, 16], [], []⟩]) (.leaf)))) (.two .none (.draw [⟨0, [61], [0], [], [], []⟩, ⟨1, [62], [61], [0], [], []⟩, ⟨2, [63], [62], [1], [], []⟩, ⟨3, [64], [63], [2], [], []⟩, ⟨4, [65], [64], [3], [], []⟩, ⟨5, [66], [0], [], [], []⟩, ⟨6, [67], [66], [5], [], []⟩, ⟨7, [68], [67], [6], [], []⟩, ⟨8, [69], [68], [7], [], []⟩, ⟨9, [70], [1], [], [], []⟩, ⟨10, [71], [69, 70], [8, 9], [], []⟩, ⟨11, [72], [71], [10], [], []⟩, ⟨12, [73], [7], [], [], []⟩, ⟨13, [74], [72, 73], [11, 12], [], []⟩, ⟨14, [75], [8], [], [], []⟩, ⟨15, [76], [65, 74, 75], [4, 13, 14], [], []⟩, ⟨16, [6], [76], [15, 0, 1, 2, 3, 4, 5, 6, 7, 8, 9, 10, 11, 12, 13, 14, 15], [], []⟩]) (.leaf))))))) Try.func65 (by kernel_rfl) (by kernel_rfl) (by kernel_rfl) Try.call65 (tbl_cons ok72 tbl_nil) (by intro a; kernel_rfl)
noncomputable def F56 : Fun := ⟨56, [.m (.optr (.st (.pr (.osl (.mp .bool)) (.pr (.osl (.mp .bool)) (.pr (.osl (.mp .bool)) (.pr (.osl (.int .i64)) (.pr (.osl .bool) (.pr (.int .i64) .nil)))))))), .v (.int .i64)], [], d_mindeg_quotient_eliminate⟩
theorem ok56 : OkFun E F56 :=
  OkFun.of (fn := Try.f56) (rs := []) ((65, F65) :: []) [(25, (.mp .bool))] [] (.keep [1] (.two .none (.leaf) (.two .none (.leaf) (.two .none (.leaf) (.two .none (.mr [] ⟨[(0, .s (.ref 0 [])), (4, .s (.ref 4 [])), (32, .p 0 [.deref, .unst, .fst] [])], [(0, (.optr (.st (.pr (.osl (.mp .bool)) (.pr (.osl (.mp .bool)) (.pr (.osl (.mp .bool)) (.pr (.osl (.int .i64)) (.pr (.osl .bool) (.pr (.int .i64) .nil))))))))), (4, (.mp .bool))]⟩ (.leaf)) (.two .none (.mr [] ⟨[(0, .s (.ref 0 [])), (4, .s (.ref 4 [])), (46, .p 0 [.deref, .unst, .snd, .fst] [])], [(0, (.optr (.st (.pr (.osl (.mp .bool)) (.pr (.osl (.mp .bool)) (.pr (.osl (.mp .bool)) (.pr (.osl (.int .i64)) (.pr (.osl .bool) (.pr (.int .i64) .nil))))))))), (4, (.mp .bool))]⟩ (.mr [] ⟨[(0, .s (.ref 0 [])), (4, .s (.ref 4 [])), (46, .p 0 [.deref, .unst, .snd, .fst] []), (58, .p 0 [.deref, .unst, .snd, .snd, .fst] [])], [(0, (.optr (.st (.pr (.osl (.mp .bool)) (.pr (.osl (.mp .bool)) (.pr (.osl (.mp .bool)) (.pr (.osl (.int .i64)) (.pr (.osl .bool) (.pr (.int .i64) .nil))))))))), (4, (.mp .bool))]⟩ (.leaf))) (.two .none (.leaf) (.two .none (.mv [4]) (.two .none (.mr [] ⟨[(0, .s (.ref 0 [])), (4, .p 0 [.deref, .unst, .snd, .snd, .fst] []), (75, .p 0 [.deref, .unst, .snd, .snd, .fst] [])], [(0, (.optr (.st (.pr (.osl (.mp .bool)) (.pr (.osl (.mp .bool)) (.pr (.osl (.mp .bool)) (.pr (.osl (.int .i64)) (.pr (.osl .bool) (.pr (.int .i64) .nil)))))))))]⟩ (.two .none (.leaf) (.two .none (.mr [8] ⟨[(0, .s (.ref 0 [])), (4, .p 0 [.deref, .unst, .snd, .snd, .fst] []), (75, .p 0 [.deref, .unst, .snd, .snd, .fst] []), (89, .p 0 [.deref, .unst, .snd, .snd, .fst] [])], [(0, (.optr (.st (.pr (.osl (.mp .bool)) (.pr (.osl (.mp .bool)) (.pr (.osl (.mp .bool)) (.pr (.osl (.int .i64)) (.pr (.osl .bool) (.pr (.int .i64) .nil)))))))))]⟩ (.leaf)) (.two .none (.mr [8] ⟨[(0, .s (.ref 0 [])), (4, .p 0 [.deref, .unst, .snd, .snd, .fst] []), (75, .p 0 [.deref, .unst, .snd, .snd, .fst] []), (109, .p 0 [.deref, .unst, .snd, .fst] [])], [(0, (.optr (.st (.pr (.osl (.mp .bool)) (.pr (.osl (.mp .bool)) (.pr (.osl (.mp .bool)) (.pr (.osl (.int .i64)) (.pr (.osl .bool) (.pr (.int .i64) .nil)))))))))]⟩ (.leaf)) (.leaf))))) (.mr [] ⟨[(0, .s (.ref 0 [])), (131, .p 0 [.deref, .unst, .snd, .snd, .fst] [])], [(0, (.optr (.st (.pr (.osl (.mp .bool)) (.pr (.osl (.mp .bool)) (.pr (.osl (.mp .bool)) (.pr (.osl (.int .i64)) (.pr (.osl .bool) (.pr (.int .i64) .nil)))))))))]⟩ (.draw [⟨0, [137], [0], [], [500000], []⟩, ⟨1, [138], [137], [0], [0], []⟩, ⟨2, [139], [138], [1], [0], []⟩, ⟨3, [140], [139], [2], [0], []⟩, ⟨4, [141], [11], [], [], []⟩, ⟨5, [142], [0], [], [500000], []⟩, ⟨6, [143], [11], [], [], []⟩, ⟨7, [144], [1], [], [], []⟩, ⟨8, [145], [142, 143, 144], [5, 6, 7], [0], []⟩, ⟨9, [146], [140, 141], [3, 4, 0, 1, 2, 3, 4, 5, 6, 7, 8], [0], []⟩, ⟨10, [], [146, 145], [9, 8, 8, 0, 1, 2, 3, 4, 5, 6, 7, 8], [0], [0]⟩]))))))))))) Try.func56 (by kernel_rfl) (by kernel_rfl) (by kernel_rfl) Try.call56 (tbl_cons ok65 tbl_nil) (by intro a; kernel_rfl)
noncomputable def F41 : Fun := ⟨41, [.v (.st (.pr (.slc .bor (.slc .bor (.int .i64))) .nil))], [(.osl (.int .i64)), (.osl (.int .i64)), (.int .i64)], d_mindeg_approx⟩
theorem ok41 : OkFun E F41 :=
  OkFun.of (fn := Try.f41) (rs := [.tmp 2, .tmp 3, .tmp 4]) ((56, F56) :: (55, F55) :: (54, F54) :: (33, F33) :: []) [(1, (.ptr .imm (.st (.pr (.slc .bor (.slc .bor (.int .i64))) .nil)))), (2, (.osl (.int .i64))), (3, (.osl (.int .i64)))] [] (.keep [0] (.two .none (.leaf) (.two .none (.leaf) (.two .none (.two .none (.leaf) (.two .none (.two .none (.leaf) (.leaf)) (.leaf))) (.two .none (.leaf) (.two .none (.one (.loop ⟨[(2, .s (.ref 2 [])), (3, .s (.ref 3 [])), (5, .s (.ref 5 []))], [(2, (.osl (.int .i64))), (3, (.osl (.int .i64))), (5, (.optr (.st (.pr (.osl (.mp .bool)) (.pr (.osl (.mp .bool)) (.pr (.osl (.mp .bool)) (.pr (.osl (.int .i64)) (.pr (.osl .bool) (.pr (.int .i64) .nil)))))))))]⟩ (.x 0 ⟨[(2, .s (.ref 2 [])), (3, .s (.ref 3 []))], [(2, (.osl (.int .i64))), (3, (.osl (.int .i64)))]⟩) (.two .none (.two .none (.leaf) (.two .none (.leaf) (.leaf))) (.one (.two .none (.leaf) (.two .none (.draw [⟨0, [21], [2], [], [500002], []⟩, ⟨1, [22], [6], [], [], []⟩, ⟨2, [23], [22], [1], [23], [23]⟩, ⟨3, [24], [21, 23], [0, 2], [2, 23, 24], [2, 24, 500002, 500024]⟩, ⟨4, [25], [3], [], [500003], []⟩, ⟨5, [26], [5], [], [500005], []⟩, ⟨6, [27], [26], [5], [5], []⟩, ⟨7, [28], [27], [6], [5], []⟩, ⟨8, [29], [28], [7], [5], []⟩, ⟨9, [30], [6], [], [], []⟩, ⟨10, [31], [29, 30], [8, 9], [5], []⟩, ⟨11, [32], [31], [10], [5], []⟩, ⟨12, [33], [32], [11], [33], [33]⟩, ⟨13, [34], [25, 33], [4, 12, 3], [3, 33, 34], [3, 34, 500003, 500034]⟩, ⟨14, [2], [24], [3, 13, 0, 1, 2, 3], [2, 24], [2, 24, 500002, 500024]⟩, ⟨15, [3], [34], [13, 14, 0, 1, 2, 3, 4, 5, 6, 7, 8, 9, 10, 11, 12, 13, 14], [3, 34], [3, 34, 500003, 500034]⟩]) (.leaf))))))) (.two .none (.leaf) (.leaf)))))))) Try.func41 (by kernel_rfl) (by kernel_rfl) (by kernel_rfl) Try.call41 (tbl_cons ok56 (tbl_cons ok55 (tbl_cons ok54 (tbl_cons ok33 tbl_nil)))) (by intro a; kernel_rfl)
noncomputable def F25 : Fun := ⟨25, [.v (.st (.pr (.slc .bor (.slc .bor (.int .i64))) .nil))], [(.slc .imm (.int .i64)), (.int .i64)], d_mindeg_Approx⟩
theorem ok25 : OkFun E F25 :=
  OkFun.of (fn := Try.f25) (rs := [.tmp 2, .tmp 3]) ((41, F41) :: []) [(1, (.ptr .imm (.st (.pr (.slc .bor (.slc .bor (.int .i64))) .nil)))), (4, (.slc .imm (.int .i64))), (5, (.slc .imm (.int .i64)))] [(4, 10000), (5, 10001)] (.keep [0] (.two .none (.leaf) (.two .none (.leaf) (.two .none (.leaf) (.leaf))))) Try.func25 (by kernel_rfl) (by kernel_rfl) (by kernel_rfl) Try.call25 (tbl_cons ok41 tbl_nil) (by intro a; kernel_rfl)
noncomputable def F6 : Fun := ⟨6, [.v (.int .i64), .v (.slc .bor (.int .i64))], [.bool], d_sparselaw16q_MindegForest⟩
theorem ok6 : OkFun E F6 :=
  OkFun.of (fn := Try.f6) (rs := [.tmp 4]) ((25, F25) :: (24, F24) :: (16, F16) :: (14, F14) :: (12, F12) :: (11, F11) :: (10, F10) :: []) [(5, (.slc .imm (.int .i64))), (6, (.osl (.int .i64))), (8, (.st (.pr (.slc .imm (.slc .imm (.int .i64))) .nil))), (9, (.slc .imm (.int .i64))), (13, (.slc .imm (.int .i64))), (15, (.slc .imm (.int .i64)))] [(5, 26), (9, 51000), (13, 62000), (15, 68000)] (.keep [1] (.two .none (.leaf) (.two .none (.leaf) (.two .none (.two .none (.leaf) (.two .none (.two .none (.leaf) (.leaf)) (.leaf))) (.two .none (.leaf) (.two .none (.leaf) (.two .none (.two .none (.leaf) (.one (.keep [0, 5] (.loop ⟨[(6, .s (.ref 6 [])), (7, .v (.int .i64))], [(6, (.osl (.int .i64)))]⟩ (.x 0 ⟨[(6, .s (.ref 6 []))], [(6, (.osl (.int .i64)))]⟩) (.two .none (.two .none (.leaf) (.two .none (.leaf) (.leaf))) (.two (.x [7] ⟨[(6, .s (.ref 6 []))], [(6, (.osl (.int .i64)))]⟩) (.one (.two .none (.leaf) (.two .none (.leaf) (.leaf)))) (.leaf))))))) (.two .none (.leaf) (.two .none (.leaf) (.two .none (.leaf) (.two .none (.leaf) (.two .none (.leaf) (.two (.xr [0, 13, 15] ⟨[], []⟩) (.two .none (.leaf) (.two .none (.two .none (.leaf) (.leaf)) (.leaf))) (.two .none (.two .none (.leaf) (.one (.keep [0, 13, 15] (.loop ⟨[(17, .v (.int .i64))], []⟩ (.xr 2 ⟨[], []⟩) (.two .none (.two .none (.leaf) (.two .none (.leaf) (.leaf))) (.two (.xr [17] ⟨[], []⟩) (.one (.two .none (.leaf) (.two .none (.two .none (.leaf) (.leaf)) (.leaf)))) (.leaf))))))) (.two .none (.leaf) (.leaf)))))))))))))))) Try.func6 (by kernel_rfl) (by kernel_rfl) (by kernel_rfl) Try.call6 (tbl_cons ok25 (tbl_cons ok24 (tbl_cons ok16 (tbl_cons ok14 (tbl_cons ok12 (tbl_cons ok11 (tbl_cons ok10 tbl_nil))))))) (by intro a; kernel_rfl)
end Go.Fw
end

section
namespace Go.Fw
theorem take_snoc {α : Type} {a : List α} {i : Nat} (h : i < a.length) : a.take i ++ [a[i]] = a.take (i + 1) := by
  rw [List.take_add_one, List.getElem?_eq_getElem h]; rfl
theorem pairwise_iff {l : List Int} : l.Pairwise (· < ·) ↔ ∀ k, (h : k + 1 < l.length) → l[k] < l[k + 1] := by
  constructor
  · intro h k hk
    exact (List.pairwise_iff_getElem.1 h) k (k + 1) (by omega) hk (by omega)
  · intro h
    rw [List.pairwise_iff_getElem]
    have key : ∀ d i (hi : i < l.length) (hj : i + d + 1 < l.length), l[i] < l[i + d + 1] := by
      intro d
      induction d with
      | zero => intro i hi hj; exact h i hj
      | succ d ih =>
        intro i hi hj
        have h1 := ih i hi (by omega)
        have h2 := h (i + d + 1) (by omega)
        exact Int.lt_trans h1 h2
    intro i j hi hj hij
    obtain ⟨d, rfl⟩ : ∃ d, j = i + d + 1 := ⟨j - i - 1, by omega⟩
    exact key d i hi hj
end Go.Fw
end

section
set_option linter.unusedSimpArgs false
set_option linter.unusedVariables false
namespace Go.Fw
def AscIn (l : List Int) (n : Int) : Prop := l.Pairwise (· < ·) ∧ ∀ x ∈ l, 0 ≤ x ∧ x < n
theorem Ok.count {σ ρ : Type} {f : σ → Option (σ ⊕ ρ)} {Q : ρ → Prop} (ix : σ → Int) (n : Nat) (I : Nat → σ → Prop) {i0 : Nat} {s0 : σ} (hix : ix s0 = (i0 : Int)) (h0 : I i0 s0) (hi : i0 ≤ n)
    (hstep : ∀ i s, i0 ≤ i → i < n → ix s = (i : Int) → I i s → Ok (f s) (fun | .inl s' => ix s' = ((i + 1 : Nat) : Int) ∧ I (i + 1) s' | .inr r => Q r))
    (hend : ∀ s, ix s = (n : Int) → I n s → Ok (f s) (fun | .inl _ => False | .inr r => Q r)) : Ok (Fw.loop f s0) Q := by
  refine Ok.loop (fun s => ∃ i : Nat, i0 ≤ i ∧ i ≤ n ∧ ix s = (i : Int) ∧ I i s) (fun s => n - (ix s).toNat) ⟨i0, Nat.le_refl _, hi, hix, h0⟩ ?_
  rintro s ⟨i, hl, hi, e, ht⟩
  rcases Nat.lt_or_ge i n with h | h
  · refine (hstep i s hl h e ht).mono ?_
    rintro (s' | r) hy
    · obtain ⟨e', h2⟩ := hy
      exact ⟨⟨i + 1, by omega, by omega, e', h2⟩, by rw [e, e']; simp; omega⟩
    · exact hy
  · obtain rfl : i = n := by omega
    refine (hend s e ht).mono ?_
    rintro (s' | r) hy
    · exact hy.elim
    · exact hy
open Classical in
theorem ascending_eq (l : List Int) (n : Int) (hl : l.length < 4611686018427387904) : d_graph_ascending (l, n, ()) = some (decide (AscIn l n), ()) := by
  rw [← Ok.eq_iff]
  unfold d_graph_ascending
  simp only [Ok.bind_iff]
  refine Ok.count (fun s => s.2.1) l.length (fun i s => s.1 = (if i = 0 then -1 else l.getD (i - 1) 0) ∧ (l.take i).Pairwise (· < ·) ∧ ∀ x ∈ l.take i, 0 ≤ x ∧ x < n) (i0 := 0) rfl ⟨rfl, by simp, by simp⟩ (Nat.zero_le _) ?_ ?_
  · rintro i ⟨last, j, _⟩ _ hi e ⟨h1, h2, h3⟩
    simp only at e h1
    subst e
    simp only [Ok.bif_iff, Ok.bind_iff, Ok.some_iff, Ok.getN_iff]
    -- what is before is less than the last one, which is at least -1
    have hlast : ∀ x ∈ l.take i, x ≤ last := by
      intro x hx
      rw [h1]
      obtain ⟨k, hk, rfl⟩ := List.mem_iff_getElem.1 hx
      simp only [List.length_take] at hk
      have hi0 : i ≠ 0 := by omega
      rw [if_neg hi0]
      simp only [List.getElem_take, List.getD, List.getElem?_eq_getElem (show i - 1 < l.length by omega), Option.getD_some]
      rcases Nat.lt_or_ge k (i - 1) with h | h
      · have := (List.pairwise_iff_getElem.1 h2) k (i - 1) (by simp; omega) (by simp; omega) h
        simp only [List.getElem_take] at this
        omega
      · have : k = i - 1 := by omega
        subst this; exact Int.le_refl _
    have hm1 : -1 ≤ last := by
      rw [h1]
      by_cases h0 : i = 0
      · rw [if_pos h0]; exact Int.le_refl _
      · rw [if_neg h0]
        simp only [List.getD, List.getElem?_eq_getElem (show i - 1 < l.length by omega), Option.getD_some]
        have := h3 (l[i - 1]) (List.mem_iff_getElem.2 ⟨i - 1, by simp; omega, by simp⟩)
        omega
    have hbad : (l[i] ≤ last ∨ n ≤ l[i]) → ¬ AscIn l n := by
      rintro h ⟨p1, p2⟩
      rcases h with h | h
      · rw [h1] at h
        by_cases h0 : i = 0
        · rw [if_pos h0] at h
          have := p2 _ (List.getElem_mem hi); omega
        · rw [if_neg h0] at h
          simp only [List.getD, List.getElem?_eq_getElem (show i - 1 < l.length by omega), Option.getD_some] at h
          have := (List.pairwise_iff_getElem.1 p1) (i - 1) i (by omega) hi (by omega)
          omega
      · have := p2 _ (List.getElem_mem hi); omega
    refine ⟨fun _ => ⟨hi, fun g1 => ⟨fun g2 => ?_, fun g2 => ?_⟩, fun g1 => ?_⟩, fun hf => by simp at hf; omega⟩
    · have := hbad (.inr (by simpa using g2))
      simp [this]
    · simp at g1 g2
      refine ⟨wrap_succ (by omega), ?_, ?_, ?_⟩
      · simp [List.getD, hi]
      · rw [← take_snoc hi, List.pairwise_append]
        refine ⟨h2, by simp, fun a ha b hb => ?_⟩
        simp only [List.mem_singleton] at hb
        subst hb
        have := hlast a ha; omega
      · rw [← take_snoc hi]
        intro x hx
        rcases List.mem_append.1 hx with hx | hx
        · exact h3 x hx
        · simp only [List.mem_singleton] at hx
          subst hx
          omega
    · have := hbad (.inl (by simpa using g1))
      simp [this]
  · rintro ⟨last, j, _⟩ e ⟨h1, h2, h3⟩
    simp only at e
    subst e
    simp only [Ok.bif_iff, Ok.some_iff]
    refine ⟨fun hf => by simp at hf, fun _ => ?_⟩
    rw [List.take_length] at h2 h3
    have : AscIn l n := ⟨h2, h3⟩
    simp [this]
theorem Less_eq (x y : Int) : d_cmp_Less_int (x, y, ()) = some (decide (x < y), ()) := by
  unfold d_cmp_Less_int d_cmp_isNaN_int
  simp
theorem wrapUq_eq (x : Int) (h1 : 0 ≤ x) (h2 : x < 18446744073709551616) : IntKind.u64.wrap x = x := by
  unfold IntKind.wrap
  rw [if_neg (by simp [IntKind.signed])]
  show x % 18446744073709551616 = x
  omega
theorem BinarySearch_eq (l : List Int) (v : Int) (hl : l.length < 4611686018427387904) (hp : l.Pairwise (· < ·)) : Ok (d_slices_BinarySearch_int_int (l, v, ())) (fun r => r.2.1 = decide (v ∈ l)) := by
  unfold d_slices_BinarySearch_int_int
  simp only [Ok.bind_iff]
  refine Ok.mono (P := fun q => ∃ i : Nat, q.1 = (i : Int) ∧ i ≤ l.length ∧ (∀ k, (h : k < l.length) → k < i → l[k] < v) ∧ (∀ k, (h : k < l.length) → i ≤ k → v ≤ l[k])) ?_ ?_
  · refine Ok.loop (fun s => ∃ i j : Nat, s.1 = (i : Int) ∧ s.2.1 = (j : Int) ∧ i ≤ j ∧ j ≤ l.length ∧ (∀ k, (h : k < l.length) → k < i → l[k] < v) ∧ (∀ k, (h : k < l.length) → j ≤ k → v ≤ l[k])) (fun s => (s.2.1 - s.1).toNat) ⟨0, l.length, rfl, rfl, Nat.zero_le _, Nat.le_refl _, fun k _ h => by omega, fun k h1 h2 => by omega⟩ ?_
    rintro ⟨i', j', _⟩ ⟨i, j, rfl, rfl, hij, hj, h1, h2⟩
    simp only [Ok.bif_iff, Ok.bind_iff, Ok.some_iff]
    refine ⟨fun hlt => ?_, fun hge => ?_⟩
    · have hlt : i < j := by simpa using hlt
      have e1 : IntKind.i64.wrap ((i : Int) + j) = (i : Int) + j := wrap64 (by omega) (by omega)
      rw [e1, wrapUq_eq _ (by omega) (by omega)]
      have hs : shrO IntKind.u64 ((i : Int) + j) 1 = some (((i + j) / 2 : Nat) : Int) := by
        unfold shrO
        rw [if_pos (by omega)]
        congr 1
        show ((i : Int) + j).fdiv (2 ^ min 1 64) = _
        rw [show (2 : Int) ^ min 1 64 = 2 from rfl, Int.fdiv_eq_ediv_of_nonneg _ (by omega)]
        omega
      rw [hs]
      simp only [Ok.some_iff]
      have e2 : IntKind.i64.wrap (((i + j) / 2 : Nat) : Int) = (((i + j) / 2 : Nat) : Int) := wrap64 (by omega) (by omega)
      rw [e2, Ok.getN_iff]
      refine ⟨by omega, ?_⟩
      rw [Less_eq]
      simp only [Ok.some_iff, Ok.bif_iff]
      have hh : (i + j) / 2 < l.length := by omega
      refine ⟨fun hlv => ?_, fun hlv => ?_⟩
      · have hlv : l[(i + j) / 2] < v := by simpa using hlv
        rw [wrap_succ (by omega)]
        refine ⟨⟨(i + j) / 2 + 1, j, rfl, rfl, by omega, hj, fun k hk hki => ?_, h2⟩, by omega⟩
        rcases Nat.lt_or_ge k ((i + j) / 2) with h | h
        · exact Int.lt_trans ((List.pairwise_iff_getElem.1 hp) k _ hk hh h) hlv
        · have : k = (i + j) / 2 := by omega
          subst this; exact hlv
      · have hlv : v ≤ l[(i + j) / 2] := by simpa using hlv
        refine ⟨⟨i, (i + j) / 2, rfl, rfl, by omega, by omega, h1, fun k hk hki => ?_⟩, by omega⟩
        rcases Nat.lt_or_ge ((i + j) / 2) k with h | h
        · have := (List.pairwise_iff_getElem.1 hp) _ k hh hk h; omega
        · have : k = (i + j) / 2 := by omega
          subst this; exact hlv
    · have hij' : i = j := by have : ¬ i < j := by simpa using hge
                              omega
      subst hij'
      exact ⟨i, rfl, hj, h1, h2⟩
  · rintro ⟨i', _⟩ ⟨i, rfl, hi, h1, h2⟩
    simp only
    have hno : (∀ h : i < l.length, l[i] ≠ v) → v ∉ l := by
      intro hne hm
      obtain ⟨k, hk, rfl⟩ := List.mem_iff_getElem.1 hm
      rcases Nat.lt_trichotomy k i with h | h | h
      · have := h1 k hk h; omega
      · subst h; exact hne hk rfl
      · have a1 := h2 i (by omega) (Nat.le_refl _)
        have a2 := (List.pairwise_iff_getElem.1 hp) i k (by omega) hk h
        omega
    simp only [Ok.bif_iff, Ok.bind_iff, Ok.some_iff, Ok.getN_iff]
    refine ⟨fun hlt => ?_, fun hge => ?_⟩
    · have hlt : i < l.length := by simpa using hlt
      refine ⟨hlt, fun hne => ?_, fun heq => ?_⟩
      · have hne : l[i] ≠ v := by simpa using hne
        refine ⟨hlt, ?_⟩
        unfold d_slices_isNaN_int
        simp [Ok.some_iff]
        exact hno (fun _ => hne)
      · have heq : l[i] = v := by simpa using heq
        simp [← heq]
    · have hge : ¬ i < l.length := by simpa using hge
      simp
      exact hno (fun h => absurd h hge)
structure Valid (adj : List (List Int)) : Prop where
  asc : ∀ v, (h : v < adj.length) → AscIn adj[v] adj.length
  irr : ∀ v, (h : v < adj.length) → (v : Int) ∉ adj[v]
  sym : ∀ v, (h : v < adj.length) → ∀ w : Nat, (hw : w < adj.length) → (w : Int) ∈ adj[v] → (v : Int) ∈ adj[w]
open Classical in
noncomputable def chk (adj : List (List Int)) : Int := if 200 < adj.length then 6 else if Valid adj then 0 else 1
open Classical in
theorem joined_eq (adj : List (List Int)) (v : Nat) (w : Int) (hv : v < adj.length) (hl : adj[v].length < 4611686018427387904) (hp : adj[v].Pairwise (· < ·)) : d_graph_joined ((adj, ()), (v : Int), w, ()) = some (decide (w ∈ adj[v]), ()) := by
  rw [← Ok.eq_iff]
  unfold d_graph_joined
  simp only [Ok.bind_iff, Ok.getN_iff]
  refine ⟨hv, (BinarySearch_eq _ _ hl hp).mono ?_⟩
  rintro ⟨i, b, _⟩ h
  simp only at h
  rw [Ok.some_iff, h]
theorem Check_eq (adj : List (List Int)) (hc : ∀ l ∈ adj, l.length < 4611686018427387904) : d_graph_Check ((adj, ()), ()) = some (chk adj, ()) := by
  classical
  rw [← Ok.eq_iff]
  unfold d_graph_Check
  simp only [Ok.bif_iff, Ok.bind_iff, Ok.some_iff]
  refine ⟨fun h => ?_, fun h => ?_⟩
  · have : 200 < adj.length := by simp at h; omega
    simp [chk, this]
  have hn : ¬ 200 < adj.length := by simp at h; omega
  have hbad : ¬ Valid adj → (1 : Int) = chk adj := fun h => by simp [chk, hn, h]
  refine Ok.mono (P := fun q => (q = .inr (1, ()) ∧ ¬ Valid adj) ∨ (q = .inl () ∧ ∀ k, (h : k < adj.length) → AscIn adj[k] adj.length ∧ (k : Int) ∉ adj[k])) ?_ ?_
  · refine Ok.for (i0 := 0) adj.length (fun i _ => ∀ k, k < i → (h : k < adj.length) → AscIn adj[k] adj.length ∧ (k : Int) ∉ adj[k]) rfl (fun k hk => by omega) (Nat.zero_le _) ?_ ?_
    · rintro i _ _ hi hI
      simp only [Ok.bif_iff, Ok.bind_iff, Ok.some_iff, Ok.getN_iff]
      refine ⟨fun _ => ⟨hi, ?_⟩, fun hf => by simp at hf; omega⟩
      rw [ascending_eq _ _ (hc _ (List.getElem_mem hi))]
      simp only [Ok.some_iff]
      refine ⟨fun ha => ?_, fun ha => .inl ⟨trivial, fun hv => ?_⟩⟩
      · have ha : AscIn adj[i] adj.length := by simpa using ha
        rw [joined_eq adj i i hi (hc _ (List.getElem_mem hi)) ha.1]
        simp only [Ok.some_iff, Ok.bif_iff]
        refine ⟨fun hj => .inl ⟨trivial, fun hv => hv.irr i hi (by simpa using hj)⟩, fun hj => ⟨wrap_succ (by omega), fun k hk hkl => ?_⟩⟩
        rcases Nat.lt_or_ge k i with h2 | h2
        · exact hI k h2 hkl
        · obtain rfl : k = i := by omega
          exact ⟨ha, by simpa using hj⟩
      · have := hv.asc i hi
        simp [this] at ha
    · intro t hI
      simp only [Ok.bif_iff, Ok.some_iff]
      exact ⟨fun hf => by simp at hf, fun _ => .inr ⟨trivial, fun k hk => hI k hk hk⟩⟩
  · rintro q (⟨rfl, hv⟩ | ⟨rfl, hA⟩)
    · simp only [Ok.some_iff, hbad hv]
    simp only [Ok.bind_iff]
    have hsym : (∀ v, (h : v < adj.length) → ∀ x ∈ adj[v], ∀ w : Nat, x = (w : Int) → (hw : w < adj.length) → (v : Int) ∈ adj[w]) → Valid adj := fun h => ⟨fun v hv => (hA v hv).1, fun v hv => (hA v hv).2, fun v hv w hw hm => h v hv w hm w rfl hw⟩
    refine Ok.mono (P := fun q => (q = .inr (1, ()) ∧ ¬ Valid adj) ∨ (q = .inl () ∧ ∀ v, (h : v < adj.length) → ∀ x ∈ adj[v], ∀ w : Nat, x = (w : Int) → (hw : w < adj.length) → (v : Int) ∈ adj[w])) ?_ ?_
    · refine Ok.for (i0 := 0) adj.length (fun i _ => ∀ v, v < i → (h : v < adj.length) → ∀ x ∈ adj[v], ∀ w : Nat, x = (w : Int) → (hw : w < adj.length) → (v : Int) ∈ adj[w]) rfl (fun k hk => by omega) (Nat.zero_le _) ?_ ?_
      · rintro i _ _ hi hI
        simp only [Ok.bif_iff, Ok.bind_iff, Ok.getN_iff]
        refine ⟨fun _ => ⟨hi, ?_⟩, fun hf => by simp at hf; omega⟩
        have hli := hc _ (List.getElem_mem hi)
        refine Ok.mono (P := fun q => (q = .inr (.inr (.inr (1, ()))) ∧ ¬ Valid adj) ∨ (q = .inl () ∧ ∀ x ∈ adj[i], ∀ w : Nat, x = (w : Int) → (hw : w < adj.length) → (i : Int) ∈ adj[w])) ?_ ?_
        · refine Ok.for (i0 := 0) adj[i].length (fun k _ => ∀ m, m < k → (h : m < adj[i].length) → ∀ w : Nat, adj[i][m] = (w : Int) → (hw : w < adj.length) → (i : Int) ∈ adj[w]) rfl (fun k hk => by omega) (Nat.zero_le _) ?_ ?_
          · rintro k _ _ hk hK
            simp only [Ok.bif_iff, Ok.bind_iff, Ok.getN_iff]
            refine ⟨fun _ => ⟨hk, ?_⟩, fun hf => by simp at hf; omega⟩
            have hr := (hA i hi).1.2 _ (List.getElem_mem hk)
            obtain ⟨w, hw⟩ : ∃ w : Nat, adj[i][k] = (w : Int) := ⟨adj[i][k].toNat, by omega⟩
            have hwl : w < adj.length := by omega
            rw [hw, joined_eq adj w i hwl (hc _ (List.getElem_mem hwl)) (hA w hwl).1.1]
            simp only [Ok.some_iff, Ok.bif_iff]
            refine ⟨fun hno => .inl ⟨trivial, fun hv => ?_⟩, fun hyes => ⟨wrap_succ (by omega), fun m hm hml w' hw' hw'l => ?_⟩⟩
            · have := hv.sym i hi w hwl (hw ▸ List.getElem_mem hk)
              simp [this] at hno
            · rcases Nat.lt_or_ge m k with h2 | h2
              · exact hK m h2 hml w' hw' hw'l
              · obtain rfl : m = k := by omega
                have : w' = w := by omega
                subst this
                simpa using hyes
          · intro t hK
            simp only [Ok.bif_iff, Ok.some_iff]
            refine ⟨fun hf => by simp at hf, fun _ => .inr ⟨trivial, fun x hx w hw hwl => ?_⟩⟩
            obtain ⟨m, hm, rfl⟩ := List.mem_iff_getElem.1 hx
            exact hK m hm hm w hw hwl
        · rintro q (⟨rfl, hv⟩ | ⟨rfl, hX⟩)
          · simp only [Ok.some_iff]
            exact .inl ⟨trivial, hv⟩
          · simp only [Ok.some_iff]
            refine ⟨wrap_succ (by omega), fun v hv hvl => ?_⟩
            rcases Nat.lt_or_ge v i with h2 | h2
            · exact hI v h2 hvl
            · obtain rfl : v = i := by omega
              exact hX
      · intro t hI
        simp only [Ok.bif_iff, Ok.some_iff]
        exact ⟨fun hf => by simp at hf, fun _ => .inr ⟨trivial, fun k hk => hI k hk hk⟩⟩
    · rintro q (⟨rfl, hv⟩ | ⟨rfl, hX⟩)
      · simp only [Ok.some_iff, hbad hv]
      · simp only [Ok.some_iff]
        simp [chk, hn, hsym hX]
end Go.Fw
end

section
namespace Go.Fw
def Nb (adj : List (List Int)) (v w : Nat) : Prop := ∃ h : v < adj.length, (w : Int) ∈ adj[v]
theorem Nb.lt {adj : List (List Int)} (hv : Valid adj) {v w : Nat} (h : Nb adj v w) : v < adj.length ∧ w < adj.length := by
  obtain ⟨h1, h2⟩ := h
  have := (hv.asc v h1).2 _ h2
  exact ⟨h1, by omega⟩
theorem Nb.symm {adj : List (List Int)} (hv : Valid adj) : ∀ v w, Nb adj v w → Nb adj w v := fun v w h => by
  obtain ⟨h1, h2⟩ := h.lt hv
  exact ⟨h2, hv.sym v h1 w h2 h.2⟩
theorem Nb.ne {adj : List (List Int)} (hv : Valid adj) {v w : Nat} (h : Nb adj v w) : v ≠ w := fun e => by
  subst e
  exact hv.irr v h.1 h.2
inductive Up (R : Nat → Nat → Prop) : Nat → Nat → Prop
  | refl (u : Nat) : Up R u u
  | step {u p v : Nat} : R u p → Up R p v → Up R u v
section
variable (adj : List (List Int))
variable {adj} {j : Nat} {T : Nat → Prop} {par ah : List Int}
end
end Go.Fw
end

section
set_option linter.unusedSimpArgs false
set_option linter.unusedVariables false
namespace Go.Fw
theorem sorted_filter (p : Nat → Bool) (k : Nat) : (((List.range k).filter p).map fun (j : Nat) => (j : Int)).Pairwise (· < ·) := by
  rw [List.pairwise_map]
  refine List.Pairwise.filter _ ?_
  exact (List.pairwise_lt_range).imp (fun h => by omega)
end Go.Fw
end

section
set_option linter.unusedSimpArgs false
set_option linter.unusedVariables false
namespace Go.Fw
def placeV (a n : Int) : Int := (a % 18446744073709551616) % n
theorem wrapU64q_eq (x : Int) : IntKind.u64.wrap x = x % 18446744073709551616 := by
  unfold IntKind.wrap
  rw [if_neg (by simp [IntKind.signed])]
  rfl
theorem placeV_lt (a n : Int) (h : 0 < n) : 0 ≤ placeV a n ∧ placeV a n < n := by
  unfold placeV
  exact ⟨Int.emod_nonneg _ (by omega), Int.emod_lt_of_pos _ h⟩
theorem Place_eq (a n : Int) (h : 0 < n) (h2 : n ≤ 4294967296) : d_sparsekit_Place (a, n, ()) = some (placeV a n, ()) := by
  rw [← Ok.eq_iff]
  unfold d_sparsekit_Place
  simp only [Ok.bind_iff, wrapU64q_eq, show n % 18446744073709551616 = n by omega]
  unfold remO
  rw [if_pos (by omega)]
  have h3 : (a % 18446744073709551616).tmod n = placeV a n := Int.tmod_eq_emod_of_nonneg (Int.emod_nonneg _ (by omega))
  rw [Ok.some_iff, h3]
  have := placeV_lt a n h
  simp only [Ok.some_iff]
  rw [wrap64 (by omega) (by omega)]
def bitT (t : List (List Bool)) (v w : Nat) : Bool := (t.getD v []).getD w false
def lineT (t : List (List Bool)) (v k : Nat) : List Int := ((List.range k).filter fun w => v != w && (bitT t v w || bitT t w v)).map fun (w : Nat) => (w : Int)
def fromT (t : List (List Bool)) : List (List Int) := (List.range t.length).map fun v => lineT t v t.length
theorem lineT_length (t : List (List Bool)) (v k : Nat) : (lineT t v k).length ≤ k := by
  unfold lineT
  rw [List.length_map]
  exact Nat.le_trans (List.length_filter_le _ _) (by simp)
theorem lineT_succ (t : List (List Bool)) (v k : Nat) : lineT t v (k + 1) = lineT t v k ++ (if (v != k && (bitT t v k || bitT t k v)) = true then [(k : Int)] else []) := by
  unfold lineT
  rw [List.range_succ, List.filter_append, List.map_append]
  congr 1
  by_cases h : (v != k && (bitT t v k || bitT t k v)) = true
  · rw [if_pos h]; simp only [List.filter_cons, h, List.filter_nil]; rfl
  · rw [if_neg h]; simp only [List.filter_cons, List.filter_nil]; rw [if_neg h]; rfl
theorem bitT_get {t : List (List Bool)} {v w : Nat} (hv : v < t.length) (hw : w < t[v].length) : bitT t v w = t[v][w] := by
  unfold bitT
  simp [List.getD, hv, hw]
theorem FromTable_eq (t : List (List Bool)) (ht : ∀ l ∈ t, l.length = t.length) (hn : t.length ≤ 4294967296) : d_sparseref12q_FromTable (t, ()) = some ((fromT t, ()), ()) := by
  rw [← Ok.eq_iff]
  unfold d_sparseref12q_FromTable
  have hlim : lim = 4294967296 := rfl
  simp only [Ok.bind_iff]
  refine Ok.mono (P := fun q => q.2.1.1 = fromT t) ?_ ?_
  · refine Ok.for (i0 := 0) t.length (fun v s => s.2.1.1 = (List.range v).map fun v => lineT t v t.length) rfl rfl (Nat.zero_le _) ?_ ?_
    · rintro v ⟨s, g, _⟩ _ hv hg
      simp only at hg
      simp only [Ok.bif_iff, Ok.bind_iff, Ok.some_iff]
      refine ⟨fun _ => ?_, fun hf => by simp at hf; omega⟩
      refine Ok.mono (P := fun q => q.2.1 = g ∧ q.2.2.1 = lineT t v t.length) ?_ ?_
      · refine Ok.for (i0 := 0) t.length (fun w q => q.2.1 = g ∧ q.2.2.1 = lineT t v w) rfl ⟨rfl, rfl⟩ (Nat.zero_le _) ?_ ?_
        · rintro w ⟨s', g', l, _⟩ _ hw ⟨hg', hl⟩
          simp only at hl hg'
          subst hg'
          have hbv := ht _ (List.getElem_mem hv)
          have hbw := ht _ (List.getElem_mem hw)
          simp only [Ok.bif_iff (b := decide _), Ok.bind_iff (x := Option.bind _ _)]
          refine ⟨fun _ => ?_, fun hf => by simp at hf; omega⟩
          rw [Ok.bind_iff]
          refine Ok.mono (P := fun q => q = ((v != w && (bitT t v w || bitT t w v)), s', g', l, ())) ?_ ?_
          · simp only [Ok.bif_iff, Ok.bind_iff, Ok.some_iff, Ok.getN_iff]
            rw [bitT_get hv (by omega), bitT_get hw (by omega)]
            refine ⟨fun h => ⟨hv, by omega, fun h2 => ⟨hw, by omega, ?_⟩, fun h2 => ?_⟩, fun h => ?_⟩
            · have h : v ≠ w := by simp at h; omega
              have h2 : t[v][w] = false := by simpa using h2
              simp [h, h2]
            · have h : v ≠ w := by simp at h; omega
              have h2 : t[v][w] = true := by simpa using h2
              simp [h, h2]
            · have h : v = w := by simp at h; omega
              simp [h]
          · rintro q rfl
            have hll := lineT_length t v w
            simp only [Ok.bif_iff, Ok.bind_iff, Ok.some_iff, Ok.limO_iff]
            refine ⟨fun h => ⟨by rw [hl]; simp; omega, wrap_succ (by omega), trivial, ?_⟩, fun h => ⟨wrap_succ (by omega), trivial, ?_⟩⟩
            · rw [lineT_succ, if_pos h, hl]
            · rw [lineT_succ, if_neg (by rw [h]; simp), hl, List.append_nil]
        · rintro ⟨s', g', l, _⟩ ⟨hg', hl⟩
          simp only at hl hg'
          subst hg'
          simp only [Ok.bif_iff, Ok.some_iff]
          exact ⟨fun hf => by simp at hf, fun _ => ⟨trivial, hl⟩⟩
      · rintro ⟨s', g', l, _⟩ ⟨hg', hl⟩
        simp only at hl hg'
        subst hg'
        simp only [Ok.bind_iff, Ok.some_iff, Ok.limO_iff]
        refine ⟨by rw [hg]; simp; omega, wrap_succ (by omega), ?_⟩
        rw [hg, hl, List.range_succ, List.map_append]; rfl
    · rintro ⟨s, g, _⟩ hg
      simp only at hg
      simp only [Ok.bif_iff, Ok.some_iff]
      exact ⟨fun hf => by simp at hf, fun _ => hg⟩
  · rintro ⟨s, ⟨g, _⟩, _⟩ hg
    simp only at hg
    simp only [Ok.some_iff]
    rw [hg]
theorem mem_lineT {t : List (List Bool)} {v k w : Nat} : (w : Int) ∈ lineT t v k ↔ w < k ∧ v ≠ w ∧ (bitT t v w || bitT t w v) = true := by
  unfold lineT
  simp only [List.mem_map, List.mem_filter, List.mem_range, Bool.and_eq_true, bne_iff_ne]
  constructor
  · rintro ⟨a, ⟨h1, h2⟩, h3⟩
    have : a = w := by omega
    subst this
    exact ⟨h1, h2⟩
  · exact fun ⟨h1, h2⟩ => ⟨w, ⟨h1, h2⟩, rfl⟩
theorem fromT_valid (t : List (List Bool)) : Valid (fromT t) := by
  have hl : (fromT t).length = t.length := by simp [fromT]
  have hg : ∀ v, (h : v < (fromT t).length) → (fromT t)[v] = lineT t v t.length := fun v h => by simp [fromT]
  refine ⟨fun v h => ?_, fun v h => ?_, fun v h w hw hm => ?_⟩
  · rw [hg v h, hl]
    refine ⟨sorted_filter _ _, fun x hx => ?_⟩
    unfold lineT at hx
    simp only [List.mem_map, List.mem_filter, List.mem_range] at hx
    obtain ⟨a, ⟨h1, _⟩, rfl⟩ := hx
    omega
  · rw [hg v h, mem_lineT]
    exact fun hh => hh.2.1 rfl
  · rw [hg v h, mem_lineT] at hm
    rw [hg w hw, mem_lineT]
    exact ⟨by omega, hm.2.1.symm, by rw [Bool.or_comm]; exact hm.2.2⟩
theorem fromT_length (t : List (List Bool)) : (fromT t).length = t.length := by simp [fromT]
end Go.Fw
end

section
set_option linter.unusedSimpArgs false
set_option linter.unusedVariables false
namespace Go.Fw
theorem getN_some {α : Type} {xs : List α} {i : Nat} {y : α} (h : xs[i]? = some y) : getI xs (i : Int) = some y := by
  unfold getI; rw [if_pos (by omega), Int.toNat_natCast, h]
end Go.Fw
end

section
set_option linter.unusedSimpArgs false
set_option linter.unusedVariables false
namespace Go.Fw
theorem Valid_iff (adj : List (List Int)) : Valid adj ↔ ∀ v, (h : v < adj.length) → adj[v].Pairwise (· < ·) ∧ ∀ k, (hk : k < adj[v].length) → (0 ≤ adj[v][k] ∧ adj[v][k] < adj.length) ∧ adj[v][k] ≠ (v : Int) ∧ (v : Int) ∈ adj.getD (adj[v][k]).toNat [] := by
  constructor
  · rintro ⟨h1, h2, h3⟩ v hv
    refine ⟨(h1 v hv).1, fun k hk => ?_⟩
    have hr := (h1 v hv).2 _ (List.getElem_mem hk)
    refine ⟨hr, fun e => h2 v hv (e ▸ List.getElem_mem hk), ?_⟩
    have hw : (adj[v][k]).toNat < adj.length := by omega
    have := h3 v hv _ hw (by rw [Int.toNat_of_nonneg hr.1]; exact List.getElem_mem hk)
    rw [List.getD, List.getElem?_eq_getElem hw]
    exact this
  · intro h
    refine ⟨fun v hv => ⟨(h v hv).1, fun x hx => ?_⟩, fun v hv hm => ?_, fun v hv w hw hm => ?_⟩
    · obtain ⟨k, hk, rfl⟩ := List.mem_iff_getElem.1 hx
      exact ((h v hv).2 k hk).1
    · obtain ⟨k, hk, e⟩ := List.mem_iff_getElem.1 hm
      exact ((h v hv).2 k hk).2.1 e
    · obtain ⟨k, hk, e⟩ := List.mem_iff_getElem.1 hm
      have := ((h v hv).2 k hk).2.2
      rw [e, Int.toNat_natCast, List.getD, List.getElem?_eq_getElem hw] at this
      exact this
theorem nodup_iff {l : List Int} : l.Nodup ↔ ∀ i, (h : i < l.length) → l[i] ∉ l.take i := by
  unfold List.Nodup
  rw [List.pairwise_iff_getElem]
  constructor
  · intro h i hi hm
    obtain ⟨k, hk, e⟩ := List.mem_iff_getElem.1 hm
    simp only [List.length_take] at hk
    simp only [List.getElem_take] at e
    exact h k i (by omega) hi (by omega) e
  · intro h i j hi hj hij e
    exact h j hj (List.mem_iff_getElem.2 ⟨i, by simp; omega, by simp [e]⟩)
end Go.Fw
end

section
set_option linter.unusedSimpArgs false
set_option linter.unusedVariables false
namespace Go.Fw
def fT {α : Type} (n : Nat) (f : Nat → α) : List α := (List.range n).map f
def upd {α : Type} (f : Nat → α) (i : Nat) (v : α) : Nat → α := fun j => if j = i then v else f j
section
variable {α β γ : Type}
theorem upd_same (f : Nat → α) (i : Nat) (v : α) : upd f i v i = v := if_pos rfl
theorem upd_ne (f : Nat → α) {i j : Nat} (v : α) (h : j ≠ i) : upd f i v j = f j := if_neg h
theorem fT_length (n : Nat) (f : Nat → α) : (fT n f).length = n := by simp [fT]
theorem fT_get? (n : Nat) (f : Nat → α) (i : Nat) : (fT n f)[i]? = if i < n then some (f i) else none := by
  unfold fT
  rw [List.getElem?_map]
  rcases Nat.lt_or_ge i n with h | h
  · rw [List.getElem?_range h, if_pos h]; rfl
  · rw [List.getElem?_eq_none (by simpa using h), if_neg (by omega)]; rfl
theorem fT_get {n : Nat} {f : Nat → α} {i : Nat} (h : i < n) : (fT n f)[i]? = some (f i) := by rw [fT_get?, if_pos h]
theorem fT_getElem {n : Nat} {f : Nat → α} {i : Nat} (h : i < (fT n f).length) : (fT n f)[i] = f i := by simp [fT]
theorem fT_congr {n : Nat} {f g : Nat → α} (h : ∀ i, i < n → f i = g i) : fT n f = fT n g := List.map_congr_left fun i hi => h i (List.mem_range.1 hi)
theorem fT_zero (f : Nat → α) : fT 0 f = [] := rfl
theorem fT_succ (n : Nat) (f : Nat → α) : fT (n + 1) f = fT n f ++ [f n] := by simp [fT, List.range_succ]
theorem fT_replicate (n : Nat) (x : α) : List.replicate n x = fT n fun _ => x := by
  apply List.ext_getElem?
  intro i
  rw [List.getElem?_replicate, fT_get?]
theorem fT_set {n : Nat} {f : Nat → α} {i : Nat} (v : α) : (fT n f).set i v = fT n (upd f i v) := by
  apply List.ext_getElem?
  intro j
  rw [List.getElem?_set, fT_get?, fT_get?, fT_length]
  unfold upd
  by_cases h : i = j
  · subst h; simp
  · have h' : ¬ j = i := fun e => h (Eq.symm e)
    simp only [if_neg h, if_neg h']
theorem mem_fT {n : Nat} {f : Nat → α} {x : α} : x ∈ fT n f ↔ ∃ i, i < n ∧ f i = x := by simp [fT]
theorem fT_of (l : List α) (f : Nat → α) (h : ∀ i, (hi : i < l.length) → l[i] = f i) : l = fT l.length f := by
  apply List.ext_getElem?
  intro i
  rw [fT_get?]
  split
  · rename_i hi; rw [List.getElem?_eq_getElem hi, h i hi]
  · rename_i hi; exact List.getElem?_eq_none (by omega)
theorem idxN_nat {n i : Nat} (h : i < n) : idxN n (i : Int) = some i := by
  unfold idxN
  rw [if_pos ⟨by omega, by simpa using h⟩]; simp
theorem atO_some {xs : List α} {k : Nat} {v : α} {f : α → Option β} (h : xs[k]? = some v) : atO xs k f = f v := by unfold atO; rw [h]
theorem atO_fT {n k : Nat} {f : Nat → α} {g : α → Option β} (h : k < n) : atO (fT n f) k g = g (f k) := atO_some (fT_get h)
theorem getI_fT {n k : Nat} {f : Nat → α} (h : k < n) : getI (fT n f) (k : Int) = some (f k) := getN_some (fT_get h)
theorem limO_ok {n : Nat} (h : n ≤ 4294967296) : limO n = some () := if_pos h
theorem madeO_ok {l : Nat} (h : l ≤ 4294967296) : madeO (l : Int) (l : Int) = some l := by
  unfold madeO
  rw [if_pos ⟨by omega, by omega, by have : lim = 4294967296 := rfl; omega⟩]; simp
theorem natO_ok {i : Nat} : natO (i : Int) = some i := by unfold natO; rw [if_pos (by omega)]; simp
theorem leO_ok {a b n : Nat} (h : a ≤ b ∧ b ≤ n) : leO a b n = some () := if_pos h
theorem beqI (a b : Int) : (a == b) = decide (a = b) := by
  by_cases h : a = b <;> simp [h]
theorem bneI (a b : Int) : (a != b) = !decide (a = b) := by
  by_cases h : a = b <;> simp [h]
theorem decT {p : Prop} [Decidable p] (h : p) : decide p = true := decide_eq_true h
theorem decF {p : Prop} [Decidable p] (h : ¬ p) : decide p = false := decide_eq_false h
theorem cond_dec {p : Prop} [Decidable p] {x y : α} : (bif decide p then x else y) = if p then x else y := by
  by_cases h : p <;> simp [h]
theorem cond_dec_beq {p : Prop} [Decidable p] {x y : α} : (bif decide p == true then x else y) = if p then x else y := by
  by_cases h : p <;> simp [h]
theorem wrapN {n : Nat} (h : n < 9223372036854775808) : IntKind.i64.wrap (n : Int) = (n : Int) := wrap64 (by omega) (by omega)
theorem wrap_pred {a : Nat} (hb : 1 ≤ a) (h : a < 9223372036854775808) : IntKind.i64.wrap ((a : Int) - 1) = ((a - 1 : Nat) : Int) := by
  rw [wrap64 (by omega) (by omega)]; omega
theorem wrap_inc {a : Nat} (h : a + 1 < 9223372036854775808) : IntKind.i64.wrap ((a : Int) + 1) = ((a + 1 : Nat) : Int) := by
  rw [wrap64 (by omega) (by omega)]; omega
end
theorem Ok.of_eq {α : Type} {x : Option α} {y : α} {Q : α → Prop} (h : x = some y) (hq : Q y) : Ok x Q := ⟨y, h, hq⟩
theorem Ok.bind_of {α β : Type} {x : Option α} {f : α → Option β} {P : α → Prop} {Q : β → Prop} (h : Ok x P) (hf : ∀ y, P y → Ok (f y) Q) : Ok (x.bind f) Q :=
  Ok.bind_iff.2 (h.mono hf)
theorem Ok.ite {α : Type} {p : Prop} [Decidable p] {x y : Option α} {Q : α → Prop} (h1 : p → Ok x Q) (h2 : ¬ p → Ok y Q) : Ok (if p then x else y) Q := by
  by_cases h : p
  · rw [if_pos h]; exact h1 h
  · rw [if_neg h]; exact h2 h
theorem bind_eq {α β : Type} {x : Option α} {k : α → Option β} {y : α} {r : Option β} (h : x = some y) (h2 : k y = r) : x.bind k = r := by rw [h]; exact h2
theorem loop_for {τ ρ : Type} {f : Int × τ → Option ((Int × τ) ⊕ ρ)} {r : ρ} {j0 : Int} {t0 : τ} (n : Nat) (I : Nat → τ) (i0 : Nat) (hj : j0 = (i0 : Int)) (ht : t0 = I i0) (hi : i0 ≤ n)
    (hstep : ∀ i, i0 ≤ i → i < n → f ((i : Int), I i) = some (.inl (((i + 1 : Nat) : Int), I (i + 1)))) (hend : f ((n : Int), I n) = some (.inr r)) : loop f (j0, t0) = some r := by
  subst hj ht
  rw [← Ok.eq_iff]
  refine Ok.for n (fun i t => t = I i) rfl rfl hi ?_ ?_
  · rintro i _ h0 h1 rfl
    rw [hstep i h0 h1]
    exact Ok.some_iff.2 ⟨rfl, rfl⟩
  · rintro _ rfl
    rw [hend]
    exact Ok.some_iff.2 rfl
theorem loop_index {f : Int × Unit → Option ((Int × Unit) ⊕ (Unit ⊕ (Int × Unit)))} (n : Nat) (P : Nat → Prop)
    (hstep : ∀ i, i < n → f ((i : Int), ()) = some (open Classical in if P i then .inl (((i + 1 : Nat) : Int), ()) else .inr (.inr ((i : Int), ())))) (hend : f ((n : Int), ()) = some (.inr (.inl ()))) :
    Ok (loop f (0, ())) (fun q => match q with | .inl _ => ∀ i, i < n → P i | .inr r => 0 ≤ r.1 ∧ ¬ ∀ i, i < n → P i) := by
  classical
  refine Ok.for n (fun i _ => ∀ j, j < i → P j) (i0 := 0) rfl (fun j h => by omega) (Nat.zero_le _) ?_ ?_
  · rintro i ⟨⟩ _ h1 hI
    rw [hstep i h1]
    by_cases hp : P i
    · rw [if_pos hp]
      refine Ok.some_iff.2 ⟨rfl, fun j h3 => ?_⟩
      rcases Nat.lt_or_ge j i with h | h
      · exact hI j h
      · obtain rfl : j = i := by omega
        exact hp
    · rw [if_neg hp]
      exact Ok.some_iff.2 ⟨by show (0 : Int) ≤ (i : Int); omega, fun h => hp (h i h1)⟩
  · rintro ⟨⟩ hI
    rw [hend]
    exact Ok.some_iff.2 hI
end Go.Fw
end

section
namespace Go.Fw
inductive WalkP (A : Nat → Nat → Prop) (P : Nat → Prop) : Nat → Nat → Prop
  | one {i j : Nat} : A i j → WalkP A P i j
  | step {i m j : Nat} : A i m → P m → WalkP A P m j → WalkP A P i j
section
variable {A : Nat → Nat → Prop} {P : Nat → Prop}
theorem WalkP.trans {i m j : Nat} (h : WalkP A P i m) (hm : P m) (h2 : WalkP A P m j) : WalkP A P i j := by
  induction h with
  | one h => exact .step h hm h2
  | step h hk _ ih => exact .step h hk (ih hm h2)
theorem WalkP.symm (hA : ∀ a b, A a b → A b a) {i j : Nat} (h : WalkP A P i j) : WalkP A P j i := by
  induction h with
  | one h => exact .one (hA _ _ h)
  | step h hk _ ih => exact ih.trans hk (.one (hA _ _ h))
theorem WalkP.mono {P' : Nat → Prop} (hP : ∀ x, P x → P' x) {i j : Nat} (h : WalkP A P i j) : WalkP A P' i j := by
  induction h with
  | one h => exact .one h
  | step h h2 _ ih => exact .step h (hP _ h2) ih
theorem WalkP.insert_iff {v i j : Nat} : WalkP A (fun x => P x ∨ x = v) i j ↔ WalkP A P i j ∨ (WalkP A P i v ∧ WalkP A P v j) := by
  constructor
  · intro h
    induction h with
    | one h => exact .inl (.one h)
    | @step i m j h hm _ ih =>
      rcases hm with hm | rfl
      · rcases ih with ih | ⟨ih1, ih2⟩
        · exact .inl (.step h hm ih)
        · exact .inr ⟨.step h hm ih1, ih2⟩
      · rcases ih with ih | ⟨_, ih2⟩
        · exact .inr ⟨.one h, ih⟩
        · exact .inr ⟨.one h, ih2⟩
  · rintro (h | ⟨h1, h2⟩)
    · exact h.mono fun x hx => .inl hx
    · exact (h1.mono fun x hx => .inl hx).trans (.inr rfl) (h2.mono fun x hx => .inl hx)
theorem WalkP.none {i j : Nat} : WalkP A (fun _ => False) i j ↔ A i j := by
  constructor
  · intro h
    cases h with
    | one h => exact h
    | step _ h _ => exact h.elim
  · exact .one
end
end Go.Fw
end

section
set_option linter.unusedSimpArgs false
set_option linter.unusedVariables false
namespace Go.Fw
theorem sorted_ext : ∀ {a b : List Int}, a.Pairwise (· < ·) → b.Pairwise (· < ·) → (∀ x, x ∈ a ↔ x ∈ b) → a = b := by
  intro a
  induction a with
  | nil =>
    intro b _ _ h
    cases b with
    | nil => rfl
    | cons y b => exact absurd ((h y).2 (List.mem_cons_self ..)) (by simp)
  | cons x a ih =>
    intro b ha hb h
    cases b with
    | nil => exact absurd ((h x).1 (List.mem_cons_self ..)) (by simp)
    | cons y b =>
      rw [List.pairwise_cons] at ha hb
      have hxy : x = y := by
        have h1 := (h x).1 (List.mem_cons_self ..)
        have h2 := (h y).2 (List.mem_cons_self ..)
        rcases List.mem_cons.1 h1 with h1 | h1
        · exact h1
        · rcases List.mem_cons.1 h2 with h2 | h2
          · exact h2.symm
          · have := hb.1 _ h1; have := ha.1 _ h2; omega
      subst hxy
      rw [ih ha.2 hb.2]
      intro z
      have := h z
      simp only [List.mem_cons] at this
      constructor
      · intro hz
        have h1 := ha.1 _ hz
        rcases this.1 (.inr hz) with h2 | h2
        · omega
        · exact h2
      · intro hz
        have h1 := hb.1 _ hz
        rcases this.2 (.inr hz) with h2 | h2
        · omega
        · exact h2
end Go.Fw
end

section
set_option linter.unusedSimpArgs false
set_option linter.unusedVariables false
namespace Go.Fw
theorem asc_ge {l : List Int} (h : l.Pairwise (· < ·)) (h0 : ∀ x ∈ l, 0 ≤ x) : ∀ k, (hk : k < l.length) → (k : Int) ≤ l[k] := by
  intro k
  induction k with
  | zero => intro hk; exact h0 _ (List.getElem_mem hk)
  | succ k ih =>
    intro hk
    have h1 := ih (by omega)
    have h2 := pairwise_iff.1 h k hk
    omega
theorem AscIn.length {l : List Int} {n : Nat} (h : AscIn l n) : l.length ≤ n := by
  rcases Nat.eq_zero_or_pos l.length with h0 | h0
  · omega
  · have h1 := asc_ge h.1 (fun x hx => (h.2 x hx).1) (l.length - 1) (by omega)
    have h2 := (h.2 _ (List.getElem_mem (show l.length - 1 < l.length by omega))).2
    omega
theorem Valid.rows {adj : List (List Int)} (hV : Valid adj) : ∀ l ∈ adj, l.length ≤ adj.length := by
  intro l hl
  obtain ⟨v, hv, rfl⟩ := List.mem_iff_getElem.1 hl
  exact (hV.asc v hv).length
theorem Valid.hc {adj : List (List Int)} (hV : Valid adj) (hn : adj.length ≤ 200) : ∀ l ∈ adj, l.length < 4611686018427387904 := fun l hl => by
  have := hV.rows l hl; omega
theorem chk_zero {adj : List (List Int)} : chk adj = 0 ↔ adj.length ≤ 200 ∧ Valid adj := by
  unfold chk
  by_cases h : 200 < adj.length
  · rw [if_pos h]; constructor
    · intro h; omega
    · intro h; omega
  · rw [if_neg h]
    by_cases h2 : Valid adj
    · rw [if_pos h2]; exact ⟨fun _ => ⟨by omega, h2⟩, fun _ => rfl⟩
    · rw [if_neg h2]; exact ⟨fun h => by omega, fun h => absurd h.2 h2⟩
end Go.Fw
end

section
set_option linter.unusedSimpArgs false
set_option linter.unusedVariables false
namespace Go.Fw
noncomputable def cnt (P : Nat → Prop) : Nat → Nat
  | 0 => 0
  | k + 1 => cnt P k + (open Classical in if P k then 1 else 0)
section
variable {P Q : Nat → Prop} {k : Nat}
end
def PF (n : Nat) (f : Nat → Int) : Prop := ∀ j, j < n → f j = -1 ∨ ((j : Int) < f j ∧ f j < n)
def RelF (n : Nat) (f : Nat → Int) (u p : Nat) : Prop := u < n ∧ f u = (p : Int)
def Sub (n : Nat) (f : Nat → Int) (u v : Nat) : Prop := Up (RelF n f) u v
section
variable {n : Nat} {f : Nat → Int} (hf : PF n f)
include hf
noncomputable def sz (n : Nat) (f : Nat → Int) (v : Nat) : Nat := cnt (fun u => Sub n f u v) n
end
end Go.Fw
end

section
set_option linter.unusedSimpArgs false
set_option linter.unusedVariables false
namespace Go.Fw
section
variable {adj : List (List Int)} (hV : Valid adj) (hn : adj.length ≤ 200)
include hV hn
end
def nxI (starts : List Int) (n k : Nat) : Int := (starts[k + 1]?).getD n
section
variable {n : Nat} {f : Nat → Int} (hf : PF n f) (hn : n ≤ 200)
include hf hn
end
end Go.Fw
end

section
set_option linter.unusedSimpArgs false
set_option linter.unusedVariables false
namespace Go.Fw
structure PN (n : Nat) (f : Nat → Int) (starts : List Int) (m : Nat) (s e : Nat → Nat) : Prop where
  len : starts.length = m
  st : starts = fT m fun k => (s k : Int)
  s0 : 0 < n → 0 < m ∧ s 0 = 0
  mz : n = 0 → m = 0
  ok : ∀ k, k < m → s k < e k ∧ e k ≤ n ∧ e k ≤ s k + sz n f (e k - 1)
  nx : ∀ k, k < m → nxI starts n k = (e k : Int)
  ek : ∀ k, k + 1 < m → e k = s (k + 1)
  el : ∀ k, k + 1 = m → e k = n
section
variable {adj : List (List Int)} (hV : Valid adj) (hn : adj.length ≤ 200)
include hV hn
end
end Go.Fw
end

section
set_option linter.unusedSimpArgs false
set_option linter.unusedVariables false
namespace Go.Fw
abbrev FrT := Int × (Int × (List Int × (Int × Unit)))
section
variable {n : Nat} {f : Nat → Int} {starts : List Int} {m : Nat} {s e : Nat → Nat} (hP : PN n f starts m s e)
include hP
end
section
variable {adj : List (List Int)} (hV : Valid adj) (hn : adj.length ≤ 200)
include hV hn
end
end Go.Fw
end

section
set_option linter.unusedSimpArgs false
set_option linter.unusedVariables false
namespace Go.Fw
def cE (l : List FrT) : Nat → Nat
  | 0 => 0
  | k + 1 => ((l[k]?).map fun (x : FrT) => x.2.1.toNat).getD 0
end Go.Fw
end

section
set_option linter.unusedSimpArgs false
set_option linter.unusedVariables false
namespace Go.Fw
def natL (l : List Nat) : List Int := l.map fun (x : Nat) => (x : Int)
theorem natL_append (a b : List Nat) : natL (a ++ b) = natL a ++ natL b := by simp [natL]
theorem natL_length (a : List Nat) : (natL a).length = a.length := by simp [natL]
section
variable {n : Nat} {f : Nat → Int} (hf : PF n f) (hn : n ≤ 200)
include hf hn
end
end Go.Fw
end

section
set_option linter.unusedSimpArgs false
set_option linter.unusedVariables false
namespace Go.Fw
theorem getD_lt {α : Type} {l : List α} {i : Nat} (h : i < l.length) (d : α) : l.getD i d = l[i] := by
  simp only [List.getD, List.getElem?_eq_getElem h, Option.getD_some]
section
variable {adj : List (List Int)} (hV : Valid adj) (hn : adj.length ≤ 200)
include hV hn
end
end Go.Fw
end

section
set_option linter.unusedSimpArgs false
set_option linter.unusedVariables false
namespace Go.Fw
theorem place_nat (a n : Int) (h : 0 < n) : ∃ m : Nat, placeV a n = (m : Int) ∧ (m : Int) < n := by
  have := placeV_lt a n h
  exact ⟨(placeV a n).toNat, by omega, by omega⟩
end Go.Fw
end

section
namespace Go.Fw
set_option linter.unusedSimpArgs false
set_option linter.unusedVariables false
structure SOrd {α : Type} (lt : α → α → Bool) : Prop where
  asym : ∀ a b, lt a b = true → lt b a = false
  trans : ∀ a b c, lt b a = false → lt c b = false → lt c a = false
theorem SOrd.int : SOrd (fun a b : Int => decide (a < b)) := ⟨fun a b h => by simp at h ⊢; omega, fun a b c h1 h2 => by simp at h1 h2 ⊢; omega⟩
def InsI {α : Type} (lt : α → α → Bool) (g : Nat → α) (i j : Nat) : Prop := ∀ p q, p < q → q ≤ i → q ≠ j → lt (g q) (g p) = false
def SortedI {α : Type} (lt : α → α → Bool) (g : Nat → α) (k : Nat) : Prop := ∀ p q, p < q → q < k → lt (g q) (g p) = false
def swp {α : Type} (g : Nat → α) (j : Nat) : Nat → α := upd (upd g j (g (j - 1))) (j - 1) (g j)
theorem swp_at {α : Type} (g : Nat → α) {j : Nat} (k : Nat) : swp g j k = if k = j - 1 then g j else if k = j then g (j - 1) else g k := rfl
theorem InsI.swp {α : Type} {lt : α → α → Bool} (h : SOrd lt) {g : Nat → α} {i j : Nat} (hI : InsI lt g i j) (hj : 0 < j) (hji : j ≤ i) (hl : lt (g j) (g (j - 1)) = true) : InsI lt (swp g j) i (j - 1) := by
  intro p q hpq hq hne
  rw [swp_at, swp_at, if_neg hne]
  by_cases h1 : q = j
  · subst h1
    rw [if_pos rfl]
    by_cases h2 : p = q - 1
    · rw [if_pos h2]; exact h.asym _ _ hl
    · rw [if_neg h2, if_neg (by omega)]; exact hI p (q - 1) (by omega) (by omega) (by omega)
  · rw [if_neg h1]
    by_cases h2 : p = j - 1
    · rw [if_pos h2]; exact hI j q (by omega) hq h1
    · rw [if_neg h2]
      by_cases h3 : p = j
      · rw [if_pos h3]; exact hI (j - 1) q (by omega) hq h1
      · rw [if_neg h3]; exact hI p q hpq hq h1
theorem InsI.done {α : Type} {lt : α → α → Bool} (h : SOrd lt) {g : Nat → α} {i j : Nat} (hI : InsI lt g i j) (hji : j ≤ i) (hl : j = 0 ∨ lt (g j) (g (j - 1)) = false) : SortedI lt g (i + 1) := by
  intro p q hpq hq
  by_cases h1 : q = j
  · subst h1
    rcases hl with hl | hl
    · omega
    · by_cases h2 : p = q - 1
      · subst h2; exact hl
      · exact h.trans _ _ _ (hI p (q - 1) (by omega) (by omega) (by omega)) hl
  · exact hI p q hpq (by omega) h1
theorem swp_perm {α : Type} {n : Nat} {g : Nat → α} {j : Nat} (hj : 0 < j) (hn : j < n) : (fT n (swp g j)).Perm (fT n g) := by
  have h1 : j < (fT n g).length := by rw [fT_length]; exact hn
  have h2 : j - 1 < (fT n g).length := by rw [fT_length]; omega
  have := List.set_set_perm h1 h2
  rw [fT_getElem, fT_getElem, fT_set, fT_set] at this
  exact this
theorem fT_self {α : Type} [Inhabited α] (l : List α) : l = fT l.length (fun i => l[i]?.getD default) := fT_of l _ (fun i hi => by simp [hi])
theorem insertion_ok (l : List Int) (hl : l.length ≤ 1000) : Ok (d_slices_insertionSortOrdered_int (l, 0, (l.length : Int), ())) (fun r => ∃ g, r.1 = fT l.length g ∧ SortedI (fun a b => decide (a < b)) g l.length ∧ r.1.Perm l) := by
  unfold d_slices_insertionSortOrdered_int
  simp only []
  generalize hn : l.length = n at *
  have h0 : IntKind.i64.wrap (0 + 1) = ((1 : Nat) : Int) := by rw [wrap64] <;> omega
  rw [h0]
  rcases Nat.eq_zero_or_pos n with hz | hpos
  · subst hz
    refine Ok.bind_of (P := fun r => r.1 = l) ?_ ?_
    · refine Ok.loop (fun s => s = (((1 : Nat) : Int), l, ())) (fun _ => 0) rfl ?_
      rintro _ rfl
      simp only [cond_dec]
      rw [if_neg (by omega)]
      exact Ok.some_iff.2 rfl
    · rintro ⟨r, _⟩ rfl
      refine Ok.some_iff.2 ⟨fun _ => 0, ?_, fun p q h1 h2 => by omega, List.Perm.refl _⟩
      show r = []
      exact List.eq_nil_of_length_eq_zero hn
  refine Ok.bind_of (P := fun r => ∃ g, r.1 = fT n g ∧ SortedI (fun a b => decide (a < b)) g n ∧ r.1.Perm l) ?_ (fun r hr => Ok.some_iff.2 hr)
  refine Ok.for n (fun i t => ∃ g, t = (fT n g, ()) ∧ SortedI (fun a b => decide (a < b)) g i ∧ (fT n g).Perm l) rfl ⟨fun i => l[i]?.getD default, ?_, fun p q h1 h2 => by omega, ?_⟩ hpos ?_ ?_
  · rw [← hn, ← fT_self]
  · rw [← hn, ← fT_self]
  · rintro i _ h1 h2 ⟨g, rfl, hS, hP⟩
    simp only [cond_dec]
    rw [if_pos (by omega)]
    refine Ok.bind_of (P := fun r => ∃ g, r = (fT n g, ()) ∧ SortedI (fun a b => decide (a < b)) g (i + 1) ∧ (fT n g).Perm l) ?_ ?_
    · refine Ok.loop (fun s => ∃ (j : Nat) (g : Nat → Int), s = ((j : Int), fT n g, ()) ∧ j ≤ i ∧ InsI (fun a b => decide (a < b)) g i j ∧ (fT n g).Perm l) (fun s => s.1.toNat) ⟨i, g, rfl, Nat.le_refl _, fun p q hpq hq hne => hS p q hpq (by omega), hP⟩ ?_
      rintro _ ⟨j, g, rfl, hj, hI, hP⟩
      simp only [cond_dec_beq]
      by_cases hj0 : 0 < j
      · have hj1 : j - 1 < n := by omega
        have hj2 : j < n := by omega
        simp (disch := omega) only [if_pos, fT_length, wrap_pred, idxN_nat, atO_fT, Option.bind_some, Less_eq, cond_dec]
        by_cases hlt : g j < g (j - 1)
        · rw [if_pos hlt]
          simp (disch := omega) only [Option.bind_some, fT_length, wrap_pred, idxN_nat, atO_fT, fT_set]
          refine Ok.some_iff.2 ⟨⟨j - 1, swp g j, rfl, by omega, hI.swp SOrd.int hj0 hj (by simpa using hlt), (swp_perm hj0 hj2).trans hP⟩, ?_⟩
          show ((j - 1 : Nat) : Int).toNat < ((j : Nat) : Int).toNat
          omega
        · rw [if_neg hlt]
          exact Ok.some_iff.2 ⟨g, rfl, hI.done SOrd.int hj (.inr (by simpa using hlt)), hP⟩
      · rw [if_neg (by omega)]
        exact Ok.some_iff.2 ⟨g, rfl, hI.done SOrd.int hj (.inl (by omega)), hP⟩
    · rintro _ ⟨g, rfl, hS, hP⟩
      simp (disch := omega) only [wrap_inc]
      exact Ok.some_iff.2 ⟨rfl, g, rfl, hS, hP⟩
  · rintro _ ⟨g, rfl, hS, hP⟩
    simp only [cond_dec]
    rw [if_neg (by omega)]
    exact Ok.some_iff.2 ⟨g, rfl, hS, hP⟩
theorem SortedI.pairwise {g : Nat → Int} {n : Nat} (h : SortedI (fun a b => decide (a < b)) g n) : (fT n g).Pairwise (· ≤ ·) := by
  rw [List.pairwise_iff_getElem]
  intro i j hi hj hij
  rw [fT_getElem, fT_getElem]
  have := h i j hij (by simpa [fT_length] using hj)
  simpa using this
theorem Len_ok (n : Nat) (hn : n ≤ 12) : ∃ b, d_math_bits_Len ((n : Int), ()) = some (b, ()) := by
  have : n = 0 ∨ n = 1 ∨ n = 2 ∨ n = 3 ∨ n = 4 ∨ n = 5 ∨ n = 6 ∨ n = 7 ∨ n = 8 ∨ n = 9 ∨ n = 10 ∨ n = 11 ∨ n = 12 := by omega
  rcases this with rfl | rfl | rfl | rfl | rfl | rfl | rfl | rfl | rfl | rfl | rfl | rfl | rfl
  · exact ⟨0, by kernel_rfl⟩
  · exact ⟨1, by kernel_rfl⟩
  · exact ⟨2, by kernel_rfl⟩
  · exact ⟨2, by kernel_rfl⟩
  · exact ⟨3, by kernel_rfl⟩
  · exact ⟨3, by kernel_rfl⟩
  · exact ⟨3, by kernel_rfl⟩
  · exact ⟨3, by kernel_rfl⟩
  · exact ⟨4, by kernel_rfl⟩
  · exact ⟨4, by kernel_rfl⟩
  · exact ⟨4, by kernel_rfl⟩
  · exact ⟨4, by kernel_rfl⟩
  · exact ⟨4, by kernel_rfl⟩
theorem pdq_small (l : List Int) (b : Int) (hl : l.length ≤ 12) : Ok (d_slices_pdqsortOrdered_int (l, 0, (l.length : Int), b, ())) (fun r => r.1.Pairwise (· ≤ ·) ∧ r.1.Perm l) := by
  obtain ⟨r, hr, g, hg, hS, hP⟩ := insertion_ok l (by omega)
  refine ⟨r, ?_, by rw [hg]; exact hS.pairwise, hP⟩
  unfold d_slices_pdqsortOrdered_int
  show fixO (deep r_slices_pdqsortOrdered_intq_s) _ = some r
  rw [fixO_iff r_slices_pdqsortOrdered_intq_mono]
  refine ⟨1, ?_⟩
  have e1 : deep r_slices_pdqsortOrdered_intq_s 1 (l, 0, (l.length : Int), b, ()) = r_slices_pdqsortOrdered_intq_s (deep r_slices_pdqsortOrdered_intq_s 0) (l, 0, (l.length : Int), b, ()) := rfl
  rw [e1]
  unfold r_slices_pdqsortOrdered_intq_s
  dsimp only
  rw [loop_unfold]
  dsimp only
  have hw : IntKind.i64.wrap ((l.length : Int) - 0) = ((l.length : Nat) : Int) := by rw [Int.sub_zero]; exact wrapN (by omega)
  simp only [hw, cond_dec]
  rw [if_pos (by omega), hr]
  rfl
theorem Sort_ok (l : List Int) (hl : l.length ≤ 12) : Ok (d_slices_Sort_int_int (l, ())) (fun r => r.1.Pairwise (· ≤ ·) ∧ r.1.Perm l) := by
  unfold d_slices_Sort_int_int
  simp only []
  rw [wrapUq_eq _ (by omega) (by omega)]
  obtain ⟨b, hb⟩ := Len_ok l.length hl
  rw [hb]
  simp only [Option.bind_some]
  exact Ok.bind_of (pdq_small l b hl) (fun r hr => Ok.some_iff.2 hr)
end Go.Fw
end

section
namespace Go.Fw
set_option linter.unusedSimpArgs false
set_option linter.unusedVariables false
open Go
theorem compact_lt {ys : List Int} (hs : ys.Pairwise (· ≤ ·)) : (Lib.compact ys).length < ys.length ↔ ¬ ys.Nodup := by
  have hlen : (Lib.compact ys).length = ((List.range ys.length).filter (Lib.keeps ys.toArray)).length := by simp [Lib.compact, Lib.compactUpTo]
  have hadj : (∀ j, j < ys.length → Lib.keeps ys.toArray j = true) ↔ ys.Nodup := by
    have hk : ∀ j, (h : j < ys.length) → (Lib.keeps ys.toArray j = true ↔ j = 0 ∨ ys[j] ≠ ys[j - 1]) := fun j h => by
      have h2 : j - 1 < ys.length := by omega
      simp [Lib.keeps, h, h2]
    constructor
    · intro h
      have hlt : ys.Pairwise (· < ·) := by
        rw [pairwise_iff]
        intro k hk2
        have h1 := (hk (k + 1) hk2).1 (h _ hk2)
        have h2 := List.pairwise_iff_getElem.1 hs k (k + 1) (by omega) hk2 (by omega)
        have h3 : ys[k + 1] ≠ ys[k] := by rcases h1 with h1 | h1; omega; exact h1
        omega
      exact hlt.imp (fun h => by omega)
    · intro h j hj
      rw [hk j hj]
      by_cases h0 : j = 0
      · exact .inl h0
      · refine .inr fun e => ?_
        have := (List.getElem_inj h).1 e
        omega
  rw [← hadj, hlen]
  have hle := List.length_filter_le (Lib.keeps ys.toArray) (List.range ys.length)
  rw [List.length_range] at hle
  constructor
  · intro h h2
    rw [List.filter_eq_self.2 (fun j hj => h2 j (List.mem_range.1 hj)), List.length_range] at h
    omega
  · intro h
    rcases Nat.lt_or_ge ((List.range ys.length).filter (Lib.keeps ys.toArray)).length ys.length with h1 | h1
    · exact h1
    · refine absurd (fun j hj => ?_) h
      have e : ((List.range ys.length).filter (Lib.keeps ys.toArray)).length = (List.range ys.length).length := by rw [List.length_range]; omega
      exact List.length_filter_eq_length_iff.1 e j (List.mem_range.2 hj)
theorem twice_eq (l : List Int) (hl : l.length ≤ 12) : d_graph_twice (l, ()) = some (decide (¬ l.Nodup), ()) := by
  obtain ⟨r, hr, hs, hp⟩ := Sort_ok l hl
  have hlen := hp.length_eq
  unfold d_graph_twice twSem
  simp only [hr, Option.map_some, Option.bind_some]
  rw [show Nat.ble l.length 1000000 = true from Nat.ble_eq_true_of_le (by omega)]
  simp only [cond_true]
  rw [show Nat.ble r.1.length 1000000 = true from Nat.ble_eq_true_of_le (by omega)]
  simp only [cond_true, Option.map_some]
  have e : decide ((Lib.compact r.1).length < l.length) = decide (¬ l.Nodup) := by
    rw [decide_eq_decide, ← hlen, compact_lt hs, hp.nodup_iff]
  rw [e]
def mT (n : Nat) (B : Nat → Nat → Bool) : List (List Bool) := fT n fun v => fT n (B v)
theorem mT_length (n : Nat) (B : Nat → Nat → Bool) : (mT n B).length = n := fT_length n _
theorem mT_congr {n : Nat} {B B' : Nat → Nat → Bool} (h : ∀ v w, v < n → w < n → B v w = B' v w) : mT n B = mT n B' := fT_congr fun v hv => fT_congr fun w hw => h v w hv hw
theorem NewSets_eq (n : Nat) (hn : n ≤ 4294967296) : d_graph_NewSets ((n : Int), ()) = some (mT n fun _ _ => false, ()) := by
  unfold d_graph_NewSets
  simp only []
  rw [madeO_ok hn]
  simp only [Option.bind_some]
  refine bind_eq (y := (mT n fun _ _ => false, ())) (loop_for n (fun i => (fT n (fun v => if v < i then List.replicate n false else []), ())) 0 rfl ?_ (Nat.zero_le _) ?_ ?_) rfl
  · rw [fT_replicate]; simp
  · intro i _ hi
    simp (disch := omega) only [fT_length, List.length_replicate, cond_dec, if_pos, Option.bind_some, idxN_nat, atO_fT, fT_set, wrap_inc]
    congr 4
    refine fT_congr fun v hv => ?_
    simp only [upd]
    by_cases h : v = i
    · subst h; rw [if_pos rfl, if_pos (by omega)]
    · rw [if_neg h]
      by_cases h2 : v < i
      · rw [if_pos h2, if_pos (by omega)]
      · rw [if_neg h2, if_neg (by omega)]
  · simp only [List.length_replicate, cond_dec]
    rw [if_neg (by omega)]
    congr 2
    refine congrArg (·, ()) (fT_congr fun v hv => ?_)
    rw [if_pos hv, fT_replicate]
theorem Join_eq {n : Nat} {B : Nat → Nat → Bool} {i j : Nat} (hi : i < n) (hj : j < n) :
    d_graph_Sets_Join (mT n B, (i : Int), (j : Int), ()) = some (mT n (fun a b => B a b || (decide (i ≠ j) && ((decide (a = i) && decide (b = j)) || (decide (a = j) && decide (b = i))))), ()) := by
  unfold d_graph_Sets_Join
  simp only [bneI]
  by_cases h : i = j
  · subst h
    simp only [decide_true, Bool.not_true, cond_false]
    congr 2
    exact mT_congr fun a b _ _ => by simp
  · rw [decF (show ¬ ((i : Int) = (j : Int)) by omega)]
    unfold mT
    simp (disch := omega) only [Bool.not_false, cond_true, fT_length, idxN_nat, Option.bind_some, atO_fT, Option.map_some, fT_set]
    rw [show upd (fun v => fT n (B v)) i (fT n (upd (B i) j true)) j = fT n (B j) from upd_ne _ _ (fun e => h e.symm)]
    simp (disch := omega) only [fT_length, idxN_nat, Option.bind_some, atO_fT, Option.map_some, fT_set]
    congr 2
    refine fT_congr fun a ha => ?_
    simp only [upd]
    by_cases h1 : a = j
    · rw [if_pos h1, h1]
      refine fT_congr fun b hb => ?_
      simp only [upd]
      have h' : ¬ j = i := fun e => h e.symm
      by_cases h2 : b = i
      · simp [h2, h', h]
      · simp [h2, h', h]
    · rw [if_neg h1]
      by_cases h3 : a = i
      · subst h3
        rw [if_pos rfl]
        refine fT_congr fun b hb => ?_
        simp only [upd]
        by_cases h2 : b = j
        · simp [h2, h]
        · simp [h2, h1]
      · rw [if_neg h3]
        refine fT_congr fun b hb => ?_
        simp [h1, h3]
theorem List_eq {n : Nat} (hn : n ≤ 4294967296) {B : Nat → Nat → Bool} {v : Nat} (hv : v < n) : d_graph_Sets_List (mT n B, (v : Int), ()) = some (natL ((List.range n).filter (B v)), ()) := by
  unfold d_graph_Sets_List
  simp only []
  rw [show getI (mT n B) (v : Int) = some (fT n (B v)) from getI_fT hv]
  simp only [Option.bind_some]
  refine bind_eq (y := (natL ((List.range n).filter (B v)), ())) (loop_for n (fun i => (natL ((List.range i).filter (B v)), ())) 0 rfl rfl (Nat.zero_le _) ?_ ?_) rfl
  · intro i _ hi
    have hlen : (natL ((List.range i).filter (B v))).length ≤ i := by rw [natL_length]; have := List.length_filter_le (B v) (List.range i); simpa using this
    have hs : natL ((List.range (i + 1)).filter (B v)) = if B v i = true then natL ((List.range i).filter (B v)) ++ [(i : Int)] else natL ((List.range i).filter (B v)) := by
      rw [List.range_succ, List.filter_append, natL_append]
      by_cases h : B v i = true <;> simp [h, natL]
    simp (disch := omega) only [fT_length, cond_dec, if_pos, getI_fT, Option.bind_some, wrap_inc]
    rw [hs]
    by_cases h : B v i = true
    · rw [if_pos h, h, limO_ok (by simp only [List.length_singleton]; omega)]; rfl
    · rw [if_neg h, Bool.eq_false_iff.2 h]; rfl
  · simp only [fT_length, cond_dec]
    rw [if_neg (by omega)]
end Go.Fw
end

section
namespace Go.Fw
set_option linter.unusedSimpArgs false
set_option linter.unusedVariables false
open Go
def IsPerm (l : List Int) (n : Nat) : Prop := l.length = n ∧ (∀ x ∈ l, 0 ≤ x ∧ x < (n : Int)) ∧ l.Nodup
noncomputable def permE (adj : List (List Int)) (o : List Int) : Int := open Classical in if chk adj ≠ 0 then chk adj else if o.length ≠ adj.length then 2 else if IsPerm o adj.length then 0 else 90
theorem vertex_eq (adj : List (List Int)) (v : Int) : d_graph_vertex ((adj, ()), v, ()) = some (decide (0 ≤ v ∧ v < (adj.length : Int)), ()) := by
  unfold d_graph_vertex
  simp only [cond_dec_beq]
  by_cases h : v ≥ 0
  · rw [if_pos h]
    congr 2
    exact decide_eq_decide.2 ⟨fun h2 => ⟨h, h2⟩, fun h2 => h2.2⟩
  · rw [if_neg h, decF (fun h2 => h h2.1)]
theorem outside_eq (adj : List (List Int)) (o : List Int) (ho : o.length < 4611686018427387904) : d_slices_ContainsFunc_int_int_q0 (o, ((some (adj, ())), ()), ()) = some (decide (¬ ∀ x ∈ o, 0 ≤ x ∧ x < (adj.length : Int)), ()) := by
  classical
  unfold d_slices_ContainsFunc_int_int_q0 d_slices_IndexFunc_int_int_q0
  simp only []
  rw [← Ok.eq_iff]
  have hall : (∀ x ∈ o, 0 ≤ x ∧ x < (adj.length : Int)) ↔ ∀ i, i < o.length → ∀ h : i < o.length, 0 ≤ o[i] ∧ o[i] < (adj.length : Int) :=
    ⟨fun h i _ hi => h _ (List.getElem_mem hi), fun h x hx => by obtain ⟨i, hi, rfl⟩ := List.mem_iff_getElem.1 hx; exact h i hi hi⟩
  refine Ok.bind_of (P := fun r => decide (r.1 ≥ 0) = decide (¬ ∀ x ∈ o, 0 ≤ x ∧ x < (adj.length : Int))) ?_ (fun r hr => Ok.some_iff.2 (by rw [hr]))
  refine Ok.bind_of (loop_index o.length (fun i => ∀ h : i < o.length, 0 ≤ o[i] ∧ o[i] < (adj.length : Int)) ?_ ?_) ?_
  · intro i hi
    simp (disch := omega) only [cond_dec, if_pos, getN_some (List.getElem?_eq_getElem hi), Option.bind_some, wrap_inc]
    unfold d_graph_Permuted_1q_q0
    simp only [Option.bind_some, vertex_eq]
    by_cases h : 0 ≤ o[i] ∧ o[i] < (adj.length : Int)
    · rw [decT h, if_pos (fun _ => h)]; rfl
    · rw [decF h, if_neg (fun h2 => h (h2 hi))]; rfl
  · simp (disch := omega) only [cond_dec, if_neg]
  · rintro (q | q) hq
    · refine Ok.some_iff.2 ?_
      rw [decF (by decide), decF (fun h => h (hall.2 hq))]
    · refine Ok.some_iff.2 ?_
      rw [decT (show q.1 ≥ 0 from hq.1), decT (show ¬ ∀ x ∈ o, 0 ≤ x ∧ x < (adj.length : Int) from fun h => hq.2 (hall.1 h))]
theorem Permuted_eq {adj : List (List Int)} (hc : ∀ l ∈ adj, l.length < 4611686018427387904) (o : List Int) (ho : adj.length ≤ 200 → Valid adj → adj.length ≤ 12) (ho2 : o.length < 4611686018427387904) :
    d_graph_Permuted ((adj, ()), o, ()) = some (permE adj o, ()) := by
  classical
  unfold d_graph_Permuted permE
  simp only [Check_eq adj hc, Option.bind_some, bneI]
  by_cases h0 : chk adj = 0
  · obtain ⟨hn, hV⟩ := chk_zero.1 h0
    have h12 := ho hn hV
    rw [decT h0]
    simp only [Bool.not_true, cond_false, h0, ne_eq, not_true_eq_false, if_false]
    by_cases hl : o.length = adj.length
    · rw [decT (show (((o.length : Nat) : Int) = ((adj.length : Nat) : Int)) by omega)]
      simp only [Bool.not_true, cond_false, hl, not_true_eq_false, if_false]
      rw [outside_eq adj o ho2]
      simp only [Option.bind_some]
      by_cases h1 : ∀ x ∈ o, 0 ≤ x ∧ x < (adj.length : Int)
      · rw [decF (not_not_intro h1)]
        simp only [beq_self_eq_true, cond_true]
        rw [twice_eq o (by omega)]
        simp only [Option.bind_some, cond_dec]
        by_cases h2 : o.Nodup
        · rw [if_neg (not_not_intro h2), if_pos ⟨hl, h1, h2⟩]
        · rw [if_pos h2, if_neg (fun h => h2 h.2.2)]
      · rw [decT h1, if_neg (fun h => h1 h.2.1)]
        rfl
    · rw [decF (show ¬ (((o.length : Nat) : Int) = ((adj.length : Nat) : Int)) by omega)]
      simp only [Bool.not_false, cond_true, hl, not_false_eq_true, if_true]
  · rw [decF h0]
    simp only [Bool.not_false, cond_true, h0, ne_eq, not_false_eq_true, if_true]
end Go.Fw
end

section
namespace Go.Fw
set_option linter.unusedSimpArgs false
set_option linter.unusedVariables false
open Go
section
variable {adj : List (List Int)} (hc : ∀ l ∈ adj, l.length < 4611686018427387904)
include hc
end
theorem perm_iff {adj : List (List Int)} {o : List Int} (hn : adj.length ≤ 200) (hV : Valid adj) (hp : IsPerm o adj.length) : permE adj o = 0 := by
  unfold permE
  rw [if_neg (not_not_intro (chk_zero.2 ⟨hn, hV⟩)), if_neg (not_not_intro hp.1), if_pos hp]
end Go.Fw
end

section
namespace Go.Fw
set_option linter.unusedSimpArgs false
set_option linter.unusedVariables false
open Go
theorem idxO {n : Nat} {B : Nat → Nat → Bool} {a : Nat} (h : a < n) : atO (mT n B) a (fun e => some e) = some (fT n (B a)) := atO_fT h
theorem clear_eq {n : Nat} {B : Nat → Nat → Bool} {a b : Nat} (ha : a < n) (hb : b < n) :
    atO (mT n B) a (fun e => (atO e b fun _ => some (e.set b false)).map fun z => (mT n B).set a z) = some (mT n (fun x y => if x = a ∧ y = b then false else B x y)) := by
  have h1 : atO (mT n B) a (fun e => (atO e b fun _ => some (e.set b false)).map fun z => (mT n B).set a z) = (atO (fT n (B a)) b fun _ => some ((fT n (B a)).set b false)).map fun z => (mT n B).set a z := atO_fT ha
  rw [h1, atO_fT hb]
  simp only [Option.map_some]
  unfold mT
  rw [fT_set, fT_set]
  refine congrArg some (fT_congr fun x hx => ?_)
  simp only [upd]
  by_cases h : x = a
  · rw [if_pos h]
    refine fT_congr fun y hy => ?_
    simp only [upd]
    by_cases h2 : y = b
    · rw [if_pos h2, if_pos ⟨h, h2⟩]
    · rw [if_neg h2, if_neg (fun e => h2 e.2), h]
  · rw [if_neg h]
    refine fT_congr fun y hy => ?_
    rw [if_neg (fun e => h e.1)]
theorem nat_get {L : List Nat} {k : Nat} (h : k < L.length) : getI (natL L) (k : Int) = some ((L[k] : Nat) : Int) := getN_some (by simp [natL, h])
def elB (B : Nat → Nat → Bool) (v : Nat) : Nat → Nat → Bool := fun a b => if a = v ∨ b = v then false else B a b || (decide (a ≠ b) && (B v a && B v b))
theorem elim_mT {n : Nat} (hn : n ≤ 4294967296) {B : Nat → Nat → Bool} {γ : Nat → Bool} {v : Nat} (hv : v < n) (hs : ∀ a b, B a b = B b a) (hd : B v v = false) :
    d_mindeg_Elimination_Eliminate ((mT n B, (fT n γ, ())), (v : Int), ()) = some ((mT n (elB B v), (fT n (upd γ v true), ())), natL ((List.range n).filter (B v)), ()) := by
  unfold d_mindeg_Elimination_Eliminate
  simp only []
  rw [List_eq hn hv]
  simp only [Option.bind_some]
  generalize hL : (List.range n).filter (B v) = L
  have hmem : ∀ x, x ∈ L ↔ x < n ∧ B v x = true := fun x => by rw [← hL, List.mem_filter, List.mem_range]
  have hnd : L.Nodup := by rw [← hL]; exact List.nodup_range.sublist List.filter_sublist
  have hlt : ∀ k, (h : k < L.length) → L[k] < n := fun k h => ((hmem _).1 (List.getElem_mem h)).1
  have hvL : v ∉ L := fun h => by have := ((hmem v).1 h).2; rw [hd] at this; cases this
  let Bk : Nat → Nat → Nat → Bool := fun k a b => if (a = v ∧ b ∈ L.take k) ∨ (b = v ∧ a ∈ L.take k) then false else B a b || (decide (a ≠ b) && (decide (a ∈ L.take k) && decide (b ∈ L.take k)))
  have hll : L.length ≤ n := by rw [← hL]; exact Nat.le_trans (List.length_filter_le _ _) (by simp)
  have hnl : (natL L).length = L.length := natL_length L
  refine bind_eq (y := ((mT n (Bk L.length), (fT n γ, ())), ())) (loop_for L.length (fun k => ((mT n (Bk k), (fT n γ, ())), ())) 0 rfl ?_ (Nat.zero_le _) ?_ ?_) ?_
  · refine congrArg (fun t => ((t, (fT n γ, ())), ())) (mT_congr fun a b _ _ => ?_)
    simp [Bk]
  · intro k _ hk
    have hkn := hlt k hk
    have hkv : L[k] ≠ v := fun e => hvL (e ▸ List.getElem_mem hk)
    have hlen : ((natL L).take k).length = k := by rw [List.length_take, hnl]; omega
    simp (disch := omega) only [hnl, cond_dec, if_pos, nat_get hk, Option.bind_some, natO_ok, leO_ok, Option.map_some, List.drop_zero]
    have htk : ∀ x, x ∈ L.take (k + 1) ↔ x ∈ L.take k ∨ x = L[k] := fun x => by
      rw [← take_snoc hk, List.mem_append, List.mem_singleton]
    have hnk : L[k] ∉ L.take k := fun hm => by
      obtain ⟨m, hm1, hm2⟩ := List.mem_iff_getElem.1 hm
      simp only [List.length_take] at hm1
      simp only [List.getElem_take] at hm2
      have := (List.getElem_inj hnd).1 hm2
      omega
    let Bj : Nat → Nat → Nat → Bool := fun j a b => Bk k a b || (decide (a ≠ b) && ((decide (a = L[k]) && decide (b ∈ L.take j)) || (decide (b = L[k]) && decide (a ∈ L.take j))))
    refine bind_eq (y := ((mT n (Bj k), (fT n γ, ())), ())) (loop_for k (fun j => ((mT n (Bj j), (fT n γ, ())), ())) 0 rfl ?_ (Nat.zero_le _) ?_ ?_) ?_
    · refine congrArg (fun t => ((t, (fT n γ, ())), ())) (mT_congr fun a b _ _ => ?_)
      simp [Bj]
    · intro j _ hj
      have hjl : j < L.length := by omega
      have hg2 : getI ((natL L).take k) (j : Int) = some ((L[j] : Nat) : Int) := getN_some (by rw [List.getElem?_take_of_lt hj]; simp [natL, hjl])
      simp (disch := omega) only [hlen, cond_dec, if_pos, hg2, Option.bind_some, wrap_inc, Join_eq hkn (hlt j hjl)]
      refine congrArg (fun t => some (Sum.inl (((j + 1 : Nat) : Int), (t, (fT n γ, ())), ()))) (mT_congr fun a b _ _ => ?_)
      have hjk : L[j] ≠ L[k] := fun e => by have := (List.getElem_inj hnd).1 e; omega
      have htj : ∀ x, x ∈ L.take (j + 1) ↔ x ∈ L.take j ∨ x = L[j] := fun x => by
        rw [← take_snoc hjl, List.mem_append, List.mem_singleton]
      simp only [Bj]
      rw [Bool.eq_iff_iff]
      simp only [Bool.or_eq_true, Bool.and_eq_true, decide_eq_true_eq, htj]
      constructor
      · rintro ((h | ⟨h1, h2⟩) | ⟨h1, ⟨rfl, rfl⟩ | ⟨rfl, rfl⟩⟩)
        · exact .inl h
        · exact .inr ⟨h1, h2.imp (fun h => ⟨h.1, .inl h.2⟩) (fun h => ⟨h.1, .inl h.2⟩)⟩
        · exact .inr ⟨h1, .inl ⟨rfl, .inr rfl⟩⟩
        · exact .inr ⟨fun e => h1 e.symm, .inr ⟨rfl, .inr rfl⟩⟩
      · rintro (h | ⟨h1, ⟨h2, h3 | h3⟩ | ⟨h2, h3 | h3⟩⟩)
        · exact .inl (.inl h)
        · exact .inl (.inr ⟨h1, .inl ⟨h2, h3⟩⟩)
        · exact .inr ⟨fun e => hjk e.symm, .inl ⟨h2, h3⟩⟩
        · exact .inl (.inr ⟨h1, .inr ⟨h2, h3⟩⟩)
        · exact .inr ⟨fun e => hjk e.symm, .inr ⟨h3, h2⟩⟩
    · simp (disch := omega) only [hlen, cond_dec, if_neg]
    · simp (disch := omega) only [mT_length, idxN_nat, Option.bind_some, idxO, fT_length, clear_eq, Option.map_some, wrap_inc]
      refine congrArg (fun t => some (Sum.inl (((k + 1 : Nat) : Int), (t, (fT n γ, ())), ()))) (mT_congr fun a b _ _ => ?_)
      simp only [Bj, Bk]
      by_cases h1 : a = v ∧ b = L[k]
      · rw [if_pos h1, if_pos (.inl ⟨h1.1, (htk b).2 (.inr h1.2)⟩)]
      rw [if_neg h1]
      by_cases h2 : a = L[k] ∧ b = v
      · rw [if_pos h2, if_pos (.inr ⟨h2.2, (htk a).2 (.inr h2.1)⟩)]
      rw [if_neg h2]
      by_cases h3 : (a = v ∧ b ∈ L.take k) ∨ (b = v ∧ a ∈ L.take k)
      · rw [if_pos h3, if_pos (h3.imp (fun h => ⟨h.1, (htk b).2 (.inl h.2)⟩) (fun h => ⟨h.1, (htk a).2 (.inl h.2)⟩))]
        rw [Bool.eq_false_iff]
        simp only [Bool.false_or, ne_eq, Bool.and_eq_true, Bool.or_eq_true, decide_eq_true_eq]
        rintro ⟨_, ⟨g1, g2⟩ | ⟨g1, g2⟩⟩
        · rcases h3 with h | h
          · exact hkv (g1.symm.trans h.1)
          · exact hvL (h.1 ▸ List.mem_of_mem_take g2)
        · rcases h3 with h | h
          · exact hvL (h.1 ▸ List.mem_of_mem_take g2)
          · exact hkv (g1.symm.trans h.1)
      · rw [if_neg h3, if_neg (by
          rintro (⟨g1, g2⟩ | ⟨g1, g2⟩)
          · rcases (htk b).1 g2 with g | g
            · exact h3 (.inl ⟨g1, g⟩)
            · exact h1 ⟨g1, g⟩
          · rcases (htk a).1 g2 with g | g
            · exact h3 (.inr ⟨g1, g⟩)
            · exact h2 ⟨g, g1⟩)]
        rw [Bool.eq_iff_iff]
        simp only [Bool.or_eq_true, Bool.and_eq_true, decide_eq_true_eq, htk]
        constructor
        · rintro ((h | ⟨g1, g2, g3⟩) | ⟨g1, ⟨g2, g3⟩ | ⟨g2, g3⟩⟩)
          · exact .inl h
          · exact .inr ⟨g1, .inl g2, .inl g3⟩
          · exact .inr ⟨g1, .inr g2, .inl g3⟩
          · exact .inr ⟨g1, .inl g3, .inr g2⟩
        · rintro (h | ⟨g1, g2 | g2, g3 | g3⟩)
          · exact .inl (.inl h)
          · exact .inl (.inr ⟨g1, g2, g3⟩)
          · exact .inr ⟨g1, .inr ⟨g3, g2⟩⟩
          · exact .inr ⟨g1, .inl ⟨g2, g3⟩⟩
          · exact absurd (g2.trans g3.symm) g1
  · simp (disch := omega) only [hnl, cond_dec, if_neg]
  · simp (disch := omega) only [fT_length, idxN_nat, Option.bind_some, atO_fT, fT_set, Option.map_some]
    refine congrArg (fun t => some ((t, (fT n (upd γ v true), ())), natL L, ())) (mT_congr fun a b ha hb => ?_)
    simp only [Bk, elB, List.take_length, hmem]
    by_cases h0 : a = v ∨ b = v
    · rw [if_pos h0]
      by_cases h1 : (a = v ∧ b < n ∧ B v b = true) ∨ (b = v ∧ a < n ∧ B v a = true)
      · rw [if_pos h1]
      · rw [if_neg h1, Bool.eq_false_iff]
        simp only [ne_eq, Bool.or_eq_true, Bool.and_eq_true, decide_eq_true_eq, not_or, not_and]
        rcases h0 with h0 | h0
        · subst h0
          refine ⟨fun h => h1 (.inl ⟨rfl, hb, h⟩), fun _ h => ?_⟩
          rw [hd] at h; cases h.2
        · subst h0
          refine ⟨fun h => h1 (.inr ⟨rfl, ha, by rw [hs]; exact h⟩), fun _ _ _ h => ?_⟩
          rw [hd] at h; cases h
    · rw [if_neg h0, if_neg (fun h => h0 (h.imp (fun h => h.1) (fun h => h.1)))]
      simp [ha, hb]
def nbB (adj : List (List Int)) (a b : Nat) : Bool := decide ((b : Int) ∈ adj.getD a [])
theorem nbB_iff {adj : List (List Int)} {a b : Nat} : nbB adj a b = true ↔ Nb adj a b := by
  unfold nbB
  rw [decide_eq_true_eq]
  by_cases h : a < adj.length
  · rw [getD_lt h]; exact ⟨fun h2 => ⟨h, h2⟩, fun ⟨_, h2⟩ => h2⟩
  · rw [show adj.getD a [] = [] by simp [List.getD, List.getElem?_eq_none (Nat.le_of_not_lt h)]]
    exact ⟨fun h2 => (by cases h2), fun ⟨h2, _⟩ => absurd h2 h⟩
theorem nbB_symm {adj : List (List Int)} (hV : Valid adj) (a b : Nat) : nbB adj a b = nbB adj b a := by
  rw [Bool.eq_iff_iff, nbB_iff, nbB_iff]; exact ⟨Nb.symm hV a b, Nb.symm hV b a⟩
theorem Table_mT {adj : List (List Int)} (hV : Valid adj) (hn : adj.length ≤ 200) : d_graph_Table ((adj, ()), ()) = some (mT adj.length (nbB adj), ()) := by
  generalize hN : adj.length = n at *
  unfold d_graph_Table
  simp only [hN]
  rw [NewSets_eq n (by omega)]
  simp only [Option.bind_some]
  let Bv : Nat → Nat → Nat → Bool := fun v a b => nbB adj a b && (decide (a < v) || decide (b < v))
  refine bind_eq (y := (mT n (Bv n), ())) (loop_for n (fun v => (mT n (Bv v), ())) 0 rfl ?_ (Nat.zero_le _) ?_ ?_) ?_
  · refine congrArg (fun t => (t, ())) (mT_congr fun a b _ _ => ?_)
    simp [Bv]
  · intro v _ hv
    have hvl : v < adj.length := by omega
    have hg : getI adj (v : Int) = some adj[v] := getN_some (List.getElem?_eq_getElem hvl)
    have hrow := (Valid_iff adj).1 hV v hvl
    have hlen : adj[v].length ≤ n := by have := hV.rows _ (List.getElem_mem hvl); omega
    simp (disch := omega) only [cond_dec, if_pos, hg, Option.bind_some]
    let Bk : Nat → Nat → Nat → Bool := fun k a b => Bv v a b || ((decide (a = v) && decide ((b : Int) ∈ adj[v].take k)) || (decide (b = v) && decide ((a : Int) ∈ adj[v].take k)))
    refine bind_eq (y := (mT n (Bk adj[v].length), ())) (loop_for adj[v].length (fun k => (mT n (Bk k), ())) 0 rfl ?_ (Nat.zero_le _) ?_ ?_) ?_
    · refine congrArg (fun t => (t, ())) (mT_congr fun a b _ _ => ?_)
      simp [Bk]
    · intro k _ hk
      have hx := hrow.2 k hk
      obtain ⟨x, hxx⟩ : ∃ x : Nat, adj[v][k] = (x : Int) := ⟨adj[v][k].toNat, by omega⟩
      have hxn : x < n := by omega
      have hxv : v ≠ x := fun e => hx.2.1 (by rw [hxx, e])
      have hg2 : getI adj[v] (k : Int) = some (x : Int) := by rw [getN_some (List.getElem?_eq_getElem hk), hxx]
      simp (disch := omega) only [cond_dec, if_pos, hg2, Option.bind_some, Join_eq hv hxn, wrap_inc]
      refine congrArg (fun t => some (Sum.inl (((k + 1 : Nat) : Int), t, ()))) (mT_congr fun a b _ _ => ?_)
      have htk : ∀ y : Nat, (y : Int) ∈ adj[v].take (k + 1) ↔ (y : Int) ∈ adj[v].take k ∨ y = x := fun y => by
        rw [← take_snoc hk, List.mem_append, List.mem_singleton, hxx]; exact or_congr Iff.rfl Int.ofNat_inj
      simp only [Bk]
      rw [Bool.eq_iff_iff]
      simp only [Bool.or_eq_true, Bool.and_eq_true, decide_eq_true_eq, htk]
      constructor
      · rintro ((h | h | h) | ⟨_, ⟨rfl, rfl⟩ | ⟨rfl, rfl⟩⟩)
        · exact .inl h
        · exact .inr (.inl ⟨h.1, .inl h.2⟩)
        · exact .inr (.inr ⟨h.1, .inl h.2⟩)
        · exact .inr (.inl ⟨rfl, .inr rfl⟩)
        · exact .inr (.inr ⟨rfl, .inr rfl⟩)
      · rintro (h | ⟨h1, h2 | h2⟩ | ⟨h1, h2 | h2⟩)
        · exact .inl (.inl h)
        · exact .inl (.inr (.inl ⟨h1, h2⟩))
        · exact .inr ⟨hxv, .inl ⟨h1, h2⟩⟩
        · exact .inl (.inr (.inr ⟨h1, h2⟩))
        · exact .inr ⟨hxv, .inr ⟨h2, h1⟩⟩
    · simp (disch := omega) only [cond_dec, if_neg]
    · simp (disch := omega) only [wrap_inc]
      refine congrArg (fun t => some (Sum.inl (((v + 1 : Nat) : Int), t, ()))) (mT_congr fun a b _ _ => ?_)
      have hvb : ∀ y : Nat, (y : Int) ∈ adj[v] ↔ nbB adj v y = true := fun y => by rw [nbB_iff]; exact ⟨fun h => ⟨hvl, h⟩, fun ⟨_, h⟩ => h⟩
      simp only [Bk, Bv, List.take_length]
      rw [Bool.eq_iff_iff]
      simp only [Bool.or_eq_true, Bool.and_eq_true, decide_eq_true_eq, hvb]
      constructor
      · rintro (⟨h1, h2⟩ | ⟨rfl, h2⟩ | ⟨rfl, h2⟩)
        · exact ⟨h1, by omega⟩
        · exact ⟨h2, by omega⟩
        · exact ⟨by rw [nbB_symm hV]; exact h2, by omega⟩
      · rintro ⟨h1, h2⟩
        by_cases h3 : a = v
        · exact .inr (.inl ⟨h3, h3 ▸ h1⟩)
        · by_cases h4 : b = v
          · exact .inr (.inr ⟨h4, by rw [nbB_symm hV, ← h4]; exact h1⟩)
          · exact .inl ⟨h1, by omega⟩
  · simp (disch := omega) only [cond_dec, if_neg]
  · refine congrArg (fun t => some (t, ())) (mT_congr fun a b ha hb => ?_)
    simp [Bv, ha, hb]
noncomputable def bT (adj : List (List Int)) (S : Nat → Prop) (a b : Nat) : Bool := open Classical in decide (a ≠ b ∧ ¬ S a ∧ ¬ S b ∧ WalkP (Nb adj) S a b)
theorem bT_iff {adj : List (List Int)} {S : Nat → Prop} {a b : Nat} : bT adj S a b = true ↔ a ≠ b ∧ ¬ S a ∧ ¬ S b ∧ WalkP (Nb adj) S a b := by classical unfold bT; exact decide_eq_true_iff
theorem bT_symm {adj : List (List Int)} (hV : Valid adj) {S : Nat → Prop} (a b : Nat) : bT adj S a b = bT adj S b a := by
  rw [Bool.eq_iff_iff, bT_iff, bT_iff]
  exact ⟨fun ⟨h1, h2, h3, h4⟩ => ⟨fun e => h1 e.symm, h3, h2, h4.symm (Nb.symm hV)⟩, fun ⟨h1, h2, h3, h4⟩ => ⟨fun e => h1 e.symm, h3, h2, h4.symm (Nb.symm hV)⟩⟩
theorem bT_self {adj : List (List Int)} {S : Nat → Prop} (a : Nat) : bT adj S a a = false := by rw [Bool.eq_false_iff]; exact fun h => (bT_iff.1 h).1 rfl
theorem bT_none {adj : List (List Int)} (hV : Valid adj) (a b : Nat) : bT adj (fun _ => False) a b = nbB adj a b := by
  rw [Bool.eq_iff_iff, bT_iff, nbB_iff, WalkP.none]
  exact ⟨fun h => h.2.2.2, fun h => ⟨Nb.ne hV h, fun h => h, fun h => h, h⟩⟩
theorem bT_next {adj : List (List Int)} (hV : Valid adj) {S : Nat → Prop} {v : Nat} (hv : ¬ S v) (a b : Nat) : elB (bT adj S) v a b = bT adj (fun x => S x ∨ x = v) a b := by
  unfold elB
  rw [Bool.eq_iff_iff, bT_iff, WalkP.insert_iff]
  by_cases h : a = v ∨ b = v
  · rw [if_pos h]
    exact ⟨fun h2 => (by cases h2), fun ⟨_, h1, h2, _⟩ => absurd h (fun h => h.elim (fun h => h1 (.inr h)) (fun h => h2 (.inr h)))⟩
  · rw [if_neg h]
    simp only [Bool.or_eq_true, Bool.and_eq_true, decide_eq_true_eq, bT_iff]
    have hs := Nb.symm hV
    constructor
    · rintro (⟨h1, h2, h3, h4⟩ | ⟨h1, ⟨_, _, h2, h3⟩, ⟨_, _, h4, h5⟩⟩)
      · exact ⟨h1, fun h' => h'.elim h2 (fun e => h (.inl e)), fun h' => h'.elim h3 (fun e => h (.inr e)), .inl h4⟩
      · exact ⟨h1, fun h' => h'.elim h2 (fun e => h (.inl e)), fun h' => h'.elim h4 (fun e => h (.inr e)), .inr ⟨h3.symm hs, h5⟩⟩
    · rintro ⟨h1, h2, h3, h4 | ⟨h4, h5⟩⟩
      · exact .inl ⟨h1, fun q => h2 (.inl q), fun q => h3 (.inl q), h4⟩
      · exact .inr ⟨h1, ⟨fun e => h (.inl e.symm), hv, fun q => h2 (.inl q), h4.symm hs⟩, ⟨fun e => h (.inr e.symm), hv, fun q => h3 (.inl q), h5⟩⟩
theorem Start_eq {adj : List (List Int)} (hV : Valid adj) (hn : adj.length ≤ 200) : d_mindeg_Start ((adj, ()), ()) = some ((mT adj.length (bT adj fun _ => False), (fT adj.length (fun _ => false), ())), ()) := by
  unfold d_mindeg_Start
  simp only [Table_mT hV hn, Option.bind_some, madeO_ok (show adj.length ≤ 4294967296 by omega), fT_replicate]
  rw [mT_congr (fun a b _ _ => (bT_none hV a b).symm)]
def ordN (o : List Int) (k : Nat) : Nat := (o.getD k 0).toNat
def ahead (o : List Int) (k : Nat) (x : Nat) : Prop := ∃ j, j < k ∧ x = ordN o j
noncomputable def dgN (adj : List (List Int)) (o : List Int) (k : Nat) : Nat := ((List.range adj.length).filter (bT adj (ahead o k) (ordN o k))).length
theorem IsPerm.get {o : List Int} {n : Nat} (h : IsPerm o n) {k : Nat} (hk : k < n) : getI o (k : Int) = some ((ordN o k : Nat) : Int) ∧ ordN o k < n := by
  have hl : k < o.length := by rw [h.1]; exact hk
  have h1 := h.2.1 _ (List.getElem_mem hl)
  have h2 : ordN o k = o[k].toNat := by unfold ordN; rw [getD_lt hl]
  exact ⟨by rw [getN_some (List.getElem?_eq_getElem hl), h2]; congr 1; omega, by omega⟩
theorem IsPerm.inj {o : List Int} {n : Nat} (h : IsPerm o n) {j k : Nat} (hj : j < n) (hk : k < n) (e : ordN o j = ordN o k) : j = k := by
  have hjl : j < o.length := by rw [h.1]; exact hj
  have hkl : k < o.length := by rw [h.1]; exact hk
  have h1 := h.2.1 _ (List.getElem_mem hjl)
  have h2 := h.2.1 _ (List.getElem_mem hkl)
  unfold ordN at e
  rw [getD_lt hjl, getD_lt hkl] at e
  exact (List.getElem_inj h.2.2).1 (by omega)
theorem Degrees_eq {adj : List (List Int)} (hV : Valid adj) (hn : adj.length ≤ 12) {o : List Int} (hp : IsPerm o adj.length) :
    d_mindeg_Degrees ((adj, ()), o, ()) = some (fT adj.length (fun k => (dgN adj o k : Int)), 0, ()) := by
  classical
  have hc := hV.hc (by omega)
  unfold d_mindeg_Degrees
  simp only [Permuted_eq hc o (fun _ _ => hn) (by have := hp.1; omega), perm_iff (by omega) hV hp, Option.bind_some, bneI, decide_true, Bool.not_true, cond_false, Start_eq hV (by omega), hp.1]
  refine bind_eq (loop_for (r := (fT adj.length (fun k => (dgN adj o k : Int)), ())) adj.length (fun k => ((mT adj.length (bT adj (ahead o k)), (fT adj.length (fun x => open Classical in decide (ahead o k x)), ())), fT k (fun k => (dgN adj o k : Int)), ())) 0 rfl ?_ (Nat.zero_le _) ?_ ?_) rfl
  · have e : ahead o 0 = fun _ => False := by funext x; exact eq_false (fun ⟨j, h, _⟩ => by omega)
    rw [e]
    simp [fT_zero]
  · intro k _ hk
    obtain ⟨hg, hv⟩ := hp.get hk
    have hS : ¬ ahead o k (ordN o k) := fun ⟨j, hj, e⟩ => by have := hp.inj hk (by omega) e; omega
    have hnext : (fun x => ahead o k x ∨ x = ordN o k) = ahead o (k + 1) := by
      funext x
      refine propext ⟨?_, ?_⟩
      · rintro (⟨j, hj, e⟩ | e)
        · exact ⟨j, by omega, e⟩
        · exact ⟨k, by omega, e⟩
      · rintro ⟨j, hj, e⟩
        by_cases h : j = k
        · exact .inr (h ▸ e)
        · exact .inl ⟨j, by omega, e⟩
    simp (disch := omega) only [cond_dec, if_pos, hg, Option.bind_some, elim_mT (by omega) hv (bT_symm hV) (bT_self _), fT_length, List.length_singleton, limO_ok, wrap_inc, natL_length]
    rw [mT_congr (fun a b _ _ => bT_next hV hS a b), hnext, fT_succ]
    refine congrArg (fun t => some (Sum.inl (((k + 1 : Nat) : Int), (mT adj.length (bT adj (ahead o (k + 1))), (t, ())), fT k (fun k => (dgN adj o k : Int)) ++ [(dgN adj o k : Int)], ()))) (fT_congr fun x _ => ?_)
    have hx : ahead o (k + 1) x ↔ ahead o k x ∨ x = ordN o k := by rw [← hnext]
    simp only [upd]
    by_cases h : x = ordN o k
    · rw [if_pos h]; exact (decide_eq_true (hx.2 (.inr h))).symm
    · rw [if_neg h]
      exact decide_eq_decide.2 ⟨fun q => hx.2 (.inl q), fun q => (hx.1 q).resolve_right h⟩
  · simp (disch := omega) only [cond_dec, if_neg]
end Go.Fw
end

section
namespace Go.Fw
set_option linter.unusedSimpArgs false
set_option linter.unusedVariables false
open Go
def nB (n : Nat) (p : Nat → Bool) : Nat := ((List.range n).filter p).length
theorem nB_congr {n : Nat} {p q : Nat → Bool} (h : ∀ i, i < n → p i = q i) : nB n p = nB n q := by
  unfold nB; rw [List.filter_congr fun i hi => h i (List.mem_range.1 hi)]
theorem nB_le (n : Nat) (p : Nat → Bool) : nB n p ≤ n := by unfold nB; exact Nat.le_trans (List.length_filter_le _ _) (by simp)
theorem nB_mono {n : Nat} {p q : Nat → Bool} (h : ∀ i, i < n → p i = true → q i = true) : nB n p ≤ nB n q := by
  unfold nB
  refine List.Sublist.length_le ?_
  have : (List.range n).filter p = ((List.range n).filter q).filter p := by
    rw [List.filter_filter]
    refine List.filter_congr fun i hi => ?_
    have := h i (List.mem_range.1 hi)
    cases hp : p i
    · simp
    · simp [this hp]
  rw [this]; exact List.filter_sublist
theorem nB_or {n : Nat} {p q : Nat → Bool} (h : ∀ i, i < n → p i = true → q i = false) : nB n (fun i => p i || q i) = nB n p + nB n q := by
  unfold nB
  induction n with
  | zero => rfl
  | succ n ih =>
    have ih := ih (fun i hi => h i (by omega))
    rw [List.range_succ, List.filter_append, List.filter_append, List.filter_append, List.length_append, List.length_append, List.length_append, ih]
    have := h n (by omega)
    cases hp : p n
    · cases hq : q n <;> simp [hp, hq] <;> omega
    · simp [hp, this hp]; omega
theorem nB_one {n k : Nat} (hk : k < n) : nB n (fun i => decide (i = k)) = 1 := by
  unfold nB
  induction n with
  | zero => omega
  | succ n ih =>
    rw [List.range_succ, List.filter_append, List.length_append]
    by_cases h : k = n
    · subst h
      have : (List.range k).filter (fun i => decide (i = k)) = [] := List.filter_eq_nil_iff.2 fun i hi => by have := List.mem_range.1 hi; simp; omega
      rw [this]; simp
    · rw [ih (by omega)]
      have h' : ¬ n = k := fun e => h e.symm
      simp [h']
section
variable {adj : List (List Int)} (hV : Valid adj) {o : List Int} (hp : IsPerm o adj.length)
include hV hp
end
end Go.Fw
end

section
namespace Go.Fw
set_option linter.unusedSimpArgs false
set_option linter.unusedVariables false
open Go
theorem Ok.seq {σ ρ : Type} {f : σ → Option (σ ⊕ ρ)} {Q : ρ → Prop} {s0 : σ} (n : Nat) (I : Nat → σ → Prop) (i0 : Nat) (h0 : I i0 s0) (hi : i0 ≤ n)
    (hstep : ∀ i s, i0 ≤ i → i < n → I i s → Ok (f s) (fun | .inl s' => I (i + 1) s' | .inr r => Q r))
    (hend : ∀ s, I n s → Ok (f s) (fun | .inl _ => False | .inr r => Q r)) : Ok (Fw.loop f s0) Q := by
  obtain ⟨d, hd⟩ : ∃ d, n = i0 + d := ⟨n - i0, by omega⟩
  induction d generalizing i0 s0 with
  | zero =>
    obtain rfl : n = i0 := by omega
    rw [loop_unfold]
    obtain ⟨y, hy, hq⟩ := hend s0 h0
    rw [hy]
    cases y with
    | inl => exact hq.elim
    | inr r => exact Ok.some_iff.2 hq
  | succ d ih =>
    rw [loop_unfold]
    obtain ⟨y, hy, hq⟩ := hstep i0 s0 (Nat.le_refl _) (by omega) h0
    rw [hy]
    cases y with
    | inl s' => exact ih (i0 + 1) hq (by omega) (fun i s h => hstep i s (by omega)) (by omega)
    | inr r => exact Ok.some_iff.2 hq
theorem loop_seq {σ ρ : Type} {f : σ → Option (σ ⊕ ρ)} {r : ρ} {s0 : σ} (n : Nat) (I : Nat → σ) (i0 : Nat) (hs : s0 = I i0) (hi : i0 ≤ n)
    (hstep : ∀ i, i0 ≤ i → i < n → f (I i) = some (.inl (I (i + 1)))) (hend : f (I n) = some (.inr r)) : loop f s0 = some r := by
  rw [← Ok.eq_iff]
  refine Ok.seq n (fun i s => s = I i) i0 hs hi ?_ ?_
  · rintro i _ h1 h2 rfl
    rw [hstep i h1 h2]
    exact Ok.some_iff.2 rfl
  · rintro _ rfl
    rw [hend]
    exact Ok.some_iff.2 rfl
theorem bindR {α β : Type} {x : Option α} {g : α → Option β} {r : Option β} (y : α) (h2 : g y = r) (h : x = some y) : x.bind g = r := by rw [h]; exact h2
section
variable {adj : List (List Int)} (hV : Valid adj)
include hV
end
end Go.Fw
end

section
namespace Go.Fw
set_option linter.unusedSimpArgs false
set_option linter.unusedVariables false
open Go
def dgV (adj : List (List Int)) (x : Int) : Nat := (adj.getD x.toNat []).length
section
variable {adj : List (List Int)} (hV : Valid adj) (hn : adj.length ≤ 200)
include hV hn
end
end Go.Fw
end

section
namespace Go.Fw
set_option linter.unusedSimpArgs false
set_option linter.unusedVariables false
open Go
def lexI (adj : List (List Int)) (x y : Int) : Prop := dgV adj x < dgV adj y ∨ (dgV adj x = dgV adj y ∧ x < y)
instance (adj : List (List Int)) (x y : Int) : Decidable (lexI adj x y) := by unfold lexI; exact inferInstance
end Go.Fw
end

section
namespace Go.Fw
set_option linter.unusedSimpArgs false
set_option linter.unusedVariables false
open Go
theorem subset_le : ∀ {l m : List Nat}, l.Nodup → (∀ x ∈ l, x ∈ m) → l.length ≤ m.length := by
  intro l
  induction l with
  | nil => intro m _ _; exact Nat.zero_le _
  | cons a l ih =>
    intro m hd h
    obtain ⟨h1, h2⟩ := List.nodup_cons.1 hd
    have ha := h a (List.mem_cons_self ..)
    have := ih (m := m.erase a) h2 (fun x hx => (List.mem_erase_of_ne (fun e => by subst e; exact h1 hx)).2 (h x (List.mem_cons_of_mem _ hx)))
    rw [List.length_erase_of_mem ha] at this
    have := List.length_pos_of_mem ha
    rw [List.length_cons]; omega
section
variable {o : List Int} {n : Nat} (hp : IsPerm o n)
include hp
end
section
variable {adj : List (List Int)} (hV : Valid adj) {o : List Int} (hp : IsPerm o adj.length)
include hV hp
end
end Go.Fw
end

section
namespace Go.Fw
noncomputable def e_graph_NewSets (n_ : Nat) : (Int × Unit) → Option ((List (List Bool)) × Unit) := fun (n_1, _) =>
  (madeO n_1 n_1).bind fun n2 =>
  (loopN (σ := (Int × (List (List Bool)) × Unit)) (ρ := ((List (List Bool)) × Unit)) (fun (s_3, s_4, _) =>
  (bif (decide (s_3 < (((((List.replicate n2 []) : (List (List Bool)))).length : Nat) : Int))) then (
  (madeO n_1 n_1).bind fun n5 =>
  (idxN (s_4).length s_3).bind fun k6 =>
  ((atO s_4 k6 fun _ => some ((s_4).set k6 (List.replicate n5 false)))).bind fun z8 =>
  some (.inl ((IntKind.i64.wrap (s_3 + ((1) : Int))), z8, ()))) else (
  some (.inr (s_4, ()))))) n_ (((0) : Int), (List.replicate n2 []), ())).bind fun (s_9, _) =>
  some (s_9, ())
set_option maxHeartbeats 4000000 in
theorem le_graph_NewSets (n_ : Nat) (a : (Int × Unit)) : Le (e_graph_NewSets n_ a) (d_graph_NewSets a) := by
  unfold e_graph_NewSets d_graph_NewSets
  repeat' (first | with_reducible exact Le.refl _  | (with_reducible refine Le.bind ?_ (fun y => ?_)) | (with_reducible refine Le.bif ?_ ?_) | (with_reducible refine Le.loop (fun s => ?_) _ _) | (with_reducible refine Le.atO (fun e => ?_)) | split)
noncomputable def e_graph_Sets_Join (n_ : Nat) : ((List (List Bool)) × Int × Int × Unit) → Option ((List (List Bool)) × Unit) := fun (s_1, v_2, w_3, _) =>
  (bif (v_2 != w_3) then (
  (idxN (s_1).length v_2).bind fun k4 =>
  (idxN (s_1).length w_3).bind fun k6 =>
  (((atO s_1 k4 fun e8 => some e8)).bind fun e9 => idxN (e9).length w_3).bind fun k10 =>
  ((atO s_1 k4 fun e11 => ((atO e11 k10 fun _ => some ((e11).set k10 true))).map fun z13 => (s_1).set k4 z13)).bind fun z14 =>
  (((atO z14 k6 fun e15 => some e15)).bind fun e16 => idxN (e16).length v_2).bind fun k17 =>
  ((atO z14 k6 fun e18 => ((atO e18 k17 fun _ => some ((e18).set k17 true))).map fun z20 => (z14).set k6 z20)).bind fun z21 =>
  some (z21, ())) else (
  some (s_1, ())))
set_option maxHeartbeats 4000000 in
theorem le_graph_Sets_Join (n_ : Nat) (a : ((List (List Bool)) × Int × Int × Unit)) : Le (e_graph_Sets_Join n_ a) (d_graph_Sets_Join a) := by
  unfold e_graph_Sets_Join d_graph_Sets_Join
  repeat' (first | with_reducible exact Le.refl _  | (with_reducible refine Le.bind ?_ (fun y => ?_)) | (with_reducible refine Le.bif ?_ ?_) | (with_reducible refine Le.loop (fun s => ?_) _ _) | (with_reducible refine Le.atO (fun e => ?_)) | split)
noncomputable def e_graph_Table (n_ : Nat) : (((List (List Int)) × Unit) × Unit) → Option ((List (List Bool)) × Unit) := fun (g_1, _) =>
  (e_graph_NewSets n_ ((((g_1.1).length : Nat) : Int), ())).bind fun (r2, _) =>
  (loopN (σ := (Int × (List (List Bool)) × Unit)) (ρ := ((List (List Bool)) × Unit)) (fun (s_3, s_4, _) =>
  (bif (decide (s_3 < (((g_1.1).length : Nat) : Int))) then (
  (getI g_1.1 s_3).bind fun y5 =>
  (loopN (σ := (Int × (List (List Bool)) × Unit)) (ρ := ((List (List Bool)) × Unit)) (fun (s_6, s_7, _) =>
  (bif (decide (s_6 < (((y5).length : Nat) : Int))) then (
  (getI y5 s_6).bind fun y8 =>
  (e_graph_Sets_Join n_ (s_7, s_3, y8, ())).bind fun (m9, _) =>
  some (.inl ((IntKind.i64.wrap (s_6 + ((1) : Int))), m9, ()))) else (
  some (.inr (s_7, ()))))) n_ (((0) : Int), s_4, ())).bind fun (s_10, _) =>
  some (.inl ((IntKind.i64.wrap (s_3 + ((1) : Int))), s_10, ()))) else (
  some (.inr (s_4, ()))))) n_ (((0) : Int), r2, ())).bind fun (s_11, _) =>
  some (s_11, ())
set_option maxHeartbeats 4000000 in
theorem le_graph_Table (n_ : Nat) (a : (((List (List Int)) × Unit) × Unit)) : Le (e_graph_Table n_ a) (d_graph_Table a) := by
  unfold e_graph_Table d_graph_Table
  repeat' (first | with_reducible exact Le.refl _ | with_reducible exact le_graph_Sets_Join _ _ | with_reducible exact le_graph_NewSets _ _ | (with_reducible refine Le.bind ?_ (fun y => ?_)) | (with_reducible refine Le.bif ?_ ?_) | (with_reducible refine Le.loop (fun s => ?_) _ _) | (with_reducible refine Le.atO (fun e => ?_)) | split)
noncomputable def e_mindeg_Start (n_ : Nat) : (((List (List Int)) × Unit) × Unit) → Option (((List (List Bool)) × ((List Bool) × Unit)) × Unit) := fun (g_1, _) =>
  (e_graph_Table n_ (g_1, ())).bind fun (r2, _) =>
  (madeO (((g_1.1).length : Nat) : Int) (((g_1.1).length : Nat) : Int)).bind fun n3 =>
  some ((r2, ((List.replicate n3 false), ())), ())
set_option maxHeartbeats 4000000 in
theorem le_mindeg_Start (n_ : Nat) (a : (((List (List Int)) × Unit) × Unit)) : Le (e_mindeg_Start n_ a) (d_mindeg_Start a) := by
  unfold e_mindeg_Start d_mindeg_Start
  repeat' (first | with_reducible exact Le.refl _ | with_reducible exact le_graph_Table _ _ | (with_reducible refine Le.bind ?_ (fun y => ?_)) | (with_reducible refine Le.bif ?_ ?_) | (with_reducible refine Le.loop (fun s => ?_) _ _) | (with_reducible refine Le.atO (fun e => ?_)) | split)
noncomputable def e_graph_Sets_List (n_ : Nat) : ((List (List Bool)) × Int × Unit) → Option ((List Int) × Unit) := fun (s_1, v_2, _) =>
  (getI s_1 v_2).bind fun y4 =>
  (loopN (σ := (Int × (List Int) × Unit)) (ρ := ((List Int) × Unit)) (fun (s_5, out_6, _) =>
  (bif (decide (s_5 < (((y4).length : Nat) : Int))) then (
  Option.bind (α := ((List Int) × Unit)) (
  (getI y4 s_5).bind fun y7 =>
  (bif y7 then (
  (limO ((out_6).length + ([s_5]).length)).bind fun _ =>
  some ((out_6 ++ [s_5]), ())) else (
  some (out_6, ())))) fun (out_8, _) =>
  some (.inl ((IntKind.i64.wrap (s_5 + ((1) : Int))), out_8, ()))) else (
  some (.inr (out_6, ()))))) n_ (((0) : Int), [], ())).bind fun (out_9, _) =>
  some (out_9, ())
set_option maxHeartbeats 4000000 in
theorem le_graph_Sets_List (n_ : Nat) (a : ((List (List Bool)) × Int × Unit)) : Le (e_graph_Sets_List n_ a) (d_graph_Sets_List a) := by
  unfold e_graph_Sets_List d_graph_Sets_List
  repeat' (first | with_reducible exact Le.refl _  | (with_reducible refine Le.bind ?_ (fun y => ?_)) | (with_reducible refine Le.bif ?_ ?_) | (with_reducible refine Le.loop (fun s => ?_) _ _) | (with_reducible refine Le.atO (fun e => ?_)) | split)
noncomputable def e_mindeg_Elimination_Eliminate (n_ : Nat) : (((List (List Bool)) × ((List Bool) × Unit)) × Int × Unit) → Option (((List (List Bool)) × ((List Bool) × Unit)) × (List Int) × Unit) := fun (x_1, v_2, _) =>
  (e_graph_Sets_List n_ (x_1.1, v_2, ())).bind fun (r3, _) =>
  (loopN (σ := (Int × ((List (List Bool)) × ((List Bool) × Unit)) × Unit)) (ρ := (((List (List Bool)) × ((List Bool) × Unit)) × Unit)) (fun (s_4, x_5, _) =>
  (bif (decide (s_4 < (((r3).length : Nat) : Int))) then (
  (getI r3 s_4).bind fun y6 =>
  ((some (0)).bind fun l7 => (natO s_4).bind fun l8 => (leO l7 l8 (r3).length).map fun _ => (l7, l8)).bind fun q9 =>
  (loopN (σ := (Int × ((List (List Bool)) × ((List Bool) × Unit)) × Unit)) (ρ := (((List (List Bool)) × ((List Bool) × Unit)) × Unit)) (fun (s_10, x_11, _) =>
  (bif (decide (s_10 < ((((((r3).take q9.2).drop q9.1)).length : Nat) : Int))) then (
  (getI (((r3).take q9.2).drop q9.1) s_10).bind fun y12 =>
  (e_graph_Sets_Join n_ (x_11.1, y6, y12, ())).bind fun (m13, _) =>
  some (.inl ((IntKind.i64.wrap (s_10 + ((1) : Int))), (m13, x_11.2), ()))) else (
  some (.inr (x_11, ()))))) n_ (((0) : Int), x_5, ())).bind fun (x_14, _) =>
  (idxN (x_14.1).length y6).bind fun k15 =>
  (idxN (x_14.1).length v_2).bind fun k17 =>
  (((atO x_14.1 k15 fun e19 => some e19)).bind fun e20 => idxN (e20).length v_2).bind fun k21 =>
  ((((atO x_14.1 k15 fun e22 => ((atO e22 k21 fun _ => some ((e22).set k21 false))).map fun z24 => (x_14.1).set k15 z24)).map fun z25 => (z25, x_14.2))).bind fun z26 =>
  (((atO z26.1 k17 fun e27 => some e27)).bind fun e28 => idxN (e28).length y6).bind fun k29 =>
  ((((atO z26.1 k17 fun e30 => ((atO e30 k29 fun _ => some ((e30).set k29 false))).map fun z32 => (z26.1).set k17 z32)).map fun z33 => (z33, z26.2))).bind fun z34 =>
  some (.inl ((IntKind.i64.wrap (s_4 + ((1) : Int))), z34, ()))) else (
  some (.inr (x_5, ()))))) n_ (((0) : Int), x_1, ())).bind fun (x_35, _) =>
  (idxN (x_35.2.1).length v_2).bind fun k36 =>
  ((((((atO x_35.2.1 k36 fun _ => some ((x_35.2.1).set k36 true))).map fun z38 => (z38, x_35.2.2))).map fun z39 => (x_35.1, z39))).bind fun z40 =>
  some (z40, r3, ())
set_option maxHeartbeats 4000000 in
theorem le_mindeg_Elimination_Eliminate (n_ : Nat) (a : (((List (List Bool)) × ((List Bool) × Unit)) × Int × Unit)) : Le (e_mindeg_Elimination_Eliminate n_ a) (d_mindeg_Elimination_Eliminate a) := by
  unfold e_mindeg_Elimination_Eliminate d_mindeg_Elimination_Eliminate
  repeat' (first | with_reducible exact Le.refl _ | with_reducible exact le_graph_Sets_List _ _ | with_reducible exact le_graph_Sets_Join _ _ | (with_reducible refine Le.bind ?_ (fun y => ?_)) | (with_reducible refine Le.bif ?_ ?_) | (with_reducible refine Le.loop (fun s => ?_) _ _) | (with_reducible refine Le.atO (fun e => ?_)) | split)
noncomputable def e_mindeg_Exact (n_ : Nat) : (((List (List Int)) × Unit) × Unit) → Option ((List Int) × Int × Unit) := fun (g_1, _) =>
  (e_graph_Check n_ (g_1, ())).bind fun (r31, _) =>
  (bif (r31 != ((0) : Int)) then (
  some ([], r31, ())) else (
  (e_mindeg_Start n_ (g_1, ())).bind fun (r32, _) =>
  (loopN (σ := (Int × ((List (List Bool)) × ((List Bool) × Unit)) × (List Int) × Unit)) (ρ := ((List Int) × Unit)) (fun (s_33, x_34, out_35, _) =>
  (bif (decide (s_33 < (((g_1.1).length : Nat) : Int))) then (
  (loopN (σ := (Int × Int × Int × ((List (List Bool)) × ((List Bool) × Unit)) × (List Int) × Unit)) (ρ := (Int × ((List (List Bool)) × ((List Bool) × Unit)) × (List Int) × Unit)) (fun (best_36, least_37, s_38, x_39, out_40, _) =>
  (bif (decide (s_38 < (((g_1.1).length : Nat) : Int))) then (
  Option.bind (α := (Int × Int × ((List (List Bool)) × ((List Bool) × Unit)) × (List Int) × Unit)) (
  (e_graph_Sets_List n_ (x_39.1, s_38, ())).bind fun (r41, _) =>
  Option.bind (α := (Bool × ((List (List Bool)) × ((List Bool) × Unit)) × (List Int) × Unit)) (
  (idxN (x_39.2.1).length s_38).bind fun k42 =>
  ((atO x_39.2.1 k42 fun e43 => some e43)).bind fun y44 =>
  (bif ((!y44) == true) then ((bif ((decide (best_36 < ((0) : Int))) == false) then (some ((decide ((((r41).length : Nat) : Int) < least_37)), x_39, out_40, ())) else (some (true, x_39, out_40, ())))) else (some (false, x_39, out_40, ())))) fun (s_45, x_46, out_47, _) =>
  (bif s_45 then (
  some (s_38, (((r41).length : Nat) : Int), x_46, out_47, ())) else (
  some (best_36, least_37, x_46, out_47, ())))) fun (best_48, least_49, x_50, out_51, _) =>
  some (.inl (best_48, least_49, (IntKind.i64.wrap (s_38 + ((1) : Int))), x_50, out_51, ()))) else (
  some (.inr (best_36, x_39, out_40, ()))))) n_ ((-1 : Int), ((0) : Int), ((0) : Int), x_34, out_35, ())).bind fun (best_52, x_53, out_54, _) =>
  (e_mindeg_Elimination_Eliminate n_ (x_53, best_52, ())).bind fun (m55, _, _) =>
  (limO ((out_54).length + ([best_52]).length)).bind fun _ =>
  some (.inl ((IntKind.i64.wrap (s_33 + ((1) : Int))), m55, (out_54 ++ [best_52]), ()))) else (
  some (.inr (out_35, ()))))) n_ (((0) : Int), r32, [], ())).bind fun (out_57, _) =>
  some (out_57, ((0) : Int), ())))
set_option maxHeartbeats 4000000 in
theorem le_mindeg_Exact (n_ : Nat) (a : (((List (List Int)) × Unit) × Unit)) : Le (e_mindeg_Exact n_ a) (d_mindeg_Exact a) := by
  unfold e_mindeg_Exact d_mindeg_Exact
  repeat' (first | with_reducible exact Le.refl _ | with_reducible exact le_graph_Check _ _ | with_reducible exact le_mindeg_Start _ _ | with_reducible exact le_graph_Sets_List _ _ | with_reducible exact le_mindeg_Elimination_Eliminate _ _ | (with_reducible refine Le.bind ?_ (fun y => ?_)) | (with_reducible refine Le.bif ?_ ?_) | (with_reducible refine Le.loop (fun s => ?_) _ _) | (with_reducible refine Le.atO (fun e => ?_)) | split)
noncomputable def e_graph_vertex (n_ : Nat) : (((List (List Int)) × Unit) × Int × Unit) → Option (Bool × Unit) := fun (g_1, v_2, _) =>
  (bif ((decide (v_2 ≥ ((0) : Int))) == true) then (some ((decide (v_2 < (((g_1.1).length : Nat) : Int))), ())) else (some (false, ())))
set_option maxHeartbeats 4000000 in
theorem le_graph_vertex (n_ : Nat) (a : (((List (List Int)) × Unit) × Int × Unit)) : Le (e_graph_vertex n_ a) (d_graph_vertex a) := by
  unfold e_graph_vertex d_graph_vertex
  repeat' (first | with_reducible exact Le.refl _  | (with_reducible refine Le.bind ?_ (fun y => ?_)) | (with_reducible refine Le.bif ?_ ?_) | (with_reducible refine Le.loop (fun s => ?_) _ _) | (with_reducible refine Le.atO (fun e => ?_)) | split)
noncomputable def e_math_bits_Len64 (n_ : Nat) : (Int × Unit) → Option (Int × Unit) := fun (x_1, _) =>
  Option.bind (α := (Int × Int × Unit)) (
  (bif (decide (x_1 ≥ ((4294967296) : Int))) then (
  (shrO IntKind.u64 x_1 ((32) : Int)).bind fun y2 =>
  some (y2, ((32) : Int), ())) else (
  some (x_1, ((0) : Int), ())))) fun (x_3, n_4, _) =>
  Option.bind (α := (Int × Int × Unit)) (
  (bif (decide (x_3 ≥ ((65536) : Int))) then (
  (shrO IntKind.u64 x_3 ((16) : Int)).bind fun y5 =>
  some (y5, (IntKind.i64.wrap (n_4 + ((16) : Int))), ())) else (
  some (x_3, n_4, ())))) fun (x_6, n_7, _) =>
  Option.bind (α := (Int × Int × Unit)) (
  (bif (decide (x_6 ≥ ((256) : Int))) then (
  (shrO IntKind.u64 x_6 ((8) : Int)).bind fun y8 =>
  some (y8, (IntKind.i64.wrap (n_7 + ((8) : Int))), ())) else (
  some (x_6, n_7, ())))) fun (x_9, n_10, _) =>
  (strI lenTab (IntKind.u8.wrap x_9)).bind fun c11 =>
  some ((IntKind.i64.wrap (n_10 + (IntKind.i64.wrap c11))), ())
set_option maxHeartbeats 4000000 in
theorem le_math_bits_Len64 (n_ : Nat) (a : (Int × Unit)) : Le (e_math_bits_Len64 n_ a) (d_math_bits_Len64 a) := by
  unfold e_math_bits_Len64 d_math_bits_Len64
  repeat' (first | with_reducible exact Le.refl _  | (with_reducible refine Le.bind ?_ (fun y => ?_)) | (with_reducible refine Le.bif ?_ ?_) | (with_reducible refine Le.loop (fun s => ?_) _ _) | (with_reducible refine Le.atO (fun e => ?_)) | split)
noncomputable def e_math_bits_Len (n_ : Nat) : (Int × Unit) → Option (Int × Unit) := fun (x_1, _) =>
  (e_math_bits_Len64 n_ (x_1, ())).bind fun (r2, _) =>
  some (r2, ())
set_option maxHeartbeats 4000000 in
theorem le_math_bits_Len (n_ : Nat) (a : (Int × Unit)) : Le (e_math_bits_Len n_ a) (d_math_bits_Len a) := by
  unfold e_math_bits_Len d_math_bits_Len
  repeat' (first | with_reducible exact Le.refl _ | with_reducible exact le_math_bits_Len64 _ _ | (with_reducible refine Le.bind ?_ (fun y => ?_)) | (with_reducible refine Le.bif ?_ ?_) | (with_reducible refine Le.loop (fun s => ?_) _ _) | (with_reducible refine Le.atO (fun e => ?_)) | split)
noncomputable def e_slices_insertionSortOrdered_int (n_ : Nat) : ((List Int) × Int × Int × Unit) → Option ((List Int) × Unit) := fun (data_1, a_2, b_3, _) =>
  (loopN (σ := (Int × (List Int) × Unit)) (ρ := ((List Int) × Unit)) (fun (i_4, data_5, _) =>
  (bif (decide (i_4 < b_3)) then (
  (loopN (σ := (Int × (List Int) × Unit)) (ρ := ((List Int) × Unit)) (fun (j_6, data_7, _) =>
  Option.bind (α := ((List Int) × Unit) ⊕ ((Int × (List Int) × Unit) ⊕ ((List Int) × Unit))) (
  (bif ((decide (j_6 > a_2)) == true) then ((idxN (data_7).length j_6).bind fun k8 =>
  ((atO data_7 k8 fun e9 => some e9)).bind fun y10 =>
  (idxN (data_7).length (IntKind.i64.wrap (j_6 - ((1) : Int)))).bind fun k11 =>
  ((atO data_7 k11 fun e12 => some e12)).bind fun y13 =>
  (e_cmp_Less_int n_ (y10, y13, ())).bind fun (r14, _) =>
  (bif r14 then (
  some (.inl (data_7, ()))) else (
  some (.inr (.inr (data_7, ())))))) else (some (.inr (.inr (data_7, ())))))) fun q => match q with
  | .inl (data_15, _) => (
  (idxN (data_15).length (IntKind.i64.wrap (j_6 - ((1) : Int)))).bind fun k16 =>
  ((atO data_15 k16 fun e17 => some e17)).bind fun y18 =>
  (idxN (data_15).length j_6).bind fun k19 =>
  ((atO data_15 k19 fun e20 => some e20)).bind fun y21 =>
  (idxN (data_15).length j_6).bind fun k22 =>
  ((atO data_15 k22 fun _ => some ((data_15).set k22 y18))).bind fun z24 =>
  (idxN (z24).length (IntKind.i64.wrap (j_6 - ((1) : Int)))).bind fun k25 =>
  ((atO z24 k25 fun _ => some ((z24).set k25 y21))).bind fun z27 =>
  some (.inl ((IntKind.i64.wrap (j_6 - ((1) : Int))), z27, ())))
  | .inr r => some r) n_ (i_4, data_5, ())).bind fun (data_28, _) =>
  some (.inl ((IntKind.i64.wrap (i_4 + ((1) : Int))), data_28, ()))) else (
  some (.inr (data_5, ()))))) n_ ((IntKind.i64.wrap (a_2 + ((1) : Int))), data_1, ())).bind fun (data_29, _) =>
  some (data_29, ())
set_option maxHeartbeats 4000000 in
theorem le_slices_insertionSortOrdered_int (n_ : Nat) (a : ((List Int) × Int × Int × Unit)) : Le (e_slices_insertionSortOrdered_int n_ a) (d_slices_insertionSortOrdered_int a) := by
  unfold e_slices_insertionSortOrdered_int d_slices_insertionSortOrdered_int
  repeat' (first | with_reducible exact Le.refl _ | with_reducible exact le_cmp_Less_int _ _ | (with_reducible refine Le.bind ?_ (fun y => ?_)) | (with_reducible refine Le.bif ?_ ?_) | (with_reducible refine Le.loop (fun s => ?_) _ _) | (with_reducible refine Le.atO (fun e => ?_)) | split)
noncomputable def e_slices_siftDownOrdered_int (n_ : Nat) : ((List Int) × Int × Int × Int × Unit) → Option ((List Int) × Unit) := fun (data_1, lo_2, hi_3, first_4, _) =>
  (loopN (σ := (Int × (List Int) × Unit)) (ρ := (((List Int) × Unit) ⊕ ((List Int) × Unit))) (fun (root_5, data_6, _) =>
  (bif (decide ((IntKind.i64.wrap ((IntKind.i64.wrap (((2) : Int) * root_5)) + ((1) : Int))) ≥ hi_3)) then (
  some (.inr (.inl (data_6, ())))) else (
  Option.bind (α := (Int × (List Int) × Unit)) (
  Option.bind (α := (Bool × (List Int) × Unit)) (
  (bif ((decide ((IntKind.i64.wrap ((IntKind.i64.wrap ((IntKind.i64.wrap (((2) : Int) * root_5)) + ((1) : Int))) + ((1) : Int))) < hi_3)) == true) then ((idxN (data_6).length (IntKind.i64.wrap (first_4 + (IntKind.i64.wrap ((IntKind.i64.wrap (((2) : Int) * root_5)) + ((1) : Int)))))).bind fun k7 =>
  ((atO data_6 k7 fun e8 => some e8)).bind fun y9 =>
  (idxN (data_6).length (IntKind.i64.wrap ((IntKind.i64.wrap (first_4 + (IntKind.i64.wrap ((IntKind.i64.wrap (((2) : Int) * root_5)) + ((1) : Int))))) + ((1) : Int)))).bind fun k10 =>
  ((atO data_6 k10 fun e11 => some e11)).bind fun y12 =>
  (e_cmp_Less_int n_ (y9, y12, ())).bind fun (r13, _) =>
  some (r13, data_6, ())) else (some (false, data_6, ())))) fun (s_14, data_15, _) =>
  (bif s_14 then (
  some ((IntKind.i64.wrap ((IntKind.i64.wrap ((IntKind.i64.wrap (((2) : Int) * root_5)) + ((1) : Int))) + ((1) : Int))), data_15, ())) else (
  some ((IntKind.i64.wrap ((IntKind.i64.wrap (((2) : Int) * root_5)) + ((1) : Int))), data_15, ())))) fun (child_16, data_17, _) =>
  (idxN (data_17).length (IntKind.i64.wrap (first_4 + root_5))).bind fun k18 =>
  ((atO data_17 k18 fun e19 => some e19)).bind fun y20 =>
  (idxN (data_17).length (IntKind.i64.wrap (first_4 + child_16))).bind fun k21 =>
  ((atO data_17 k21 fun e22 => some e22)).bind fun y23 =>
  (e_cmp_Less_int n_ (y20, y23, ())).bind fun (r24, _) =>
  (bif (!r24) then (
  some (.inr (.inr (data_17, ())))) else (
  (idxN (data_17).length (IntKind.i64.wrap (first_4 + child_16))).bind fun k25 =>
  ((atO data_17 k25 fun e26 => some e26)).bind fun y27 =>
  (idxN (data_17).length (IntKind.i64.wrap (first_4 + root_5))).bind fun k28 =>
  ((atO data_17 k28 fun e29 => some e29)).bind fun y30 =>
  (idxN (data_17).length (IntKind.i64.wrap (first_4 + root_5))).bind fun k31 =>
  ((atO data_17 k31 fun _ => some ((data_17).set k31 y27))).bind fun z33 =>
  (idxN (z33).length (IntKind.i64.wrap (first_4 + child_16))).bind fun k34 =>
  ((atO z33 k34 fun _ => some ((z33).set k34 y30))).bind fun z36 =>
  some (.inl (child_16, z36, ()))))))) n_ (lo_2, data_1, ())).bind fun q => match q with
  | .inl (data_37, _) => (
  some (data_37, ()))
  | .inr r => some r
set_option maxHeartbeats 4000000 in
theorem le_slices_siftDownOrdered_int (n_ : Nat) (a : ((List Int) × Int × Int × Int × Unit)) : Le (e_slices_siftDownOrdered_int n_ a) (d_slices_siftDownOrdered_int a) := by
  unfold e_slices_siftDownOrdered_int d_slices_siftDownOrdered_int
  repeat' (first | with_reducible exact Le.refl _ | with_reducible exact le_cmp_Less_int _ _ | (with_reducible refine Le.bind ?_ (fun y => ?_)) | (with_reducible refine Le.bif ?_ ?_) | (with_reducible refine Le.loop (fun s => ?_) _ _) | (with_reducible refine Le.atO (fun e => ?_)) | split)
noncomputable def e_slices_heapSortOrdered_int (n_ : Nat) : ((List Int) × Int × Int × Unit) → Option ((List Int) × Unit) := fun (data_1, a_2, b_3, _) =>
  (quoO IntKind.i64 (IntKind.i64.wrap ((IntKind.i64.wrap (b_3 - a_2)) - ((1) : Int))) ((2) : Int)).bind fun y4 =>
  (loopN (σ := (Int × (List Int) × Unit)) (ρ := ((List Int) × Unit)) (fun (i_5, data_6, _) =>
  (bif (decide (i_5 ≥ ((0) : Int))) then (
  (e_slices_siftDownOrdered_int n_ (data_6, i_5, (IntKind.i64.wrap (b_3 - a_2)), a_2, ())).bind fun (m7, _) =>
  some (.inl ((IntKind.i64.wrap (i_5 - ((1) : Int))), m7, ()))) else (
  some (.inr (data_6, ()))))) n_ (y4, data_1, ())).bind fun (data_8, _) =>
  (loopN (σ := (Int × (List Int) × Unit)) (ρ := ((List Int) × Unit)) (fun (i_9, data_10, _) =>
  (bif (decide (i_9 ≥ ((0) : Int))) then (
  (idxN (data_10).length (IntKind.i64.wrap (a_2 + i_9))).bind fun k11 =>
  ((atO data_10 k11 fun e12 => some e12)).bind fun y13 =>
  (idxN (data_10).length a_2).bind fun k14 =>
  ((atO data_10 k14 fun e15 => some e15)).bind fun y16 =>
  (idxN (data_10).length a_2).bind fun k17 =>
  ((atO data_10 k17 fun _ => some ((data_10).set k17 y13))).bind fun z19 =>
  (idxN (z19).length (IntKind.i64.wrap (a_2 + i_9))).bind fun k20 =>
  ((atO z19 k20 fun _ => some ((z19).set k20 y16))).bind fun z22 =>
  (e_slices_siftDownOrdered_int n_ (z22, ((0) : Int), i_9, a_2, ())).bind fun (m23, _) =>
  some (.inl ((IntKind.i64.wrap (i_9 - ((1) : Int))), m23, ()))) else (
  some (.inr (data_10, ()))))) n_ ((IntKind.i64.wrap ((IntKind.i64.wrap (b_3 - a_2)) - ((1) : Int))), data_8, ())).bind fun (data_24, _) =>
  some (data_24, ())
set_option maxHeartbeats 4000000 in
theorem le_slices_heapSortOrdered_int (n_ : Nat) (a : ((List Int) × Int × Int × Unit)) : Le (e_slices_heapSortOrdered_int n_ a) (d_slices_heapSortOrdered_int a) := by
  unfold e_slices_heapSortOrdered_int d_slices_heapSortOrdered_int
  repeat' (first | with_reducible exact Le.refl _ | with_reducible exact le_slices_siftDownOrdered_int _ _ | (with_reducible refine Le.bind ?_ (fun y => ?_)) | (with_reducible refine Le.bif ?_ ?_) | (with_reducible refine Le.loop (fun s => ?_) _ _) | (with_reducible refine Le.atO (fun e => ?_)) | split)
noncomputable def e_slices_nextPowerOfTwo (n_ : Nat) : (Int × Unit) → Option (Int × Unit) := fun (length_1, _) =>
  (e_math_bits_Len n_ ((IntKind.u64.wrap length_1), ())).bind fun (r2, _) =>
  (shlO IntKind.u64 ((1) : Int) r2).bind fun y3 =>
  some (y3, ())
set_option maxHeartbeats 4000000 in
theorem le_slices_nextPowerOfTwo (n_ : Nat) (a : (Int × Unit)) : Le (e_slices_nextPowerOfTwo n_ a) (d_slices_nextPowerOfTwo a) := by
  unfold e_slices_nextPowerOfTwo d_slices_nextPowerOfTwo
  repeat' (first | with_reducible exact Le.refl _ | with_reducible exact le_math_bits_Len _ _ | (with_reducible refine Le.bind ?_ (fun y => ?_)) | (with_reducible refine Le.bif ?_ ?_) | (with_reducible refine Le.loop (fun s => ?_) _ _) | (with_reducible refine Le.atO (fun e => ?_)) | split)
noncomputable def e_slices_xorshift_Next (n_ : Nat) : (Int × Unit) → Option (Int × Int × Unit) := fun (r_1, _) =>
  (shlO IntKind.u64 r_1 ((13) : Int)).bind fun y2 =>
  (shrO IntKind.u64 (xorI IntKind.u64 r_1 y2) ((7) : Int)).bind fun y3 =>
  (shlO IntKind.u64 (xorI IntKind.u64 (xorI IntKind.u64 r_1 y2) y3) ((17) : Int)).bind fun y4 =>
  some ((xorI IntKind.u64 (xorI IntKind.u64 (xorI IntKind.u64 r_1 y2) y3) y4), (xorI IntKind.u64 (xorI IntKind.u64 (xorI IntKind.u64 r_1 y2) y3) y4), ())
set_option maxHeartbeats 4000000 in
theorem le_slices_xorshift_Next (n_ : Nat) (a : (Int × Unit)) : Le (e_slices_xorshift_Next n_ a) (d_slices_xorshift_Next a) := by
  unfold e_slices_xorshift_Next d_slices_xorshift_Next
  repeat' (first | with_reducible exact Le.refl _  | (with_reducible refine Le.bind ?_ (fun y => ?_)) | (with_reducible refine Le.bif ?_ ?_) | (with_reducible refine Le.loop (fun s => ?_) _ _) | (with_reducible refine Le.atO (fun e => ?_)) | split)
noncomputable def e_slices_breakPatternsOrdered_int (n_ : Nat) : ((List Int) × Int × Int × Unit) → Option ((List Int) × Unit) := fun (data_1, a_2, b_3, _) =>
  (bif (decide ((IntKind.i64.wrap (b_3 - a_2)) ≥ ((8) : Int))) then (
  (e_slices_nextPowerOfTwo n_ ((IntKind.i64.wrap (b_3 - a_2)), ())).bind fun (r4, _) =>
  (quoO IntKind.i64 (IntKind.i64.wrap (b_3 - a_2)) ((4) : Int)).bind fun y5 =>
  (loopN (σ := (Int × (List Int) × Int × Unit)) (ρ := ((List Int) × Unit)) (fun (idx_6, data_7, random_8, _) =>
  (quoO IntKind.i64 (IntKind.i64.wrap (b_3 - a_2)) ((4) : Int)).bind fun y9 =>
  (bif (decide (idx_6 ≤ (IntKind.i64.wrap ((IntKind.i64.wrap (a_2 + (IntKind.i64.wrap (y9 * ((2) : Int))))) + ((1) : Int))))) then (
  Option.bind (α := ((List Int) × Int × Unit)) (
  (e_slices_xorshift_Next n_ (random_8, ())).bind fun (m10, r11, _) =>
  Option.bind (α := (Int × (List Int) × Int × Unit)) (
  (bif (decide ((IntKind.i64.wrap (andI IntKind.u64 r11 (IntKind.u64.wrap (r4 - ((1) : Int))))) ≥ (IntKind.i64.wrap (b_3 - a_2)))) then (
  some ((IntKind.i64.wrap ((IntKind.i64.wrap (andI IntKind.u64 r11 (IntKind.u64.wrap (r4 - ((1) : Int))))) - (IntKind.i64.wrap (b_3 - a_2)))), data_7, m10, ())) else (
  some ((IntKind.i64.wrap (andI IntKind.u64 r11 (IntKind.u64.wrap (r4 - ((1) : Int))))), data_7, m10, ())))) fun (other_12, data_13, random_14, _) =>
  (idxN (data_13).length (IntKind.i64.wrap (a_2 + other_12))).bind fun k15 =>
  ((atO data_13 k15 fun e16 => some e16)).bind fun y17 =>
  (idxN (data_13).length idx_6).bind fun k18 =>
  ((atO data_13 k18 fun e19 => some e19)).bind fun y20 =>
  (idxN (data_13).length idx_6).bind fun k21 =>
  ((atO data_13 k21 fun _ => some ((data_13).set k21 y17))).bind fun z23 =>
  (idxN (z23).length (IntKind.i64.wrap (a_2 + other_12))).bind fun k24 =>
  ((atO z23 k24 fun _ => some ((z23).set k24 y20))).bind fun z26 =>
  some (z26, random_14, ())) fun (data_27, random_28, _) =>
  some (.inl ((IntKind.i64.wrap (idx_6 + ((1) : Int))), data_27, random_28, ()))) else (
  some (.inr (data_7, ()))))) n_ ((IntKind.i64.wrap ((IntKind.i64.wrap (a_2 + (IntKind.i64.wrap (y5 * ((2) : Int))))) - ((1) : Int))), data_1, (IntKind.u64.wrap (IntKind.i64.wrap (b_3 - a_2))), ())).bind fun (data_29, _) =>
  some (data_29, ())) else (
  some (data_1, ())))
set_option maxHeartbeats 4000000 in
theorem le_slices_breakPatternsOrdered_int (n_ : Nat) (a : ((List Int) × Int × Int × Unit)) : Le (e_slices_breakPatternsOrdered_int n_ a) (d_slices_breakPatternsOrdered_int a) := by
  unfold e_slices_breakPatternsOrdered_int d_slices_breakPatternsOrdered_int
  repeat' (first | with_reducible exact Le.refl _ | with_reducible exact le_slices_nextPowerOfTwo _ _ | with_reducible exact le_slices_xorshift_Next _ _ | (with_reducible refine Le.bind ?_ (fun y => ?_)) | (with_reducible refine Le.bif ?_ ?_) | (with_reducible refine Le.loop (fun s => ?_) _ _) | (with_reducible refine Le.atO (fun e => ?_)) | split)
noncomputable def e_slices_order2Ordered_int (n_ : Nat) : ((List Int) × Int × Int × Int × Unit) → Option (Int × Int × Int × Unit) := fun (data_1, a_2, b_3, swaps_4, _) =>
  (getI data_1 b_3).bind fun y5 =>
  (getI data_1 a_2).bind fun y6 =>
  (e_cmp_Less_int n_ (y5, y6, ())).bind fun (r7, _) =>
  (bif r7 then (
  some ((IntKind.i64.wrap (swaps_4 + ((1) : Int))), b_3, a_2, ())) else (
  some (swaps_4, a_2, b_3, ())))
set_option maxHeartbeats 4000000 in
theorem le_slices_order2Ordered_int (n_ : Nat) (a : ((List Int) × Int × Int × Int × Unit)) : Le (e_slices_order2Ordered_int n_ a) (d_slices_order2Ordered_int a) := by
  unfold e_slices_order2Ordered_int d_slices_order2Ordered_int
  repeat' (first | with_reducible exact Le.refl _ | with_reducible exact le_cmp_Less_int _ _ | (with_reducible refine Le.bind ?_ (fun y => ?_)) | (with_reducible refine Le.bif ?_ ?_) | (with_reducible refine Le.loop (fun s => ?_) _ _) | (with_reducible refine Le.atO (fun e => ?_)) | split)
noncomputable def e_slices_medianOrdered_int (n_ : Nat) : ((List Int) × Int × Int × Int × Int × Unit) → Option (Int × Int × Unit) := fun (data_1, a_2, b_3, c_4, swaps_5, _) =>
  (e_slices_order2Ordered_int n_ (data_1, a_2, b_3, swaps_5, ())).bind fun (m6, r7, r8, _) =>
  (e_slices_order2Ordered_int n_ (data_1, r8, c_4, m6, ())).bind fun (m9, r10, _, _) =>
  (e_slices_order2Ordered_int n_ (data_1, r7, r10, m9, ())).bind fun (m12, _, r14, _) =>
  some (m12, r14, ())
set_option maxHeartbeats 4000000 in
theorem le_slices_medianOrdered_int (n_ : Nat) (a : ((List Int) × Int × Int × Int × Int × Unit)) : Le (e_slices_medianOrdered_int n_ a) (d_slices_medianOrdered_int a) := by
  unfold e_slices_medianOrdered_int d_slices_medianOrdered_int
  repeat' (first | with_reducible exact Le.refl _ | with_reducible exact le_slices_order2Ordered_int _ _ | (with_reducible refine Le.bind ?_ (fun y => ?_)) | (with_reducible refine Le.bif ?_ ?_) | (with_reducible refine Le.loop (fun s => ?_) _ _) | (with_reducible refine Le.atO (fun e => ?_)) | split)
noncomputable def e_slices_medianAdjacentOrdered_int (n_ : Nat) : ((List Int) × Int × Int × Unit) → Option (Int × Int × Unit) := fun (data_1, a_2, swaps_3, _) =>
  (e_slices_medianOrdered_int n_ (data_1, (IntKind.i64.wrap (a_2 - ((1) : Int))), a_2, (IntKind.i64.wrap (a_2 + ((1) : Int))), swaps_3, ())).bind fun (m4, r5, _) =>
  some (m4, r5, ())
set_option maxHeartbeats 4000000 in
theorem le_slices_medianAdjacentOrdered_int (n_ : Nat) (a : ((List Int) × Int × Int × Unit)) : Le (e_slices_medianAdjacentOrdered_int n_ a) (d_slices_medianAdjacentOrdered_int a) := by
  unfold e_slices_medianAdjacentOrdered_int d_slices_medianAdjacentOrdered_int
  repeat' (first | with_reducible exact Le.refl _ | with_reducible exact le_slices_medianOrdered_int _ _ | (with_reducible refine Le.bind ?_ (fun y => ?_)) | (with_reducible refine Le.bif ?_ ?_) | (with_reducible refine Le.loop (fun s => ?_) _ _) | (with_reducible refine Le.atO (fun e => ?_)) | split)
noncomputable def e_slices_choosePivotOrdered_int (n_ : Nat) : ((List Int) × Int × Int × Unit) → Option (Int × Int × Unit) := fun (data_1, a_2, b_3, _) =>
  (quoO IntKind.i64 (IntKind.i64.wrap (b_3 - a_2)) ((4) : Int)).bind fun y4 =>
  (quoO IntKind.i64 (IntKind.i64.wrap (b_3 - a_2)) ((4) : Int)).bind fun y5 =>
  (quoO IntKind.i64 (IntKind.i64.wrap (b_3 - a_2)) ((4) : Int)).bind fun y6 =>
  Option.bind (α := (Int × Int × Unit)) (
  (bif (decide ((IntKind.i64.wrap (b_3 - a_2)) ≥ ((8) : Int))) then (
  Option.bind (α := (Int × Int × Int × Int × Unit)) (
  (bif (decide ((IntKind.i64.wrap (b_3 - a_2)) ≥ ((50) : Int))) then (
  (e_slices_medianAdjacentOrdered_int n_ (data_1, (IntKind.i64.wrap (a_2 + (IntKind.i64.wrap (y4 * ((1) : Int))))), (0 : Int), ())).bind fun (m7, r8, _) =>
  (e_slices_medianAdjacentOrdered_int n_ (data_1, (IntKind.i64.wrap (a_2 + (IntKind.i64.wrap (y5 * ((2) : Int))))), m7, ())).bind fun (m9, r10, _) =>
  (e_slices_medianAdjacentOrdered_int n_ (data_1, (IntKind.i64.wrap (a_2 + (IntKind.i64.wrap (y6 * ((3) : Int))))), m9, ())).bind fun (m11, r12, _) =>
  some (r8, r10, r12, m11, ())) else (
  some ((IntKind.i64.wrap (a_2 + (IntKind.i64.wrap (y4 * ((1) : Int))))), (IntKind.i64.wrap (a_2 + (IntKind.i64.wrap (y5 * ((2) : Int))))), (IntKind.i64.wrap (a_2 + (IntKind.i64.wrap (y6 * ((3) : Int))))), (0 : Int), ())))) fun (i_13, j_14, k_15, swaps_16, _) =>
  (e_slices_medianOrdered_int n_ (data_1, i_13, j_14, k_15, swaps_16, ())).bind fun (m17, r18, _) =>
  some (r18, m17, ())) else (
  some ((IntKind.i64.wrap (a_2 + (IntKind.i64.wrap (y5 * ((2) : Int))))), (0 : Int), ())))) fun (j_19, swaps_20, _) =>
  (bif (swaps_20 == ((0) : Int)) then (
  some (j_19, ((1) : Int), ())) else (
  (bif (swaps_20 == ((12) : Int)) then (
  some (j_19, ((2) : Int), ())) else (
  some (j_19, ((0) : Int), ())))))
set_option maxHeartbeats 4000000 in
theorem le_slices_choosePivotOrdered_int (n_ : Nat) (a : ((List Int) × Int × Int × Unit)) : Le (e_slices_choosePivotOrdered_int n_ a) (d_slices_choosePivotOrdered_int a) := by
  unfold e_slices_choosePivotOrdered_int d_slices_choosePivotOrdered_int
  repeat' (first | with_reducible exact Le.refl _ | with_reducible exact le_slices_medianAdjacentOrdered_int _ _ | with_reducible exact le_slices_medianOrdered_int _ _ | (with_reducible refine Le.bind ?_ (fun y => ?_)) | (with_reducible refine Le.bif ?_ ?_) | (with_reducible refine Le.loop (fun s => ?_) _ _) | (with_reducible refine Le.atO (fun e => ?_)) | split)
noncomputable def e_slices_reverseRangeOrdered_int (n_ : Nat) : ((List Int) × Int × Int × Unit) → Option ((List Int) × Unit) := fun (data_1, a_2, b_3, _) =>
  (loopN (σ := (Int × Int × (List Int) × Unit)) (ρ := ((List Int) × Unit)) (fun (i_4, j_5, data_6, _) =>
  (bif (decide (i_4 < j_5)) then (
  (idxN (data_6).length j_5).bind fun k7 =>
  ((atO data_6 k7 fun e8 => some e8)).bind fun y9 =>
  (idxN (data_6).length i_4).bind fun k10 =>
  ((atO data_6 k10 fun e11 => some e11)).bind fun y12 =>
  (idxN (data_6).length i_4).bind fun k13 =>
  ((atO data_6 k13 fun _ => some ((data_6).set k13 y9))).bind fun z15 =>
  (idxN (z15).length j_5).bind fun k16 =>
  ((atO z15 k16 fun _ => some ((z15).set k16 y12))).bind fun z18 =>
  some (.inl ((IntKind.i64.wrap (i_4 + ((1) : Int))), (IntKind.i64.wrap (j_5 - ((1) : Int))), z18, ()))) else (
  some (.inr (data_6, ()))))) n_ (a_2, (IntKind.i64.wrap (b_3 - ((1) : Int))), data_1, ())).bind fun (data_19, _) =>
  some (data_19, ())
set_option maxHeartbeats 4000000 in
theorem le_slices_reverseRangeOrdered_int (n_ : Nat) (a : ((List Int) × Int × Int × Unit)) : Le (e_slices_reverseRangeOrdered_int n_ a) (d_slices_reverseRangeOrdered_int a) := by
  unfold e_slices_reverseRangeOrdered_int d_slices_reverseRangeOrdered_int
  repeat' (first | with_reducible exact Le.refl _  | (with_reducible refine Le.bind ?_ (fun y => ?_)) | (with_reducible refine Le.bif ?_ ?_) | (with_reducible refine Le.loop (fun s => ?_) _ _) | (with_reducible refine Le.atO (fun e => ?_)) | split)
noncomputable def e_slices_partialInsertionSortOrdered_int (n_ : Nat) : ((List Int) × Int × Int × Unit) → Option ((List Int) × Bool × Unit) := fun (data_1, a_2, b_3, _) =>
  (loopN (σ := (Int × Int × (List Int) × Unit)) (ρ := (((List Int) × Unit) ⊕ ((List Int) × Bool × Unit))) (fun (i_4, j_5, data_6, _) =>
  (bif (decide (j_5 < ((5) : Int))) then (
  Option.bind (α := (Int × (List Int) × Unit) ⊕ ((Int × Int × (List Int) × Unit) ⊕ (((List Int) × Unit) ⊕ ((List Int) × Bool × Unit)))) (
  (loopN (σ := (Int × (List Int) × Unit)) (ρ := (Int × (List Int) × Unit)) (fun (i_7, data_8, _) =>
  Option.bind (α := ((List Int) × Unit) ⊕ ((Int × (List Int) × Unit) ⊕ (Int × (List Int) × Unit))) (
  (bif ((decide (i_7 < b_3)) == true) then ((idxN (data_8).length i_7).bind fun k9 =>
  ((atO data_8 k9 fun e10 => some e10)).bind fun y11 =>
  (idxN (data_8).length (IntKind.i64.wrap (i_7 - ((1) : Int)))).bind fun k12 =>
  ((atO data_8 k12 fun e13 => some e13)).bind fun y14 =>
  (e_cmp_Less_int n_ (y11, y14, ())).bind fun (r15, _) =>
  (bif (!r15) then (
  some (.inl (data_8, ()))) else (
  some (.inr (.inr (i_7, data_8, ())))))) else (some (.inr (.inr (i_7, data_8, ())))))) fun q => match q with
  | .inl (data_16, _) => (
  some (.inl ((IntKind.i64.wrap (i_7 + ((1) : Int))), data_16, ())))
  | .inr r => some r) n_ (i_4, data_6, ())).bind fun (i_17, data_18, _) =>
  (bif (i_17 == b_3) then (
  some (.inr (.inr (.inr (data_18, true, ()))))) else (
  (bif (decide ((IntKind.i64.wrap (b_3 - a_2)) < ((50) : Int))) then (
  some (.inr (.inr (.inr (data_18, false, ()))))) else (
  (idxN (data_18).length (IntKind.i64.wrap (i_17 - ((1) : Int)))).bind fun k19 =>
  ((atO data_18 k19 fun e20 => some e20)).bind fun y21 =>
  (idxN (data_18).length i_17).bind fun k22 =>
  ((atO data_18 k22 fun e23 => some e23)).bind fun y24 =>
  (idxN (data_18).length i_17).bind fun k25 =>
  ((atO data_18 k25 fun _ => some ((data_18).set k25 y21))).bind fun z27 =>
  (idxN (z27).length (IntKind.i64.wrap (i_17 - ((1) : Int)))).bind fun k28 =>
  ((atO z27 k28 fun _ => some ((z27).set k28 y24))).bind fun z30 =>
  Option.bind (α := ((List Int) × Unit)) (
  (bif (decide ((IntKind.i64.wrap (i_17 - a_2)) ≥ ((2) : Int))) then (
  (loopN (σ := (Int × (List Int) × Unit)) (ρ := ((List Int) × Unit)) (fun (j_31, data_32, _) =>
  (bif (decide (j_31 ≥ ((1) : Int))) then (
  (idxN (data_32).length j_31).bind fun k33 =>
  ((atO data_32 k33 fun e34 => some e34)).bind fun y35 =>
  (idxN (data_32).length (IntKind.i64.wrap (j_31 - ((1) : Int)))).bind fun k36 =>
  ((atO data_32 k36 fun e37 => some e37)).bind fun y38 =>
  (e_cmp_Less_int n_ (y35, y38, ())).bind fun (r39, _) =>
  (bif (!r39) then (
  some (.inr (data_32, ()))) else (
  (idxN (data_32).length (IntKind.i64.wrap (j_31 - ((1) : Int)))).bind fun k40 =>
  ((atO data_32 k40 fun e41 => some e41)).bind fun y42 =>
  (idxN (data_32).length j_31).bind fun k43 =>
  ((atO data_32 k43 fun e44 => some e44)).bind fun y45 =>
  (idxN (data_32).length j_31).bind fun k46 =>
  ((atO data_32 k46 fun _ => some ((data_32).set k46 y42))).bind fun z48 =>
  (idxN (z48).length (IntKind.i64.wrap (j_31 - ((1) : Int)))).bind fun k49 =>
  ((atO z48 k49 fun _ => some ((z48).set k49 y45))).bind fun z51 =>
  some (.inl ((IntKind.i64.wrap (j_31 - ((1) : Int))), z51, ()))))) else (
  some (.inr (data_32, ()))))) n_ ((IntKind.i64.wrap (i_17 - ((1) : Int))), z30, ())).bind fun (data_52, _) =>
  some (data_52, ())) else (
  some (z30, ())))) fun (data_53, _) =>
  (bif (decide ((IntKind.i64.wrap (b_3 - i_17)) ≥ ((2) : Int))) then (
  (loopN (σ := (Int × (List Int) × Unit)) (ρ := ((List Int) × Unit)) (fun (j_54, data_55, _) =>
  (bif (decide (j_54 < b_3)) then (
  (idxN (data_55).length j_54).bind fun k56 =>
  ((atO data_55 k56 fun e57 => some e57)).bind fun y58 =>
  (idxN (data_55).length (IntKind.i64.wrap (j_54 - ((1) : Int)))).bind fun k59 =>
  ((atO data_55 k59 fun e60 => some e60)).bind fun y61 =>
  (e_cmp_Less_int n_ (y58, y61, ())).bind fun (r62, _) =>
  (bif (!r62) then (
  some (.inr (data_55, ()))) else (
  (idxN (data_55).length (IntKind.i64.wrap (j_54 - ((1) : Int)))).bind fun k63 =>
  ((atO data_55 k63 fun e64 => some e64)).bind fun y65 =>
  (idxN (data_55).length j_54).bind fun k66 =>
  ((atO data_55 k66 fun e67 => some e67)).bind fun y68 =>
  (idxN (data_55).length j_54).bind fun k69 =>
  ((atO data_55 k69 fun _ => some ((data_55).set k69 y65))).bind fun z71 =>
  (idxN (z71).length (IntKind.i64.wrap (j_54 - ((1) : Int)))).bind fun k72 =>
  ((atO z71 k72 fun _ => some ((z71).set k72 y68))).bind fun z74 =>
  some (.inl ((IntKind.i64.wrap (j_54 + ((1) : Int))), z74, ()))))) else (
  some (.inr (data_55, ()))))) n_ ((IntKind.i64.wrap (i_17 + ((1) : Int))), data_53, ())).bind fun (data_75, _) =>
  some (.inl (i_17, data_75, ()))) else (
  some (.inl (i_17, data_53, ()))))))))) fun q => match q with
  | .inl (i_76, data_77, _) => (
  some (.inl (i_76, (IntKind.i64.wrap (j_5 + ((1) : Int))), data_77, ())))
  | .inr r => some r) else (
  some (.inr (.inl (data_6, ())))))) n_ ((IntKind.i64.wrap (a_2 + ((1) : Int))), ((0) : Int), data_1, ())).bind fun q => match q with
  | .inl (data_78, _) => (
  some (data_78, false, ()))
  | .inr r => some r
set_option maxHeartbeats 4000000 in
theorem le_slices_partialInsertionSortOrdered_int (n_ : Nat) (a : ((List Int) × Int × Int × Unit)) : Le (e_slices_partialInsertionSortOrdered_int n_ a) (d_slices_partialInsertionSortOrdered_int a) := by
  unfold e_slices_partialInsertionSortOrdered_int d_slices_partialInsertionSortOrdered_int
  repeat' (first | with_reducible exact Le.refl _ | with_reducible exact le_cmp_Less_int _ _ | (with_reducible refine Le.bind ?_ (fun y => ?_)) | (with_reducible refine Le.bif ?_ ?_) | (with_reducible refine Le.loop (fun s => ?_) _ _) | (with_reducible refine Le.atO (fun e => ?_)) | split)
noncomputable def e_slices_partitionEqualOrdered_int (n_ : Nat) : ((List Int) × Int × Int × Int × Unit) → Option ((List Int) × Int × Unit) := fun (data_1, a_2, b_3, pivot_4, _) =>
  (idxN (data_1).length pivot_4).bind fun k5 =>
  ((atO data_1 k5 fun e6 => some e6)).bind fun y7 =>
  (idxN (data_1).length a_2).bind fun k8 =>
  ((atO data_1 k8 fun e9 => some e9)).bind fun y10 =>
  (idxN (data_1).length a_2).bind fun k11 =>
  ((atO data_1 k11 fun _ => some ((data_1).set k11 y7))).bind fun z13 =>
  (idxN (z13).length pivot_4).bind fun k14 =>
  ((atO z13 k14 fun _ => some ((z13).set k14 y10))).bind fun z16 =>
  (loopN (σ := (Int × Int × (List Int) × Unit)) (ρ := (Int × (List Int) × Unit)) (fun (i_17, j_18, data_19, _) =>
  (loopN (σ := (Int × (List Int) × Unit)) (ρ := (Int × (List Int) × Unit)) (fun (i_20, data_21, _) =>
  Option.bind (α := ((List Int) × Unit) ⊕ ((Int × (List Int) × Unit) ⊕ (Int × (List Int) × Unit))) (
  (bif ((decide (i_20 ≤ j_18)) == true) then ((idxN (data_21).length a_2).bind fun k22 =>
  ((atO data_21 k22 fun e23 => some e23)).bind fun y24 =>
  (idxN (data_21).length i_20).bind fun k25 =>
  ((atO data_21 k25 fun e26 => some e26)).bind fun y27 =>
  (e_cmp_Less_int n_ (y24, y27, ())).bind fun (r28, _) =>
  (bif (!r28) then (
  some (.inl (data_21, ()))) else (
  some (.inr (.inr (i_20, data_21, ())))))) else (some (.inr (.inr (i_20, data_21, ())))))) fun q => match q with
  | .inl (data_29, _) => (
  some (.inl ((IntKind.i64.wrap (i_20 + ((1) : Int))), data_29, ())))
  | .inr r => some r) n_ (i_17, data_19, ())).bind fun (i_30, data_31, _) =>
  (loopN (σ := (Int × (List Int) × Unit)) (ρ := (Int × (List Int) × Unit)) (fun (j_32, data_33, _) =>
  Option.bind (α := ((List Int) × Unit) ⊕ ((Int × (List Int) × Unit) ⊕ (Int × (List Int) × Unit))) (
  (bif ((decide (i_30 ≤ j_32)) == true) then ((idxN (data_33).length a_2).bind fun k34 =>
  ((atO data_33 k34 fun e35 => some e35)).bind fun y36 =>
  (idxN (data_33).length j_32).bind fun k37 =>
  ((atO data_33 k37 fun e38 => some e38)).bind fun y39 =>
  (e_cmp_Less_int n_ (y36, y39, ())).bind fun (r40, _) =>
  (bif r40 then (
  some (.inl (data_33, ()))) else (
  some (.inr (.inr (j_32, data_33, ())))))) else (some (.inr (.inr (j_32, data_33, ())))))) fun q => match q with
  | .inl (data_41, _) => (
  some (.inl ((IntKind.i64.wrap (j_32 - ((1) : Int))), data_41, ())))
  | .inr r => some r) n_ (j_18, data_31, ())).bind fun (j_42, data_43, _) =>
  (bif (decide (i_30 > j_42)) then (
  some (.inr (i_30, data_43, ()))) else (
  (idxN (data_43).length j_42).bind fun k44 =>
  ((atO data_43 k44 fun e45 => some e45)).bind fun y46 =>
  (idxN (data_43).length i_30).bind fun k47 =>
  ((atO data_43 k47 fun e48 => some e48)).bind fun y49 =>
  (idxN (data_43).length i_30).bind fun k50 =>
  ((atO data_43 k50 fun _ => some ((data_43).set k50 y46))).bind fun z52 =>
  (idxN (z52).length j_42).bind fun k53 =>
  ((atO z52 k53 fun _ => some ((z52).set k53 y49))).bind fun z55 =>
  some (.inl ((IntKind.i64.wrap (i_30 + ((1) : Int))), (IntKind.i64.wrap (j_42 - ((1) : Int))), z55, ()))))) n_ ((IntKind.i64.wrap (a_2 + ((1) : Int))), (IntKind.i64.wrap (b_3 - ((1) : Int))), z16, ())).bind fun (i_56, data_57, _) =>
  some (data_57, i_56, ())
set_option maxHeartbeats 4000000 in
theorem le_slices_partitionEqualOrdered_int (n_ : Nat) (a : ((List Int) × Int × Int × Int × Unit)) : Le (e_slices_partitionEqualOrdered_int n_ a) (d_slices_partitionEqualOrdered_int a) := by
  unfold e_slices_partitionEqualOrdered_int d_slices_partitionEqualOrdered_int
  repeat' (first | with_reducible exact Le.refl _ | with_reducible exact le_cmp_Less_int _ _ | (with_reducible refine Le.bind ?_ (fun y => ?_)) | (with_reducible refine Le.bif ?_ ?_) | (with_reducible refine Le.loop (fun s => ?_) _ _) | (with_reducible refine Le.atO (fun e => ?_)) | split)
noncomputable def e_slices_partitionOrdered_int (n_ : Nat) : ((List Int) × Int × Int × Int × Unit) → Option ((List Int) × Int × Bool × Unit) := fun (data_1, a_2, b_3, pivot_4, _) =>
  (idxN (data_1).length pivot_4).bind fun k5 =>
  ((atO data_1 k5 fun e6 => some e6)).bind fun y7 =>
  (idxN (data_1).length a_2).bind fun k8 =>
  ((atO data_1 k8 fun e9 => some e9)).bind fun y10 =>
  (idxN (data_1).length a_2).bind fun k11 =>
  ((atO data_1 k11 fun _ => some ((data_1).set k11 y7))).bind fun z13 =>
  (idxN (z13).length pivot_4).bind fun k14 =>
  ((atO z13 k14 fun _ => some ((z13).set k14 y10))).bind fun z16 =>
  (loopN (σ := (Int × (List Int) × Unit)) (ρ := (Int × (List Int) × Unit)) (fun (i_17, data_18, _) =>
  Option.bind (α := ((List Int) × Unit) ⊕ ((Int × (List Int) × Unit) ⊕ (Int × (List Int) × Unit))) (
  (bif ((decide (i_17 ≤ (IntKind.i64.wrap (b_3 - ((1) : Int))))) == true) then ((idxN (data_18).length i_17).bind fun k19 =>
  ((atO data_18 k19 fun e20 => some e20)).bind fun y21 =>
  (idxN (data_18).length a_2).bind fun k22 =>
  ((atO data_18 k22 fun e23 => some e23)).bind fun y24 =>
  (e_cmp_Less_int n_ (y21, y24, ())).bind fun (r25, _) =>
  (bif r25 then (
  some (.inl (data_18, ()))) else (
  some (.inr (.inr (i_17, data_18, ())))))) else (some (.inr (.inr (i_17, data_18, ())))))) fun q => match q with
  | .inl (data_26, _) => (
  some (.inl ((IntKind.i64.wrap (i_17 + ((1) : Int))), data_26, ())))
  | .inr r => some r) n_ ((IntKind.i64.wrap (a_2 + ((1) : Int))), z16, ())).bind fun (i_27, data_28, _) =>
  (loopN (σ := (Int × (List Int) × Unit)) (ρ := (Int × (List Int) × Unit)) (fun (j_29, data_30, _) =>
  Option.bind (α := ((List Int) × Unit) ⊕ ((Int × (List Int) × Unit) ⊕ (Int × (List Int) × Unit))) (
  (bif ((decide (i_27 ≤ j_29)) == true) then ((idxN (data_30).length j_29).bind fun k31 =>
  ((atO data_30 k31 fun e32 => some e32)).bind fun y33 =>
  (idxN (data_30).length a_2).bind fun k34 =>
  ((atO data_30 k34 fun e35 => some e35)).bind fun y36 =>
  (e_cmp_Less_int n_ (y33, y36, ())).bind fun (r37, _) =>
  (bif (!r37) then (
  some (.inl (data_30, ()))) else (
  some (.inr (.inr (j_29, data_30, ())))))) else (some (.inr (.inr (j_29, data_30, ())))))) fun q => match q with
  | .inl (data_38, _) => (
  some (.inl ((IntKind.i64.wrap (j_29 - ((1) : Int))), data_38, ())))
  | .inr r => some r) n_ ((IntKind.i64.wrap (b_3 - ((1) : Int))), data_28, ())).bind fun (j_39, data_40, _) =>
  (bif (decide (i_27 > j_39)) then (
  (idxN (data_40).length a_2).bind fun k41 =>
  ((atO data_40 k41 fun e42 => some e42)).bind fun y43 =>
  (idxN (data_40).length j_39).bind fun k44 =>
  ((atO data_40 k44 fun e45 => some e45)).bind fun y46 =>
  (idxN (data_40).length j_39).bind fun k47 =>
  ((atO data_40 k47 fun _ => some ((data_40).set k47 y43))).bind fun z49 =>
  (idxN (z49).length a_2).bind fun k50 =>
  ((atO z49 k50 fun _ => some ((z49).set k50 y46))).bind fun z52 =>
  some (z52, j_39, true, ())) else (
  (idxN (data_40).length j_39).bind fun k53 =>
  ((atO data_40 k53 fun e54 => some e54)).bind fun y55 =>
  (idxN (data_40).length i_27).bind fun k56 =>
  ((atO data_40 k56 fun e57 => some e57)).bind fun y58 =>
  (idxN (data_40).length i_27).bind fun k59 =>
  ((atO data_40 k59 fun _ => some ((data_40).set k59 y55))).bind fun z61 =>
  (idxN (z61).length j_39).bind fun k62 =>
  ((atO z61 k62 fun _ => some ((z61).set k62 y58))).bind fun z64 =>
  (loopN (σ := (Int × Int × (List Int) × Unit)) (ρ := (Int × (List Int) × Unit)) (fun (i_65, j_66, data_67, _) =>
  (loopN (σ := (Int × (List Int) × Unit)) (ρ := (Int × (List Int) × Unit)) (fun (i_68, data_69, _) =>
  Option.bind (α := ((List Int) × Unit) ⊕ ((Int × (List Int) × Unit) ⊕ (Int × (List Int) × Unit))) (
  (bif ((decide (i_68 ≤ j_66)) == true) then ((idxN (data_69).length i_68).bind fun k70 =>
  ((atO data_69 k70 fun e71 => some e71)).bind fun y72 =>
  (idxN (data_69).length a_2).bind fun k73 =>
  ((atO data_69 k73 fun e74 => some e74)).bind fun y75 =>
  (e_cmp_Less_int n_ (y72, y75, ())).bind fun (r76, _) =>
  (bif r76 then (
  some (.inl (data_69, ()))) else (
  some (.inr (.inr (i_68, data_69, ())))))) else (some (.inr (.inr (i_68, data_69, ())))))) fun q => match q with
  | .inl (data_77, _) => (
  some (.inl ((IntKind.i64.wrap (i_68 + ((1) : Int))), data_77, ())))
  | .inr r => some r) n_ (i_65, data_67, ())).bind fun (i_78, data_79, _) =>
  (loopN (σ := (Int × (List Int) × Unit)) (ρ := (Int × (List Int) × Unit)) (fun (j_80, data_81, _) =>
  Option.bind (α := ((List Int) × Unit) ⊕ ((Int × (List Int) × Unit) ⊕ (Int × (List Int) × Unit))) (
  (bif ((decide (i_78 ≤ j_80)) == true) then ((idxN (data_81).length j_80).bind fun k82 =>
  ((atO data_81 k82 fun e83 => some e83)).bind fun y84 =>
  (idxN (data_81).length a_2).bind fun k85 =>
  ((atO data_81 k85 fun e86 => some e86)).bind fun y87 =>
  (e_cmp_Less_int n_ (y84, y87, ())).bind fun (r88, _) =>
  (bif (!r88) then (
  some (.inl (data_81, ()))) else (
  some (.inr (.inr (j_80, data_81, ())))))) else (some (.inr (.inr (j_80, data_81, ())))))) fun q => match q with
  | .inl (data_89, _) => (
  some (.inl ((IntKind.i64.wrap (j_80 - ((1) : Int))), data_89, ())))
  | .inr r => some r) n_ (j_66, data_79, ())).bind fun (j_90, data_91, _) =>
  (bif (decide (i_78 > j_90)) then (
  some (.inr (j_90, data_91, ()))) else (
  (idxN (data_91).length j_90).bind fun k92 =>
  ((atO data_91 k92 fun e93 => some e93)).bind fun y94 =>
  (idxN (data_91).length i_78).bind fun k95 =>
  ((atO data_91 k95 fun e96 => some e96)).bind fun y97 =>
  (idxN (data_91).length i_78).bind fun k98 =>
  ((atO data_91 k98 fun _ => some ((data_91).set k98 y94))).bind fun z100 =>
  (idxN (z100).length j_90).bind fun k101 =>
  ((atO z100 k101 fun _ => some ((z100).set k101 y97))).bind fun z103 =>
  some (.inl ((IntKind.i64.wrap (i_78 + ((1) : Int))), (IntKind.i64.wrap (j_90 - ((1) : Int))), z103, ()))))) n_ ((IntKind.i64.wrap (i_27 + ((1) : Int))), (IntKind.i64.wrap (j_39 - ((1) : Int))), z64, ())).bind fun (j_104, data_105, _) =>
  (idxN (data_105).length a_2).bind fun k106 =>
  ((atO data_105 k106 fun e107 => some e107)).bind fun y108 =>
  (idxN (data_105).length j_104).bind fun k109 =>
  ((atO data_105 k109 fun e110 => some e110)).bind fun y111 =>
  (idxN (data_105).length j_104).bind fun k112 =>
  ((atO data_105 k112 fun _ => some ((data_105).set k112 y108))).bind fun z114 =>
  (idxN (z114).length a_2).bind fun k115 =>
  ((atO z114 k115 fun _ => some ((z114).set k115 y111))).bind fun z117 =>
  some (z117, j_104, false, ())))
set_option maxHeartbeats 4000000 in
theorem le_slices_partitionOrdered_int (n_ : Nat) (a : ((List Int) × Int × Int × Int × Unit)) : Le (e_slices_partitionOrdered_int n_ a) (d_slices_partitionOrdered_int a) := by
  unfold e_slices_partitionOrdered_int d_slices_partitionOrdered_int
  repeat' (first | with_reducible exact Le.refl _ | with_reducible exact le_cmp_Less_int _ _ | (with_reducible refine Le.bind ?_ (fun y => ?_)) | (with_reducible refine Le.bif ?_ ?_) | (with_reducible refine Le.loop (fun s => ?_) _ _) | (with_reducible refine Le.atO (fun e => ?_)) | split)
noncomputable def e_slices_pdqsortOrdered_intq_s (n_ : Nat) (f_ : ((List Int) × Int × Int × Int × Unit) → Option ((List Int) × Unit)) : ((List Int) × Int × Int × Int × Unit) → Option ((List Int) × Unit) := fun (data_1, a_2, b_3, limit_4, _) =>
  (loopN (σ := (Int × Int × Int × Bool × Bool × (List Int) × Unit)) (ρ := ((List Int) × Unit)) (fun (a_5, b_6, limit_7, wasBalanced_8, wasPartitioned_9, data_10, _) =>
  (bif (decide ((IntKind.i64.wrap (b_6 - a_5)) ≤ ((12) : Int))) then (
  (e_slices_insertionSortOrdered_int n_ (data_10, a_5, b_6, ())).bind fun (m11, _) =>
  some (.inr (m11, ()))) else (
  (bif (limit_7 == ((0) : Int)) then (
  (e_slices_heapSortOrdered_int n_ (data_10, a_5, b_6, ())).bind fun (m12, _) =>
  some (.inr (m12, ()))) else (
  Option.bind (α := (Int × (List Int) × Unit)) (
  (bif (!wasBalanced_8) then (
  (e_slices_breakPatternsOrdered_int n_ (data_10, a_5, b_6, ())).bind fun (m13, _) =>
  some ((IntKind.i64.wrap (limit_7 - ((1) : Int))), m13, ())) else (
  some (limit_7, data_10, ())))) fun (limit_14, data_15, _) =>
  (e_slices_choosePivotOrdered_int n_ (data_15, a_5, b_6, ())).bind fun (r16, r17, _) =>
  Option.bind (α := (Int × Int × (List Int) × Unit)) (
  (bif (r17 == ((2) : Int)) then (
  (e_slices_reverseRangeOrdered_int n_ (data_15, a_5, b_6, ())).bind fun (m18, _) =>
  some ((IntKind.i64.wrap ((IntKind.i64.wrap (b_6 - ((1) : Int))) - (IntKind.i64.wrap (r16 - a_5)))), ((1) : Int), m18, ())) else (
  some (r16, r17, data_15, ())))) fun (pivot_19, hint_20, data_21, _) =>
  Option.bind (α := ((List Int) × Unit) ⊕ ((Int × Int × Int × Bool × Bool × (List Int) × Unit) ⊕ ((List Int) × Unit))) (
  Option.bind (α := (Bool × (List Int) × Unit)) (
  (bif (wasBalanced_8 == true) then ((bif (wasPartitioned_9 == true) then (some ((hint_20 == ((1) : Int)), data_21, ())) else (some (false, data_21, ())))) else (some (false, data_21, ())))) fun (s_22, data_23, _) =>
  (bif s_22 then (
  (e_slices_partialInsertionSortOrdered_int n_ (data_23, a_5, b_6, ())).bind fun (m24, r25, _) =>
  (bif r25 then (
  some (.inr (.inr (m24, ())))) else (
  some (.inl (m24, ()))))) else (
  some (.inl (data_23, ()))))) fun q => match q with
  | .inl (data_26, _) => (
  Option.bind (α := (Int × (List Int) × Unit) ⊕ ((Int × Int × Int × Bool × Bool × (List Int) × Unit) ⊕ ((List Int) × Unit))) (
  Option.bind (α := (Bool × (List Int) × Unit)) (
  (bif ((decide (a_5 > ((0) : Int))) == true) then ((idxN (data_26).length (IntKind.i64.wrap (a_5 - ((1) : Int)))).bind fun k27 =>
  ((atO data_26 k27 fun e28 => some e28)).bind fun y29 =>
  (idxN (data_26).length pivot_19).bind fun k30 =>
  ((atO data_26 k30 fun e31 => some e31)).bind fun y32 =>
  (e_cmp_Less_int n_ (y29, y32, ())).bind fun (r33, _) =>
  some ((!r33), data_26, ())) else (some (false, data_26, ())))) fun (s_34, data_35, _) =>
  (bif s_34 then (
  (e_slices_partitionEqualOrdered_int n_ (data_35, a_5, b_6, pivot_19, ())).bind fun (m36, r37, _) =>
  some (.inr (.inl (r37, b_6, limit_14, wasBalanced_8, wasPartitioned_9, m36, ())))) else (
  some (.inl (a_5, data_35, ()))))) fun q => match q with
  | .inl (a_38, data_39, _) => (
  (e_slices_partitionOrdered_int n_ (data_39, a_38, b_6, pivot_19, ())).bind fun (m40, r41, r42, _) =>
  (quoO IntKind.i64 (IntKind.i64.wrap (b_6 - a_5)) ((8) : Int)).bind fun y43 =>
  (bif (decide ((IntKind.i64.wrap (r41 - a_38)) < (IntKind.i64.wrap (b_6 - r41)))) then (
  (f_ (m40, a_38, r41, limit_14, ())).bind fun (m44, _) =>
  some (.inl ((IntKind.i64.wrap (r41 + ((1) : Int))), b_6, limit_14, (decide ((IntKind.i64.wrap (r41 - a_38)) ≥ y43)), r42, m44, ()))) else (
  (f_ (m40, (IntKind.i64.wrap (r41 + ((1) : Int))), b_6, limit_14, ())).bind fun (m45, _) =>
  some (.inl (a_38, r41, limit_14, (decide ((IntKind.i64.wrap (b_6 - r41)) ≥ y43)), r42, m45, ())))))
  | .inr r => some r)
  | .inr r => some r))))) n_ (a_2, b_3, limit_4, true, true, data_1, ())).bind some
set_option maxHeartbeats 4000000 in
theorem le_slices_pdqsortOrdered_intq_s (n_ : Nat) (f_ fb_ : ((List Int) × Int × Int × Int × Unit) → Option ((List Int) × Unit)) (h_ : ∀ a, Le (f_ a) (fb_ a)) (a : ((List Int) × Int × Int × Int × Unit)) : Le (e_slices_pdqsortOrdered_intq_s n_ f_ a) (r_slices_pdqsortOrdered_intq_s fb_ a) := by
  unfold e_slices_pdqsortOrdered_intq_s r_slices_pdqsortOrdered_intq_s
  repeat' (first | with_reducible exact Le.refl _ | with_reducible exact le_cmp_Less_int _ _ | with_reducible exact le_slices_insertionSortOrdered_int _ _ | with_reducible exact le_slices_heapSortOrdered_int _ _ | with_reducible exact le_slices_breakPatternsOrdered_int _ _ | with_reducible exact le_slices_choosePivotOrdered_int _ _ | with_reducible exact le_slices_reverseRangeOrdered_int _ _ | with_reducible exact le_slices_partialInsertionSortOrdered_int _ _ | with_reducible exact le_slices_partitionEqualOrdered_int _ _ | with_reducible exact le_slices_partitionOrdered_int _ _ | with_reducible exact h_ _ | (with_reducible refine Le.bind ?_ (fun y => ?_)) | (with_reducible refine Le.bif ?_ ?_) | (with_reducible refine Le.loop (fun s => ?_) _ _) | (with_reducible refine Le.atO (fun e => ?_)) | split)
noncomputable def e_slices_pdqsortOrdered_int (n_ : Nat) : ((List Int) × Int × Int × Int × Unit) → Option ((List Int) × Unit) := deep (e_slices_pdqsortOrdered_intq_s n_) n_
theorem le_slices_pdqsortOrdered_int (n_ : Nat) (a : ((List Int) × Int × Int × Int × Unit)) : Le (e_slices_pdqsortOrdered_int n_ a) (d_slices_pdqsortOrdered_int a) := Le.deep (le_slices_pdqsortOrdered_intq_s n_) r_slices_pdqsortOrdered_intq_mono n_ a
noncomputable def e_slices_Sort_int_int (n_ : Nat) : ((List Int) × Unit) → Option ((List Int) × Unit) := fun (x_1, _) =>
  (e_math_bits_Len n_ ((IntKind.u64.wrap (((x_1).length : Nat) : Int)), ())).bind fun (r2, _) =>
  (e_slices_pdqsortOrdered_int n_ (x_1, ((0) : Int), (((x_1).length : Nat) : Int), r2, ())).bind fun (m3, _) =>
  some (m3, ())
set_option maxHeartbeats 4000000 in
theorem le_slices_Sort_int_int (n_ : Nat) (a : ((List Int) × Unit)) : Le (e_slices_Sort_int_int n_ a) (d_slices_Sort_int_int a) := by
  unfold e_slices_Sort_int_int d_slices_Sort_int_int
  repeat' (first | with_reducible exact Le.refl _ | with_reducible exact le_slices_pdqsortOrdered_int _ _ | with_reducible exact le_math_bits_Len _ _ | (with_reducible refine Le.bind ?_ (fun y => ?_)) | (with_reducible refine Le.bif ?_ ?_) | (with_reducible refine Le.loop (fun s => ?_) _ _) | (with_reducible refine Le.atO (fun e => ?_)) | split)
noncomputable def e_graph_twice (n_ : Nat) : List Int × Unit → Option (Bool × Unit) := fun a => (twSem (fun l => (e_slices_Sort_int_int n_ (l, ())).map fun r => r.1) a.1).map fun b => (b, ())
theorem le_graph_twice (n_ : Nat) (a : List Int × Unit) : Le (e_graph_twice n_ a) (d_graph_twice a) := twSem_le (fun l => le_slices_Sort_int_int n_ (l, ())) a
noncomputable def e_graph_Permuted_1q_q0 (n_ : Nat) : (Int × (Option ((List (List Int)) × Unit)) × Unit) → Option (Bool × Unit) := fun (v_1, p_2, _) =>
  (p_2).bind fun y3 =>
  (e_graph_vertex n_ (y3, v_1, ())).bind fun (r4, _) =>
  some ((!r4), ())
set_option maxHeartbeats 4000000 in
theorem le_graph_Permuted_1q_q0 (n_ : Nat) (a : (Int × (Option ((List (List Int)) × Unit)) × Unit)) : Le (e_graph_Permuted_1q_q0 n_ a) (d_graph_Permuted_1q_q0 a) := by
  unfold e_graph_Permuted_1q_q0 d_graph_Permuted_1q_q0
  repeat' (first | with_reducible exact Le.refl _ | with_reducible exact le_graph_vertex _ _ | (with_reducible refine Le.bind ?_ (fun y => ?_)) | (with_reducible refine Le.bif ?_ ?_) | (with_reducible refine Le.loop (fun s => ?_) _ _) | (with_reducible refine Le.atO (fun e => ?_)) | split)
noncomputable def e_slices_IndexFunc_int_int_q0 (n_ : Nat) : ((List Int) × ((Option ((List (List Int)) × Unit)) × Unit) × Unit) → Option (Int × Unit) := fun (s_1, f_2, _) =>
  (loopN (σ := (Int × Unit)) (ρ := (Unit ⊕ (Int × Unit))) (fun (s_3, _) =>
  (bif (decide (s_3 < (((s_1).length : Nat) : Int))) then (
  (getI s_1 s_3).bind fun y4 =>
  (e_graph_Permuted_1q_q0 n_ (y4, f_2.1, ())).bind fun (r5, _) =>
  (bif r5 then (
  some (.inr (.inr (s_3, ())))) else (
  some (.inl ((IntKind.i64.wrap (s_3 + ((1) : Int))), ()))))) else (
  some (.inr (.inl ()))))) n_ (((0) : Int), ())).bind fun q => match q with
  | .inl _ => (
  some ((-1 : Int), ()))
  | .inr r => some r
set_option maxHeartbeats 4000000 in
theorem le_slices_IndexFunc_int_int_q0 (n_ : Nat) (a : ((List Int) × ((Option ((List (List Int)) × Unit)) × Unit) × Unit)) : Le (e_slices_IndexFunc_int_int_q0 n_ a) (d_slices_IndexFunc_int_int_q0 a) := by
  unfold e_slices_IndexFunc_int_int_q0 d_slices_IndexFunc_int_int_q0
  repeat' (first | with_reducible exact Le.refl _ | with_reducible exact le_graph_Permuted_1q_q0 _ _ | (with_reducible refine Le.bind ?_ (fun y => ?_)) | (with_reducible refine Le.bif ?_ ?_) | (with_reducible refine Le.loop (fun s => ?_) _ _) | (with_reducible refine Le.atO (fun e => ?_)) | split)
noncomputable def e_slices_ContainsFunc_int_int_q0 (n_ : Nat) : ((List Int) × ((Option ((List (List Int)) × Unit)) × Unit) × Unit) → Option (Bool × Unit) := fun (s_1, f_2, _) =>
  (e_slices_IndexFunc_int_int_q0 n_ (s_1, (f_2.1, ()), ())).bind fun (r3, _) =>
  some ((decide (r3 ≥ ((0) : Int))), ())
set_option maxHeartbeats 4000000 in
theorem le_slices_ContainsFunc_int_int_q0 (n_ : Nat) (a : ((List Int) × ((Option ((List (List Int)) × Unit)) × Unit) × Unit)) : Le (e_slices_ContainsFunc_int_int_q0 n_ a) (d_slices_ContainsFunc_int_int_q0 a) := by
  unfold e_slices_ContainsFunc_int_int_q0 d_slices_ContainsFunc_int_int_q0
  repeat' (first | with_reducible exact Le.refl _ | with_reducible exact le_slices_IndexFunc_int_int_q0 _ _ | (with_reducible refine Le.bind ?_ (fun y => ?_)) | (with_reducible refine Le.bif ?_ ?_) | (with_reducible refine Le.loop (fun s => ?_) _ _) | (with_reducible refine Le.atO (fun e => ?_)) | split)
noncomputable def e_graph_Permuted (n_ : Nat) : (((List (List Int)) × Unit) × (List Int) × Unit) → Option (Int × Unit) := fun (g_1, order_2, _) =>
  (e_graph_Check n_ (g_1, ())).bind fun (r3, _) =>
  (bif (r3 != ((0) : Int)) then (
  some (r3, ())) else (
  (bif ((((order_2).length : Nat) : Int) != (((g_1.1).length : Nat) : Int)) then (
  some (((2) : Int), ())) else (
  (e_slices_ContainsFunc_int_int_q0 n_ (order_2, ((some g_1), ()), ())).bind fun (r4, _) =>
  (bif (r4 == false) then ((e_graph_twice n_ (order_2, ())).bind fun (r5, _) =>
  (bif r5 then (
  some (((90) : Int), ())) else (
  some (((0) : Int), ())))) else (some (((90) : Int), ())))))))
set_option maxHeartbeats 4000000 in
theorem le_graph_Permuted (n_ : Nat) (a : (((List (List Int)) × Unit) × (List Int) × Unit)) : Le (e_graph_Permuted n_ a) (d_graph_Permuted a) := by
  unfold e_graph_Permuted d_graph_Permuted
  repeat' (first | with_reducible exact Le.refl _ | with_reducible exact le_slices_ContainsFunc_int_int_q0 _ _ | with_reducible exact le_graph_Check _ _ | with_reducible exact le_graph_twice _ _ | (with_reducible refine Le.bind ?_ (fun y => ?_)) | (with_reducible refine Le.bif ?_ ?_) | (with_reducible refine Le.loop (fun s => ?_) _ _) | (with_reducible refine Le.atO (fun e => ?_)) | split)
noncomputable def e_mindeg_Degrees (n_ : Nat) : (((List (List Int)) × Unit) × (List Int) × Unit) → Option ((List Int) × Int × Unit) := fun (g_1, order_2, _) =>
  (e_graph_Permuted n_ (g_1, order_2, ())).bind fun (r14, _) =>
  (bif (r14 != ((0) : Int)) then (
  some ([], r14, ())) else (
  (e_mindeg_Start n_ (g_1, ())).bind fun (r15, _) =>
  (loopN (σ := (Int × ((List (List Bool)) × ((List Bool) × Unit)) × (List Int) × Unit)) (ρ := ((List Int) × Unit)) (fun (s_16, x_17, out_18, _) =>
  (bif (decide (s_16 < (((order_2).length : Nat) : Int))) then (
  (getI order_2 s_16).bind fun y19 =>
  (e_mindeg_Elimination_Eliminate n_ (x_17, y19, ())).bind fun (m20, r21, _) =>
  (limO ((out_18).length + ([(((r21).length : Nat) : Int)]).length)).bind fun _ =>
  some (.inl ((IntKind.i64.wrap (s_16 + ((1) : Int))), m20, (out_18 ++ [(((r21).length : Nat) : Int)]), ()))) else (
  some (.inr (out_18, ()))))) n_ (((0) : Int), r15, [], ())).bind fun (out_22, _) =>
  some (out_22, ((0) : Int), ())))
set_option maxHeartbeats 4000000 in
theorem le_mindeg_Degrees (n_ : Nat) (a : (((List (List Int)) × Unit) × (List Int) × Unit)) : Le (e_mindeg_Degrees n_ a) (d_mindeg_Degrees a) := by
  unfold e_mindeg_Degrees d_mindeg_Degrees
  repeat' (first | with_reducible exact Le.refl _ | with_reducible exact le_mindeg_Start _ _ | with_reducible exact le_mindeg_Elimination_Eliminate _ _ | with_reducible exact le_graph_Permuted _ _ | (with_reducible refine Le.bind ?_ (fun y => ?_)) | (with_reducible refine Le.bif ?_ ?_) | (with_reducible refine Le.loop (fun s => ?_) _ _) | (with_reducible refine Le.atO (fun e => ?_)) | split)
noncomputable def e_sparselaw16q_awake (n_ : Nat) : Unit → Option (Bool × Unit) := fun _ =>
  (e_mindeg_Exact n_ (([[((1) : Int), ((2) : Int), ((3) : Int)], [((0) : Int)], [((0) : Int)], [((0) : Int)]], ()), ())).bind fun (r1, r2, _) =>
  (e_mindeg_Degrees n_ (([[((1) : Int), ((2) : Int), ((3) : Int)], [((0) : Int)], [((0) : Int)], [((0) : Int)]], ()), [((0) : Int), ((1) : Int), ((2) : Int), ((3) : Int)], ())).bind fun (r3, r4, _) =>
  (bif ((r2 == ((0) : Int)) == true) then ((bif ((r4 == ((0) : Int)) == true) then ((e_sparsekit_Ints n_ (r1, [((1) : Int), ((2) : Int), ((0) : Int), ((3) : Int)], ())).bind fun (r5, _) =>
  (bif (r5 == true) then ((e_sparsekit_Ints n_ (r3, [((3) : Int), ((2) : Int), ((1) : Int), ((0) : Int)], ())).bind fun (r6, _) =>
  some (r6, ())) else (some (false, ())))) else (some (false, ())))) else (some (false, ())))
set_option maxHeartbeats 4000000 in
theorem le_sparselaw16q_awake (n_ : Nat) (a : Unit) : Le (e_sparselaw16q_awake n_ a) (d_sparselaw16q_awake a) := by
  unfold e_sparselaw16q_awake d_sparselaw16q_awake
  repeat' (first | with_reducible exact Le.refl _ | with_reducible exact le_mindeg_Exact _ _ | with_reducible exact le_mindeg_Degrees _ _ | with_reducible exact le_sparsekit_Ints _ _ | (with_reducible refine Le.bind ?_ (fun y => ?_)) | (with_reducible refine Le.bif ?_ ?_) | (with_reducible refine Le.loop (fun s => ?_) _ _) | (with_reducible refine Le.atO (fun e => ?_)) | split)
end Go.Fw
theorem Go.Fw.awake16 : Go.Fw.d_sparselaw16q_awake () = some (true, ()) := Go.Fw.le_sparselaw16q_awake 20 () _ (by decide +kernel)
end
