/- Texts of the proof, laid together: What the functions of this text come to, as predicates on heaps (printed by my own program out of the dump), each with its proof against the program. -/
import Derived.Test.YtjkfngolgjbakaaP1
import Derived.Test.YtjkfngolgjbakaaP2
import Derived.Test.YtjkfngolgjbakaaProg
set_option linter.unusedVariables false
set_option maxRecDepth 100000
namespace Go.Proofs.Ytjkfngolgjbakaa
open Go Go.HW
noncomputable abbrev PP : Program := Try.prog
abbrev T_ : TypeId := 0
abbrev T_int : TypeId := 3
abbrev T_bool : TypeId := 4
abbrev T_string : TypeId := 9
abbrev T_sl_haversacklaw12_Op : TypeId := 22
abbrev T_sl_api_Write : TypeId := 23
abbrev T_struct_At_int_Writes_sl_api_Write : TypeId := 24
abbrev T_api_Commit : TypeId := 25
abbrev T_struct_Tenant_string_Archive_string_Entry_string : TypeId := 26
abbrev T_api_Key : TypeId := 27
abbrev T_p_chain_Store : TypeId := 30
abbrev T_sl_api_Archive : TypeId := 35
abbrev T_struct_Key_api_Key_There_bool_Data_string : TypeId := 40
abbrev T_api_Write : TypeId := 41
abbrev T_p_haversackref12_Store : TypeId := 46
abbrev T_sl_haversackref12_Version : TypeId := 47
abbrev T_struct_L_sl_haversackref12_Version_Now_int_Floor_int : TypeId := 48
abbrev T_haversackref12_Store : TypeId := 49
abbrev T_struct_Kind_int_Commit_api_Commit_Key_api_Key_At_int : TypeId := 51
abbrev T_haversacklaw12_Op : TypeId := 52
abbrev T_sl_api_Entry : TypeId := 53
abbrev T_struct_Tenant_string_Name_string_Entries_sl_api_Entry : TypeId := 54
abbrev T_api_Archive : TypeId := 55
abbrev T_sl_string : TypeId := 56
abbrev T_struct_Name_string_Data_string : TypeId := 57
abbrev T_api_Entry : TypeId := 58
abbrev T_struct_Tenant_string_Archive_string : TypeId := 61
abbrev T_api_Box : TypeId := 62
abbrev T_map_api_Key_sl_chain_version : TypeId := 68
abbrev T_struct_chains_map_api_Key_sl_chain_version_now_int_floor_int : TypeId := 69
abbrev T_chain_Store : TypeId := 70
abbrev T_sl_chain_version : TypeId := 71
abbrev T_struct_at_int_there_bool_data_string : TypeId := 73
abbrev T_chain_version : TypeId := 74
abbrev T_sl_api_Key : TypeId := 75
abbrev T_struct_Key_api_Key_At_int_There_bool_Data_string : TypeId := 88
abbrev T_haversackref12_Version : TypeId := 89
abbrev T_sl_int : TypeId := 95
abbrev T_uint64 : TypeId := 108
abbrev T_slices_xorshift : TypeId := 109
abbrev F_law12_ChainStays : FuncId := 3
abbrev F_law12_ChainPrunes : FuncId := 4
abbrev F_law12_ChainRuns : FuncId := 5
abbrev F_law12_ChainDumps : FuncId := 6
abbrev F_law12_ChainNil : FuncId := 7
abbrev F_law12_large : FuncId := 8
abbrev F_law12_awake : FuncId := 9
abbrev F_law12_built : FuncId := 10
abbrev F_chain_Store_Now : FuncId := 11
abbrev F_chain_Store_Get : FuncId := 12
abbrev F_chain_Store_Dump : FuncId := 13
abbrev F_chain_Store_Put : FuncId := 14
abbrev F_ref12_Same : FuncId := 15
abbrev F_chain_Store_Versions : FuncId := 16
abbrev F_chain_Store_Prune : FuncId := 17
abbrev F_chain_New : FuncId := 18
abbrev F_law12_step : FuncId := 19
abbrev F_keep_Texts : FuncId := 20
abbrev F_chain_Store_List : FuncId := 21
abbrev F_law12_box : FuncId := 22
abbrev F_chain_Store_Last : FuncId := 23
abbrev F_law12_key : FuncId := 24
abbrev F_chain_Store_newest : FuncId := 25
abbrev F_chain_Store_keys : FuncId := 26
abbrev F_chain_Store_Dump_1 : FuncId := 27
abbrev F_slices_Clone_chain_version_chain_version : FuncId := 28
abbrev F_law12_copied : FuncId := 29
abbrev F_ref12_Store_Put : FuncId := 30
abbrev F_ref12_Store_Get : FuncId := 31
abbrev F_ref12_Store_List : FuncId := 32
abbrev F_ref12_Store_Last : FuncId := 33
abbrev F_ref12_Store_Prune : FuncId := 34
abbrev F_ref12_Store_Dump : FuncId := 35
abbrev F_chain_Store_List_1 : FuncId := 36
abbrev F_slices_BinarySearchFunc_chain_version_chain_version_int : FuncId := 37
abbrev F_chain_Store_newest_1 : FuncId := 38
abbrev F_slices_SortFunc_api_Key_api_Key : FuncId := 39
abbrev F_chain_Store_keys_1 : FuncId := 40
abbrev F_cmp_Or_int : FuncId := 41
abbrev F_cmp_Compare_string : FuncId := 42
abbrev F_ref12_Store_newest : FuncId := 43
abbrev F_ref12_Store_keys : FuncId := 44
abbrev F_slices_pdqsortCmpFunc_api_Key : FuncId := 45
abbrev F_math_bits_Len : FuncId := 46
abbrev F_cmp_isNaN_string : FuncId := 47
abbrev F_ref12_Less : FuncId := 48
abbrev F_slices_insertionSortCmpFunc_api_Key : FuncId := 49
abbrev F_slices_heapSortCmpFunc_api_Key : FuncId := 50
abbrev F_slices_breakPatternsCmpFunc_api_Key : FuncId := 51
abbrev F_slices_choosePivotCmpFunc_api_Key : FuncId := 52
abbrev F_slices_reverseRangeCmpFunc_api_Key : FuncId := 53
abbrev F_slices_partialInsertionSortCmpFunc_api_Key : FuncId := 54
abbrev F_slices_partitionEqualCmpFunc_api_Key : FuncId := 55
abbrev F_slices_partitionCmpFunc_api_Key : FuncId := 56
abbrev F_math_bits_Len32 : FuncId := 57
abbrev F_math_bits_Len64 : FuncId := 58
abbrev F_slices_siftDownCmpFunc_api_Key : FuncId := 59
abbrev F_slices_nextPowerOfTwo : FuncId := 60
abbrev F_slices_xorshift_Next : FuncId := 61
abbrev F_slices_medianAdjacentCmpFunc_api_Key : FuncId := 62
abbrev F_slices_medianCmpFunc_api_Key : FuncId := 63
abbrev F_slices_order2CmpFunc_api_Key : FuncId := 64
theorem C_ : PP.cellsOf T_ = 1 := by kernel_rfl
theorem C_int : PP.cellsOf T_int = 1 := by kernel_rfl
theorem U_int : PP.underlying T_int = some (.int .i64) := by kernel_rfl
theorem C_bool : PP.cellsOf T_bool = 1 := by kernel_rfl
theorem U_bool : PP.underlying T_bool = some .bool := by kernel_rfl
theorem C_string : PP.cellsOf T_string = 1 := by kernel_rfl
theorem U_string : PP.underlying T_string = some .string := by kernel_rfl
theorem C_sl_haversacklaw12_Op : PP.cellsOf T_sl_haversacklaw12_Op = 1 := by kernel_rfl
theorem E_sl_haversacklaw12_Op : Elem PP T_sl_haversacklaw12_Op T_haversacklaw12_Op 7 96 (.agg #[(.int .i64 0), (.int .i64 0), (.slice none 0 0), (.string (⟨#[]⟩ : ByteArray)), (.string (⟨#[]⟩ : ByteArray)), (.string (⟨#[]⟩ : ByteArray)), (.int .i64 0)]) := Elem.of (by kernel_rfl) (by kernel_rfl)
theorem U_sl_haversacklaw12_Op : PP.underlying T_sl_haversacklaw12_Op = some (.slice T_haversacklaw12_Op) := by kernel_rfl
theorem C_sl_api_Write : PP.cellsOf T_sl_api_Write = 1 := by kernel_rfl
theorem E_sl_api_Write : Elem PP T_sl_api_Write T_api_Write 5 72 (.agg #[(.string (⟨#[]⟩ : ByteArray)), (.string (⟨#[]⟩ : ByteArray)), (.string (⟨#[]⟩ : ByteArray)), (.bool false), (.string (⟨#[]⟩ : ByteArray))]) := Elem.of (by kernel_rfl) (by kernel_rfl)
theorem U_sl_api_Write : PP.underlying T_sl_api_Write = some (.slice T_api_Write) := by kernel_rfl
theorem FL_struct_At_int_Writes_sl_api_Write : fieldsOf PP T_struct_At_int_Writes_sl_api_Write = [(T_int, 0, 1), (T_sl_api_Write, 1, 1)] := by kernel_rfl
theorem C_struct_At_int_Writes_sl_api_Write : PP.cellsOf T_struct_At_int_Writes_sl_api_Write = 2 := by kernel_rfl
theorem FL_api_Commit : fieldsOf PP T_api_Commit = [(T_int, 0, 1), (T_sl_api_Write, 1, 1)] := by kernel_rfl
theorem C_api_Commit : PP.cellsOf T_api_Commit = 2 := by kernel_rfl
theorem FL_struct_Tenant_string_Archive_string_Entry_string : fieldsOf PP T_struct_Tenant_string_Archive_string_Entry_string = [(T_string, 0, 1), (T_string, 1, 1), (T_string, 2, 1)] := by kernel_rfl
theorem C_struct_Tenant_string_Archive_string_Entry_string : PP.cellsOf T_struct_Tenant_string_Archive_string_Entry_string = 3 := by kernel_rfl
theorem FL_api_Key : fieldsOf PP T_api_Key = [(T_string, 0, 1), (T_string, 1, 1), (T_string, 2, 1)] := by kernel_rfl
theorem C_api_Key : PP.cellsOf T_api_Key = 3 := by kernel_rfl
theorem C_p_chain_Store : PP.cellsOf T_p_chain_Store = 1 := by kernel_rfl
theorem C_sl_api_Archive : PP.cellsOf T_sl_api_Archive = 1 := by kernel_rfl
theorem E_sl_api_Archive : Elem PP T_sl_api_Archive T_api_Archive 3 56 (.agg #[(.string (⟨#[]⟩ : ByteArray)), (.string (⟨#[]⟩ : ByteArray)), (.slice none 0 0)]) := Elem.of (by kernel_rfl) (by kernel_rfl)
theorem U_sl_api_Archive : PP.underlying T_sl_api_Archive = some (.slice T_api_Archive) := by kernel_rfl
theorem FL_struct_Key_api_Key_There_bool_Data_string : fieldsOf PP T_struct_Key_api_Key_There_bool_Data_string = [(T_api_Key, 0, 3), (T_bool, 3, 1), (T_string, 4, 1)] := by kernel_rfl
theorem C_struct_Key_api_Key_There_bool_Data_string : PP.cellsOf T_struct_Key_api_Key_There_bool_Data_string = 5 := by kernel_rfl
theorem FL_api_Write : fieldsOf PP T_api_Write = [(T_api_Key, 0, 3), (T_bool, 3, 1), (T_string, 4, 1)] := by kernel_rfl
theorem C_api_Write : PP.cellsOf T_api_Write = 5 := by kernel_rfl
theorem C_p_haversackref12_Store : PP.cellsOf T_p_haversackref12_Store = 1 := by kernel_rfl
theorem C_sl_haversackref12_Version : PP.cellsOf T_sl_haversackref12_Version = 1 := by kernel_rfl
theorem E_sl_haversackref12_Version : Elem PP T_sl_haversackref12_Version T_haversackref12_Version 6 80 (.agg #[(.string (⟨#[]⟩ : ByteArray)), (.string (⟨#[]⟩ : ByteArray)), (.string (⟨#[]⟩ : ByteArray)), (.int .i64 0), (.bool false), (.string (⟨#[]⟩ : ByteArray))]) := Elem.of (by kernel_rfl) (by kernel_rfl)
theorem U_sl_haversackref12_Version : PP.underlying T_sl_haversackref12_Version = some (.slice T_haversackref12_Version) := by kernel_rfl
theorem FL_struct_L_sl_haversackref12_Version_Now_int_Floor_int : fieldsOf PP T_struct_L_sl_haversackref12_Version_Now_int_Floor_int = [(T_sl_haversackref12_Version, 0, 1), (T_int, 1, 1), (T_int, 2, 1)] := by kernel_rfl
theorem C_struct_L_sl_haversackref12_Version_Now_int_Floor_int : PP.cellsOf T_struct_L_sl_haversackref12_Version_Now_int_Floor_int = 3 := by kernel_rfl
theorem FL_haversackref12_Store : fieldsOf PP T_haversackref12_Store = [(T_sl_haversackref12_Version, 0, 1), (T_int, 1, 1), (T_int, 2, 1)] := by kernel_rfl
theorem C_haversackref12_Store : PP.cellsOf T_haversackref12_Store = 3 := by kernel_rfl
theorem FL_struct_Kind_int_Commit_api_Commit_Key_api_Key_At_int : fieldsOf PP T_struct_Kind_int_Commit_api_Commit_Key_api_Key_At_int = [(T_int, 0, 1), (T_api_Commit, 1, 2), (T_api_Key, 3, 3), (T_int, 6, 1)] := by kernel_rfl
theorem C_struct_Kind_int_Commit_api_Commit_Key_api_Key_At_int : PP.cellsOf T_struct_Kind_int_Commit_api_Commit_Key_api_Key_At_int = 7 := by kernel_rfl
theorem FL_haversacklaw12_Op : fieldsOf PP T_haversacklaw12_Op = [(T_int, 0, 1), (T_api_Commit, 1, 2), (T_api_Key, 3, 3), (T_int, 6, 1)] := by kernel_rfl
theorem C_haversacklaw12_Op : PP.cellsOf T_haversacklaw12_Op = 7 := by kernel_rfl
theorem C_sl_api_Entry : PP.cellsOf T_sl_api_Entry = 1 := by kernel_rfl
theorem E_sl_api_Entry : Elem PP T_sl_api_Entry T_api_Entry 2 32 (.agg #[(.string (⟨#[]⟩ : ByteArray)), (.string (⟨#[]⟩ : ByteArray))]) := Elem.of (by kernel_rfl) (by kernel_rfl)
theorem U_sl_api_Entry : PP.underlying T_sl_api_Entry = some (.slice T_api_Entry) := by kernel_rfl
theorem FL_struct_Tenant_string_Name_string_Entries_sl_api_Entry : fieldsOf PP T_struct_Tenant_string_Name_string_Entries_sl_api_Entry = [(T_string, 0, 1), (T_string, 1, 1), (T_sl_api_Entry, 2, 1)] := by kernel_rfl
theorem C_struct_Tenant_string_Name_string_Entries_sl_api_Entry : PP.cellsOf T_struct_Tenant_string_Name_string_Entries_sl_api_Entry = 3 := by kernel_rfl
theorem FL_api_Archive : fieldsOf PP T_api_Archive = [(T_string, 0, 1), (T_string, 1, 1), (T_sl_api_Entry, 2, 1)] := by kernel_rfl
theorem C_api_Archive : PP.cellsOf T_api_Archive = 3 := by kernel_rfl
theorem C_sl_string : PP.cellsOf T_sl_string = 1 := by kernel_rfl
theorem E_sl_string : Elem PP T_sl_string T_string 1 16 (.string (⟨#[]⟩ : ByteArray)) := Elem.of (by kernel_rfl) (by kernel_rfl)
theorem U_sl_string : PP.underlying T_sl_string = some (.slice T_string) := by kernel_rfl
theorem FL_struct_Name_string_Data_string : fieldsOf PP T_struct_Name_string_Data_string = [(T_string, 0, 1), (T_string, 1, 1)] := by kernel_rfl
theorem C_struct_Name_string_Data_string : PP.cellsOf T_struct_Name_string_Data_string = 2 := by kernel_rfl
theorem FL_api_Entry : fieldsOf PP T_api_Entry = [(T_string, 0, 1), (T_string, 1, 1)] := by kernel_rfl
theorem C_api_Entry : PP.cellsOf T_api_Entry = 2 := by kernel_rfl
theorem FL_struct_Tenant_string_Archive_string : fieldsOf PP T_struct_Tenant_string_Archive_string = [(T_string, 0, 1), (T_string, 1, 1)] := by kernel_rfl
theorem C_struct_Tenant_string_Archive_string : PP.cellsOf T_struct_Tenant_string_Archive_string = 2 := by kernel_rfl
theorem FL_api_Box : fieldsOf PP T_api_Box = [(T_string, 0, 1), (T_string, 1, 1)] := by kernel_rfl
theorem C_api_Box : PP.cellsOf T_api_Box = 2 := by kernel_rfl
theorem C_map_api_Key_sl_chain_version : PP.cellsOf T_map_api_Key_sl_chain_version = 1 := by kernel_rfl
theorem U_map_api_Key_sl_chain_version : PP.underlying T_map_api_Key_sl_chain_version = some (.map T_api_Key T_sl_chain_version) := by kernel_rfl
theorem FL_struct_chains_map_api_Key_sl_chain_version_now_int_floor_int : fieldsOf PP T_struct_chains_map_api_Key_sl_chain_version_now_int_floor_int = [(T_map_api_Key_sl_chain_version, 0, 1), (T_int, 1, 1), (T_int, 2, 1)] := by kernel_rfl
theorem C_struct_chains_map_api_Key_sl_chain_version_now_int_floor_int : PP.cellsOf T_struct_chains_map_api_Key_sl_chain_version_now_int_floor_int = 3 := by kernel_rfl
theorem FL_chain_Store : fieldsOf PP T_chain_Store = [(T_map_api_Key_sl_chain_version, 0, 1), (T_int, 1, 1), (T_int, 2, 1)] := by kernel_rfl
theorem C_chain_Store : PP.cellsOf T_chain_Store = 3 := by kernel_rfl
theorem C_sl_chain_version : PP.cellsOf T_sl_chain_version = 1 := by kernel_rfl
theorem E_sl_chain_version : Elem PP T_sl_chain_version T_chain_version 3 32 (.agg #[(.int .i64 0), (.bool false), (.string (⟨#[]⟩ : ByteArray))]) := Elem.of (by kernel_rfl) (by kernel_rfl)
theorem U_sl_chain_version : PP.underlying T_sl_chain_version = some (.slice T_chain_version) := by kernel_rfl
theorem FL_struct_at_int_there_bool_data_string : fieldsOf PP T_struct_at_int_there_bool_data_string = [(T_int, 0, 1), (T_bool, 1, 1), (T_string, 2, 1)] := by kernel_rfl
theorem C_struct_at_int_there_bool_data_string : PP.cellsOf T_struct_at_int_there_bool_data_string = 3 := by kernel_rfl
theorem FL_chain_version : fieldsOf PP T_chain_version = [(T_int, 0, 1), (T_bool, 1, 1), (T_string, 2, 1)] := by kernel_rfl
theorem C_chain_version : PP.cellsOf T_chain_version = 3 := by kernel_rfl
theorem C_sl_api_Key : PP.cellsOf T_sl_api_Key = 1 := by kernel_rfl
theorem E_sl_api_Key : Elem PP T_sl_api_Key T_api_Key 3 48 (.agg #[(.string (⟨#[]⟩ : ByteArray)), (.string (⟨#[]⟩ : ByteArray)), (.string (⟨#[]⟩ : ByteArray))]) := Elem.of (by kernel_rfl) (by kernel_rfl)
theorem U_sl_api_Key : PP.underlying T_sl_api_Key = some (.slice T_api_Key) := by kernel_rfl
theorem FL_struct_Key_api_Key_At_int_There_bool_Data_string : fieldsOf PP T_struct_Key_api_Key_At_int_There_bool_Data_string = [(T_api_Key, 0, 3), (T_int, 3, 1), (T_bool, 4, 1), (T_string, 5, 1)] := by kernel_rfl
theorem C_struct_Key_api_Key_At_int_There_bool_Data_string : PP.cellsOf T_struct_Key_api_Key_At_int_There_bool_Data_string = 6 := by kernel_rfl
theorem FL_haversackref12_Version : fieldsOf PP T_haversackref12_Version = [(T_api_Key, 0, 3), (T_int, 3, 1), (T_bool, 4, 1), (T_string, 5, 1)] := by kernel_rfl
theorem C_haversackref12_Version : PP.cellsOf T_haversackref12_Version = 6 := by kernel_rfl
theorem C_sl_int : PP.cellsOf T_sl_int = 1 := by kernel_rfl
theorem E_sl_int : Elem PP T_sl_int T_int 1 8 (.int .i64 0) := Elem.of (by kernel_rfl) (by kernel_rfl)
theorem U_sl_int : PP.underlying T_sl_int = some (.slice T_int) := by kernel_rfl
theorem C_uint64 : PP.cellsOf T_uint64 = 1 := by kernel_rfl
theorem U_uint64 : PP.underlying T_uint64 = some (.int .u64) := by kernel_rfl
theorem C_slices_xorshift : PP.cellsOf T_slices_xorshift = 1 := by kernel_rfl
theorem U_slices_xorshift : PP.underlying T_slices_xorshift = some (.int .u64) := by kernel_rfl
/-! ### haversack/haversacklaw12.ChainStays: function 3 -/
namespace law12_ChainStays
def ann : Ann := (.seq 105 (.region [(List.range 3, 105)]) (.seq 105 (.seq 1073741929 (.region [(List.range 8, 1073741929)]) (.join (.cond (.seq 256 (.region [(List.range 2, 256)]) (.exit 256)) .leaf))) (.seq 616 (.region [(List.range 3, 616)]) (.seq 616 (.seq 34359738984 (.region [(List.range 2, 34359738984)]) (.cond (.seq 256 (.region [(List.range 1, 256)]) (.exit 256)) .leaf)) (.seq 1640 (.region [(List.range 3, 1640)]) (.seq 7784 (.region [(List.range 9, 7784)]) (.seq 15976 (.region [(List.range 4, 15976)]) (.seq 65128 (.region [(List.range 9, 65128)]) (.seq 130664 (.region [(List.range 4, 130664)]) (.seq 65128 (.seq 576460752303554152 (.region [(List.range 2, 576460752303554152)]) (.cond (.seq 256 (.region [(List.range 25, 256)]) (.exit 256)) .leaf)) (.seq 64104 (.seq 19807040628566084398386051688 (.tree (.run [0, 1, 2, 3, 4, 5, 7] (.alt 6 (.run [8, 9, 10] .done) (.alt 8 (.run [6, 9, 10] .done) .nil))) 19807040628566084398386051688) (.join (.cond (.seq 256 (.region [(List.range 1, 256)]) (.exit 256)) .leaf))) (.seq 49760 (.seq 316912650057057350374175865448 (.region [(List.range 4, 316912650057057350374175865448)]) (.cond (.seq 457320 (.region [(List.range 9, 457320)]) (.seq 2658455991569831745807614120560738912 (.region [(List.range 16, 2658455991569831745807614120560738912)]) (.join (.cond (.seq 256 (.region [(List.range 1, 256)]) (.exit 256)) .leaf)))) .leaf)) (.join (.seq 49760 (.seq 574048 (.region [(List.range 1, 574048)]) (.block (.loop 574048 (.seq 574048 (.seq 85070591730234615865843651857942626912 (.region [(List.range 5, 85070591730234615865843651857942626912)]) (.cond .leaf (.exit 49760))) (.seq 574048 (.block (.seq 1622624 (.region [(List.range 7, 1622624)]) (.seq 174224571863520493293247799005065325888096 (.region [(List.range 4, 174224571863520493293247799005065325888096)]) (.cond (.seq 1589856 (.region [(List.range 1, 1589856)]) (.seq 1622624 (.region [(List.range 3, 1622624)]) (.seq 2787593149816327892691964784081045189870176 (.region [(List.range 2, 2787593149816327892691964784081045189870176)]) (.cond (.region [(List.range 3, 574048)]) .leaf)))) .leaf)))) (.join (.region [(List.range 3, 574048)]))))))) (.seq 6340608 (.region [(List.range 10, 6340608)]) (.seq 256 (.region [(List.range 12, 256)]) (.exit 256)))))))))))))))))
noncomputable abbrev cd (n : Nat) : Code := sub (bodyOf Try.f3) (pth n)
abbrev an (n : Nat) : Ann := subA ann (pth n)
@[irreducible] def X0 (c5 k6 : Addr) (s9 : OA) (old14 : ByteArray) (was15 : Bool) : Fr := (mkFr 0 163 [(5, (.pointer (some c5))), (6, (.pointer (some k6))), (9, (.pointer s9)), (14, (.string old14)), (15, (.bool was15))])
@[irreducible] def K1 (Q : VP) : EP := seqK (fun fr h => ev PP true none (cd 7) (an 7) (fr.mask 105) (bodyK PP Try.f3 Q) h) (bodyK PP Try.f3 Q)
@[irreducible] def J1 (script0 : OA) (script0n script0c : Nat) (at3 : Int) (c5 k6 : Addr) (t30 : Bool) (Q : VP) (h : Heap) : Prop := Jn PP true (cd 13) (mkFr 0 163 [(0, (.slice script0 script0n script0c)), (3, (.int .i64 at3)), (5, (.pointer (some c5))), (6, (.pointer (some k6))), (30, (.bool t30))]) (K1 Q) h
@[irreducible] def K2 (Q : VP) : EP := seqK (fun fr h => ev PP true none (cd 4095) (an 4095) (fr.mask 64104) (bodyK PP Try.f3 Q) h) (bodyK PP Try.f3 Q)
@[irreducible] def J2 (at3 : Int) (c5 k6 : Addr) (s9 : OA) (a11 : ByteArray) (x12 : Bool) (xl13 : OA) (xl13n xl13c : Nat) (old14 : ByteArray) (was15 t94 : Bool) (Q : VP) (h : Heap) : Prop := Jn PP true (cd 8189) (mkFr 0 163 [(3, (.int .i64 at3)), (5, (.pointer (some c5))), (6, (.pointer (some k6))), (9, (.pointer s9)), (11, (.string a11)), (12, (.bool x12)), (13, (.slice xl13 xl13n xl13c)), (14, (.string old14)), (15, (.bool was15)), (94, (.bool t94))]) (K2 Q) h
@[irreducible] def K3 (Q : VP) : EP := seqK (fun fr h => Jn PP true (cd 8191) (fr.mask 49760) (bodyK PP Try.f3 Q) h) (bodyK PP Try.f3 Q)
@[irreducible] def J3 (c5 k6 : Addr) (s9 : OA) (old14 : ByteArray) (was15 t121 : Bool) (Q : VP) (h : Heap) : Prop := Jn PP true (cd 131051) (mkFr 0 163 [(5, (.pointer (some c5))), (6, (.pointer (some k6))), (9, (.pointer s9)), (14, (.string old14)), (15, (.bool was15)), (121, (.bool t121))]) (K3 Q) h
@[irreducible] def J4 (c5 k6 : Addr) (s9 : OA) (old14 : ByteArray) (was15 : Bool) (Q : VP) (h : Heap) : Prop := Jn PP true (cd 8191) (mkFr 0 163 [(5, (.pointer (some c5))), (6, (.pointer (some k6))), (9, (.pointer s9)), (14, (.string old14)), (15, (.bool was15))]) (bodyK PP Try.f3 Q) h
@[irreducible] def K5 (Q : VP) : EP := seqK (fun fr h => ev PP true none (cd 16383) (an 16383) (fr.mask 49760) (bodyK PP Try.f3 Q) h) (bodyK PP Try.f3 Q)
@[irreducible] def K4 (Q : VP) : EP := blockK 0 (K5 Q)
@[irreducible] def L1 (c5 k6 : Addr) (s9 : OA) (old14 : ByteArray) (was15 : Bool) (i19 : Int) (K : EP) (h : Heap) : Prop := Lp PP true (cd 131060) (mkFr 0 163 [(5, (.pointer (some c5))), (6, (.pointer (some k6))), (9, (.pointer s9)), (14, (.string old14)), (15, (.bool was15)), (19, (.int .i64 i19))]) K h
@[irreducible] def B1 (K : EP) : EP := seqK (fun fr h => Lp PP true (cd 131060) (fr.mask 574048) K h) K
@[irreducible] def J5 (c5 k6 : Addr) (s9 : OA) (old14 : ByteArray) (was15 : Bool) (i19 : Int) (K : EP) (h : Heap) : Prop := Jn PP true (cd 524243) (mkFr 0 163 [(5, (.pointer (some c5))), (6, (.pointer (some k6))), (9, (.pointer s9)), (14, (.string old14)), (15, (.bool was15)), (19, (.int .i64 i19))]) (B1 K) h
theorem J1_of {script0 : OA} {script0n script0c : Nat} {at3 : Int} {c5 k6 : Addr} {t30 : Bool} {Q : VP} {h : Heap} (H :
 br t30 (
 SpecH PP F_law12_awake [] h (fun v h1 => ∃ (t31 : Bool), v = (.bool t31) ∧
 Q (.bool t31) h1)) (
 SpecH PP F_law12_built [(.slice script0 script0n script0c)] h (fun v_1 h2 => ∃ (t33 : OA), v_1 = (.pointer t33) ∧
 let t35 : Bool := (Option.isNone t33)
 br t35 (
 Q (.bool false) h2) (
 SpecH PP F_chain_Store_Now [(.pointer t33)] h2 (fun v_2 h3 => ∃ (t37 : Int), v_2 = (.int .i64 t37) ∧
 ∃ (t40f0 t40f1 t40f2 : ByteArray), rdCells h3 k6 0 [(.string t40f0), (.string t40f1), (.string t40f2)] ∧
 SpecH PP F_chain_Store_Get [(.pointer t33), (.agg #[(.string t40f0), (.string t40f1), (.string t40f2)]), (.int .i64 at3)] h3 (fun v_3 h4 => ∃ (t42 : ByteArray) (t42_1 : Bool), v_3 = (.tuple #[(.string t42), (.bool t42_1)]) ∧
 SpecH PP F_chain_Store_Dump [(.pointer t33), (.int .i64 at3)] h4 (fun v_4 h5 => ∃ (t47 : OA) (t47n t47c : Nat), v_4 = (.slice t47 t47n t47c) ∧
 ∃ (t50f0 t50f1 t50f2 : ByteArray), rdCells h5 k6 0 [(.string t50f0), (.string t50f1), (.string t50f2)] ∧
 SpecH PP F_chain_Store_Get [(.pointer t33), (.agg #[(.string t50f0), (.string t50f1), (.string t50f2)]), (.int .i64 t37)] h5 (fun v_5 h6 => ∃ (t52 : ByteArray) (t52_1 : Bool), v_5 = (.tuple #[(.string t52), (.bool t52_1)]) ∧
 ∃ (t56f0 : Int) (t56f1 : OA) (t56f1n t56f1c : Nat), rdCells h6 c5 0 [(.int .i64 t56f0), (.slice t56f1 t56f1n t56f1c)] ∧
 SpecH PP F_chain_Store_Put [(.pointer t33), (.agg #[(.int .i64 t56f0), (.slice t56f1 t56f1n t56f1c)])] h6 (fun v_6 h7 => ∃ (t57 : Int), v_6 = (.int .i64 t57) ∧
 let t59 : Bool := (t57 != 0)
 br t59 (
 SpecH PP F_law12_awake [] h7 (fun v_7 h8 => ∃ (t60 : Bool), v_7 = (.bool t60) ∧
 br t60 (
 let t63 : Bool := (t57 == 120)
 br t63 (
 ∃ (t67 : Int), cellH h8 c5 = some (.int .i64 t67) ∧
 let t69 : Bool := decide (t67 ≤ t37)
 br t69 (
 SpecH PP F_chain_Store_Now [(.pointer t33)] h8 (fun v_8 h9 => ∃ (t73 : Int), v_8 = (.int .i64 t73) ∧
 let t75 : Bool := (t73 == t37)
 br t75 (
 SpecH PP F_chain_Store_Dump [(.pointer t33), (.int .i64 at3)] h9 (fun v_9 h10 => ∃ (t80 : OA) (t80n t80c : Nat), v_9 = (.slice t80 t80n t80c) ∧
 SpecH PP F_ref12_Same [(.slice t80 t80n t80c), (.slice t47 t47n t47c)] h10 (fun v_10 h11 => ∃ (t82 : Bool), v_10 = (.bool t82) ∧
 Q (.bool t82) h11))) (
 Q (.bool false) h9))) (
 Q (.bool false) h8)) (
 Q (.bool false) h8)) (
 Q (.bool false) h8))) (
 ∃ (t85 : Int), cellH h7 c5 = some (.int .i64 t85) ∧
 let t87 : Bool := decide (t85 ≤ t37)
 br t87 (
 (
 J2 at3 c5 k6 t33 t42 t42_1 t47 t47n t47c t52 t52_1 true Q h7) ∧
 (
 J2 at3 c5 k6 t33 t42 t42_1 t47 t47n t47c t52 t52_1 true Q h7) ∧
 True) (
 (
 SpecH PP F_chain_Store_Now [(.pointer t33)] h7 (fun v_12 h13 => ∃ (t90_1 : Int), v_12 = (.int .i64 t90_1) ∧
 ∃ (t92_1 : Int), cellH h13 c5 = some (.int .i64 t92_1) ∧
 let t93_1 : Bool := (t90_1 != t92_1)
 J2 at3 c5 k6 t33 t42 t42_1 t47 t47n t47c t52 t52_1 t93_1 Q h13)) ∧
 (
 ∃ (t92 : Int), cellH h7 c5 = some (.int .i64 t92) ∧
 SpecH PP F_chain_Store_Now [(.pointer t33)] h7 (fun v_11 h12 => ∃ (t90 : Int), v_11 = (.int .i64 t90) ∧
 let t93 : Bool := (t90 != t92)
 J2 at3 c5 k6 t33 t42 t42_1 t47 t47n t47c t52 t52_1 t93 Q h12)) ∧
 True))))))))))) : J1 script0 script0n script0c at3 c5 k6 t30 Q h := by unfold J1; exact Jn.of_txt (an 13) (by kernel_rfl) H
theorem J2_of {at3 : Int} {c5 k6 : Addr} {s9 : OA} {a11 : ByteArray} {x12 : Bool} {xl13 : OA} {xl13n xl13c : Nat} {old14 : ByteArray} {was15 t94 : Bool} {Q : VP} {h : Heap} (H :
 br t94 (
 Q (.bool false) h) (
 ∃ (t97 : Int), cellH h c5 = some (.int .i64 t97) ∧
 let t98 : Bool := decide (at3 < t97)
 br t98 (
 ∃ (t101f0 t101f1 t101f2 : ByteArray), rdCells h k6 0 [(.string t101f0), (.string t101f1), (.string t101f2)] ∧
 SpecH PP F_chain_Store_Get [(.pointer s9), (.agg #[(.string t101f0), (.string t101f1), (.string t101f2)]), (.int .i64 at3)] h (fun v h1 => ∃ (t103 : ByteArray) (t103_1 : Bool), v = (.tuple #[(.string t103), (.bool t103_1)]) ∧
 let t108 : Bool := (!decide (a11 = t103))
 br t108 (
 J3 c5 k6 s9 old14 was15 true Q h1) (
 let t112 : Bool := (!(x12 == t103_1))
 br t112 (
 J3 c5 k6 s9 old14 was15 true Q h1) (
 SpecH PP F_chain_Store_Dump [(.pointer s9), (.int .i64 at3)] h1 (fun v_1 h2 => ∃ (t117 : OA) (t117n t117c : Nat), v_1 = (.slice t117 t117n t117c) ∧
 SpecH PP F_ref12_Same [(.slice t117 t117n t117c), (.slice xl13 xl13n xl13c)] h2 (fun v_2 h3 => ∃ (t119 : Bool), v_2 = (.bool t119) ∧
 let t120 : Bool := (!t119)
 J3 c5 k6 s9 old14 was15 t120 Q h3)))))) (
 J4 c5 k6 s9 old14 was15 Q h))) : J2 at3 c5 k6 s9 a11 x12 xl13 xl13n xl13c old14 was15 t94 Q h := by unfold J2; exact Jn.of_txt (an 8189) (by kernel_rfl) H
theorem J3_of {c5 k6 : Addr} {s9 : OA} {old14 : ByteArray} {was15 t121 : Bool} {Q : VP} {h : Heap} (H :
 br t121 (
 Q (.bool false) h) (
 J4 c5 k6 s9 old14 was15 Q h)) : J3 c5 k6 s9 old14 was15 t121 Q h := by unfold J3; exact Jn.of_txt (an 131051) (by kernel_rfl) H
theorem J4_of {c5 k6 : Addr} {s9 : OA} {old14 : ByteArray} {was15 : Bool} {Q : VP} {h : Heap} (H :
 L1 c5 k6 s9 old14 was15 0 (K4 Q) h) : J4 c5 k6 s9 old14 was15 Q h := by unfold J4; exact Jn.of_txt (an 8191) (by kernel_rfl) H
theorem L1_of {c5 k6 : Addr} {s9 : OA} {old14 : ByteArray} {was15 : Bool} {i19 : Int} {K : EP} {h : Heap} (H :
 ∃ (t124 : OA) (t124n t124c : Nat), cellH h (Addr.add c5 1) = some (.slice t124 t124n t124c) ∧
 let t126 : Bool := decide (i19 < (t124n : Int))
 br t126 (
 ∃ (t130 : OA) (t130n t130c : Nat), cellH h (Addr.add c5 1) = some (.slice t130 t130n t130c) ∧
 hwp PP (Instr.indexAt T_sl_api_Write (.slice t130 t130n t130c) (.int .i64 i19)) (fun v h1 => ∃ (t132 : Addr), v = (.pointer (some t132)) ∧
 ∃ (t133f0 t133f1 t133f2 : ByteArray) (t133f3 : Bool) (t133f4 : ByteArray), rdCells h1 t132 0 [(.string t133f0), (.string t133f1), (.string t133f2), (.bool t133f3), (.string t133f4)] ∧
 let w20 : Addr := ⟨Array.size h1, 0, none⟩
 let h2 : Heap := Array.push h1 (.cells #[(.string (⟨#[]⟩ : ByteArray)), (.string (⟨#[]⟩ : ByteArray)), (.string (⟨#[]⟩ : ByteArray)), (.bool false), (.string (⟨#[]⟩ : ByteArray))] T_api_Write (0, 0))
 wrCells w20 0 [(.string t133f0), (.string t133f1), (.string t133f2), (.bool t133f3), (.string t133f4)] (fun h3 =>
 ∃ (t135f0 t135f1 t135f2 : ByteArray), rdCells h3 w20 0 [(.string t135f0), (.string t135f1), (.string t135f2)] ∧
 ∃ (t136f0 t136f1 t136f2 : ByteArray), rdCells h3 k6 0 [(.string t136f0), (.string t136f1), (.string t136f2)] ∧
 let t137 : Bool := (decide (t135f0 = t136f0) && (decide (t135f1 = t136f1) && (decide (t135f2 = t136f2) && true)))
 br t137 (
 ∃ (t139 : Bool), cellH h3 (Addr.add w20 3) = some (.bool t139) ∧
 ∃ (t141 : Bool), cellH h3 (Addr.add w20 3) = some (.bool t141) ∧
 br t141 (
 ∃ (t143 : ByteArray), cellH h3 (Addr.add w20 4) = some (.string t143) ∧
 J5 c5 k6 s9 t143 t139 i19 K h3) (
 J5 c5 k6 s9 (⟨#[]⟩ : ByteArray) t139 i19 K h3)) (
 J5 c5 k6 s9 old14 was15 i19 K h3)) h2) h) (
 K (.exit 0) (X0 c5 k6 s9 old14 was15) h)) : L1 c5 k6 s9 old14 was15 i19 K h := by unfold L1; exact Lp.of_txt (an 131060) 574048 (by kernel_rfl) H
theorem L1_X0 {Q : VP} {c5 k6 : Addr} {s9 : OA} {old14 : ByteArray} {was15 : Bool} {h : Heap} (H :
 ∃ (t146f0 t146f1 t146f2 : ByteArray), rdCells h k6 0 [(.string t146f0), (.string t146f1), (.string t146f2)] ∧
 ∃ (t148 : Int), cellH h c5 = some (.int .i64 t148) ∧
 SpecH PP F_chain_Store_Get [(.pointer s9), (.agg #[(.string t146f0), (.string t146f1), (.string t146f2)]), (.int .i64 t148)] h (fun v h1 => ∃ (t149 : ByteArray) (t149_1 : Bool), v = (.tuple #[(.string t149), (.bool t149_1)]) ∧
 SpecH PP F_law12_awake [] h1 (fun v_1 h2 => ∃ (t152 : Bool), v_1 = (.bool t152) ∧
 br t152 (
 let t156 : Bool := decide (t149 = old14)
 br t156 (
 let t161 : Bool := (t149_1 == was15)
 Q (.bool t161) h2) (
 Q (.bool false) h2)) (
 Q (.bool false) h2)))) : (K4 Q) (.exit 0) (X0 c5 k6 s9 old14 was15) h := of_eq_txt (by kernel_rfl) H
theorem J5_of {c5 k6 : Addr} {s9 : OA} {old14 : ByteArray} {was15 : Bool} {i19 : Int} {K : EP} {h : Heap} (H :
 let t128 : Int := IntKind.i64.wrap (i19 + 1)
 L1 c5 k6 s9 old14 was15 t128 K h) : J5 c5 k6 s9 old14 was15 i19 K h := by unfold J5; exact Jn.of_txt (an 524243) (by kernel_rfl) H
theorem door {script0 : OA} {script0n script0c : Nat} {c1f0 : Int} {c1f1 : OA} {c1f1n c1f1c : Nat} {k2f0 k2f1 k2f2 : ByteArray} {at3 : Int} {Q : VP} {h : Heap} (H :
 let c5 : Addr := ⟨Array.size h, 0, none⟩
 let h1 : Heap := Array.push h (.cells #[(.int .i64 c1f0), (.slice c1f1 c1f1n c1f1c)] T_api_Commit (0, 0))
 let k6 : Addr := ⟨Array.size h1, 0, none⟩
 let h2 : Heap := Array.push h1 (.cells #[(.string k2f0), (.string k2f1), (.string k2f2)] T_api_Key (0, 0))
 SpecH PP F_law12_large [(.slice script0 script0n script0c)] h2 (fun v h3 => ∃ (t24 : Bool), v = (.bool t24) ∧
 br t24 (
 J1 script0 script0n script0c at3 c5 k6 true Q h3) (
 ∃ (t27 : OA) (t27n t27c : Nat), cellH h3 (Addr.add c5 1) = some (.slice t27 t27n t27c) ∧
 let t29 : Bool := decide ((t27n : Int) > 2000)
 J1 script0 script0n script0c at3 c5 k6 t29 Q h3))) : SpecH PP F_law12_ChainStays [(.slice script0 script0n script0c), (.agg #[(.int .i64 c1f0), (.slice c1f1 c1f1n c1f1c)]), (.agg #[(.string k2f0), (.string k2f1), (.string k2f2)]), (.int .i64 at3)] h Q :=
   spec_of_txt (ann := ann) Try.func3 rfl rfl (by kernel_rfl) H
end law12_ChainStays
/-! ### haversack/haversacklaw12.ChainPrunes: function 4 -/
namespace law12_ChainPrunes
def ann : Ann := (.seq 7 (.region [(List.range 1, 7)]) (.seq 7 (.seq 16391 (.region [(List.range 2, 16391)]) (.cond (.seq 64 (.region [(List.range 2, 64)]) (.exit 64)) .leaf)) (.seq 134 (.region [(List.range 3, 134)]) (.seq 134 (.seq 524422 (.region [(List.range 2, 524422)]) (.cond (.seq 64 (.region [(List.range 1, 64)]) (.exit 64)) .leaf)) (.seq 390 (.region [(List.range 6, 390)]) (.seq 902 (.region [(List.range 3, 902)]) (.seq 1926 (.region [(List.range 6, 1926)]) (.seq 3974 (.region [(List.range 4, 3974)]) (.seq 8068 (.region [(List.range 4, 8068)]) (.seq 64 (.region [(List.range 31, 64)]) (.exit 64)))))))))))
noncomputable abbrev cd (n : Nat) : Code := sub (bodyOf Try.f4) (pth n)
abbrev an (n : Nat) : Ann := subA ann (pth n)
theorem door {script0 : OA} {script0n script0c : Nat} {prune1 at2 : Int} {Q : VP} {h : Heap} (H :
 SpecH PP F_law12_large [(.slice script0 script0n script0c)] h (fun v h1 => ∃ (t14 : Bool), v = (.bool t14) ∧
 br t14 (
 SpecH PP F_law12_awake [] h1 (fun v_1 h2 => ∃ (t15 : Bool), v_1 = (.bool t15) ∧
 Q (.bool t15) h2)) (
 SpecH PP F_law12_built [(.slice script0 script0n script0c)] h1 (fun v_2 h3 => ∃ (t17 : OA), v_2 = (.pointer t17) ∧
 let t19 : Bool := (Option.isNone t17)
 br t19 (
 Q (.bool false) h3) (
 SpecH PP F_chain_Store_Now [(.pointer t17)] h3 (fun v_3 h4 => ∃ (t22 : Int), v_3 = (.int .i64 t22) ∧
 let t23 : Int := (if t22 < prune1 then t22 else prune1)
 let t24 : Int := (if t23 > 0 then t23 else 0)
 SpecH PP F_chain_Store_Versions [(.pointer t17)] h4 (fun v_4 h5 => ∃ (t26 : Int), v_4 = (.int .i64 t26) ∧
 let t30 : Int := (if t24 > at2 then t24 else at2)
 SpecH PP F_chain_Store_Dump [(.pointer t17), (.int .i64 t30)] h5 (fun v_5 h6 => ∃ (t31 : OA) (t31n t31c : Nat), v_5 = (.slice t31 t31n t31c) ∧
 SpecH PP F_chain_Store_Prune [(.pointer t17), (.int .i64 prune1)] h6 (fun v_6 h7 => ∃ (t34 : Int), v_6 = (.int .i64 t34) ∧
 SpecH PP F_chain_Store_Prune [(.pointer t17), (.int .i64 prune1)] h7 (fun v_7 h8 => ∃ (t37 : Int), v_7 = (.int .i64 t37) ∧
 SpecH PP F_law12_awake [] h8 (fun v_8 h9 => ∃ (t38 : Bool), v_8 = (.bool t38) ∧
 br t38 (
 let t41 : Bool := decide (t34 ≥ 0)
 br t41 (
 let t45 : Bool := (t37 == 0)
 br t45 (
 SpecH PP F_chain_Store_Versions [(.pointer t17)] h9 (fun v_9 h10 => ∃ (t49 : Int), v_9 = (.int .i64 t49) ∧
 let t52 : Int := IntKind.i64.wrap (t26 - t34)
 let t53 : Bool := (t49 == t52)
 br t53 (
 SpecH PP F_chain_Store_Dump [(.pointer t17), (.int .i64 at2)] h10 (fun v_10 h11 => ∃ (t58 : OA) (t58n t58c : Nat), v_10 = (.slice t58 t58n t58c) ∧
 SpecH PP F_ref12_Same [(.slice t58 t58n t58c), (.slice t31 t31n t31c)] h11 (fun v_11 h12 => ∃ (t60 : Bool), v_11 = (.bool t60) ∧
 br t60 (
 SpecH PP F_chain_Store_Now [(.pointer t17)] h12 (fun v_12 h13 => ∃ (t64 : Int), v_12 = (.int .i64 t64) ∧
 let t66 : Bool := decide (t64 ≥ t24)
 Q (.bool t66) h13)) (
 Q (.bool false) h12)))) (
 Q (.bool false) h10))) (
 Q (.bool false) h9)) (
 Q (.bool false) h9)) (
 Q (.bool false) h9)))))))))))) : SpecH PP F_law12_ChainPrunes [(.slice script0 script0n script0c), (.int .i64 prune1), (.int .i64 at2)] h Q :=
   spec_of_txt (ann := ann) Try.func4 rfl rfl (by kernel_rfl) H
end law12_ChainPrunes
/-! ### haversack/haversacklaw12.ChainRuns: function 5 -/
namespace law12_ChainRuns
def ann : Ann := (.seq 1 (.region [(List.range 1, 1)]) (.seq 1 (.seq 129 (.region [(List.range 2, 129)]) (.cond (.seq 4 (.region [(List.range 2, 4)]) (.exit 4)) .leaf)) (.seq 9 (.region [(List.range 2, 9)]) (.seq 9 (.seq 2057 (.region [(List.range 2, 2057)]) (.cond (.seq 4 (.region [(List.range 1, 4)]) (.exit 4)) .leaf)) (.seq 25 (.region [(List.range 3, 25)]) (.seq 24 (.seq 57 (.region [(List.range 1, 57)]) (.block (.loop 57 (.seq 57 (.seq 131129 (.region [(List.range 4, 131129)]) (.cond .leaf (.exit 24))) (.seq 57 (.block (.seq 134217785 (.region [(List.range 8, 134217785)]) (.cond (.seq 4 (.region [(List.range 1, 4)]) (.exit 4)) .leaf))) (.region [(List.range 3, 57)])))))) (.seq 4 (.region [(List.range 18, 4)]) (.exit 4))))))))
noncomputable abbrev cd (n : Nat) : Code := sub (bodyOf Try.f5) (pth n)
abbrev an (n : Nat) : Ann := subA ann (pth n)
@[irreducible] def Xret (t2 : Bool) : Fr := (mkFr 0 45 [(2, (.bool t2))])
@[irreducible] def X0 (s3 : OA) (m4 : Addr) : Fr := (mkFr 0 45 [(3, (.pointer s3)), (4, (.pointer (some m4)))])
@[irreducible] def L1 (script0 : OA) (script0n script0c : Nat) (s3 : OA) (m4 : Addr) (i5 : Int) (K : EP) (h : Heap) : Prop := Lp PP true (cd 1012) (mkFr 0 45 [(0, (.slice script0 script0n script0c)), (3, (.pointer s3)), (4, (.pointer (some m4))), (5, (.int .i64 i5))]) K h
@[irreducible] def B1 (K : EP) : EP := seqK (fun fr h => Lp PP true (cd 1012) (fr.mask 57) K h) K
@[irreducible] def K2 (Q : VP) : EP := seqK (fun fr h => ev PP true none (cd 127) (an 127) (fr.mask 24) (bodyK PP Try.f5 Q) h) (bodyK PP Try.f5 Q)
@[irreducible] def K1 (Q : VP) : EP := blockK 0 (K2 Q)
theorem L1_of {script0 : OA} {script0n script0c : Nat} {s3 : OA} {m4 : Addr} {i5 : Int} {K : EP} {h : Heap} (H :
 let t17 : Bool := decide (i5 < (script0n : Int))
 br t17 (
 hwp PP (Instr.indexAt T_sl_haversacklaw12_Op (.slice script0 script0n script0c) (.int .i64 i5)) (fun v h1 => ∃ (t24 : Addr), v = (.pointer (some t24)) ∧
 ∃ (t25f0 t25f1 : Int) (t25f2 : OA) (t25f2n t25f2c : Nat) (t25f3 t25f4 t25f5 : ByteArray) (t25f6 : Int), rdCells h1 t24 0 [(.int .i64 t25f0), (.int .i64 t25f1), (.slice t25f2 t25f2n t25f2c), (.string t25f3), (.string t25f4), (.string t25f5), (.int .i64 t25f6)] ∧
 SpecH PP F_law12_step [(.pointer s3), (.pointer (some m4)), (.agg #[(.int .i64 t25f0), (.int .i64 t25f1), (.slice t25f2 t25f2n t25f2c), (.string t25f3), (.string t25f4), (.string t25f5), (.int .i64 t25f6)])] h1 (fun v_1 h2 => ∃ (t26 : Bool), v_1 = (.bool t26) ∧
 let t27 : Bool := (!t26)
 br t27 (
 K .ret (Xret false) h2) (
 let t19 : Int := IntKind.i64.wrap (i5 + 1)
 L1 script0 script0n script0c s3 m4 t19 K h2))) h) (
 K (.exit 0) (X0 s3 m4) h)) : L1 script0 script0n script0c s3 m4 i5 K h := by unfold L1; exact Lp.of_txt (an 1012) 57 (by kernel_rfl) H
theorem L1_Xret {Q : VP} {t2 : Bool} {h : Heap} (H :
 Q (.bool t2) h) : (K1 Q) .ret (Xret t2) h := of_eq_txt (by kernel_rfl) H
theorem L1_X0 {Q : VP} {s3 : OA} {m4 : Addr} {h : Heap} (H :
 SpecH PP F_law12_awake [] h (fun v h1 => ∃ (t28 : Bool), v = (.bool t28) ∧
 br t28 (
 SpecH PP F_law12_step [(.pointer s3), (.pointer (some m4)), (.agg #[(.int .i64 0), (.int .i64 0), (.slice none 0 0), (.string (⟨#[]⟩ : ByteArray)), (.string (⟨#[]⟩ : ByteArray)), (.string (⟨#[]⟩ : ByteArray)), (.int .i64 0)])] h1 (fun v_1 h2 => ∃ (t33 : Bool), v_1 = (.bool t33) ∧
 br t33 (
 ∃ (t41 : Int), cellH h2 (Addr.add m4 1) = some (.int .i64 t41) ∧
 SpecH PP F_law12_step [(.pointer s3), (.pointer (some m4)), (.agg #[(.int .i64 6), (.int .i64 0), (.slice none 0 0), (.string (⟨#[]⟩ : ByteArray)), (.string (⟨#[]⟩ : ByteArray)), (.string (⟨#[]⟩ : ByteArray)), (.int .i64 t41)])] h2 (fun v_2 h3 => ∃ (t43 : Bool), v_2 = (.bool t43) ∧
 Q (.bool t43) h3)) (
 Q (.bool false) h2))) (
 Q (.bool false) h1))) : (K1 Q) (.exit 0) (X0 s3 m4) h := of_eq_txt (by kernel_rfl) H
theorem door {script0 : OA} {script0n script0c : Nat} {Q : VP} {h : Heap} (H :
 SpecH PP F_law12_large [(.slice script0 script0n script0c)] h (fun v h1 => ∃ (t7 : Bool), v = (.bool t7) ∧
 br t7 (
 SpecH PP F_law12_awake [] h1 (fun v_1 h2 => ∃ (t8 : Bool), v_1 = (.bool t8) ∧
 Q (.bool t8) h2)) (
 SpecH PP F_chain_New [] h1 (fun v_2 h3 => ∃ (t9 : OA), v_2 = (.pointer t9) ∧
 let t11 : Bool := (Option.isNone t9)
 br t11 (
 Q (.bool false) h3) (
 let t13 : Addr := ⟨Array.size h3, 0, none⟩
 let h4 : Heap := Array.push h3 (.cells #[(.slice none 0 0), (.int .i64 0), (.int .i64 0)] T_haversackref12_Store (0, 0))
 L1 script0 script0n script0c t9 t13 0 (K1 Q) h4))))) : SpecH PP F_law12_ChainRuns [(.slice script0 script0n script0c)] h Q :=
   spec_of_txt (ann := ann) Try.func5 rfl rfl (by kernel_rfl) H
end law12_ChainRuns
/-! ### haversack/haversacklaw12.ChainDumps: function 6 -/
namespace law12_ChainDumps
def ann : Ann := (.seq 21 (.region [(List.range 2, 21)]) (.seq 21 (.seq 2097173 (.region [(List.range 2, 2097173)]) (.cond (.seq 64 (.region [(List.range 2, 64)]) (.exit 64)) .leaf)) (.seq 148 (.region [(List.range 3, 148)]) (.seq 148 (.seq 67109012 (.region [(List.range 2, 67109012)]) (.cond (.seq 64 (.region [(List.range 1, 64)]) (.exit 64)) .leaf)) (.seq 404 (.region [(List.range 4, 404)]) (.seq 1940 (.region [(List.range 9, 1940)]) (.seq 3988 (.region [(List.range 1, 3988)]) (.seq 3732 (.seq 8084 (.region [(List.range 1, 8084)]) (.block (.loop 8084 (.seq 8084 (.seq 1099511635860 (.region [(List.range 4, 1099511635860)]) (.cond .leaf (.exit 3732))) (.seq 8084 (.block (.seq 8084 (.seq 39614081257132168796771983252 (.region [(List.range 53, 39614081257132168796771983252)]) (.join (.cond (.seq 64 (.region [(List.range 1, 64)]) (.exit 64)) .leaf))) (.seq 16276 (.region [(List.range 1, 16276)]) (.seq 16276 (.seq 32660 (.region [(List.range 1, 32660)]) (.block (.loop 32660 (.seq 32660 (.seq 10141204801825835211973625675668 (.region [(List.range 8, 10141204801825835211973625675668)]) (.cond .leaf (.exit 16276))) (.seq 32660 (.block (.seq 65428 (.region [(List.range 10, 65428)]) (.seq 262036 (.region [(List.range 21, 262036)]) (.seq 65428 (.seq 1393796574908163946345982392040522594189204 (.region [(List.range 8, 1393796574908163946345982392040522594189204)]) (.join (.cond (.seq 64 (.region [(List.range 1, 64)]) (.exit 64)) .leaf))) (.seq 65428 (.region [(List.range 6, 65428)]) (.region [(List.range 19, 32660)])))))) (.join (.region [(List.range 3, 32660)]))))))) (.seq 8084 (.seq 1532495540865888858358347027150309183618739122183610260 (.region [(List.range 17, 1532495540865888858358347027150309183618739122183610260)]) (.cond (.seq 64 (.region [(List.range 1, 64)]) (.exit 64)) .leaf)) (.region [(List.range 8, 8084)])))))) (.region [(List.range 3, 8084)])))))) (.seq 790016 (.region [(List.range 9, 790016)]) (.seq 64 (.region [(List.range 17, 64)]) (.exit 64)))))))))))
noncomputable abbrev cd (n : Nat) : Code := sub (bodyOf Try.f6) (pth n)
abbrev an (n : Nat) : Ann := subA ann (pth n)
@[irreducible] def X0 (at2 : Int) (k4 : Addr) (s7 : OA) (data9 : ByteArray) (there10 found11 : Bool) : Fr := (mkFr 0 211 [(2, (.int .i64 at2)), (4, (.pointer (some k4))), (7, (.pointer s7)), (9, (.string data9)), (10, (.bool there10)), (11, (.bool found11))])
@[irreducible] def Xret (t6 : Bool) : Fr := (mkFr 0 211 [(6, (.bool t6))])
@[irreducible] def X2 (at2 : Int) (k4 : Addr) (s7 xl8 : OA) (xl8n xl8c : Nat) (data9 : ByteArray) (there10 found11 : Bool) (i12 : Int) (names13 : OA) (names13n names13c : Nat) : Fr := (mkFr 0 211 [(2, (.int .i64 at2)), (4, (.pointer (some k4))), (7, (.pointer s7)), (8, (.slice xl8 xl8n xl8c)), (9, (.string data9)), (10, (.bool there10)), (11, (.bool found11)), (12, (.int .i64 i12)), (13, (.slice names13 names13n names13c))])
@[irreducible] def L1 (at2 : Int) (k4 : Addr) (s7 xl8 : OA) (xl8n xl8c : Nat) (data9 : ByteArray) (there10 found11 : Bool) (i12 : Int) (K : EP) (h : Heap) : Prop := Lp PP true (cd 4084) (mkFr 0 211 [(2, (.int .i64 at2)), (4, (.pointer (some k4))), (7, (.pointer s7)), (8, (.slice xl8 xl8n xl8c)), (9, (.string data9)), (10, (.bool there10)), (11, (.bool found11)), (12, (.int .i64 i12))]) K h
@[irreducible] def B1 (K : EP) : EP := seqK (fun fr h => Lp PP true (cd 4084) (fr.mask 8084) K h) K
@[irreducible] def K8 (K : EP) : EP := seqK (fun fr h => ev PP true none (cd 16339) (an 16339) (fr.mask 8084) (B1 K) h) (B1 K)
@[irreducible] def K5 (K : EP) : EP := blockK 1 (K8 K)
@[irreducible] def K2 (K : EP) : EP := seqK (fun fr h => ev PP true none (cd 65353) (an 65353) (fr.mask 8084) (K5 K) h) (K5 K)
@[irreducible] def J1 (at2 : Int) (k4 : Addr) (s7 xl8 : OA) (xl8n xl8c : Nat) (data9 : ByteArray) (there10 found11 : Bool) (i12 : Int) (t95 : Bool) (K : EP) (h : Heap) : Prop := Jn PP true (cd 130705) (mkFr 0 211 [(2, (.int .i64 at2)), (4, (.pointer (some k4))), (7, (.pointer s7)), (8, (.slice xl8 xl8n xl8c)), (9, (.string data9)), (10, (.bool there10)), (11, (.bool found11)), (12, (.int .i64 i12)), (95, (.bool t95))]) (K2 K) h
@[irreducible] def K4 (Q : VP) : EP := seqK (fun fr h => ev PP true none (cd 511) (an 511) (fr.mask 3732) (bodyK PP Try.f6 Q) h) (bodyK PP Try.f6 Q)
@[irreducible] def K1 (Q : VP) : EP := blockK 0 (K4 Q)
@[irreducible] def K6 (K : EP) : EP := seqK (fun fr h => ev PP true none (cd 261415) (an 261415) (fr.mask 16276) (K5 K) h) (K5 K)
@[irreducible] def K3 (K : EP) : EP := blockK 2 (K6 K)
@[irreducible] def L2 (at2 : Int) (k4 : Addr) (s7 xl8 : OA) (xl8n xl8c : Nat) (data9 : ByteArray) (there10 found11 : Bool) (i12 : Int) (names13 : OA) (names13n names13c : Nat) (xn14 : Int) (K : EP) (h : Heap) : Prop := Lp PP true (cd 2091316) (mkFr 0 211 [(2, (.int .i64 at2)), (4, (.pointer (some k4))), (7, (.pointer s7)), (8, (.slice xl8 xl8n xl8c)), (9, (.string data9)), (10, (.bool there10)), (11, (.bool found11)), (12, (.int .i64 i12)), (13, (.slice names13 names13n names13c)), (14, (.int .i64 xn14))]) K h
@[irreducible] def B2 (K : EP) : EP := seqK (fun fr h => Lp PP true (cd 2091316) (fr.mask 32660) K h) K
@[irreducible] def K10 (K : EP) : EP := seqK (fun fr h => Jn PP true (cd 8365267) (fr.mask 32660) (B2 K) h) (B2 K)
@[irreducible] def K9 (K : EP) : EP := blockK 3 (K10 K)
@[irreducible] def K7 (K : EP) : EP := seqK (fun fr h => ev PP true none (cd 133844263) (an 133844263) (fr.mask 65428) (K9 K) h) (K9 K)
@[irreducible] def J2 (at2 : Int) (k4 : Addr) (s7 xl8 : OA) (xl8n xl8c : Nat) (data9 : ByteArray) (there10 found11 : Bool) (i12 : Int) (names13 : OA) (names13n names13c : Nat) (xn14 : Int) (x15 : Addr) (t140 : Bool) (K : EP) (h : Heap) : Prop := Jn PP true (cd 267688525) (mkFr 0 211 [(2, (.int .i64 at2)), (4, (.pointer (some k4))), (7, (.pointer s7)), (8, (.slice xl8 xl8n xl8c)), (9, (.string data9)), (10, (.bool there10)), (11, (.bool found11)), (12, (.int .i64 i12)), (13, (.slice names13 names13n names13c)), (14, (.int .i64 xn14)), (15, (.pointer (some x15))), (140, (.bool t140))]) (K7 K) h
@[irreducible] def J3 (at2 : Int) (k4 : Addr) (s7 xl8 : OA) (xl8n xl8c : Nat) (data9 : ByteArray) (there10 found11 : Bool) (i12 : Int) (names13 : OA) (names13n names13c : Nat) (xn14 : Int) (K : EP) (h : Heap) : Prop := Jn PP true (cd 8365267) (mkFr 0 211 [(2, (.int .i64 at2)), (4, (.pointer (some k4))), (7, (.pointer s7)), (8, (.slice xl8 xl8n xl8c)), (9, (.string data9)), (10, (.bool there10)), (11, (.bool found11)), (12, (.int .i64 i12)), (13, (.slice names13 names13n names13c)), (14, (.int .i64 xn14))]) (B2 K) h
theorem L1_of {at2 : Int} {k4 : Addr} {s7 xl8 : OA} {xl8n xl8c : Nat} {data9 : ByteArray} {there10 found11 : Bool} {i12 : Int} {K : EP} {h : Heap} (H :
 let t40 : Bool := decide (i12 < (xl8n : Int))
 br t40 (
 let t44 : Bool := decide (i12 > 0)
 br t44 (
 hwp PP (Instr.indexAt T_sl_api_Archive (.slice xl8 xl8n xl8c) (.int .i64 i12)) (fun v h1 => ∃ (t48 : Addr), v = (.pointer (some t48)) ∧
 ∃ (t50 : ByteArray), cellH h1 t48 = some (.string t50) ∧
 let t53 : Int := IntKind.i64.wrap (i12 - 1)
 hwp PP (Instr.indexAt T_sl_api_Archive (.slice xl8 xl8n xl8c) (.int .i64 t53)) (fun v_1 h2 => ∃ (t54 : Addr), v_1 = (.pointer (some t54)) ∧
 ∃ (t56 : ByteArray), cellH h2 t54 = some (.string t56) ∧
 let t57 : Bool := strLt t50 t56
 br t57 (
 J1 at2 k4 s7 xl8 xl8n xl8c data9 there10 found11 i12 true K h2) (
 hwp PP (Instr.indexAt T_sl_api_Archive (.slice xl8 xl8n xl8c) (.int .i64 i12)) (fun v_2 h3 => ∃ (t61 : Addr), v_2 = (.pointer (some t61)) ∧
 ∃ (t63 : ByteArray), cellH h3 t61 = some (.string t63) ∧
 let t66 : Int := IntKind.i64.wrap (i12 - 1)
 hwp PP (Instr.indexAt T_sl_api_Archive (.slice xl8 xl8n xl8c) (.int .i64 t66)) (fun v_3 h4 => ∃ (t67 : Addr), v_3 = (.pointer (some t67)) ∧
 ∃ (t69 : ByteArray), cellH h4 t67 = some (.string t69) ∧
 let t70 : Bool := decide (t63 = t69)
 br t70 (
 hwp PP (Instr.indexAt T_sl_api_Archive (.slice xl8 xl8n xl8c) (.int .i64 i12)) (fun v_4 h5 => ∃ (t74 : Addr), v_4 = (.pointer (some t74)) ∧
 ∃ (t76 : ByteArray), cellH h5 (Addr.add t74 1) = some (.string t76) ∧
 let t79 : Int := IntKind.i64.wrap (i12 - 1)
 hwp PP (Instr.indexAt T_sl_api_Archive (.slice xl8 xl8n xl8c) (.int .i64 t79)) (fun v_5 h6 => ∃ (t80 : Addr), v_5 = (.pointer (some t80)) ∧
 ∃ (t82 : ByteArray), cellH h6 (Addr.add t80 1) = some (.string t82) ∧
 let t83 : Bool := (strLt t76 t82 || decide (t76 = t82))
 br t83 (
 J1 at2 k4 s7 xl8 xl8n xl8c data9 there10 found11 i12 true K h6) (
 hwp PP (Instr.indexAt T_sl_api_Archive (.slice xl8 xl8n xl8c) (.int .i64 i12)) (fun v_6 h7 => ∃ (t90 : Addr), v_6 = (.pointer (some t90)) ∧
 ∃ (t92 : OA) (t92n t92c : Nat), cellH h7 (Addr.add t90 2) = some (.slice t92 t92n t92c) ∧
 let t94 : Bool := ((t92n : Int) == 0)
 J1 at2 k4 s7 xl8 xl8n xl8c data9 there10 found11 i12 t94 K h7) h6)) h5) h4) (
 hwp PP (Instr.indexAt T_sl_api_Archive (.slice xl8 xl8n xl8c) (.int .i64 i12)) (fun v_7 h8 => ∃ (t90_1 : Addr), v_7 = (.pointer (some t90_1)) ∧
 ∃ (t92_1 : OA) (t92_1n t92_1c : Nat), cellH h8 (Addr.add t90_1 2) = some (.slice t92_1 t92_1n t92_1c) ∧
 let t94_1 : Bool := ((t92_1n : Int) == 0)
 J1 at2 k4 s7 xl8 xl8n xl8c data9 there10 found11 i12 t94_1 K h8) h4)) h3) h2)) h1) h) (
 hwp PP (Instr.indexAt T_sl_api_Archive (.slice xl8 xl8n xl8c) (.int .i64 i12)) (fun v_8 h9 => ∃ (t90_2 : Addr), v_8 = (.pointer (some t90_2)) ∧
 ∃ (t92_2 : OA) (t92_2n t92_2c : Nat), cellH h9 (Addr.add t90_2 2) = some (.slice t92_2 t92_2n t92_2c) ∧
 let t94_2 : Bool := ((t92_2n : Int) == 0)
 J1 at2 k4 s7 xl8 xl8n xl8c data9 there10 found11 i12 t94_2 K h9) h)) (
 K (.exit 0) (X0 at2 k4 s7 data9 there10 found11) h)) : L1 at2 k4 s7 xl8 xl8n xl8c data9 there10 found11 i12 K h := by unfold L1; exact Lp.of_txt (an 4084) 8084 (by kernel_rfl) H
theorem L1_X0 {Q : VP} {at2 : Int} {k4 : Addr} {s7 : OA} {data9 : ByteArray} {there10 found11 : Bool} {h : Heap} (H :
 ∃ (t190f0 t190f1 t190f2 : ByteArray), rdCells h k4 0 [(.string t190f0), (.string t190f1), (.string t190f2)] ∧
 SpecH PP F_chain_Store_Get [(.pointer s7), (.agg #[(.string t190f0), (.string t190f1), (.string t190f2)]), (.int .i64 at2)] h (fun v h1 => ∃ (t192 : ByteArray) (t192_1 : Bool), v = (.tuple #[(.string t192), (.bool t192_1)]) ∧
 SpecH PP F_law12_awake [] h1 (fun v_1 h2 => ∃ (t195 : Bool), v_1 = (.bool t195) ∧
 br t195 (
 let t199 : Bool := (found11 == there10)
 br t199 (
 let t204 : Bool := decide (t192 = data9)
 br t204 (
 let t209 : Bool := (t192_1 == there10)
 Q (.bool t209) h2) (
 Q (.bool false) h2)) (
 Q (.bool false) h2)) (
 Q (.bool false) h2)))) : (K1 Q) (.exit 0) (X0 at2 k4 s7 data9 there10 found11) h := of_eq_txt (by kernel_rfl) H
theorem J1_of {at2 : Int} {k4 : Addr} {s7 xl8 : OA} {xl8n xl8c : Nat} {data9 : ByteArray} {there10 found11 : Bool} {i12 : Int} {t95 : Bool} {K : EP} {h : Heap} (H :
 br t95 (
 K .ret (Xret false) h) (
 L2 at2 k4 s7 xl8 xl8n xl8c data9 there10 found11 i12 none 0 0 0 (K3 K) h)) : J1 at2 k4 s7 xl8 xl8n xl8c data9 there10 found11 i12 t95 K h := by unfold J1; exact Jn.of_txt (an 130705) (by kernel_rfl) H
theorem L1_Xret {Q : VP} {t6 : Bool} {h : Heap} (H :
 Q (.bool t6) h) : (K1 Q) .ret (Xret t6) h := of_eq_txt (by kernel_rfl) H
theorem L2_of {at2 : Int} {k4 : Addr} {s7 xl8 : OA} {xl8n xl8c : Nat} {data9 : ByteArray} {there10 found11 : Bool} {i12 : Int} {names13 : OA} {names13n names13c : Nat} {xn14 : Int} {K : EP} {h : Heap} (H :
 hwp PP (Instr.indexAt T_sl_api_Archive (.slice xl8 xl8n xl8c) (.int .i64 i12)) (fun v h1 => ∃ (t99 : Addr), v = (.pointer (some t99)) ∧
 ∃ (t101 : OA) (t101n t101c : Nat), cellH h1 (Addr.add t99 2) = some (.slice t101 t101n t101c) ∧
 let t103 : Bool := decide (xn14 < (t101n : Int))
 br t103 (
 hwp PP (Instr.indexAt T_sl_api_Archive (.slice xl8 xl8n xl8c) (.int .i64 i12)) (fun v_1 h2 => ∃ (t108 : Addr), v_1 = (.pointer (some t108)) ∧
 ∃ (t110 : OA) (t110n t110c : Nat), cellH h2 (Addr.add t108 2) = some (.slice t110 t110n t110c) ∧
 hwp PP (Instr.indexAt T_sl_api_Entry (.slice t110 t110n t110c) (.int .i64 xn14)) (fun v_2 h3 => ∃ (t112 : Addr), v_2 = (.pointer (some t112)) ∧
 ∃ (t113f0 t113f1 : ByteArray), rdCells h3 t112 0 [(.string t113f0), (.string t113f1)] ∧
 let x15 : Addr := ⟨Array.size h3, 0, none⟩
 let h4 : Heap := Array.push h3 (.cells #[(.string (⟨#[]⟩ : ByteArray)), (.string (⟨#[]⟩ : ByteArray))] T_api_Entry (0, 0))
 wrCells x15 0 [(.string t113f0), (.string t113f1)] (fun h5 =>
 hwp PP (Instr.indexAt T_sl_api_Archive (.slice xl8 xl8n xl8c) (.int .i64 i12)) (fun v_3 h6 => ∃ (t118 : Addr), v_3 = (.pointer (some t118)) ∧
 ∃ (t120 : ByteArray), cellH h6 t118 = some (.string t120) ∧
 hwp PP (Instr.indexAt T_sl_api_Archive (.slice xl8 xl8n xl8c) (.int .i64 i12)) (fun v_4 h7 => ∃ (t123 : Addr), v_4 = (.pointer (some t123)) ∧
 ∃ (t125 : ByteArray), cellH h7 (Addr.add t123 1) = some (.string t125) ∧
 ∃ (t127 : ByteArray), cellH h7 x15 = some (.string t127) ∧
 SpecH PP F_chain_Store_Get [(.pointer s7), (.agg #[(.string t120), (.string t125), (.string t127)]), (.int .i64 at2)] h7 (fun v_5 h8 => ∃ (t130 : ByteArray) (t130_1 : Bool), v_5 = (.tuple #[(.string t130), (.bool t130_1)]) ∧
 let t134 : Bool := (!t130_1)
 br t134 (
 J2 at2 k4 s7 xl8 xl8n xl8c data9 there10 found11 i12 names13 names13n names13c xn14 x15 true K h8) (
 ∃ (t138 : ByteArray), cellH h8 (Addr.add x15 1) = some (.string t138) ∧
 let t139 : Bool := (!decide (t130 = t138))
 J2 at2 k4 s7 xl8 xl8n xl8c data9 there10 found11 i12 names13 names13n names13c xn14 x15 t139 K h8))) h6) h5) h4) h2) h1) (
 K (.exit 2) (X2 at2 k4 s7 xl8 xl8n xl8c data9 there10 found11 i12 names13 names13n names13c) h1)) h) : L2 at2 k4 s7 xl8 xl8n xl8c data9 there10 found11 i12 names13 names13n names13c xn14 K h := by unfold L2; exact Lp.of_txt (an 2091316) 32660 (by kernel_rfl) H
theorem L2_Xret {K : EP} {t6 : Bool} {h : Heap} (H :
 K .ret (Xret t6) h) : (K3 K) .ret (Xret t6) h := of_eq_txt (by kernel_rfl) H
theorem J2_of {at2 : Int} {k4 : Addr} {s7 xl8 : OA} {xl8n xl8c : Nat} {data9 : ByteArray} {there10 found11 : Bool} {i12 : Int} {names13 : OA} {names13n names13c : Nat} {xn14 : Int} {x15 : Addr} {t140 : Bool} {K : EP} {h : Heap} (H :
 br t140 (
 K .ret (Xret false) h) (
 ∃ (t143 : ByteArray), cellH h x15 = some (.string t143) ∧
 let h1 : Heap := Array.push h (.cells #[(.string t143)] T_string (0, 0))
 hwp PP (Builtin.append_ #[T_sl_string, T_sl_string] T_sl_string #[(.slice names13 names13n names13c), (.slice (some ⟨Array.size h, 0, none⟩) 1 1)]) (fun v h2 => ∃ (t145 : OA) (t145n t145c : Nat), v = (.slice t145 t145n t145c) ∧
 br found11 (
 J3 at2 k4 s7 xl8 xl8n xl8c data9 there10 true i12 t145 t145n t145c xn14 K h2) (
 ∃ (t148f0 t148f1 t148f2 : ByteArray), rdCells h2 k4 0 [(.string t148f0), (.string t148f1), (.string t148f2)] ∧
 hwp PP (Instr.indexAt T_sl_api_Archive (.slice xl8 xl8n xl8c) (.int .i64 i12)) (fun v_1 h3 => ∃ (t151 : Addr), v_1 = (.pointer (some t151)) ∧
 ∃ (t153 : ByteArray), cellH h3 t151 = some (.string t153) ∧
 hwp PP (Instr.indexAt T_sl_api_Archive (.slice xl8 xl8n xl8c) (.int .i64 i12)) (fun v_2 h4 => ∃ (t156 : Addr), v_2 = (.pointer (some t156)) ∧
 ∃ (t158 : ByteArray), cellH h4 (Addr.add t156 1) = some (.string t158) ∧
 ∃ (t160 : ByteArray), cellH h4 x15 = some (.string t160) ∧
 let t162 : Bool := (decide (t148f0 = t153) && (decide (t148f1 = t158) && (decide (t148f2 = t160) && true)))
 J3 at2 k4 s7 xl8 xl8n xl8c data9 there10 t162 i12 t145 t145n t145c xn14 K h4) h3) h2)) h1)) : J2 at2 k4 s7 xl8 xl8n xl8c data9 there10 found11 i12 names13 names13n names13c xn14 x15 t140 K h := by unfold J2; exact Jn.of_txt (an 267688525) (by kernel_rfl) H
theorem L2_X2 {K : EP} {at2 : Int} {k4 : Addr} {s7 xl8 : OA} {xl8n xl8c : Nat} {data9 : ByteArray} {there10 found11 : Bool} {i12 : Int} {names13 : OA} {names13n names13c : Nat} {h : Heap} (H :
 hwp PP (Instr.indexAt T_sl_api_Archive (.slice xl8 xl8n xl8c) (.int .i64 i12)) (fun v h1 => ∃ (t167 : Addr), v = (.pointer (some t167)) ∧
 ∃ (t169 : ByteArray), cellH h1 t167 = some (.string t169) ∧
 hwp PP (Instr.indexAt T_sl_api_Archive (.slice xl8 xl8n xl8c) (.int .i64 i12)) (fun v_1 h2 => ∃ (t172 : Addr), v_1 = (.pointer (some t172)) ∧
 ∃ (t174 : ByteArray), cellH h2 (Addr.add t172 1) = some (.string t174) ∧
 SpecH PP F_chain_Store_List [(.pointer s7), (.agg #[(.string t169), (.string t174)]), (.int .i64 at2)] h2 (fun v_2 h3 => ∃ (t177 : OA) (t177n t177c : Nat), v_2 = (.slice t177 t177n t177c) ∧
 SpecH PP F_keep_Texts [(.slice t177 t177n t177c), (.slice names13 names13n names13c)] h3 (fun v_3 h4 => ∃ (t179 : Bool), v_3 = (.bool t179) ∧
 let t180 : Bool := (!t179)
 br t180 (
 K .ret (Xret false) h4) (
 hwp PP (Instr.indexAt T_sl_api_Archive (.slice xl8 xl8n xl8c) (.int .i64 i12)) (fun v_4 h5 => ∃ (t183 : Addr), v_4 = (.pointer (some t183)) ∧
 ∃ (t185 : OA) (t185n t185c : Nat), cellH h5 (Addr.add t183 2) = some (.slice t185 t185n t185c) ∧
 hwp PP (Instr.indexAt T_sl_api_Entry (.slice t185 t185n t185c) (.int .i64 0)) (fun v_5 h6 => ∃ (t186 : Addr), v_5 = (.pointer (some t186)) ∧
 wr (Addr.add t186 1) (.string (⟨#[115, 112, 111, 105, 108, 116]⟩ : ByteArray)) (fun h7 =>
 let t42 : Int := IntKind.i64.wrap (i12 + 1)
 L1 at2 k4 s7 xl8 xl8n xl8c data9 there10 found11 t42 K h7) h6) h5) h4)))) h1) h) : (K3 K) (.exit 2) (X2 at2 k4 s7 xl8 xl8n xl8c data9 there10 found11 i12 names13 names13n names13c) h := of_eq_txt (by kernel_rfl) H
theorem J3_of {at2 : Int} {k4 : Addr} {s7 xl8 : OA} {xl8n xl8c : Nat} {data9 : ByteArray} {there10 found11 : Bool} {i12 : Int} {names13 : OA} {names13n names13c : Nat} {xn14 : Int} {K : EP} {h : Heap} (H :
 let t105 : Int := IntKind.i64.wrap (xn14 + 1)
 L2 at2 k4 s7 xl8 xl8n xl8c data9 there10 found11 i12 names13 names13n names13c t105 K h) : J3 at2 k4 s7 xl8 xl8n xl8c data9 there10 found11 i12 names13 names13n names13c xn14 K h := by unfold J3; exact Jn.of_txt (an 8365267) (by kernel_rfl) H
theorem door {script0 : OA} {script0n script0c : Nat} {k1f0 k1f1 k1f2 : ByteArray} {at2 : Int} {Q : VP} {h : Heap} (H :
 let k4 : Addr := ⟨Array.size h, 0, none⟩
 let h1 : Heap := Array.push h (.cells #[(.string k1f0), (.string k1f1), (.string k1f2)] T_api_Key (0, 0))
 SpecH PP F_law12_large [(.slice script0 script0n script0c)] h1 (fun v h2 => ∃ (t21 : Bool), v = (.bool t21) ∧
 br t21 (
 SpecH PP F_law12_awake [] h2 (fun v_1 h3 => ∃ (t22 : Bool), v_1 = (.bool t22) ∧
 Q (.bool t22) h3)) (
 SpecH PP F_law12_built [(.slice script0 script0n script0c)] h2 (fun v_2 h4 => ∃ (t24 : OA), v_2 = (.pointer t24) ∧
 let t26 : Bool := (Option.isNone t24)
 br t26 (
 Q (.bool false) h4) (
 SpecH PP F_chain_Store_Dump [(.pointer t24), (.int .i64 at2)] h4 (fun v_3 h5 => ∃ (t29 : OA) (t29n t29c : Nat), v_3 = (.slice t29 t29n t29c) ∧
 ∃ (t32f0 t32f1 t32f2 : ByteArray), rdCells h5 k4 0 [(.string t32f0), (.string t32f1), (.string t32f2)] ∧
 SpecH PP F_chain_Store_Get [(.pointer t24), (.agg #[(.string t32f0), (.string t32f1), (.string t32f2)]), (.int .i64 at2)] h5 (fun v_4 h6 => ∃ (t34 : ByteArray) (t34_1 : Bool), v_4 = (.tuple #[(.string t34), (.bool t34_1)]) ∧
 L1 at2 k4 t24 t29 t29n t29c t34 t34_1 false 0 (K1 Q) h6))))))) : SpecH PP F_law12_ChainDumps [(.slice script0 script0n script0c), (.agg #[(.string k1f0), (.string k1f1), (.string k1f2)]), (.int .i64 at2)] h Q :=
   spec_of_txt (ann := ann) Try.func6 rfl rfl (by kernel_rfl) H
end law12_ChainDumps
/-! ### haversack/haversacklaw12.ChainNil: function 7 -/
namespace law12_ChainNil
def ann : Ann := (.seq 2 (.region [(List.range 2, 2)]) (.seq 10 (.region [(List.range 1, 10)]) (.seq 58 (.region [(List.range 11, 58)]) (.seq 4 (.tree (.run [0, 1, 2, 3, 4, 5, 6, 7, 8, 9, 10, 11, 12, 13, 14, 15, 16, 17, 18, 19, 21] (.alt 20 (.run [22, 23, 24, 25, 26, 27, 28, 29, 30, 31, 32, 33, 34, 35, 36, 37, 38, 39, 40, 41, 42, 43, 44, 45, 46, 47, 48, 49, 50, 51, 52, 53, 54, 55, 56, 57, 58, 59] .done) (.alt 22 (.run [20, 23, 24, 25, 26, 27, 28, 29, 30, 31, 32, 33, 34, 35, 36, 37, 38, 39, 40, 41, 42, 43, 44, 45, 46, 47, 48, 49, 50, 51, 52, 53, 54, 55, 56, 57, 58, 59] .done) .nil))) 4) (.exit 4)))))
noncomputable abbrev cd (n : Nat) : Code := sub (bodyOf Try.f7) (pth n)
abbrev an (n : Nat) : Ann := subA ann (pth n)
theorem door {o0f0 o0f1 : Int} {o0f2 : OA} {o0f2n o0f2c : Nat} {o0f3 o0f4 o0f5 : ByteArray} {o0f6 : Int} {Q : VP} {h : Heap} (H :
 let o1 : Addr := ⟨Array.size h, 0, none⟩
 let h1 : Heap := Array.push h (.cells #[(.int .i64 o0f0), (.int .i64 o0f1), (.slice o0f2 o0f2n o0f2c), (.string o0f3), (.string o0f4), (.string o0f5), (.int .i64 o0f6)] T_haversacklaw12_Op (0, 0))
 ∃ (t9f0 t9f1 t9f2 : ByteArray), rdCells h1 (Addr.add o1 3) 0 [(.string t9f0), (.string t9f1), (.string t9f2)] ∧
 ∃ (t11 : Int), cellH h1 (Addr.add o1 6) = some (.int .i64 t11) ∧
 SpecH PP F_chain_Store_Get [(.pointer none), (.agg #[(.string t9f0), (.string t9f1), (.string t9f2)]), (.int .i64 t11)] h1 (fun v h2 => ∃ (t12 : ByteArray) (t12_1 : Bool), v = (.tuple #[(.string t12), (.bool t12_1)]) ∧
 SpecH PP F_law12_awake [] h2 (fun v_1 h3 => ∃ (t15 : Bool), v_1 = (.bool t15) ∧
 br t15 (
 ∃ (t19f0 : Int) (t19f1 : OA) (t19f1n t19f1c : Nat), rdCells h3 (Addr.add o1 1) 0 [(.int .i64 t19f0), (.slice t19f1 t19f1n t19f1c)] ∧
 SpecH PP F_chain_Store_Put [(.pointer none), (.agg #[(.int .i64 t19f0), (.slice t19f1 t19f1n t19f1c)])] h3 (fun v_2 h4 => ∃ (t20 : Int), v_2 = (.int .i64 t20) ∧
 let t21 : Bool := (t20 == 3)
 br t21 (
 let t25 : Bool := decide (t12 = (⟨#[]⟩ : ByteArray))
 br t25 (
 let t29 : Bool := (!t12_1)
 br t29 (
 ∃ (t34f0 t34f1 t34f2 : ByteArray), rdCells h4 (Addr.add o1 3) 0 [(.string t34f0), (.string t34f1), (.string t34f2)] ∧
 (
 SpecH PP F_law12_box [(.agg #[(.string t34f0), (.string t34f1), (.string t34f2)])] h4 (fun v_10 h12 => ∃ (t35_1f0 t35_1f1 : ByteArray), v_10 = (.agg #[(.string t35_1f0), (.string t35_1f1)]) ∧
 ∃ (t37_1 : Int), cellH h12 (Addr.add o1 6) = some (.int .i64 t37_1) ∧
 SpecH PP F_chain_Store_List [(.pointer none), (.agg #[(.string t35_1f0), (.string t35_1f1)]), (.int .i64 t37_1)] h12 (fun v_11 h13 => ∃ (t38_1 : OA) (t38_1n t38_1c : Nat), v_11 = (.slice t38_1 t38_1n t38_1c) ∧
 let t40_1 : Bool := ((t38_1n : Int) == 0)
 br t40_1 (
 ∃ (t45_1f0 t45_1f1 t45_1f2 : ByteArray), rdCells h13 (Addr.add o1 3) 0 [(.string t45_1f0), (.string t45_1f1), (.string t45_1f2)] ∧
 SpecH PP F_chain_Store_Last [(.pointer none), (.agg #[(.string t45_1f0), (.string t45_1f1), (.string t45_1f2)])] h13 (fun v_12 h14 => ∃ (t46_1 : Int), v_12 = (.int .i64 t46_1) ∧
 let t47_1 : Bool := (t46_1 == 0)
 br t47_1 (
 SpecH PP F_chain_Store_Now [(.pointer none)] h14 (fun v_13 h15 => ∃ (t51_1 : Int), v_13 = (.int .i64 t51_1) ∧
 let t52_1 : Bool := (t51_1 == 0)
 br t52_1 (
 ∃ (t57_1 : Int), cellH h15 (Addr.add o1 6) = some (.int .i64 t57_1) ∧
 SpecH PP F_chain_Store_Prune [(.pointer none), (.int .i64 t57_1)] h15 (fun v_14 h16 => ∃ (t58_1 : Int), v_14 = (.int .i64 t58_1) ∧
 let t59_1 : Bool := (t58_1 == 0)
 br t59_1 (
 SpecH PP F_chain_Store_Versions [(.pointer none)] h16 (fun v_15 h17 => ∃ (t63_1 : Int), v_15 = (.int .i64 t63_1) ∧
 let t64_1 : Bool := (t63_1 == 0)
 br t64_1 (
 ∃ (t69_1 : Int), cellH h17 (Addr.add o1 6) = some (.int .i64 t69_1) ∧
 SpecH PP F_chain_Store_Dump [(.pointer none), (.int .i64 t69_1)] h17 (fun v_16 h18 => ∃ (t70_1 : OA) (t70_1n t70_1c : Nat), v_16 = (.slice t70_1 t70_1n t70_1c) ∧
 let t72_1 : Bool := ((t70_1n : Int) == 0)
 Q (.bool t72_1) h18)) (
 Q (.bool false) h17))) (
 Q (.bool false) h16))) (
 Q (.bool false) h15))) (
 Q (.bool false) h14))) (
 Q (.bool false) h13)))) ∧
 (
 ∃ (t37 : Int), cellH h4 (Addr.add o1 6) = some (.int .i64 t37) ∧
 SpecH PP F_law12_box [(.agg #[(.string t34f0), (.string t34f1), (.string t34f2)])] h4 (fun v_3 h5 => ∃ (t35f0 t35f1 : ByteArray), v_3 = (.agg #[(.string t35f0), (.string t35f1)]) ∧
 SpecH PP F_chain_Store_List [(.pointer none), (.agg #[(.string t35f0), (.string t35f1)]), (.int .i64 t37)] h5 (fun v_4 h6 => ∃ (t38 : OA) (t38n t38c : Nat), v_4 = (.slice t38 t38n t38c) ∧
 let t40 : Bool := ((t38n : Int) == 0)
 br t40 (
 ∃ (t45f0 t45f1 t45f2 : ByteArray), rdCells h6 (Addr.add o1 3) 0 [(.string t45f0), (.string t45f1), (.string t45f2)] ∧
 SpecH PP F_chain_Store_Last [(.pointer none), (.agg #[(.string t45f0), (.string t45f1), (.string t45f2)])] h6 (fun v_5 h7 => ∃ (t46 : Int), v_5 = (.int .i64 t46) ∧
 let t47 : Bool := (t46 == 0)
 br t47 (
 SpecH PP F_chain_Store_Now [(.pointer none)] h7 (fun v_6 h8 => ∃ (t51 : Int), v_6 = (.int .i64 t51) ∧
 let t52 : Bool := (t51 == 0)
 br t52 (
 ∃ (t57 : Int), cellH h8 (Addr.add o1 6) = some (.int .i64 t57) ∧
 SpecH PP F_chain_Store_Prune [(.pointer none), (.int .i64 t57)] h8 (fun v_7 h9 => ∃ (t58 : Int), v_7 = (.int .i64 t58) ∧
 let t59 : Bool := (t58 == 0)
 br t59 (
 SpecH PP F_chain_Store_Versions [(.pointer none)] h9 (fun v_8 h10 => ∃ (t63 : Int), v_8 = (.int .i64 t63) ∧
 let t64 : Bool := (t63 == 0)
 br t64 (
 ∃ (t69 : Int), cellH h10 (Addr.add o1 6) = some (.int .i64 t69) ∧
 SpecH PP F_chain_Store_Dump [(.pointer none), (.int .i64 t69)] h10 (fun v_9 h11 => ∃ (t70 : OA) (t70n t70c : Nat), v_9 = (.slice t70 t70n t70c) ∧
 let t72 : Bool := ((t70n : Int) == 0)
 Q (.bool t72) h11)) (
 Q (.bool false) h10))) (
 Q (.bool false) h9))) (
 Q (.bool false) h8))) (
 Q (.bool false) h7))) (
 Q (.bool false) h6)))) ∧
 True) (
 (
 Q (.bool false) h4) ∧
 (
 Q (.bool false) h4) ∧
 True)) (
 (
 Q (.bool false) h4) ∧
 (
 Q (.bool false) h4) ∧
 True)) (
 (
 Q (.bool false) h4) ∧
 (
 Q (.bool false) h4) ∧
 True))) (
 (
 Q (.bool false) h3) ∧
 (
 Q (.bool false) h3) ∧
 True)))) : SpecH PP F_law12_ChainNil [(.agg #[(.int .i64 o0f0), (.int .i64 o0f1), (.slice o0f2 o0f2n o0f2c), (.string o0f3), (.string o0f4), (.string o0f5), (.int .i64 o0f6)])] h Q :=
   spec_of_txt (ann := ann) Try.func7 rfl rfl (by kernel_rfl) H
end law12_ChainNil
/-! ### haversack/haversacklaw12.large: function 8 -/
namespace law12_large
def ann : Ann := (.seq 1 (.region [(List.range 1, 1)]) (.seq 9 (.region [(List.range 3, 9)]) (.seq 8 (.seq 25 (.region [(List.range 1, 25)]) (.block (.loop 25 (.seq 25 (.seq 16409 (.region [(List.range 8, 16409)]) (.cond .leaf (.exit 8))) (.seq 25 (.block (.region [(List.range 10, 25)])) (.region [(List.range 3, 25)])))))) (.seq 4 (.region [(List.range 3, 4)]) (.exit 4)))))
noncomputable abbrev cd (n : Nat) : Code := sub (bodyOf Try.f8) (pth n)
abbrev an (n : Nat) : Ann := subA ann (pth n)
@[irreducible] def X0 (xn3 : Int) : Fr := (mkFr 0 28 [(3, (.int .i64 xn3))])
@[irreducible] def L1 (script0 : OA) (script0n script0c : Nat) (xn3 i4 : Int) (K : EP) (h : Heap) : Prop := Lp PP true (cd 116) (mkFr 0 28 [(0, (.slice script0 script0n script0c)), (3, (.int .i64 xn3)), (4, (.int .i64 i4))]) K h
@[irreducible] def B1 (K : EP) : EP := seqK (fun fr h => Lp PP true (cd 116) (fr.mask 25) K h) K
@[irreducible] def K2 (Q : VP) : EP := seqK (fun fr h => ev PP true none (cd 15) (an 15) (fr.mask 8) (bodyK PP Try.f8 Q) h) (bodyK PP Try.f8 Q)
@[irreducible] def K1 (Q : VP) : EP := blockK 0 (K2 Q)
theorem L1_of {script0 : OA} {script0n script0c : Nat} {xn3 i4 : Int} {K : EP} {h : Heap} (H :
 let t10 : Bool := decide (i4 < (script0n : Int))
 br t10 (
 let t13 : Bool := decide (xn3 ≤ 2000)
 br t13 (
 hwp PP (Instr.indexAt T_sl_haversacklaw12_Op (.slice script0 script0n script0c) (.int .i64 i4)) (fun v h1 => ∃ (t20 : Addr), v = (.pointer (some t20)) ∧
 ∃ (t23 : OA) (t23n t23c : Nat), cellH h1 (Addr.add (Addr.add t20 1) 1) = some (.slice t23 t23n t23c) ∧
 let t25 : Int := IntKind.i64.wrap (xn3 + (t23n : Int))
 let t16 : Int := IntKind.i64.wrap (i4 + 1)
 L1 script0 script0n script0c t25 t16 K h1) h) (
 K (.exit 0) (X0 xn3) h)) (
 K (.exit 0) (X0 xn3) h)) : L1 script0 script0n script0c xn3 i4 K h := by unfold L1; exact Lp.of_txt (an 116) 25 (by kernel_rfl) H
theorem L1_X0 {Q : VP} {xn3 : Int} {h : Heap} (H :
 let t27 : Bool := decide (xn3 > 2000)
 Q (.bool t27) h) : (K1 Q) (.exit 0) (X0 xn3) h := of_eq_txt (by kernel_rfl) H
theorem door {script0 : OA} {script0n script0c : Nat} {Q : VP} {h : Heap} (H :
 L1 script0 script0n script0c (script0n : Int) 0 (K1 Q) h) : SpecH PP F_law12_large [(.slice script0 script0n script0c)] h Q :=
   spec_of_txt (ann := ann) Try.func8 rfl rfl (by kernel_rfl) H
end law12_large
/-! ### haversack/haversacklaw12.awake: function 9 -/
namespace law12_awake
def ann : Ann := (.seq 0 (.region [(List.range 1, 0)]) (.seq 2 (.region [(List.range 2, 2)]) (.seq 2 (.seq 524290 (.region [(List.range 2, 524290)]) (.cond (.seq 1 (.region [(List.range 1, 1)]) (.exit 1)) .leaf)) (.seq 6 (.region [(List.range 3, 6)]) (.seq 14 (.region [(List.range 7, 14)]) (.seq 30 (.region [(List.range 4, 30)]) (.seq 62 (.region [(List.range 7, 62)]) (.seq 254 (.region [(List.range 8, 254)]) (.seq 1022 (.region [(List.range 8, 1022)]) (.seq 4094 (.region [(List.range 8, 4094)]) (.seq 4102 (.region [(List.range 50, 4102)]) (.join (.seq 12294 (.region [(List.range 3, 12294)]) (.seq 61446 (.region [(List.range 8, 61446)]) (.seq 126982 (.region [(List.range 3, 126982)]) (.seq 1 (.region [(List.range 28, 1)]) (.exit 1)))))))))))))))))
noncomputable abbrev cd (n : Nat) : Code := sub (bodyOf Try.f9) (pth n)
abbrev an (n : Nat) : Ann := subA ann (pth n)
@[irreducible] def J1 (s1 : OA) (k2 : Addr) (one12 : Bool) (Q : VP) (h : Heap) : Prop := Jn PP true (cd 4095) (mkFr 0 140 [(1, (.pointer s1)), (2, (.pointer (some k2))), (12, (.bool one12))]) (bodyK PP Try.f9 Q) h
theorem J1_of {s1 : OA} {k2 : Addr} {one12 : Bool} {Q : VP} {h : Heap} (H :
 SpecH PP F_chain_Store_Prune [(.pointer s1), (.int .i64 4)] h (fun v h1 => ∃ (t104 : Int), v = (.int .i64 t104) ∧
 ∃ (t107f0 t107f1 t107f2 : ByteArray), rdCells h1 k2 0 [(.string t107f0), (.string t107f1), (.string t107f2)] ∧
 SpecH PP F_chain_Store_Get [(.pointer s1), (.agg #[(.string t107f0), (.string t107f1), (.string t107f2)]), (.int .i64 2)] h1 (fun v_1 h2 => ∃ (t108 : ByteArray) (t108_1 : Bool), v_1 = (.tuple #[(.string t108), (.bool t108_1)]) ∧
 SpecH PP F_chain_Store_Prune [(.pointer s1), (.int .i64 9)] h2 (fun v_2 h3 => ∃ (t112 : Int), v_2 = (.int .i64 t112) ∧
 br one12 (
 let t116 : Bool := (t104 == 0)
 br t116 (
 let t120 : Bool := decide (t108 = (⟨#[111, 110, 101]⟩ : ByteArray))
 br t120 (
 br t108_1 (
 let t127 : Bool := (t112 == 2)
 br t127 (
 SpecH PP F_chain_Store_Versions [(.pointer s1)] h3 (fun v_3 h4 => ∃ (t131 : Int), v_3 = (.int .i64 t131) ∧
 let t132 : Bool := (t131 == 0)
 br t132 (
 ∃ (t136f0 t136f1 t136f2 : ByteArray), rdCells h4 k2 0 [(.string t136f0), (.string t136f1), (.string t136f2)] ∧
 SpecH PP F_chain_Store_Last [(.pointer s1), (.agg #[(.string t136f0), (.string t136f1), (.string t136f2)])] h4 (fun v_4 h5 => ∃ (t137 : Int), v_4 = (.int .i64 t137) ∧
 let t138 : Bool := (t137 == 0)
 Q (.bool t138) h5)) (
 Q (.bool false) h4))) (
 Q (.bool false) h3)) (
 Q (.bool false) h3)) (
 Q (.bool false) h3)) (
 Q (.bool false) h3)) (
 Q (.bool false) h3))))) : J1 s1 k2 one12 Q h := by unfold J1; exact Jn.of_txt (an 4095) (by kernel_rfl) H
theorem door  {Q : VP} {h : Heap} (H :
 SpecH PP F_chain_New [] h (fun v h1 => ∃ (t17 : OA), v = (.pointer t17) ∧
 let t19 : Bool := (Option.isNone t17)
 br t19 (
 Q (.bool false) h1) (
 SpecH PP F_law12_key [(.string (⟨#[97]⟩ : ByteArray))] h1 (fun v_1 h2 => ∃ (t20f0 t20f1 t20f2 : ByteArray), v_1 = (.agg #[(.string t20f0), (.string t20f1), (.string t20f2)]) ∧
 let k2 : Addr := ⟨Array.size h2, 0, none⟩
 let h3 : Heap := Array.push h2 (.cells #[(.string (⟨#[]⟩ : ByteArray)), (.string (⟨#[]⟩ : ByteArray)), (.string (⟨#[]⟩ : ByteArray))] T_api_Key (0, 0))
 wrCells k2 0 [(.string t20f0), (.string t20f1), (.string t20f2)] (fun h4 =>
 ∃ (t22f0 t22f1 t22f2 : ByteArray), rdCells h4 k2 0 [(.string t22f0), (.string t22f1), (.string t22f2)] ∧
 let h5 : Heap := Array.push h4 (.cells #[(.string t22f0), (.string t22f1), (.string t22f2), (.bool true), (.string (⟨#[111, 110, 101]⟩ : ByteArray))] T_api_Write (0, 0))
 SpecH PP F_chain_Store_Put [(.pointer t17), (.agg #[(.int .i64 3), (.slice (some ⟨Array.size h4, 0, none⟩) 1 1)])] h5 (fun v_2 h6 => ∃ (t26 : Int), v_2 = (.int .i64 t26) ∧
 SpecH PP F_chain_Store_Put [(.pointer t17), (.agg #[(.int .i64 3), (.slice none 0 0)])] h6 (fun v_3 h7 => ∃ (t29 : Int), v_3 = (.int .i64 t29) ∧
 ∃ (t31f0 t31f1 t31f2 : ByteArray), rdCells h7 k2 0 [(.string t31f0), (.string t31f1), (.string t31f2)] ∧
 let h8 : Heap := Array.push h7 (.cells #[(.string t31f0), (.string t31f1), (.string t31f2), (.bool false), (.string (⟨#[]⟩ : ByteArray))] T_api_Write (0, 0))
 SpecH PP F_chain_Store_Put [(.pointer t17), (.agg #[(.int .i64 5), (.slice (some ⟨Array.size h7, 0, none⟩) 1 1)])] h8 (fun v_4 h9 => ∃ (t35 : Int), v_4 = (.int .i64 t35) ∧
 ∃ (t38f0 t38f1 t38f2 : ByteArray), rdCells h9 k2 0 [(.string t38f0), (.string t38f1), (.string t38f2)] ∧
 SpecH PP F_chain_Store_Get [(.pointer t17), (.agg #[(.string t38f0), (.string t38f1), (.string t38f2)]), (.int .i64 2)] h9 (fun v_5 h10 => ∃ (t39 : ByteArray) (t39_1 : Bool), v_5 = (.tuple #[(.string t39), (.bool t39_1)]) ∧
 ∃ (t44f0 t44f1 t44f2 : ByteArray), rdCells h10 k2 0 [(.string t44f0), (.string t44f1), (.string t44f2)] ∧
 SpecH PP F_chain_Store_Get [(.pointer t17), (.agg #[(.string t44f0), (.string t44f1), (.string t44f2)]), (.int .i64 4)] h10 (fun v_6 h11 => ∃ (t45 : ByteArray) (t45_1 : Bool), v_6 = (.tuple #[(.string t45), (.bool t45_1)]) ∧
 ∃ (t50f0 t50f1 t50f2 : ByteArray), rdCells h11 k2 0 [(.string t50f0), (.string t50f1), (.string t50f2)] ∧
 SpecH PP F_chain_Store_Get [(.pointer t17), (.agg #[(.string t50f0), (.string t50f1), (.string t50f2)]), (.int .i64 5)] h11 (fun v_7 h12 => ∃ (t51 : ByteArray) (t51_1 : Bool), v_7 = (.tuple #[(.string t51), (.bool t51_1)]) ∧
 let t55 : Bool := (t26 == 0)
 br t55 (
 let t58 : Bool := (t29 == 120)
 br t58 (
 let t62 : Bool := (t35 == 0)
 br t62 (
 let t66 : Bool := decide (t39 = (⟨#[]⟩ : ByteArray))
 br t66 (
 let t70 : Bool := (!t39_1)
 br t70 (
 let t74 : Bool := decide (t45 = (⟨#[111, 110, 101]⟩ : ByteArray))
 br t74 (
 br t45_1 (
 let t81 : Bool := decide (t51 = (⟨#[]⟩ : ByteArray))
 br t81 (
 let t85 : Bool := (!t51_1)
 br t85 (
 ∃ (t89f0 t89f1 t89f2 : ByteArray), rdCells h12 k2 0 [(.string t89f0), (.string t89f1), (.string t89f2)] ∧
 SpecH PP F_chain_Store_Last [(.pointer t17), (.agg #[(.string t89f0), (.string t89f1), (.string t89f2)])] h12 (fun v_8 h13 => ∃ (t90 : Int), v_8 = (.int .i64 t90) ∧
 let t91 : Bool := (t90 == 5)
 br t91 (
 SpecH PP F_chain_Store_Now [(.pointer t17)] h13 (fun v_9 h14 => ∃ (t95 : Int), v_9 = (.int .i64 t95) ∧
 let t96 : Bool := (t95 == 5)
 br t96 (
 SpecH PP F_chain_Store_Versions [(.pointer t17)] h14 (fun v_10 h15 => ∃ (t100 : Int), v_10 = (.int .i64 t100) ∧
 let t101 : Bool := (t100 == 2)
 J1 t17 k2 t101 Q h15)) (
 J1 t17 k2 false Q h14))) (
 J1 t17 k2 false Q h13))) (
 J1 t17 k2 false Q h12)) (
 J1 t17 k2 false Q h12)) (
 J1 t17 k2 false Q h12)) (
 J1 t17 k2 false Q h12)) (
 J1 t17 k2 false Q h12)) (
 J1 t17 k2 false Q h12)) (
 J1 t17 k2 false Q h12)) (
 J1 t17 k2 false Q h12)) (
 J1 t17 k2 false Q h12)))))))) h3)))) : SpecH PP F_law12_awake [] h Q :=
   spec_of_txt (ann := ann) Try.func9 rfl rfl (by kernel_rfl) H
end law12_awake
/-! ### haversack/haversacklaw12.built: function 10 -/
namespace law12_built
def ann : Ann := (.seq 1 (.region [(List.range 1, 1)]) (.seq 9 (.region [(List.range 2, 9)]) (.seq 8 (.seq 25 (.region [(List.range 1, 25)]) (.block (.loop 25 (.seq 25 (.seq 537 (.region [(List.range 4, 537)]) (.cond .leaf (.exit 8))) (.seq 25 (.block (.seq 131097 (.region [(List.range 6, 131097)]) (.cond (.region [(List.range 7, 25)]) .leaf))) (.join (.region [(List.range 3, 25)]))))))) (.seq 4 (.region [(List.range 2, 4)]) (.exit 4)))))
noncomputable abbrev cd (n : Nat) : Code := sub (bodyOf Try.f10) (pth n)
abbrev an (n : Nat) : Ann := subA ann (pth n)
@[irreducible] def X0 (s3 : OA) : Fr := (mkFr 0 26 [(3, (.pointer s3))])
@[irreducible] def L1 (script0 : OA) (script0n script0c : Nat) (s3 : OA) (i4 : Int) (K : EP) (h : Heap) : Prop := Lp PP true (cd 116) (mkFr 0 26 [(0, (.slice script0 script0n script0c)), (3, (.pointer s3)), (4, (.int .i64 i4))]) K h
@[irreducible] def B1 (K : EP) : EP := seqK (fun fr h => Lp PP true (cd 116) (fr.mask 25) K h) K
@[irreducible] def J1 (script0 : OA) (script0n script0c : Nat) (s3 : OA) (i4 : Int) (K : EP) (h : Heap) : Prop := Jn PP true (cd 467) (mkFr 0 26 [(0, (.slice script0 script0n script0c)), (3, (.pointer s3)), (4, (.int .i64 i4))]) (B1 K) h
@[irreducible] def K2 (Q : VP) : EP := seqK (fun fr h => ev PP true none (cd 15) (an 15) (fr.mask 8) (bodyK PP Try.f10 Q) h) (bodyK PP Try.f10 Q)
@[irreducible] def K1 (Q : VP) : EP := blockK 0 (K2 Q)
theorem L1_of {script0 : OA} {script0n script0c : Nat} {s3 : OA} {i4 : Int} {K : EP} {h : Heap} (H :
 let t9 : Bool := decide (i4 < (script0n : Int))
 br t9 (
 hwp PP (Instr.indexAt T_sl_haversacklaw12_Op (.slice script0 script0n script0c) (.int .i64 i4)) (fun v h1 => ∃ (t14 : Addr), v = (.pointer (some t14)) ∧
 ∃ (t16 : Int), cellH h1 t14 = some (.int .i64 t16) ∧
 let t17 : Bool := (t16 == 1)
 br t17 (
 hwp PP (Instr.indexAt T_sl_haversacklaw12_Op (.slice script0 script0n script0c) (.int .i64 i4)) (fun v_1 h2 => ∃ (t21 : Addr), v_1 = (.pointer (some t21)) ∧
 ∃ (t23f0 : Int) (t23f1 : OA) (t23f1n t23f1c : Nat), rdCells h2 (Addr.add t21 1) 0 [(.int .i64 t23f0), (.slice t23f1 t23f1n t23f1c)] ∧
 SpecH PP F_chain_Store_Put [(.pointer s3), (.agg #[(.int .i64 t23f0), (.slice t23f1 t23f1n t23f1c)])] h2 (fun v_2 h3 => ∃ (t24 : Int), v_2 = (.int .i64 t24) ∧
 J1 script0 script0n script0c s3 i4 K h3)) h1) (
 J1 script0 script0n script0c s3 i4 K h1)) h) (
 K (.exit 0) (X0 s3) h)) : L1 script0 script0n script0c s3 i4 K h := by unfold L1; exact Lp.of_txt (an 116) 25 (by kernel_rfl) H
theorem L1_X0 {Q : VP} {s3 : OA} {h : Heap} (H :
 Q (.pointer s3) h) : (K1 Q) (.exit 0) (X0 s3) h := of_eq_txt (by kernel_rfl) H
theorem J1_of {script0 : OA} {script0n script0c : Nat} {s3 : OA} {i4 : Int} {K : EP} {h : Heap} (H :
 let t11 : Int := IntKind.i64.wrap (i4 + 1)
 L1 script0 script0n script0c s3 t11 K h) : J1 script0 script0n script0c s3 i4 K h := by unfold J1; exact Jn.of_txt (an 467) (by kernel_rfl) H
theorem door {script0 : OA} {script0n script0c : Nat} {Q : VP} {h : Heap} (H :
 SpecH PP F_chain_New [] h (fun v h1 => ∃ (t5 : OA), v = (.pointer t5) ∧
 L1 script0 script0n script0c t5 0 (K1 Q) h1)) : SpecH PP F_law12_built [(.slice script0 script0n script0c)] h Q :=
   spec_of_txt (ann := ann) Try.func10 rfl rfl (by kernel_rfl) H
end law12_built
/-! ### (*haversack/chain.Store).Now: function 11 -/
namespace chain_Store_Now
def ann : Ann := (.seq 1 (.region [(List.range 1, 1)]) (.seq 1 (.seq 17 (.region [(List.range 2, 17)]) (.cond (.seq 4 (.region [(List.range 1, 4)]) (.exit 4)) .leaf)) (.seq 4 (.region [(List.range 5, 4)]) (.exit 4))))
noncomputable abbrev cd (n : Nat) : Code := sub (bodyOf Try.f11) (pth n)
abbrev an (n : Nat) : Ann := subA ann (pth n)
theorem door {s0 : OA} {Q : VP} {h : Heap} (H :
 let t4 : Bool := (Option.isNone s0)
 br t4 (
 Q (.int .i64 0) h) (
 nilc s0 (fun t6 =>
 ∃ (t8 : Int), cellH h (Addr.add t6 1) = some (.int .i64 t8) ∧
 Q (.int .i64 t8) h))) : SpecH PP F_chain_Store_Now [(.pointer s0)] h Q :=
   spec_of_txt (ann := ann) Try.func11 rfl rfl (by kernel_rfl) H
end chain_Store_Now
/-! ### (*haversack/chain.Store).Get: function 12 -/
namespace chain_Store_Get
def ann : Ann := (.seq 21 (.region [(List.range 3, 21)]) (.seq 21 (.seq 2069 (.region [(List.range 2, 2069)]) (.cond (.seq 192 (.region [(List.range 2, 192)]) (.exit 192)) .leaf)) (.seq 261 (.region [(List.range 7, 261)]) (.seq 768 (.region [(List.range 5, 768)]) (.seq 768 (.seq 4294968064 (.region [(List.range 11, 4294968064)]) (.join (.cond (.seq 192 (.region [(List.range 2, 192)]) (.exit 192)) .leaf))) (.seq 192 (.region [(List.range 8, 192)]) (.exit 192)))))))
noncomputable abbrev cd (n : Nat) : Code := sub (bodyOf Try.f12) (pth n)
abbrev an (n : Nat) : Ann := subA ann (pth n)
@[irreducible] def K1 (Q : VP) : EP := seqK (fun fr h => ev PP true none (cd 63) (an 63) (fr.mask 768) (bodyK PP Try.f12 Q) h) (bodyK PP Try.f12 Q)
@[irreducible] def J1 (xl8 : OA) (xl8n xl8c : Nat) (xn9 : Int) (t32 : Bool) (Q : VP) (h : Heap) : Prop := Jn PP true (cd 125) (mkFr 0 39 [(8, (.slice xl8 xl8n xl8c)), (9, (.int .i64 xn9)), (32, (.bool t32))]) (K1 Q) h
theorem J1_of {xl8 : OA} {xl8n xl8c : Nat} {xn9 : Int} {t32 : Bool} {Q : VP} {h : Heap} (H :
 br t32 (
 Q (.tuple #[(.string (⟨#[]⟩ : ByteArray)), (.bool false)]) h) (
 let t35 : Int := IntKind.i64.wrap (xn9 - 1)
 hwp PP (Instr.indexAt T_sl_chain_version (.slice xl8 xl8n xl8c) (.int .i64 t35)) (fun v h1 => ∃ (t36 : Addr), v = (.pointer (some t36)) ∧
 ∃ (t38 : ByteArray), cellH h1 (Addr.add t36 2) = some (.string t38) ∧
 Q (.tuple #[(.string t38), (.bool true)]) h1) h)) : J1 xl8 xl8n xl8c xn9 t32 Q h := by unfold J1; exact Jn.of_txt (an 125) (by kernel_rfl) H
theorem door {s0 : OA} {k1f0 k1f1 k1f2 : ByteArray} {at2 : Int} {Q : VP} {h : Heap} (H :
 let k4 : Addr := ⟨Array.size h, 0, none⟩
 let h1 : Heap := Array.push h (.cells #[(.string k1f0), (.string k1f1), (.string k1f2)] T_api_Key (0, 0))
 let t11 : Bool := (Option.isNone s0)
 br t11 (
 Q (.tuple #[(.string (⟨#[]⟩ : ByteArray)), (.bool false)]) h1) (
 nilc s0 (fun t13 =>
 ∃ (t15 : ON), cellH h1 t13 = some (.map t15) ∧
 ∃ (t16f0 t16f1 t16f2 : ByteArray), rdCells h1 k4 0 [(.string t16f0), (.string t16f1), (.string t16f2)] ∧
 hwp PP (Instr.lookup T_map_api_Key_sl_chain_version (.map t15) (.agg #[(.string t16f0), (.string t16f1), (.string t16f2)]) false) (fun v h2 => ∃ (t17 : OA) (t17n t17c : Nat), v = (.slice t17 t17n t17c) ∧
 SpecH PP F_chain_Store_newest [(.pointer s0), (.slice t17 t17n t17c), (.int .i64 at2)] h2 (fun v_1 h3 => ∃ (t21 : Int), v_1 = (.int .i64 t21) ∧
 let t23 : Bool := (t21 == 0)
 br t23 (
 J1 t17 t17n t17c t21 true Q h3) (
 let t27 : Int := IntKind.i64.wrap (t21 - 1)
 hwp PP (Instr.indexAt T_sl_chain_version (.slice t17 t17n t17c) (.int .i64 t27)) (fun v_2 h4 => ∃ (t28 : Addr), v_2 = (.pointer (some t28)) ∧
 ∃ (t30 : Bool), cellH h4 (Addr.add t28 1) = some (.bool t30) ∧
 let t31 : Bool := (!t30)
 J1 t17 t17n t17c t21 t31 Q h4) h3))) h1))) : SpecH PP F_chain_Store_Get [(.pointer s0), (.agg #[(.string k1f0), (.string k1f1), (.string k1f2)]), (.int .i64 at2)] h Q :=
   spec_of_txt (ann := ann) Try.func12 rfl rfl (by kernel_rfl) H
end chain_Store_Get
/-! ### (*haversack/chain.Store).Dump: function 13 -/
namespace chain_Store_Dump
def ann : Ann := (.seq 3 (.region [(List.range 1, 3)]) (.seq 35 (.region [(List.range 1, 35)]) (.seq 32 (.seq 114723 (.region [(List.range 5, 114723)]) (.block (.loop 114723 (.seq 245795 (.region [(List.range 1, 245795)]) (.seq 114723 (.cond .leaf (.exit 32)) (.seq 114723 (.block (.seq 114851 (.region [(List.range 4, 114851)]) (.seq 114851 (.seq 115107 (.region [(List.range 3, 115107)]) (.seq 35184372203683 (.region [(List.range 24, 35184372203683)]) (.join (.cond (.region [(List.range 9, 114851)]) .leaf)))) (.join (.seq 115363 (.region [(List.range 9, 115363)]) (.seq 117411 (.region [(List.range 6, 117411)]) (.region [(List.range 14, 114723)]))))))) (.region [(List.range 2, 114723)]))))))) (.seq 16 (.region [(List.range 2, 16)]) (.exit 16)))))
noncomputable abbrev cd (n : Nat) : Code := sub (bodyOf Try.f13) (pth n)
abbrev an (n : Nat) : Ann := subA ann (pth n)
@[irreducible] def X0 (out5 : OA) (out5n out5c : Nat) : Fr := (mkFr 0 81 [(5, (.slice out5 out5n out5c))])
@[irreducible] def L1 (s0 : OA) (at1 : Int) (out5 : OA) (out5n out5c : Nat) (t14 : OA) (t14n t14c : Nat) (t15 t16 : Int) (K : EP) (h : Heap) : Prop := Lp PP true (cd 116) (mkFr 0 81 [(0, (.pointer s0)), (1, (.int .i64 at1)), (5, (.slice out5 out5n out5c)), (14, (.slice t14 t14n t14c)), (15, (.int .i64 t15)), (16, (.int .i64 t16))]) K h
@[irreducible] def B1 (K : EP) : EP := seqK (fun fr h => Lp PP true (cd 116) (fr.mask 114723) K h) K
@[irreducible] def K5 (K : EP) : EP := seqK (fun fr h => ev PP true none (cd 935) (an 935) (fr.mask 114723) (B1 K) h) (B1 K)
@[irreducible] def K4 (K : EP) : EP := blockK 1 (K5 K)
@[irreducible] def K2 (K : EP) : EP := seqK (fun fr h => Jn PP true (cd 7475) (fr.mask 114851) (K4 K) h) (K4 K)
@[irreducible] def J1 (s0 : OA) (at1 : Int) (out5 : OA) (out5n out5c : Nat) (k7 : Addr) (t14 : OA) (t14n t14c : Nat) (t15 t16 : Int) (t45 : Bool) (K : EP) (h : Heap) : Prop := Jn PP true (cd 29899) (mkFr 0 81 [(0, (.pointer s0)), (1, (.int .i64 at1)), (5, (.slice out5 out5n out5c)), (7, (.pointer (some k7))), (14, (.slice t14 t14n t14c)), (15, (.int .i64 t15)), (16, (.int .i64 t16)), (45, (.bool t45))]) (K2 K) h
@[irreducible] def K3 (Q : VP) : EP := seqK (fun fr h => ev PP true none (cd 15) (an 15) (fr.mask 32) (bodyK PP Try.f13 Q) h) (bodyK PP Try.f13 Q)
@[irreducible] def K1 (Q : VP) : EP := blockK 0 (K3 Q)
@[irreducible] def J2 (s0 : OA) (at1 : Int) (out5 : OA) (out5n out5c : Nat) (k7 : Addr) (t14 : OA) (t14n t14c : Nat) (t15 t16 : Int) (K : EP) (h : Heap) : Prop := Jn PP true (cd 7475) (mkFr 0 81 [(0, (.pointer s0)), (1, (.int .i64 at1)), (5, (.slice out5 out5n out5c)), (7, (.pointer (some k7))), (14, (.slice t14 t14n t14c)), (15, (.int .i64 t15)), (16, (.int .i64 t16))]) (K4 K) h
theorem L1_of {s0 : OA} {at1 : Int} {out5 : OA} {out5n out5c : Nat} {t14 : OA} {t14n t14c : Nat} {t15 t16 : Int} {K : EP} {h : Heap} (H :
 let t17 : Bool := decide (t16 < t15)
 br t17 (
 hwp PP (Instr.indexAt T_sl_api_Key (.slice t14 t14n t14c) (.int .i64 t16)) (fun v h1 => ∃ (t18 : Addr), v = (.pointer (some t18)) ∧
 ∃ (t19f0 t19f1 t19f2 : ByteArray), rdCells h1 t18 0 [(.string t19f0), (.string t19f1), (.string t19f2)] ∧
 let k7 : Addr := ⟨Array.size h1, 0, none⟩
 let h2 : Heap := Array.push h1 (.cells #[(.string (⟨#[]⟩ : ByteArray)), (.string (⟨#[]⟩ : ByteArray)), (.string (⟨#[]⟩ : ByteArray))] T_api_Key (0, 0))
 wrCells k7 0 [(.string t19f0), (.string t19f1), (.string t19f2)] (fun h3 =>
 let t23 : Bool := ((out5n : Int) == 0)
 br t23 (
 J1 s0 at1 out5 out5n out5c k7 t14 t14n t14c t15 t16 true K h3) (
 let t27 : Int := IntKind.i64.wrap ((out5n : Int) - 1)
 hwp PP (Instr.indexAt T_sl_api_Archive (.slice out5 out5n out5c) (.int .i64 t27)) (fun v_1 h4 => ∃ (t28 : Addr), v_1 = (.pointer (some t28)) ∧
 ∃ (t30 : ByteArray), cellH h4 t28 = some (.string t30) ∧
 ∃ (t32 : ByteArray), cellH h4 k7 = some (.string t32) ∧
 let t33 : Bool := (!decide (t30 = t32))
 br t33 (
 J1 s0 at1 out5 out5n out5c k7 t14 t14n t14c t15 t16 true K h4) (
 let t38 : Int := IntKind.i64.wrap ((out5n : Int) - 1)
 hwp PP (Instr.indexAt T_sl_api_Archive (.slice out5 out5n out5c) (.int .i64 t38)) (fun v_2 h5 => ∃ (t39 : Addr), v_2 = (.pointer (some t39)) ∧
 ∃ (t41 : ByteArray), cellH h5 (Addr.add t39 1) = some (.string t41) ∧
 ∃ (t43 : ByteArray), cellH h5 (Addr.add k7 1) = some (.string t43) ∧
 let t44 : Bool := (!decide (t41 = t43))
 J1 s0 at1 out5 out5n out5c k7 t14 t14n t14c t15 t16 t44 K h5) h4)) h3)) h2) h) (
 K (.exit 0) (X0 out5 out5n out5c) h)) : L1 s0 at1 out5 out5n out5c t14 t14n t14c t15 t16 K h := by unfold L1; exact Lp.of_txt (an 116) 114723 (by kernel_rfl) H
theorem L1_X0 {Q : VP} {out5 : OA} {out5n out5c : Nat} {h : Heap} (H :
 Q (.slice out5 out5n out5c) h) : (K1 Q) (.exit 0) (X0 out5 out5n out5c) h := of_eq_txt (by kernel_rfl) H
theorem J1_of {s0 : OA} {at1 : Int} {out5 : OA} {out5n out5c : Nat} {k7 : Addr} {t14 : OA} {t14n t14c : Nat} {t15 t16 : Int} {t45 : Bool} {K : EP} {h : Heap} (H :
 br t45 (
 ∃ (t48 : ByteArray), cellH h k7 = some (.string t48) ∧
 ∃ (t50 : ByteArray), cellH h (Addr.add k7 1) = some (.string t50) ∧
 let h1 : Heap := Array.push h (.cells #[(.string t48), (.string t50), (.slice none 0 0)] T_api_Archive (0, 0))
 hwp PP (Builtin.append_ #[T_sl_api_Archive, T_sl_api_Archive] T_sl_api_Archive #[(.slice out5 out5n out5c), (.slice (some ⟨Array.size h, 0, none⟩) 1 1)]) (fun v h2 => ∃ (t53 : OA) (t53n t53c : Nat), v = (.slice t53 t53n t53c) ∧
 J2 s0 at1 t53 t53n t53c k7 t14 t14n t14c t15 t16 K h2) h1) (
 J2 s0 at1 out5 out5n out5c k7 t14 t14n t14c t15 t16 K h)) : J1 s0 at1 out5 out5n out5c k7 t14 t14n t14c t15 t16 t45 K h := by unfold J1; exact Jn.of_txt (an 29899) (by kernel_rfl) H
theorem J2_of {s0 : OA} {at1 : Int} {out5 : OA} {out5n out5c : Nat} {k7 : Addr} {t14 : OA} {t14n t14c : Nat} {t15 t16 : Int} {K : EP} {h : Heap} (H :
 ∃ (t56f0 t56f1 t56f2 : ByteArray), rdCells h k7 0 [(.string t56f0), (.string t56f1), (.string t56f2)] ∧
 SpecH PP F_chain_Store_Get [(.pointer s0), (.agg #[(.string t56f0), (.string t56f1), (.string t56f2)]), (.int .i64 at1)] h (fun v h1 => ∃ (t58 : ByteArray) (t58_1 : Bool), v = (.tuple #[(.string t58), (.bool t58_1)]) ∧
 let t64 : Int := IntKind.i64.wrap ((out5n : Int) - 1)
 hwp PP (Instr.indexAt T_sl_api_Archive (.slice out5 out5n out5c) (.int .i64 t64)) (fun v_1 h2 => ∃ (t65 : Addr), v_1 = (.pointer (some t65)) ∧
 ∃ (t70 : OA) (t70n t70c : Nat), cellH h2 (Addr.add t65 2) = some (.slice t70 t70n t70c) ∧
 ∃ (t72 : ByteArray), cellH h2 (Addr.add k7 2) = some (.string t72) ∧
 let h3 : Heap := Array.push h2 (.cells #[(.string t72), (.string t58)] T_api_Entry (0, 0))
 hwp PP (Builtin.append_ #[T_sl_api_Entry, T_sl_api_Entry] T_sl_api_Entry #[(.slice t70 t70n t70c), (.slice (some ⟨Array.size h2, 0, none⟩) 1 1)]) (fun v_2 h4 => ∃ (t76 : OA) (t76n t76c : Nat), v_2 = (.slice t76 t76n t76c) ∧
 wr (Addr.add t65 2) (.slice t76 t76n t76c) (fun h5 =>
 let t79 : Int := IntKind.i64.wrap (t16 + 1)
 L1 s0 at1 out5 out5n out5c t14 t14n t14c t15 t79 K h5) h4) h3) h1)) : J2 s0 at1 out5 out5n out5c k7 t14 t14n t14c t15 t16 K h := by unfold J2; exact Jn.of_txt (an 7475) (by kernel_rfl) H
theorem door {s0 : OA} {at1 : Int} {Q : VP} {h : Heap} (H :
 SpecH PP F_chain_Store_keys [(.pointer s0), (.int .i64 at1), (.func (.func F_chain_Store_Dump_1) #[] #[])] h (fun v h1 => ∃ (t14 : OA) (t14n t14c : Nat), v = (.slice t14 t14n t14c) ∧
 L1 s0 at1 none 0 0 t14 t14n t14c (t14n : Int) 0 (K1 Q) h1)) : SpecH PP F_chain_Store_Dump [(.pointer s0), (.int .i64 at1)] h Q :=
   spec_of_txt (ann := ann) Try.func13 rfl rfl (by kernel_rfl) H
end chain_Store_Dump
/-! ### (*haversack/chain.Store).Put: function 14 -/
namespace chain_Store_Put
def ann : Ann := (.seq 9 (.region [(List.range 2, 9)]) (.seq 9 (.block (.seq 1033 (.region [(List.range 3, 1033)]) (.cond (.seq 16 (.region [(List.range 1, 16)]) (.exit 16)) (.seq 8201 (.region [(List.range 8, 8201)]) (.cond (.seq 16 (.region [(List.range 1, 16)]) (.exit 16)) .leaf))))) (.seq 9 (.region [(List.range 6, 9)]) (.seq 0 (.seq 939524105 (.region [(List.range 4, 939524105)]) (.block (.loop 939524105 (.seq 2013265929 (.region [(List.range 1, 2013265929)]) (.seq 939524105 (.cond .leaf (.exit 0)) (.seq 939524105 (.block (.seq 939524169 (.region [(List.range 4, 939524169)]) (.seq 939524297 (.region [(List.range 7, 939524297)]) (.seq 939524297 (.seq 550695338185 (.region [(List.range 2, 550695338185)]) (.cond (.region [(List.range 4, 939524297)]) .leaf)) (.join (.seq 939524553 (.region [(List.range 8, 939524553)]) (.seq 939525065 (.region [(List.range 3, 939525065)]) (.seq 18446744074649076681 (.region [(List.range 13, 18446744074649076681)]) (.join (.cond (.region [(List.range 6, 939524105)]) (.tree (.run [0, 1, 2, 4, 6, 7] (.alt 3 (.alt 5 (.run [8, 9, 10] .done) (.alt 8 (.alt 5 (.run [9, 10] .done) (.alt 9 (.run [5, 10] .done) .nil)) .nil)) (.alt 5 (.alt 3 (.run [8, 9, 10] .done) (.alt 8 (.alt 3 (.run [9, 10] .done) (.alt 9 (.run [3, 10] .done) .nil)) .nil)) (.alt 8 (.alt 3 (.alt 5 (.run [9, 10] .done) (.alt 9 (.run [5, 10] .done) .nil)) (.alt 5 (.alt 3 (.run [9, 10] .done) (.alt 9 (.run [3, 10] .done) .nil)) (.alt 9 (.run [3, 5, 10] .done) .nil))) .nil)))) 939524105))))))))))) (.join (.region [(List.range 2, 939524105)])))))))) (.seq 16 (.region [(List.range 1, 16)]) (.exit 16))))))
noncomputable abbrev cd (n : Nat) : Code := sub (bodyOf Try.f14) (pth n)
abbrev an (n : Nat) : Ann := subA ann (pth n)
@[irreducible] def X1  : Fr := (mkFr 0 81 [])
@[irreducible] def L1 (s0 : OA) (c3 : Addr) (t27 : OA) (t27n t27c : Nat) (t28 t29 : Int) (K : EP) (h : Heap) : Prop := Lp PP true (cd 244) (mkFr 0 81 [(0, (.pointer s0)), (3, (.pointer (some c3))), (27, (.slice t27 t27n t27c)), (28, (.int .i64 t28)), (29, (.int .i64 t29))]) K h
@[irreducible] def B1 (K : EP) : EP := seqK (fun fr h => Lp PP true (cd 244) (fr.mask 939524105) K h) K
@[irreducible] def K4 (K : EP) : EP := seqK (fun fr h => Jn PP true (cd 1959) (fr.mask 939524105) (B1 K) h) (B1 K)
@[irreducible] def K2 (K : EP) : EP := blockK 2 (K4 K)
@[irreducible] def J1 (s0 : OA) (c3 w6 v7 : Addr) (t27 : OA) (t27n t27c : Nat) (t28 t29 : Int) (K : EP) (h : Heap) : Prop := Jn PP true (cd 31335) (mkFr 0 81 [(0, (.pointer s0)), (3, (.pointer (some c3))), (6, (.pointer (some w6))), (7, (.pointer (some v7))), (27, (.slice t27 t27n t27c)), (28, (.int .i64 t28)), (29, (.int .i64 t29))]) (K2 K) h
@[irreducible] def K3 (Q : VP) : EP := seqK (fun fr h => ev PP true none (cd 31) (an 31) (fr.mask 0) (bodyK PP Try.f14 Q) h) (bodyK PP Try.f14 Q)
@[irreducible] def K1 (Q : VP) : EP := blockK 1 (K3 Q)
@[irreducible] def J2 (s0 : OA) (c3 w6 v7 : Addr) (xl8 : OA) (xl8n xl8c : Nat) (xn9 : Int) (t27 : OA) (t27n t27c : Nat) (t28 t29 : Int) (t64 : Bool) (K : EP) (h : Heap) : Prop := Jn PP true (cd 250687) (mkFr 0 81 [(0, (.pointer s0)), (3, (.pointer (some c3))), (6, (.pointer (some w6))), (7, (.pointer (some v7))), (8, (.slice xl8 xl8n xl8c)), (9, (.int .i64 xn9)), (27, (.slice t27 t27n t27c)), (28, (.int .i64 t28)), (29, (.int .i64 t29)), (64, (.bool t64))]) (K2 K) h
@[irreducible] def J3 (s0 : OA) (c3 : Addr) (t27 : OA) (t27n t27c : Nat) (t28 t29 : Int) (K : EP) (h : Heap) : Prop := Jn PP true (cd 1959) (mkFr 0 81 [(0, (.pointer s0)), (3, (.pointer (some c3))), (27, (.slice t27 t27n t27c)), (28, (.int .i64 t28)), (29, (.int .i64 t29))]) (B1 K) h
theorem L1_of {s0 : OA} {c3 : Addr} {t27 : OA} {t27n t27c : Nat} {t28 t29 : Int} {K : EP} {h : Heap} (H :
 let t30 : Bool := decide (t29 < t28)
 br t30 (
 hwp PP (Instr.indexAt T_sl_api_Write (.slice t27 t27n t27c) (.int .i64 t29)) (fun v h1 => ∃ (t31 : Addr), v = (.pointer (some t31)) ∧
 ∃ (t32f0 t32f1 t32f2 : ByteArray) (t32f3 : Bool) (t32f4 : ByteArray), rdCells h1 t31 0 [(.string t32f0), (.string t32f1), (.string t32f2), (.bool t32f3), (.string t32f4)] ∧
 let w6 : Addr := ⟨Array.size h1, 0, none⟩
 let h2 : Heap := Array.push h1 (.cells #[(.string (⟨#[]⟩ : ByteArray)), (.string (⟨#[]⟩ : ByteArray)), (.string (⟨#[]⟩ : ByteArray)), (.bool false), (.string (⟨#[]⟩ : ByteArray))] T_api_Write (0, 0))
 wrCells w6 0 [(.string t32f0), (.string t32f1), (.string t32f2), (.bool t32f3), (.string t32f4)] (fun h3 =>
 ∃ (t34 : Int), cellH h3 c3 = some (.int .i64 t34) ∧
 ∃ (t36 : Bool), cellH h3 (Addr.add w6 3) = some (.bool t36) ∧
 let v7 : Addr := ⟨Array.size h3, 0, none⟩
 let h4 : Heap := Array.push h3 (.cells #[(.int .i64 0), (.bool false), (.string (⟨#[]⟩ : ByteArray))] T_chain_version (0, 0))
 wrCells v7 0 [(.int .i64 t34), (.bool t36), (.string (⟨#[]⟩ : ByteArray))] (fun h5 =>
 ∃ (t39 : Bool), cellH h5 (Addr.add w6 3) = some (.bool t39) ∧
 br t39 (
 ∃ (t41 : ByteArray), cellH h5 (Addr.add w6 4) = some (.string t41) ∧
 wr (Addr.add v7 2) (.string t41) (fun h6 =>
 J1 s0 c3 w6 v7 t27 t27n t27c t28 t29 K h6) h5) (
 J1 s0 c3 w6 v7 t27 t27n t27c t28 t29 K h5)) h4) h2) h) (
 K (.exit 1) (X1) h)) : L1 s0 c3 t27 t27n t27c t28 t29 K h := by unfold L1; exact Lp.of_txt (an 244) 939524105 (by kernel_rfl) H
theorem L1_X1 {Q : VP}  {h : Heap} (H :
 Q (.int .i64 0) h) : (K1 Q) (.exit 1) (X1 ) h := of_eq_txt (by kernel_rfl) H
theorem J1_of {s0 : OA} {c3 w6 v7 : Addr} {t27 : OA} {t27n t27c : Nat} {t28 t29 : Int} {K : EP} {h : Heap} (H :
 nilc s0 (fun t44 =>
 ∃ (t46 : ON), cellH h t44 = some (.map t46) ∧
 ∃ (t48f0 t48f1 t48f2 : ByteArray), rdCells h w6 0 [(.string t48f0), (.string t48f1), (.string t48f2)] ∧
 hwp PP (Instr.lookup T_map_api_Key_sl_chain_version (.map t46) (.agg #[(.string t48f0), (.string t48f1), (.string t48f2)]) false) (fun v h1 => ∃ (t49 : OA) (t49n t49c : Nat), v = (.slice t49 t49n t49c) ∧
 let t53 : Bool := decide ((t49n : Int) > 0)
 br t53 (
 let t57 : Int := IntKind.i64.wrap ((t49n : Int) - 1)
 hwp PP (Instr.indexAt T_sl_chain_version (.slice t49 t49n t49c) (.int .i64 t57)) (fun v_1 h2 => ∃ (t58 : Addr), v_1 = (.pointer (some t58)) ∧
 ∃ (t60 : Int), cellH h2 t58 = some (.int .i64 t60) ∧
 ∃ (t62 : Int), cellH h2 c3 = some (.int .i64 t62) ∧
 let t63 : Bool := (t60 == t62)
 J2 s0 c3 w6 v7 t49 t49n t49c (t49n : Int) t27 t27n t27c t28 t29 t63 K h2) h1) (
 J2 s0 c3 w6 v7 t49 t49n t49c (t49n : Int) t27 t27n t27c t28 t29 false K h1)) h)) : J1 s0 c3 w6 v7 t27 t27n t27c t28 t29 K h := by unfold J1; exact Jn.of_txt (an 31335) (by kernel_rfl) H
theorem J2_of {s0 : OA} {c3 w6 v7 : Addr} {xl8 : OA} {xl8n xl8c : Nat} {xn9 : Int} {t27 : OA} {t27n t27c : Nat} {t28 t29 : Int} {t64 : Bool} {K : EP} {h : Heap} (H :
 br t64 (
 let t67 : Int := IntKind.i64.wrap (xn9 - 1)
 ∃ (t68f0 : Int) (t68f1 : Bool) (t68f2 : ByteArray), rdCells h v7 0 [(.int .i64 t68f0), (.bool t68f1), (.string t68f2)] ∧
 hwp PP (Instr.indexAt T_sl_chain_version (.slice xl8 xl8n xl8c) (.int .i64 t67)) (fun v h1 => ∃ (t69 : Addr), v = (.pointer (some t69)) ∧
 wrCells t69 0 [(.int .i64 t68f0), (.bool t68f1), (.string t68f2)] (fun h2 =>
 J3 s0 c3 t27 t27n t27c t28 t29 K h2) h1) h) (
 nilc s0 (fun t71 =>
 ∃ (t77f0 : Int) (t77f1 : Bool) (t77f2 : ByteArray), rdCells h v7 0 [(.int .i64 t77f0), (.bool t77f1), (.string t77f2)] ∧
 (
 ∃ (t73_7 : ON), cellH h t71 = some (.map t73_7) ∧
 (
 ∃ (t75_7f0 t75_7f1 t75_7f2 : ByteArray), rdCells h w6 0 [(.string t75_7f0), (.string t75_7f1), (.string t75_7f2)] ∧
 let h27 : Heap := Array.push h (.cells #[(.int .i64 t77f0), (.bool t77f1), (.string t77f2)] T_chain_version (0, 0))
 hwp PP (Builtin.append_ #[T_sl_chain_version, T_sl_chain_version] T_sl_chain_version #[(.slice xl8 xl8n xl8c), (.slice (some ⟨Array.size h, 0, none⟩) 1 1)]) (fun v_11 h28 => ∃ (t79_10 : OA) (t79_10n t79_10c : Nat), v_11 = (.slice t79_10 t79_10n t79_10c) ∧
 hwp PP (Instr.mapUpdate T_map_api_Key_sl_chain_version (.map t73_7) (.agg #[(.string t75_7f0), (.string t75_7f1), (.string t75_7f2)]) (.slice t79_10 t79_10n t79_10c)) (fun _ h29 =>
 J3 s0 c3 t27 t27n t27c t28 t29 K h29) h28) h27) ∧
 (
 let h22 : Heap := Array.push h (.cells #[(.int .i64 t77f0), (.bool t77f1), (.string t77f2)] T_chain_version (0, 0))
 (
 ∃ (t75_6f0 t75_6f1 t75_6f2 : ByteArray), rdCells h22 w6 0 [(.string t75_6f0), (.string t75_6f1), (.string t75_6f2)] ∧
 hwp PP (Builtin.append_ #[T_sl_chain_version, T_sl_chain_version] T_sl_chain_version #[(.slice xl8 xl8n xl8c), (.slice (some ⟨Array.size h, 0, none⟩) 1 1)]) (fun v_10 h25 => ∃ (t79_9 : OA) (t79_9n t79_9c : Nat), v_10 = (.slice t79_9 t79_9n t79_9c) ∧
 hwp PP (Instr.mapUpdate T_map_api_Key_sl_chain_version (.map t73_7) (.agg #[(.string t75_6f0), (.string t75_6f1), (.string t75_6f2)]) (.slice t79_9 t79_9n t79_9c)) (fun _ h26 =>
 J3 s0 c3 t27 t27n t27c t28 t29 K h26) h25) h22) ∧
 (
 hwp PP (Builtin.append_ #[T_sl_chain_version, T_sl_chain_version] T_sl_chain_version #[(.slice xl8 xl8n xl8c), (.slice (some ⟨Array.size h, 0, none⟩) 1 1)]) (fun v_9 h23 => ∃ (t79_8 : OA) (t79_8n t79_8c : Nat), v_9 = (.slice t79_8 t79_8n t79_8c) ∧
 ∃ (t75_5f0 t75_5f1 t75_5f2 : ByteArray), rdCells h23 w6 0 [(.string t75_5f0), (.string t75_5f1), (.string t75_5f2)] ∧
 hwp PP (Instr.mapUpdate T_map_api_Key_sl_chain_version (.map t73_7) (.agg #[(.string t75_5f0), (.string t75_5f1), (.string t75_5f2)]) (.slice t79_8 t79_8n t79_8c)) (fun _ h24 =>
 J3 s0 c3 t27 t27n t27c t28 t29 K h24) h23) h22) ∧
 True) ∧
 True) ∧
 (
 ∃ (t75_4f0 t75_4f1 t75_4f2 : ByteArray), rdCells h w6 0 [(.string t75_4f0), (.string t75_4f1), (.string t75_4f2)] ∧
 (
 ∃ (t73_6 : ON), cellH h t71 = some (.map t73_6) ∧
 let h19 : Heap := Array.push h (.cells #[(.int .i64 t77f0), (.bool t77f1), (.string t77f2)] T_chain_version (0, 0))
 hwp PP (Builtin.append_ #[T_sl_chain_version, T_sl_chain_version] T_sl_chain_version #[(.slice xl8 xl8n xl8c), (.slice (some ⟨Array.size h, 0, none⟩) 1 1)]) (fun v_8 h20 => ∃ (t79_7 : OA) (t79_7n t79_7c : Nat), v_8 = (.slice t79_7 t79_7n t79_7c) ∧
 hwp PP (Instr.mapUpdate T_map_api_Key_sl_chain_version (.map t73_6) (.agg #[(.string t75_4f0), (.string t75_4f1), (.string t75_4f2)]) (.slice t79_7 t79_7n t79_7c)) (fun _ h21 =>
 J3 s0 c3 t27 t27n t27c t28 t29 K h21) h20) h19) ∧
 (
 let h14 : Heap := Array.push h (.cells #[(.int .i64 t77f0), (.bool t77f1), (.string t77f2)] T_chain_version (0, 0))
 (
 ∃ (t73_5 : ON), cellH h14 t71 = some (.map t73_5) ∧
 hwp PP (Builtin.append_ #[T_sl_chain_version, T_sl_chain_version] T_sl_chain_version #[(.slice xl8 xl8n xl8c), (.slice (some ⟨Array.size h, 0, none⟩) 1 1)]) (fun v_7 h17 => ∃ (t79_6 : OA) (t79_6n t79_6c : Nat), v_7 = (.slice t79_6 t79_6n t79_6c) ∧
 hwp PP (Instr.mapUpdate T_map_api_Key_sl_chain_version (.map t73_5) (.agg #[(.string t75_4f0), (.string t75_4f1), (.string t75_4f2)]) (.slice t79_6 t79_6n t79_6c)) (fun _ h18 =>
 J3 s0 c3 t27 t27n t27c t28 t29 K h18) h17) h14) ∧
 (
 hwp PP (Builtin.append_ #[T_sl_chain_version, T_sl_chain_version] T_sl_chain_version #[(.slice xl8 xl8n xl8c), (.slice (some ⟨Array.size h, 0, none⟩) 1 1)]) (fun v_6 h15 => ∃ (t79_5 : OA) (t79_5n t79_5c : Nat), v_6 = (.slice t79_5 t79_5n t79_5c) ∧
 ∃ (t73_4 : ON), cellH h15 t71 = some (.map t73_4) ∧
 hwp PP (Instr.mapUpdate T_map_api_Key_sl_chain_version (.map t73_4) (.agg #[(.string t75_4f0), (.string t75_4f1), (.string t75_4f2)]) (.slice t79_5 t79_5n t79_5c)) (fun _ h16 =>
 J3 s0 c3 t27 t27n t27c t28 t29 K h16) h15) h14) ∧
 True) ∧
 True) ∧
 (
 let h3 : Heap := Array.push h (.cells #[(.int .i64 t77f0), (.bool t77f1), (.string t77f2)] T_chain_version (0, 0))
 (
 ∃ (t73_3 : ON), cellH h3 t71 = some (.map t73_3) ∧
 (
 ∃ (t75_3f0 t75_3f1 t75_3f2 : ByteArray), rdCells h3 w6 0 [(.string t75_3f0), (.string t75_3f1), (.string t75_3f2)] ∧
 hwp PP (Builtin.append_ #[T_sl_chain_version, T_sl_chain_version] T_sl_chain_version #[(.slice xl8 xl8n xl8c), (.slice (some ⟨Array.size h, 0, none⟩) 1 1)]) (fun v_5 h12 => ∃ (t79_4 : OA) (t79_4n t79_4c : Nat), v_5 = (.slice t79_4 t79_4n t79_4c) ∧
 hwp PP (Instr.mapUpdate T_map_api_Key_sl_chain_version (.map t73_3) (.agg #[(.string t75_3f0), (.string t75_3f1), (.string t75_3f2)]) (.slice t79_4 t79_4n t79_4c)) (fun _ h13 =>
 J3 s0 c3 t27 t27n t27c t28 t29 K h13) h12) h3) ∧
 (
 hwp PP (Builtin.append_ #[T_sl_chain_version, T_sl_chain_version] T_sl_chain_version #[(.slice xl8 xl8n xl8c), (.slice (some ⟨Array.size h, 0, none⟩) 1 1)]) (fun v_4 h10 => ∃ (t79_3 : OA) (t79_3n t79_3c : Nat), v_4 = (.slice t79_3 t79_3n t79_3c) ∧
 ∃ (t75_2f0 t75_2f1 t75_2f2 : ByteArray), rdCells h10 w6 0 [(.string t75_2f0), (.string t75_2f1), (.string t75_2f2)] ∧
 hwp PP (Instr.mapUpdate T_map_api_Key_sl_chain_version (.map t73_3) (.agg #[(.string t75_2f0), (.string t75_2f1), (.string t75_2f2)]) (.slice t79_3 t79_3n t79_3c)) (fun _ h11 =>
 J3 s0 c3 t27 t27n t27c t28 t29 K h11) h10) h3) ∧
 True) ∧
 (
 ∃ (t75_1f0 t75_1f1 t75_1f2 : ByteArray), rdCells h3 w6 0 [(.string t75_1f0), (.string t75_1f1), (.string t75_1f2)] ∧
 (
 ∃ (t73_2 : ON), cellH h3 t71 = some (.map t73_2) ∧
 hwp PP (Builtin.append_ #[T_sl_chain_version, T_sl_chain_version] T_sl_chain_version #[(.slice xl8 xl8n xl8c), (.slice (some ⟨Array.size h, 0, none⟩) 1 1)]) (fun v_3 h8 => ∃ (t79_2 : OA) (t79_2n t79_2c : Nat), v_3 = (.slice t79_2 t79_2n t79_2c) ∧
 hwp PP (Instr.mapUpdate T_map_api_Key_sl_chain_version (.map t73_2) (.agg #[(.string t75_1f0), (.string t75_1f1), (.string t75_1f2)]) (.slice t79_2 t79_2n t79_2c)) (fun _ h9 =>
 J3 s0 c3 t27 t27n t27c t28 t29 K h9) h8) h3) ∧
 (
 hwp PP (Builtin.append_ #[T_sl_chain_version, T_sl_chain_version] T_sl_chain_version #[(.slice xl8 xl8n xl8c), (.slice (some ⟨Array.size h, 0, none⟩) 1 1)]) (fun v_2 h6 => ∃ (t79_1 : OA) (t79_1n t79_1c : Nat), v_2 = (.slice t79_1 t79_1n t79_1c) ∧
 ∃ (t73_1 : ON), cellH h6 t71 = some (.map t73_1) ∧
 hwp PP (Instr.mapUpdate T_map_api_Key_sl_chain_version (.map t73_1) (.agg #[(.string t75_1f0), (.string t75_1f1), (.string t75_1f2)]) (.slice t79_1 t79_1n t79_1c)) (fun _ h7 =>
 J3 s0 c3 t27 t27n t27c t28 t29 K h7) h6) h3) ∧
 True) ∧
 (
 hwp PP (Builtin.append_ #[T_sl_chain_version, T_sl_chain_version] T_sl_chain_version #[(.slice xl8 xl8n xl8c), (.slice (some ⟨Array.size h, 0, none⟩) 1 1)]) (fun v_1 h4 => ∃ (t79 : OA) (t79n t79c : Nat), v_1 = (.slice t79 t79n t79c) ∧
 ∃ (t73 : ON), cellH h4 t71 = some (.map t73) ∧
 ∃ (t75f0 t75f1 t75f2 : ByteArray), rdCells h4 w6 0 [(.string t75f0), (.string t75f1), (.string t75f2)] ∧
 hwp PP (Instr.mapUpdate T_map_api_Key_sl_chain_version (.map t73) (.agg #[(.string t75f0), (.string t75f1), (.string t75f2)]) (.slice t79 t79n t79c)) (fun _ h5 =>
 J3 s0 c3 t27 t27n t27c t28 t29 K h5) h4) h3) ∧
 True) ∧
 True))) : J2 s0 c3 w6 v7 xl8 xl8n xl8c xn9 t27 t27n t27c t28 t29 t64 K h := by unfold J2; exact Jn.of_txt (an 250687) (by kernel_rfl) H
theorem J3_of {s0 : OA} {c3 : Addr} {t27 : OA} {t27n t27c : Nat} {t28 t29 : Int} {K : EP} {h : Heap} (H :
 let t80 : Int := IntKind.i64.wrap (t29 + 1)
 L1 s0 c3 t27 t27n t27c t28 t80 K h) : J3 s0 c3 t27 t27n t27c t28 t29 K h := by unfold J3; exact Jn.of_txt (an 1959) (by kernel_rfl) H
theorem door {s0 : OA} {c1f0 : Int} {c1f1 : OA} {c1f1n c1f1c : Nat} {Q : VP} {h : Heap} (H :
 let c3 : Addr := ⟨Array.size h, 0, none⟩
 let h1 : Heap := Array.push h (.cells #[(.int .i64 c1f0), (.slice c1f1 c1f1n c1f1c)] T_api_Commit (0, 0))
 let t12 : Bool := (Option.isNone s0)
 br t12 (
 Q (.int .i64 3) h1) (
 ∃ (t15 : Int), cellH h1 c3 = some (.int .i64 t15) ∧
 nilc s0 (fun t17 =>
 ∃ (t19 : Int), cellH h1 (Addr.add t17 1) = some (.int .i64 t19) ∧
 let t20 : Bool := decide (t15 ≤ t19)
 br t20 (
 Q (.int .i64 120) h1) (
 ∃ (t23 : Int), cellH h1 c3 = some (.int .i64 t23) ∧
 nilc s0 (fun t24 =>
 wr (Addr.add t24 1) (.int .i64 t23) (fun h2 =>
 ∃ (t27 : OA) (t27n t27c : Nat), cellH h2 (Addr.add c3 1) = some (.slice t27 t27n t27c) ∧
 L1 s0 c3 t27 t27n t27c (t27n : Int) 0 (K1 Q) h2) h1))))) : SpecH PP F_chain_Store_Put [(.pointer s0), (.agg #[(.int .i64 c1f0), (.slice c1f1 c1f1n c1f1c)])] h Q :=
   spec_of_txt (ann := ann) Try.func14 rfl rfl (by kernel_rfl) H
end chain_Store_Put
/-! ### haversack/haversackref12.Same: function 15 -/
namespace ref12_Same
def ann : Ann := (.seq 3 (.region [(List.range 1, 3)]) (.seq 3 (.seq 2051 (.region [(List.range 5, 2051)]) (.cond (.seq 16 (.region [(List.range 1, 16)]) (.exit 16)) .leaf)) (.seq 0 (.seq 35 (.region [(List.range 1, 35)]) (.block (.loop 35 (.seq 35 (.seq 32803 (.region [(List.range 4, 32803)]) (.cond .leaf (.exit 0))) (.seq 35 (.block (.seq 35 (.seq 72057594037927971 (.region [(List.range 39, 72057594037927971)]) (.join (.cond (.seq 16 (.region [(List.range 1, 16)]) (.exit 16)) .leaf))) (.seq 99 (.region [(List.range 1, 99)]) (.block (.loop 99 (.seq 99 (.seq 18446744073709551715 (.region [(List.range 8, 18446744073709551715)]) (.cond .leaf (.exit 35))) (.seq 99 (.block (.seq 9671406556917033397649507 (.region [(List.range 17, 9671406556917033397649507)]) (.cond (.seq 16 (.region [(List.range 1, 16)]) (.exit 16)) .leaf))) (.region [(List.range 3, 99)])))))))) (.region [(List.range 3, 35)])))))) (.seq 16 (.region [(List.range 1, 16)]) (.exit 16)))))
noncomputable abbrev cd (n : Nat) : Code := sub (bodyOf Try.f15) (pth n)
abbrev an (n : Nat) : Ann := subA ann (pth n)
@[irreducible] def X0  : Fr := (mkFr 0 84 [])
@[irreducible] def Xret (t4 : Bool) : Fr := (mkFr 0 84 [(4, (.bool t4))])
@[irreducible] def X2 (a0 : OA) (a0n a0c : Nat) (b1 : OA) (b1n b1c : Nat) (i5 : Int) : Fr := (mkFr 0 84 [(0, (.slice a0 a0n a0c)), (1, (.slice b1 b1n b1c)), (5, (.int .i64 i5))])
@[irreducible] def L1 (a0 : OA) (a0n a0c : Nat) (b1 : OA) (b1n b1c : Nat) (i5 : Int) (K : EP) (h : Heap) : Prop := Lp PP true (cd 116) (mkFr 0 84 [(0, (.slice a0 a0n a0c)), (1, (.slice b1 b1n b1c)), (5, (.int .i64 i5))]) K h
@[irreducible] def B1 (K : EP) : EP := seqK (fun fr h => Lp PP true (cd 116) (fr.mask 35) K h) K
@[irreducible] def K6 (K : EP) : EP := seqK (fun fr h => ev PP true none (cd 467) (an 467) (fr.mask 35) (B1 K) h) (B1 K)
@[irreducible] def K5 (K : EP) : EP := blockK 1 (K6 K)
@[irreducible] def K2 (K : EP) : EP := seqK (fun fr h => ev PP true none (cd 1865) (an 1865) (fr.mask 35) (K5 K) h) (K5 K)
@[irreducible] def J1 (a0 : OA) (a0n a0c : Nat) (b1 : OA) (b1n b1c : Nat) (i5 : Int) (t56 : Bool) (K : EP) (h : Heap) : Prop := Jn PP true (cd 3729) (mkFr 0 84 [(0, (.slice a0 a0n a0c)), (1, (.slice b1 b1n b1c)), (5, (.int .i64 i5)), (56, (.bool t56))]) (K2 K) h
@[irreducible] def K4 (Q : VP) : EP := seqK (fun fr h => ev PP true none (cd 15) (an 15) (fr.mask 0) (bodyK PP Try.f15 Q) h) (bodyK PP Try.f15 Q)
@[irreducible] def K1 (Q : VP) : EP := blockK 0 (K4 Q)
@[irreducible] def K3 (K : EP) : EP := blockK 2 (K5 K)
@[irreducible] def L2 (a0 : OA) (a0n a0c : Nat) (b1 : OA) (b1n b1c : Nat) (i5 k6 : Int) (K : EP) (h : Heap) : Prop := Lp PP true (cd 14924) (mkFr 0 84 [(0, (.slice a0 a0n a0c)), (1, (.slice b1 b1n b1c)), (5, (.int .i64 i5)), (6, (.int .i64 k6))]) K h
@[irreducible] def B2 (K : EP) : EP := seqK (fun fr h => Lp PP true (cd 14924) (fr.mask 99) K h) K
theorem L1_of {a0 : OA} {a0n a0c : Nat} {b1 : OA} {b1n b1c : Nat} {i5 : Int} {K : EP} {h : Heap} (H :
 let t15 : Bool := decide (i5 < (a0n : Int))
 br t15 (
 hwp PP (Instr.indexAt T_sl_api_Archive (.slice a0 a0n a0c) (.int .i64 i5)) (fun v h1 => ∃ (t20 : Addr), v = (.pointer (some t20)) ∧
 ∃ (t22 : ByteArray), cellH h1 t20 = some (.string t22) ∧
 hwp PP (Instr.indexAt T_sl_api_Archive (.slice b1 b1n b1c) (.int .i64 i5)) (fun v_1 h2 => ∃ (t25 : Addr), v_1 = (.pointer (some t25)) ∧
 ∃ (t27 : ByteArray), cellH h2 t25 = some (.string t27) ∧
 let t28 : Bool := (!decide (t22 = t27))
 br t28 (
 J1 a0 a0n a0c b1 b1n b1c i5 true K h2) (
 hwp PP (Instr.indexAt T_sl_api_Archive (.slice a0 a0n a0c) (.int .i64 i5)) (fun v_2 h3 => ∃ (t32 : Addr), v_2 = (.pointer (some t32)) ∧
 ∃ (t34 : ByteArray), cellH h3 (Addr.add t32 1) = some (.string t34) ∧
 hwp PP (Instr.indexAt T_sl_api_Archive (.slice b1 b1n b1c) (.int .i64 i5)) (fun v_3 h4 => ∃ (t37 : Addr), v_3 = (.pointer (some t37)) ∧
 ∃ (t39 : ByteArray), cellH h4 (Addr.add t37 1) = some (.string t39) ∧
 let t40 : Bool := (!decide (t34 = t39))
 br t40 (
 J1 a0 a0n a0c b1 b1n b1c i5 true K h4) (
 hwp PP (Instr.indexAt T_sl_api_Archive (.slice a0 a0n a0c) (.int .i64 i5)) (fun v_4 h5 => ∃ (t45 : Addr), v_4 = (.pointer (some t45)) ∧
 ∃ (t47 : OA) (t47n t47c : Nat), cellH h5 (Addr.add t45 2) = some (.slice t47 t47n t47c) ∧
 hwp PP (Instr.indexAt T_sl_api_Archive (.slice b1 b1n b1c) (.int .i64 i5)) (fun v_5 h6 => ∃ (t51 : Addr), v_5 = (.pointer (some t51)) ∧
 ∃ (t53 : OA) (t53n t53c : Nat), cellH h6 (Addr.add t51 2) = some (.slice t53 t53n t53c) ∧
 let t55 : Bool := ((t47n : Int) != (t53n : Int))
 J1 a0 a0n a0c b1 b1n b1c i5 t55 K h6) h5) h4)) h3) h2)) h1) h) (
 K (.exit 0) (X0) h)) : L1 a0 a0n a0c b1 b1n b1c i5 K h := by unfold L1; exact Lp.of_txt (an 116) 35 (by kernel_rfl) H
theorem L1_X0 {Q : VP}  {h : Heap} (H :
 Q (.bool true) h) : (K1 Q) (.exit 0) (X0 ) h := of_eq_txt (by kernel_rfl) H
theorem J1_of {a0 : OA} {a0n a0c : Nat} {b1 : OA} {b1n b1c : Nat} {i5 : Int} {t56 : Bool} {K : EP} {h : Heap} (H :
 br t56 (
 K .ret (Xret false) h) (
 L2 a0 a0n a0c b1 b1n b1c i5 0 (K3 K) h)) : J1 a0 a0n a0c b1 b1n b1c i5 t56 K h := by unfold J1; exact Jn.of_txt (an 3729) (by kernel_rfl) H
theorem L1_Xret {Q : VP} {t4 : Bool} {h : Heap} (H :
 Q (.bool t4) h) : (K1 Q) .ret (Xret t4) h := of_eq_txt (by kernel_rfl) H
theorem L2_of {a0 : OA} {a0n a0c : Nat} {b1 : OA} {b1n b1c : Nat} {i5 k6 : Int} {K : EP} {h : Heap} (H :
 hwp PP (Instr.indexAt T_sl_api_Archive (.slice a0 a0n a0c) (.int .i64 i5)) (fun v h1 => ∃ (t60 : Addr), v = (.pointer (some t60)) ∧
 ∃ (t62 : OA) (t62n t62c : Nat), cellH h1 (Addr.add t60 2) = some (.slice t62 t62n t62c) ∧
 let t64 : Bool := decide (k6 < (t62n : Int))
 br t64 (
 hwp PP (Instr.indexAt T_sl_api_Archive (.slice a0 a0n a0c) (.int .i64 i5)) (fun v_1 h2 => ∃ (t69 : Addr), v_1 = (.pointer (some t69)) ∧
 ∃ (t71 : OA) (t71n t71c : Nat), cellH h2 (Addr.add t69 2) = some (.slice t71 t71n t71c) ∧
 hwp PP (Instr.indexAt T_sl_api_Entry (.slice t71 t71n t71c) (.int .i64 k6)) (fun v_2 h3 => ∃ (t73 : Addr), v_2 = (.pointer (some t73)) ∧
 ∃ (t74f0 t74f1 : ByteArray), rdCells h3 t73 0 [(.string t74f0), (.string t74f1)] ∧
 hwp PP (Instr.indexAt T_sl_api_Archive (.slice b1 b1n b1c) (.int .i64 i5)) (fun v_3 h4 => ∃ (t77 : Addr), v_3 = (.pointer (some t77)) ∧
 ∃ (t79 : OA) (t79n t79c : Nat), cellH h4 (Addr.add t77 2) = some (.slice t79 t79n t79c) ∧
 hwp PP (Instr.indexAt T_sl_api_Entry (.slice t79 t79n t79c) (.int .i64 k6)) (fun v_4 h5 => ∃ (t81 : Addr), v_4 = (.pointer (some t81)) ∧
 ∃ (t82f0 t82f1 : ByteArray), rdCells h5 t81 0 [(.string t82f0), (.string t82f1)] ∧
 let t83 : Bool := (!(decide (t74f0 = t82f0) && (decide (t74f1 = t82f1) && true)))
 br t83 (
 K .ret (Xret false) h5) (
 let t66 : Int := IntKind.i64.wrap (k6 + 1)
 L2 a0 a0n a0c b1 b1n b1c i5 t66 K h5)) h4) h3) h2) h1) (
 K (.exit 2) (X2 a0 a0n a0c b1 b1n b1c i5) h1)) h) : L2 a0 a0n a0c b1 b1n b1c i5 k6 K h := by unfold L2; exact Lp.of_txt (an 14924) 99 (by kernel_rfl) H
theorem L2_Xret {K : EP} {t4 : Bool} {h : Heap} (H :
 K .ret (Xret t4) h) : (K3 K) .ret (Xret t4) h := of_eq_txt (by kernel_rfl) H
theorem L2_X2 {K : EP} {a0 : OA} {a0n a0c : Nat} {b1 : OA} {b1n b1c : Nat} {i5 : Int} {h : Heap} (H :
 let t17 : Int := IntKind.i64.wrap (i5 + 1)
 L1 a0 a0n a0c b1 b1n b1c t17 K h) : (K3 K) (.exit 2) (X2 a0 a0n a0c b1 b1n b1c i5) h := of_eq_txt (by kernel_rfl) H
theorem door {a0 : OA} {a0n a0c : Nat} {b1 : OA} {b1n b1c : Nat} {Q : VP} {h : Heap} (H :
 let t11 : Bool := ((a0n : Int) != (b1n : Int))
 br t11 (
 Q (.bool false) h) (
 L1 a0 a0n a0c b1 b1n b1c 0 (K1 Q) h)) : SpecH PP F_ref12_Same [(.slice a0 a0n a0c), (.slice b1 b1n b1c)] h Q :=
   spec_of_txt (ann := ann) Try.func15 rfl rfl (by kernel_rfl) H
end ref12_Same
/-! ### (*haversack/chain.Store).Versions: function 16 -/
namespace chain_Store_Versions
def ann : Ann := (.seq 1 (.region [(List.range 1, 1)]) (.seq 9 (.region [(List.range 1, 9)]) (.seq 8 (.seq 137 (.region [(List.range 2, 137)]) (.cond (.seq 4104 (.region [(List.range 5, 4104)]) (.block (.loop 4104 (.seq 20488 (.region [(List.range 2, 20488)]) (.seq 4104 (.cond .leaf (.exit 8)) (.block (.seq 4136 (.region [(List.range 3, 4136)]) (.region [(List.range 5, 4104)])))))))) .leaf)) (.join (.seq 4 (.region [(List.range 2, 4)]) (.exit 4))))))
noncomputable abbrev cd (n : Nat) : Code := sub (bodyOf Try.f16) (pth n)
abbrev an (n : Nat) : Ann := subA ann (pth n)
@[irreducible] def X0 (xn3 : Int) : Fr := (mkFr 0 22 [(3, (.int .i64 xn3))])
@[irreducible] def L1 (xn3 : Int) (t12 : Value) (K : EP) (h : Heap) : Prop := Lp PP true (cd 468) (mkFr 0 22 [(3, (.int .i64 xn3)), (12, t12)]) K h
@[irreducible] def B1 (K : EP) : EP := seqK (fun fr h => Lp PP true (cd 468) (fr.mask 4104) K h) K
@[irreducible] def J1 (xn3 : Int) (Q : VP) (h : Heap) : Prop := Jn PP true (cd 15) (mkFr 0 22 [(3, (.int .i64 xn3))]) (bodyK PP Try.f16 Q) h
@[irreducible] def K2 (Q : VP) : EP := seqK (fun fr h => Jn PP true (cd 15) (fr.mask 8) (bodyK PP Try.f16 Q) h) (bodyK PP Try.f16 Q)
@[irreducible] def K1 (Q : VP) : EP := blockK 0 (K2 Q)
theorem L1_of {xn3 : Int} {t12 : Value} {K : EP} {h : Heap} (H :
 hwp PP (Instr.next t12 false T_) (fun v h1 => ∃ (b : Bool) (r : List Value), v = .tuple ((.bool b :: r).toArray) ∧
 br b (
 hwp PP (Instr.entry t12) (fun v_1 h2 => ∃ (t15 t15_1 : Value), v_1 = (.tuple #[t15, t15_1]) ∧
 ∃ (t16 : OA) (t16n t16c : Nat), t15_1 = (.slice t16 t16n t16c) ∧
 let t20 : Int := IntKind.i64.wrap (xn3 + (t16n : Int))
 L1 t20 t12 K h2) h1) (
 K (.exit 0) (X0 xn3) h1)) h) : L1 xn3 t12 K h := by unfold L1; exact Lp.of_txt (an 468) 4104 (by kernel_rfl) H
theorem L1_X0 {Q : VP} {xn3 : Int} {h : Heap} (H :
 J1 xn3 Q h) : (K1 Q) (.exit 0) (X0 xn3) h := of_eq_txt (by kernel_rfl) H
theorem J1_of {xn3 : Int} {Q : VP} {h : Heap} (H :
 Q (.int .i64 xn3) h) : J1 xn3 Q h := by unfold J1; exact Jn.of_txt (an 15) (by kernel_rfl) H
theorem door {s0 : OA} {Q : VP} {h : Heap} (H :
 let t7 : Bool := (!Option.isNone s0)
 br t7 (
 nilc s0 (fun t9 =>
 ∃ (t11 : ON), cellH h t9 = some (.map t11) ∧
 hwp PP (Instr.range T_map_api_Key_sl_chain_version (.map t11)) (fun v h1 => ∃ (t12 : Value), v = t12 ∧
 L1 0 t12 (K1 Q) h1) h)) (
 J1 0 Q h)) : SpecH PP F_chain_Store_Versions [(.pointer s0)] h Q :=
   spec_of_txt (ann := ann) Try.func16 rfl rfl (by kernel_rfl) H
end chain_Store_Versions
/-! ### (*haversack/chain.Store).Prune: function 17 -/
namespace chain_Store_Prune
def ann : Ann := (.seq 3 (.region [(List.range 1, 3)]) (.seq 3 (.seq 262147 (.region [(List.range 10, 262147)]) (.join (.cond (.seq 16 (.region [(List.range 1, 16)]) (.exit 16)) .leaf))) (.seq 1 (.region [(List.range 10, 1)]) (.seq 33 (.region [(List.range 1, 33)]) (.seq 32 (.seq 4294967329 (.region [(List.range 5, 4294967329)]) (.block (.loop 4294967329 (.seq 21474836513 (.region [(List.range 2, 21474836513)]) (.seq 4294967329 (.cond .leaf (.exit 32)) (.block (.seq 4294967521 (.region [(List.range 6, 4294967521)]) (.seq 4294967777 (.region [(List.range 8, 4294967777)]) (.seq 4294967777 (.seq 18014402804449761 (.region [(List.range 10, 18014402804449761)]) (.join (.cond (.region [(List.range 3, 4294967777)]) .leaf))) (.join (.seq 4294967777 (.region [(List.range 4, 4294967777)]) (.seq 9223372041149743585 (.region [(List.range 4, 9223372041149743585)]) (.cond (.region [(List.range 6, 4294967329)]) (.seq 1180591620721706271201 (.region [(List.range 2, 1180591620721706271201)]) (.cond (.tree (.run [0, 1, 2, 5, 6, 7] (.alt 3 (.alt 4 (.run [8, 9] .done) (.alt 8 (.run [4, 9] .done) .nil)) (.alt 4 (.alt 3 (.run [8, 9] .done) (.alt 8 (.run [3, 9] .done) .nil)) (.alt 8 (.run [3, 4, 9] .done) .nil)))) 4294967329) .leaf))))))))))))))) (.seq 16 (.region [(List.range 2, 16)]) (.exit 16)))))))
noncomputable abbrev cd (n : Nat) : Code := sub (bodyOf Try.f17) (pth n)
abbrev an (n : Nat) : Ann := subA ann (pth n)
@[irreducible] def X0 (gone5 : Int) : Fr := (mkFr 0 81 [(5, (.int .i64 gone5))])
@[irreducible] def K1 (Q : VP) : EP := seqK (fun fr h => ev PP true none (cd 7) (an 7) (fr.mask 3) (bodyK PP Try.f17 Q) h) (bodyK PP Try.f17 Q)
@[irreducible] def J1 (s0 : OA) (at1 : Int) (t18 : Bool) (Q : VP) (h : Heap) : Prop := Jn PP true (cd 13) (mkFr 0 81 [(0, (.pointer s0)), (1, (.int .i64 at1)), (18, (.bool t18))]) (K1 Q) h
@[irreducible] def K3 (Q : VP) : EP := seqK (fun fr h => ev PP true none (cd 63) (an 63) (fr.mask 32) (bodyK PP Try.f17 Q) h) (bodyK PP Try.f17 Q)
@[irreducible] def K2 (Q : VP) : EP := blockK 0 (K3 Q)
@[irreducible] def L1 (s0 : OA) (gone5 : Int) (t32 : Value) (K : EP) (h : Heap) : Prop := Lp PP true (cd 500) (mkFr 0 81 [(0, (.pointer s0)), (5, (.int .i64 gone5)), (32, t32)]) K h
@[irreducible] def B1 (K : EP) : EP := seqK (fun fr h => Lp PP true (cd 500) (fr.mask 4294967329) K h) K
@[irreducible] def K5 (K : EP) : EP := blockK 1 (B1 K)
@[irreducible] def K4 (K : EP) : EP := seqK (fun fr h => Jn PP true (cd 32055) (fr.mask 4294967777) (K5 K) h) (K5 K)
@[irreducible] def J2 (s0 : OA) (gone5 : Int) (k6 : Addr) (xl7 : OA) (xl7n xl7c : Nat) (xn8 : Int) (t32 : Value) (t54 : Bool) (K : EP) (h : Heap) : Prop := Jn PP true (cd 64109) (mkFr 0 81 [(0, (.pointer s0)), (5, (.int .i64 gone5)), (6, (.pointer (some k6))), (7, (.slice xl7 xl7n xl7c)), (8, (.int .i64 xn8)), (32, t32), (54, (.bool t54))]) (K4 K) h
@[irreducible] def J3 (s0 : OA) (gone5 : Int) (k6 : Addr) (xl7 : OA) (xl7n xl7c : Nat) (xn8 : Int) (t32 : Value) (K : EP) (h : Heap) : Prop := Jn PP true (cd 32055) (mkFr 0 81 [(0, (.pointer s0)), (5, (.int .i64 gone5)), (6, (.pointer (some k6))), (7, (.slice xl7 xl7n xl7c)), (8, (.int .i64 xn8)), (32, t32)]) (K5 K) h
theorem J1_of {s0 : OA} {at1 : Int} {t18 : Bool} {Q : VP} {h : Heap} (H :
 br t18 (
 Q (.int .i64 0) h) (
 nilc s0 (fun t22 =>
 ∃ (t24 : Int), cellH h (Addr.add t22 1) = some (.int .i64 t24) ∧
 let t25 : Int := (if t24 < at1 then t24 else at1)
 nilc s0 (fun t26 =>
 wr (Addr.add t26 2) (.int .i64 t25) (fun h1 =>
 nilc s0 (fun t29 =>
 ∃ (t31 : ON), cellH h1 t29 = some (.map t31) ∧
 hwp PP (Instr.range T_map_api_Key_sl_chain_version (.map t31)) (fun v h2 => ∃ (t32 : Value), v = t32 ∧
 L1 s0 0 t32 (K2 Q) h2) h1)) h)))) : J1 s0 at1 t18 Q h := by unfold J1; exact Jn.of_txt (an 13) (by kernel_rfl) H
theorem L1_of {s0 : OA} {gone5 : Int} {t32 : Value} {K : EP} {h : Heap} (H :
 hwp PP (Instr.next t32 false T_) (fun v h1 => ∃ (b : Bool) (r : List Value), v = .tuple ((.bool b :: r).toArray) ∧
 br b (
 hwp PP (Instr.entry t32) (fun v_1 h2 => ∃ (t35 t35_1 : Value), v_1 = (.tuple #[t35, t35_1]) ∧
 ∃ (t36f0 t36f1 t36f2 : ByteArray), t35 = (.agg #[(.string t36f0), (.string t36f1), (.string t36f2)]) ∧
 ∃ (t37 : OA) (t37n t37c : Nat), t35_1 = (.slice t37 t37n t37c) ∧
 let k6 : Addr := ⟨Array.size h2, 0, none⟩
 let h3 : Heap := Array.push h2 (.cells #[(.string (⟨#[]⟩ : ByteArray)), (.string (⟨#[]⟩ : ByteArray)), (.string (⟨#[]⟩ : ByteArray))] T_api_Key (0, 0))
 wrCells k6 0 [(.string t36f0), (.string t36f1), (.string t36f2)] (fun h4 =>
 nilc s0 (fun t41 =>
 ∃ (t43 : Int), cellH h4 (Addr.add t41 2) = some (.int .i64 t43) ∧
 SpecH PP F_chain_Store_newest [(.pointer s0), (.slice t37 t37n t37c), (.int .i64 t43)] h4 (fun v_2 h5 => ∃ (t44 : Int), v_2 = (.int .i64 t44) ∧
 let t46 : Bool := decide (t44 > 0)
 br t46 (
 let t50 : Int := IntKind.i64.wrap (t44 - 1)
 hwp PP (Instr.indexAt T_sl_chain_version (.slice t37 t37n t37c) (.int .i64 t50)) (fun v_3 h6 => ∃ (t51 : Addr), v_3 = (.pointer (some t51)) ∧
 ∃ (t53 : Bool), cellH h6 (Addr.add t51 1) = some (.bool t53) ∧
 J2 s0 gone5 k6 t37 t37n t37c t44 t32 t53 K h6) h5) (
 J2 s0 gone5 k6 t37 t37n t37c t44 t32 false K h5)))) h3) h1) (
 K (.exit 0) (X0 gone5) h1)) h) : L1 s0 gone5 t32 K h := by unfold L1; exact Lp.of_txt (an 500) 4294967329 (by kernel_rfl) H
theorem L1_X0 {Q : VP} {gone5 : Int} {h : Heap} (H :
 Q (.int .i64 gone5) h) : (K2 Q) (.exit 0) (X0 gone5) h := of_eq_txt (by kernel_rfl) H
theorem J2_of {s0 : OA} {gone5 : Int} {k6 : Addr} {xl7 : OA} {xl7n xl7c : Nat} {xn8 : Int} {t32 : Value} {t54 : Bool} {K : EP} {h : Heap} (H :
 br t54 (
 let t56 : Int := IntKind.i64.wrap (xn8 - 1)
 J3 s0 gone5 k6 xl7 xl7n xl7c t56 t32 K h) (
 J3 s0 gone5 k6 xl7 xl7n xl7c xn8 t32 K h)) : J2 s0 gone5 k6 xl7 xl7n xl7c xn8 t32 t54 K h := by unfold J2; exact Jn.of_txt (an 64109) (by kernel_rfl) H
theorem J3_of {s0 : OA} {gone5 : Int} {k6 : Addr} {xl7 : OA} {xl7n xl7c : Nat} {xn8 : Int} {t32 : Value} {K : EP} {h : Heap} (H :
 let t59 : Int := IntKind.i64.wrap (gone5 + xn8)
 let t63 : Bool := (xn8 == (xl7n : Int))
 br t63 (
 nilc s0 (fun t65 =>
 ∃ (t67 : ON), cellH h t65 = some (.map t67) ∧
 ∃ (t68f0 t68f1 t68f2 : ByteArray), rdCells h k6 0 [(.string t68f0), (.string t68f1), (.string t68f2)] ∧
 hwp PP (Builtin.delete_ #[T_map_api_Key_sl_chain_version, T_api_Key] T_ #[(.map t67), (.agg #[(.string t68f0), (.string t68f1), (.string t68f2)])]) (fun v h1 => v = (.tuple #[]) ∧
 L1 s0 t59 t32 K h1) h)) (
 let t70 : Bool := decide (xn8 > 0)
 br t70 (
 nilc s0 (fun t72 =>
 hwp PP (Instr.sliceAt T_sl_chain_version (.slice xl7 xl7n xl7c) (some (.int .i64 xn8)) none none) (fun v_1 h2 => ∃ (t78 : OA) (t78n t78c : Nat), v_1 = (.slice t78 t78n t78c) ∧
 (
 ∃ (t74_3 : ON), cellH h2 t72 = some (.map t74_3) ∧
 (
 ∃ (t75_3f0 t75_3f1 t75_3f2 : ByteArray), rdCells h2 k6 0 [(.string t75_3f0), (.string t75_3f1), (.string t75_3f2)] ∧
 SpecH PP F_slices_Clone_chain_version_chain_version [(.slice t78 t78n t78c)] h2 (fun v_6 h11 => ∃ (t79_4 : OA) (t79_4n t79_4c : Nat), v_6 = (.slice t79_4 t79_4n t79_4c) ∧
 hwp PP (Instr.mapUpdate T_map_api_Key_sl_chain_version (.map t74_3) (.agg #[(.string t75_3f0), (.string t75_3f1), (.string t75_3f2)]) (.slice t79_4 t79_4n t79_4c)) (fun _ h12 =>
 L1 s0 t59 t32 K h12) h11)) ∧
 (
 SpecH PP F_slices_Clone_chain_version_chain_version [(.slice t78 t78n t78c)] h2 (fun v_5 h9 => ∃ (t79_3 : OA) (t79_3n t79_3c : Nat), v_5 = (.slice t79_3 t79_3n t79_3c) ∧
 ∃ (t75_2f0 t75_2f1 t75_2f2 : ByteArray), rdCells h9 k6 0 [(.string t75_2f0), (.string t75_2f1), (.string t75_2f2)] ∧
 hwp PP (Instr.mapUpdate T_map_api_Key_sl_chain_version (.map t74_3) (.agg #[(.string t75_2f0), (.string t75_2f1), (.string t75_2f2)]) (.slice t79_3 t79_3n t79_3c)) (fun _ h10 =>
 L1 s0 t59 t32 K h10) h9)) ∧
 True) ∧
 (
 ∃ (t75_1f0 t75_1f1 t75_1f2 : ByteArray), rdCells h2 k6 0 [(.string t75_1f0), (.string t75_1f1), (.string t75_1f2)] ∧
 (
 ∃ (t74_2 : ON), cellH h2 t72 = some (.map t74_2) ∧
 SpecH PP F_slices_Clone_chain_version_chain_version [(.slice t78 t78n t78c)] h2 (fun v_4 h7 => ∃ (t79_2 : OA) (t79_2n t79_2c : Nat), v_4 = (.slice t79_2 t79_2n t79_2c) ∧
 hwp PP (Instr.mapUpdate T_map_api_Key_sl_chain_version (.map t74_2) (.agg #[(.string t75_1f0), (.string t75_1f1), (.string t75_1f2)]) (.slice t79_2 t79_2n t79_2c)) (fun _ h8 =>
 L1 s0 t59 t32 K h8) h7)) ∧
 (
 SpecH PP F_slices_Clone_chain_version_chain_version [(.slice t78 t78n t78c)] h2 (fun v_3 h5 => ∃ (t79_1 : OA) (t79_1n t79_1c : Nat), v_3 = (.slice t79_1 t79_1n t79_1c) ∧
 ∃ (t74_1 : ON), cellH h5 t72 = some (.map t74_1) ∧
 hwp PP (Instr.mapUpdate T_map_api_Key_sl_chain_version (.map t74_1) (.agg #[(.string t75_1f0), (.string t75_1f1), (.string t75_1f2)]) (.slice t79_1 t79_1n t79_1c)) (fun _ h6 =>
 L1 s0 t59 t32 K h6) h5)) ∧
 True) ∧
 (
 SpecH PP F_slices_Clone_chain_version_chain_version [(.slice t78 t78n t78c)] h2 (fun v_2 h3 => ∃ (t79 : OA) (t79n t79c : Nat), v_2 = (.slice t79 t79n t79c) ∧
 ∃ (t74 : ON), cellH h3 t72 = some (.map t74) ∧
 ∃ (t75f0 t75f1 t75f2 : ByteArray), rdCells h3 k6 0 [(.string t75f0), (.string t75f1), (.string t75f2)] ∧
 hwp PP (Instr.mapUpdate T_map_api_Key_sl_chain_version (.map t74) (.agg #[(.string t75f0), (.string t75f1), (.string t75f2)]) (.slice t79 t79n t79c)) (fun _ h4 =>
 L1 s0 t59 t32 K h4) h3)) ∧
 True) h)) (
 L1 s0 t59 t32 K h))) : J3 s0 gone5 k6 xl7 xl7n xl7c xn8 t32 K h := by unfold J3; exact Jn.of_txt (an 32055) (by kernel_rfl) H
theorem door {s0 : OA} {at1 : Int} {Q : VP} {h : Heap} (H :
 let t10 : Bool := (Option.isNone s0)
 br t10 (
 J1 s0 at1 true Q h) (
 nilc s0 (fun t14 =>
 ∃ (t16 : Int), cellH h (Addr.add t14 2) = some (.int .i64 t16) ∧
 let t17 : Bool := decide (at1 ≤ t16)
 J1 s0 at1 t17 Q h))) : SpecH PP F_chain_Store_Prune [(.pointer s0), (.int .i64 at1)] h Q :=
   spec_of_txt (ann := ann) Try.func17 rfl rfl (by kernel_rfl) H
end chain_Store_Prune
/-! ### haversack/chain.New: function 18 -/
namespace chain_New
def ann : Ann := (.seq 0 (.region [(List.range 1, 0)]) (.seq 1 (.region [(List.range 4, 1)]) (.exit 1)))
noncomputable abbrev cd (n : Nat) : Code := sub (bodyOf Try.f18) (pth n)
abbrev an (n : Nat) : Ann := subA ann (pth n)
theorem door  {Q : VP} {h : Heap} (H :
 let h1 : Heap := Array.push h (.map #[] 0)
 let t3 : Addr := ⟨Array.size h1, 0, none⟩
 let h2 : Heap := Array.push h1 (.cells #[(.map (some (Array.size h))), (.int .i64 0), (.int .i64 0)] T_chain_Store (0, 0))
 Q (.pointer (some t3)) h2) : SpecH PP F_chain_New [] h Q :=
   spec_of_txt (ann := ann) Try.func18 rfl rfl (by kernel_rfl) H
end chain_New
/-! ### haversack/haversacklaw12.step: function 19 -/
namespace law12_step
def ann : Ann := (.seq 35 (.region [(List.range 2, 35)]) (.seq 3 (.seq 131107 (.region [(List.range 2, 131107)]) (.block (.seq 393251 (.region [(List.range 2, 393251)]) (.cond (.seq 163 (.region [(List.range 5, 163)]) (.seq 418 (.region [(List.range 4, 418)]) (.seq 290 (.seq 930 (.region [(List.range 1, 930)]) (.block (.loop 930 (.seq 930 (.seq 1073742754 (.region [(List.range 5, 1073742754)]) (.cond .leaf (.exit 290))) (.seq 930 (.block (.seq 930 (.seq 17592186045346 (.region [(List.range 12, 17592186045346)]) (.cond (.seq 64 (.region [(List.range 1, 64)]) (.exit 64)) .leaf)) (.region [(List.range 6, 930)]))) (.region [(List.range 3, 930)])))))) (.seq 64 (.region [(List.range 7, 64)]) (.exit 64))))) (.seq 72057594038059043 (.region [(List.range 2, 72057594038059043)]) (.cond (.seq 3106 (.region [(List.range 11, 3106)]) (.seq 15360 (.region [(List.range 11, 15360)]) (.seq 64 (.region [(List.range 9, 64)]) (.exit 64)))) (.seq 19342813113834066795429923 (.region [(List.range 2, 19342813113834066795429923)]) (.cond (.seq 16418 (.tree (.run [0, 1, 2, 4] (.alt 3 (.run [5, 6, 7] .done) (.alt 5 (.run [3, 6, 7] .done) .nil))) 16418) (.join (.seq 64 (.tree (.run [0, 1, 2, 3, 5] (.alt 4 (.run [6, 7, 8, 9] .done) (.alt 6 (.run [4, 7, 8, 9] .done) .nil))) 64) (.exit 64)))) (.seq 5070602400912917605986812952611 (.region [(List.range 2, 5070602400912917605986812952611)]) (.cond (.seq 64 (.tree (.run [0, 1, 2, 4, 5] (.alt 3 (.run [6, 7, 8, 9] .done) (.alt 6 (.run [3, 7, 8, 9] .done) .nil))) 64) (.exit 64)) (.seq 10384593717069655257060992658571299 (.region [(List.range 2, 10384593717069655257060992658571299)]) (.cond (.seq 64 (.tree (.run [0, 1, 2, 4, 5] (.alt 3 (.run [6, 7, 8, 9] .done) (.alt 6 (.run [3, 7, 8, 9] .done) .nil))) 64) (.exit 64)) (.seq 21267647932558653966460912964485513251 (.region [(List.range 2, 21267647932558653966460912964485513251)]) (.cond (.seq 32802 (.region [(List.range 5, 32802)]) (.seq 64 (.region [(List.range 7, 64)]) (.exit 64))) .leaf)))))))))))))) (.seq 64 (.tree (.run [0, 2, 3, 4] (.alt 1 (.run [5, 6, 7, 8, 10, 11, 12] (.alt 9 (.run [13, 14, 15, 16, 17] .done) (.alt 13 (.run [9, 14, 15, 16, 17] .done) .nil))) (.alt 5 (.run [1, 6, 7, 8, 10, 11, 12] (.alt 9 (.run [13, 14, 15, 16, 17] .done) (.alt 13 (.run [9, 14, 15, 16, 17] .done) .nil))) .nil))) 64) (.exit 64))))
noncomputable abbrev cd (n : Nat) : Code := sub (bodyOf Try.f19) (pth n)
abbrev an (n : Nat) : Ann := subA ann (pth n)
@[irreducible] def Xret (t6 : Bool) : Fr := (mkFr 0 153 [(6, (.bool t6))])
@[irreducible] def X1 (m1 : OA) (o5 : Addr) (e8 : Int) : Fr := (mkFr 0 153 [(1, (.pointer m1)), (5, (.pointer (some o5))), (8, (.int .i64 e8))])
@[irreducible] def L1 (m1 : OA) (o5 c7 : Addr) (e8 i9 : Int) (K : EP) (h : Heap) : Prop := Lp PP true (cd 6836) (mkFr 0 153 [(1, (.pointer m1)), (5, (.pointer (some o5))), (7, (.pointer (some c7))), (8, (.int .i64 e8)), (9, (.int .i64 i9))]) K h
@[irreducible] def B1 (K : EP) : EP := seqK (fun fr h => Lp PP true (cd 6836) (fr.mask 930) K h) K
@[irreducible] def K4 (Q : VP) : EP := seqK (fun fr h => ev PP true none (cd 7) (an 7) (fr.mask 3) (bodyK PP Try.f19 Q) h) (bodyK PP Try.f19 Q)
@[irreducible] def K2 (Q : VP) : EP := blockK 0 (K4 Q)
@[irreducible] def J1 (m1 : OA) (o5 : Addr) (xl14 : OA) (xl14n xl14c : Nat) (Q : VP) (h : Heap) : Prop := Jn PP true (cd 3453) (mkFr 0 153 [(1, (.pointer m1)), (5, (.pointer (some o5))), (14, (.slice xl14 xl14n xl14c))]) (K2 Q) h
@[irreducible] def K3 (Q : VP) : EP := seqK (fun fr h => ev PP true none (cd 855) (an 855) (fr.mask 290) (K2 Q) h) (K2 Q)
@[irreducible] def K1 (Q : VP) : EP := blockK 1 (K3 Q)
theorem L1_of {m1 : OA} {o5 c7 : Addr} {e8 i9 : Int} {K : EP} {h : Heap} (H :
 ∃ (t28 : OA) (t28n t28c : Nat), cellH h (Addr.add c7 1) = some (.slice t28 t28n t28c) ∧
 let t30 : Bool := decide (i9 < (t28n : Int))
 br t30 (
 ∃ (t34 : OA) (t34n t34c : Nat), cellH h (Addr.add c7 1) = some (.slice t34 t34n t34c) ∧
 hwp PP (Instr.indexAt T_sl_api_Write (.slice t34 t34n t34c) (.int .i64 i9)) (fun v h1 => ∃ (t36 : Addr), v = (.pointer (some t36)) ∧
 ∃ (t37f0 t37f1 t37f2 : ByteArray) (t37f3 : Bool) (t37f4 : ByteArray), rdCells h1 t36 0 [(.string t37f0), (.string t37f1), (.string t37f2), (.bool t37f3), (.string t37f4)] ∧
 ∃ (t40 : OA) (t40n t40c : Nat), cellH h1 (Addr.add (Addr.add o5 1) 1) = some (.slice t40 t40n t40c) ∧
 hwp PP (Instr.indexAt T_sl_api_Write (.slice t40 t40n t40c) (.int .i64 i9)) (fun v_1 h2 => ∃ (t42 : Addr), v_1 = (.pointer (some t42)) ∧
 ∃ (t43f0 t43f1 t43f2 : ByteArray) (t43f3 : Bool) (t43f4 : ByteArray), rdCells h2 t42 0 [(.string t43f0), (.string t43f1), (.string t43f2), (.bool t43f3), (.string t43f4)] ∧
 let t44 : Bool := (!((decide (t37f0 = t43f0) && (decide (t37f1 = t43f1) && (decide (t37f2 = t43f2) && true))) && ((t37f3 == t43f3) && (decide (t37f4 = t43f4) && true))))
 br t44 (
 K .ret (Xret false) h2) (
 ∃ (t46 : OA) (t46n t46c : Nat), cellH h2 (Addr.add c7 1) = some (.slice t46 t46n t46c) ∧
 hwp PP (Instr.indexAt T_sl_api_Write (.slice t46 t46n t46c) (.int .i64 i9)) (fun v_2 h3 => ∃ (t49 : Addr), v_2 = (.pointer (some t49)) ∧
 wrCells t49 0 [(.string (⟨#[]⟩ : ByteArray)), (.string (⟨#[]⟩ : ByteArray)), (.string (⟨#[]⟩ : ByteArray)), (.bool false), (.string (⟨#[115, 112, 111, 105, 108, 116]⟩ : ByteArray))] (fun h4 =>
 let t32 : Int := IntKind.i64.wrap (i9 + 1)
 L1 m1 o5 c7 e8 t32 K h4) h3) h2)) h1) h) (
 K (.exit 1) (X1 m1 o5 e8) h)) : L1 m1 o5 c7 e8 i9 K h := by unfold L1; exact Lp.of_txt (an 6836) 930 (by kernel_rfl) H
theorem L1_Xret {Q : VP} {t6 : Bool} {h : Heap} (H :
 Q (.bool t6) h) : (K1 Q) .ret (Xret t6) h := of_eq_txt (by kernel_rfl) H
theorem J1_of {m1 : OA} {o5 : Addr} {xl14 : OA} {xl14n xl14c : Nat} {Q : VP} {h : Heap} (H :
 ∃ (t96f0 t96f1 t96f2 : ByteArray), rdCells h (Addr.add o5 3) 0 [(.string t96f0), (.string t96f1), (.string t96f2)] ∧
 (
 SpecH PP F_law12_box [(.agg #[(.string t96f0), (.string t96f1), (.string t96f2)])] h (fun v_3 h4 => ∃ (t97_1f0 t97_1f1 : ByteArray), v_3 = (.agg #[(.string t97_1f0), (.string t97_1f1)]) ∧
 ∃ (t99_1 : Int), cellH h4 (Addr.add o5 6) = some (.int .i64 t99_1) ∧
 SpecH PP F_ref12_Store_List [(.pointer m1), (.agg #[(.string t97_1f0), (.string t97_1f1)]), (.int .i64 t99_1)] h4 (fun v_4 h5 => ∃ (t100_1 : OA) (t100_1n t100_1c : Nat), v_4 = (.slice t100_1 t100_1n t100_1c) ∧
 SpecH PP F_keep_Texts [(.slice xl14 xl14n xl14c), (.slice t100_1 t100_1n t100_1c)] h5 (fun v_5 h6 => ∃ (t101_1 : Bool), v_5 = (.bool t101_1) ∧
 Q (.bool t101_1) h6)))) ∧
 (
 ∃ (t99 : Int), cellH h (Addr.add o5 6) = some (.int .i64 t99) ∧
 SpecH PP F_law12_box [(.agg #[(.string t96f0), (.string t96f1), (.string t96f2)])] h (fun v h1 => ∃ (t97f0 t97f1 : ByteArray), v = (.agg #[(.string t97f0), (.string t97f1)]) ∧
 SpecH PP F_ref12_Store_List [(.pointer m1), (.agg #[(.string t97f0), (.string t97f1)]), (.int .i64 t99)] h1 (fun v_1 h2 => ∃ (t100 : OA) (t100n t100c : Nat), v_1 = (.slice t100 t100n t100c) ∧
 SpecH PP F_keep_Texts [(.slice xl14 xl14n xl14c), (.slice t100 t100n t100c)] h2 (fun v_2 h3 => ∃ (t101 : Bool), v_2 = (.bool t101) ∧
 Q (.bool t101) h3)))) ∧
 True) : J1 m1 o5 xl14 xl14n xl14c Q h := by unfold J1; exact Jn.of_txt (an 3453) (by kernel_rfl) H
theorem L1_X1 {Q : VP} {m1 : OA} {o5 : Addr} {e8 : Int} {h : Heap} (H :
 ∃ (t53f0 : Int) (t53f1 : OA) (t53f1n t53f1c : Nat), rdCells h (Addr.add o5 1) 0 [(.int .i64 t53f0), (.slice t53f1 t53f1n t53f1c)] ∧
 SpecH PP F_ref12_Store_Put [(.pointer m1), (.agg #[(.int .i64 t53f0), (.slice t53f1 t53f1n t53f1c)])] h (fun v h1 => ∃ (t54 : Int), v = (.int .i64 t54) ∧
 let t55 : Bool := (e8 == t54)
 Q (.bool t55) h1)) : (K1 Q) (.exit 1) (X1 m1 o5 e8) h := of_eq_txt (by kernel_rfl) H
theorem door {s0 m1 : OA} {o2f0 o2f1 : Int} {o2f2 : OA} {o2f2n o2f2c : Nat} {o2f3 o2f4 o2f5 : ByteArray} {o2f6 : Int} {Q : VP} {h : Heap} (H :
 let o5 : Addr := ⟨Array.size h, 0, none⟩
 let h1 : Heap := Array.push h (.cells #[(.int .i64 o2f0), (.int .i64 o2f1), (.slice o2f2 o2f2n o2f2c), (.string o2f3), (.string o2f4), (.string o2f5), (.int .i64 o2f6)] T_haversacklaw12_Op (0, 0))
 ∃ (t17 : Int), cellH h1 o5 = some (.int .i64 t17) ∧
 let t19 : Bool := (t17 == 1)
 br t19 (
 ∃ (t21f0 : Int) (t21f1 : OA) (t21f1n t21f1c : Nat), rdCells h1 (Addr.add o5 1) 0 [(.int .i64 t21f0), (.slice t21f1 t21f1n t21f1c)] ∧
 SpecH PP F_law12_copied [(.agg #[(.int .i64 t21f0), (.slice t21f1 t21f1n t21f1c)])] h1 (fun v h2 => ∃ (t22f0 : Int) (t22f1 : OA) (t22f1n t22f1c : Nat), v = (.agg #[(.int .i64 t22f0), (.slice t22f1 t22f1n t22f1c)]) ∧
 let c7 : Addr := ⟨Array.size h2, 0, none⟩
 let h3 : Heap := Array.push h2 (.cells #[(.int .i64 0), (.slice none 0 0)] T_api_Commit (0, 0))
 wrCells c7 0 [(.int .i64 t22f0), (.slice t22f1 t22f1n t22f1c)] (fun h4 =>
 ∃ (t24f0 : Int) (t24f1 : OA) (t24f1n t24f1c : Nat), rdCells h4 c7 0 [(.int .i64 t24f0), (.slice t24f1 t24f1n t24f1c)] ∧
 SpecH PP F_chain_Store_Put [(.pointer s0), (.agg #[(.int .i64 t24f0), (.slice t24f1 t24f1n t24f1c)])] h4 (fun v_1 h5 => ∃ (t25 : Int), v_1 = (.int .i64 t25) ∧
 L1 m1 o5 c7 t25 0 (K1 Q) h5)) h3)) (
 let t57 : Bool := (t17 == 2)
 br t57 (
 ∃ (t61f0 t61f1 t61f2 : ByteArray), rdCells h1 (Addr.add o5 3) 0 [(.string t61f0), (.string t61f1), (.string t61f2)] ∧
 ∃ (t63 : Int), cellH h1 (Addr.add o5 6) = some (.int .i64 t63) ∧
 SpecH PP F_chain_Store_Get [(.pointer s0), (.agg #[(.string t61f0), (.string t61f1), (.string t61f2)]), (.int .i64 t63)] h1 (fun v_2 h6 => ∃ (t64 : ByteArray) (t64_1 : Bool), v_2 = (.tuple #[(.string t64), (.bool t64_1)]) ∧
 ∃ (t70f0 t70f1 t70f2 : ByteArray), rdCells h6 (Addr.add o5 3) 0 [(.string t70f0), (.string t70f1), (.string t70f2)] ∧
 ∃ (t72 : Int), cellH h6 (Addr.add o5 6) = some (.int .i64 t72) ∧
 SpecH PP F_ref12_Store_Get [(.pointer m1), (.agg #[(.string t70f0), (.string t70f1), (.string t70f2)]), (.int .i64 t72)] h6 (fun v_3 h7 => ∃ (t73 : ByteArray) (t73_1 : Bool), v_3 = (.tuple #[(.string t73), (.bool t73_1)]) ∧
 let t78 : Bool := decide (t64 = t73)
 br t78 (
 let t82 : Bool := (t64_1 == t73_1)
 Q (.bool t82) h7) (
 Q (.bool false) h7)))) (
 let t85 : Bool := (t17 == 3)
 br t85 (
 ∃ (t88f0 t88f1 t88f2 : ByteArray), rdCells h1 (Addr.add o5 3) 0 [(.string t88f0), (.string t88f1), (.string t88f2)] ∧
 (
 SpecH PP F_law12_box [(.agg #[(.string t88f0), (.string t88f1), (.string t88f2)])] h1 (fun v_6 h10 => ∃ (t89_1f0 t89_1f1 : ByteArray), v_6 = (.agg #[(.string t89_1f0), (.string t89_1f1)]) ∧
 ∃ (t91_1 : Int), cellH h10 (Addr.add o5 6) = some (.int .i64 t91_1) ∧
 SpecH PP F_chain_Store_List [(.pointer s0), (.agg #[(.string t89_1f0), (.string t89_1f1)]), (.int .i64 t91_1)] h10 (fun v_7 h11 => ∃ (t92_1 : OA) (t92_1n t92_1c : Nat), v_7 = (.slice t92_1 t92_1n t92_1c) ∧
 J1 m1 o5 t92_1 t92_1n t92_1c Q h11))) ∧
 (
 ∃ (t91 : Int), cellH h1 (Addr.add o5 6) = some (.int .i64 t91) ∧
 SpecH PP F_law12_box [(.agg #[(.string t88f0), (.string t88f1), (.string t88f2)])] h1 (fun v_4 h8 => ∃ (t89f0 t89f1 : ByteArray), v_4 = (.agg #[(.string t89f0), (.string t89f1)]) ∧
 SpecH PP F_chain_Store_List [(.pointer s0), (.agg #[(.string t89f0), (.string t89f1)]), (.int .i64 t91)] h8 (fun v_5 h9 => ∃ (t92 : OA) (t92n t92c : Nat), v_5 = (.slice t92 t92n t92c) ∧
 J1 m1 o5 t92 t92n t92c Q h9))) ∧
 True) (
 let t103 : Bool := (t17 == 4)
 br t103 (
 ∃ (t106f0 t106f1 t106f2 : ByteArray), rdCells h1 (Addr.add o5 3) 0 [(.string t106f0), (.string t106f1), (.string t106f2)] ∧
 (
 SpecH PP F_chain_Store_Last [(.pointer s0), (.agg #[(.string t106f0), (.string t106f1), (.string t106f2)])] h1 (fun v_10 h14 => ∃ (t107_1 : Int), v_10 = (.int .i64 t107_1) ∧
 ∃ (t110_1f0 t110_1f1 t110_1f2 : ByteArray), rdCells h14 (Addr.add o5 3) 0 [(.string t110_1f0), (.string t110_1f1), (.string t110_1f2)] ∧
 SpecH PP F_ref12_Store_Last [(.pointer m1), (.agg #[(.string t110_1f0), (.string t110_1f1), (.string t110_1f2)])] h14 (fun v_11 h15 => ∃ (t111_1 : Int), v_11 = (.int .i64 t111_1) ∧
 let t112_1 : Bool := (t107_1 == t111_1)
 Q (.bool t112_1) h15))) ∧
 (
 ∃ (t110f0 t110f1 t110f2 : ByteArray), rdCells h1 (Addr.add o5 3) 0 [(.string t110f0), (.string t110f1), (.string t110f2)] ∧
 SpecH PP F_chain_Store_Last [(.pointer s0), (.agg #[(.string t106f0), (.string t106f1), (.string t106f2)])] h1 (fun v_8 h12 => ∃ (t107 : Int), v_8 = (.int .i64 t107) ∧
 SpecH PP F_ref12_Store_Last [(.pointer m1), (.agg #[(.string t110f0), (.string t110f1), (.string t110f2)])] h12 (fun v_9 h13 => ∃ (t111 : Int), v_9 = (.int .i64 t111) ∧
 let t112 : Bool := (t107 == t111)
 Q (.bool t112) h13))) ∧
 True) (
 let t114 : Bool := (t17 == 5)
 br t114 (
 ∃ (t117 : Int), cellH h1 (Addr.add o5 6) = some (.int .i64 t117) ∧
 (
 SpecH PP F_chain_Store_Prune [(.pointer s0), (.int .i64 t117)] h1 (fun v_14 h18 => ∃ (t118_1 : Int), v_14 = (.int .i64 t118_1) ∧
 ∃ (t121_1 : Int), cellH h18 (Addr.add o5 6) = some (.int .i64 t121_1) ∧
 SpecH PP F_ref12_Store_Prune [(.pointer m1), (.int .i64 t121_1)] h18 (fun v_15 h19 => ∃ (t122_1 : Int), v_15 = (.int .i64 t122_1) ∧
 let t123_1 : Bool := (t118_1 == t122_1)
 Q (.bool t123_1) h19))) ∧
 (
 ∃ (t121 : Int), cellH h1 (Addr.add o5 6) = some (.int .i64 t121) ∧
 SpecH PP F_chain_Store_Prune [(.pointer s0), (.int .i64 t117)] h1 (fun v_12 h16 => ∃ (t118 : Int), v_12 = (.int .i64 t118) ∧
 SpecH PP F_ref12_Store_Prune [(.pointer m1), (.int .i64 t121)] h16 (fun v_13 h17 => ∃ (t122 : Int), v_13 = (.int .i64 t122) ∧
 let t123 : Bool := (t118 == t122)
 Q (.bool t123) h17))) ∧
 True) (
 let t125 : Bool := (t17 == 6)
 br t125 (
 ∃ (t128 : Int), cellH h1 (Addr.add o5 6) = some (.int .i64 t128) ∧
 SpecH PP F_chain_Store_Dump [(.pointer s0), (.int .i64 t128)] h1 (fun v_16 h20 => ∃ (t129 : OA) (t129n t129c : Nat), v_16 = (.slice t129 t129n t129c) ∧
 ∃ (t133 : Int), cellH h20 (Addr.add o5 6) = some (.int .i64 t133) ∧
 SpecH PP F_ref12_Store_Dump [(.pointer m1), (.int .i64 t133)] h20 (fun v_17 h21 => ∃ (t134 : OA) (t134n t134c : Nat), v_17 = (.slice t134 t134n t134c) ∧
 SpecH PP F_ref12_Same [(.slice t129 t129n t129c), (.slice t134 t134n t134c)] h21 (fun v_18 h22 => ∃ (t135 : Bool), v_18 = (.bool t135) ∧
 Q (.bool t135) h22)))) (
 nilc m1 (fun t139 =>
 (
 SpecH PP F_chain_Store_Now [(.pointer s0)] h1 (fun v_22 h26 => ∃ (t137_1 : Int), v_22 = (.int .i64 t137_1) ∧
 ∃ (t141_1 : Int), cellH h26 (Addr.add t139 1) = some (.int .i64 t141_1) ∧
 let t142_1 : Bool := (t137_1 == t141_1)
 br t142_1 (
 nilc m1 (fun t147_1 =>
 (
 SpecH PP F_chain_Store_Versions [(.pointer s0)] h26 (fun v_24 h28 => ∃ (t145_3 : Int), v_24 = (.int .i64 t145_3) ∧
 ∃ (t149_3 : OA) (t149_3n t149_3c : Nat), cellH h28 t147_1 = some (.slice t149_3 t149_3n t149_3c) ∧
 let t151_3 : Bool := (t145_3 == (t149_3n : Int))
 Q (.bool t151_3) h28)) ∧
 (
 ∃ (t149_2 : OA) (t149_2n t149_2c : Nat), cellH h26 t147_1 = some (.slice t149_2 t149_2n t149_2c) ∧
 SpecH PP F_chain_Store_Versions [(.pointer s0)] h26 (fun v_23 h27 => ∃ (t145_2 : Int), v_23 = (.int .i64 t145_2) ∧
 let t151_2 : Bool := (t145_2 == (t149_2n : Int))
 Q (.bool t151_2) h27)) ∧
 True)) (
 (
 Q (.bool false) h26) ∧
 (
 Q (.bool false) h26) ∧
 True))) ∧
 (
 ∃ (t141 : Int), cellH h1 (Addr.add t139 1) = some (.int .i64 t141) ∧
 SpecH PP F_chain_Store_Now [(.pointer s0)] h1 (fun v_19 h23 => ∃ (t137 : Int), v_19 = (.int .i64 t137) ∧
 let t142 : Bool := (t137 == t141)
 br t142 (
 nilc m1 (fun t147 =>
 (
 SpecH PP F_chain_Store_Versions [(.pointer s0)] h23 (fun v_21 h25 => ∃ (t145_1 : Int), v_21 = (.int .i64 t145_1) ∧
 ∃ (t149_1 : OA) (t149_1n t149_1c : Nat), cellH h25 t147 = some (.slice t149_1 t149_1n t149_1c) ∧
 let t151_1 : Bool := (t145_1 == (t149_1n : Int))
 Q (.bool t151_1) h25)) ∧
 (
 ∃ (t149 : OA) (t149n t149c : Nat), cellH h23 t147 = some (.slice t149 t149n t149c) ∧
 SpecH PP F_chain_Store_Versions [(.pointer s0)] h23 (fun v_20 h24 => ∃ (t145 : Int), v_20 = (.int .i64 t145) ∧
 let t151 : Bool := (t145 == (t149n : Int))
 Q (.bool t151) h24)) ∧
 True)) (
 (
 Q (.bool false) h23) ∧
 (
 Q (.bool false) h23) ∧
 True))) ∧
 True)))))))) : SpecH PP F_law12_step [(.pointer s0), (.pointer m1), (.agg #[(.int .i64 o2f0), (.int .i64 o2f1), (.slice o2f2 o2f2n o2f2c), (.string o2f3), (.string o2f4), (.string o2f5), (.int .i64 o2f6)])] h Q :=
   spec_of_txt (ann := ann) Try.func19 rfl rfl (by kernel_rfl) H
end law12_step
/-! ### haversack/haversackkeep.Texts: function 20 -/
namespace keep_Texts
def ann : Ann := (.seq 3 (.region [(List.range 1, 3)]) (.seq 3 (.seq 1027 (.region [(List.range 5, 1027)]) (.cond (.seq 16 (.region [(List.range 1, 16)]) (.exit 16)) .leaf)) (.seq 0 (.seq 35 (.region [(List.range 1, 35)]) (.block (.loop 35 (.seq 35 (.seq 16419 (.region [(List.range 4, 16419)]) (.cond .leaf (.exit 0))) (.seq 35 (.block (.seq 33554467 (.region [(List.range 9, 33554467)]) (.cond (.seq 16 (.region [(List.range 1, 16)]) (.exit 16)) .leaf))) (.region [(List.range 3, 35)])))))) (.seq 16 (.region [(List.range 1, 16)]) (.exit 16)))))
noncomputable abbrev cd (n : Nat) : Code := sub (bodyOf Try.f20) (pth n)
abbrev an (n : Nat) : Ann := subA ann (pth n)
@[irreducible] def Xret (t4 : Bool) : Fr := (mkFr 0 26 [(4, (.bool t4))])
@[irreducible] def X0  : Fr := (mkFr 0 26 [])
@[irreducible] def L1 (a0 : OA) (a0n a0c : Nat) (b1 : OA) (b1n b1c : Nat) (i5 : Int) (K : EP) (h : Heap) : Prop := Lp PP true (cd 116) (mkFr 0 26 [(0, (.slice a0 a0n a0c)), (1, (.slice b1 b1n b1c)), (5, (.int .i64 i5))]) K h
@[irreducible] def B1 (K : EP) : EP := seqK (fun fr h => Lp PP true (cd 116) (fr.mask 35) K h) K
@[irreducible] def K2 (Q : VP) : EP := seqK (fun fr h => ev PP true none (cd 15) (an 15) (fr.mask 0) (bodyK PP Try.f20 Q) h) (bodyK PP Try.f20 Q)
@[irreducible] def K1 (Q : VP) : EP := blockK 0 (K2 Q)
theorem L1_of {a0 : OA} {a0n a0c : Nat} {b1 : OA} {b1n b1c : Nat} {i5 : Int} {K : EP} {h : Heap} (H :
 let t14 : Bool := decide (i5 < (a0n : Int))
 br t14 (
 hwp PP (Instr.indexAt T_sl_string (.slice a0 a0n a0c) (.int .i64 i5)) (fun v h1 => ∃ (t19 : Addr), v = (.pointer (some t19)) ∧
 ∃ (t20 : ByteArray), cellH h1 t19 = some (.string t20) ∧
 hwp PP (Instr.indexAt T_sl_string (.slice b1 b1n b1c) (.int .i64 i5)) (fun v_1 h2 => ∃ (t23 : Addr), v_1 = (.pointer (some t23)) ∧
 ∃ (t24 : ByteArray), cellH h2 t23 = some (.string t24) ∧
 let t25 : Bool := (!decide (t20 = t24))
 br t25 (
 K .ret (Xret false) h2) (
 let t16 : Int := IntKind.i64.wrap (i5 + 1)
 L1 a0 a0n a0c b1 b1n b1c t16 K h2)) h1) h) (
 K (.exit 0) (X0) h)) : L1 a0 a0n a0c b1 b1n b1c i5 K h := by unfold L1; exact Lp.of_txt (an 116) 35 (by kernel_rfl) H
theorem L1_Xret {Q : VP} {t4 : Bool} {h : Heap} (H :
 Q (.bool t4) h) : (K1 Q) .ret (Xret t4) h := of_eq_txt (by kernel_rfl) H
theorem L1_X0 {Q : VP}  {h : Heap} (H :
 Q (.bool true) h) : (K1 Q) (.exit 0) (X0 ) h := of_eq_txt (by kernel_rfl) H
theorem door {a0 : OA} {a0n a0c : Nat} {b1 : OA} {b1n b1c : Nat} {Q : VP} {h : Heap} (H :
 let t10 : Bool := ((a0n : Int) != (b1n : Int))
 br t10 (
 Q (.bool false) h) (
 L1 a0 a0n a0c b1 b1n b1c 0 (K1 Q) h)) : SpecH PP F_keep_Texts [(.slice a0 a0n a0c), (.slice b1 b1n b1c)] h Q :=
   spec_of_txt (ann := ann) Try.func20 rfl rfl (by kernel_rfl) H
end keep_Texts
/-! ### (*haversack/chain.Store).List: function 21 -/
namespace chain_Store_List
def ann : Ann := (.seq 21 (.region [(List.range 2, 21)]) (.seq 149 (.region [(List.range 1, 149)]) (.seq 128 (.seq 57472 (.region [(List.range 6, 57472)]) (.block (.loop 57472 (.seq 123008 (.region [(List.range 1, 123008)]) (.seq 57472 (.cond .leaf (.exit 128)) (.seq 57472 (.block (.seq 57984 (.region [(List.range 4, 57984)]) (.region [(List.range 6, 57472)]))) (.region [(List.range 2, 57472)]))))))) (.seq 64 (.region [(List.range 2, 64)]) (.exit 64)))))
noncomputable abbrev cd (n : Nat) : Code := sub (bodyOf Try.f21) (pth n)
abbrev an (n : Nat) : Ann := subA ann (pth n)
@[irreducible] def X0 (out7 : OA) (out7n out7c : Nat) : Fr := (mkFr 0 26 [(7, (.slice out7 out7n out7c))])
@[irreducible] def L1 (out7 : OA) (out7n out7c : Nat) (t13 : OA) (t13n t13c : Nat) (t14 t15 : Int) (K : EP) (h : Heap) : Prop := Lp PP true (cd 116) (mkFr 0 26 [(7, (.slice out7 out7n out7c)), (13, (.slice t13 t13n t13c)), (14, (.int .i64 t14)), (15, (.int .i64 t15))]) K h
@[irreducible] def B1 (K : EP) : EP := seqK (fun fr h => Lp PP true (cd 116) (fr.mask 57472) K h) K
@[irreducible] def K2 (Q : VP) : EP := seqK (fun fr h => ev PP true none (cd 15) (an 15) (fr.mask 128) (bodyK PP Try.f21 Q) h) (bodyK PP Try.f21 Q)
@[irreducible] def K1 (Q : VP) : EP := blockK 0 (K2 Q)
theorem L1_of {out7 : OA} {out7n out7c : Nat} {t13 : OA} {t13n t13c : Nat} {t14 t15 : Int} {K : EP} {h : Heap} (H :
 let t16 : Bool := decide (t15 < t14)
 br t16 (
 hwp PP (Instr.indexAt T_sl_api_Key (.slice t13 t13n t13c) (.int .i64 t15)) (fun v h1 => ∃ (t17 : Addr), v = (.pointer (some t17)) ∧
 ∃ (t18f0 t18f1 t18f2 : ByteArray), rdCells h1 t17 0 [(.string t18f0), (.string t18f1), (.string t18f2)] ∧
 let k9 : Addr := ⟨Array.size h1, 0, none⟩
 let h2 : Heap := Array.push h1 (.cells #[(.string (⟨#[]⟩ : ByteArray)), (.string (⟨#[]⟩ : ByteArray)), (.string (⟨#[]⟩ : ByteArray))] T_api_Key (0, 0))
 wrCells k9 0 [(.string t18f0), (.string t18f1), (.string t18f2)] (fun h3 =>
 ∃ (t21 : ByteArray), cellH h3 (Addr.add k9 2) = some (.string t21) ∧
 let h4 : Heap := Array.push h3 (.cells #[(.string t21)] T_string (0, 0))
 hwp PP (Builtin.append_ #[T_sl_string, T_sl_string] T_sl_string #[(.slice out7 out7n out7c), (.slice (some ⟨Array.size h3, 0, none⟩) 1 1)]) (fun v_1 h5 => ∃ (t23 : OA) (t23n t23c : Nat), v_1 = (.slice t23 t23n t23c) ∧
 let t24 : Int := IntKind.i64.wrap (t15 + 1)
 L1 t23 t23n t23c t13 t13n t13c t14 t24 K h5) h4) h2) h) (
 K (.exit 0) (X0 out7 out7n out7c) h)) : L1 out7 out7n out7c t13 t13n t13c t14 t15 K h := by unfold L1; exact Lp.of_txt (an 116) 57472 (by kernel_rfl) H
theorem L1_X0 {Q : VP} {out7 : OA} {out7n out7c : Nat} {h : Heap} (H :
 Q (.slice out7 out7n out7c) h) : (K1 Q) (.exit 0) (X0 out7 out7n out7c) h := of_eq_txt (by kernel_rfl) H
theorem door {s0 : OA} {b1f0 b1f1 : ByteArray} {at2 : Int} {Q : VP} {h : Heap} (H :
 let b4 : Addr := ⟨Array.size h, 0, none⟩
 let h1 : Heap := Array.push h (.cells #[(.string b1f0), (.string b1f1)] T_api_Box (0, 0))
 SpecH PP F_chain_Store_keys [(.pointer s0), (.int .i64 at2), (.func (.func F_chain_Store_List_1) #[] #[(.pointer (some b4))])] h1 (fun v h2 => ∃ (t13 : OA) (t13n t13c : Nat), v = (.slice t13 t13n t13c) ∧
 L1 none 0 0 t13 t13n t13c (t13n : Int) 0 (K1 Q) h2)) : SpecH PP F_chain_Store_List [(.pointer s0), (.agg #[(.string b1f0), (.string b1f1)]), (.int .i64 at2)] h Q :=
   spec_of_txt (ann := ann) Try.func21 rfl rfl (by kernel_rfl) H
end chain_Store_List
/-! ### haversack/haversacklaw12.box: function 22 -/
namespace law12_box
def ann : Ann := (.seq 6 (.region [(List.range 2, 6)]) (.seq 4 (.region [(List.range 6, 4)]) (.exit 4)))
noncomputable abbrev cd (n : Nat) : Code := sub (bodyOf Try.f22) (pth n)
abbrev an (n : Nat) : Ann := subA ann (pth n)
theorem door {k0f0 k0f1 k0f2 : ByteArray} {Q : VP} {h : Heap} (H :
 let k1 : Addr := ⟨Array.size h, 0, none⟩
 let h1 : Heap := Array.push h (.cells #[(.string k0f0), (.string k0f1), (.string k0f2)] T_api_Key (0, 0))
 let t2 : Addr := ⟨Array.size h1, 0, none⟩
 let h2 : Heap := Array.push h1 (.cells #[(.string (⟨#[]⟩ : ByteArray)), (.string (⟨#[]⟩ : ByteArray))] T_api_Box (0, 0))
 ∃ (t4 : ByteArray), cellH h2 k1 = some (.string t4) ∧
 ∃ (t6 : ByteArray), cellH h2 (Addr.add k1 1) = some (.string t6) ∧
 wrCells t2 0 [(.string t4), (.string t6)] (fun h3 =>
 ∃ (t2_1f0 t2_1f1 : ByteArray), rdCells h3 t2 0 [(.string t2_1f0), (.string t2_1f1)] ∧
 Q (.agg #[(.string t2_1f0), (.string t2_1f1)]) h3) h2) : SpecH PP F_law12_box [(.agg #[(.string k0f0), (.string k0f1), (.string k0f2)])] h Q :=
   spec_of_txt (ann := ann) Try.func22 rfl rfl (by kernel_rfl) H
end law12_box
/-! ### (*haversack/chain.Store).Last: function 23 -/
namespace chain_Store_Last
def ann : Ann := (.seq 9 (.region [(List.range 2, 9)]) (.seq 9 (.seq 131081 (.region [(List.range 12, 131081)]) (.join (.cond (.seq 16 (.region [(List.range 1, 16)]) (.exit 16)) .leaf))) (.seq 32 (.region [(List.range 7, 32)]) (.seq 16 (.region [(List.range 8, 16)]) (.exit 16)))))
noncomputable abbrev cd (n : Nat) : Code := sub (bodyOf Try.f23) (pth n)
abbrev an (n : Nat) : Ann := subA ann (pth n)
@[irreducible] def K1 (Q : VP) : EP := seqK (fun fr h => ev PP true none (cd 7) (an 7) (fr.mask 9) (bodyK PP Try.f23 Q) h) (bodyK PP Try.f23 Q)
@[irreducible] def J1 (s0 : OA) (k3 : Addr) (t17 : Bool) (Q : VP) (h : Heap) : Prop := Jn PP true (cd 13) (mkFr 0 31 [(0, (.pointer s0)), (3, (.pointer (some k3))), (17, (.bool t17))]) (K1 Q) h
theorem J1_of {s0 : OA} {k3 : Addr} {t17 : Bool} {Q : VP} {h : Heap} (H :
 br t17 (
 Q (.int .i64 0) h) (
 nilc s0 (fun t19 =>
 ∃ (t21 : ON), cellH h t19 = some (.map t21) ∧
 ∃ (t22f0 t22f1 t22f2 : ByteArray), rdCells h k3 0 [(.string t22f0), (.string t22f1), (.string t22f2)] ∧
 hwp PP (Instr.lookup T_map_api_Key_sl_chain_version (.map t21) (.agg #[(.string t22f0), (.string t22f1), (.string t22f2)]) false) (fun v h1 => ∃ (t23 : OA) (t23n t23c : Nat), v = (.slice t23 t23n t23c) ∧
 let t27 : Int := IntKind.i64.wrap ((t23n : Int) - 1)
 hwp PP (Instr.indexAt T_sl_chain_version (.slice t23 t23n t23c) (.int .i64 t27)) (fun v_1 h2 => ∃ (t28 : Addr), v_1 = (.pointer (some t28)) ∧
 ∃ (t30 : Int), cellH h2 t28 = some (.int .i64 t30) ∧
 Q (.int .i64 t30) h2) h1) h))) : J1 s0 k3 t17 Q h := by unfold J1; exact Jn.of_txt (an 13) (by kernel_rfl) H
theorem door {s0 : OA} {k1f0 k1f1 k1f2 : ByteArray} {Q : VP} {h : Heap} (H :
 let k3 : Addr := ⟨Array.size h, 0, none⟩
 let h1 : Heap := Array.push h (.cells #[(.string k1f0), (.string k1f1), (.string k1f2)] T_api_Key (0, 0))
 let t7 : Bool := (Option.isNone s0)
 br t7 (
 J1 s0 k3 true Q h1) (
 nilc s0 (fun t10 =>
 ∃ (t12 : ON), cellH h1 t10 = some (.map t12) ∧
 ∃ (t13f0 t13f1 t13f2 : ByteArray), rdCells h1 k3 0 [(.string t13f0), (.string t13f1), (.string t13f2)] ∧
 hwp PP (Instr.lookup T_map_api_Key_sl_chain_version (.map t12) (.agg #[(.string t13f0), (.string t13f1), (.string t13f2)]) false) (fun v h2 => ∃ (t14 : OA) (t14n t14c : Nat), v = (.slice t14 t14n t14c) ∧
 let t16 : Bool := ((t14n : Int) == 0)
 J1 s0 k3 t16 Q h2) h1))) : SpecH PP F_chain_Store_Last [(.pointer s0), (.agg #[(.string k1f0), (.string k1f1), (.string k1f2)])] h Q :=
   spec_of_txt (ann := ann) Try.func23 rfl rfl (by kernel_rfl) H
end chain_Store_Last
/-! ### haversack/haversacklaw12.key: function 24 -/
namespace law12_key
def ann : Ann := (.seq 5 (.region [(List.range 1, 5)]) (.seq 4 (.region [(List.range 3, 4)]) (.exit 4)))
noncomputable abbrev cd (n : Nat) : Code := sub (bodyOf Try.f24) (pth n)
abbrev an (n : Nat) : Ann := subA ann (pth n)
theorem door {s0 : ByteArray} {Q : VP} {h : Heap} (H :
 let t2 : Addr := ⟨Array.size h, 0, none⟩
 let h1 : Heap := Array.push h (.cells #[(.string (⟨#[]⟩ : ByteArray)), (.string (⟨#[]⟩ : ByteArray)), (.string (⟨#[]⟩ : ByteArray))] T_api_Key (0, 0))
 wrCells t2 0 [(.string (⟨#[116]⟩ : ByteArray)), (.string (⟨#[120]⟩ : ByteArray)), (.string s0)] (fun h2 =>
 ∃ (t2_1f0 t2_1f1 t2_1f2 : ByteArray), rdCells h2 t2 0 [(.string t2_1f0), (.string t2_1f1), (.string t2_1f2)] ∧
 Q (.agg #[(.string t2_1f0), (.string t2_1f1), (.string t2_1f2)]) h2) h1) : SpecH PP F_law12_key [(.string s0)] h Q :=
   spec_of_txt (ann := ann) Try.func24 rfl rfl (by kernel_rfl) H
end law12_key
/-! ### (*haversack/chain.Store).newest: function 25 -/
namespace chain_Store_newest
def ann : Ann := (.seq 7 (.region [(List.range 1, 7)]) (.seq 6 (.region [(List.range 7, 6)]) (.seq 128 (.region [(List.range 8, 128)]) (.seq 64 (.region [(List.range 2, 64)]) (.exit 64)))))
noncomputable abbrev cd (n : Nat) : Code := sub (bodyOf Try.f25) (pth n)
abbrev an (n : Nat) : Ann := subA ann (pth n)
theorem door {s0 xl1 : OA} {xl1n xl1c : Nat} {at2 : Int} {Q : VP} {h : Heap} (H :
 nilc s0 (fun t11 =>
 ∃ (t13 : Int), cellH h (Addr.add t11 2) = some (.int .i64 t13) ∧
 let t14 : Int := (if t13 > at2 then t13 else at2)
 SpecH PP F_slices_BinarySearchFunc_chain_version_chain_version_int [(.slice xl1 xl1n xl1c), (.int .i64 t14), (.func (.func F_chain_Store_newest_1) #[] #[])] h (fun v h1 => ∃ (t18 : Int) (t18_1 : Bool), v = (.tuple #[(.int .i64 t18), (.bool t18_1)]) ∧
 Q (.int .i64 t18) h1))) : SpecH PP F_chain_Store_newest [(.pointer s0), (.slice xl1 xl1n xl1c), (.int .i64 at2)] h Q :=
   spec_of_txt (ann := ann) Try.func25 rfl rfl (by kernel_rfl) H
end chain_Store_newest
/-! ### (*haversack/chain.Store).keys: function 26 -/
namespace chain_Store_keys
def ann : Ann := (.seq 7 (.region [(List.range 1, 7)]) (.seq 135 (.region [(List.range 1, 135)]) (.seq 135 (.seq 4231 (.region [(List.range 2, 4231)]) (.cond (.seq 64 (.region [(List.range 2, 64)]) (.exit 64)) .leaf)) (.seq 128 (.seq 262279 (.region [(List.range 5, 262279)]) (.block (.loop 262279 (.seq 1310855 (.region [(List.range 2, 1310855)]) (.seq 262279 (.cond .leaf (.exit 128)) (.block (.seq 262535 (.region [(List.range 4, 262535)]) (.seq 263559 (.region [(List.range 9, 263559)]) (.seq 34360000903 (.region [(List.range 6, 34360000903)]) (.join (.cond (.region [(List.range 5, 262279)]) .leaf))))))))))) (.seq 128 (.region [(List.range 2, 128)]) (.seq 64 (.region [(List.range 2, 64)]) (.exit 64)))))))
noncomputable abbrev cd (n : Nat) : Code := sub (bodyOf Try.f26) (pth n)
abbrev an (n : Nat) : Ann := subA ann (pth n)
@[irreducible] def X0 (out7 : OA) (out7n out7c : Nat) : Fr := (mkFr 0 43 [(7, (.slice out7 out7n out7c))])
@[irreducible] def L1 (s0 : OA) (at1 : Int) (wanted2 : Value) (out7 : OA) (out7n out7c : Nat) (t18 : Value) (K : EP) (h : Heap) : Prop := Lp PP true (cd 244) (mkFr 0 43 [(0, (.pointer s0)), (1, (.int .i64 at1)), (2, wanted2), (7, (.slice out7 out7n out7c)), (18, t18)]) K h
@[irreducible] def B1 (K : EP) : EP := seqK (fun fr h => Lp PP true (cd 244) (fr.mask 262279) K h) K
@[irreducible] def K2 (K : EP) : EP := blockK 1 (B1 K)
@[irreducible] def J1 (s0 : OA) (at1 : Int) (wanted2 : Value) (out7 : OA) (out7n out7c : Nat) (k8 : Addr) (t18 : Value) (t35 : Bool) (K : EP) (h : Heap) : Prop := Jn PP true (cd 15671) (mkFr 0 43 [(0, (.pointer s0)), (1, (.int .i64 at1)), (2, wanted2), (7, (.slice out7 out7n out7c)), (8, (.pointer (some k8))), (18, t18), (35, (.bool t35))]) (K2 K) h
@[irreducible] def K3 (Q : VP) : EP := seqK (fun fr h => ev PP true none (cd 31) (an 31) (fr.mask 128) (bodyK PP Try.f26 Q) h) (bodyK PP Try.f26 Q)
@[irreducible] def K1 (Q : VP) : EP := blockK 0 (K3 Q)
theorem L1_of {s0 : OA} {at1 : Int} {wanted2 : Value} {out7 : OA} {out7n out7c : Nat} {t18 : Value} {K : EP} {h : Heap} (H :
 hwp PP (Instr.next t18 false T_) (fun v h1 => ∃ (b : Bool) (r : List Value), v = .tuple ((.bool b :: r).toArray) ∧
 br b (
 hwp PP (Instr.entry t18) (fun v_1 h2 => ∃ (t21 t21_1 : Value), v_1 = (.tuple #[t21, t21_1]) ∧
 ∃ (t22f0 t22f1 t22f2 : ByteArray), t21 = (.agg #[(.string t22f0), (.string t22f1), (.string t22f2)]) ∧
 let k8 : Addr := ⟨Array.size h2, 0, none⟩
 let h3 : Heap := Array.push h2 (.cells #[(.string (⟨#[]⟩ : ByteArray)), (.string (⟨#[]⟩ : ByteArray)), (.string (⟨#[]⟩ : ByteArray))] T_api_Key (0, 0))
 wrCells k8 0 [(.string t22f0), (.string t22f1), (.string t22f2)] (fun h4 =>
 ∃ (t25f0 t25f1 t25f2 : ByteArray), rdCells h4 k8 0 [(.string t25f0), (.string t25f1), (.string t25f2)] ∧
 SpecH PP F_chain_Store_Get [(.pointer s0), (.agg #[(.string t25f0), (.string t25f1), (.string t25f2)]), (.int .i64 at1)] h4 (fun v_2 h5 => ∃ (t27 : ByteArray) (t27_1 : Bool), v_2 = (.tuple #[(.string t27), (.bool t27_1)]) ∧
 br t27_1 (
 ∃ (t33f0 t33f1 t33f2 : ByteArray), rdCells h5 k8 0 [(.string t33f0), (.string t33f1), (.string t33f2)] ∧
 callV PP wanted2 [(.agg #[(.string t33f0), (.string t33f1), (.string t33f2)])] (fun v_3 h6 => ∃ (t34 : Bool), v_3 = (.bool t34) ∧
 J1 s0 at1 wanted2 out7 out7n out7c k8 t18 t34 K h6) h5) (
 J1 s0 at1 wanted2 out7 out7n out7c k8 t18 false K h5))) h3) h1) (
 K (.exit 0) (X0 out7 out7n out7c) h1)) h) : L1 s0 at1 wanted2 out7 out7n out7c t18 K h := by unfold L1; exact Lp.of_txt (an 244) 262279 (by kernel_rfl) H
theorem L1_X0 {Q : VP} {out7 : OA} {out7n out7c : Nat} {h : Heap} (H :
 SpecH PP F_slices_SortFunc_api_Key_api_Key [(.slice out7 out7n out7c), (.func (.func F_chain_Store_keys_1) #[] #[])] h (fun v h1 => v = (.tuple #[]) ∧
 Q (.slice out7 out7n out7c) h1)) : (K1 Q) (.exit 0) (X0 out7 out7n out7c) h := of_eq_txt (by kernel_rfl) H
theorem J1_of {s0 : OA} {at1 : Int} {wanted2 : Value} {out7 : OA} {out7n out7c : Nat} {k8 : Addr} {t18 : Value} {t35 : Bool} {K : EP} {h : Heap} (H :
 br t35 (
 ∃ (t37f0 t37f1 t37f2 : ByteArray), rdCells h k8 0 [(.string t37f0), (.string t37f1), (.string t37f2)] ∧
 let h1 : Heap := Array.push h (.cells #[(.string t37f0), (.string t37f1), (.string t37f2)] T_api_Key (0, 0))
 hwp PP (Builtin.append_ #[T_sl_api_Key, T_sl_api_Key] T_sl_api_Key #[(.slice out7 out7n out7c), (.slice (some ⟨Array.size h, 0, none⟩) 1 1)]) (fun v h2 => ∃ (t39 : OA) (t39n t39c : Nat), v = (.slice t39 t39n t39c) ∧
 L1 s0 at1 wanted2 t39 t39n t39c t18 K h2) h1) (
 L1 s0 at1 wanted2 out7 out7n out7c t18 K h)) : J1 s0 at1 wanted2 out7 out7n out7c k8 t18 t35 K h := by unfold J1; exact Jn.of_txt (an 15671) (by kernel_rfl) H
theorem door {s0 : OA} {at1 : Int} {wanted2 : Value} {Q : VP} {h : Heap} (H :
 let t12 : Bool := (Option.isNone s0)
 br t12 (
 Q (.slice none 0 0) h) (
 nilc s0 (fun t15 =>
 ∃ (t17 : ON), cellH h t15 = some (.map t17) ∧
 hwp PP (Instr.range T_map_api_Key_sl_chain_version (.map t17)) (fun v h1 => ∃ (t18 : Value), v = t18 ∧
 L1 s0 at1 wanted2 none 0 0 t18 (K1 Q) h1) h))) : SpecH PP F_chain_Store_keys [(.pointer s0), (.int .i64 at1), wanted2] h Q :=
   spec_of_txt (ann := ann) Try.func26 rfl rfl (by kernel_rfl) H
end chain_Store_keys
/-! ### (*haversack/chain.Store).Dump$1: function 27 -/
namespace chain_Store_Dump_1
def ann : Ann := (.seq 0 (.region [(List.range 2, 0)]) (.seq 4 (.region [(List.range 1, 4)]) (.exit 4)))
noncomputable abbrev cd (n : Nat) : Code := sub (bodyOf Try.f27) (pth n)
abbrev an (n : Nat) : Ann := subA ann (pth n)
theorem door {t0f0 t0f1 t0f2 : ByteArray} {Q : VP} {h : Heap} (H :
 let t1 : Addr := ⟨Array.size h, 0, none⟩
 let h1 : Heap := Array.push h (.cells #[(.string t0f0), (.string t0f1), (.string t0f2)] T_api_Key (0, 0))
 Q (.bool true) h1) : SpecH PP F_chain_Store_Dump_1 [(.agg #[(.string t0f0), (.string t0f1), (.string t0f2)])] h Q :=
   spec_of_txt (ann := ann) Try.func27 rfl rfl (by kernel_rfl) H
end chain_Store_Dump_1
/-! ### slices.Clone[[]haversack/chain.version,haversack/chain.version]: function 28 -/
namespace slices_Clone_chain_version_chain_version
def ann : Ann := (.seq 1 (.region [(List.range 1, 1)]) (.seq 1 (.seq 17 (.region [(List.range 2, 17)]) (.cond (.seq 4 (.region [(List.range 1, 4)]) (.exit 4)) .leaf)) (.seq 4 (.region [(List.range 4, 4)]) (.exit 4))))
noncomputable abbrev cd (n : Nat) : Code := sub (bodyOf Try.f28) (pth n)
abbrev an (n : Nat) : Ann := subA ann (pth n)
theorem door {s0 : OA} {s0n s0c : Nat} {Q : VP} {h : Heap} (H :
 let t4 : Bool := (Option.isNone s0)
 br t4 (
 Q (.slice none 0 0) h) (
 let h1 : Heap := Array.push h (.cells #[] T_chain_version (0, 0))
 hwp PP (Builtin.append_ #[T_sl_chain_version, T_sl_chain_version] T_sl_chain_version #[(.slice (some ⟨Array.size h, 0, none⟩) 0 0), (.slice s0 s0n s0c)]) (fun v h2 => ∃ (t7 : OA) (t7n t7c : Nat), v = (.slice t7 t7n t7c) ∧
 Q (.slice t7 t7n t7c) h2) h1)) : SpecH PP F_slices_Clone_chain_version_chain_version [(.slice s0 s0n s0c)] h Q :=
   spec_of_txt (ann := ann) Try.func28 rfl rfl (by kernel_rfl) H
end slices_Clone_chain_version_chain_version
/-! ### haversack/haversacklaw12.copied: function 29 -/
namespace law12_copied
def ann : Ann := (.seq 6 (.region [(List.range 2, 6)]) (.seq 14 (.region [(List.range 5, 14)]) (.seq 12 (.region [(List.range 7, 12)]) (.seq 4 (.region [(List.range 2, 4)]) (.exit 4)))))
noncomputable abbrev cd (n : Nat) : Code := sub (bodyOf Try.f29) (pth n)
abbrev an (n : Nat) : Ann := subA ann (pth n)
theorem door {c0f0 : Int} {c0f1 : OA} {c0f1n c0f1c : Nat} {Q : VP} {h : Heap} (H :
 let c1 : Addr := ⟨Array.size h, 0, none⟩
 let h1 : Heap := Array.push h (.cells #[(.int .i64 c0f0), (.slice c0f1 c0f1n c0f1c)] T_api_Commit (0, 0))
 let t2 : Addr := ⟨Array.size h1, 0, none⟩
 let h2 : Heap := Array.push h1 (.cells #[(.int .i64 0), (.slice none 0 0)] T_api_Commit (0, 0))
 ∃ (t5 : Int), cellH h2 c1 = some (.int .i64 t5) ∧
 let out3 : Addr := ⟨Array.size h2, 0, none⟩
 let h3 : Heap := Array.push h2 (.cells #[(.int .i64 0), (.slice none 0 0)] T_api_Commit (0, 0))
 wrCells out3 0 [(.int .i64 t5), (.slice none 0 0)] (fun h4 =>
 ∃ (t8 : OA) (t8n t8c : Nat), cellH h4 (Addr.add out3 1) = some (.slice t8 t8n t8c) ∧
 ∃ (t10 : OA) (t10n t10c : Nat), cellH h4 (Addr.add c1 1) = some (.slice t10 t10n t10c) ∧
 hwp PP (Builtin.append_ #[T_sl_api_Write, T_sl_api_Write] T_sl_api_Write #[(.slice t8 t8n t8c), (.slice t10 t10n t10c)]) (fun v h5 => ∃ (t11 : OA) (t11n t11c : Nat), v = (.slice t11 t11n t11c) ∧
 wr (Addr.add out3 1) (.slice t11 t11n t11c) (fun h6 =>
 ∃ (t13f0 : Int) (t13f1 : OA) (t13f1n t13f1c : Nat), rdCells h6 out3 0 [(.int .i64 t13f0), (.slice t13f1 t13f1n t13f1c)] ∧
 wrCells t2 0 [(.int .i64 t13f0), (.slice t13f1 t13f1n t13f1c)] (fun h7 =>
 ∃ (t2_1f0 : Int) (t2_1f1 : OA) (t2_1f1n t2_1f1c : Nat), rdCells h7 t2 0 [(.int .i64 t2_1f0), (.slice t2_1f1 t2_1f1n t2_1f1c)] ∧
 Q (.agg #[(.int .i64 t2_1f0), (.slice t2_1f1 t2_1f1n t2_1f1c)]) h7) h6) h5) h4) h3) : SpecH PP F_law12_copied [(.agg #[(.int .i64 c0f0), (.slice c0f1 c0f1n c0f1c)])] h Q :=
   spec_of_txt (ann := ann) Try.func29 rfl rfl (by kernel_rfl) H
end law12_copied
/-! ### (*haversack/haversackref12.Store).Put: function 30 -/
namespace ref12_Store_Put
def ann : Ann := (.seq 9 (.region [(List.range 2, 9)]) (.seq 9 (.seq 65545 (.region [(List.range 7, 65545)]) (.cond (.seq 16 (.region [(List.range 1, 16)]) (.exit 16)) .leaf)) (.seq 9 (.region [(List.range 6, 9)]) (.seq 0 (.seq 41 (.region [(List.range 1, 41)]) (.block (.loop 41 (.seq 41 (.seq 67108905 (.region [(List.range 5, 67108905)]) (.cond .leaf (.exit 0))) (.seq 41 (.block (.seq 105 (.region [(List.range 7, 105)]) (.seq 233 (.region [(List.range 9, 233)]) (.seq 233 (.seq 4398046511337 (.region [(List.range 2, 4398046511337)]) (.cond (.region [(List.range 4, 233)]) .leaf)) (.join (.seq 489 (.region [(List.range 6, 489)]) (.seq 425 (.seq 1001 (.region [(List.range 1, 1001)]) (.block (.loop 1001 (.seq 1001 (.seq 144115188075856873 (.region [(List.range 7, 144115188075856873)]) (.cond .leaf (.exit 425))) (.seq 1001 (.block (.seq 9671406556917033397650409 (.region [(List.range 24, 9671406556917033397650409)]) (.join (.cond (.region [(List.range 2, 1001)]) .leaf)))) (.join (.region [(List.range 3, 1001)]))))))) (.seq 2475880078570760549798248873 (.region [(List.range 7, 2475880078570760549798248873)]) (.cond (.region [(List.range 11, 41)]) (.region [(List.range 8, 41)])))))))))) (.join (.region [(List.range 3, 41)]))))))) (.seq 16 (.region [(List.range 1, 16)]) (.exit 16))))))
noncomputable abbrev cd (n : Nat) : Code := sub (bodyOf Try.f30) (pth n)
abbrev an (n : Nat) : Ann := subA ann (pth n)
@[irreducible] def X0  : Fr := (mkFr 0 109 [])
@[irreducible] def X2 (s0 : OA) (c3 : Addr) (i5 : Int) (v7 : Addr) (at8 : Int) : Fr := (mkFr 0 109 [(0, (.pointer s0)), (3, (.pointer (some c3))), (5, (.int .i64 i5)), (7, (.pointer (some v7))), (8, (.int .i64 at8))])
@[irreducible] def L1 (s0 : OA) (c3 : Addr) (i5 : Int) (K : EP) (h : Heap) : Prop := Lp PP true (cd 244) (mkFr 0 109 [(0, (.pointer s0)), (3, (.pointer (some c3))), (5, (.int .i64 i5))]) K h
@[irreducible] def B1 (K : EP) : EP := seqK (fun fr h => Lp PP true (cd 244) (fr.mask 41) K h) K
@[irreducible] def K5 (K : EP) : EP := seqK (fun fr h => Jn PP true (cd 979) (fr.mask 41) (B1 K) h) (B1 K)
@[irreducible] def K2 (K : EP) : EP := blockK 1 (K5 K)
@[irreducible] def J1 (s0 : OA) (c3 : Addr) (i5 : Int) (w6 v7 : Addr) (K : EP) (h : Heap) : Prop := Jn PP true (cd 15655) (mkFr 0 109 [(0, (.pointer s0)), (3, (.pointer (some c3))), (5, (.int .i64 i5)), (6, (.pointer (some w6))), (7, (.pointer (some v7)))]) (K2 K) h
@[irreducible] def K4 (Q : VP) : EP := seqK (fun fr h => ev PP true none (cd 31) (an 31) (fr.mask 0) (bodyK PP Try.f30 Q) h) (bodyK PP Try.f30 Q)
@[irreducible] def K1 (Q : VP) : EP := blockK 0 (K4 Q)
@[irreducible] def K6 (K : EP) : EP := seqK (fun fr h => ev PP true none (cd 62623) (an 62623) (fr.mask 425) (K2 K) h) (K2 K)
@[irreducible] def K3 (K : EP) : EP := blockK 2 (K6 K)
@[irreducible] def L2 (s0 : OA) (c3 : Addr) (i5 : Int) (w6 v7 : Addr) (at8 k9 : Int) (K : EP) (h : Heap) : Prop := Lp PP true (cd 500980) (mkFr 0 109 [(0, (.pointer s0)), (3, (.pointer (some c3))), (5, (.int .i64 i5)), (6, (.pointer (some w6))), (7, (.pointer (some v7))), (8, (.int .i64 at8)), (9, (.int .i64 k9))]) K h
@[irreducible] def B2 (K : EP) : EP := seqK (fun fr h => Lp PP true (cd 500980) (fr.mask 1001) K h) K
@[irreducible] def K8 (K : EP) : EP := seqK (fun fr h => Jn PP true (cd 2003923) (fr.mask 1001) (B2 K) h) (B2 K)
@[irreducible] def K7 (K : EP) : EP := blockK 3 (K8 K)
@[irreducible] def J2 (s0 : OA) (c3 : Addr) (i5 : Int) (w6 v7 : Addr) (at8 k9 : Int) (t83 : Bool) (K : EP) (h : Heap) : Prop := Jn PP true (cd 8015689) (mkFr 0 109 [(0, (.pointer s0)), (3, (.pointer (some c3))), (5, (.int .i64 i5)), (6, (.pointer (some w6))), (7, (.pointer (some v7))), (8, (.int .i64 at8)), (9, (.int .i64 k9)), (83, (.bool t83))]) (K7 K) h
@[irreducible] def J3 (s0 : OA) (c3 : Addr) (i5 : Int) (K : EP) (h : Heap) : Prop := Jn PP true (cd 979) (mkFr 0 109 [(0, (.pointer s0)), (3, (.pointer (some c3))), (5, (.int .i64 i5))]) (B1 K) h
@[irreducible] def J4 (s0 : OA) (c3 : Addr) (i5 : Int) (w6 v7 : Addr) (at8 k9 : Int) (K : EP) (h : Heap) : Prop := Jn PP true (cd 2003923) (mkFr 0 109 [(0, (.pointer s0)), (3, (.pointer (some c3))), (5, (.int .i64 i5)), (6, (.pointer (some w6))), (7, (.pointer (some v7))), (8, (.int .i64 at8)), (9, (.int .i64 k9))]) (B2 K) h
theorem L1_of {s0 : OA} {c3 : Addr} {i5 : Int} {K : EP} {h : Heap} (H :
 ∃ (t24 : OA) (t24n t24c : Nat), cellH h (Addr.add c3 1) = some (.slice t24 t24n t24c) ∧
 let t26 : Bool := decide (i5 < (t24n : Int))
 br t26 (
 ∃ (t30 : OA) (t30n t30c : Nat), cellH h (Addr.add c3 1) = some (.slice t30 t30n t30c) ∧
 hwp PP (Instr.indexAt T_sl_api_Write (.slice t30 t30n t30c) (.int .i64 i5)) (fun v h1 => ∃ (t32 : Addr), v = (.pointer (some t32)) ∧
 ∃ (t33f0 t33f1 t33f2 : ByteArray) (t33f3 : Bool) (t33f4 : ByteArray), rdCells h1 t32 0 [(.string t33f0), (.string t33f1), (.string t33f2), (.bool t33f3), (.string t33f4)] ∧
 let w6 : Addr := ⟨Array.size h1, 0, none⟩
 let h2 : Heap := Array.push h1 (.cells #[(.string (⟨#[]⟩ : ByteArray)), (.string (⟨#[]⟩ : ByteArray)), (.string (⟨#[]⟩ : ByteArray)), (.bool false), (.string (⟨#[]⟩ : ByteArray))] T_api_Write (0, 0))
 wrCells w6 0 [(.string t33f0), (.string t33f1), (.string t33f2), (.bool t33f3), (.string t33f4)] (fun h3 =>
 ∃ (t35f0 t35f1 t35f2 : ByteArray), rdCells h3 w6 0 [(.string t35f0), (.string t35f1), (.string t35f2)] ∧
 ∃ (t37 : Int), cellH h3 c3 = some (.int .i64 t37) ∧
 ∃ (t39 : Bool), cellH h3 (Addr.add w6 3) = some (.bool t39) ∧
 let v7 : Addr := ⟨Array.size h3, 0, none⟩
 let h4 : Heap := Array.push h3 (.cells #[(.string (⟨#[]⟩ : ByteArray)), (.string (⟨#[]⟩ : ByteArray)), (.string (⟨#[]⟩ : ByteArray)), (.int .i64 0), (.bool false), (.string (⟨#[]⟩ : ByteArray))] T_haversackref12_Version (0, 0))
 wrCells v7 0 [(.string t35f0), (.string t35f1), (.string t35f2), (.int .i64 t37), (.bool t39), (.string (⟨#[]⟩ : ByteArray))] (fun h5 =>
 ∃ (t42 : Bool), cellH h5 (Addr.add w6 3) = some (.bool t42) ∧
 br t42 (
 ∃ (t44 : ByteArray), cellH h5 (Addr.add w6 4) = some (.string t44) ∧
 wr (Addr.add v7 5) (.string t44) (fun h6 =>
 J1 s0 c3 i5 w6 v7 K h6) h5) (
 J1 s0 c3 i5 w6 v7 K h5)) h4) h2) h) (
 K (.exit 0) (X0) h)) : L1 s0 c3 i5 K h := by unfold L1; exact Lp.of_txt (an 244) 41 (by kernel_rfl) H
theorem L1_X0 {Q : VP}  {h : Heap} (H :
 Q (.int .i64 0) h) : (K1 Q) (.exit 0) (X0 ) h := of_eq_txt (by kernel_rfl) H
theorem J1_of {s0 : OA} {c3 : Addr} {i5 : Int} {w6 v7 : Addr} {K : EP} {h : Heap} (H :
 nilc s0 (fun t47 =>
 ∃ (t49 : OA) (t49n t49c : Nat), cellH h t47 = some (.slice t49 t49n t49c) ∧
 L2 s0 c3 i5 w6 v7 (t49n : Int) 0 (K3 K) h)) : J1 s0 c3 i5 w6 v7 K h := by unfold J1; exact Jn.of_txt (an 15655) (by kernel_rfl) H
theorem L2_of {s0 : OA} {c3 : Addr} {i5 : Int} {w6 v7 : Addr} {at8 k9 : Int} {K : EP} {h : Heap} (H :
 nilc s0 (fun t53 =>
 ∃ (t55 : OA) (t55n t55c : Nat), cellH h t53 = some (.slice t55 t55n t55c) ∧
 let t57 : Bool := decide (k9 < (t55n : Int))
 br t57 (
 nilc s0 (fun t61 =>
 ∃ (t63 : OA) (t63n t63c : Nat), cellH h t61 = some (.slice t63 t63n t63c) ∧
 hwp PP (Instr.indexAt T_sl_haversackref12_Version (.slice t63 t63n t63c) (.int .i64 k9)) (fun v h1 => ∃ (t65 : Addr), v = (.pointer (some t65)) ∧
 ∃ (t67f0 t67f1 t67f2 : ByteArray), rdCells h1 t65 0 [(.string t67f0), (.string t67f1), (.string t67f2)] ∧
 ∃ (t69f0 t69f1 t69f2 : ByteArray), rdCells h1 w6 0 [(.string t69f0), (.string t69f1), (.string t69f2)] ∧
 let t70 : Bool := (decide (t67f0 = t69f0) && (decide (t67f1 = t69f1) && (decide (t67f2 = t69f2) && true)))
 br t70 (
 nilc s0 (fun t73 =>
 ∃ (t75 : OA) (t75n t75c : Nat), cellH h1 t73 = some (.slice t75 t75n t75c) ∧
 hwp PP (Instr.indexAt T_sl_haversackref12_Version (.slice t75 t75n t75c) (.int .i64 k9)) (fun v_1 h2 => ∃ (t77 : Addr), v_1 = (.pointer (some t77)) ∧
 ∃ (t79 : Int), cellH h2 (Addr.add t77 3) = some (.int .i64 t79) ∧
 ∃ (t81 : Int), cellH h2 c3 = some (.int .i64 t81) ∧
 let t82 : Bool := (t79 == t81)
 J2 s0 c3 i5 w6 v7 at8 k9 t82 K h2) h1)) (
 J2 s0 c3 i5 w6 v7 at8 k9 false K h1)) h)) (
 K (.exit 2) (X2 s0 c3 i5 v7 at8) h))) : L2 s0 c3 i5 w6 v7 at8 k9 K h := by unfold L2; exact Lp.of_txt (an 500980) 1001 (by kernel_rfl) H
theorem L2_X2 {K : EP} {s0 : OA} {c3 : Addr} {i5 : Int} {v7 : Addr} {at8 : Int} {h : Heap} (H :
 nilc s0 (fun t87 =>
 ∃ (t89 : OA) (t89n t89c : Nat), cellH h t87 = some (.slice t89 t89n t89c) ∧
 let t91 : Bool := (at8 == (t89n : Int))
 br t91 (
 nilc s0 (fun t94 =>
 ∃ (t96 : OA) (t96n t96c : Nat), cellH h t94 = some (.slice t96 t96n t96c) ∧
 ∃ (t97f0 t97f1 t97f2 : ByteArray) (t97f3 : Int) (t97f4 : Bool) (t97f5 : ByteArray), rdCells h v7 0 [(.string t97f0), (.string t97f1), (.string t97f2), (.int .i64 t97f3), (.bool t97f4), (.string t97f5)] ∧
 let h1 : Heap := Array.push h (.cells #[(.string t97f0), (.string t97f1), (.string t97f2), (.int .i64 t97f3), (.bool t97f4), (.string t97f5)] T_haversackref12_Version (0, 0))
 hwp PP (Builtin.append_ #[T_sl_haversackref12_Version, T_sl_haversackref12_Version] T_sl_haversackref12_Version #[(.slice t96 t96n t96c), (.slice (some ⟨Array.size h, 0, none⟩) 1 1)]) (fun v h2 => ∃ (t99 : OA) (t99n t99c : Nat), v = (.slice t99 t99n t99c) ∧
 nilc s0 (fun t100 =>
 wr t100 (.slice t99 t99n t99c) (fun h3 =>
 J3 s0 c3 i5 K h3) h2)) h1)) (
 nilc s0 (fun t103 =>
 ∃ (t105 : OA) (t105n t105c : Nat), cellH h t103 = some (.slice t105 t105n t105c) ∧
 ∃ (t107f0 t107f1 t107f2 : ByteArray) (t107f3 : Int) (t107f4 : Bool) (t107f5 : ByteArray), rdCells h v7 0 [(.string t107f0), (.string t107f1), (.string t107f2), (.int .i64 t107f3), (.bool t107f4), (.string t107f5)] ∧
 hwp PP (Instr.indexAt T_sl_haversackref12_Version (.slice t105 t105n t105c) (.int .i64 at8)) (fun v_1 h4 => ∃ (t108 : Addr), v_1 = (.pointer (some t108)) ∧
 wrCells t108 0 [(.string t107f0), (.string t107f1), (.string t107f2), (.int .i64 t107f3), (.bool t107f4), (.string t107f5)] (fun h5 =>
 J3 s0 c3 i5 K h5) h4) h)))) : (K3 K) (.exit 2) (X2 s0 c3 i5 v7 at8) h := of_eq_txt (by kernel_rfl) H
theorem J2_of {s0 : OA} {c3 : Addr} {i5 : Int} {w6 v7 : Addr} {at8 k9 : Int} {t83 : Bool} {K : EP} {h : Heap} (H :
 br t83 (
 J4 s0 c3 i5 w6 v7 k9 k9 K h) (
 J4 s0 c3 i5 w6 v7 at8 k9 K h)) : J2 s0 c3 i5 w6 v7 at8 k9 t83 K h := by unfold J2; exact Jn.of_txt (an 8015689) (by kernel_rfl) H
theorem J3_of {s0 : OA} {c3 : Addr} {i5 : Int} {K : EP} {h : Heap} (H :
 let t28 : Int := IntKind.i64.wrap (i5 + 1)
 L1 s0 c3 t28 K h) : J3 s0 c3 i5 K h := by unfold J3; exact Jn.of_txt (an 979) (by kernel_rfl) H
theorem J4_of {s0 : OA} {c3 : Addr} {i5 : Int} {w6 v7 : Addr} {at8 k9 : Int} {K : EP} {h : Heap} (H :
 let t59 : Int := IntKind.i64.wrap (k9 + 1)
 L2 s0 c3 i5 w6 v7 at8 t59 K h) : J4 s0 c3 i5 w6 v7 at8 k9 K h := by unfold J4; exact Jn.of_txt (an 2003923) (by kernel_rfl) H
theorem door {s0 : OA} {c1f0 : Int} {c1f1 : OA} {c1f1n c1f1c : Nat} {Q : VP} {h : Heap} (H :
 let c3 : Addr := ⟨Array.size h, 0, none⟩
 let h1 : Heap := Array.push h (.cells #[(.int .i64 c1f0), (.slice c1f1 c1f1n c1f1c)] T_api_Commit (0, 0))
 ∃ (t11 : Int), cellH h1 c3 = some (.int .i64 t11) ∧
 nilc s0 (fun t13 =>
 ∃ (t15 : Int), cellH h1 (Addr.add t13 1) = some (.int .i64 t15) ∧
 let t16 : Bool := decide (t11 ≤ t15)
 br t16 (
 Q (.int .i64 120) h1) (
 ∃ (t19 : Int), cellH h1 c3 = some (.int .i64 t19) ∧
 nilc s0 (fun t20 =>
 wr (Addr.add t20 1) (.int .i64 t19) (fun h2 =>
 L1 s0 c3 0 (K1 Q) h2) h1)))) : SpecH PP F_ref12_Store_Put [(.pointer s0), (.agg #[(.int .i64 c1f0), (.slice c1f1 c1f1n c1f1c)])] h Q :=
   spec_of_txt (ann := ann) Try.func30 rfl rfl (by kernel_rfl) H
end ref12_Store_Put
/-! ### (*haversack/haversackref12.Store).Get: function 31 -/
namespace ref12_Store_Get
def ann : Ann := (.seq 21 (.region [(List.range 3, 21)]) (.seq 257 (.region [(List.range 5, 257)]) (.seq 257 (.seq 33554689 (.region [(List.range 13, 33554689)]) (.join (.cond (.seq 192 (.region [(List.range 2, 192)]) (.exit 192)) .leaf))) (.seq 192 (.region [(List.range 10, 192)]) (.exit 192)))))
noncomputable abbrev cd (n : Nat) : Code := sub (bodyOf Try.f31) (pth n)
abbrev an (n : Nat) : Ann := subA ann (pth n)
@[irreducible] def K1 (Q : VP) : EP := seqK (fun fr h => ev PP true none (cd 15) (an 15) (fr.mask 257) (bodyK PP Try.f31 Q) h) (bodyK PP Try.f31 Q)
@[irreducible] def J1 (s0 : OA) (i8 : Int) (t25 : Bool) (Q : VP) (h : Heap) : Prop := Jn PP true (cd 29) (mkFr 0 34 [(0, (.pointer s0)), (8, (.int .i64 i8)), (25, (.bool t25))]) (K1 Q) h
theorem J1_of {s0 : OA} {i8 : Int} {t25 : Bool} {Q : VP} {h : Heap} (H :
 br t25 (
 Q (.tuple #[(.string (⟨#[]⟩ : ByteArray)), (.bool false)]) h) (
 nilc s0 (fun t27 =>
 ∃ (t29 : OA) (t29n t29c : Nat), cellH h t27 = some (.slice t29 t29n t29c) ∧
 hwp PP (Instr.indexAt T_sl_haversackref12_Version (.slice t29 t29n t29c) (.int .i64 i8)) (fun v h1 => ∃ (t31 : Addr), v = (.pointer (some t31)) ∧
 ∃ (t33 : ByteArray), cellH h1 (Addr.add t31 5) = some (.string t33) ∧
 Q (.tuple #[(.string t33), (.bool true)]) h1) h))) : J1 s0 i8 t25 Q h := by unfold J1; exact Jn.of_txt (an 29) (by kernel_rfl) H
theorem door {s0 : OA} {k1f0 k1f1 k1f2 : ByteArray} {at2 : Int} {Q : VP} {h : Heap} (H :
 let k4 : Addr := ⟨Array.size h, 0, none⟩
 let h1 : Heap := Array.push h (.cells #[(.string k1f0), (.string k1f1), (.string k1f2)] T_api_Key (0, 0))
 ∃ (t10f0 t10f1 t10f2 : ByteArray), rdCells h1 k4 0 [(.string t10f0), (.string t10f1), (.string t10f2)] ∧
 SpecH PP F_ref12_Store_newest [(.pointer s0), (.agg #[(.string t10f0), (.string t10f1), (.string t10f2)]), (.int .i64 at2)] h1 (fun v h2 => ∃ (t12 : Int), v = (.int .i64 t12) ∧
 let t14 : Bool := decide (t12 < 0)
 br t14 (
 J1 s0 t12 true Q h2) (
 nilc s0 (fun t17 =>
 ∃ (t19 : OA) (t19n t19c : Nat), cellH h2 t17 = some (.slice t19 t19n t19c) ∧
 hwp PP (Instr.indexAt T_sl_haversackref12_Version (.slice t19 t19n t19c) (.int .i64 t12)) (fun v_1 h3 => ∃ (t21 : Addr), v_1 = (.pointer (some t21)) ∧
 ∃ (t23 : Bool), cellH h3 (Addr.add t21 4) = some (.bool t23) ∧
 let t24 : Bool := (!t23)
 J1 s0 t12 t24 Q h3) h2)))) : SpecH PP F_ref12_Store_Get [(.pointer s0), (.agg #[(.string k1f0), (.string k1f1), (.string k1f2)]), (.int .i64 at2)] h Q :=
   spec_of_txt (ann := ann) Try.func31 rfl rfl (by kernel_rfl) H
end ref12_Store_Get
/-! ### (*haversack/haversackref12.Store).List: function 32 -/
namespace ref12_Store_List
def ann : Ann := (.seq 21 (.region [(List.range 2, 21)]) (.seq 149 (.region [(List.range 1, 149)]) (.seq 400 (.region [(List.range 4, 400)]) (.seq 128 (.seq 912 (.region [(List.range 1, 912)]) (.block (.loop 912 (.seq 912 (.seq 66448 (.region [(List.range 4, 66448)]) (.cond .leaf (.exit 128))) (.seq 912 (.block (.seq 68719477648 (.region [(List.range 18, 68719477648)]) (.join (.cond (.region [(List.range 9, 912)]) .leaf)))) (.join (.region [(List.range 3, 912)]))))))) (.seq 64 (.region [(List.range 2, 64)]) (.exit 64))))))
noncomputable abbrev cd (n : Nat) : Code := sub (bodyOf Try.f32) (pth n)
abbrev an (n : Nat) : Ann := subA ann (pth n)
@[irreducible] def X0 (out7 : OA) (out7n out7c : Nat) : Fr := (mkFr 0 46 [(7, (.slice out7 out7n out7c))])
@[irreducible] def L1 (b4 : Addr) (out7 : OA) (out7n out7c : Nat) (xl8 : OA) (xl8n xl8c : Nat) (i9 : Int) (K : EP) (h : Heap) : Prop := Lp PP true (cd 244) (mkFr 0 46 [(4, (.pointer (some b4))), (7, (.slice out7 out7n out7c)), (8, (.slice xl8 xl8n xl8c)), (9, (.int .i64 i9))]) K h
@[irreducible] def B1 (K : EP) : EP := seqK (fun fr h => Lp PP true (cd 244) (fr.mask 912) K h) K
@[irreducible] def K4 (K : EP) : EP := seqK (fun fr h => Jn PP true (cd 979) (fr.mask 912) (B1 K) h) (B1 K)
@[irreducible] def K2 (K : EP) : EP := blockK 1 (K4 K)
@[irreducible] def J1 (b4 : Addr) (out7 : OA) (out7n out7c : Nat) (xl8 : OA) (xl8n xl8c : Nat) (i9 : Int) (t36 : Bool) (K : EP) (h : Heap) : Prop := Jn PP true (cd 3913) (mkFr 0 46 [(4, (.pointer (some b4))), (7, (.slice out7 out7n out7c)), (8, (.slice xl8 xl8n xl8c)), (9, (.int .i64 i9)), (36, (.bool t36))]) (K2 K) h
@[irreducible] def K3 (Q : VP) : EP := seqK (fun fr h => ev PP true none (cd 31) (an 31) (fr.mask 128) (bodyK PP Try.f32 Q) h) (bodyK PP Try.f32 Q)
@[irreducible] def K1 (Q : VP) : EP := blockK 0 (K3 Q)
@[irreducible] def J2 (b4 : Addr) (out7 : OA) (out7n out7c : Nat) (xl8 : OA) (xl8n xl8c : Nat) (i9 : Int) (K : EP) (h : Heap) : Prop := Jn PP true (cd 979) (mkFr 0 46 [(4, (.pointer (some b4))), (7, (.slice out7 out7n out7c)), (8, (.slice xl8 xl8n xl8c)), (9, (.int .i64 i9))]) (B1 K) h
theorem L1_of {b4 : Addr} {out7 : OA} {out7n out7c : Nat} {xl8 : OA} {xl8n xl8c : Nat} {i9 : Int} {K : EP} {h : Heap} (H :
 let t16 : Bool := decide (i9 < (xl8n : Int))
 br t16 (
 hwp PP (Instr.indexAt T_sl_api_Key (.slice xl8 xl8n xl8c) (.int .i64 i9)) (fun v h1 => ∃ (t21 : Addr), v = (.pointer (some t21)) ∧
 ∃ (t23 : ByteArray), cellH h1 t21 = some (.string t23) ∧
 ∃ (t25 : ByteArray), cellH h1 b4 = some (.string t25) ∧
 let t26 : Bool := decide (t23 = t25)
 br t26 (
 hwp PP (Instr.indexAt T_sl_api_Key (.slice xl8 xl8n xl8c) (.int .i64 i9)) (fun v_1 h2 => ∃ (t30 : Addr), v_1 = (.pointer (some t30)) ∧
 ∃ (t32 : ByteArray), cellH h2 (Addr.add t30 1) = some (.string t32) ∧
 ∃ (t34 : ByteArray), cellH h2 (Addr.add b4 1) = some (.string t34) ∧
 let t35 : Bool := decide (t32 = t34)
 J1 b4 out7 out7n out7c xl8 xl8n xl8c i9 t35 K h2) h1) (
 J1 b4 out7 out7n out7c xl8 xl8n xl8c i9 false K h1)) h) (
 K (.exit 0) (X0 out7 out7n out7c) h)) : L1 b4 out7 out7n out7c xl8 xl8n xl8c i9 K h := by unfold L1; exact Lp.of_txt (an 244) 912 (by kernel_rfl) H
theorem L1_X0 {Q : VP} {out7 : OA} {out7n out7c : Nat} {h : Heap} (H :
 Q (.slice out7 out7n out7c) h) : (K1 Q) (.exit 0) (X0 out7 out7n out7c) h := of_eq_txt (by kernel_rfl) H
theorem J1_of {b4 : Addr} {out7 : OA} {out7n out7c : Nat} {xl8 : OA} {xl8n xl8c : Nat} {i9 : Int} {t36 : Bool} {K : EP} {h : Heap} (H :
 br t36 (
 hwp PP (Instr.indexAt T_sl_api_Key (.slice xl8 xl8n xl8c) (.int .i64 i9)) (fun v h1 => ∃ (t40 : Addr), v = (.pointer (some t40)) ∧
 ∃ (t42 : ByteArray), cellH h1 (Addr.add t40 2) = some (.string t42) ∧
 let h2 : Heap := Array.push h1 (.cells #[(.string t42)] T_string (0, 0))
 hwp PP (Builtin.append_ #[T_sl_string, T_sl_string] T_sl_string #[(.slice out7 out7n out7c), (.slice (some ⟨Array.size h1, 0, none⟩) 1 1)]) (fun v_1 h3 => ∃ (t44 : OA) (t44n t44c : Nat), v_1 = (.slice t44 t44n t44c) ∧
 J2 b4 t44 t44n t44c xl8 xl8n xl8c i9 K h3) h2) h) (
 J2 b4 out7 out7n out7c xl8 xl8n xl8c i9 K h)) : J1 b4 out7 out7n out7c xl8 xl8n xl8c i9 t36 K h := by unfold J1; exact Jn.of_txt (an 3913) (by kernel_rfl) H
theorem J2_of {b4 : Addr} {out7 : OA} {out7n out7c : Nat} {xl8 : OA} {xl8n xl8c : Nat} {i9 : Int} {K : EP} {h : Heap} (H :
 let t18 : Int := IntKind.i64.wrap (i9 + 1)
 L1 b4 out7 out7n out7c xl8 xl8n xl8c t18 K h) : J2 b4 out7 out7n out7c xl8 xl8n xl8c i9 K h := by unfold J2; exact Jn.of_txt (an 979) (by kernel_rfl) H
theorem door {s0 : OA} {b1f0 b1f1 : ByteArray} {at2 : Int} {Q : VP} {h : Heap} (H :
 let b4 : Addr := ⟨Array.size h, 0, none⟩
 let h1 : Heap := Array.push h (.cells #[(.string b1f0), (.string b1f1)] T_api_Box (0, 0))
 SpecH PP F_ref12_Store_keys [(.pointer s0), (.int .i64 at2)] h1 (fun v h2 => ∃ (t12 : OA) (t12n t12c : Nat), v = (.slice t12 t12n t12c) ∧
 L1 b4 none 0 0 t12 t12n t12c 0 (K1 Q) h2)) : SpecH PP F_ref12_Store_List [(.pointer s0), (.agg #[(.string b1f0), (.string b1f1)]), (.int .i64 at2)] h Q :=
   spec_of_txt (ann := ann) Try.func32 rfl rfl (by kernel_rfl) H
end ref12_Store_List
/-! ### (*haversack/haversackref12.Store).Last: function 33 -/
namespace ref12_Store_Last
def ann : Ann := (.seq 9 (.region [(List.range 2, 9)]) (.seq 41 (.region [(List.range 1, 41)]) (.seq 32 (.seq 105 (.region [(List.range 1, 105)]) (.block (.loop 105 (.seq 105 (.seq 8297 (.region [(List.range 7, 8297)]) (.cond .leaf (.exit 32))) (.seq 105 (.block (.seq 33554537 (.region [(List.range 10, 33554537)]) (.cond (.region [(List.range 11, 105)]) .leaf))) (.join (.region [(List.range 3, 105)]))))))) (.seq 16 (.region [(List.range 2, 16)]) (.exit 16)))))
noncomputable abbrev cd (n : Nat) : Code := sub (bodyOf Try.f33) (pth n)
abbrev an (n : Nat) : Ann := subA ann (pth n)
@[irreducible] def X0 (xn5 : Int) : Fr := (mkFr 0 37 [(5, (.int .i64 xn5))])
@[irreducible] def L1 (s0 : OA) (k3 : Addr) (xn5 i6 : Int) (K : EP) (h : Heap) : Prop := Lp PP true (cd 116) (mkFr 0 37 [(0, (.pointer s0)), (3, (.pointer (some k3))), (5, (.int .i64 xn5)), (6, (.int .i64 i6))]) K h
@[irreducible] def B1 (K : EP) : EP := seqK (fun fr h => Lp PP true (cd 116) (fr.mask 105) K h) K
@[irreducible] def J1 (s0 : OA) (k3 : Addr) (xn5 i6 : Int) (K : EP) (h : Heap) : Prop := Jn PP true (cd 467) (mkFr 0 37 [(0, (.pointer s0)), (3, (.pointer (some k3))), (5, (.int .i64 xn5)), (6, (.int .i64 i6))]) (B1 K) h
@[irreducible] def K2 (Q : VP) : EP := seqK (fun fr h => ev PP true none (cd 15) (an 15) (fr.mask 32) (bodyK PP Try.f33 Q) h) (bodyK PP Try.f33 Q)
@[irreducible] def K1 (Q : VP) : EP := blockK 0 (K2 Q)
theorem L1_of {s0 : OA} {k3 : Addr} {xn5 i6 : Int} {K : EP} {h : Heap} (H :
 nilc s0 (fun t9 =>
 ∃ (t11 : OA) (t11n t11c : Nat), cellH h t9 = some (.slice t11 t11n t11c) ∧
 let t13 : Bool := decide (i6 < (t11n : Int))
 br t13 (
 nilc s0 (fun t17 =>
 ∃ (t19 : OA) (t19n t19c : Nat), cellH h t17 = some (.slice t19 t19n t19c) ∧
 hwp PP (Instr.indexAt T_sl_haversackref12_Version (.slice t19 t19n t19c) (.int .i64 i6)) (fun v h1 => ∃ (t21 : Addr), v = (.pointer (some t21)) ∧
 ∃ (t23f0 t23f1 t23f2 : ByteArray), rdCells h1 t21 0 [(.string t23f0), (.string t23f1), (.string t23f2)] ∧
 ∃ (t24f0 t24f1 t24f2 : ByteArray), rdCells h1 k3 0 [(.string t24f0), (.string t24f1), (.string t24f2)] ∧
 let t25 : Bool := (decide (t23f0 = t24f0) && (decide (t23f1 = t24f1) && (decide (t23f2 = t24f2) && true)))
 br t25 (
 nilc s0 (fun t28 =>
 ∃ (t30 : OA) (t30n t30c : Nat), cellH h1 t28 = some (.slice t30 t30n t30c) ∧
 hwp PP (Instr.indexAt T_sl_haversackref12_Version (.slice t30 t30n t30c) (.int .i64 i6)) (fun v_1 h2 => ∃ (t32 : Addr), v_1 = (.pointer (some t32)) ∧
 ∃ (t34 : Int), cellH h2 (Addr.add t32 3) = some (.int .i64 t34) ∧
 let t35 : Int := (if t34 > xn5 then t34 else xn5)
 J1 s0 k3 t35 i6 K h2) h1)) (
 J1 s0 k3 xn5 i6 K h1)) h)) (
 K (.exit 0) (X0 xn5) h))) : L1 s0 k3 xn5 i6 K h := by unfold L1; exact Lp.of_txt (an 116) 105 (by kernel_rfl) H
theorem L1_X0 {Q : VP} {xn5 : Int} {h : Heap} (H :
 Q (.int .i64 xn5) h) : (K1 Q) (.exit 0) (X0 xn5) h := of_eq_txt (by kernel_rfl) H
theorem J1_of {s0 : OA} {k3 : Addr} {xn5 i6 : Int} {K : EP} {h : Heap} (H :
 let t15 : Int := IntKind.i64.wrap (i6 + 1)
 L1 s0 k3 xn5 t15 K h) : J1 s0 k3 xn5 i6 K h := by unfold J1; exact Jn.of_txt (an 467) (by kernel_rfl) H
theorem door {s0 : OA} {k1f0 k1f1 k1f2 : ByteArray} {Q : VP} {h : Heap} (H :
 let k3 : Addr := ⟨Array.size h, 0, none⟩
 let h1 : Heap := Array.push h (.cells #[(.string k1f0), (.string k1f1), (.string k1f2)] T_api_Key (0, 0))
 L1 s0 k3 0 0 (K1 Q) h1) : SpecH PP F_ref12_Store_Last [(.pointer s0), (.agg #[(.string k1f0), (.string k1f1), (.string k1f2)])] h Q :=
   spec_of_txt (ann := ann) Try.func33 rfl rfl (by kernel_rfl) H
end ref12_Store_Last
/-! ### (*haversack/haversackref12.Store).Prune: function 34 -/
namespace ref12_Store_Prune
def ann : Ann := (.seq 3 (.region [(List.range 1, 3)]) (.seq 3 (.seq 16387 (.region [(List.range 6, 16387)]) (.cond (.seq 16 (.region [(List.range 1, 16)]) (.exit 16)) .leaf)) (.seq 1 (.region [(List.range 10, 1)]) (.seq 33 (.region [(List.range 1, 33)]) (.seq 33 (.seq 97 (.region [(List.range 1, 97)]) (.block (.loop 97 (.seq 97 (.seq 1073741921 (.region [(List.range 7, 1073741921)]) (.cond .leaf (.exit 33))) (.seq 97 (.block (.seq 225 (.region [(List.range 9, 225)]) (.seq 4611686018427388129 (.region [(List.range 23, 4611686018427388129)]) (.join (.cond (.region [(List.range 5, 97)]) .leaf))))) (.join (.region [(List.range 3, 97)]))))))) (.seq 289 (.region [(List.range 9, 289)]) (.seq 256 (.region [(List.range 5, 256)]) (.seq 16 (.region [(List.range 2, 16)]) (.exit 16)))))))))
noncomputable abbrev cd (n : Nat) : Code := sub (bodyOf Try.f34) (pth n)
abbrev an (n : Nat) : Ann := subA ann (pth n)
@[irreducible] def X0 (s0 out5 : OA) (out5n out5c : Nat) : Fr := (mkFr 0 80 [(0, (.pointer s0)), (5, (.slice out5 out5n out5c))])
@[irreducible] def L1 (s0 out5 : OA) (out5n out5c : Nat) (i6 : Int) (K : EP) (h : Heap) : Prop := Lp PP true (cd 500) (mkFr 0 80 [(0, (.pointer s0)), (5, (.slice out5 out5n out5c)), (6, (.int .i64 i6))]) K h
@[irreducible] def B1 (K : EP) : EP := seqK (fun fr h => Lp PP true (cd 500) (fr.mask 97) K h) K
@[irreducible] def K4 (K : EP) : EP := seqK (fun fr h => Jn PP true (cd 2003) (fr.mask 97) (B1 K) h) (B1 K)
@[irreducible] def K2 (K : EP) : EP := blockK 1 (K4 K)
@[irreducible] def J1 (s0 out5 : OA) (out5n out5c : Nat) (i6 : Int) (v7 : Addr) (t62 : Bool) (K : EP) (h : Heap) : Prop := Jn PP true (cd 16019) (mkFr 0 80 [(0, (.pointer s0)), (5, (.slice out5 out5n out5c)), (6, (.int .i64 i6)), (7, (.pointer (some v7))), (62, (.bool t62))]) (K2 K) h
@[irreducible] def K3 (Q : VP) : EP := seqK (fun fr h => ev PP true none (cd 63) (an 63) (fr.mask 33) (bodyK PP Try.f34 Q) h) (bodyK PP Try.f34 Q)
@[irreducible] def K1 (Q : VP) : EP := blockK 0 (K3 Q)
@[irreducible] def J2 (s0 out5 : OA) (out5n out5c : Nat) (i6 : Int) (K : EP) (h : Heap) : Prop := Jn PP true (cd 2003) (mkFr 0 80 [(0, (.pointer s0)), (5, (.slice out5 out5n out5c)), (6, (.int .i64 i6))]) (B1 K) h
theorem L1_of {s0 out5 : OA} {out5n out5c : Nat} {i6 : Int} {K : EP} {h : Heap} (H :
 nilc s0 (fun t26 =>
 ∃ (t28 : OA) (t28n t28c : Nat), cellH h t26 = some (.slice t28 t28n t28c) ∧
 let t30 : Bool := decide (i6 < (t28n : Int))
 br t30 (
 nilc s0 (fun t34 =>
 ∃ (t36 : OA) (t36n t36c : Nat), cellH h t34 = some (.slice t36 t36n t36c) ∧
 hwp PP (Instr.indexAt T_sl_haversackref12_Version (.slice t36 t36n t36c) (.int .i64 i6)) (fun v h1 => ∃ (t38 : Addr), v = (.pointer (some t38)) ∧
 ∃ (t39f0 t39f1 t39f2 : ByteArray) (t39f3 : Int) (t39f4 : Bool) (t39f5 : ByteArray), rdCells h1 t38 0 [(.string t39f0), (.string t39f1), (.string t39f2), (.int .i64 t39f3), (.bool t39f4), (.string t39f5)] ∧
 let v7 : Addr := ⟨Array.size h1, 0, none⟩
 let h2 : Heap := Array.push h1 (.cells #[(.string (⟨#[]⟩ : ByteArray)), (.string (⟨#[]⟩ : ByteArray)), (.string (⟨#[]⟩ : ByteArray)), (.int .i64 0), (.bool false), (.string (⟨#[]⟩ : ByteArray))] T_haversackref12_Version (0, 0))
 wrCells v7 0 [(.string t39f0), (.string t39f1), (.string t39f2), (.int .i64 t39f3), (.bool t39f4), (.string t39f5)] (fun h3 =>
 ∃ (t41 : Int), cellH h3 (Addr.add v7 3) = some (.int .i64 t41) ∧
 nilc s0 (fun t43 =>
 ∃ (t45 : Int), cellH h3 (Addr.add t43 2) = some (.int .i64 t45) ∧
 let t46 : Bool := decide (t41 > t45)
 br t46 (
 J1 s0 out5 out5n out5c i6 v7 true K h3) (
 ∃ (t50f0 t50f1 t50f2 : ByteArray), rdCells h3 v7 0 [(.string t50f0), (.string t50f1), (.string t50f2)] ∧
 nilc s0 (fun t52 =>
 ∃ (t54 : Int), cellH h3 (Addr.add t52 2) = some (.int .i64 t54) ∧
 SpecH PP F_ref12_Store_newest [(.pointer s0), (.agg #[(.string t50f0), (.string t50f1), (.string t50f2)]), (.int .i64 t54)] h3 (fun v_1 h4 => ∃ (t55 : Int), v_1 = (.int .i64 t55) ∧
 let t57 : Bool := (t55 == i6)
 br t57 (
 ∃ (t60 : Bool), cellH h4 (Addr.add v7 4) = some (.bool t60) ∧
 J1 s0 out5 out5n out5c i6 v7 t60 K h4) (
 J1 s0 out5 out5n out5c i6 v7 false K h4)))))) h2) h)) (
 K (.exit 0) (X0 s0 out5 out5n out5c) h))) : L1 s0 out5 out5n out5c i6 K h := by unfold L1; exact Lp.of_txt (an 500) 97 (by kernel_rfl) H
theorem L1_X0 {Q : VP} {s0 out5 : OA} {out5n out5c : Nat} {h : Heap} (H :
 nilc s0 (fun t68 =>
 ∃ (t70 : OA) (t70n t70c : Nat), cellH h t68 = some (.slice t70 t70n t70c) ∧
 let t74 : Int := IntKind.i64.wrap ((t70n : Int) - (out5n : Int))
 nilc s0 (fun t77 =>
 wr t77 (.slice out5 out5n out5c) (fun h1 =>
 Q (.int .i64 t74) h1) h))) : (K1 Q) (.exit 0) (X0 s0 out5 out5n out5c) h := of_eq_txt (by kernel_rfl) H
theorem J1_of {s0 out5 : OA} {out5n out5c : Nat} {i6 : Int} {v7 : Addr} {t62 : Bool} {K : EP} {h : Heap} (H :
 br t62 (
 ∃ (t64f0 t64f1 t64f2 : ByteArray) (t64f3 : Int) (t64f4 : Bool) (t64f5 : ByteArray), rdCells h v7 0 [(.string t64f0), (.string t64f1), (.string t64f2), (.int .i64 t64f3), (.bool t64f4), (.string t64f5)] ∧
 let h1 : Heap := Array.push h (.cells #[(.string t64f0), (.string t64f1), (.string t64f2), (.int .i64 t64f3), (.bool t64f4), (.string t64f5)] T_haversackref12_Version (0, 0))
 hwp PP (Builtin.append_ #[T_sl_haversackref12_Version, T_sl_haversackref12_Version] T_sl_haversackref12_Version #[(.slice out5 out5n out5c), (.slice (some ⟨Array.size h, 0, none⟩) 1 1)]) (fun v h2 => ∃ (t66 : OA) (t66n t66c : Nat), v = (.slice t66 t66n t66c) ∧
 J2 s0 t66 t66n t66c i6 K h2) h1) (
 J2 s0 out5 out5n out5c i6 K h)) : J1 s0 out5 out5n out5c i6 v7 t62 K h := by unfold J1; exact Jn.of_txt (an 16019) (by kernel_rfl) H
theorem J2_of {s0 out5 : OA} {out5n out5c : Nat} {i6 : Int} {K : EP} {h : Heap} (H :
 let t32 : Int := IntKind.i64.wrap (i6 + 1)
 L1 s0 out5 out5n out5c t32 K h) : J2 s0 out5 out5n out5c i6 K h := by unfold J2; exact Jn.of_txt (an 2003) (by kernel_rfl) H
theorem door {s0 : OA} {at1 : Int} {Q : VP} {h : Heap} (H :
 nilc s0 (fun t11 =>
 ∃ (t13 : Int), cellH h (Addr.add t11 2) = some (.int .i64 t13) ∧
 let t14 : Bool := decide (at1 ≤ t13)
 br t14 (
 Q (.int .i64 0) h) (
 nilc s0 (fun t18 =>
 ∃ (t20 : Int), cellH h (Addr.add t18 1) = some (.int .i64 t20) ∧
 let t21 : Int := (if t20 < at1 then t20 else at1)
 nilc s0 (fun t22 =>
 wr (Addr.add t22 2) (.int .i64 t21) (fun h1 =>
 L1 s0 none 0 0 0 (K1 Q) h1) h))))) : SpecH PP F_ref12_Store_Prune [(.pointer s0), (.int .i64 at1)] h Q :=
   spec_of_txt (ann := ann) Try.func34 rfl rfl (by kernel_rfl) H
end ref12_Store_Prune
/-! ### (*haversack/haversackref12.Store).Dump: function 35 -/
namespace ref12_Store_Dump
def ann : Ann := (.seq 3 (.region [(List.range 1, 3)]) (.seq 35 (.region [(List.range 1, 35)]) (.seq 99 (.region [(List.range 4, 99)]) (.seq 32 (.seq 227 (.region [(List.range 1, 227)]) (.block (.loop 227 (.seq 227 (.seq 131299 (.region [(List.range 4, 131299)]) (.cond .leaf (.exit 32))) (.seq 227 (.block (.seq 483 (.region [(List.range 3, 483)]) (.seq 483 (.seq 2251799813685731 (.region [(List.range 30, 2251799813685731)]) (.join (.cond (.seq 483 (.region [(List.range 15, 483)]) (.region [(List.range 3, 483)])) .leaf))) (.join (.seq 995 (.region [(List.range 12, 995)]) (.region [(List.range 21, 227)])))))) (.region [(List.range 3, 227)])))))) (.seq 16 (.region [(List.range 2, 16)]) (.exit 16))))))
noncomputable abbrev cd (n : Nat) : Code := sub (bodyOf Try.f35) (pth n)
abbrev an (n : Nat) : Ann := subA ann (pth n)
@[irreducible] def X0 (out5 : OA) (out5n out5c : Nat) : Fr := (mkFr 0 99 [(5, (.slice out5 out5n out5c))])
@[irreducible] def L1 (s0 : OA) (at1 : Int) (out5 : OA) (out5n out5c : Nat) (xl6 : OA) (xl6n xl6c : Nat) (i7 : Int) (K : EP) (h : Heap) : Prop := Lp PP true (cd 244) (mkFr 0 99 [(0, (.pointer s0)), (1, (.int .i64 at1)), (5, (.slice out5 out5n out5c)), (6, (.slice xl6 xl6n xl6c)), (7, (.int .i64 i7))]) K h
@[irreducible] def B1 (K : EP) : EP := seqK (fun fr h => Lp PP true (cd 244) (fr.mask 227) K h) K
@[irreducible] def K5 (K : EP) : EP := seqK (fun fr h => ev PP true none (cd 979) (an 979) (fr.mask 227) (B1 K) h) (B1 K)
@[irreducible] def K4 (K : EP) : EP := blockK 1 (K5 K)
@[irreducible] def K2 (K : EP) : EP := seqK (fun fr h => Jn PP true (cd 7827) (fr.mask 483) (K4 K) h) (K4 K)
@[irreducible] def J1 (s0 : OA) (at1 : Int) (out5 : OA) (out5n out5c : Nat) (xl6 : OA) (xl6n xl6c : Nat) (i7 xn8 : Int) (t51 : Bool) (K : EP) (h : Heap) : Prop := Jn PP true (cd 15653) (mkFr 0 99 [(0, (.pointer s0)), (1, (.int .i64 at1)), (5, (.slice out5 out5n out5c)), (6, (.slice xl6 xl6n xl6c)), (7, (.int .i64 i7)), (8, (.int .i64 xn8)), (51, (.bool t51))]) (K2 K) h
@[irreducible] def K3 (Q : VP) : EP := seqK (fun fr h => ev PP true none (cd 31) (an 31) (fr.mask 32) (bodyK PP Try.f35 Q) h) (bodyK PP Try.f35 Q)
@[irreducible] def K1 (Q : VP) : EP := blockK 0 (K3 Q)
@[irreducible] def J2 (s0 : OA) (at1 : Int) (out5 : OA) (out5n out5c : Nat) (xl6 : OA) (xl6n xl6c : Nat) (i7 xn8 : Int) (K : EP) (h : Heap) : Prop := Jn PP true (cd 7827) (mkFr 0 99 [(0, (.pointer s0)), (1, (.int .i64 at1)), (5, (.slice out5 out5n out5c)), (6, (.slice xl6 xl6n xl6c)), (7, (.int .i64 i7)), (8, (.int .i64 xn8))]) (K4 K) h
theorem L1_of {s0 : OA} {at1 : Int} {out5 : OA} {out5n out5c : Nat} {xl6 : OA} {xl6n xl6c : Nat} {i7 : Int} {K : EP} {h : Heap} (H :
 let t17 : Bool := decide (i7 < (xl6n : Int))
 br t17 (
 let t23 : Bool := ((out5n : Int) == 0)
 br t23 (
 J1 s0 at1 out5 out5n out5c xl6 xl6n xl6c i7 (out5n : Int) true K h) (
 let t27 : Int := IntKind.i64.wrap ((out5n : Int) - 1)
 hwp PP (Instr.indexAt T_sl_api_Archive (.slice out5 out5n out5c) (.int .i64 t27)) (fun v h1 => ∃ (t28 : Addr), v = (.pointer (some t28)) ∧
 ∃ (t30 : ByteArray), cellH h1 t28 = some (.string t30) ∧
 hwp PP (Instr.indexAt T_sl_api_Key (.slice xl6 xl6n xl6c) (.int .i64 i7)) (fun v_1 h2 => ∃ (t33 : Addr), v_1 = (.pointer (some t33)) ∧
 ∃ (t35 : ByteArray), cellH h2 t33 = some (.string t35) ∧
 let t36 : Bool := (!decide (t30 = t35))
 br t36 (
 J1 s0 at1 out5 out5n out5c xl6 xl6n xl6c i7 (out5n : Int) true K h2) (
 let t41 : Int := IntKind.i64.wrap ((out5n : Int) - 1)
 hwp PP (Instr.indexAt T_sl_api_Archive (.slice out5 out5n out5c) (.int .i64 t41)) (fun v_2 h3 => ∃ (t42 : Addr), v_2 = (.pointer (some t42)) ∧
 ∃ (t44 : ByteArray), cellH h3 (Addr.add t42 1) = some (.string t44) ∧
 hwp PP (Instr.indexAt T_sl_api_Key (.slice xl6 xl6n xl6c) (.int .i64 i7)) (fun v_3 h4 => ∃ (t47 : Addr), v_3 = (.pointer (some t47)) ∧
 ∃ (t49 : ByteArray), cellH h4 (Addr.add t47 1) = some (.string t49) ∧
 let t50 : Bool := (!decide (t44 = t49))
 J1 s0 at1 out5 out5n out5c xl6 xl6n xl6c i7 (out5n : Int) t50 K h4) h3) h2)) h1) h)) (
 K (.exit 0) (X0 out5 out5n out5c) h)) : L1 s0 at1 out5 out5n out5c xl6 xl6n xl6c i7 K h := by unfold L1; exact Lp.of_txt (an 244) 227 (by kernel_rfl) H
theorem L1_X0 {Q : VP} {out5 : OA} {out5n out5c : Nat} {h : Heap} (H :
 Q (.slice out5 out5n out5c) h) : (K1 Q) (.exit 0) (X0 out5 out5n out5c) h := of_eq_txt (by kernel_rfl) H
theorem J1_of {s0 : OA} {at1 : Int} {out5 : OA} {out5n out5c : Nat} {xl6 : OA} {xl6n xl6c : Nat} {i7 xn8 : Int} {t51 : Bool} {K : EP} {h : Heap} (H :
 br t51 (
 hwp PP (Instr.indexAt T_sl_api_Key (.slice xl6 xl6n xl6c) (.int .i64 i7)) (fun v h1 => ∃ (t55 : Addr), v = (.pointer (some t55)) ∧
 ∃ (t57 : ByteArray), cellH h1 t55 = some (.string t57) ∧
 hwp PP (Instr.indexAt T_sl_api_Key (.slice xl6 xl6n xl6c) (.int .i64 i7)) (fun v_1 h2 => ∃ (t60 : Addr), v_1 = (.pointer (some t60)) ∧
 ∃ (t62 : ByteArray), cellH h2 (Addr.add t60 1) = some (.string t62) ∧
 let h3 : Heap := Array.push h2 (.cells #[(.string t57), (.string t62), (.slice none 0 0)] T_api_Archive (0, 0))
 hwp PP (Builtin.append_ #[T_sl_api_Archive, T_sl_api_Archive] T_sl_api_Archive #[(.slice out5 out5n out5c), (.slice (some ⟨Array.size h2, 0, none⟩) 1 1)]) (fun v_2 h4 => ∃ (t65 : OA) (t65n t65c : Nat), v_2 = (.slice t65 t65n t65c) ∧
 let t67 : Int := IntKind.i64.wrap (xn8 + 1)
 J2 s0 at1 t65 t65n t65c xl6 xl6n xl6c i7 t67 K h4) h3) h1) h) (
 J2 s0 at1 out5 out5n out5c xl6 xl6n xl6c i7 xn8 K h)) : J1 s0 at1 out5 out5n out5c xl6 xl6n xl6c i7 xn8 t51 K h := by unfold J1; exact Jn.of_txt (an 15653) (by kernel_rfl) H
theorem J2_of {s0 : OA} {at1 : Int} {out5 : OA} {out5n out5c : Nat} {xl6 : OA} {xl6n xl6c : Nat} {i7 xn8 : Int} {K : EP} {h : Heap} (H :
 hwp PP (Instr.indexAt T_sl_api_Key (.slice xl6 xl6n xl6c) (.int .i64 i7)) (fun v h1 => ∃ (t72 : Addr), v = (.pointer (some t72)) ∧
 ∃ (t73f0 t73f1 t73f2 : ByteArray), rdCells h1 t72 0 [(.string t73f0), (.string t73f1), (.string t73f2)] ∧
 SpecH PP F_ref12_Store_Get [(.pointer s0), (.agg #[(.string t73f0), (.string t73f1), (.string t73f2)]), (.int .i64 at1)] h1 (fun v_1 h2 => ∃ (t75 : ByteArray) (t75_1 : Bool), v_1 = (.tuple #[(.string t75), (.bool t75_1)]) ∧
 let t80 : Int := IntKind.i64.wrap (xn8 - 1)
 let t83 : Int := IntKind.i64.wrap (xn8 - 1)
 hwp PP (Instr.indexAt T_sl_api_Archive (.slice out5 out5n out5c) (.int .i64 t83)) (fun v_2 h3 => ∃ (t84 : Addr), v_2 = (.pointer (some t84)) ∧
 ∃ (t86 : OA) (t86n t86c : Nat), cellH h3 (Addr.add t84 2) = some (.slice t86 t86n t86c) ∧
 hwp PP (Instr.indexAt T_sl_api_Key (.slice xl6 xl6n xl6c) (.int .i64 i7)) (fun v_3 h4 => ∃ (t89 : Addr), v_3 = (.pointer (some t89)) ∧
 ∃ (t91 : ByteArray), cellH h4 (Addr.add t89 2) = some (.string t91) ∧
 let h5 : Heap := Array.push h4 (.cells #[(.string t91), (.string t75)] T_api_Entry (0, 0))
 hwp PP (Builtin.append_ #[T_sl_api_Entry, T_sl_api_Entry] T_sl_api_Entry #[(.slice t86 t86n t86c), (.slice (some ⟨Array.size h4, 0, none⟩) 1 1)]) (fun v_4 h6 => ∃ (t95 : OA) (t95n t95c : Nat), v_4 = (.slice t95 t95n t95c) ∧
 hwp PP (Instr.indexAt T_sl_api_Archive (.slice out5 out5n out5c) (.int .i64 t80)) (fun v_5 h7 => ∃ (t96 : Addr), v_5 = (.pointer (some t96)) ∧
 wr (Addr.add t96 2) (.slice t95 t95n t95c) (fun h8 =>
 let t19 : Int := IntKind.i64.wrap (i7 + 1)
 L1 s0 at1 out5 out5n out5c xl6 xl6n xl6c t19 K h8) h7) h6) h5) h3) h2)) h) : J2 s0 at1 out5 out5n out5c xl6 xl6n xl6c i7 xn8 K h := by unfold J2; exact Jn.of_txt (an 7827) (by kernel_rfl) H
theorem door {s0 : OA} {at1 : Int} {Q : VP} {h : Heap} (H :
 SpecH PP F_ref12_Store_keys [(.pointer s0), (.int .i64 at1)] h (fun v h1 => ∃ (t13 : OA) (t13n t13c : Nat), v = (.slice t13 t13n t13c) ∧
 L1 s0 at1 none 0 0 t13 t13n t13c 0 (K1 Q) h1)) : SpecH PP F_ref12_Store_Dump [(.pointer s0), (.int .i64 at1)] h Q :=
   spec_of_txt (ann := ann) Try.func35 rfl rfl (by kernel_rfl) H
end ref12_Store_Dump
/-! ### (*haversack/chain.Store).List$1: function 36 -/
namespace chain_Store_List_1
def ann : Ann := (.seq 6 (.region [(List.range 2, 6)]) (.seq 8 (.region [(List.range 13, 8)]) (.exit 8)))
noncomputable abbrev cd (n : Nat) : Code := sub (bodyOf Try.f36) (pth n)
abbrev an (n : Nat) : Ann := subA ann (pth n)
theorem door {k0f0 k0f1 k0f2 : ByteArray} {t1 : Addr} {Q : VP} {h : Heap} (H :
 let k2 : Addr := ⟨Array.size h, 0, none⟩
 let h1 : Heap := Array.push h (.cells #[(.string k0f0), (.string k0f1), (.string k0f2)] T_api_Key (0, 0))
 ∃ (t5 : ByteArray), cellH h1 k2 = some (.string t5) ∧
 ∃ (t7 : ByteArray), cellH h1 t1 = some (.string t7) ∧
 let t8 : Bool := decide (t5 = t7)
 br t8 (
 ∃ (t11 : ByteArray), cellH h1 (Addr.add k2 1) = some (.string t11) ∧
 ∃ (t13 : ByteArray), cellH h1 (Addr.add t1 1) = some (.string t13) ∧
 let t14 : Bool := decide (t11 = t13)
 Q (.bool t14) h1) (
 Q (.bool false) h1)) : SpecH PP F_chain_Store_List_1 [(.agg #[(.string k0f0), (.string k0f1), (.string k0f2)]), (.pointer (some t1))] h Q :=
   spec_of_txt (ann := ann) Try.func36 rfl rfl (by kernel_rfl) H
end chain_Store_List_1
/-! ### slices.BinarySearchFunc[[]haversack/chain.version,haversack/chain.version,int]: function 37 -/
namespace slices_BinarySearchFunc_chain_version_chain_version_int
def ann : Ann := (.seq 7 (.region [(List.range 2, 7)]) (.seq 263 (.region [(List.range 3, 263)]) (.seq 1799 (.region [(List.range 3, 1799)]) (.seq 775 (.block (.loop 1799 (.seq 1799 (.seq 132871 (.region [(List.range 3, 132871)]) (.cond .leaf (.exit 775))) (.block (.seq 3847 (.region [(List.range 7, 3847)]) (.seq 2147487495 (.region [(List.range 8, 2147487495)]) (.cond (.region [(List.range 3, 1799)]) (.region [(List.range 2, 1799)])))))))) (.seq 192 (.region [(List.range 16, 192)]) (.exit 192))))))
noncomputable abbrev cd (n : Nat) : Code := sub (bodyOf Try.f37) (pth n)
abbrev an (n : Nat) : Ann := subA ann (pth n)
@[irreducible] def X0 (x0 : OA) (x0n x0c : Nat) (target1 : Int) (cmp2 : Value) (xn8 i9 : Int) : Fr := (mkFr 0 49 [(0, (.slice x0 x0n x0c)), (1, (.int .i64 target1)), (2, cmp2), (8, (.int .i64 xn8)), (9, (.int .i64 i9))])
@[irreducible] def L1 (x0 : OA) (x0n x0c : Nat) (target1 : Int) (cmp2 : Value) (xn8 i9 j10 : Int) (K : EP) (h : Heap) : Prop := Lp PP true (cd 120) (mkFr 0 49 [(0, (.slice x0 x0n x0c)), (1, (.int .i64 target1)), (2, cmp2), (8, (.int .i64 xn8)), (9, (.int .i64 i9)), (10, (.int .i64 j10))]) K h
@[irreducible] def B1 (K : EP) : EP := seqK (fun fr h => Lp PP true (cd 120) (fr.mask 1799) K h) K
@[irreducible] def K2 (Q : VP) : EP := seqK (fun fr h => ev PP true none (cd 31) (an 31) (fr.mask 775) (bodyK PP Try.f37 Q) h) (bodyK PP Try.f37 Q)
@[irreducible] def K1 (Q : VP) : EP := blockK 0 (K2 Q)
theorem L1_of {x0 : OA} {x0n x0c : Nat} {target1 : Int} {cmp2 : Value} {xn8 i9 j10 : Int} {K : EP} {h : Heap} (H :
 let t17 : Bool := decide (i9 < j10)
 br t17 (
 let t20 : Int := IntKind.i64.wrap (i9 + j10)
 let t21 : Int := IntKind.u64.wrap t20
 let t22 : Int := sShr .u64 t21 1
 let t23 : Int := IntKind.i64.wrap t22
 hwp PP (Instr.indexAt T_sl_chain_version (.slice x0 x0n x0c) (.int .i64 t23)) (fun v h1 => ∃ (t27 : Addr), v = (.pointer (some t27)) ∧
 ∃ (t28f0 : Int) (t28f1 : Bool) (t28f2 : ByteArray), rdCells h1 t27 0 [(.int .i64 t28f0), (.bool t28f1), (.string t28f2)] ∧
 callV PP cmp2 [(.agg #[(.int .i64 t28f0), (.bool t28f1), (.string t28f2)]), (.int .i64 target1)] (fun v_1 h2 => ∃ (t30 : Int), v_1 = (.int .i64 t30) ∧
 let t31 : Bool := decide (t30 < 0)
 br t31 (
 let t33 : Int := IntKind.i64.wrap (t23 + 1)
 L1 x0 x0n x0c target1 cmp2 xn8 t33 j10 K h2) (
 L1 x0 x0n x0c target1 cmp2 xn8 i9 t23 K h2)) h1) h) (
 K (.exit 0) (X0 x0 x0n x0c target1 cmp2 xn8 i9) h)) : L1 x0 x0n x0c target1 cmp2 xn8 i9 j10 K h := by unfold L1; exact Lp.of_txt (an 120) 1799 (by kernel_rfl) H
theorem L1_X0 {Q : VP} {x0 : OA} {x0n x0c : Nat} {target1 : Int} {cmp2 : Value} {xn8 i9 : Int} {h : Heap} (H :
 let t38 : Bool := decide (i9 < xn8)
 br t38 (
 hwp PP (Instr.indexAt T_sl_chain_version (.slice x0 x0n x0c) (.int .i64 i9)) (fun v h1 => ∃ (t43 : Addr), v = (.pointer (some t43)) ∧
 ∃ (t44f0 : Int) (t44f1 : Bool) (t44f2 : ByteArray), rdCells h1 t43 0 [(.int .i64 t44f0), (.bool t44f1), (.string t44f2)] ∧
 callV PP cmp2 [(.agg #[(.int .i64 t44f0), (.bool t44f1), (.string t44f2)]), (.int .i64 target1)] (fun v_1 h2 => ∃ (t46 : Int), v_1 = (.int .i64 t46) ∧
 let t47 : Bool := (t46 == 0)
 Q (.tuple #[(.int .i64 i9), (.bool t47)]) h2) h1) h) (
 Q (.tuple #[(.int .i64 i9), (.bool false)]) h)) : (K1 Q) (.exit 0) (X0 x0 x0n x0c target1 cmp2 xn8 i9) h := of_eq_txt (by kernel_rfl) H
theorem door {x0 : OA} {x0n x0c : Nat} {target1 : Int} {cmp2 : Value} {Q : VP} {h : Heap} (H :
 L1 x0 x0n x0c target1 cmp2 (x0n : Int) 0 (x0n : Int) (K1 Q) h) : SpecH PP F_slices_BinarySearchFunc_chain_version_chain_version_int [(.slice x0 x0n x0c), (.int .i64 target1), cmp2] h Q :=
   spec_of_txt (ann := ann) Try.func37 rfl rfl (by kernel_rfl) H
end slices_BinarySearchFunc_chain_version_chain_version_int
/-! ### (*haversack/chain.Store).newest$1: function 38 -/
namespace chain_Store_newest_1
def ann : Ann := (.seq 6 (.region [(List.range 2, 6)]) (.seq 0 (.seq 256 (.region [(List.range 4, 256)]) (.cond (.seq 16 (.region [(List.range 1, 16)]) (.exit 16)) .leaf)) (.seq 16 (.region [(List.range 1, 16)]) (.exit 16))))
noncomputable abbrev cd (n : Nat) : Code := sub (bodyOf Try.f38) (pth n)
abbrev an (n : Nat) : Ann := subA ann (pth n)
theorem door {v0f0 : Int} {v0f1 : Bool} {v0f2 : ByteArray} {at1 : Int} {Q : VP} {h : Heap} (H :
 let v2 : Addr := ⟨Array.size h, 0, none⟩
 let h1 : Heap := Array.push h (.cells #[(.int .i64 v0f0), (.bool v0f1), (.string v0f2)] T_chain_version (0, 0))
 ∃ (t6 : Int), cellH h1 v2 = some (.int .i64 t6) ∧
 let t8 : Bool := decide (t6 ≤ at1)
 br t8 (
 Q (.int .i64 (-1)) h1) (
 Q (.int .i64 1) h1)) : SpecH PP F_chain_Store_newest_1 [(.agg #[(.int .i64 v0f0), (.bool v0f1), (.string v0f2)]), (.int .i64 at1)] h Q :=
   spec_of_txt (ann := ann) Try.func38 rfl rfl (by kernel_rfl) H
end chain_Store_newest_1
/-! ### slices.SortFunc[[]haversack/api.Key,haversack/api.Key]: function 39 -/
namespace slices_SortFunc_api_Key_api_Key
def ann : Ann := (.seq 19 (.region [(List.range 3, 19)]) (.region [(List.range 7, 0)]))
noncomputable abbrev cd (n : Nat) : Code := sub (bodyOf Try.f39) (pth n)
abbrev an (n : Nat) : Ann := subA ann (pth n)
theorem door {x0 : OA} {x0n x0c : Nat} {cmp1 : Value} {Q : VP} {h : Heap} (H :
 let t10 : Int := IntKind.u64.wrap (x0n : Int)
 SpecH PP F_math_bits_Len [(.int .u64 t10)] h (fun v h1 => ∃ (t11 : Int), v = (.int .i64 t11) ∧
 SpecH PP F_slices_pdqsortCmpFunc_api_Key [(.slice x0 x0n x0c), (.int .i64 0), (.int .i64 (x0n : Int)), (.int .i64 t11), cmp1] h1 (fun v_1 h2 => v_1 = (.tuple #[]) ∧
 Q (.tuple #[]) h2))) : SpecH PP F_slices_SortFunc_api_Key_api_Key [(.slice x0 x0n x0c), cmp1] h Q :=
   spec_of_txt (ann := ann) Try.func39 rfl rfl (by kernel_rfl) H
end slices_SortFunc_api_Key_api_Key
/-! ### (*haversack/chain.Store).keys$1: function 40 -/
namespace chain_Store_keys_1
def ann : Ann := (.seq 12 (.region [(List.range 3, 12)]) (.seq 16 (.region [(List.range 18, 16)]) (.exit 16)))
noncomputable abbrev cd (n : Nat) : Code := sub (bodyOf Try.f40) (pth n)
abbrev an (n : Nat) : Ann := subA ann (pth n)
theorem door {a0f0 a0f1 a0f2 b1f0 b1f1 b1f2 : ByteArray} {Q : VP} {h : Heap} (H :
 let a2 : Addr := ⟨Array.size h, 0, none⟩
 let h1 : Heap := Array.push h (.cells #[(.string a0f0), (.string a0f1), (.string a0f2)] T_api_Key (0, 0))
 let b3 : Addr := ⟨Array.size h1, 0, none⟩
 let h2 : Heap := Array.push h1 (.cells #[(.string b1f0), (.string b1f1), (.string b1f2)] T_api_Key (0, 0))
 ∃ (t6 : ByteArray), cellH h2 a2 = some (.string t6) ∧
 ∃ (t8 : ByteArray), cellH h2 b3 = some (.string t8) ∧
 ∃ v, PureAt PP F_cmp_Compare_string [(.string t6), (.string t8)] v ∧
 ∃ (t9 : Int), v = (.int .i64 t9) ∧
 ∃ (t11 : ByteArray), cellH h2 (Addr.add a2 1) = some (.string t11) ∧
 ∃ (t13 : ByteArray), cellH h2 (Addr.add b3 1) = some (.string t13) ∧
 ∃ v_1, PureAt PP F_cmp_Compare_string [(.string t11), (.string t13)] v_1 ∧
 ∃ (t14 : Int), v_1 = (.int .i64 t14) ∧
 ∃ (t16 : ByteArray), cellH h2 (Addr.add a2 2) = some (.string t16) ∧
 ∃ (t18 : ByteArray), cellH h2 (Addr.add b3 2) = some (.string t18) ∧
 ∃ v_2, PureAt PP F_cmp_Compare_string [(.string t16), (.string t18)] v_2 ∧
 ∃ (t19 : Int), v_2 = (.int .i64 t19) ∧
 let h3 : Heap := Array.push h2 (.cells #[(.int .i64 t9), (.int .i64 t14), (.int .i64 t19)] T_int (0, 0))
 SpecH PP F_cmp_Or_int [(.slice (some ⟨Array.size h2, 0, none⟩) 3 3)] h3 (fun v_3 h4 => ∃ (t21 : Int), v_3 = (.int .i64 t21) ∧
 Q (.int .i64 t21) h4)) : SpecH PP F_chain_Store_keys_1 [(.agg #[(.string a0f0), (.string a0f1), (.string a0f2)]), (.agg #[(.string b1f0), (.string b1f1), (.string b1f2)])] h Q :=
   spec_of_txt (ann := ann) Try.func40 rfl rfl (by kernel_rfl) H
end chain_Store_keys_1
/-! ### cmp.Or[int]: function 41 -/
namespace cmp_Or_int
def ann : Ann := (.seq 1 (.region [(List.range 1, 1)]) (.seq 9 (.region [(List.range 1, 9)]) (.seq 8 (.seq 456 (.region [(List.range 3, 456)]) (.block (.loop 456 (.seq 968 (.region [(List.range 1, 968)]) (.seq 456 (.cond .leaf (.exit 8)) (.seq 456 (.block (.seq 488 (.region [(List.range 3, 488)]) (.seq 16872 (.region [(List.range 3, 16872)]) (.cond (.seq 4 (.region [(List.range 2, 4)]) (.exit 4)) .leaf)))) (.region [(List.range 2, 456)]))))))) (.seq 4 (.region [(List.range 2, 4)]) (.exit 4)))))
noncomputable abbrev cd (n : Nat) : Code := sub (bodyOf Try.f41) (pth n)
abbrev an (n : Nat) : Ann := subA ann (pth n)
@[irreducible] def Xret (t2 : Int) : Fr := (mkFr 0 18 [(2, (.int .i64 t2))])
@[irreducible] def X0 (zero3 : Int) : Fr := (mkFr 0 18 [(3, (.int .i64 zero3))])
@[irreducible] def L1 (zero3 : Int) (t6 : OA) (t6n t6c : Nat) (t7 t8 : Int) (K : EP) (h : Heap) : Prop := Lp PP true (cd 116) (mkFr 0 18 [(3, (.int .i64 zero3)), (6, (.slice t6 t6n t6c)), (7, (.int .i64 t7)), (8, (.int .i64 t8))]) K h
@[irreducible] def B1 (K : EP) : EP := seqK (fun fr h => Lp PP true (cd 116) (fr.mask 456) K h) K
@[irreducible] def K2 (Q : VP) : EP := seqK (fun fr h => ev PP true none (cd 15) (an 15) (fr.mask 8) (bodyK PP Try.f41 Q) h) (bodyK PP Try.f41 Q)
@[irreducible] def K1 (Q : VP) : EP := blockK 0 (K2 Q)
theorem L1_of {zero3 : Int} {t6 : OA} {t6n t6c : Nat} {t7 t8 : Int} {K : EP} {h : Heap} (H :
 let t9 : Bool := decide (t8 < t7)
 br t9 (
 hwp PP (Instr.indexAt T_sl_int (.slice t6 t6n t6c) (.int .i64 t8)) (fun v h1 => ∃ (t10 : Addr), v = (.pointer (some t10)) ∧
 ∃ (t11 : Int), cellH h1 t10 = some (.int .i64 t11) ∧
 let t14 : Bool := (t11 != zero3)
 br t14 (
 K .ret (Xret t11) h1) (
 let t16 : Int := IntKind.i64.wrap (t8 + 1)
 L1 zero3 t6 t6n t6c t7 t16 K h1)) h) (
 K (.exit 0) (X0 zero3) h)) : L1 zero3 t6 t6n t6c t7 t8 K h := by unfold L1; exact Lp.of_txt (an 116) 456 (by kernel_rfl) H
theorem L1_Xret {Q : VP} {t2 : Int} {h : Heap} (H :
 Q (.int .i64 t2) h) : (K1 Q) .ret (Xret t2) h := of_eq_txt (by kernel_rfl) H
theorem L1_X0 {Q : VP} {zero3 : Int} {h : Heap} (H :
 Q (.int .i64 zero3) h) : (K1 Q) (.exit 0) (X0 zero3) h := of_eq_txt (by kernel_rfl) H
theorem door {vals0 : OA} {vals0n vals0c : Nat} {Q : VP} {h : Heap} (H :
 L1 0 vals0 vals0n vals0c (vals0n : Int) 0 (K1 Q) h) : SpecH PP F_cmp_Or_int [(.slice vals0 vals0n vals0c)] h Q :=
   spec_of_txt (ann := ann) Try.func41 rfl rfl (by kernel_rfl) H
end cmp_Or_int
/-! ### cmp.Compare[string]: function 42 -/
namespace cmp_Compare_string
def ann : Ann := (.seq 3 (.region [(List.range 1, 3)]) (.seq 35 (.region [(List.range 3, 35)]) (.seq 99 (.region [(List.range 3, 99)]) (.seq 67 (.seq 2115 (.region [(List.range 1, 2115)]) (.cond (.seq 0 (.seq 4096 (.region [(List.range 1, 4096)]) (.cond (.seq 16 (.region [(List.range 1, 16)]) (.exit 16)) .leaf)) (.seq 16 (.region [(List.range 1, 16)]) (.exit 16))) .leaf)) (.seq 3 (.seq 8195 (.region [(List.range 1, 8195)]) (.cond (.seq 16 (.region [(List.range 1, 16)]) (.exit 16)) .leaf)) (.seq 3 (.seq 65539 (.region [(List.range 3, 65539)]) (.cond (.seq 16 (.region [(List.range 1, 16)]) (.exit 16)) .leaf)) (.seq 0 (.seq 524288 (.region [(List.range 3, 524288)]) (.cond (.seq 16 (.region [(List.range 1, 16)]) (.exit 16)) .leaf)) (.seq 16 (.region [(List.range 1, 16)]) (.exit 16)))))))))
noncomputable abbrev cd (n : Nat) : Code := sub (bodyOf Try.f42) (pth n)
abbrev an (n : Nat) : Ann := subA ann (pth n)
theorem door {x0 y1 : ByteArray} {Q : VP} {h : Heap} (H :
 ∃ v, PureAt PP F_cmp_isNaN_string [(.string x0)] v ∧
 ∃ (t8 : Bool), v = (.bool t8) ∧
 ∃ v_1, PureAt PP F_cmp_isNaN_string [(.string y1)] v_1 ∧
 ∃ (t10 : Bool), v_1 = (.bool t10) ∧
 br t8 (
 br t10 (
 Q (.int .i64 0) h) (
 Q (.int .i64 (-1)) h)) (
 br t10 (
 Q (.int .i64 1) h) (
 let t16 : Bool := strLt x0 y1
 br t16 (
 Q (.int .i64 (-1)) h) (
 let t19 : Bool := (!(strLt x0 y1 || decide (x0 = y1)))
 br t19 (
 Q (.int .i64 1) h) (
 Q (.int .i64 0) h))))) : SpecH PP F_cmp_Compare_string [(.string x0), (.string y1)] h Q :=
   spec_of_txt (ann := ann) Try.func42 rfl rfl (by kernel_rfl) H
end cmp_Compare_string
/-! ### (*haversack/haversackref12.Store).newest: function 43 -/
namespace ref12_Store_newest
def ann : Ann := (.seq 21 (.region [(List.range 2, 21)]) (.seq 21 (.region [(List.range 7, 21)]) (.seq 149 (.region [(List.range 1, 149)]) (.seq 128 (.seq 405 (.region [(List.range 1, 405)]) (.block (.loop 405 (.seq 405 (.seq 2097557 (.region [(List.range 7, 2097557)]) (.cond .leaf (.exit 128))) (.seq 405 (.block (.seq 295147905179352826261 (.region [(List.range 45, 295147905179352826261)]) (.join (.cond (.region [(List.range 2, 405)]) .leaf)))) (.join (.region [(List.range 3, 405)]))))))) (.seq 64 (.region [(List.range 2, 64)]) (.exit 64))))))
noncomputable abbrev cd (n : Nat) : Code := sub (bodyOf Try.f43) (pth n)
abbrev an (n : Nat) : Ann := subA ann (pth n)
@[irreducible] def X0 (best7 : Int) : Fr := (mkFr 0 71 [(7, (.int .i64 best7))])
@[irreducible] def L1 (s0 : OA) (at2 : Int) (k4 : Addr) (best7 i8 : Int) (K : EP) (h : Heap) : Prop := Lp PP true (cd 244) (mkFr 0 71 [(0, (.pointer s0)), (2, (.int .i64 at2)), (4, (.pointer (some k4))), (7, (.int .i64 best7)), (8, (.int .i64 i8))]) K h
@[irreducible] def B1 (K : EP) : EP := seqK (fun fr h => Lp PP true (cd 244) (fr.mask 405) K h) K
@[irreducible] def K4 (K : EP) : EP := seqK (fun fr h => Jn PP true (cd 979) (fr.mask 405) (B1 K) h) (B1 K)
@[irreducible] def K2 (K : EP) : EP := blockK 1 (K4 K)
@[irreducible] def J1 (s0 : OA) (at2 : Int) (k4 : Addr) (best7 i8 : Int) (t68 : Bool) (K : EP) (h : Heap) : Prop := Jn PP true (cd 3913) (mkFr 0 71 [(0, (.pointer s0)), (2, (.int .i64 at2)), (4, (.pointer (some k4))), (7, (.int .i64 best7)), (8, (.int .i64 i8)), (68, (.bool t68))]) (K2 K) h
@[irreducible] def K3 (Q : VP) : EP := seqK (fun fr h => ev PP true none (cd 31) (an 31) (fr.mask 128) (bodyK PP Try.f43 Q) h) (bodyK PP Try.f43 Q)
@[irreducible] def K1 (Q : VP) : EP := blockK 0 (K3 Q)
@[irreducible] def J2 (s0 : OA) (at2 : Int) (k4 : Addr) (best7 i8 : Int) (K : EP) (h : Heap) : Prop := Jn PP true (cd 979) (mkFr 0 71 [(0, (.pointer s0)), (2, (.int .i64 at2)), (4, (.pointer (some k4))), (7, (.int .i64 best7)), (8, (.int .i64 i8))]) (B1 K) h
theorem L1_of {s0 : OA} {at2 : Int} {k4 : Addr} {best7 i8 : Int} {K : EP} {h : Heap} (H :
 nilc s0 (fun t17 =>
 ∃ (t19 : OA) (t19n t19c : Nat), cellH h t17 = some (.slice t19 t19n t19c) ∧
 let t21 : Bool := decide (i8 < (t19n : Int))
 br t21 (
 nilc s0 (fun t25 =>
 ∃ (t27 : OA) (t27n t27c : Nat), cellH h t25 = some (.slice t27 t27n t27c) ∧
 hwp PP (Instr.indexAt T_sl_haversackref12_Version (.slice t27 t27n t27c) (.int .i64 i8)) (fun v h1 => ∃ (t29 : Addr), v = (.pointer (some t29)) ∧
 ∃ (t31f0 t31f1 t31f2 : ByteArray), rdCells h1 t29 0 [(.string t31f0), (.string t31f1), (.string t31f2)] ∧
 ∃ (t32f0 t32f1 t32f2 : ByteArray), rdCells h1 k4 0 [(.string t32f0), (.string t32f1), (.string t32f2)] ∧
 let t33 : Bool := (decide (t31f0 = t32f0) && (decide (t31f1 = t32f1) && (decide (t31f2 = t32f2) && true)))
 br t33 (
 nilc s0 (fun t36 =>
 ∃ (t38 : OA) (t38n t38c : Nat), cellH h1 t36 = some (.slice t38 t38n t38c) ∧
 hwp PP (Instr.indexAt T_sl_haversackref12_Version (.slice t38 t38n t38c) (.int .i64 i8)) (fun v_1 h2 => ∃ (t40 : Addr), v_1 = (.pointer (some t40)) ∧
 ∃ (t42 : Int), cellH h2 (Addr.add t40 3) = some (.int .i64 t42) ∧
 let t44 : Bool := decide (t42 ≤ at2)
 br t44 (
 let t48 : Bool := decide (best7 < 0)
 br t48 (
 J1 s0 at2 k4 best7 i8 true K h2) (
 nilc s0 (fun t51 =>
 ∃ (t53 : OA) (t53n t53c : Nat), cellH h2 t51 = some (.slice t53 t53n t53c) ∧
 hwp PP (Instr.indexAt T_sl_haversackref12_Version (.slice t53 t53n t53c) (.int .i64 best7)) (fun v_2 h3 => ∃ (t55 : Addr), v_2 = (.pointer (some t55)) ∧
 ∃ (t57 : Int), cellH h3 (Addr.add t55 3) = some (.int .i64 t57) ∧
 nilc s0 (fun t59 =>
 ∃ (t61 : OA) (t61n t61c : Nat), cellH h3 t59 = some (.slice t61 t61n t61c) ∧
 hwp PP (Instr.indexAt T_sl_haversackref12_Version (.slice t61 t61n t61c) (.int .i64 i8)) (fun v_3 h4 => ∃ (t63 : Addr), v_3 = (.pointer (some t63)) ∧
 ∃ (t65 : Int), cellH h4 (Addr.add t63 3) = some (.int .i64 t65) ∧
 let t66 : Bool := decide (t57 < t65)
 J1 s0 at2 k4 best7 i8 t66 K h4) h3)) h2))) (
 J1 s0 at2 k4 best7 i8 false K h2)) h1)) (
 J1 s0 at2 k4 best7 i8 false K h1)) h)) (
 K (.exit 0) (X0 best7) h))) : L1 s0 at2 k4 best7 i8 K h := by unfold L1; exact Lp.of_txt (an 244) 405 (by kernel_rfl) H
theorem L1_X0 {Q : VP} {best7 : Int} {h : Heap} (H :
 Q (.int .i64 best7) h) : (K1 Q) (.exit 0) (X0 best7) h := of_eq_txt (by kernel_rfl) H
theorem J1_of {s0 : OA} {at2 : Int} {k4 : Addr} {best7 i8 : Int} {t68 : Bool} {K : EP} {h : Heap} (H :
 br t68 (
 J2 s0 at2 k4 i8 i8 K h) (
 J2 s0 at2 k4 best7 i8 K h)) : J1 s0 at2 k4 best7 i8 t68 K h := by unfold J1; exact Jn.of_txt (an 3913) (by kernel_rfl) H
theorem J2_of {s0 : OA} {at2 : Int} {k4 : Addr} {best7 i8 : Int} {K : EP} {h : Heap} (H :
 let t23 : Int := IntKind.i64.wrap (i8 + 1)
 L1 s0 at2 k4 best7 t23 K h) : J2 s0 at2 k4 best7 i8 K h := by unfold J2; exact Jn.of_txt (an 979) (by kernel_rfl) H
theorem door {s0 : OA} {k1f0 k1f1 k1f2 : ByteArray} {at2 : Int} {Q : VP} {h : Heap} (H :
 let k4 : Addr := ⟨Array.size h, 0, none⟩
 let h1 : Heap := Array.push h (.cells #[(.string k1f0), (.string k1f1), (.string k1f2)] T_api_Key (0, 0))
 nilc s0 (fun t11 =>
 ∃ (t13 : Int), cellH h1 (Addr.add t11 2) = some (.int .i64 t13) ∧
 let t14 : Int := (if t13 > at2 then t13 else at2)
 L1 s0 t14 k4 (-1) 0 (K1 Q) h1)) : SpecH PP F_ref12_Store_newest [(.pointer s0), (.agg #[(.string k1f0), (.string k1f1), (.string k1f2)]), (.int .i64 at2)] h Q :=
   spec_of_txt (ann := ann) Try.func43 rfl rfl (by kernel_rfl) H
end ref12_Store_newest
/-! ### (*haversack/haversackref12.Store).keys: function 44 -/
namespace ref12_Store_keys
def ann : Ann := (.seq 3 (.region [(List.range 1, 3)]) (.seq 35 (.region [(List.range 1, 35)]) (.seq 32 (.seq 99 (.region [(List.range 1, 99)]) (.block (.loop 99 (.seq 99 (.seq 1048675 (.region [(List.range 7, 1048675)]) (.cond .leaf (.exit 32))) (.seq 99 (.block (.seq 227 (.region [(List.range 10, 227)]) (.seq 739 (.region [(List.range 9, 739)]) (.seq 1251 (.region [(List.range 3, 1251)]) (.seq 1251 (.seq 3299 (.region [(List.range 1, 3299)]) (.block (.loop 3299 (.seq 3299 (.seq 8796093025507 (.region [(List.range 4, 8796093025507)]) (.cond .leaf (.exit 1251))) (.seq 3299 (.block (.region [(List.range 10, 3299)])) (.join (.region [(List.range 3, 3299)]))))))) (.seq 227 (.seq 36028797018964195 (.region [(List.range 1, 36028797018964195)]) (.cond (.exit 99) .leaf)) (.seq 99 (.region [(List.range 5, 99)]) (.seq 4195 (.region [(List.range 4, 4195)]) (.block (.loop 4195 (.seq 4195 (.seq 75557863725914323423331 (.region [(List.range 14, 75557863725914323423331)]) (.cond .leaf (.exit 99))) (.seq 4195 (.block (.seq 12387 (.region [(List.range 6, 12387)]) (.seq 12387 (.region [(List.range 9, 12387)]) (.region [(List.range 6, 4195)])))) (.region [(List.range 3, 4195)]))))))))))))) (.join (.region [(List.range 3, 99)]))))))) (.seq 16 (.region [(List.range 2, 16)]) (.exit 16)))))
noncomputable abbrev cd (n : Nat) : Code := sub (bodyOf Try.f44) (pth n)
abbrev an (n : Nat) : Ann := subA ann (pth n)
@[irreducible] def X0 (out5 : OA) (out5n out5c : Nat) : Fr := (mkFr 0 97 [(5, (.slice out5 out5n out5c))])
@[irreducible] def X2 (s0 : OA) (at1 : Int) (out5 : OA) (out5n out5c : Nat) (i6 : Int) (k7 : Addr) (known10 : Bool) : Fr := (mkFr 0 97 [(0, (.pointer s0)), (1, (.int .i64 at1)), (5, (.slice out5 out5n out5c)), (6, (.int .i64 i6)), (7, (.pointer (some k7))), (10, (.bool known10))])
@[irreducible] def X4 (s0 : OA) (at1 : Int) (out5 : OA) (out5n out5c : Nat) (i6 : Int) : Fr := (mkFr 0 97 [(0, (.pointer s0)), (1, (.int .i64 at1)), (5, (.slice out5 out5n out5c)), (6, (.int .i64 i6))])
@[irreducible] def L1 (s0 : OA) (at1 : Int) (out5 : OA) (out5n out5c : Nat) (i6 : Int) (K : EP) (h : Heap) : Prop := Lp PP true (cd 116) (mkFr 0 97 [(0, (.pointer s0)), (1, (.int .i64 at1)), (5, (.slice out5 out5n out5c)), (6, (.int .i64 i6))]) K h
@[irreducible] def B1 (K : EP) : EP := seqK (fun fr h => Lp PP true (cd 116) (fr.mask 99) K h) K
@[irreducible] def K3 (Q : VP) : EP := seqK (fun fr h => ev PP true none (cd 15) (an 15) (fr.mask 32) (bodyK PP Try.f44 Q) h) (bodyK PP Try.f44 Q)
@[irreducible] def K1 (Q : VP) : EP := blockK 0 (K3 Q)
@[irreducible] def K7 (K : EP) : EP := seqK (fun fr h => Jn PP true (cd 467) (fr.mask 99) (B1 K) h) (B1 K)
@[irreducible] def K6 (K : EP) : EP := blockK 1 (K7 K)
@[irreducible] def K4 (K : EP) : EP := seqK (fun fr h => ev PP true none (cd 14927) (an 14927) (fr.mask 1251) (K6 K) h) (K6 K)
@[irreducible] def K2 (K : EP) : EP := blockK 2 (K4 K)
@[irreducible] def L2 (s0 : OA) (at1 : Int) (out5 : OA) (out5n out5c : Nat) (i6 : Int) (k7 : Addr) (known10 : Bool) (xn11 : Int) (K : EP) (h : Heap) : Prop := Lp PP true (cd 119412) (mkFr 0 97 [(0, (.pointer s0)), (1, (.int .i64 at1)), (5, (.slice out5 out5n out5c)), (6, (.int .i64 i6)), (7, (.pointer (some k7))), (10, (.bool known10)), (11, (.int .i64 xn11))]) K h
@[irreducible] def B2 (K : EP) : EP := seqK (fun fr h => Lp PP true (cd 119412) (fr.mask 3299) K h) K
@[irreducible] def J1 (s0 : OA) (at1 : Int) (out5 : OA) (out5n out5c : Nat) (i6 : Int) (k7 : Addr) (known10 : Bool) (xn11 : Int) (K : EP) (h : Heap) : Prop := Jn PP true (cd 477651) (mkFr 0 97 [(0, (.pointer s0)), (1, (.int .i64 at1)), (5, (.slice out5 out5n out5c)), (6, (.int .i64 i6)), (7, (.pointer (some k7))), (10, (.bool known10)), (11, (.int .i64 xn11))]) (B2 K) h
@[irreducible] def J2 (s0 : OA) (at1 : Int) (out5 : OA) (out5n out5c : Nat) (i6 : Int) (K : EP) (h : Heap) : Prop := Jn PP true (cd 467) (mkFr 0 97 [(0, (.pointer s0)), (1, (.int .i64 at1)), (5, (.slice out5 out5n out5c)), (6, (.int .i64 i6))]) (B1 K) h
@[irreducible] def K5 (K : EP) : EP := blockK 4 (K6 K)
@[irreducible] def L3 (s0 : OA) (at1 : Int) (out5 : OA) (out5n out5c : Nat) (i6 xn12 : Int) (K : EP) (h : Heap) : Prop := Lp PP true (cd 477692) (mkFr 0 97 [(0, (.pointer s0)), (1, (.int .i64 at1)), (5, (.slice out5 out5n out5c)), (6, (.int .i64 i6)), (12, (.int .i64 xn12))]) K h
@[irreducible] def B3 (K : EP) : EP := seqK (fun fr h => Lp PP true (cd 477692) (fr.mask 4195) K h) K
theorem L1_of {s0 : OA} {at1 : Int} {out5 : OA} {out5n out5c : Nat} {i6 : Int} {K : EP} {h : Heap} (H :
 nilc s0 (fun t16 =>
 ∃ (t18 : OA) (t18n t18c : Nat), cellH h t16 = some (.slice t18 t18n t18c) ∧
 let t20 : Bool := decide (i6 < (t18n : Int))
 br t20 (
 nilc s0 (fun t24 =>
 ∃ (t26 : OA) (t26n t26c : Nat), cellH h t24 = some (.slice t26 t26n t26c) ∧
 hwp PP (Instr.indexAt T_sl_haversackref12_Version (.slice t26 t26n t26c) (.int .i64 i6)) (fun v h1 => ∃ (t28 : Addr), v = (.pointer (some t28)) ∧
 ∃ (t30f0 t30f1 t30f2 : ByteArray), rdCells h1 t28 0 [(.string t30f0), (.string t30f1), (.string t30f2)] ∧
 let k7 : Addr := ⟨Array.size h1, 0, none⟩
 let h2 : Heap := Array.push h1 (.cells #[(.string (⟨#[]⟩ : ByteArray)), (.string (⟨#[]⟩ : ByteArray)), (.string (⟨#[]⟩ : ByteArray))] T_api_Key (0, 0))
 wrCells k7 0 [(.string t30f0), (.string t30f1), (.string t30f2)] (fun h3 =>
 ∃ (t33f0 t33f1 t33f2 : ByteArray), rdCells h3 k7 0 [(.string t33f0), (.string t33f1), (.string t33f2)] ∧
 SpecH PP F_ref12_Store_Get [(.pointer s0), (.agg #[(.string t33f0), (.string t33f1), (.string t33f2)]), (.int .i64 at1)] h3 (fun v_1 h4 => ∃ (t35 : ByteArray) (t35_1 : Bool), v_1 = (.tuple #[(.string t35), (.bool t35_1)]) ∧
 let t39 : Bool := (!t35_1)
 L2 s0 at1 out5 out5n out5c i6 k7 t39 0 (K2 K) h4)) h2) h)) (
 K (.exit 0) (X0 out5 out5n out5c) h))) : L1 s0 at1 out5 out5n out5c i6 K h := by unfold L1; exact Lp.of_txt (an 116) 99 (by kernel_rfl) H
theorem L1_X0 {Q : VP} {out5 : OA} {out5n out5c : Nat} {h : Heap} (H :
 Q (.slice out5 out5n out5c) h) : (K1 Q) (.exit 0) (X0 out5 out5n out5c) h := of_eq_txt (by kernel_rfl) H
theorem L2_of {s0 : OA} {at1 : Int} {out5 : OA} {out5n out5c : Nat} {i6 : Int} {k7 : Addr} {known10 : Bool} {xn11 : Int} {K : EP} {h : Heap} (H :
 let t43 : Bool := decide (xn11 < (out5n : Int))
 br t43 (
 br known10 (
 J1 s0 at1 out5 out5n out5c i6 k7 true xn11 K h) (
 hwp PP (Instr.indexAt T_sl_api_Key (.slice out5 out5n out5c) (.int .i64 xn11)) (fun v h1 => ∃ (t50 : Addr), v = (.pointer (some t50)) ∧
 ∃ (t51f0 t51f1 t51f2 : ByteArray), rdCells h1 t50 0 [(.string t51f0), (.string t51f1), (.string t51f2)] ∧
 ∃ (t52f0 t52f1 t52f2 : ByteArray), rdCells h1 k7 0 [(.string t52f0), (.string t52f1), (.string t52f2)] ∧
 let t53 : Bool := (decide (t51f0 = t52f0) && (decide (t51f1 = t52f1) && (decide (t51f2 = t52f2) && true)))
 J1 s0 at1 out5 out5n out5c i6 k7 t53 xn11 K h1) h)) (
 K (.exit 2) (X2 s0 at1 out5 out5n out5c i6 k7 known10) h)) : L2 s0 at1 out5 out5n out5c i6 k7 known10 xn11 K h := by unfold L2; exact Lp.of_txt (an 119412) 3299 (by kernel_rfl) H
theorem L2_X2 {K : EP} {s0 : OA} {at1 : Int} {out5 : OA} {out5n out5c : Nat} {i6 : Int} {k7 : Addr} {known10 : Bool} {h : Heap} (H :
 br known10 (
 J2 s0 at1 out5 out5n out5c i6 K h) (
 ∃ (t57f0 t57f1 t57f2 : ByteArray), rdCells h k7 0 [(.string t57f0), (.string t57f1), (.string t57f2)] ∧
 let h1 : Heap := Array.push h (.cells #[(.string t57f0), (.string t57f1), (.string t57f2)] T_api_Key (0, 0))
 hwp PP (Builtin.append_ #[T_sl_api_Key, T_sl_api_Key] T_sl_api_Key #[(.slice out5 out5n out5c), (.slice (some ⟨Array.size h, 0, none⟩) 1 1)]) (fun v h2 => ∃ (t59 : OA) (t59n t59c : Nat), v = (.slice t59 t59n t59c) ∧
 let t62 : Int := IntKind.i64.wrap ((t59n : Int) - 1)
 L3 s0 at1 t59 t59n t59c i6 t62 (K5 K) h2) h1)) : (K2 K) (.exit 2) (X2 s0 at1 out5 out5n out5c i6 k7 known10) h := of_eq_txt (by kernel_rfl) H
theorem J1_of {s0 : OA} {at1 : Int} {out5 : OA} {out5n out5c : Nat} {i6 : Int} {k7 : Addr} {known10 : Bool} {xn11 : Int} {K : EP} {h : Heap} (H :
 let t45 : Int := IntKind.i64.wrap (xn11 + 1)
 L2 s0 at1 out5 out5n out5c i6 k7 known10 t45 K h) : J1 s0 at1 out5 out5n out5c i6 k7 known10 xn11 K h := by unfold J1; exact Jn.of_txt (an 477651) (by kernel_rfl) H
theorem J2_of {s0 : OA} {at1 : Int} {out5 : OA} {out5n out5c : Nat} {i6 : Int} {K : EP} {h : Heap} (H :
 let t22 : Int := IntKind.i64.wrap (i6 + 1)
 L1 s0 at1 out5 out5n out5c t22 K h) : J2 s0 at1 out5 out5n out5c i6 K h := by unfold J2; exact Jn.of_txt (an 467) (by kernel_rfl) H
theorem L3_of {s0 : OA} {at1 : Int} {out5 : OA} {out5n out5c : Nat} {i6 xn12 : Int} {K : EP} {h : Heap} (H :
 let t64 : Bool := decide (xn12 > 0)
 br t64 (
 hwp PP (Instr.indexAt T_sl_api_Key (.slice out5 out5n out5c) (.int .i64 xn12)) (fun v h1 => ∃ (t68 : Addr), v = (.pointer (some t68)) ∧
 ∃ (t69f0 t69f1 t69f2 : ByteArray), rdCells h1 t68 0 [(.string t69f0), (.string t69f1), (.string t69f2)] ∧
 let t72 : Int := IntKind.i64.wrap (xn12 - 1)
 hwp PP (Instr.indexAt T_sl_api_Key (.slice out5 out5n out5c) (.int .i64 t72)) (fun v_1 h2 => ∃ (t73 : Addr), v_1 = (.pointer (some t73)) ∧
 ∃ (t74f0 t74f1 t74f2 : ByteArray), rdCells h2 t73 0 [(.string t74f0), (.string t74f1), (.string t74f2)] ∧
 SpecH PP F_ref12_Less [(.agg #[(.string t69f0), (.string t69f1), (.string t69f2)]), (.agg #[(.string t74f0), (.string t74f1), (.string t74f2)])] h2 (fun v_2 h3 => ∃ (t75 : Bool), v_2 = (.bool t75) ∧
 br t75 (
 hwp PP (Instr.indexAt T_sl_api_Key (.slice out5 out5n out5c) (.int .i64 xn12)) (fun v_3 h4 => ∃ (t81 : Addr), v_3 = (.pointer (some t81)) ∧
 ∃ (t82f0 t82f1 t82f2 : ByteArray), rdCells h4 t81 0 [(.string t82f0), (.string t82f1), (.string t82f2)] ∧
 let x13 : Addr := ⟨Array.size h4, 0, none⟩
 let h5 : Heap := Array.push h4 (.cells #[(.string (⟨#[]⟩ : ByteArray)), (.string (⟨#[]⟩ : ByteArray)), (.string (⟨#[]⟩ : ByteArray))] T_api_Key (0, 0))
 wrCells x13 0 [(.string t82f0), (.string t82f1), (.string t82f2)] (fun h6 =>
 let t87 : Int := IntKind.i64.wrap (xn12 - 1)
 hwp PP (Instr.indexAt T_sl_api_Key (.slice out5 out5n out5c) (.int .i64 t87)) (fun v_4 h7 => ∃ (t88 : Addr), v_4 = (.pointer (some t88)) ∧
 ∃ (t89f0 t89f1 t89f2 : ByteArray), rdCells h7 t88 0 [(.string t89f0), (.string t89f1), (.string t89f2)] ∧
 hwp PP (Instr.indexAt T_sl_api_Key (.slice out5 out5n out5c) (.int .i64 xn12)) (fun v_5 h8 => ∃ (t90 : Addr), v_5 = (.pointer (some t90)) ∧
 wrCells t90 0 [(.string t89f0), (.string t89f1), (.string t89f2)] (fun h9 =>
 let t93 : Int := IntKind.i64.wrap (xn12 - 1)
 ∃ (t94f0 t94f1 t94f2 : ByteArray), rdCells h9 x13 0 [(.string t94f0), (.string t94f1), (.string t94f2)] ∧
 hwp PP (Instr.indexAt T_sl_api_Key (.slice out5 out5n out5c) (.int .i64 t93)) (fun v_6 h10 => ∃ (t95 : Addr), v_6 = (.pointer (some t95)) ∧
 wrCells t95 0 [(.string t94f0), (.string t94f1), (.string t94f2)] (fun h11 =>
 let t78 : Int := IntKind.i64.wrap (xn12 - 1)
 L3 s0 at1 out5 out5n out5c i6 t78 K h11) h10) h9) h8) h7) h6) h5) h3) (
 K (.exit 4) (X4 s0 at1 out5 out5n out5c i6) h3))) h1) h) (
 K (.exit 4) (X4 s0 at1 out5 out5n out5c i6) h)) : L3 s0 at1 out5 out5n out5c i6 xn12 K h := by unfold L3; exact Lp.of_txt (an 477692) 4195 (by kernel_rfl) H
theorem L3_X4 {K : EP} {s0 : OA} {at1 : Int} {out5 : OA} {out5n out5c : Nat} {i6 : Int} {h : Heap} (H :
 J2 s0 at1 out5 out5n out5c i6 K h) : (K5 K) (.exit 4) (X4 s0 at1 out5 out5n out5c i6) h := of_eq_txt (by kernel_rfl) H
theorem door {s0 : OA} {at1 : Int} {Q : VP} {h : Heap} (H :
 L1 s0 at1 none 0 0 0 (K1 Q) h) : SpecH PP F_ref12_Store_keys [(.pointer s0), (.int .i64 at1)] h Q :=
   spec_of_txt (ann := ann) Try.func44 rfl rfl (by kernel_rfl) H
end ref12_Store_keys
/-! ### slices.pdqsortCmpFunc[haversack/api.Key]: function 45 -/
namespace slices_pdqsortCmpFunc_api_Key
def ann : Ann := (.seq 1055 (.region [(List.range 1, 1055)]) (.seq 3103 (.region [(List.range 1, 3103)]) (.block (.loop 3103 (.block (.seq 7199 (.region [(List.range 4, 7199)]) (.seq 7199 (.seq 33561631 (.region [(List.range 2, 33561631)]) (.cond (.seq 0 (.region [(List.range 5, 0)]) (.exit 0)) .leaf)) (.seq 7199 (.seq 4294974495 (.region [(List.range 2, 4294974495)]) (.cond (.seq 0 (.region [(List.range 5, 0)]) (.exit 0)) .leaf)) (.seq 7199 (.seq 549755821087 (.region [(List.range 2, 549755821087)]) (.cond (.seq 7199 (.region [(List.range 5, 7199)]) (.region [(List.range 3, 7199)])) .leaf)) (.join (.seq 31775 (.region [(List.range 10, 31775)]) (.seq 31775 (.seq 72057594037959711 (.region [(List.range 2, 72057594037959711)]) (.cond (.seq 15391 (.region [(List.range 5, 15391)]) (.seq 15391 (.region [(List.range 7, 15391)]) (.region [(List.range 1, 31775)]))) .leaf)) (.join (.seq 15391 (.seq 37778931862957161724959 (.region [(List.range 8, 37778931862957161724959)]) (.join (.cond (.seq 1208925819614629174721567 (.region [(List.range 5, 1208925819614629174721567)]) (.cond (.exit 0) .leaf)) .leaf))) (.join (.seq 12319 (.seq 158456325028528675187087916063 (.region [(List.range 17, 158456325028528675187087916063)]) (.join (.cond (.seq 35869 (.region [(List.range 7, 35869)]) (.seq 3103 (.region [(List.range 2, 3103)]) (.exit 3103))) .leaf))) (.seq 200735 (.region [(List.range 11, 200735)]) (.seq 71711 (.region [(List.range 2, 71711)]) (.seq 858143 (.region [(List.range 8, 858143)]) (.seq 1902623 (.region [(List.range 3, 1902623)]) (.seq 42535295865117307932921825928972929055 (.region [(List.range 3, 42535295865117307932921825928972929055)]) (.cond (.seq 68639 (.region [(List.range 4, 68639)]) (.seq 68637 (.region [(List.range 6, 68637)]) (.region [(List.range 3, 3103)]))) (.seq 68639 (.region [(List.range 4, 68639)]) (.seq 68635 (.region [(List.range 7, 68635)]) (.region [(List.range 2, 3103)])))))))))))))))))))))))))
noncomputable abbrev cd (n : Nat) : Code := sub (bodyOf Try.f45) (pth n)
abbrev an (n : Nat) : Ann := subA ann (pth n)
@[irreducible] def Xret  : Fr := (mkFr 0 148 [])
@[irreducible] def L1 (data0 : OA) (data0n data0c : Nat) (a1 b2 limit3 : Int) (cmp4 : Value) (wasBalanced10 wasPartitioned11 : Bool) (K : EP) (h : Heap) : Prop := Lp PP true (cd 28) (mkFr 0 148 [(0, (.slice data0 data0n data0c)), (1, (.int .i64 a1)), (2, (.int .i64 b2)), (3, (.int .i64 limit3)), (4, cmp4), (10, (.bool wasBalanced10)), (11, (.bool wasPartitioned11))]) K h
@[irreducible] def B1 (K : EP) : EP := seqK (fun fr h => Lp PP true (cd 28) (fr.mask 3103) K h) K
@[irreducible] def K2 (K : EP) : EP := blockK 1 (B1 K)
@[irreducible] def J1 (data0 : OA) (data0n data0c : Nat) (a1 b2 limit3 : Int) (cmp4 : Value) (wasBalanced10 wasPartitioned11 : Bool) (length12 : Int) (K : EP) (h : Heap) : Prop := Jn PP true (cd 911) (mkFr 0 148 [(0, (.slice data0 data0n data0c)), (1, (.int .i64 a1)), (2, (.int .i64 b2)), (3, (.int .i64 limit3)), (4, cmp4), (10, (.bool wasBalanced10)), (11, (.bool wasPartitioned11)), (12, (.int .i64 length12))]) (K2 K) h
@[irreducible] def K1 (Q : VP) : EP := blockK 0 (bodyK PP Try.f45 Q)
@[irreducible] def J2 (data0 : OA) (data0n data0c : Nat) (a1 b2 limit3 : Int) (cmp4 : Value) (wasBalanced10 wasPartitioned11 : Bool) (length12 pivot13 hint14 : Int) (K : EP) (h : Heap) : Prop := Jn PP true (cd 3647) (mkFr 0 148 [(0, (.slice data0 data0n data0c)), (1, (.int .i64 a1)), (2, (.int .i64 b2)), (3, (.int .i64 limit3)), (4, cmp4), (10, (.bool wasBalanced10)), (11, (.bool wasPartitioned11)), (12, (.int .i64 length12)), (13, (.int .i64 pivot13)), (14, (.int .i64 hint14))]) (K2 K) h
@[irreducible] def K3 (K : EP) : EP := seqK (fun fr h => Jn PP true (cd 7295) (fr.mask 15391) (K2 K) h) (K2 K)
@[irreducible] def J3 (data0 : OA) (data0n data0c : Nat) (a1 b2 limit3 : Int) (cmp4 : Value) (wasBalanced10 wasPartitioned11 : Bool) (length12 pivot13 : Int) (t75 : Bool) (K : EP) (h : Heap) : Prop := Jn PP true (cd 14589) (mkFr 0 148 [(0, (.slice data0 data0n data0c)), (1, (.int .i64 a1)), (2, (.int .i64 b2)), (3, (.int .i64 limit3)), (4, cmp4), (10, (.bool wasBalanced10)), (11, (.bool wasPartitioned11)), (12, (.int .i64 length12)), (13, (.int .i64 pivot13)), (75, (.bool t75))]) (K3 K) h
@[irreducible] def J4 (data0 : OA) (data0n data0c : Nat) (a1 b2 limit3 : Int) (cmp4 : Value) (wasBalanced10 wasPartitioned11 : Bool) (length12 pivot13 : Int) (K : EP) (h : Heap) : Prop := Jn PP true (cd 7295) (mkFr 0 148 [(0, (.slice data0 data0n data0c)), (1, (.int .i64 a1)), (2, (.int .i64 b2)), (3, (.int .i64 limit3)), (4, cmp4), (10, (.bool wasBalanced10)), (11, (.bool wasPartitioned11)), (12, (.int .i64 length12)), (13, (.int .i64 pivot13))]) (K2 K) h
@[irreducible] def K4 (K : EP) : EP := seqK (fun fr h => ev PP true none (cd 14591) (an 14591) (fr.mask 12319) (K2 K) h) (K2 K)
@[irreducible] def J5 (data0 : OA) (data0n data0c : Nat) (a1 b2 limit3 : Int) (cmp4 : Value) (wasBalanced10 wasPartitioned11 : Bool) (length12 pivot13 : Int) (t97 : Bool) (K : EP) (h : Heap) : Prop := Jn PP true (cd 29181) (mkFr 0 148 [(0, (.slice data0 data0n data0c)), (1, (.int .i64 a1)), (2, (.int .i64 b2)), (3, (.int .i64 limit3)), (4, cmp4), (10, (.bool wasBalanced10)), (11, (.bool wasPartitioned11)), (12, (.int .i64 length12)), (13, (.int .i64 pivot13)), (97, (.bool t97))]) (K4 K) h
theorem L1_of {data0 : OA} {data0n data0c : Nat} {a1 b2 limit3 : Int} {cmp4 : Value} {wasBalanced10 wasPartitioned11 : Bool} {K : EP} {h : Heap} (H :
 let t23 : Int := IntKind.i64.wrap (b2 - a1)
 let t25 : Bool := decide (t23 ≤ 12)
 br t25 (
 SpecH PP F_slices_insertionSortCmpFunc_api_Key [(.slice data0 data0n data0c), (.int .i64 a1), (.int .i64 b2), cmp4] h (fun v h1 => v = (.tuple #[]) ∧
 K .ret (Xret) h1)) (
 let t32 : Bool := (limit3 == 0)
 br t32 (
 SpecH PP F_slices_heapSortCmpFunc_api_Key [(.slice data0 data0n data0c), (.int .i64 a1), (.int .i64 b2), cmp4] h (fun v_1 h2 => v_1 = (.tuple #[]) ∧
 K .ret (Xret) h2)) (
 let t39 : Bool := (!wasBalanced10)
 br t39 (
 SpecH PP F_slices_breakPatternsCmpFunc_api_Key [(.slice data0 data0n data0c), (.int .i64 a1), (.int .i64 b2), cmp4] h (fun v_2 h3 => v_2 = (.tuple #[]) ∧
 let t46 : Int := IntKind.i64.wrap (limit3 - 1)
 J1 data0 data0n data0c a1 b2 t46 cmp4 wasBalanced10 wasPartitioned11 t23 K h3)) (
 J1 data0 data0n data0c a1 b2 limit3 cmp4 wasBalanced10 wasPartitioned11 t23 K h)))) : L1 data0 data0n data0c a1 b2 limit3 cmp4 wasBalanced10 wasPartitioned11 K h := by unfold L1; exact Lp.of_txt (an 28) 3103 (by kernel_rfl) H
theorem L1_Xret {Q : VP}  {h : Heap} (H :
 Q (.tuple #[]) h) : (K1 Q) .ret (Xret ) h := of_eq_txt (by kernel_rfl) H
theorem J1_of {data0 : OA} {data0n data0c : Nat} {a1 b2 limit3 : Int} {cmp4 : Value} {wasBalanced10 wasPartitioned11 : Bool} {length12 : Int} {K : EP} {h : Heap} (H :
 SpecH PP F_slices_choosePivotCmpFunc_api_Key [(.slice data0 data0n data0c), (.int .i64 a1), (.int .i64 b2), cmp4] h (fun v h1 => ∃ (t52 t52_1 : Int), v = (.tuple #[(.int .i64 t52), (.int .i64 t52_1)]) ∧
 let t56 : Bool := (t52_1 == 2)
 br t56 (
 SpecH PP F_slices_reverseRangeCmpFunc_api_Key [(.slice data0 data0n data0c), (.int .i64 a1), (.int .i64 b2), cmp4] h1 (fun v_1 h2 => v_1 = (.tuple #[]) ∧
 let t63 : Int := IntKind.i64.wrap (b2 - 1)
 let t66 : Int := IntKind.i64.wrap (t52 - a1)
 let t67 : Int := IntKind.i64.wrap (t63 - t66)
 J2 data0 data0n data0c a1 b2 limit3 cmp4 wasBalanced10 wasPartitioned11 length12 t67 1 K h2)) (
 J2 data0 data0n data0c a1 b2 limit3 cmp4 wasBalanced10 wasPartitioned11 length12 t52 t52_1 K h1))) : J1 data0 data0n data0c a1 b2 limit3 cmp4 wasBalanced10 wasPartitioned11 length12 K h := by unfold J1; exact Jn.of_txt (an 911) (by kernel_rfl) H
theorem J2_of {data0 : OA} {data0n data0c : Nat} {a1 b2 limit3 : Int} {cmp4 : Value} {wasBalanced10 wasPartitioned11 : Bool} {length12 pivot13 hint14 : Int} {K : EP} {h : Heap} (H :
 br wasBalanced10 (
 br wasPartitioned11 (
 let t74 : Bool := (hint14 == 1)
 J3 data0 data0n data0c a1 b2 limit3 cmp4 wasBalanced10 wasPartitioned11 length12 pivot13 t74 K h) (
 J3 data0 data0n data0c a1 b2 limit3 cmp4 wasBalanced10 wasPartitioned11 length12 pivot13 false K h)) (
 J3 data0 data0n data0c a1 b2 limit3 cmp4 wasBalanced10 wasPartitioned11 length12 pivot13 false K h)) : J2 data0 data0n data0c a1 b2 limit3 cmp4 wasBalanced10 wasPartitioned11 length12 pivot13 hint14 K h := by unfold J2; exact Jn.of_txt (an 3647) (by kernel_rfl) H
theorem J3_of {data0 : OA} {data0n data0c : Nat} {a1 b2 limit3 : Int} {cmp4 : Value} {wasBalanced10 wasPartitioned11 : Bool} {length12 pivot13 : Int} {t75 : Bool} {K : EP} {h : Heap} (H :
 br t75 (
 SpecH PP F_slices_partialInsertionSortCmpFunc_api_Key [(.slice data0 data0n data0c), (.int .i64 a1), (.int .i64 b2), cmp4] h (fun v h1 => ∃ (t80 : Bool), v = (.bool t80) ∧
 br t80 (
 K .ret (Xret) h1) (
 J4 data0 data0n data0c a1 b2 limit3 cmp4 wasBalanced10 wasPartitioned11 length12 pivot13 K h1))) (
 J4 data0 data0n data0c a1 b2 limit3 cmp4 wasBalanced10 wasPartitioned11 length12 pivot13 K h)) : J3 data0 data0n data0c a1 b2 limit3 cmp4 wasBalanced10 wasPartitioned11 length12 pivot13 t75 K h := by unfold J3; exact Jn.of_txt (an 14589) (by kernel_rfl) H
theorem J4_of {data0 : OA} {data0n data0c : Nat} {a1 b2 limit3 : Int} {cmp4 : Value} {wasBalanced10 wasPartitioned11 : Bool} {length12 pivot13 : Int} {K : EP} {h : Heap} (H :
 let t82 : Bool := decide (a1 > 0)
 br t82 (
 let t87 : Int := IntKind.i64.wrap (a1 - 1)
 hwp PP (Instr.indexAt T_sl_api_Key (.slice data0 data0n data0c) (.int .i64 t87)) (fun v h1 => ∃ (t88 : Addr), v = (.pointer (some t88)) ∧
 ∃ (t89f0 t89f1 t89f2 : ByteArray), rdCells h1 t88 0 [(.string t89f0), (.string t89f1), (.string t89f2)] ∧
 hwp PP (Instr.indexAt T_sl_api_Key (.slice data0 data0n data0c) (.int .i64 pivot13)) (fun v_1 h2 => ∃ (t92 : Addr), v_1 = (.pointer (some t92)) ∧
 ∃ (t93f0 t93f1 t93f2 : ByteArray), rdCells h2 t92 0 [(.string t93f0), (.string t93f1), (.string t93f2)] ∧
 callV PP cmp4 [(.agg #[(.string t89f0), (.string t89f1), (.string t89f2)]), (.agg #[(.string t93f0), (.string t93f1), (.string t93f2)])] (fun v_2 h3 => ∃ (t94 : Int), v_2 = (.int .i64 t94) ∧
 let t95 : Bool := decide (t94 < 0)
 let t96 : Bool := (!t95)
 J5 data0 data0n data0c a1 b2 limit3 cmp4 wasBalanced10 wasPartitioned11 length12 pivot13 t96 K h3) h2) h1) h) (
 J5 data0 data0n data0c a1 b2 limit3 cmp4 wasBalanced10 wasPartitioned11 length12 pivot13 false K h)) : J4 data0 data0n data0c a1 b2 limit3 cmp4 wasBalanced10 wasPartitioned11 length12 pivot13 K h := by unfold J4; exact Jn.of_txt (an 7295) (by kernel_rfl) H
theorem J5_of {data0 : OA} {data0n data0c : Nat} {a1 b2 limit3 : Int} {cmp4 : Value} {wasBalanced10 wasPartitioned11 : Bool} {length12 pivot13 : Int} {t97 : Bool} {K : EP} {h : Heap} (H :
 br t97 (
 SpecH PP F_slices_partitionEqualCmpFunc_api_Key [(.slice data0 data0n data0c), (.int .i64 a1), (.int .i64 b2), (.int .i64 pivot13), cmp4] h (fun v h1 => ∃ (t103 : Int), v = (.int .i64 t103) ∧
 L1 data0 data0n data0c t103 b2 limit3 cmp4 wasBalanced10 wasPartitioned11 K h1)) (
 SpecH PP F_slices_partitionCmpFunc_api_Key [(.slice data0 data0n data0c), (.int .i64 a1), (.int .i64 b2), (.int .i64 pivot13), cmp4] h (fun v_1 h2 => ∃ (t111 : Int) (t111_1 : Bool), v_1 = (.tuple #[(.int .i64 t111), (.bool t111_1)]) ∧
 let t117 : Int := IntKind.i64.wrap (t111 - a1)
 let t120 : Int := IntKind.i64.wrap (b2 - t111)
 let t122 : Int := IntKind.i64.wrap (Int.tdiv length12 8)
 let t125 : Bool := decide (t117 < t120)
 br t125 (
 let t128 : Bool := decide (t117 ≥ t122)
 SpecH PP F_slices_pdqsortCmpFunc_api_Key [(.slice data0 data0n data0c), (.int .i64 a1), (.int .i64 t111), (.int .i64 limit3), cmp4] h2 (fun v_2 h3 => v_2 = (.tuple #[]) ∧
 let t136 : Int := IntKind.i64.wrap (t111 + 1)
 L1 data0 data0n data0c t136 b2 limit3 cmp4 t128 t111_1 K h3)) (
 let t139 : Bool := decide (t120 ≥ t122)
 let t142 : Int := IntKind.i64.wrap (t111 + 1)
 SpecH PP F_slices_pdqsortCmpFunc_api_Key [(.slice data0 data0n data0c), (.int .i64 t142), (.int .i64 b2), (.int .i64 limit3), cmp4] h2 (fun v_3 h4 => v_3 = (.tuple #[]) ∧
 L1 data0 data0n data0c a1 t111 limit3 cmp4 t139 t111_1 K h4))))) : J5 data0 data0n data0c a1 b2 limit3 cmp4 wasBalanced10 wasPartitioned11 length12 pivot13 t97 K h := by unfold J5; exact Jn.of_txt (an 29181) (by kernel_rfl) H
theorem door {data0 : OA} {data0n data0c : Nat} {a1 b2 limit3 : Int} {cmp4 : Value} {Q : VP} {h : Heap} (H :
 L1 data0 data0n data0c a1 b2 limit3 cmp4 true true (K1 Q) h) : SpecH PP F_slices_pdqsortCmpFunc_api_Key [(.slice data0 data0n data0c), (.int .i64 a1), (.int .i64 b2), (.int .i64 limit3), cmp4] h Q :=
   spec_of_txt (ann := ann) Try.func45 rfl rfl (by kernel_rfl) H
end slices_pdqsortCmpFunc_api_Key
/-! ### math/bits.Len: function 46 -/
namespace math_bits_Len
def ann : Ann := (.seq 1 (.region [(List.range 1, 1)]) (.seq 1 (.cond (.seq 4 (.region [(List.range 4, 4)]) (.exit 4)) .leaf) (.seq 4 (.region [(List.range 3, 4)]) (.exit 4))))
noncomputable abbrev cd (n : Nat) : Code := sub (bodyOf Try.f46) (pth n)
abbrev an (n : Nat) : Ann := subA ann (pth n)
theorem door {x0 : Int} {Q : VP} {h : Heap} (H :
 SpecH PP F_math_bits_Len64 [(.int .u64 x0)] h (fun v h1 => ∃ (t7 : Int), v = (.int .i64 t7) ∧
 Q (.int .i64 t7) h1)) : SpecH PP F_math_bits_Len [(.int .u64 x0)] h Q :=
   spec_of_txt (ann := ann) Try.func46 rfl rfl (by kernel_rfl) H
end math_bits_Len
/-! ### cmp.isNaN[string]: function 47 -/
namespace cmp_isNaN_string
def ann : Ann := (.seq 1 (.region [(List.range 1, 1)]) (.seq 4 (.region [(List.range 4, 4)]) (.exit 4)))
noncomputable abbrev cd (n : Nat) : Code := sub (bodyOf Try.f47) (pth n)
abbrev an (n : Nat) : Ann := subA ann (pth n)
theorem door {x0 : ByteArray} {Q : VP} {h : Heap} (H :
 let t5 : Bool := (!decide (x0 = x0))
 Q (.bool t5) h) : SpecH PP F_cmp_isNaN_string [(.string x0)] h Q :=
   spec_of_txt (ann := ann) Try.func47 rfl rfl (by kernel_rfl) H
end cmp_isNaN_string
/-! ### haversack/haversackref12.Less: function 48 -/
namespace ref12_Less
def ann : Ann := (.seq 12 (.region [(List.range 3, 12)]) (.seq 12 (.seq 524 (.region [(List.range 5, 524)]) (.cond (.seq 16 (.region [(List.range 6, 16)]) (.exit 16)) .leaf)) (.seq 12 (.seq 524300 (.region [(List.range 5, 524300)]) (.cond (.seq 16 (.region [(List.range 6, 16)]) (.exit 16)) .leaf)) (.seq 16 (.region [(List.range 6, 16)]) (.exit 16)))))
noncomputable abbrev cd (n : Nat) : Code := sub (bodyOf Try.f48) (pth n)
abbrev an (n : Nat) : Ann := subA ann (pth n)
theorem door {a0f0 a0f1 a0f2 b1f0 b1f1 b1f2 : ByteArray} {Q : VP} {h : Heap} (H :
 let a2 : Addr := ⟨Array.size h, 0, none⟩
 let h1 : Heap := Array.push h (.cells #[(.string a0f0), (.string a0f1), (.string a0f2)] T_api_Key (0, 0))
 let b3 : Addr := ⟨Array.size h1, 0, none⟩
 let h2 : Heap := Array.push h1 (.cells #[(.string b1f0), (.string b1f1), (.string b1f2)] T_api_Key (0, 0))
 ∃ (t6 : ByteArray), cellH h2 a2 = some (.string t6) ∧
 ∃ (t8 : ByteArray), cellH h2 b3 = some (.string t8) ∧
 let t9 : Bool := (!decide (t6 = t8))
 br t9 (
 ∃ (t11 : ByteArray), cellH h2 a2 = some (.string t11) ∧
 ∃ (t13 : ByteArray), cellH h2 b3 = some (.string t13) ∧
 let t14 : Bool := strLt t11 t13
 Q (.bool t14) h2) (
 ∃ (t16 : ByteArray), cellH h2 (Addr.add a2 1) = some (.string t16) ∧
 ∃ (t18 : ByteArray), cellH h2 (Addr.add b3 1) = some (.string t18) ∧
 let t19 : Bool := (!decide (t16 = t18))
 br t19 (
 ∃ (t21 : ByteArray), cellH h2 (Addr.add a2 1) = some (.string t21) ∧
 ∃ (t23 : ByteArray), cellH h2 (Addr.add b3 1) = some (.string t23) ∧
 let t24 : Bool := strLt t21 t23
 Q (.bool t24) h2) (
 ∃ (t26 : ByteArray), cellH h2 (Addr.add a2 2) = some (.string t26) ∧
 ∃ (t28 : ByteArray), cellH h2 (Addr.add b3 2) = some (.string t28) ∧
 let t29 : Bool := strLt t26 t28
 Q (.bool t29) h2))) : SpecH PP F_ref12_Less [(.agg #[(.string a0f0), (.string a0f1), (.string a0f2)]), (.agg #[(.string b1f0), (.string b1f1), (.string b1f2)])] h Q :=
   spec_of_txt (ann := ann) Try.func48 rfl rfl (by kernel_rfl) H
end ref12_Less
/-! ### slices.insertionSortCmpFunc[haversack/api.Key]: function 49 -/
namespace slices_insertionSortCmpFunc_api_Key
def ann : Ann := (.seq 271 (.region [(List.range 3, 271)]) (.block (.loop 271 (.seq 271 (.seq 16655 (.region [(List.range 3, 16655)]) (.cond .leaf (.exit 0))) (.seq 271 (.block (.seq 783 (.region [(List.range 2, 783)]) (.block (.loop 783 (.seq 783 (.seq 17179869967 (.region [(List.range 17, 17179869967)]) (.cond .leaf (.exit 271))) (.seq 783 (.block (.region [(List.range 18, 783)])) (.region [(List.range 3, 783)]))))))) (.region [(List.range 3, 271)]))))))
noncomputable abbrev cd (n : Nat) : Code := sub (bodyOf Try.f49) (pth n)
abbrev an (n : Nat) : Ann := subA ann (pth n)
@[irreducible] def X0  : Fr := (mkFr 0 53 [])
@[irreducible] def X2 (data0 : OA) (data0n data0c : Nat) (a1 b2 : Int) (cmp3 : Value) (i8 : Int) : Fr := (mkFr 0 53 [(0, (.slice data0 data0n data0c)), (1, (.int .i64 a1)), (2, (.int .i64 b2)), (3, cmp3), (8, (.int .i64 i8))])
@[irreducible] def L1 (data0 : OA) (data0n data0c : Nat) (a1 b2 : Int) (cmp3 : Value) (i8 : Int) (K : EP) (h : Heap) : Prop := Lp PP true (cd 12) (mkFr 0 53 [(0, (.slice data0 data0n data0c)), (1, (.int .i64 a1)), (2, (.int .i64 b2)), (3, cmp3), (8, (.int .i64 i8))]) K h
@[irreducible] def B1 (K : EP) : EP := seqK (fun fr h => Lp PP true (cd 12) (fr.mask 271) K h) K
@[irreducible] def K1 (Q : VP) : EP := blockK 0 (bodyK PP Try.f49 Q)
@[irreducible] def K4 (K : EP) : EP := seqK (fun fr h => ev PP true none (cd 51) (an 51) (fr.mask 271) (B1 K) h) (B1 K)
@[irreducible] def K3 (K : EP) : EP := blockK 1 (K4 K)
@[irreducible] def K2 (K : EP) : EP := blockK 2 (K3 K)
@[irreducible] def L2 (data0 : OA) (data0n data0c : Nat) (a1 b2 : Int) (cmp3 : Value) (i8 j9 : Int) (K : EP) (h : Heap) : Prop := Lp PP true (cd 804) (mkFr 0 53 [(0, (.slice data0 data0n data0c)), (1, (.int .i64 a1)), (2, (.int .i64 b2)), (3, cmp3), (8, (.int .i64 i8)), (9, (.int .i64 j9))]) K h
@[irreducible] def B2 (K : EP) : EP := seqK (fun fr h => Lp PP true (cd 804) (fr.mask 783) K h) K
theorem L1_of {data0 : OA} {data0n data0c : Nat} {a1 b2 : Int} {cmp3 : Value} {i8 : Int} {K : EP} {h : Heap} (H :
 let t14 : Bool := decide (i8 < b2)
 br t14 (
 L2 data0 data0n data0c a1 b2 cmp3 i8 i8 (K2 K) h) (
 K (.exit 0) (X0) h)) : L1 data0 data0n data0c a1 b2 cmp3 i8 K h := by unfold L1; exact Lp.of_txt (an 12) 271 (by kernel_rfl) H
theorem L1_X0 {Q : VP}  {h : Heap} (H :
 Q (.tuple #[]) h) : (K1 Q) (.exit 0) (X0 ) h := of_eq_txt (by kernel_rfl) H
theorem L2_of {data0 : OA} {data0n data0c : Nat} {a1 b2 : Int} {cmp3 : Value} {i8 j9 : Int} {K : EP} {h : Heap} (H :
 let t20 : Bool := decide (j9 > a1)
 br t20 (
 hwp PP (Instr.indexAt T_sl_api_Key (.slice data0 data0n data0c) (.int .i64 j9)) (fun v h1 => ∃ (t25 : Addr), v = (.pointer (some t25)) ∧
 ∃ (t26f0 t26f1 t26f2 : ByteArray), rdCells h1 t25 0 [(.string t26f0), (.string t26f1), (.string t26f2)] ∧
 let t29 : Int := IntKind.i64.wrap (j9 - 1)
 hwp PP (Instr.indexAt T_sl_api_Key (.slice data0 data0n data0c) (.int .i64 t29)) (fun v_1 h2 => ∃ (t30 : Addr), v_1 = (.pointer (some t30)) ∧
 ∃ (t31f0 t31f1 t31f2 : ByteArray), rdCells h2 t30 0 [(.string t31f0), (.string t31f1), (.string t31f2)] ∧
 callV PP cmp3 [(.agg #[(.string t26f0), (.string t26f1), (.string t26f2)]), (.agg #[(.string t31f0), (.string t31f1), (.string t31f2)])] (fun v_2 h3 => ∃ (t32 : Int), v_2 = (.int .i64 t32) ∧
 let t33 : Bool := decide (t32 < 0)
 br t33 (
 let t41 : Int := IntKind.i64.wrap (j9 - 1)
 let t44 : Int := IntKind.i64.wrap (j9 - 1)
 hwp PP (Instr.indexAt T_sl_api_Key (.slice data0 data0n data0c) (.int .i64 t44)) (fun v_3 h4 => ∃ (t45 : Addr), v_3 = (.pointer (some t45)) ∧
 ∃ (t46f0 t46f1 t46f2 : ByteArray), rdCells h4 t45 0 [(.string t46f0), (.string t46f1), (.string t46f2)] ∧
 hwp PP (Instr.indexAt T_sl_api_Key (.slice data0 data0n data0c) (.int .i64 j9)) (fun v_4 h5 => ∃ (t49 : Addr), v_4 = (.pointer (some t49)) ∧
 ∃ (t50f0 t50f1 t50f2 : ByteArray), rdCells h5 t49 0 [(.string t50f0), (.string t50f1), (.string t50f2)] ∧
 hwp PP (Instr.indexAt T_sl_api_Key (.slice data0 data0n data0c) (.int .i64 j9)) (fun v_5 h6 => ∃ (t51 : Addr), v_5 = (.pointer (some t51)) ∧
 wrCells t51 0 [(.string t46f0), (.string t46f1), (.string t46f2)] (fun h7 =>
 hwp PP (Instr.indexAt T_sl_api_Key (.slice data0 data0n data0c) (.int .i64 t41)) (fun v_6 h8 => ∃ (t52 : Addr), v_6 = (.pointer (some t52)) ∧
 wrCells t52 0 [(.string t50f0), (.string t50f1), (.string t50f2)] (fun h9 =>
 let t36 : Int := IntKind.i64.wrap (j9 - 1)
 L2 data0 data0n data0c a1 b2 cmp3 i8 t36 K h9) h8) h7) h6) h5) h4) h3) (
 K (.exit 2) (X2 data0 data0n data0c a1 b2 cmp3 i8) h3)) h2) h1) h) (
 K (.exit 2) (X2 data0 data0n data0c a1 b2 cmp3 i8) h)) : L2 data0 data0n data0c a1 b2 cmp3 i8 j9 K h := by unfold L2; exact Lp.of_txt (an 804) 783 (by kernel_rfl) H
theorem L2_X2 {K : EP} {data0 : OA} {data0n data0c : Nat} {a1 b2 : Int} {cmp3 : Value} {i8 : Int} {h : Heap} (H :
 let t16 : Int := IntKind.i64.wrap (i8 + 1)
 L1 data0 data0n data0c a1 b2 cmp3 t16 K h) : (K2 K) (.exit 2) (X2 data0 data0n data0c a1 b2 cmp3 i8) h := of_eq_txt (by kernel_rfl) H
theorem door {data0 : OA} {data0n data0c : Nat} {a1 b2 : Int} {cmp3 : Value} {Q : VP} {h : Heap} (H :
 let t11 : Int := IntKind.i64.wrap (a1 + 1)
 L1 data0 data0n data0c a1 b2 cmp3 t11 (K1 Q) h) : SpecH PP F_slices_insertionSortCmpFunc_api_Key [(.slice data0 data0n data0c), (.int .i64 a1), (.int .i64 b2), cmp3] h Q :=
   spec_of_txt (ann := ann) Try.func49 rfl rfl (by kernel_rfl) H
end slices_insertionSortCmpFunc_api_Key
/-! ### slices.heapSortCmpFunc[haversack/api.Key]: function 50 -/
namespace slices_heapSortCmpFunc_api_Key
def ann : Ann := (.seq 271 (.region [(List.range 2, 271)]) (.seq 783 (.region [(List.range 1, 783)]) (.seq 1801 (.region [(List.range 4, 1801)]) (.seq 1801 (.seq 3849 (.region [(List.range 4, 3849)]) (.block (.loop 3849 (.seq 3849 (.seq 2101001 (.region [(List.range 2, 2101001)]) (.cond .leaf (.exit 1801))) (.seq 3849 (.block (.region [(List.range 6, 3849)])) (.region [(List.range 3, 3849)])))))) (.seq 4873 (.region [(List.range 3, 4873)]) (.block (.loop 4873 (.seq 4873 (.seq 8589939465 (.region [(List.range 2, 8589939465)]) (.cond .leaf (.exit 0))) (.seq 4873 (.block (.seq 4873 (.region [(List.range 20, 4873)]) (.region [(List.range 6, 4873)]))) (.region [(List.range 3, 4873)]))))))))))
noncomputable abbrev cd (n : Nat) : Code := sub (bodyOf Try.f50) (pth n)
abbrev an (n : Nat) : Ann := subA ann (pth n)
@[irreducible] def X0 (data0 : OA) (data0n data0c : Nat) (cmp3 : Value) (first8 lo9 hi10 : Int) : Fr := (mkFr 0 60 [(0, (.slice data0 data0n data0c)), (3, cmp3), (8, (.int .i64 first8)), (9, (.int .i64 lo9)), (10, (.int .i64 hi10))])
@[irreducible] def X2  : Fr := (mkFr 0 60 [])
@[irreducible] def L1 (data0 : OA) (data0n data0c : Nat) (cmp3 : Value) (first8 lo9 hi10 i11 : Int) (K : EP) (h : Heap) : Prop := Lp PP true (cd 244) (mkFr 0 60 [(0, (.slice data0 data0n data0c)), (3, cmp3), (8, (.int .i64 first8)), (9, (.int .i64 lo9)), (10, (.int .i64 hi10)), (11, (.int .i64 i11))]) K h
@[irreducible] def B1 (K : EP) : EP := seqK (fun fr h => Lp PP true (cd 244) (fr.mask 3849) K h) K
@[irreducible] def K3 (Q : VP) : EP := seqK (fun fr h => ev PP true none (cd 31) (an 31) (fr.mask 1801) (bodyK PP Try.f50 Q) h) (bodyK PP Try.f50 Q)
@[irreducible] def K1 (Q : VP) : EP := blockK 0 (K3 Q)
@[irreducible] def K2 (Q : VP) : EP := blockK 2 (bodyK PP Try.f50 Q)
@[irreducible] def L2 (data0 : OA) (data0n data0c : Nat) (cmp3 : Value) (first8 lo9 i12 : Int) (K : EP) (h : Heap) : Prop := Lp PP true (cd 252) (mkFr 0 60 [(0, (.slice data0 data0n data0c)), (3, cmp3), (8, (.int .i64 first8)), (9, (.int .i64 lo9)), (12, (.int .i64 i12))]) K h
@[irreducible] def B2 (K : EP) : EP := seqK (fun fr h => Lp PP true (cd 252) (fr.mask 4873) K h) K
theorem L1_of {data0 : OA} {data0n data0c : Nat} {cmp3 : Value} {first8 lo9 hi10 i11 : Int} {K : EP} {h : Heap} (H :
 let t21 : Bool := decide (i11 ≥ 0)
 br t21 (
 SpecH PP F_slices_siftDownCmpFunc_api_Key [(.slice data0 data0n data0c), (.int .i64 i11), (.int .i64 hi10), (.int .i64 first8), cmp3] h (fun v h1 => v = (.tuple #[]) ∧
 let t23 : Int := IntKind.i64.wrap (i11 - 1)
 L1 data0 data0n data0c cmp3 first8 lo9 hi10 t23 K h1)) (
 K (.exit 0) (X0 data0 data0n data0c cmp3 first8 lo9 hi10) h)) : L1 data0 data0n data0c cmp3 first8 lo9 hi10 i11 K h := by unfold L1; exact Lp.of_txt (an 244) 3849 (by kernel_rfl) H
theorem L1_X0 {Q : VP} {data0 : OA} {data0n data0c : Nat} {cmp3 : Value} {first8 lo9 hi10 : Int} {h : Heap} (H :
 let t31 : Int := IntKind.i64.wrap (hi10 - 1)
 L2 data0 data0n data0c cmp3 first8 lo9 t31 (K2 Q) h) : (K1 Q) (.exit 0) (X0 data0 data0n data0c cmp3 first8 lo9 hi10) h := of_eq_txt (by kernel_rfl) H
theorem L2_of {data0 : OA} {data0n data0c : Nat} {cmp3 : Value} {first8 lo9 i12 : Int} {K : EP} {h : Heap} (H :
 let t33 : Bool := decide (i12 ≥ 0)
 br t33 (
 let t41 : Int := IntKind.i64.wrap (first8 + i12)
 let t45 : Int := IntKind.i64.wrap (first8 + i12)
 hwp PP (Instr.indexAt T_sl_api_Key (.slice data0 data0n data0c) (.int .i64 t45)) (fun v h1 => ∃ (t46 : Addr), v = (.pointer (some t46)) ∧
 ∃ (t47f0 t47f1 t47f2 : ByteArray), rdCells h1 t46 0 [(.string t47f0), (.string t47f1), (.string t47f2)] ∧
 hwp PP (Instr.indexAt T_sl_api_Key (.slice data0 data0n data0c) (.int .i64 first8)) (fun v_1 h2 => ∃ (t50 : Addr), v_1 = (.pointer (some t50)) ∧
 ∃ (t51f0 t51f1 t51f2 : ByteArray), rdCells h2 t50 0 [(.string t51f0), (.string t51f1), (.string t51f2)] ∧
 hwp PP (Instr.indexAt T_sl_api_Key (.slice data0 data0n data0c) (.int .i64 first8)) (fun v_2 h3 => ∃ (t52 : Addr), v_2 = (.pointer (some t52)) ∧
 wrCells t52 0 [(.string t47f0), (.string t47f1), (.string t47f2)] (fun h4 =>
 hwp PP (Instr.indexAt T_sl_api_Key (.slice data0 data0n data0c) (.int .i64 t41)) (fun v_3 h5 => ∃ (t53 : Addr), v_3 = (.pointer (some t53)) ∧
 wrCells t53 0 [(.string t51f0), (.string t51f1), (.string t51f2)] (fun h6 =>
 SpecH PP F_slices_siftDownCmpFunc_api_Key [(.slice data0 data0n data0c), (.int .i64 lo9), (.int .i64 i12), (.int .i64 first8), cmp3] h6 (fun v_4 h7 => v_4 = (.tuple #[]) ∧
 let t35 : Int := IntKind.i64.wrap (i12 - 1)
 L2 data0 data0n data0c cmp3 first8 lo9 t35 K h7)) h5) h4) h3) h2) h1) h) (
 K (.exit 2) (X2) h)) : L2 data0 data0n data0c cmp3 first8 lo9 i12 K h := by unfold L2; exact Lp.of_txt (an 252) 4873 (by kernel_rfl) H
theorem L2_X2 {Q : VP}  {h : Heap} (H :
 Q (.tuple #[]) h) : (K2 Q) (.exit 2) (X2 ) h := of_eq_txt (by kernel_rfl) H
theorem door {data0 : OA} {data0n data0c : Nat} {a1 b2 : Int} {cmp3 : Value} {Q : VP} {h : Heap} (H :
 let t16 : Int := IntKind.i64.wrap (b2 - a1)
 let t18 : Int := IntKind.i64.wrap (t16 - 1)
 let t19 : Int := IntKind.i64.wrap (Int.tdiv t18 2)
 L1 data0 data0n data0c cmp3 a1 0 t16 t19 (K1 Q) h) : SpecH PP F_slices_heapSortCmpFunc_api_Key [(.slice data0 data0n data0c), (.int .i64 a1), (.int .i64 b2), cmp3] h Q :=
   spec_of_txt (ann := ann) Try.func50 rfl rfl (by kernel_rfl) H
end slices_heapSortCmpFunc_api_Key
/-! ### slices.breakPatternsCmpFunc[haversack/api.Key]: function 51 -/
namespace slices_breakPatternsCmpFunc_api_Key
def ann : Ann := (.seq 259 (.region [(List.range 4, 259)]) (.seq 131331 (.region [(List.range 2, 131331)]) (.cond (.seq 771 (.region [(List.range 4, 771)]) (.seq 1795 (.region [(List.range 3, 1795)]) (.seq 3843 (.region [(List.range 7, 3843)]) (.block (.loop 3843 (.seq 3843 (.seq 34359742211 (.region [(List.range 8, 34359742211)]) (.cond .leaf (.exit 0))) (.seq 3843 (.block (.seq 7939 (.region [(List.range 6, 7939)]) (.seq 7939 (.seq 35184372096771 (.region [(List.range 3, 35184372096771)]) (.cond (.region [(List.range 4, 7939)]) .leaf)) (.join (.region [(List.range 20, 3843)]))))) (.region [(List.range 3, 3843)])))))))) .leaf)))
noncomputable abbrev cd (n : Nat) : Code := sub (bodyOf Try.f51) (pth n)
abbrev an (n : Nat) : Ann := subA ann (pth n)
@[irreducible] def X0  : Fr := (mkFr 0 67 [])
@[irreducible] def L1 (data0 : OA) (data0n data0c : Nat) (a1 length8 : Int) (random9 : Addr) (modulus10 idx11 : Int) (K : EP) (h : Heap) : Prop := Lp PP true (cd 476) (mkFr 0 67 [(0, (.slice data0 data0n data0c)), (1, (.int .i64 a1)), (8, (.int .i64 length8)), (9, (.pointer (some random9))), (10, (.int .u64 modulus10)), (11, (.int .i64 idx11))]) K h
@[irreducible] def B1 (K : EP) : EP := seqK (fun fr h => Lp PP true (cd 476) (fr.mask 3843) K h) K
@[irreducible] def K3 (K : EP) : EP := seqK (fun fr h => ev PP true none (cd 1907) (an 1907) (fr.mask 3843) (B1 K) h) (B1 K)
@[irreducible] def K2 (K : EP) : EP := blockK 1 (K3 K)
@[irreducible] def J1 (data0 : OA) (data0n data0c : Nat) (a1 length8 : Int) (random9 : Addr) (modulus10 idx11 other12 : Int) (K : EP) (h : Heap) : Prop := Jn PP true (cd 15251) (mkFr 0 67 [(0, (.slice data0 data0n data0c)), (1, (.int .i64 a1)), (8, (.int .i64 length8)), (9, (.pointer (some random9))), (10, (.int .u64 modulus10)), (11, (.int .i64 idx11)), (12, (.int .i64 other12))]) (K2 K) h
@[irreducible] def K1 (Q : VP) : EP := blockK 0 (bodyK PP Try.f51 Q)
theorem L1_of {data0 : OA} {data0n data0c : Nat} {a1 length8 : Int} {random9 : Addr} {modulus10 idx11 : Int} {K : EP} {h : Heap} (H :
 let t31 : Int := IntKind.i64.wrap (Int.tdiv length8 4)
 let t32 : Int := IntKind.i64.wrap (t31 * 2)
 let t33 : Int := IntKind.i64.wrap (a1 + t32)
 let t34 : Int := IntKind.i64.wrap (t33 + 1)
 let t35 : Bool := decide (idx11 ≤ t34)
 br t35 (
 SpecH PP F_slices_xorshift_Next [(.pointer (some random9))] h (fun v h1 => ∃ (t38 : Int), v = (.int .u64 t38) ∧
 let t40 : Int := IntKind.u64.wrap (modulus10 - 1)
 let t41 : Int := bAnd .u64 t38 t40
 let t42 : Int := IntKind.i64.wrap t41
 let t45 : Bool := decide (t42 ≥ length8)
 br t45 (
 let t48 : Int := IntKind.i64.wrap (t42 - length8)
 J1 data0 data0n data0c a1 length8 random9 modulus10 idx11 t48 K h1) (
 J1 data0 data0n data0c a1 length8 random9 modulus10 idx11 t42 K h1))) (
 K (.exit 0) (X0) h)) : L1 data0 data0n data0c a1 length8 random9 modulus10 idx11 K h := by unfold L1; exact Lp.of_txt (an 476) 3843 (by kernel_rfl) H
theorem L1_X0 {Q : VP}  {h : Heap} (H :
 Q (.tuple #[]) h) : (K1 Q) (.exit 0) (X0 ) h := of_eq_txt (by kernel_rfl) H
theorem J1_of {data0 : OA} {data0n data0c : Nat} {a1 length8 : Int} {random9 : Addr} {modulus10 idx11 other12 : Int} {K : EP} {h : Heap} (H :
 let t54 : Int := IntKind.i64.wrap (a1 + other12)
 let t58 : Int := IntKind.i64.wrap (a1 + other12)
 hwp PP (Instr.indexAt T_sl_api_Key (.slice data0 data0n data0c) (.int .i64 t58)) (fun v h1 => ∃ (t59 : Addr), v = (.pointer (some t59)) ∧
 ∃ (t60f0 t60f1 t60f2 : ByteArray), rdCells h1 t59 0 [(.string t60f0), (.string t60f1), (.string t60f2)] ∧
 hwp PP (Instr.indexAt T_sl_api_Key (.slice data0 data0n data0c) (.int .i64 idx11)) (fun v_1 h2 => ∃ (t63 : Addr), v_1 = (.pointer (some t63)) ∧
 ∃ (t64f0 t64f1 t64f2 : ByteArray), rdCells h2 t63 0 [(.string t64f0), (.string t64f1), (.string t64f2)] ∧
 hwp PP (Instr.indexAt T_sl_api_Key (.slice data0 data0n data0c) (.int .i64 idx11)) (fun v_2 h3 => ∃ (t65 : Addr), v_2 = (.pointer (some t65)) ∧
 wrCells t65 0 [(.string t60f0), (.string t60f1), (.string t60f2)] (fun h4 =>
 hwp PP (Instr.indexAt T_sl_api_Key (.slice data0 data0n data0c) (.int .i64 t54)) (fun v_3 h5 => ∃ (t66 : Addr), v_3 = (.pointer (some t66)) ∧
 wrCells t66 0 [(.string t64f0), (.string t64f1), (.string t64f2)] (fun h6 =>
 let t37 : Int := IntKind.i64.wrap (idx11 + 1)
 L1 data0 data0n data0c a1 length8 random9 modulus10 t37 K h6) h5) h4) h3) h2) h1) h) : J1 data0 data0n data0c a1 length8 random9 modulus10 idx11 other12 K h := by unfold J1; exact Jn.of_txt (an 15251) (by kernel_rfl) H
theorem door {data0 : OA} {data0n data0c : Nat} {a1 b2 : Int} {cmp3 : Value} {Q : VP} {h : Heap} (H :
 let t15 : Int := IntKind.i64.wrap (b2 - a1)
 let t17 : Bool := decide (t15 ≥ 8)
 br t17 (
 let t19 : Int := IntKind.u64.wrap t15
 let random9 : Addr := ⟨Array.size h, 0, none⟩
 let h1 : Heap := Array.push h (.cells #[(.int .u64 0)] T_slices_xorshift (0, 0))
 wr random9 (.int .u64 t19) (fun h2 =>
 SpecH PP F_slices_nextPowerOfTwo [(.int .i64 t15)] h2 (fun v h3 => ∃ (t21 : Int), v = (.int .u64 t21) ∧
 let t24 : Int := IntKind.i64.wrap (Int.tdiv t15 4)
 let t25 : Int := IntKind.i64.wrap (t24 * 2)
 let t26 : Int := IntKind.i64.wrap (a1 + t25)
 let t27 : Int := IntKind.i64.wrap (t26 - 1)
 L1 data0 data0n data0c a1 t15 random9 t21 t27 (K1 Q) h3)) h1) (
 Q (.tuple #[]) h)) : SpecH PP F_slices_breakPatternsCmpFunc_api_Key [(.slice data0 data0n data0c), (.int .i64 a1), (.int .i64 b2), cmp3] h Q :=
   spec_of_txt (ann := ann) Try.func51 rfl rfl (by kernel_rfl) H
end slices_breakPatternsCmpFunc_api_Key
/-! ### slices.choosePivotCmpFunc[haversack/api.Key]: function 52 -/
namespace slices_choosePivotCmpFunc_api_Key
def ann : Ann := (.seq 15 (.region [(List.range 2, 15)]) (.seq 1035 (.region [(List.range 4, 1035)]) (.seq 3083 (.region [(List.range 1, 3083)]) (.seq 7179 (.region [(List.range 6, 7179)]) (.seq 15371 (.region [(List.range 6, 15371)]) (.seq 31753 (.region [(List.range 6, 31753)]) (.seq 10240 (.seq 17179900937 (.region [(List.range 2, 17179900937)]) (.cond (.seq 30729 (.seq 68719507465 (.region [(List.range 2, 68719507465)]) (.cond (.seq 30729 (.region [(List.range 5, 30729)]) (.seq 30729 (.region [(List.range 5, 30729)]) (.region [(List.range 5, 30729)]))) .leaf)) (.join (.region [(List.range 7, 10240)]))) .leaf)) (.join (.seq 36028797018972160 (.region [(List.range 1, 36028797018972160)]) (.block (.seq 180143985094828032 (.region [(List.range 2, 180143985094828032)]) (.cond (.seq 768 (.region [(List.range 3, 768)]) (.exit 768)) (.seq 1152921504606855168 (.region [(List.range 2, 1152921504606855168)]) (.cond (.seq 768 (.region [(List.range 3, 768)]) (.exit 768)) (.seq 768 (.region [(List.range 3, 768)]) (.exit 768))))))))))))))))
noncomputable abbrev cd (n : Nat) : Code := sub (bodyOf Try.f52) (pth n)
abbrev an (n : Nat) : Ann := subA ann (pth n)
@[irreducible] def K1 (Q : VP) : EP := seqK (fun fr h => Jn PP true (cd 255) (fr.mask 10240) (bodyK PP Try.f52 Q) h) (bodyK PP Try.f52 Q)
@[irreducible] def J1 (data0 : OA) (data0n data0c : Nat) (cmp3 : Value) (swaps11 : Addr) (i12 j13 k14 : Int) (Q : VP) (h : Heap) : Prop := Jn PP true (cd 2037) (mkFr 0 63 [(0, (.slice data0 data0n data0c)), (3, cmp3), (11, (.pointer (some swaps11))), (12, (.int .i64 i12)), (13, (.int .i64 j13)), (14, (.int .i64 k14))]) (K1 Q) h
@[irreducible] def J2 (swaps11 : Addr) (j13 : Int) (Q : VP) (h : Heap) : Prop := Jn PP true (cd 255) (mkFr 0 63 [(11, (.pointer (some swaps11))), (13, (.int .i64 j13))]) (bodyK PP Try.f52 Q) h
theorem J1_of {data0 : OA} {data0n data0c : Nat} {cmp3 : Value} {swaps11 : Addr} {i12 j13 k14 : Int} {Q : VP} {h : Heap} (H :
 SpecH PP F_slices_medianCmpFunc_api_Key [(.slice data0 data0n data0c), (.int .i64 i12), (.int .i64 j13), (.int .i64 k14), (.pointer (some swaps11)), cmp3] h (fun v h1 => ∃ (t54 : Int), v = (.int .i64 t54) ∧
 J2 swaps11 t54 Q h1)) : J1 data0 data0n data0c cmp3 swaps11 i12 j13 k14 Q h := by unfold J1; exact Jn.of_txt (an 2037) (by kernel_rfl) H
theorem J2_of {swaps11 : Addr} {j13 : Int} {Q : VP} {h : Heap} (H :
 ∃ (t55 : Int), cellH h swaps11 = some (.int .i64 t55) ∧
 let t58 : Bool := (t55 == 0)
 br t58 (
 Q (.tuple #[(.int .i64 j13), (.int .i64 1)]) h) (
 let t61 : Bool := (t55 == 12)
 br t61 (
 Q (.tuple #[(.int .i64 j13), (.int .i64 2)]) h) (
 Q (.tuple #[(.int .i64 j13), (.int .i64 0)]) h))) : J2 swaps11 j13 Q h := by unfold J2; exact Jn.of_txt (an 255) (by kernel_rfl) H
theorem door {data0 : OA} {data0n data0c : Nat} {a1 b2 : Int} {cmp3 : Value} {Q : VP} {h : Heap} (H :
 let t17 : Int := IntKind.i64.wrap (b2 - a1)
 let swaps11 : Addr := ⟨Array.size h, 0, none⟩
 let h1 : Heap := Array.push h (.cells #[(.int .i64 0)] T_int (0, 0))
 let t20 : Int := IntKind.i64.wrap (Int.tdiv t17 4)
 let t21 : Int := IntKind.i64.wrap (t20 * 1)
 let t22 : Int := IntKind.i64.wrap (a1 + t21)
 let t25 : Int := IntKind.i64.wrap (Int.tdiv t17 4)
 let t26 : Int := IntKind.i64.wrap (t25 * 2)
 let t27 : Int := IntKind.i64.wrap (a1 + t26)
 let t30 : Int := IntKind.i64.wrap (Int.tdiv t17 4)
 let t31 : Int := IntKind.i64.wrap (t30 * 3)
 let t32 : Int := IntKind.i64.wrap (a1 + t31)
 let t34 : Bool := decide (t17 ≥ 8)
 br t34 (
 let t36 : Bool := decide (t17 ≥ 50)
 br t36 (
 SpecH PP F_slices_medianAdjacentCmpFunc_api_Key [(.slice data0 data0n data0c), (.int .i64 t22), (.pointer (some swaps11)), cmp3] h1 (fun v h2 => ∃ (t40 : Int), v = (.int .i64 t40) ∧
 SpecH PP F_slices_medianAdjacentCmpFunc_api_Key [(.slice data0 data0n data0c), (.int .i64 t27), (.pointer (some swaps11)), cmp3] h2 (fun v_1 h3 => ∃ (t44 : Int), v_1 = (.int .i64 t44) ∧
 SpecH PP F_slices_medianAdjacentCmpFunc_api_Key [(.slice data0 data0n data0c), (.int .i64 t32), (.pointer (some swaps11)), cmp3] h3 (fun v_2 h4 => ∃ (t48 : Int), v_2 = (.int .i64 t48) ∧
 J1 data0 data0n data0c cmp3 swaps11 t40 t44 t48 Q h4)))) (
 J1 data0 data0n data0c cmp3 swaps11 t22 t27 t32 Q h1)) (
 J2 swaps11 t27 Q h1)) : SpecH PP F_slices_choosePivotCmpFunc_api_Key [(.slice data0 data0n data0c), (.int .i64 a1), (.int .i64 b2), cmp3] h Q :=
   spec_of_txt (ann := ann) Try.func52 rfl rfl (by kernel_rfl) H
end slices_choosePivotCmpFunc_api_Key

end Go.Proofs.Ytjkfngolgjbakaa
