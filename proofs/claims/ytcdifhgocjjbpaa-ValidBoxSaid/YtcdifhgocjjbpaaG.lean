/- What the functions of this text come to, as predicates on heaps (printed by my own program out of the dump), each with its proof against the program. -/
import Derived.Test.YtcdifhgocjjbpaaHwLib
import Derived.Test.YtcdifhgocjjbpaaHwGen
import Derived.Test.YtcdifhgocjjbpaaHwArr
import Derived.Test.YtcdifhgocjjbpaaProg
set_option linter.unusedVariables false
set_option maxRecDepth 100000
namespace Go.Proofs.Ytcdifhgocjjbpaa
open Go Go.HW
noncomputable abbrev PP : Program := Try.prog
abbrev T_ : TypeId := 0
abbrev T_int : TypeId := 3
abbrev T_bool : TypeId := 4
abbrev T_string : TypeId := 9
abbrev T_sl_api_Key : TypeId := 22
abbrev T_sl_api_Box : TypeId := 23
abbrev T_sl_api_Write : TypeId := 24
abbrev T_struct_At_int_Writes_sl_api_Write : TypeId := 25
abbrev T_api_Commit : TypeId := 26
abbrev T_p_valid_Set : TypeId := 27
abbrev T_struct_Tenant_string_Archive_string_Entry_string : TypeId := 31
abbrev T_api_Key : TypeId := 32
abbrev T_struct_Tenant_string_Archive_string : TypeId := 34
abbrev T_api_Box : TypeId := 35
abbrev T_struct_Key_api_Key_There_bool_Data_string : TypeId := 38
abbrev T_api_Write : TypeId := 39
abbrev T_sl_haversacklaw13_Op : TypeId := 41
abbrev T_sl_api_Commit : TypeId := 42
abbrev T_struct_Kind_int_Key_api_Key_Box_api_Box_Data_string_Commits_ : TypeId := 43
abbrev T_haversacklaw13_Op : TypeId := 44
abbrev T_p_haversackref13_Set : TypeId := 45
abbrev T_struct_At_int_Reads_sl_api_Key_Lists_sl_api_Box_Staged_sl_ap : TypeId := 46
abbrev T_haversackref13_Set : TypeId := 47
abbrev T_map_api_Key_bool : TypeId := 60
abbrev T_map_api_Box_bool : TypeId := 61
abbrev T_map_api_Key_api_Write : TypeId := 62
abbrev T_struct_at_int_reads_map_api_Key_bool_lists_map_api_Box_bool_ : TypeId := 63
abbrev T_valid_Set : TypeId := 64
abbrev T_sl_int : TypeId := 83
abbrev T_uint64 : TypeId := 100
abbrev T_slices_xorshift : TypeId := 101
abbrev F_law13_ValidMore : FuncId := 3
abbrev F_law13_ValidBox : FuncId := 4
abbrev F_law13_ValidRuns : FuncId := 5
abbrev F_law13_ValidNil : FuncId := 6
abbrev F_valid_New : FuncId := 7
abbrev F_valid_Set_Clash : FuncId := 8
abbrev F_valid_Set_Read : FuncId := 9
abbrev F_valid_Set_List : FuncId := 10
abbrev F_law13_awake : FuncId := 11
abbrev F_law13_step : FuncId := 12
abbrev F_valid_Set_At : FuncId := 13
abbrev F_keep_Writes : FuncId := 14
abbrev F_valid_Set_Writes : FuncId := 15
abbrev F_valid_Set_Put : FuncId := 16
abbrev F_valid_Set_Delete : FuncId := 17
abbrev F_valid_Set_Own : FuncId := 18
abbrev F_valid_Set_Check : FuncId := 19
abbrev F_slices_ContainsFunc_api_Write_api_Write : FuncId := 20
abbrev F_valid_Set_Clash_1 : FuncId := 21
abbrev F_law13_key : FuncId := 22
abbrev F_law13_commit : FuncId := 23
abbrev F_ref13_Set_Stage : FuncId := 24
abbrev F_ref13_Set_Own : FuncId := 25
abbrev F_ref13_Set_Check : FuncId := 26
abbrev F_ref13_Set_Clash : FuncId := 27
abbrev F_slices_SortedFunc_api_Write : FuncId := 28
abbrev F_maps_Values_map_api_Key_api_Write_api_Key_api_Write : FuncId := 29
abbrev F_valid_Set_Writes_1 : FuncId := 30
abbrev F_cmp_Or_int : FuncId := 31
abbrev F_cmp_Compare_string : FuncId := 32
abbrev F_slices_IndexFunc_api_Commit_api_Commit : FuncId := 33
abbrev F_slices_IndexFunc_api_Write_api_Write : FuncId := 34
abbrev F_ref13_Before : FuncId := 35
abbrev F_ref13_Set_meets : FuncId := 36
abbrev F_slices_Collect_api_Write : FuncId := 37
abbrev F_slices_SortFunc_api_Write_api_Write : FuncId := 38
abbrev F_maps_Values_map_api_Key_api_Write_api_Key_api_Write_1 : FuncId := 39
abbrev F_cmp_isNaN_string : FuncId := 40
abbrev F_slices_AppendSeq_api_Write_api_Write : FuncId := 41
abbrev F_slices_pdqsortCmpFunc_api_Write : FuncId := 42
abbrev F_math_bits_Len : FuncId := 43
abbrev F_slices_insertionSortCmpFunc_api_Write : FuncId := 44
abbrev F_slices_heapSortCmpFunc_api_Write : FuncId := 45
abbrev F_slices_breakPatternsCmpFunc_api_Write : FuncId := 46
abbrev F_slices_choosePivotCmpFunc_api_Write : FuncId := 47
abbrev F_slices_reverseRangeCmpFunc_api_Write : FuncId := 48
abbrev F_slices_partialInsertionSortCmpFunc_api_Write : FuncId := 49
abbrev F_slices_partitionEqualCmpFunc_api_Write : FuncId := 50
abbrev F_slices_partitionCmpFunc_api_Write : FuncId := 51
abbrev F_math_bits_Len32 : FuncId := 52
abbrev F_math_bits_Len64 : FuncId := 53
abbrev F_slices_siftDownCmpFunc_api_Write : FuncId := 54
abbrev F_slices_nextPowerOfTwo : FuncId := 55
abbrev F_slices_xorshift_Next : FuncId := 56
abbrev F_slices_medianAdjacentCmpFunc_api_Write : FuncId := 57
abbrev F_slices_medianCmpFunc_api_Write : FuncId := 58
abbrev F_slices_order2CmpFunc_api_Write : FuncId := 59
theorem C_ : PP.cellsOf T_ = 1 := by kernel_rfl
theorem C_int : PP.cellsOf T_int = 1 := by kernel_rfl
theorem U_int : PP.underlying T_int = some (.int .i64) := by kernel_rfl
theorem C_bool : PP.cellsOf T_bool = 1 := by kernel_rfl
theorem U_bool : PP.underlying T_bool = some .bool := by kernel_rfl
theorem C_string : PP.cellsOf T_string = 1 := by kernel_rfl
theorem U_string : PP.underlying T_string = some .string := by kernel_rfl
theorem C_sl_api_Key : PP.cellsOf T_sl_api_Key = 1 := by kernel_rfl
theorem E_sl_api_Key : Elem PP T_sl_api_Key T_api_Key 3 48 (.agg #[(.string (⟨#[]⟩ : ByteArray)), (.string (⟨#[]⟩ : ByteArray)), (.string (⟨#[]⟩ : ByteArray))]) := Elem.of (by kernel_rfl) (by kernel_rfl)
theorem U_sl_api_Key : PP.underlying T_sl_api_Key = some (.slice T_api_Key) := by kernel_rfl
theorem C_sl_api_Box : PP.cellsOf T_sl_api_Box = 1 := by kernel_rfl
theorem E_sl_api_Box : Elem PP T_sl_api_Box T_api_Box 2 32 (.agg #[(.string (⟨#[]⟩ : ByteArray)), (.string (⟨#[]⟩ : ByteArray))]) := Elem.of (by kernel_rfl) (by kernel_rfl)
theorem U_sl_api_Box : PP.underlying T_sl_api_Box = some (.slice T_api_Box) := by kernel_rfl
theorem C_sl_api_Write : PP.cellsOf T_sl_api_Write = 1 := by kernel_rfl
theorem E_sl_api_Write : Elem PP T_sl_api_Write T_api_Write 5 72 (.agg #[(.string (⟨#[]⟩ : ByteArray)), (.string (⟨#[]⟩ : ByteArray)), (.string (⟨#[]⟩ : ByteArray)), (.bool false), (.string (⟨#[]⟩ : ByteArray))]) := Elem.of (by kernel_rfl) (by kernel_rfl)
theorem U_sl_api_Write : PP.underlying T_sl_api_Write = some (.slice T_api_Write) := by kernel_rfl
theorem FL_struct_At_int_Writes_sl_api_Write : fieldsOf PP T_struct_At_int_Writes_sl_api_Write = [(T_int, 0, 1), (T_sl_api_Write, 1, 1)] := by kernel_rfl
theorem C_struct_At_int_Writes_sl_api_Write : PP.cellsOf T_struct_At_int_Writes_sl_api_Write = 2 := by kernel_rfl
theorem FL_api_Commit : fieldsOf PP T_api_Commit = [(T_int, 0, 1), (T_sl_api_Write, 1, 1)] := by kernel_rfl
theorem C_api_Commit : PP.cellsOf T_api_Commit = 2 := by kernel_rfl
theorem C_p_valid_Set : PP.cellsOf T_p_valid_Set = 1 := by kernel_rfl
theorem FL_struct_Tenant_string_Archive_string_Entry_string : fieldsOf PP T_struct_Tenant_string_Archive_string_Entry_string = [(T_string, 0, 1), (T_string, 1, 1), (T_string, 2, 1)] := by kernel_rfl
theorem C_struct_Tenant_string_Archive_string_Entry_string : PP.cellsOf T_struct_Tenant_string_Archive_string_Entry_string = 3 := by kernel_rfl
theorem FL_api_Key : fieldsOf PP T_api_Key = [(T_string, 0, 1), (T_string, 1, 1), (T_string, 2, 1)] := by kernel_rfl
theorem C_api_Key : PP.cellsOf T_api_Key = 3 := by kernel_rfl
theorem FL_struct_Tenant_string_Archive_string : fieldsOf PP T_struct_Tenant_string_Archive_string = [(T_string, 0, 1), (T_string, 1, 1)] := by kernel_rfl
theorem C_struct_Tenant_string_Archive_string : PP.cellsOf T_struct_Tenant_string_Archive_string = 2 := by kernel_rfl
theorem FL_api_Box : fieldsOf PP T_api_Box = [(T_string, 0, 1), (T_string, 1, 1)] := by kernel_rfl
theorem C_api_Box : PP.cellsOf T_api_Box = 2 := by kernel_rfl
theorem FL_struct_Key_api_Key_There_bool_Data_string : fieldsOf PP T_struct_Key_api_Key_There_bool_Data_string = [(T_api_Key, 0, 3), (T_bool, 3, 1), (T_string, 4, 1)] := by kernel_rfl
theorem C_struct_Key_api_Key_There_bool_Data_string : PP.cellsOf T_struct_Key_api_Key_There_bool_Data_string = 5 := by kernel_rfl
theorem FL_api_Write : fieldsOf PP T_api_Write = [(T_api_Key, 0, 3), (T_bool, 3, 1), (T_string, 4, 1)] := by kernel_rfl
theorem C_api_Write : PP.cellsOf T_api_Write = 5 := by kernel_rfl
theorem C_sl_haversacklaw13_Op : PP.cellsOf T_sl_haversacklaw13_Op = 1 := by kernel_rfl
theorem E_sl_haversacklaw13_Op : Elem PP T_sl_haversacklaw13_Op T_haversacklaw13_Op 8 128 (.agg #[(.int .i64 0), (.string (⟨#[]⟩ : ByteArray)), (.string (⟨#[]⟩ : ByteArray)), (.string (⟨#[]⟩ : ByteArray)), (.string (⟨#[]⟩ : ByteArray)), (.string (⟨#[]⟩ : ByteArray)), (.string (⟨#[]⟩ : ByteArray)), (.slice none 0 0)]) := Elem.of (by kernel_rfl) (by kernel_rfl)
theorem U_sl_haversacklaw13_Op : PP.underlying T_sl_haversacklaw13_Op = some (.slice T_haversacklaw13_Op) := by kernel_rfl
theorem C_sl_api_Commit : PP.cellsOf T_sl_api_Commit = 1 := by kernel_rfl
theorem E_sl_api_Commit : Elem PP T_sl_api_Commit T_api_Commit 2 32 (.agg #[(.int .i64 0), (.slice none 0 0)]) := Elem.of (by kernel_rfl) (by kernel_rfl)
theorem U_sl_api_Commit : PP.underlying T_sl_api_Commit = some (.slice T_api_Commit) := by kernel_rfl
theorem FL_struct_Kind_int_Key_api_Key_Box_api_Box_Data_string_Commits_ : fieldsOf PP T_struct_Kind_int_Key_api_Key_Box_api_Box_Data_string_Commits_ = [(T_int, 0, 1), (T_api_Key, 1, 3), (T_api_Box, 4, 2), (T_string, 6, 1), (T_sl_api_Commit, 7, 1)] := by kernel_rfl
theorem C_struct_Kind_int_Key_api_Key_Box_api_Box_Data_string_Commits_ : PP.cellsOf T_struct_Kind_int_Key_api_Key_Box_api_Box_Data_string_Commits_ = 8 := by kernel_rfl
theorem FL_haversacklaw13_Op : fieldsOf PP T_haversacklaw13_Op = [(T_int, 0, 1), (T_api_Key, 1, 3), (T_api_Box, 4, 2), (T_string, 6, 1), (T_sl_api_Commit, 7, 1)] := by kernel_rfl
theorem C_haversacklaw13_Op : PP.cellsOf T_haversacklaw13_Op = 8 := by kernel_rfl
theorem C_p_haversackref13_Set : PP.cellsOf T_p_haversackref13_Set = 1 := by kernel_rfl
theorem FL_struct_At_int_Reads_sl_api_Key_Lists_sl_api_Box_Staged_sl_ap : fieldsOf PP T_struct_At_int_Reads_sl_api_Key_Lists_sl_api_Box_Staged_sl_ap = [(T_int, 0, 1), (T_sl_api_Key, 1, 1), (T_sl_api_Box, 2, 1), (T_sl_api_Write, 3, 1)] := by kernel_rfl
theorem C_struct_At_int_Reads_sl_api_Key_Lists_sl_api_Box_Staged_sl_ap : PP.cellsOf T_struct_At_int_Reads_sl_api_Key_Lists_sl_api_Box_Staged_sl_ap = 4 := by kernel_rfl
theorem FL_haversackref13_Set : fieldsOf PP T_haversackref13_Set = [(T_int, 0, 1), (T_sl_api_Key, 1, 1), (T_sl_api_Box, 2, 1), (T_sl_api_Write, 3, 1)] := by kernel_rfl
theorem C_haversackref13_Set : PP.cellsOf T_haversackref13_Set = 4 := by kernel_rfl
theorem C_map_api_Key_bool : PP.cellsOf T_map_api_Key_bool = 1 := by kernel_rfl
theorem U_map_api_Key_bool : PP.underlying T_map_api_Key_bool = some (.map T_api_Key T_bool) := by kernel_rfl
theorem C_map_api_Box_bool : PP.cellsOf T_map_api_Box_bool = 1 := by kernel_rfl
theorem U_map_api_Box_bool : PP.underlying T_map_api_Box_bool = some (.map T_api_Box T_bool) := by kernel_rfl
theorem C_map_api_Key_api_Write : PP.cellsOf T_map_api_Key_api_Write = 1 := by kernel_rfl
theorem U_map_api_Key_api_Write : PP.underlying T_map_api_Key_api_Write = some (.map T_api_Key T_api_Write) := by kernel_rfl
theorem FL_struct_at_int_reads_map_api_Key_bool_lists_map_api_Box_bool_ : fieldsOf PP T_struct_at_int_reads_map_api_Key_bool_lists_map_api_Box_bool_ = [(T_int, 0, 1), (T_map_api_Key_bool, 1, 1), (T_map_api_Box_bool, 2, 1), (T_map_api_Key_api_Write, 3, 1)] := by kernel_rfl
theorem C_struct_at_int_reads_map_api_Key_bool_lists_map_api_Box_bool_ : PP.cellsOf T_struct_at_int_reads_map_api_Key_bool_lists_map_api_Box_bool_ = 4 := by kernel_rfl
theorem FL_valid_Set : fieldsOf PP T_valid_Set = [(T_int, 0, 1), (T_map_api_Key_bool, 1, 1), (T_map_api_Box_bool, 2, 1), (T_map_api_Key_api_Write, 3, 1)] := by kernel_rfl
theorem C_valid_Set : PP.cellsOf T_valid_Set = 4 := by kernel_rfl
theorem C_sl_int : PP.cellsOf T_sl_int = 1 := by kernel_rfl
theorem E_sl_int : Elem PP T_sl_int T_int 1 8 (.int .i64 0) := Elem.of (by kernel_rfl) (by kernel_rfl)
theorem U_sl_int : PP.underlying T_sl_int = some (.slice T_int) := by kernel_rfl
theorem C_uint64 : PP.cellsOf T_uint64 = 1 := by kernel_rfl
theorem U_uint64 : PP.underlying T_uint64 = some (.int .u64) := by kernel_rfl
theorem C_slices_xorshift : PP.cellsOf T_slices_xorshift = 1 := by kernel_rfl
theorem U_slices_xorshift : PP.underlying T_slices_xorshift = some (.int .u64) := by kernel_rfl
/-! ### haversack/haversacklaw13.ValidMore: function 3 -/
namespace law13_ValidMore
def ann : Ann := (.seq 135 (.region [(List.range 2, 135)]) (.seq 135 (.seq 268435591 (.region [(List.range 14, 268435591)]) (.join (.cond (.seq 256 (.region [(List.range 1, 256)]) (.exit 256)) .leaf))) (.seq 647 (.region [(List.range 3, 647)]) (.seq 647 (.seq 4294967943 (.region [(List.range 2, 4294967943)]) (.cond (.seq 256 (.region [(List.range 1, 256)]) (.exit 256)) .leaf)) (.seq 1671 (.region [(List.range 4, 1671)]) (.seq 1671 (.seq 68719478407 (.region [(List.range 1, 68719478407)]) (.cond (.seq 256 (.region [(List.range 1, 256)]) (.exit 256)) .leaf)) (.seq 1669 (.seq 3719 (.region [(List.range 1, 3719)]) (.block (.loop 3719 (.seq 3719 (.seq 1099511631495 (.region [(List.range 4, 1099511631495)]) (.cond .leaf (.exit 1669))) (.seq 3719 (.block (.seq 3719 (.region [(List.range 6, 3719)]) (.seq 7815 (.region [(List.range 4, 7815)]) (.seq 6791 (.seq 72057594037934727 (.region [(List.range 5, 72057594037934727)]) (.join (.cond (.seq 256 (.region [(List.range 1, 256)]) (.exit 256)) .leaf))) (.region [(List.range 2, 3719)]))))) (.region [(List.range 3, 3719)])))))) (.seq 1153 (.seq 9861 (.region [(List.range 1, 9861)]) (.block (.loop 9861 (.seq 9861 (.seq 2305843009213703813 (.region [(List.range 4, 2305843009213703813)]) (.cond .leaf (.exit 1153))) (.seq 9861 (.block (.seq 9861 (.region [(List.range 6, 9861)]) (.seq 26245 (.region [(List.range 4, 26245)]) (.seq 25221 (.seq 151115727451828646863493 (.region [(List.range 5, 151115727451828646863493)]) (.join (.cond (.seq 256 (.region [(List.range 1, 256)]) (.exit 256)) .leaf))) (.region [(List.range 2, 9861)]))))) (.region [(List.range 3, 9861)])))))) (.seq 256 (.region [(List.range 12, 256)]) (.exit 256))))))))))
noncomputable abbrev cd (n : Nat) : Code := sub (bodyOf Try.f3) (pth n)
abbrev an (n : Nat) : Ann := subA ann (pth n)
@[irreducible] def X0 (at0 : Int) (boxes2 : OA) (boxes2n boxes2c : Nat) (c7 : Addr) (s9 : OA) (was10 : Bool) : Fr := (mkFr 0 90 [(0, (.int .i64 at0)), (2, (.slice boxes2 boxes2n boxes2c)), (7, (.pointer (some c7))), (9, (.pointer s9)), (10, (.bool was10))])
@[irreducible] def Xret (t8 : Bool) : Fr := (mkFr 0 90 [(8, (.bool t8))])
@[irreducible] def X2 (at0 : Int) (c7 : Addr) (was10 : Bool) : Fr := (mkFr 0 90 [(0, (.int .i64 at0)), (7, (.pointer (some c7))), (10, (.bool was10))])
@[irreducible] def K1 (Q : VP) : EP := seqK (fun fr h => ev PP true none (cd 7) (an 7) (fr.mask 135) (bodyK PP Try.f3 Q) h) (bodyK PP Try.f3 Q)
@[irreducible] def J1 (at0 : Int) (keys1 : OA) (keys1n keys1c : Nat) (boxes2 : OA) (boxes2n boxes2c : Nat) (c7 : Addr) (t28 : Bool) (Q : VP) (h : Heap) : Prop := Jn PP true (cd 13) (mkFr 0 90 [(0, (.int .i64 at0)), (1, (.slice keys1 keys1n keys1c)), (2, (.slice boxes2 boxes2n boxes2c)), (7, (.pointer (some c7))), (28, (.bool t28))]) (K1 Q) h
@[irreducible] def K3 (Q : VP) : EP := seqK (fun fr h => ev PP true none (cd 255) (an 255) (fr.mask 1669) (bodyK PP Try.f3 Q) h) (bodyK PP Try.f3 Q)
@[irreducible] def K2 (Q : VP) : EP := blockK 0 (K3 Q)
@[irreducible] def L1 (at0 : Int) (keys1 : OA) (keys1n keys1c : Nat) (boxes2 : OA) (boxes2n boxes2c : Nat) (c7 : Addr) (s9 : OA) (was10 : Bool) (i11 : Int) (K : EP) (h : Heap) : Prop := Lp PP true (cd 2036) (mkFr 0 90 [(0, (.int .i64 at0)), (1, (.slice keys1 keys1n keys1c)), (2, (.slice boxes2 boxes2n boxes2c)), (7, (.pointer (some c7))), (9, (.pointer s9)), (10, (.bool was10)), (11, (.int .i64 i11))]) K h
@[irreducible] def B1 (K : EP) : EP := seqK (fun fr h => Lp PP true (cd 2036) (fr.mask 3719) K h) K
@[irreducible] def K9 (K : EP) : EP := seqK (fun fr h => ev PP true none (cd 8147) (an 8147) (fr.mask 3719) (B1 K) h) (B1 K)
@[irreducible] def K7 (K : EP) : EP := blockK 1 (K9 K)
@[irreducible] def K5 (K : EP) : EP := seqK (fun fr h => ev PP true none (cd 130343) (an 130343) (fr.mask 6791) (K7 K) h) (K7 K)
@[irreducible] def J2 (at0 : Int) (keys1 : OA) (keys1n keys1c : Nat) (boxes2 : OA) (boxes2n boxes2c : Nat) (c7 : Addr) (s9 : OA) (i11 : Int) (is12 t56 : Bool) (K : EP) (h : Heap) : Prop := Jn PP true (cd 260685) (mkFr 0 90 [(0, (.int .i64 at0)), (1, (.slice keys1 keys1n keys1c)), (2, (.slice boxes2 boxes2n boxes2c)), (7, (.pointer (some c7))), (9, (.pointer s9)), (11, (.int .i64 i11)), (12, (.bool is12)), (56, (.bool t56))]) (K5 K) h
@[irreducible] def K6 (Q : VP) : EP := seqK (fun fr h => ev PP true none (cd 511) (an 511) (fr.mask 1153) (bodyK PP Try.f3 Q) h) (bodyK PP Try.f3 Q)
@[irreducible] def K4 (Q : VP) : EP := blockK 2 (K6 Q)
@[irreducible] def L2 (at0 : Int) (boxes2 : OA) (boxes2n boxes2c : Nat) (c7 : Addr) (s9 : OA) (was10 : Bool) (i13 : Int) (K : EP) (h : Heap) : Prop := Lp PP true (cd 4084) (mkFr 0 90 [(0, (.int .i64 at0)), (2, (.slice boxes2 boxes2n boxes2c)), (7, (.pointer (some c7))), (9, (.pointer s9)), (10, (.bool was10)), (13, (.int .i64 i13))]) K h
@[irreducible] def B2 (K : EP) : EP := seqK (fun fr h => Lp PP true (cd 4084) (fr.mask 9861) K h) K
@[irreducible] def K11 (K : EP) : EP := seqK (fun fr h => ev PP true none (cd 16339) (an 16339) (fr.mask 9861) (B2 K) h) (B2 K)
@[irreducible] def K10 (K : EP) : EP := blockK 3 (K11 K)
@[irreducible] def K8 (K : EP) : EP := seqK (fun fr h => ev PP true none (cd 261415) (an 261415) (fr.mask 25221) (K10 K) h) (K10 K)
@[irreducible] def J3 (at0 : Int) (boxes2 : OA) (boxes2n boxes2c : Nat) (c7 : Addr) (s9 : OA) (i13 : Int) (is14 t77 : Bool) (K : EP) (h : Heap) : Prop := Jn PP true (cd 522829) (mkFr 0 90 [(0, (.int .i64 at0)), (2, (.slice boxes2 boxes2n boxes2c)), (7, (.pointer (some c7))), (9, (.pointer s9)), (13, (.int .i64 i13)), (14, (.bool is14)), (77, (.bool t77))]) (K8 K) h
theorem J1_of {at0 : Int} {keys1 : OA} {keys1n keys1c : Nat} {boxes2 : OA} {boxes2n boxes2c : Nat} {c7 : Addr} {t28 : Bool} {Q : VP} {h : Heap} (H :
 br t28 (
 Q (.bool true) h) (
 SpecH PP F_valid_New [(.int .i64 at0)] h (fun v h1 => ∃ (t30 : OA), v = (.pointer t30) ∧
 let t32 : Bool := (Option.isNone t30)
 br t32 (
 Q (.bool false) h1) (
 ∃ (t34f0 : Int) (t34f1 : OA) (t34f1n t34f1c : Nat), rdCells h1 c7 0 [(.int .i64 t34f0), (.slice t34f1 t34f1n t34f1c)] ∧
 SpecH PP F_valid_Set_Clash [(.pointer t30), (.agg #[(.int .i64 t34f0), (.slice t34f1 t34f1n t34f1c)])] h1 (fun v_1 h2 => ∃ (t35 : Bool), v_1 = (.bool t35) ∧
 br t35 (
 Q (.bool false) h2) (
 L1 at0 keys1 keys1n keys1c boxes2 boxes2n boxes2c c7 t30 t35 0 (K2 Q) h2)))))) : J1 at0 keys1 keys1n keys1c boxes2 boxes2n boxes2c c7 t28 Q h := by unfold J1; exact Jn.of_txt (an 13) (by kernel_rfl) H
theorem L1_of {at0 : Int} {keys1 : OA} {keys1n keys1c : Nat} {boxes2 : OA} {boxes2n boxes2c : Nat} {c7 : Addr} {s9 : OA} {was10 : Bool} {i11 : Int} {K : EP} {h : Heap} (H :
 let t40 : Bool := decide (i11 < (keys1n : Int))
 br t40 (
 hwp PP (Instr.indexAt T_sl_api_Key (.slice keys1 keys1n keys1c) (.int .i64 i11)) (fun v h1 => ∃ (t46 : Addr), v = (.pointer (some t46)) ∧
 ∃ (t47f0 t47f1 t47f2 : ByteArray), rdCells h1 t46 0 [(.string t47f0), (.string t47f1), (.string t47f2)] ∧
 SpecH PP F_valid_Set_Read [(.pointer s9), (.agg #[(.string t47f0), (.string t47f1), (.string t47f2)])] h1 (fun v_1 h2 => v_1 = (.tuple #[]) ∧
 ∃ (t50f0 : Int) (t50f1 : OA) (t50f1n t50f1c : Nat), rdCells h2 c7 0 [(.int .i64 t50f0), (.slice t50f1 t50f1n t50f1c)] ∧
 SpecH PP F_valid_Set_Clash [(.pointer s9), (.agg #[(.int .i64 t50f0), (.slice t50f1 t50f1n t50f1c)])] h2 (fun v_2 h3 => ∃ (t51 : Bool), v_2 = (.bool t51) ∧
 br was10 (
 let t55 : Bool := (!t51)
 J2 at0 keys1 keys1n keys1c boxes2 boxes2n boxes2c c7 s9 i11 t51 t55 K h3) (
 J2 at0 keys1 keys1n keys1c boxes2 boxes2n boxes2c c7 s9 i11 t51 false K h3)))) h) (
 K (.exit 0) (X0 at0 boxes2 boxes2n boxes2c c7 s9 was10) h)) : L1 at0 keys1 keys1n keys1c boxes2 boxes2n boxes2c c7 s9 was10 i11 K h := by unfold L1; exact Lp.of_txt (an 2036) 3719 (by kernel_rfl) H
theorem L1_X0 {Q : VP} {at0 : Int} {boxes2 : OA} {boxes2n boxes2c : Nat} {c7 : Addr} {s9 : OA} {was10 : Bool} {h : Heap} (H :
 L2 at0 boxes2 boxes2n boxes2c c7 s9 was10 0 (K4 Q) h) : (K2 Q) (.exit 0) (X0 at0 boxes2 boxes2n boxes2c c7 s9 was10) h := of_eq_txt (by kernel_rfl) H
theorem J2_of {at0 : Int} {keys1 : OA} {keys1n keys1c : Nat} {boxes2 : OA} {boxes2n boxes2c : Nat} {c7 : Addr} {s9 : OA} {i11 : Int} {is12 t56 : Bool} {K : EP} {h : Heap} (H :
 br t56 (
 K .ret (Xret false) h) (
 let t42 : Int := IntKind.i64.wrap (i11 + 1)
 L1 at0 keys1 keys1n keys1c boxes2 boxes2n boxes2c c7 s9 is12 t42 K h)) : J2 at0 keys1 keys1n keys1c boxes2 boxes2n boxes2c c7 s9 i11 is12 t56 K h := by unfold J2; exact Jn.of_txt (an 260685) (by kernel_rfl) H
theorem L1_Xret {Q : VP} {t8 : Bool} {h : Heap} (H :
 Q (.bool t8) h) : (K2 Q) .ret (Xret t8) h := of_eq_txt (by kernel_rfl) H
theorem L2_of {at0 : Int} {boxes2 : OA} {boxes2n boxes2c : Nat} {c7 : Addr} {s9 : OA} {was10 : Bool} {i13 : Int} {K : EP} {h : Heap} (H :
 let t61 : Bool := decide (i13 < (boxes2n : Int))
 br t61 (
 hwp PP (Instr.indexAt T_sl_api_Box (.slice boxes2 boxes2n boxes2c) (.int .i64 i13)) (fun v h1 => ∃ (t67 : Addr), v = (.pointer (some t67)) ∧
 ∃ (t68f0 t68f1 : ByteArray), rdCells h1 t67 0 [(.string t68f0), (.string t68f1)] ∧
 SpecH PP F_valid_Set_List [(.pointer s9), (.agg #[(.string t68f0), (.string t68f1)])] h1 (fun v_1 h2 => v_1 = (.tuple #[]) ∧
 ∃ (t71f0 : Int) (t71f1 : OA) (t71f1n t71f1c : Nat), rdCells h2 c7 0 [(.int .i64 t71f0), (.slice t71f1 t71f1n t71f1c)] ∧
 SpecH PP F_valid_Set_Clash [(.pointer s9), (.agg #[(.int .i64 t71f0), (.slice t71f1 t71f1n t71f1c)])] h2 (fun v_2 h3 => ∃ (t72 : Bool), v_2 = (.bool t72) ∧
 br was10 (
 let t76 : Bool := (!t72)
 J3 at0 boxes2 boxes2n boxes2c c7 s9 i13 t72 t76 K h3) (
 J3 at0 boxes2 boxes2n boxes2c c7 s9 i13 t72 false K h3)))) h) (
 K (.exit 2) (X2 at0 c7 was10) h)) : L2 at0 boxes2 boxes2n boxes2c c7 s9 was10 i13 K h := by unfold L2; exact Lp.of_txt (an 4084) 9861 (by kernel_rfl) H
theorem L2_Xret {Q : VP} {t8 : Bool} {h : Heap} (H :
 Q (.bool t8) h) : (K4 Q) .ret (Xret t8) h := of_eq_txt (by kernel_rfl) H
theorem J3_of {at0 : Int} {boxes2 : OA} {boxes2n boxes2c : Nat} {c7 : Addr} {s9 : OA} {i13 : Int} {is14 t77 : Bool} {K : EP} {h : Heap} (H :
 br t77 (
 K .ret (Xret false) h) (
 let t63 : Int := IntKind.i64.wrap (i13 + 1)
 L2 at0 boxes2 boxes2n boxes2c c7 s9 is14 t63 K h)) : J3 at0 boxes2 boxes2n boxes2c c7 s9 i13 is14 t77 K h := by unfold J3; exact Jn.of_txt (an 522829) (by kernel_rfl) H
theorem L2_X2 {Q : VP} {at0 : Int} {c7 : Addr} {was10 : Bool} {h : Heap} (H :
 SpecH PP F_law13_awake [] h (fun v h1 => ∃ (t79 : Bool), v = (.bool t79) ∧
 br t79 (
 ∃ (t82 : Int), cellH h1 c7 = some (.int .i64 t82) ∧
 let t84 : Bool := decide (t82 > at0)
 br t84 (
 Q (.bool true) h1) (
 let t87 : Bool := (!was10)
 Q (.bool t87) h1)) (
 Q (.bool false) h1))) : (K4 Q) (.exit 2) (X2 at0 c7 was10) h := of_eq_txt (by kernel_rfl) H
theorem door {at0 : Int} {keys1 : OA} {keys1n keys1c : Nat} {boxes2 : OA} {boxes2n boxes2c : Nat} {c3f0 : Int} {c3f1 : OA} {c3f1n c3f1c : Nat} {Q : VP} {h : Heap} (H :
 let c7 : Addr := ⟨Array.size h, 0, none⟩
 let h1 : Heap := Array.push h (.cells #[(.int .i64 c3f0), (.slice c3f1 c3f1n c3f1c)] T_api_Commit (0, 0))
 let t17 : Bool := decide ((keys1n : Int) > 1000)
 br t17 (
 J1 at0 keys1 keys1n keys1c boxes2 boxes2n boxes2c c7 true Q h1) (
 let t21 : Bool := decide ((boxes2n : Int) > 1000)
 br t21 (
 J1 at0 keys1 keys1n keys1c boxes2 boxes2n boxes2c c7 true Q h1) (
 ∃ (t25 : OA) (t25n t25c : Nat), cellH h1 (Addr.add c7 1) = some (.slice t25 t25n t25c) ∧
 let t27 : Bool := decide ((t25n : Int) > 1000)
 J1 at0 keys1 keys1n keys1c boxes2 boxes2n boxes2c c7 t27 Q h1))) : SpecH PP F_law13_ValidMore [(.int .i64 at0), (.slice keys1 keys1n keys1c), (.slice boxes2 boxes2n boxes2c), (.agg #[(.int .i64 c3f0), (.slice c3f1 c3f1n c3f1c)])] h Q :=
   spec_of_txt (ann := ann) Try.func3 rfl rfl (by kernel_rfl) H
end law13_ValidMore
/-! ### haversack/haversacklaw13.ValidBox: function 4 -/
namespace law13_ValidBox
def ann : Ann := (.seq 49 (.region [(List.range 3, 49)]) (.seq 49 (.seq 8241 (.region [(List.range 2, 8241)]) (.cond (.seq 64 (.region [(List.range 1, 64)]) (.exit 64)) .leaf)) (.seq 177 (.region [(List.range 3, 177)]) (.seq 433 (.region [(List.range 3, 433)]) (.seq 433 (.seq 8389041 (.region [(List.range 6, 8389041)]) (.join (.cond (.seq 64 (.region [(List.range 1, 64)]) (.exit 64)) .leaf))) (.seq 433 (.region [(List.range 7, 433)]) (.seq 433 (.region [(List.range 3, 433)]) (.seq 945 (.region [(List.range 10, 945)]) (.seq 1968 (.region [(List.range 8, 1968)]) (.seq 4016 (.region [(List.range 13, 4016)]) (.join (.seq 64 (.tree (.run [0, 1, 2, 3, 4, 5, 6, 7, 8, 9, 10, 11, 12, 13, 14, 15, 16, 17, 18, 19, 20] (.alt 21 (.run [22, 23, 24, 25, 26, 27] .done) (.alt 22 (.alt 21 (.run [23, 24, 25, 26, 27] .done) (.alt 23 (.run [21, 24, 25, 26, 27] .done) .nil)) (.alt 23 (.alt 21 (.run [22, 24, 25, 26, 27] .done) (.alt 22 (.run [21, 24, 25, 26, 27] .done) .nil)) .nil)))) 64) (.exit 64)))))))))))))
noncomputable abbrev cd (n : Nat) : Code := sub (bodyOf Try.f4) (pth n)
abbrev an (n : Nat) : Ann := subA ann (pth n)
@[irreducible] def K1 (Q : VP) : EP := seqK (fun fr h => ev PP true none (cd 63) (an 63) (fr.mask 433) (bodyK PP Try.f4 Q) h) (bodyK PP Try.f4 Q)
@[irreducible] def J1 (at0 : Int) (k4 other5 : Addr) (one7 two8 : OA) (t23 : Bool) (Q : VP) (h : Heap) : Prop := Jn PP true (cd 125) (mkFr 0 87 [(0, (.int .i64 at0)), (4, (.pointer (some k4))), (5, (.pointer (some other5))), (7, (.pointer one7)), (8, (.pointer two8)), (23, (.bool t23))]) (K1 Q) h
@[irreducible] def J2 (k4 other5 : Addr) (one7 two8 : OA) (c9 d10 : Addr) (alike11 : Bool) (Q : VP) (h : Heap) : Prop := Jn PP true (cd 2047) (mkFr 0 87 [(4, (.pointer (some k4))), (5, (.pointer (some other5))), (7, (.pointer one7)), (8, (.pointer two8)), (9, (.pointer (some c9))), (10, (.pointer (some d10))), (11, (.bool alike11))]) (bodyK PP Try.f4 Q) h
theorem J1_of {at0 : Int} {k4 other5 : Addr} {one7 two8 : OA} {t23 : Bool} {Q : VP} {h : Heap} (H :
 br t23 (
 Q (.bool false) h) (
 ∃ (t26 : ByteArray), cellH h k4 = some (.string t26) ∧
 ∃ (t28 : ByteArray), cellH h (Addr.add k4 1) = some (.string t28) ∧
 SpecH PP F_valid_Set_List [(.pointer one7), (.agg #[(.string t26), (.string t28)])] h (fun v h1 => v = (.tuple #[]) ∧
 ∃ (t32f0 t32f1 t32f2 : ByteArray), rdCells h1 k4 0 [(.string t32f0), (.string t32f1), (.string t32f2)] ∧
 SpecH PP F_valid_Set_Read [(.pointer two8), (.agg #[(.string t32f0), (.string t32f1), (.string t32f2)])] h1 (fun v_1 h2 => v_1 = (.tuple #[]) ∧
 let t35 : Int := IntKind.i64.wrap (at0 + 1)
 ∃ (t36f0 t36f1 t36f2 : ByteArray), rdCells h2 other5 0 [(.string t36f0), (.string t36f1), (.string t36f2)] ∧
 ∃ (t38f0 t38f1 t38f2 : ByteArray), rdCells h2 k4 0 [(.string t38f0), (.string t38f1), (.string t38f2)] ∧
 let h3 : Heap := Array.push h2 (.cells #[(.string t36f0), (.string t36f1), (.string t36f2), (.bool false), (.string (⟨#[]⟩ : ByteArray)), (.string t38f0), (.string t38f1), (.string t38f2), (.bool false), (.string (⟨#[]⟩ : ByteArray))] T_api_Write (0, 0))
 let c9 : Addr := ⟨Array.size h3, 0, none⟩
 let h4 : Heap := Array.push h3 (.cells #[(.int .i64 0), (.slice none 0 0)] T_api_Commit (0, 0))
 wrCells c9 0 [(.int .i64 t35), (.slice (some ⟨Array.size h2, 0, none⟩) 2 2)] (fun h5 =>
 let t43 : Int := IntKind.i64.wrap (at0 + 1)
 ∃ (t44f0 t44f1 t44f2 : ByteArray), rdCells h5 other5 0 [(.string t44f0), (.string t44f1), (.string t44f2)] ∧
 let h6 : Heap := Array.push h5 (.cells #[(.string t44f0), (.string t44f1), (.string t44f2), (.bool false), (.string (⟨#[]⟩ : ByteArray))] T_api_Write (0, 0))
 let d10 : Addr := ⟨Array.size h6, 0, none⟩
 let h7 : Heap := Array.push h6 (.cells #[(.int .i64 0), (.slice none 0 0)] T_api_Commit (0, 0))
 wrCells d10 0 [(.int .i64 t43), (.slice (some ⟨Array.size h5, 0, none⟩) 1 1)] (fun h8 =>
 ∃ (t49 : ByteArray), cellH h8 other5 = some (.string t49) ∧
 ∃ (t51 : ByteArray), cellH h8 k4 = some (.string t51) ∧
 let t52 : Bool := decide (t49 = t51)
 br t52 (
 ∃ (t55 : ByteArray), cellH h8 (Addr.add other5 1) = some (.string t55) ∧
 ∃ (t57 : ByteArray), cellH h8 (Addr.add k4 1) = some (.string t57) ∧
 let t58 : Bool := decide (t55 = t57)
 J2 k4 other5 one7 two8 c9 d10 t58 Q h8) (
 J2 k4 other5 one7 two8 c9 d10 false Q h8)) h7) h4)))) : J1 at0 k4 other5 one7 two8 t23 Q h := by unfold J1; exact Jn.of_txt (an 125) (by kernel_rfl) H
theorem J2_of {k4 other5 : Addr} {one7 two8 : OA} {c9 d10 : Addr} {alike11 : Bool} {Q : VP} {h : Heap} (H :
 SpecH PP F_law13_awake [] h (fun v h1 => ∃ (t60 : Bool), v = (.bool t60) ∧
 br t60 (
 ∃ (t63f0 : Int) (t63f1 : OA) (t63f1n t63f1c : Nat), rdCells h1 c9 0 [(.int .i64 t63f0), (.slice t63f1 t63f1n t63f1c)] ∧
 SpecH PP F_valid_Set_Clash [(.pointer one7), (.agg #[(.int .i64 t63f0), (.slice t63f1 t63f1n t63f1c)])] h1 (fun v_1 h2 => ∃ (t64 : Bool), v_1 = (.bool t64) ∧
 br t64 (
 ∃ (t68f0 : Int) (t68f1 : OA) (t68f1n t68f1c : Nat), rdCells h2 c9 0 [(.int .i64 t68f0), (.slice t68f1 t68f1n t68f1c)] ∧
 SpecH PP F_valid_Set_Clash [(.pointer two8), (.agg #[(.int .i64 t68f0), (.slice t68f1 t68f1n t68f1c)])] h2 (fun v_2 h3 => ∃ (t69 : Bool), v_2 = (.bool t69) ∧
 br t69 (
 ∃ (t73f0 : Int) (t73f1 : OA) (t73f1n t73f1c : Nat), rdCells h3 d10 0 [(.int .i64 t73f0), (.slice t73f1 t73f1n t73f1c)] ∧
 SpecH PP F_valid_Set_Clash [(.pointer one7), (.agg #[(.int .i64 t73f0), (.slice t73f1 t73f1n t73f1c)])] h3 (fun v_3 h4 => ∃ (t74 : Bool), v_3 = (.bool t74) ∧
 let t76 : Bool := (t74 == alike11)
 br t76 (
 ∃ (t80f0 : Int) (t80f1 : OA) (t80f1n t80f1c : Nat), rdCells h4 d10 0 [(.int .i64 t80f0), (.slice t80f1 t80f1n t80f1c)] ∧
 (
 SpecH PP F_valid_Set_Clash [(.pointer two8), (.agg #[(.int .i64 t80f0), (.slice t80f1 t80f1n t80f1c)])] h4 (fun v_8 h9 => ∃ (t81_4 : Bool), v_8 = (.bool t81_4) ∧
 ∃ (t82_3f0 t82_3f1 t82_3f2 : ByteArray), rdCells h9 other5 0 [(.string t82_3f0), (.string t82_3f1), (.string t82_3f2)] ∧
 ∃ (t83_3f0 t83_3f1 t83_3f2 : ByteArray), rdCells h9 k4 0 [(.string t83_3f0), (.string t83_3f1), (.string t83_3f2)] ∧
 let t84_4 : Bool := (decide (t82_3f0 = t83_3f0) && (decide (t82_3f1 = t83_3f1) && (decide (t82_3f2 = t83_3f2) && true)))
 let t85_4 : Bool := (t81_4 == t84_4)
 Q (.bool t85_4) h9)) ∧
 (
 ∃ (t82_2f0 t82_2f1 t82_2f2 : ByteArray), rdCells h4 other5 0 [(.string t82_2f0), (.string t82_2f1), (.string t82_2f2)] ∧
 (
 SpecH PP F_valid_Set_Clash [(.pointer two8), (.agg #[(.int .i64 t80f0), (.slice t80f1 t80f1n t80f1c)])] h4 (fun v_7 h8 => ∃ (t81_3 : Bool), v_7 = (.bool t81_3) ∧
 ∃ (t83_2f0 t83_2f1 t83_2f2 : ByteArray), rdCells h8 k4 0 [(.string t83_2f0), (.string t83_2f1), (.string t83_2f2)] ∧
 let t84_3 : Bool := (decide (t82_2f0 = t83_2f0) && (decide (t82_2f1 = t83_2f1) && (decide (t82_2f2 = t83_2f2) && true)))
 let t85_3 : Bool := (t81_3 == t84_3)
 Q (.bool t85_3) h8)) ∧
 (
 ∃ (t83_1f0 t83_1f1 t83_1f2 : ByteArray), rdCells h4 k4 0 [(.string t83_1f0), (.string t83_1f1), (.string t83_1f2)] ∧
 SpecH PP F_valid_Set_Clash [(.pointer two8), (.agg #[(.int .i64 t80f0), (.slice t80f1 t80f1n t80f1c)])] h4 (fun v_6 h7 => ∃ (t81_2 : Bool), v_6 = (.bool t81_2) ∧
 let t84_2 : Bool := (decide (t82_2f0 = t83_1f0) && (decide (t82_2f1 = t83_1f1) && (decide (t82_2f2 = t83_1f2) && true)))
 let t85_2 : Bool := (t81_2 == t84_2)
 Q (.bool t85_2) h7)) ∧
 True) ∧
 (
 ∃ (t83f0 t83f1 t83f2 : ByteArray), rdCells h4 k4 0 [(.string t83f0), (.string t83f1), (.string t83f2)] ∧
 (
 SpecH PP F_valid_Set_Clash [(.pointer two8), (.agg #[(.int .i64 t80f0), (.slice t80f1 t80f1n t80f1c)])] h4 (fun v_5 h6 => ∃ (t81_1 : Bool), v_5 = (.bool t81_1) ∧
 ∃ (t82_1f0 t82_1f1 t82_1f2 : ByteArray), rdCells h6 other5 0 [(.string t82_1f0), (.string t82_1f1), (.string t82_1f2)] ∧
 let t84_1 : Bool := (decide (t82_1f0 = t83f0) && (decide (t82_1f1 = t83f1) && (decide (t82_1f2 = t83f2) && true)))
 let t85_1 : Bool := (t81_1 == t84_1)
 Q (.bool t85_1) h6)) ∧
 (
 ∃ (t82f0 t82f1 t82f2 : ByteArray), rdCells h4 other5 0 [(.string t82f0), (.string t82f1), (.string t82f2)] ∧
 SpecH PP F_valid_Set_Clash [(.pointer two8), (.agg #[(.int .i64 t80f0), (.slice t80f1 t80f1n t80f1c)])] h4 (fun v_4 h5 => ∃ (t81 : Bool), v_4 = (.bool t81) ∧
 let t84 : Bool := (decide (t82f0 = t83f0) && (decide (t82f1 = t83f1) && (decide (t82f2 = t83f2) && true)))
 let t85 : Bool := (t81 == t84)
 Q (.bool t85) h5)) ∧
 True) ∧
 True) (
 (
 Q (.bool false) h4) ∧
 (
 (
 Q (.bool false) h4) ∧
 (
 Q (.bool false) h4) ∧
 True) ∧
 (
 (
 Q (.bool false) h4) ∧
 (
 Q (.bool false) h4) ∧
 True) ∧
 True))) (
 (
 Q (.bool false) h3) ∧
 (
 (
 Q (.bool false) h3) ∧
 (
 Q (.bool false) h3) ∧
 True) ∧
 (
 (
 Q (.bool false) h3) ∧
 (
 Q (.bool false) h3) ∧
 True) ∧
 True))) (
 (
 Q (.bool false) h2) ∧
 (
 (
 Q (.bool false) h2) ∧
 (
 Q (.bool false) h2) ∧
 True) ∧
 (
 (
 Q (.bool false) h2) ∧
 (
 Q (.bool false) h2) ∧
 True) ∧
 True))) (
 (
 Q (.bool false) h1) ∧
 (
 (
 Q (.bool false) h1) ∧
 (
 Q (.bool false) h1) ∧
 True) ∧
 (
 (
 Q (.bool false) h1) ∧
 (
 Q (.bool false) h1) ∧
 True) ∧
 True))) : J2 k4 other5 one7 two8 c9 d10 alike11 Q h := by unfold J2; exact Jn.of_txt (an 2047) (by kernel_rfl) H
theorem door {at0 : Int} {k1f0 k1f1 k1f2 other2f0 other2f1 other2f2 : ByteArray} {Q : VP} {h : Heap} (H :
 let k4 : Addr := ⟨Array.size h, 0, none⟩
 let h1 : Heap := Array.push h (.cells #[(.string k1f0), (.string k1f1), (.string k1f2)] T_api_Key (0, 0))
 let other5 : Addr := ⟨Array.size h1, 0, none⟩
 let h2 : Heap := Array.push h1 (.cells #[(.string other2f0), (.string other2f1), (.string other2f2)] T_api_Key (0, 0))
 let t13 : Bool := decide (at0 ≥ 4611686018427387904)
 br t13 (
 Q (.bool true) h2) (
 SpecH PP F_valid_New [(.int .i64 at0)] h2 (fun v h3 => ∃ (t15 : OA), v = (.pointer t15) ∧
 SpecH PP F_valid_New [(.int .i64 at0)] h3 (fun v_1 h4 => ∃ (t17 : OA), v_1 = (.pointer t17) ∧
 let t19 : Bool := (Option.isNone t15)
 br t19 (
 J1 at0 k4 other5 t15 t17 true Q h4) (
 let t22 : Bool := (Option.isNone t17)
 J1 at0 k4 other5 t15 t17 t22 Q h4))))) : SpecH PP F_law13_ValidBox [(.int .i64 at0), (.agg #[(.string k1f0), (.string k1f1), (.string k1f2)]), (.agg #[(.string other2f0), (.string other2f1), (.string other2f2)])] h Q :=
   spec_of_txt (ann := ann) Try.func4 rfl rfl (by kernel_rfl) H
end law13_ValidBox
/-! ### haversack/haversacklaw13.ValidRuns: function 5 -/
namespace law13_ValidRuns
def ann : Ann := (.seq 3 (.region [(List.range 1, 3)]) (.seq 3 (.seq 2051 (.region [(List.range 3, 2051)]) (.cond (.seq 16 (.region [(List.range 1, 16)]) (.exit 16)) .leaf)) (.seq 3 (.seq 35 (.region [(List.range 1, 35)]) (.block (.loop 35 (.seq 35 (.seq 32803 (.region [(List.range 4, 32803)]) (.cond .leaf (.exit 3))) (.seq 35 (.block (.seq 16777251 (.region [(List.range 7, 16777251)]) (.cond (.seq 16 (.region [(List.range 1, 16)]) (.exit 16)) .leaf))) (.region [(List.range 3, 35)])))))) (.seq 67 (.region [(List.range 3, 67)]) (.seq 67 (.seq 268435523 (.region [(List.range 2, 268435523)]) (.cond (.seq 16 (.region [(List.range 1, 16)]) (.exit 16)) .leaf)) (.seq 195 (.region [(List.range 4, 195)]) (.seq 192 (.seq 451 (.region [(List.range 1, 451)]) (.block (.loop 451 (.seq 451 (.seq 34359738819 (.region [(List.range 4, 34359738819)]) (.cond .leaf (.exit 192))) (.seq 451 (.block (.seq 2251799813685699 (.region [(List.range 14, 2251799813685699)]) (.join (.cond (.seq 16 (.region [(List.range 1, 16)]) (.exit 16)) .leaf)))) (.region [(List.range 3, 451)])))))) (.seq 16 (.tree (.run [0, 1, 2, 4, 5, 6] (.alt 3 (.run [7, 8, 9, 10] .done) (.alt 7 (.run [3, 8, 9, 10] .done) .nil))) 16) (.exit 16)))))))))
noncomputable abbrev cd (n : Nat) : Code := sub (bodyOf Try.f5) (pth n)
abbrev an (n : Nat) : Ann := subA ann (pth n)
@[irreducible] def Xret (t4 : Bool) : Fr := (mkFr 0 62 [(4, (.bool t4))])
@[irreducible] def X0 (at0 : Int) (script1 : OA) (script1n script1c : Nat) : Fr := (mkFr 0 62 [(0, (.int .i64 at0)), (1, (.slice script1 script1n script1c))])
@[irreducible] def X2 (s6 : OA) (r7 : Addr) : Fr := (mkFr 0 62 [(6, (.pointer s6)), (7, (.pointer (some r7)))])
@[irreducible] def L1 (at0 : Int) (script1 : OA) (script1n script1c : Nat) (i5 : Int) (K : EP) (h : Heap) : Prop := Lp PP true (cd 116) (mkFr 0 62 [(0, (.int .i64 at0)), (1, (.slice script1 script1n script1c)), (5, (.int .i64 i5))]) K h
@[irreducible] def B1 (K : EP) : EP := seqK (fun fr h => Lp PP true (cd 116) (fr.mask 35) K h) K
@[irreducible] def K2 (Q : VP) : EP := seqK (fun fr h => ev PP true none (cd 15) (an 15) (fr.mask 3) (bodyK PP Try.f5 Q) h) (bodyK PP Try.f5 Q)
@[irreducible] def K1 (Q : VP) : EP := blockK 0 (K2 Q)
@[irreducible] def K4 (Q : VP) : EP := seqK (fun fr h => ev PP true none (cd 255) (an 255) (fr.mask 192) (bodyK PP Try.f5 Q) h) (bodyK PP Try.f5 Q)
@[irreducible] def K3 (Q : VP) : EP := blockK 2 (K4 Q)
@[irreducible] def L2 (at0 : Int) (script1 : OA) (script1n script1c : Nat) (s6 : OA) (r7 : Addr) (i8 : Int) (K : EP) (h : Heap) : Prop := Lp PP true (cd 2036) (mkFr 0 62 [(0, (.int .i64 at0)), (1, (.slice script1 script1n script1c)), (6, (.pointer s6)), (7, (.pointer (some r7))), (8, (.int .i64 i8))]) K h
@[irreducible] def B2 (K : EP) : EP := seqK (fun fr h => Lp PP true (cd 2036) (fr.mask 451) K h) K
@[irreducible] def K6 (K : EP) : EP := seqK (fun fr h => ev PP true none (cd 8147) (an 8147) (fr.mask 451) (B2 K) h) (B2 K)
@[irreducible] def K5 (K : EP) : EP := blockK 3 (K6 K)
@[irreducible] def J1 (at0 : Int) (script1 : OA) (script1n script1c : Nat) (s6 : OA) (r7 : Addr) (i8 : Int) (t51 : Bool) (K : EP) (h : Heap) : Prop := Jn PP true (cd 32585) (mkFr 0 62 [(0, (.int .i64 at0)), (1, (.slice script1 script1n script1c)), (6, (.pointer s6)), (7, (.pointer (some r7))), (8, (.int .i64 i8)), (51, (.bool t51))]) (K5 K) h
theorem L1_of {at0 : Int} {script1 : OA} {script1n script1c : Nat} {i5 : Int} {K : EP} {h : Heap} (H :
 let t15 : Bool := decide (i5 < (script1n : Int))
 br t15 (
 hwp PP (Instr.indexAt T_sl_haversacklaw13_Op (.slice script1 script1n script1c) (.int .i64 i5)) (fun v h1 => ∃ (t20 : Addr), v = (.pointer (some t20)) ∧
 ∃ (t22 : OA) (t22n t22c : Nat), cellH h1 (Addr.add t20 7) = some (.slice t22 t22n t22c) ∧
 let t24 : Bool := decide ((t22n : Int) > 1000)
 br t24 (
 K .ret (Xret true) h1) (
 let t17 : Int := IntKind.i64.wrap (i5 + 1)
 L1 at0 script1 script1n script1c t17 K h1)) h) (
 K (.exit 0) (X0 at0 script1 script1n script1c) h)) : L1 at0 script1 script1n script1c i5 K h := by unfold L1; exact Lp.of_txt (an 116) 35 (by kernel_rfl) H
theorem L1_Xret {Q : VP} {t4 : Bool} {h : Heap} (H :
 Q (.bool t4) h) : (K1 Q) .ret (Xret t4) h := of_eq_txt (by kernel_rfl) H
theorem L1_X0 {Q : VP} {at0 : Int} {script1 : OA} {script1n script1c : Nat} {h : Heap} (H :
 SpecH PP F_valid_New [(.int .i64 at0)] h (fun v h1 => ∃ (t26 : OA), v = (.pointer t26) ∧
 let t28 : Bool := (Option.isNone t26)
 br t28 (
 Q (.bool false) h1) (
 let t31 : Addr := ⟨Array.size h1, 0, none⟩
 let h2 : Heap := Array.push h1 (.cells #[(.int .i64 at0), (.slice none 0 0), (.slice none 0 0), (.slice none 0 0)] T_haversackref13_Set (0, 0))
 L2 at0 script1 script1n script1c t26 t31 0 (K3 Q) h2))) : (K1 Q) (.exit 0) (X0 at0 script1 script1n script1c) h := of_eq_txt (by kernel_rfl) H
theorem L2_of {at0 : Int} {script1 : OA} {script1n script1c : Nat} {s6 : OA} {r7 : Addr} {i8 : Int} {K : EP} {h : Heap} (H :
 let t35 : Bool := decide (i8 < (script1n : Int))
 br t35 (
 hwp PP (Instr.indexAt T_sl_haversacklaw13_Op (.slice script1 script1n script1c) (.int .i64 i8)) (fun v h1 => ∃ (t42 : Addr), v = (.pointer (some t42)) ∧
 ∃ (t43f0 : Int) (t43f1 t43f2 t43f3 t43f4 t43f5 t43f6 : ByteArray) (t43f7 : OA) (t43f7n t43f7c : Nat), rdCells h1 t42 0 [(.int .i64 t43f0), (.string t43f1), (.string t43f2), (.string t43f3), (.string t43f4), (.string t43f5), (.string t43f6), (.slice t43f7 t43f7n t43f7c)] ∧
 SpecH PP F_law13_step [(.pointer s6), (.pointer (some r7)), (.agg #[(.int .i64 t43f0), (.string t43f1), (.string t43f2), (.string t43f3), (.string t43f4), (.string t43f5), (.string t43f6), (.slice t43f7 t43f7n t43f7c)])] h1 (fun v_1 h2 => ∃ (t44 : Bool), v_1 = (.bool t44) ∧
 let t45 : Bool := (!t44)
 br t45 (
 J1 at0 script1 script1n script1c s6 r7 i8 true K h2) (
 SpecH PP F_valid_Set_At [(.pointer s6)] h2 (fun v_2 h3 => ∃ (t48 : Int), v_2 = (.int .i64 t48) ∧
 let t50 : Bool := (t48 != at0)
 J1 at0 script1 script1n script1c s6 r7 i8 t50 K h3)))) h) (
 K (.exit 2) (X2 s6 r7) h)) : L2 at0 script1 script1n script1c s6 r7 i8 K h := by unfold L2; exact Lp.of_txt (an 2036) 451 (by kernel_rfl) H
theorem L2_Xret {Q : VP} {t4 : Bool} {h : Heap} (H :
 Q (.bool t4) h) : (K3 Q) .ret (Xret t4) h := of_eq_txt (by kernel_rfl) H
theorem J1_of {at0 : Int} {script1 : OA} {script1n script1c : Nat} {s6 : OA} {r7 : Addr} {i8 : Int} {t51 : Bool} {K : EP} {h : Heap} (H :
 br t51 (
 K .ret (Xret false) h) (
 let t37 : Int := IntKind.i64.wrap (i8 + 1)
 L2 at0 script1 script1n script1c s6 r7 t37 K h)) : J1 at0 script1 script1n script1c s6 r7 i8 t51 K h := by unfold J1; exact Jn.of_txt (an 32585) (by kernel_rfl) H
theorem L2_X2 {Q : VP} {s6 : OA} {r7 : Addr} {h : Heap} (H :
 SpecH PP F_law13_awake [] h (fun v h1 => ∃ (t52 : Bool), v = (.bool t52) ∧
 br t52 (
 (
 SpecH PP F_valid_Set_Writes [(.pointer s6)] h1 (fun v_3 h4 => ∃ (t55_1 : OA) (t55_1n t55_1c : Nat), v_3 = (.slice t55_1 t55_1n t55_1c) ∧
 ∃ (t59_1 : OA) (t59_1n t59_1c : Nat), cellH h4 (Addr.add r7 3) = some (.slice t59_1 t59_1n t59_1c) ∧
 SpecH PP F_keep_Writes [(.slice t55_1 t55_1n t55_1c), (.slice t59_1 t59_1n t59_1c)] h4 (fun v_4 h5 => ∃ (t60_1 : Bool), v_4 = (.bool t60_1) ∧
 Q (.bool t60_1) h5))) ∧
 (
 ∃ (t59 : OA) (t59n t59c : Nat), cellH h1 (Addr.add r7 3) = some (.slice t59 t59n t59c) ∧
 SpecH PP F_valid_Set_Writes [(.pointer s6)] h1 (fun v_1 h2 => ∃ (t55 : OA) (t55n t55c : Nat), v_1 = (.slice t55 t55n t55c) ∧
 SpecH PP F_keep_Writes [(.slice t55 t55n t55c), (.slice t59 t59n t59c)] h2 (fun v_2 h3 => ∃ (t60 : Bool), v_2 = (.bool t60) ∧
 Q (.bool t60) h3))) ∧
 True) (
 (
 Q (.bool false) h1) ∧
 (
 Q (.bool false) h1) ∧
 True))) : (K3 Q) (.exit 2) (X2 s6 r7) h := of_eq_txt (by kernel_rfl) H
theorem door {at0 : Int} {script1 : OA} {script1n script1c : Nat} {Q : VP} {h : Heap} (H :
 let t11 : Bool := decide ((script1n : Int) > 1000)
 br t11 (
 Q (.bool true) h) (
 L1 at0 script1 script1n script1c 0 (K1 Q) h)) : SpecH PP F_law13_ValidRuns [(.int .i64 at0), (.slice script1 script1n script1c)] h Q :=
   spec_of_txt (ann := ann) Try.func5 rfl rfl (by kernel_rfl) H
end law13_ValidRuns
/-! ### haversack/haversacklaw13.ValidNil: function 6 -/
namespace law13_ValidNil
def ann : Ann := (.seq 12 (.region [(List.range 3, 12)]) (.seq 44 (.region [(List.range 1, 44)]) (.seq 44 (.region [(List.range 3, 44)]) (.seq 44 (.region [(List.range 5, 44)]) (.seq 44 (.region [(List.range 3, 44)]) (.seq 44 (.region [(List.range 3, 44)]) (.seq 232 (.region [(List.range 9, 232)]) (.seq 1000 (.region [(List.range 9, 1000)]) (.seq 16 (.region [(List.range 36, 16)]) (.exit 16))))))))))
noncomputable abbrev cd (n : Nat) : Code := sub (bodyOf Try.f6) (pth n)
abbrev an (n : Nat) : Ann := subA ann (pth n)
theorem door {k0f0 k0f1 k0f2 : ByteArray} {c1f0 : Int} {c1f1 : OA} {c1f1n c1f1c : Nat} {Q : VP} {h : Heap} (H :
 let k2 : Addr := ⟨Array.size h, 0, none⟩
 let h1 : Heap := Array.push h (.cells #[(.string k0f0), (.string k0f1), (.string k0f2)] T_api_Key (0, 0))
 let c3 : Addr := ⟨Array.size h1, 0, none⟩
 let h2 : Heap := Array.push h1 (.cells #[(.int .i64 c1f0), (.slice c1f1 c1f1n c1f1c)] T_api_Commit (0, 0))
 ∃ (t11f0 t11f1 t11f2 : ByteArray), rdCells h2 k2 0 [(.string t11f0), (.string t11f1), (.string t11f2)] ∧
 SpecH PP F_valid_Set_Read [(.pointer none), (.agg #[(.string t11f0), (.string t11f1), (.string t11f2)])] h2 (fun v h3 => v = (.tuple #[]) ∧
 ∃ (t15 : ByteArray), cellH h3 k2 = some (.string t15) ∧
 SpecH PP F_valid_Set_List [(.pointer none), (.agg #[(.string t15), (.string (⟨#[]⟩ : ByteArray))])] h3 (fun v_1 h4 => v_1 = (.tuple #[]) ∧
 ∃ (t19f0 t19f1 t19f2 : ByteArray), rdCells h4 k2 0 [(.string t19f0), (.string t19f1), (.string t19f2)] ∧
 SpecH PP F_valid_Set_Put [(.pointer none), (.agg #[(.string t19f0), (.string t19f1), (.string t19f2)]), (.string (⟨#[120]⟩ : ByteArray))] h4 (fun v_2 h5 => v_2 = (.tuple #[]) ∧
 ∃ (t22f0 t22f1 t22f2 : ByteArray), rdCells h5 k2 0 [(.string t22f0), (.string t22f1), (.string t22f2)] ∧
 SpecH PP F_valid_Set_Delete [(.pointer none), (.agg #[(.string t22f0), (.string t22f1), (.string t22f2)])] h5 (fun v_3 h6 => v_3 = (.tuple #[]) ∧
 ∃ (t26f0 t26f1 t26f2 : ByteArray), rdCells h6 k2 0 [(.string t26f0), (.string t26f1), (.string t26f2)] ∧
 SpecH PP F_valid_Set_Own [(.pointer none), (.agg #[(.string t26f0), (.string t26f1), (.string t26f2)])] h6 (fun v_4 h7 => ∃ (t27f0 t27f1 t27f2 : ByteArray) (t27f3 : Bool) (t27f4 : ByteArray) (t27_1 : Bool), v_4 = (.tuple #[(.agg #[(.string t27f0), (.string t27f1), (.string t27f2), (.bool t27f3), (.string t27f4)]), (.bool t27_1)]) ∧
 let w6 : Addr := ⟨Array.size h7, 0, none⟩
 let h8 : Heap := Array.push h7 (.cells #[(.string (⟨#[]⟩ : ByteArray)), (.string (⟨#[]⟩ : ByteArray)), (.string (⟨#[]⟩ : ByteArray)), (.bool false), (.string (⟨#[]⟩ : ByteArray))] T_api_Write (0, 0))
 wrCells w6 0 [(.string t27f0), (.string t27f1), (.string t27f2), (.bool t27f3), (.string t27f4)] (fun h9 =>
 ∃ (t32f0 : Int) (t32f1 : OA) (t32f1n t32f1c : Nat), rdCells h9 c3 0 [(.int .i64 t32f0), (.slice t32f1 t32f1n t32f1c)] ∧
 let h10 : Heap := Array.push h9 (.cells #[(.int .i64 t32f0), (.slice t32f1 t32f1n t32f1c)] T_api_Commit (0, 0))
 SpecH PP F_valid_Set_Check [(.pointer none), (.slice (some ⟨Array.size h9, 0, none⟩) 1 1)] h10 (fun v_5 h11 => ∃ (t34 t34_1 : Int), v_5 = (.tuple #[(.int .i64 t34), (.int .i64 t34_1)]) ∧
 SpecH PP F_law13_awake [] h11 (fun v_6 h12 => ∃ (t37 : Bool), v_6 = (.bool t37) ∧
 br t37 (
 ∃ (t39f0 t39f1 t39f2 : ByteArray) (t39f3 : Bool) (t39f4 : ByteArray), rdCells h12 w6 0 [(.string t39f0), (.string t39f1), (.string t39f2), (.bool t39f3), (.string t39f4)] ∧
 let t41 : Bool := ((decide (t39f0 = (⟨#[]⟩ : ByteArray)) && (decide (t39f1 = (⟨#[]⟩ : ByteArray)) && (decide (t39f2 = (⟨#[]⟩ : ByteArray)) && true))) && ((t39f3 == false) && (decide (t39f4 = (⟨#[]⟩ : ByteArray)) && true)))
 br t41 (
 let t45 : Bool := (!t27_1)
 br t45 (
 SpecH PP F_valid_Set_Writes [(.pointer none)] h12 (fun v_7 h13 => ∃ (t49 : OA) (t49n t49c : Nat), v_7 = (.slice t49 t49n t49c) ∧
 let t51 : Bool := ((t49n : Int) == 0)
 br t51 (
 SpecH PP F_valid_Set_At [(.pointer none)] h13 (fun v_8 h14 => ∃ (t55 : Int), v_8 = (.int .i64 t55) ∧
 let t56 : Bool := (t55 == 0)
 br t56 (
 ∃ (t60f0 : Int) (t60f1 : OA) (t60f1n t60f1c : Nat), rdCells h14 c3 0 [(.int .i64 t60f0), (.slice t60f1 t60f1n t60f1c)] ∧
 SpecH PP F_valid_Set_Clash [(.pointer none), (.agg #[(.int .i64 t60f0), (.slice t60f1 t60f1n t60f1c)])] h14 (fun v_9 h15 => ∃ (t61 : Bool), v_9 = (.bool t61) ∧
 let t62 : Bool := (!t61)
 br t62 (
 let t66 : Bool := (t34 == (-1))
 br t66 (
 let t70 : Bool := (t34_1 == 3)
 Q (.bool t70) h15) (
 Q (.bool false) h15)) (
 Q (.bool false) h15))) (
 Q (.bool false) h14))) (
 Q (.bool false) h13))) (
 Q (.bool false) h12)) (
 Q (.bool false) h12)) (
 Q (.bool false) h12)))) h8)))))) : SpecH PP F_law13_ValidNil [(.agg #[(.string k0f0), (.string k0f1), (.string k0f2)]), (.agg #[(.int .i64 c1f0), (.slice c1f1 c1f1n c1f1c)])] h Q :=
   spec_of_txt (ann := ann) Try.func6 rfl rfl (by kernel_rfl) H
end law13_ValidNil
/-! ### haversack/valid.New: function 7 -/
namespace valid_New
def ann : Ann := (.seq 1 (.region [(List.range 1, 1)]) (.seq 4 (.region [(List.range 7, 4)]) (.exit 4)))
noncomputable abbrev cd (n : Nat) : Code := sub (bodyOf Try.f7) (pth n)
abbrev an (n : Nat) : Ann := subA ann (pth n)
theorem door {at0 : Int} {Q : VP} {h : Heap} (H :
 let h1 : Heap := Array.push h (.map #[] 0)
 let h2 : Heap := Array.push h1 (.map #[] 0)
 let h3 : Heap := Array.push h2 (.map #[] 0)
 let t8 : Addr := ⟨Array.size h3, 0, none⟩
 let h4 : Heap := Array.push h3 (.cells #[(.int .i64 at0), (.map (some (Array.size h))), (.map (some (Array.size h1))), (.map (some (Array.size h2)))] T_valid_Set (0, 0))
 Q (.pointer (some t8)) h4) : SpecH PP F_valid_New [(.int .i64 at0)] h Q :=
   spec_of_txt (ann := ann) Try.func7 rfl rfl (by kernel_rfl) H
end valid_New
/-! ### (*haversack/valid.Set).Clash: function 8 -/
namespace valid_Set_Clash
def ann : Ann := (.seq 12 (.region [(List.range 3, 12)]) (.seq 16 (.region [(List.range 18, 16)]) (.exit 16)))
noncomputable abbrev cd (n : Nat) : Code := sub (bodyOf Try.f8) (pth n)
abbrev an (n : Nat) : Ann := subA ann (pth n)
theorem door {s0 : OA} {c1f0 : Int} {c1f1 : OA} {c1f1n c1f1c : Nat} {Q : VP} {h : Heap} (H :
 let s2 : Addr := ⟨Array.size h, 0, none⟩
 let h1 : Heap := Array.push h (.cells #[(.pointer s0)] T_p_valid_Set (0, 0))
 let c3 : Addr := ⟨Array.size h1, 0, none⟩
 let h2 : Heap := Array.push h1 (.cells #[(.int .i64 c1f0), (.slice c1f1 c1f1n c1f1c)] T_api_Commit (0, 0))
 ∃ (t5 : OA), cellH h2 s2 = some (.pointer t5) ∧
 let t6 : Bool := (!Option.isNone t5)
 br t6 (
 ∃ (t9 : Int), cellH h2 c3 = some (.int .i64 t9) ∧
 ∃ (t10 : OA), cellH h2 s2 = some (.pointer t10) ∧
 nilc t10 (fun t11 =>
 ∃ (t13 : Int), cellH h2 t11 = some (.int .i64 t13) ∧
 let t14 : Bool := decide (t9 > t13)
 br t14 (
 ∃ (t18 : OA) (t18n t18c : Nat), cellH h2 (Addr.add c3 1) = some (.slice t18 t18n t18c) ∧
 SpecH PP F_slices_ContainsFunc_api_Write_api_Write [(.slice t18 t18n t18c), (.func (.func F_valid_Set_Clash_1) #[] #[(.pointer (some s2))])] h2 (fun v h3 => ∃ (t20 : Bool), v = (.bool t20) ∧
 Q (.bool t20) h3)) (
 Q (.bool false) h2))) (
 Q (.bool false) h2)) : SpecH PP F_valid_Set_Clash [(.pointer s0), (.agg #[(.int .i64 c1f0), (.slice c1f1 c1f1n c1f1c)])] h Q :=
   spec_of_txt (ann := ann) Try.func8 rfl rfl (by kernel_rfl) H
end valid_Set_Clash
/-! ### (*haversack/valid.Set).Read: function 9 -/
namespace valid_Set_Read
def ann : Ann := (.seq 9 (.region [(List.range 1, 9)]) (.seq 41 (.region [(List.range 2, 41)]) (.cond (.region [(List.range 6, 0)]) .leaf)))
noncomputable abbrev cd (n : Nat) : Code := sub (bodyOf Try.f9) (pth n)
abbrev an (n : Nat) : Ann := subA ann (pth n)
theorem door {s0 : OA} {k1f0 k1f1 k1f2 : ByteArray} {Q : VP} {h : Heap} (H :
 let k3 : Addr := ⟨Array.size h, 0, none⟩
 let h1 : Heap := Array.push h (.cells #[(.string k1f0), (.string k1f1), (.string k1f2)] T_api_Key (0, 0))
 let t5 : Bool := (!Option.isNone s0)
 br t5 (
 nilc s0 (fun t7 =>
 ∃ (t9 : ON), cellH h1 (Addr.add t7 1) = some (.map t9) ∧
 ∃ (t10f0 t10f1 t10f2 : ByteArray), rdCells h1 k3 0 [(.string t10f0), (.string t10f1), (.string t10f2)] ∧
 hwp PP (Instr.mapUpdate T_map_api_Key_bool (.map t9) (.agg #[(.string t10f0), (.string t10f1), (.string t10f2)]) (.bool true)) (fun _ h2 =>
 Q (.tuple #[]) h2) h1)) (
 Q (.tuple #[]) h1)) : SpecH PP F_valid_Set_Read [(.pointer s0), (.agg #[(.string k1f0), (.string k1f1), (.string k1f2)])] h Q :=
   spec_of_txt (ann := ann) Try.func9 rfl rfl (by kernel_rfl) H
end valid_Set_Read
/-! ### (*haversack/valid.Set).List: function 10 -/
namespace valid_Set_List
def ann : Ann := (.seq 9 (.region [(List.range 1, 9)]) (.seq 41 (.region [(List.range 2, 41)]) (.cond (.region [(List.range 6, 0)]) .leaf)))
noncomputable abbrev cd (n : Nat) : Code := sub (bodyOf Try.f10) (pth n)
abbrev an (n : Nat) : Ann := subA ann (pth n)
theorem door {s0 : OA} {b1f0 b1f1 : ByteArray} {Q : VP} {h : Heap} (H :
 let b3 : Addr := ⟨Array.size h, 0, none⟩
 let h1 : Heap := Array.push h (.cells #[(.string b1f0), (.string b1f1)] T_api_Box (0, 0))
 let t5 : Bool := (!Option.isNone s0)
 br t5 (
 nilc s0 (fun t7 =>
 ∃ (t9 : ON), cellH h1 (Addr.add t7 2) = some (.map t9) ∧
 ∃ (t10f0 t10f1 : ByteArray), rdCells h1 b3 0 [(.string t10f0), (.string t10f1)] ∧
 hwp PP (Instr.mapUpdate T_map_api_Box_bool (.map t9) (.agg #[(.string t10f0), (.string t10f1)]) (.bool true)) (fun _ h2 =>
 Q (.tuple #[]) h2) h1)) (
 Q (.tuple #[]) h1)) : SpecH PP F_valid_Set_List [(.pointer s0), (.agg #[(.string b1f0), (.string b1f1)])] h Q :=
   spec_of_txt (ann := ann) Try.func10 rfl rfl (by kernel_rfl) H
end valid_Set_List
/-! ### haversack/haversacklaw13.awake: function 11 -/
namespace law13_awake
def ann : Ann := (.seq 0 (.region [(List.range 1, 0)]) (.seq 2 (.region [(List.range 2, 2)]) (.seq 2 (.seq 4098 (.region [(List.range 2, 4098)]) (.cond (.seq 1 (.region [(List.range 1, 1)]) (.exit 1)) .leaf)) (.seq 2 (.region [(List.range 3, 2)]) (.seq 2 (.region [(List.range 3, 2)]) (.seq 2 (.region [(List.range 3, 2)]) (.seq 2 (.region [(List.range 3, 2)]) (.seq 2 (.region [(List.range 3, 2)]) (.seq 14 (.region [(List.range 9, 14)]) (.seq 30 (.region [(List.range 3, 30)]) (.seq 126 (.region [(List.range 14, 126)]) (.seq 510 (.region [(List.range 12, 510)]) (.seq 994 (.tree (.run [0, 1] (.alt 2 (.run [3, 4, 5, 6, 7, 8, 9, 10, 11, 12, 13, 14] (.alt 15 (.run [16, 17, 18, 19, 20] .done) (.alt 16 (.run [15, 17, 18, 19, 20] .done) .nil))) (.alt 3 (.run [2, 4, 5, 6, 7, 8, 9, 10, 11, 12, 13, 14] (.alt 15 (.run [16, 17, 18, 19, 20] .done) (.alt 16 (.run [15, 17, 18, 19, 20] .done) .nil))) .nil))) 994) (.join (.seq 1 (.region [(List.range 31, 1)]) (.exit 1))))))))))))))))
noncomputable abbrev cd (n : Nat) : Code := sub (bodyOf Try.f11) (pth n)
abbrev an (n : Nat) : Ann := subA ann (pth n)
@[irreducible] def J1 (s1 : OA) (xn5 e6 m7 f8 : Int) (one9 : Bool) (Q : VP) (h : Heap) : Prop := Jn PP true (cd 16383) (mkFr 0 108 [(1, (.pointer s1)), (5, (.int .i64 xn5)), (6, (.int .i64 e6)), (7, (.int .i64 m7)), (8, (.int .i64 f8)), (9, (.bool one9))]) (bodyK PP Try.f11 Q) h
theorem J1_of {s1 : OA} {xn5 e6 m7 f8 : Int} {one9 : Bool} {Q : VP} {h : Heap} (H :
 br one9 (
 let t81 : Bool := (xn5 == 2)
 br t81 (
 let t85 : Bool := (e6 == 0)
 br t85 (
 let t89 : Bool := (m7 == (-1))
 br t89 (
 let t93 : Bool := (f8 == 130)
 br t93 (
 SpecH PP F_law13_key [(.string (⟨#[97]⟩ : ByteArray)), (.string (⟨#[120]⟩ : ByteArray))] h (fun v h1 => ∃ (t97f0 t97f1 t97f2 : ByteArray), v = (.agg #[(.string t97f0), (.string t97f1), (.string t97f2)]) ∧
 SpecH PP F_law13_commit [(.int .i64 4), (.agg #[(.string t97f0), (.string t97f1), (.string t97f2)])] h1 (fun v_1 h2 => ∃ (t98f0 : Int) (t98f1 : OA) (t98f1n t98f1c : Nat), v_1 = (.agg #[(.int .i64 t98f0), (.slice t98f1 t98f1n t98f1c)]) ∧
 SpecH PP F_valid_Set_Clash [(.pointer s1), (.agg #[(.int .i64 t98f0), (.slice t98f1 t98f1n t98f1c)])] h2 (fun v_2 h3 => ∃ (t99 : Bool), v_2 = (.bool t99) ∧
 br t99 (
 SpecH PP F_law13_key [(.string (⟨#[97]⟩ : ByteArray)), (.string (⟨#[120]⟩ : ByteArray))] h3 (fun v_3 h4 => ∃ (t103f0 t103f1 t103f2 : ByteArray), v_3 = (.agg #[(.string t103f0), (.string t103f1), (.string t103f2)]) ∧
 SpecH PP F_law13_commit [(.int .i64 3), (.agg #[(.string t103f0), (.string t103f1), (.string t103f2)])] h4 (fun v_4 h5 => ∃ (t104f0 : Int) (t104f1 : OA) (t104f1n t104f1c : Nat), v_4 = (.agg #[(.int .i64 t104f0), (.slice t104f1 t104f1n t104f1c)]) ∧
 SpecH PP F_valid_Set_Clash [(.pointer s1), (.agg #[(.int .i64 t104f0), (.slice t104f1 t104f1n t104f1c)])] h5 (fun v_5 h6 => ∃ (t105 : Bool), v_5 = (.bool t105) ∧
 let t106 : Bool := (!t105)
 Q (.bool t106) h6)))) (
 Q (.bool false) h3))))) (
 Q (.bool false) h)) (
 Q (.bool false) h)) (
 Q (.bool false) h)) (
 Q (.bool false) h)) (
 Q (.bool false) h)) : J1 s1 xn5 e6 m7 f8 one9 Q h := by unfold J1; exact Jn.of_txt (an 16383) (by kernel_rfl) H
theorem door  {Q : VP} {h : Heap} (H :
 SpecH PP F_valid_New [(.int .i64 3)] h (fun v h1 => ∃ (t10 : OA), v = (.pointer t10) ∧
 let t12 : Bool := (Option.isNone t10)
 br t12 (
 Q (.bool false) h1) (
 SpecH PP F_law13_key [(.string (⟨#[97]⟩ : ByteArray)), (.string (⟨#[120]⟩ : ByteArray))] h1 (fun v_1 h2 => ∃ (t14f0 t14f1 t14f2 : ByteArray), v_1 = (.agg #[(.string t14f0), (.string t14f1), (.string t14f2)]) ∧
 SpecH PP F_valid_Set_Read [(.pointer t10), (.agg #[(.string t14f0), (.string t14f1), (.string t14f2)])] h2 (fun v_2 h3 => v_2 = (.tuple #[]) ∧
 SpecH PP F_valid_Set_List [(.pointer t10), (.agg #[(.string (⟨#[116]⟩ : ByteArray)), (.string (⟨#[98]⟩ : ByteArray))])] h3 (fun v_3 h4 => v_3 = (.tuple #[]) ∧
 SpecH PP F_law13_key [(.string (⟨#[97]⟩ : ByteArray)), (.string (⟨#[121]⟩ : ByteArray))] h4 (fun v_4 h5 => ∃ (t20f0 t20f1 t20f2 : ByteArray), v_4 = (.agg #[(.string t20f0), (.string t20f1), (.string t20f2)]) ∧
 SpecH PP F_valid_Set_Put [(.pointer t10), (.agg #[(.string t20f0), (.string t20f1), (.string t20f2)]), (.string (⟨#[49]⟩ : ByteArray))] h5 (fun v_5 h6 => v_5 = (.tuple #[]) ∧
 SpecH PP F_law13_key [(.string (⟨#[97]⟩ : ByteArray)), (.string (⟨#[120]⟩ : ByteArray))] h6 (fun v_6 h7 => ∃ (t23f0 t23f1 t23f2 : ByteArray), v_6 = (.agg #[(.string t23f0), (.string t23f1), (.string t23f2)]) ∧
 SpecH PP F_valid_Set_Delete [(.pointer t10), (.agg #[(.string t23f0), (.string t23f1), (.string t23f2)])] h7 (fun v_7 h8 => v_7 = (.tuple #[]) ∧
 SpecH PP F_law13_key [(.string (⟨#[97]⟩ : ByteArray)), (.string (⟨#[121]⟩ : ByteArray))] h8 (fun v_8 h9 => ∃ (t26f0 t26f1 t26f2 : ByteArray), v_8 = (.agg #[(.string t26f0), (.string t26f1), (.string t26f2)]) ∧
 SpecH PP F_valid_Set_Put [(.pointer t10), (.agg #[(.string t26f0), (.string t26f1), (.string t26f2)]), (.string (⟨#[50]⟩ : ByteArray))] h9 (fun v_9 h10 => v_9 = (.tuple #[]) ∧
 SpecH PP F_law13_key [(.string (⟨#[97]⟩ : ByteArray)), (.string (⟨#[121]⟩ : ByteArray))] h10 (fun v_10 h11 => ∃ (t30f0 t30f1 t30f2 : ByteArray), v_10 = (.agg #[(.string t30f0), (.string t30f1), (.string t30f2)]) ∧
 SpecH PP F_valid_Set_Own [(.pointer t10), (.agg #[(.string t30f0), (.string t30f1), (.string t30f2)])] h11 (fun v_11 h12 => ∃ (t31f0 t31f1 t31f2 : ByteArray) (t31f3 : Bool) (t31f4 : ByteArray) (t31_1 : Bool), v_11 = (.tuple #[(.agg #[(.string t31f0), (.string t31f1), (.string t31f2), (.bool t31f3), (.string t31f4)]), (.bool t31_1)]) ∧
 let w2 : Addr := ⟨Array.size h12, 0, none⟩
 let h13 : Heap := Array.push h12 (.cells #[(.string (⟨#[]⟩ : ByteArray)), (.string (⟨#[]⟩ : ByteArray)), (.string (⟨#[]⟩ : ByteArray)), (.bool false), (.string (⟨#[]⟩ : ByteArray))] T_api_Write (0, 0))
 wrCells w2 0 [(.string t31f0), (.string t31f1), (.string t31f2), (.bool t31f3), (.string t31f4)] (fun h14 =>
 SpecH PP F_valid_Set_Writes [(.pointer t10)] h14 (fun v_12 h15 => ∃ (t35 : OA) (t35n t35c : Nat), v_12 = (.slice t35 t35n t35c) ∧
 SpecH PP F_law13_key [(.string (⟨#[97]⟩ : ByteArray)), (.string (⟨#[120]⟩ : ByteArray))] h15 (fun v_13 h16 => ∃ (t38f0 t38f1 t38f2 : ByteArray), v_13 = (.agg #[(.string t38f0), (.string t38f1), (.string t38f2)]) ∧
 SpecH PP F_law13_commit [(.int .i64 3), (.agg #[(.string t38f0), (.string t38f1), (.string t38f2)])] h16 (fun v_14 h17 => ∃ (t39f0 : Int) (t39f1 : OA) (t39f1n t39f1c : Nat), v_14 = (.agg #[(.int .i64 t39f0), (.slice t39f1 t39f1n t39f1c)]) ∧
 SpecH PP F_law13_key [(.string (⟨#[97]⟩ : ByteArray)), (.string (⟨#[113]⟩ : ByteArray))] h17 (fun v_15 h18 => ∃ (t40f0 t40f1 t40f2 : ByteArray), v_15 = (.agg #[(.string t40f0), (.string t40f1), (.string t40f2)]) ∧
 SpecH PP F_law13_commit [(.int .i64 4), (.agg #[(.string t40f0), (.string t40f1), (.string t40f2)])] h18 (fun v_16 h19 => ∃ (t41f0 : Int) (t41f1 : OA) (t41f1n t41f1c : Nat), v_16 = (.agg #[(.int .i64 t41f0), (.slice t41f1 t41f1n t41f1c)]) ∧
 SpecH PP F_law13_key [(.string (⟨#[98]⟩ : ByteArray)), (.string (⟨#[113]⟩ : ByteArray))] h19 (fun v_17 h20 => ∃ (t42f0 t42f1 t42f2 : ByteArray), v_17 = (.agg #[(.string t42f0), (.string t42f1), (.string t42f2)]) ∧
 SpecH PP F_law13_commit [(.int .i64 6), (.agg #[(.string t42f0), (.string t42f1), (.string t42f2)])] h20 (fun v_18 h21 => ∃ (t43f0 : Int) (t43f1 : OA) (t43f1n t43f1c : Nat), v_18 = (.agg #[(.int .i64 t43f0), (.slice t43f1 t43f1n t43f1c)]) ∧
 let h22 : Heap := Array.push h21 (.cells #[(.int .i64 t39f0), (.slice t39f1 t39f1n t39f1c), (.int .i64 t41f0), (.slice t41f1 t41f1n t41f1c), (.int .i64 t43f0), (.slice t43f1 t43f1n t43f1c)] T_api_Commit (0, 0))
 SpecH PP F_valid_Set_Check [(.pointer t10), (.slice (some ⟨Array.size h21, 0, none⟩) 3 3)] h22 (fun v_19 h23 => ∃ (t45 t45_1 : Int), v_19 = (.tuple #[(.int .i64 t45), (.int .i64 t45_1)]) ∧
 SpecH PP F_law13_key [(.string (⟨#[97]⟩ : ByteArray)), (.string (⟨#[113]⟩ : ByteArray))] h23 (fun v_20 h24 => ∃ (t50f0 t50f1 t50f2 : ByteArray), v_20 = (.agg #[(.string t50f0), (.string t50f1), (.string t50f2)]) ∧
 SpecH PP F_law13_commit [(.int .i64 4), (.agg #[(.string t50f0), (.string t50f1), (.string t50f2)])] h24 (fun v_21 h25 => ∃ (t51f0 : Int) (t51f1 : OA) (t51f1n t51f1c : Nat), v_21 = (.agg #[(.int .i64 t51f0), (.slice t51f1 t51f1n t51f1c)]) ∧
 SpecH PP F_law13_key [(.string (⟨#[97]⟩ : ByteArray)), (.string (⟨#[113]⟩ : ByteArray))] h25 (fun v_22 h26 => ∃ (t52f0 t52f1 t52f2 : ByteArray), v_22 = (.agg #[(.string t52f0), (.string t52f1), (.string t52f2)]) ∧
 SpecH PP F_law13_commit [(.int .i64 4), (.agg #[(.string t52f0), (.string t52f1), (.string t52f2)])] h26 (fun v_23 h27 => ∃ (t53f0 : Int) (t53f1 : OA) (t53f1n t53f1c : Nat), v_23 = (.agg #[(.int .i64 t53f0), (.slice t53f1 t53f1n t53f1c)]) ∧
 let h28 : Heap := Array.push h27 (.cells #[(.int .i64 t51f0), (.slice t51f1 t51f1n t51f1c), (.int .i64 t53f0), (.slice t53f1 t53f1n t53f1c)] T_api_Commit (0, 0))
 SpecH PP F_valid_Set_Check [(.pointer t10), (.slice (some ⟨Array.size h27, 0, none⟩) 2 2)] h28 (fun v_24 h29 => ∃ (t55 t55_1 : Int), v_24 = (.tuple #[(.int .i64 t55), (.int .i64 t55_1)]) ∧
 (
 br t31_1 (
 ∃ (t60_1f0 t60_1f1 t60_1f2 : ByteArray) (t60_1f3 : Bool) (t60_1f4 : ByteArray), rdCells h29 w2 0 [(.string t60_1f0), (.string t60_1f1), (.string t60_1f2), (.bool t60_1f3), (.string t60_1f4)] ∧
 SpecH PP F_law13_key [(.string (⟨#[97]⟩ : ByteArray)), (.string (⟨#[121]⟩ : ByteArray))] h29 (fun v_29 h34 => ∃ (t61_1f0 t61_1f1 t61_1f2 : ByteArray), v_29 = (.agg #[(.string t61_1f0), (.string t61_1f1), (.string t61_1f2)]) ∧
 let t63_1 : Bool := ((decide (t60_1f0 = t61_1f0) && (decide (t60_1f1 = t61_1f1) && (decide (t60_1f2 = t61_1f2) && true))) && ((t60_1f3 == true) && (decide (t60_1f4 = (⟨#[50]⟩ : ByteArray)) && true)))
 br t63_1 (
 let t68_1 : Bool := ((t35n : Int) == 2)
 br t68_1 (
 hwp PP (Instr.indexAt T_sl_api_Write (.slice t35 t35n t35c) (.int .i64 0)) (fun v_30 h35 => ∃ (t72_1 : Addr), v_30 = (.pointer (some t72_1)) ∧
 (
 ∃ (t73_3f0 t73_3f1 t73_3f2 : ByteArray) (t73_3f3 : Bool) (t73_3f4 : ByteArray), rdCells h35 t72_1 0 [(.string t73_3f0), (.string t73_3f1), (.string t73_3f2), (.bool t73_3f3), (.string t73_3f4)] ∧
 SpecH PP F_law13_key [(.string (⟨#[97]⟩ : ByteArray)), (.string (⟨#[120]⟩ : ByteArray))] h35 (fun v_32 h37 => ∃ (t74_3f0 t74_3f1 t74_3f2 : ByteArray), v_32 = (.agg #[(.string t74_3f0), (.string t74_3f1), (.string t74_3f2)]) ∧
 let t76_3 : Bool := ((decide (t73_3f0 = t74_3f0) && (decide (t73_3f1 = t74_3f1) && (decide (t73_3f2 = t74_3f2) && true))) && ((t73_3f3 == false) && (decide (t73_3f4 = (⟨#[]⟩ : ByteArray)) && true)))
 J1 t10 t45 t45_1 t55 t55_1 t76_3 Q h37)) ∧
 (
 SpecH PP F_law13_key [(.string (⟨#[97]⟩ : ByteArray)), (.string (⟨#[120]⟩ : ByteArray))] h35 (fun v_31 h36 => ∃ (t74_2f0 t74_2f1 t74_2f2 : ByteArray), v_31 = (.agg #[(.string t74_2f0), (.string t74_2f1), (.string t74_2f2)]) ∧
 ∃ (t73_2f0 t73_2f1 t73_2f2 : ByteArray) (t73_2f3 : Bool) (t73_2f4 : ByteArray), rdCells h36 t72_1 0 [(.string t73_2f0), (.string t73_2f1), (.string t73_2f2), (.bool t73_2f3), (.string t73_2f4)] ∧
 let t76_2 : Bool := ((decide (t73_2f0 = t74_2f0) && (decide (t73_2f1 = t74_2f1) && (decide (t73_2f2 = t74_2f2) && true))) && ((t73_2f3 == false) && (decide (t73_2f4 = (⟨#[]⟩ : ByteArray)) && true)))
 J1 t10 t45 t45_1 t55 t55_1 t76_2 Q h36)) ∧
 True) h34) (
 (
 J1 t10 t45 t45_1 t55 t55_1 false Q h34) ∧
 (
 J1 t10 t45 t45_1 t55 t55_1 false Q h34) ∧
 True)) (
 (
 J1 t10 t45 t45_1 t55 t55_1 false Q h34) ∧
 (
 J1 t10 t45 t45_1 t55 t55_1 false Q h34) ∧
 True))) (
 (
 J1 t10 t45 t45_1 t55 t55_1 false Q h29) ∧
 (
 J1 t10 t45 t45_1 t55 t55_1 false Q h29) ∧
 True)) ∧
 (
 br t31_1 (
 SpecH PP F_law13_key [(.string (⟨#[97]⟩ : ByteArray)), (.string (⟨#[121]⟩ : ByteArray))] h29 (fun v_25 h30 => ∃ (t61f0 t61f1 t61f2 : ByteArray), v_25 = (.agg #[(.string t61f0), (.string t61f1), (.string t61f2)]) ∧
 ∃ (t60f0 t60f1 t60f2 : ByteArray) (t60f3 : Bool) (t60f4 : ByteArray), rdCells h30 w2 0 [(.string t60f0), (.string t60f1), (.string t60f2), (.bool t60f3), (.string t60f4)] ∧
 let t63 : Bool := ((decide (t60f0 = t61f0) && (decide (t60f1 = t61f1) && (decide (t60f2 = t61f2) && true))) && ((t60f3 == true) && (decide (t60f4 = (⟨#[50]⟩ : ByteArray)) && true)))
 br t63 (
 let t68 : Bool := ((t35n : Int) == 2)
 br t68 (
 hwp PP (Instr.indexAt T_sl_api_Write (.slice t35 t35n t35c) (.int .i64 0)) (fun v_26 h31 => ∃ (t72 : Addr), v_26 = (.pointer (some t72)) ∧
 (
 ∃ (t73_1f0 t73_1f1 t73_1f2 : ByteArray) (t73_1f3 : Bool) (t73_1f4 : ByteArray), rdCells h31 t72 0 [(.string t73_1f0), (.string t73_1f1), (.string t73_1f2), (.bool t73_1f3), (.string t73_1f4)] ∧
 SpecH PP F_law13_key [(.string (⟨#[97]⟩ : ByteArray)), (.string (⟨#[120]⟩ : ByteArray))] h31 (fun v_28 h33 => ∃ (t74_1f0 t74_1f1 t74_1f2 : ByteArray), v_28 = (.agg #[(.string t74_1f0), (.string t74_1f1), (.string t74_1f2)]) ∧
 let t76_1 : Bool := ((decide (t73_1f0 = t74_1f0) && (decide (t73_1f1 = t74_1f1) && (decide (t73_1f2 = t74_1f2) && true))) && ((t73_1f3 == false) && (decide (t73_1f4 = (⟨#[]⟩ : ByteArray)) && true)))
 J1 t10 t45 t45_1 t55 t55_1 t76_1 Q h33)) ∧
 (
 SpecH PP F_law13_key [(.string (⟨#[97]⟩ : ByteArray)), (.string (⟨#[120]⟩ : ByteArray))] h31 (fun v_27 h32 => ∃ (t74f0 t74f1 t74f2 : ByteArray), v_27 = (.agg #[(.string t74f0), (.string t74f1), (.string t74f2)]) ∧
 ∃ (t73f0 t73f1 t73f2 : ByteArray) (t73f3 : Bool) (t73f4 : ByteArray), rdCells h32 t72 0 [(.string t73f0), (.string t73f1), (.string t73f2), (.bool t73f3), (.string t73f4)] ∧
 let t76 : Bool := ((decide (t73f0 = t74f0) && (decide (t73f1 = t74f1) && (decide (t73f2 = t74f2) && true))) && ((t73f3 == false) && (decide (t73f4 = (⟨#[]⟩ : ByteArray)) && true)))
 J1 t10 t45 t45_1 t55 t55_1 t76 Q h32)) ∧
 True) h30) (
 (
 J1 t10 t45 t45_1 t55 t55_1 false Q h30) ∧
 (
 J1 t10 t45 t45_1 t55 t55_1 false Q h30) ∧
 True)) (
 (
 J1 t10 t45 t45_1 t55 t55_1 false Q h30) ∧
 (
 J1 t10 t45 t45_1 t55 t55_1 false Q h30) ∧
 True))) (
 (
 J1 t10 t45 t45_1 t55 t55_1 false Q h29) ∧
 (
 J1 t10 t45 t45_1 t55 t55_1 false Q h29) ∧
 True)) ∧
 True)))))))))))))) h13)))))))))))))) : SpecH PP F_law13_awake [] h Q :=
   spec_of_txt (ann := ann) Try.func11 rfl rfl (by kernel_rfl) H
end law13_awake
/-! ### haversack/haversacklaw13.step: function 12 -/
namespace law13_step
def ann : Ann := (.seq 35 (.region [(List.range 2, 35)]) (.seq 0 (.seq 1048611 (.region [(List.range 2, 1048611)]) (.block (.seq 1099512676387 (.region [(List.range 2, 1099512676387)]) (.cond (.seq 34 (.region [(List.range 4, 34)]) (.region [(List.range 12, 0)])) (.seq 144115188076904483 (.region [(List.range 2, 144115188076904483)]) (.cond (.seq 34 (.region [(List.range 4, 34)]) (.region [(List.range 12, 0)])) (.seq 18889465931478581903395 (.region [(List.range 2, 18889465931478581903395)]) (.cond (.seq 34 (.region [(List.range 6, 34)]) (.region [(List.range 7, 0)])) (.seq 618970019642690137450610723 (.region [(List.range 2, 618970019642690137450610723)]) (.cond (.seq 34 (.region [(List.range 4, 34)]) (.region [(List.range 5, 0)])) (.seq 1267650600228229401496704253987 (.region [(List.range 2, 1267650600228229401496704253987)]) (.cond (.seq 418 (.region [(List.range 10, 418)]) (.seq 1920 (.region [(List.range 10, 1920)]) (.seq 64 (.region [(List.range 9, 64)]) (.exit 64)))) (.seq 21267647932558653966460912964485513251 (.region [(List.range 2, 21267647932558653966460912964485513251)]) (.cond (.seq 6179 (.region [(List.range 9, 6179)]) (.seq 30755 (.region [(List.range 9, 30755)]) (.seq 35 (.seq 178405961588244985132285746181186892047843363 (.region [(List.range 8, 178405961588244985132285746181186892047843363)]) (.join (.cond (.seq 64 (.region [(List.range 1, 64)]) (.exit 64)) .leaf))) (.seq 32803 (.region [(List.range 1, 32803)]) (.block (.loop 32803 (.seq 32803 (.seq 5708990770823839524233143877797980545531019299 (.region [(List.range 5, 5708990770823839524233143877797980545531019299)]) (.cond .leaf (.exit 0))) (.seq 32803 (.block (.seq 748288838313422294120286634350736906063837462036515 (.tree (.run [0, 1, 2, 3, 4, 5, 7, 8, 10] (.alt 6 (.run [9, 11, 12, 13, 14] .done) (.alt 9 (.run [11] (.alt 6 (.run [12, 13, 14] .done) (.alt 12 (.run [6, 13, 14] .done) .nil))) .nil))) 748288838313422294120286634350736906063837462036515) (.join (.cond (.seq 64 (.region [(List.range 1, 64)]) (.exit 64)) .leaf)))) (.region [(List.range 3, 32803)]))))))))) (.seq 65538 (.region [(List.range 3, 65538)]) (.seq 196608 (.region [(List.range 7, 196608)]) (.seq 131072 (.seq 458752 (.region [(List.range 1, 458752)]) (.block (.loop 458752 (.seq 458752 (.seq 4295426048 (.region [(List.range 4, 4295426048)]) (.cond .leaf (.exit 131072))) (.seq 458752 (.block (.region [(List.range 5, 458752)])) (.region [(List.range 3, 458752)])))))) (.seq 64 (.region [(List.range 2, 64)]) (.exit 64))))))))))))))))))) (.seq 64 (.region [(List.range 1, 64)]) (.exit 64))))
noncomputable abbrev cd (n : Nat) : Code := sub (bodyOf Try.f12) (pth n)
abbrev an (n : Nat) : Ann := subA ann (pth n)
@[irreducible] def X1 (ok17 : Bool) : Fr := (mkFr 0 170 [(17, (.bool ok17))])
@[irreducible] def X3  : Fr := (mkFr 0 170 [])
@[irreducible] def Xret (t6 : Bool) : Fr := (mkFr 0 170 [(6, (.bool t6))])
@[irreducible] def L1 (xl16 : OA) (xl16n xl16c : Nat) (ok17 : Bool) (i18 : Int) (K : EP) (h : Heap) : Prop := Lp PP true (cd 7077876) (mkFr 0 170 [(16, (.slice xl16 xl16n xl16c)), (17, (.bool ok17)), (18, (.int .i64 i18))]) K h
@[irreducible] def B1 (K : EP) : EP := seqK (fun fr h => Lp PP true (cd 7077876) (fr.mask 458752) K h) K
@[irreducible] def K7 (Q : VP) : EP := seqK (fun fr h => ev PP true none (cd 7) (an 7) (fr.mask 0) (bodyK PP Try.f12 Q) h) (bodyK PP Try.f12 Q)
@[irreducible] def K5 (Q : VP) : EP := blockK 0 (K7 Q)
@[irreducible] def K2 (Q : VP) : EP := seqK (fun fr h => ev PP true none (cd 884727) (an 884727) (fr.mask 35) (K5 Q) h) (K5 Q)
@[irreducible] def J1 (s0 r1 : OA) (o5 : Addr) (t147 : Bool) (Q : VP) (h : Heap) : Prop := Jn PP true (cd 1769453) (mkFr 0 170 [(0, (.pointer s0)), (1, (.pointer r1)), (5, (.pointer (some o5))), (147, (.bool t147))]) (K2 Q) h
@[irreducible] def K4 (Q : VP) : EP := seqK (fun fr h => ev PP true none (cd 884735) (an 884735) (fr.mask 131072) (K5 Q) h) (K5 Q)
@[irreducible] def K1 (Q : VP) : EP := blockK 1 (K4 Q)
@[irreducible] def K3 (Q : VP) : EP := blockK 3 (K5 Q)
@[irreducible] def L2 (s0 r1 : OA) (o5 : Addr) (i15 : Int) (K : EP) (h : Heap) : Prop := Lp PP true (cd 7077820) (mkFr 0 170 [(0, (.pointer s0)), (1, (.pointer r1)), (5, (.pointer (some o5))), (15, (.int .i64 i15))]) K h
@[irreducible] def B2 (K : EP) : EP := seqK (fun fr h => Lp PP true (cd 7077820) (fr.mask 32803) K h) K
@[irreducible] def K8 (K : EP) : EP := seqK (fun fr h => ev PP true none (cd 28311283) (an 28311283) (fr.mask 32803) (B2 K) h) (B2 K)
@[irreducible] def K6 (K : EP) : EP := blockK 4 (K8 K)
@[irreducible] def J2 (s0 r1 : OA) (o5 : Addr) (i15 : Int) (t169 : Bool) (K : EP) (h : Heap) : Prop := Jn PP true (cd 113245129) (mkFr 0 170 [(0, (.pointer s0)), (1, (.pointer r1)), (5, (.pointer (some o5))), (15, (.int .i64 i15)), (169, (.bool t169))]) (K6 K) h
theorem L1_of {xl16 : OA} {xl16n xl16c : Nat} {ok17 : Bool} {i18 : Int} {K : EP} {h : Heap} (H :
 let t32 : Bool := decide (i18 < (xl16n : Int))
 br t32 (
 hwp PP (Instr.indexAt T_sl_api_Write (.slice xl16 xl16n xl16c) (.int .i64 i18)) (fun v h1 => ∃ (t38 : Addr), v = (.pointer (some t38)) ∧
 wrCells t38 0 [(.string (⟨#[]⟩ : ByteArray)), (.string (⟨#[]⟩ : ByteArray)), (.string (⟨#[]⟩ : ByteArray)), (.bool false), (.string (⟨#[103, 111, 110, 101]⟩ : ByteArray))] (fun h2 =>
 let t34 : Int := IntKind.i64.wrap (i18 + 1)
 L1 xl16 xl16n xl16c ok17 t34 K h2) h1) h) (
 K (.exit 1) (X1 ok17) h)) : L1 xl16 xl16n xl16c ok17 i18 K h := by unfold L1; exact Lp.of_txt (an 7077876) 458752 (by kernel_rfl) H
theorem L1_X1 {Q : VP} {ok17 : Bool} {h : Heap} (H :
 Q (.bool ok17) h) : (K1 Q) (.exit 1) (X1 ok17) h := of_eq_txt (by kernel_rfl) H
theorem J1_of {s0 r1 : OA} {o5 : Addr} {t147 : Bool} {Q : VP} {h : Heap} (H :
 br t147 (
 Q (.bool false) h) (
 L2 s0 r1 o5 0 (K3 Q) h)) : J1 s0 r1 o5 t147 Q h := by unfold J1; exact Jn.of_txt (an 1769453) (by kernel_rfl) H
theorem L2_of {s0 r1 : OA} {o5 : Addr} {i15 : Int} {K : EP} {h : Heap} (H :
 ∃ (t150 : OA) (t150n t150c : Nat), cellH h (Addr.add o5 7) = some (.slice t150 t150n t150c) ∧
 let t152 : Bool := decide (i15 < (t150n : Int))
 br t152 (
 ∃ (t157 : OA) (t157n t157c : Nat), cellH h (Addr.add o5 7) = some (.slice t157 t157n t157c) ∧
 hwp PP (Instr.indexAt T_sl_api_Commit (.slice t157 t157n t157c) (.int .i64 i15)) (fun v h1 => ∃ (t159 : Addr), v = (.pointer (some t159)) ∧
 ∃ (t160f0 : Int) (t160f1 : OA) (t160f1n t160f1c : Nat), rdCells h1 t159 0 [(.int .i64 t160f0), (.slice t160f1 t160f1n t160f1c)] ∧
 (
 SpecH PP F_valid_Set_Clash [(.pointer s0), (.agg #[(.int .i64 t160f0), (.slice t160f1 t160f1n t160f1c)])] h1 (fun v_6 h7 => ∃ (t161_2 : Bool), v_6 = (.bool t161_2) ∧
 ∃ (t164_1 : OA) (t164_1n t164_1c : Nat), cellH h7 (Addr.add o5 7) = some (.slice t164_1 t164_1n t164_1c) ∧
 hwp PP (Instr.indexAt T_sl_api_Commit (.slice t164_1 t164_1n t164_1c) (.int .i64 i15)) (fun v_7 h8 => ∃ (t166_1 : Addr), v_7 = (.pointer (some t166_1)) ∧
 ∃ (t167_2f0 : Int) (t167_2f1 : OA) (t167_2f1n t167_2f1c : Nat), rdCells h8 t166_1 0 [(.int .i64 t167_2f0), (.slice t167_2f1 t167_2f1n t167_2f1c)] ∧
 SpecH PP F_ref13_Set_Clash [(.pointer r1), (.agg #[(.int .i64 t167_2f0), (.slice t167_2f1 t167_2f1n t167_2f1c)])] h8 (fun v_8 h9 => ∃ (t168_2 : Bool), v_8 = (.bool t168_2) ∧
 let t169_2 : Bool := (!(t161_2 == t168_2))
 J2 s0 r1 o5 i15 t169_2 K h9)) h7)) ∧
 (
 ∃ (t164 : OA) (t164n t164c : Nat), cellH h1 (Addr.add o5 7) = some (.slice t164 t164n t164c) ∧
 hwp PP (Instr.indexAt T_sl_api_Commit (.slice t164 t164n t164c) (.int .i64 i15)) (fun v_1 h2 => ∃ (t166 : Addr), v_1 = (.pointer (some t166)) ∧
 (
 SpecH PP F_valid_Set_Clash [(.pointer s0), (.agg #[(.int .i64 t160f0), (.slice t160f1 t160f1n t160f1c)])] h2 (fun v_4 h5 => ∃ (t161_1 : Bool), v_4 = (.bool t161_1) ∧
 ∃ (t167_1f0 : Int) (t167_1f1 : OA) (t167_1f1n t167_1f1c : Nat), rdCells h5 t166 0 [(.int .i64 t167_1f0), (.slice t167_1f1 t167_1f1n t167_1f1c)] ∧
 SpecH PP F_ref13_Set_Clash [(.pointer r1), (.agg #[(.int .i64 t167_1f0), (.slice t167_1f1 t167_1f1n t167_1f1c)])] h5 (fun v_5 h6 => ∃ (t168_1 : Bool), v_5 = (.bool t168_1) ∧
 let t169_1 : Bool := (!(t161_1 == t168_1))
 J2 s0 r1 o5 i15 t169_1 K h6))) ∧
 (
 ∃ (t167f0 : Int) (t167f1 : OA) (t167f1n t167f1c : Nat), rdCells h2 t166 0 [(.int .i64 t167f0), (.slice t167f1 t167f1n t167f1c)] ∧
 SpecH PP F_valid_Set_Clash [(.pointer s0), (.agg #[(.int .i64 t160f0), (.slice t160f1 t160f1n t160f1c)])] h2 (fun v_2 h3 => ∃ (t161 : Bool), v_2 = (.bool t161) ∧
 SpecH PP F_ref13_Set_Clash [(.pointer r1), (.agg #[(.int .i64 t167f0), (.slice t167f1 t167f1n t167f1c)])] h3 (fun v_3 h4 => ∃ (t168 : Bool), v_3 = (.bool t168) ∧
 let t169 : Bool := (!(t161 == t168))
 J2 s0 r1 o5 i15 t169 K h4))) ∧
 True) h1) ∧
 True) h) (
 K (.exit 3) (X3) h)) : L2 s0 r1 o5 i15 K h := by unfold L2; exact Lp.of_txt (an 7077820) 32803 (by kernel_rfl) H
theorem L2_X3 {Q : VP}  {h : Heap} (H :
 Q (.bool true) h) : (K3 Q) (.exit 3) (X3 ) h := of_eq_txt (by kernel_rfl) H
theorem J2_of {s0 r1 : OA} {o5 : Addr} {i15 : Int} {t169 : Bool} {K : EP} {h : Heap} (H :
 br t169 (
 K .ret (Xret false) h) (
 let t154 : Int := IntKind.i64.wrap (i15 + 1)
 L2 s0 r1 o5 t154 K h)) : J2 s0 r1 o5 i15 t169 K h := by unfold J2; exact Jn.of_txt (an 113245129) (by kernel_rfl) H
theorem L2_Xret {Q : VP} {t6 : Bool} {h : Heap} (H :
 Q (.bool t6) h) : (K3 Q) .ret (Xret t6) h := of_eq_txt (by kernel_rfl) H
theorem door {s0 r1 : OA} {o2f0 : Int} {o2f1 o2f2 o2f3 o2f4 o2f5 o2f6 : ByteArray} {o2f7 : OA} {o2f7n o2f7c : Nat} {Q : VP} {h : Heap} (H :
 let o5 : Addr := ⟨Array.size h, 0, none⟩
 let h1 : Heap := Array.push h (.cells #[(.int .i64 o2f0), (.string o2f1), (.string o2f2), (.string o2f3), (.string o2f4), (.string o2f5), (.string o2f6), (.slice o2f7 o2f7n o2f7c)] T_haversacklaw13_Op (0, 0))
 ∃ (t20 : Int), cellH h1 o5 = some (.int .i64 t20) ∧
 let t41 : Bool := (t20 == 1)
 br t41 (
 ∃ (t44f0 t44f1 t44f2 : ByteArray), rdCells h1 (Addr.add o5 1) 0 [(.string t44f0), (.string t44f1), (.string t44f2)] ∧
 SpecH PP F_valid_Set_Read [(.pointer s0), (.agg #[(.string t44f0), (.string t44f1), (.string t44f2)])] h1 (fun v h2 => v = (.tuple #[]) ∧
 nilc r1 (fun t48 =>
 ∃ (t50 : OA) (t50n t50c : Nat), cellH h2 (Addr.add t48 1) = some (.slice t50 t50n t50c) ∧
 ∃ (t52f0 t52f1 t52f2 : ByteArray), rdCells h2 (Addr.add o5 1) 0 [(.string t52f0), (.string t52f1), (.string t52f2)] ∧
 let h3 : Heap := Array.push h2 (.cells #[(.string t52f0), (.string t52f1), (.string t52f2)] T_api_Key (0, 0))
 hwp PP (Builtin.append_ #[T_sl_api_Key, T_sl_api_Key] T_sl_api_Key #[(.slice t50 t50n t50c), (.slice (some ⟨Array.size h2, 0, none⟩) 1 1)]) (fun v_1 h4 => ∃ (t54 : OA) (t54n t54c : Nat), v_1 = (.slice t54 t54n t54c) ∧
 nilc r1 (fun t55 =>
 wr (Addr.add t55 1) (.slice t54 t54n t54c) (fun h5 =>
 Q (.bool true) h5) h4)) h3))) (
 let t58 : Bool := (t20 == 2)
 br t58 (
 ∃ (t61f0 t61f1 : ByteArray), rdCells h1 (Addr.add o5 4) 0 [(.string t61f0), (.string t61f1)] ∧
 SpecH PP F_valid_Set_List [(.pointer s0), (.agg #[(.string t61f0), (.string t61f1)])] h1 (fun v_2 h6 => v_2 = (.tuple #[]) ∧
 nilc r1 (fun t65 =>
 ∃ (t67 : OA) (t67n t67c : Nat), cellH h6 (Addr.add t65 2) = some (.slice t67 t67n t67c) ∧
 ∃ (t69f0 t69f1 : ByteArray), rdCells h6 (Addr.add o5 4) 0 [(.string t69f0), (.string t69f1)] ∧
 let h7 : Heap := Array.push h6 (.cells #[(.string t69f0), (.string t69f1)] T_api_Box (0, 0))
 hwp PP (Builtin.append_ #[T_sl_api_Box, T_sl_api_Box] T_sl_api_Box #[(.slice t67 t67n t67c), (.slice (some ⟨Array.size h6, 0, none⟩) 1 1)]) (fun v_3 h8 => ∃ (t71 : OA) (t71n t71c : Nat), v_3 = (.slice t71 t71n t71c) ∧
 nilc r1 (fun t72 =>
 wr (Addr.add t72 2) (.slice t71 t71n t71c) (fun h9 =>
 Q (.bool true) h9) h8)) h7))) (
 let t75 : Bool := (t20 == 3)
 br t75 (
 ∃ (t78f0 t78f1 t78f2 : ByteArray), rdCells h1 (Addr.add o5 1) 0 [(.string t78f0), (.string t78f1), (.string t78f2)] ∧
 ∃ (t80 : ByteArray), cellH h1 (Addr.add o5 6) = some (.string t80) ∧
 SpecH PP F_valid_Set_Put [(.pointer s0), (.agg #[(.string t78f0), (.string t78f1), (.string t78f2)]), (.string t80)] h1 (fun v_4 h10 => v_4 = (.tuple #[]) ∧
 ∃ (t84f0 t84f1 t84f2 : ByteArray), rdCells h10 (Addr.add o5 1) 0 [(.string t84f0), (.string t84f1), (.string t84f2)] ∧
 ∃ (t86 : ByteArray), cellH h10 (Addr.add o5 6) = some (.string t86) ∧
 SpecH PP F_ref13_Set_Stage [(.pointer r1), (.agg #[(.string t84f0), (.string t84f1), (.string t84f2), (.bool true), (.string t86)])] h10 (fun v_5 h11 => v_5 = (.tuple #[]) ∧
 Q (.bool true) h11))) (
 let t90 : Bool := (t20 == 4)
 br t90 (
 ∃ (t93f0 t93f1 t93f2 : ByteArray), rdCells h1 (Addr.add o5 1) 0 [(.string t93f0), (.string t93f1), (.string t93f2)] ∧
 SpecH PP F_valid_Set_Delete [(.pointer s0), (.agg #[(.string t93f0), (.string t93f1), (.string t93f2)])] h1 (fun v_6 h12 => v_6 = (.tuple #[]) ∧
 ∃ (t97f0 t97f1 t97f2 : ByteArray), rdCells h12 (Addr.add o5 1) 0 [(.string t97f0), (.string t97f1), (.string t97f2)] ∧
 SpecH PP F_ref13_Set_Stage [(.pointer r1), (.agg #[(.string t97f0), (.string t97f1), (.string t97f2), (.bool false), (.string (⟨#[]⟩ : ByteArray))])] h12 (fun v_7 h13 => v_7 = (.tuple #[]) ∧
 Q (.bool true) h13))) (
 let t101 : Bool := (t20 == 5)
 br t101 (
 ∃ (t105f0 t105f1 t105f2 : ByteArray), rdCells h1 (Addr.add o5 1) 0 [(.string t105f0), (.string t105f1), (.string t105f2)] ∧
 SpecH PP F_valid_Set_Own [(.pointer s0), (.agg #[(.string t105f0), (.string t105f1), (.string t105f2)])] h1 (fun v_8 h14 => ∃ (t106f0 t106f1 t106f2 : ByteArray) (t106f3 : Bool) (t106f4 : ByteArray) (t106_1 : Bool), v_8 = (.tuple #[(.agg #[(.string t106f0), (.string t106f1), (.string t106f2), (.bool t106f3), (.string t106f4)]), (.bool t106_1)]) ∧
 let w7 : Addr := ⟨Array.size h14, 0, none⟩
 let h15 : Heap := Array.push h14 (.cells #[(.string (⟨#[]⟩ : ByteArray)), (.string (⟨#[]⟩ : ByteArray)), (.string (⟨#[]⟩ : ByteArray)), (.bool false), (.string (⟨#[]⟩ : ByteArray))] T_api_Write (0, 0))
 wrCells w7 0 [(.string t106f0), (.string t106f1), (.string t106f2), (.bool t106f3), (.string t106f4)] (fun h16 =>
 ∃ (t112f0 t112f1 t112f2 : ByteArray), rdCells h16 (Addr.add o5 1) 0 [(.string t112f0), (.string t112f1), (.string t112f2)] ∧
 SpecH PP F_ref13_Set_Own [(.pointer r1), (.agg #[(.string t112f0), (.string t112f1), (.string t112f2)])] h16 (fun v_9 h17 => ∃ (t113f0 t113f1 t113f2 : ByteArray) (t113f3 : Bool) (t113f4 : ByteArray) (t113_1 : Bool), v_9 = (.tuple #[(.agg #[(.string t113f0), (.string t113f1), (.string t113f2), (.bool t113f3), (.string t113f4)]), (.bool t113_1)]) ∧
 let want9 : Addr := ⟨Array.size h17, 0, none⟩
 let h18 : Heap := Array.push h17 (.cells #[(.string (⟨#[]⟩ : ByteArray)), (.string (⟨#[]⟩ : ByteArray)), (.string (⟨#[]⟩ : ByteArray)), (.bool false), (.string (⟨#[]⟩ : ByteArray))] T_api_Write (0, 0))
 wrCells want9 0 [(.string t113f0), (.string t113f1), (.string t113f2), (.bool t113f3), (.string t113f4)] (fun h19 =>
 ∃ (t116f0 t116f1 t116f2 : ByteArray) (t116f3 : Bool) (t116f4 : ByteArray), rdCells h19 w7 0 [(.string t116f0), (.string t116f1), (.string t116f2), (.bool t116f3), (.string t116f4)] ∧
 ∃ (t117f0 t117f1 t117f2 : ByteArray) (t117f3 : Bool) (t117f4 : ByteArray), rdCells h19 want9 0 [(.string t117f0), (.string t117f1), (.string t117f2), (.bool t117f3), (.string t117f4)] ∧
 let t118 : Bool := ((decide (t116f0 = t117f0) && (decide (t116f1 = t117f1) && (decide (t116f2 = t117f2) && true))) && ((t116f3 == t117f3) && (decide (t116f4 = t117f4) && true)))
 br t118 (
 let t122 : Bool := (t106_1 == t113_1)
 Q (.bool t122) h19) (
 Q (.bool false) h19)) h18)) h15)) (
 let t125 : Bool := (t20 == 6)
 br t125 (
 ∃ (t129 : OA) (t129n t129c : Nat), cellH h1 (Addr.add o5 7) = some (.slice t129 t129n t129c) ∧
 SpecH PP F_valid_Set_Check [(.pointer s0), (.slice t129 t129n t129c)] h1 (fun v_10 h20 => ∃ (t130 t130_1 : Int), v_10 = (.tuple #[(.int .i64 t130), (.int .i64 t130_1)]) ∧
 ∃ (t136 : OA) (t136n t136c : Nat), cellH h20 (Addr.add o5 7) = some (.slice t136 t136n t136c) ∧
 SpecH PP F_ref13_Set_Check [(.pointer r1), (.slice t136 t136n t136c)] h20 (fun v_11 h21 => ∃ (t137 t137_1 : Int), v_11 = (.tuple #[(.int .i64 t137), (.int .i64 t137_1)]) ∧
 let t142 : Bool := (t130 != t137)
 br t142 (
 J1 s0 r1 o5 true Q h21) (
 let t146 : Bool := (t130_1 != t137_1)
 J1 s0 r1 o5 t146 Q h21)))) (
 SpecH PP F_valid_Set_Writes [(.pointer s0)] h1 (fun v_12 h22 => ∃ (t22 : OA) (t22n t22c : Nat), v_12 = (.slice t22 t22n t22c) ∧
 nilc r1 (fun t25 =>
 ∃ (t27 : OA) (t27n t27c : Nat), cellH h22 (Addr.add t25 3) = some (.slice t27 t27n t27c) ∧
 SpecH PP F_keep_Writes [(.slice t22 t22n t22c), (.slice t27 t27n t27c)] h22 (fun v_13 h23 => ∃ (t28 : Bool), v_13 = (.bool t28) ∧
 L1 t22 t22n t22c t28 0 (K1 Q) h23)))))))))) : SpecH PP F_law13_step [(.pointer s0), (.pointer r1), (.agg #[(.int .i64 o2f0), (.string o2f1), (.string o2f2), (.string o2f3), (.string o2f4), (.string o2f5), (.string o2f6), (.slice o2f7 o2f7n o2f7c)])] h Q :=
   spec_of_txt (ann := ann) Try.func12 rfl rfl (by kernel_rfl) H
end law13_step
/-! ### (*haversack/valid.Set).At: function 13 -/
namespace valid_Set_At
def ann : Ann := (.seq 1 (.region [(List.range 1, 1)]) (.seq 1 (.seq 17 (.region [(List.range 2, 17)]) (.cond (.seq 4 (.region [(List.range 1, 4)]) (.exit 4)) .leaf)) (.seq 4 (.region [(List.range 5, 4)]) (.exit 4))))
noncomputable abbrev cd (n : Nat) : Code := sub (bodyOf Try.f13) (pth n)
abbrev an (n : Nat) : Ann := subA ann (pth n)
theorem door {s0 : OA} {Q : VP} {h : Heap} (H :
 let t4 : Bool := (Option.isNone s0)
 br t4 (
 Q (.int .i64 0) h) (
 nilc s0 (fun t6 =>
 ∃ (t8 : Int), cellH h t6 = some (.int .i64 t8) ∧
 Q (.int .i64 t8) h))) : SpecH PP F_valid_Set_At [(.pointer s0)] h Q :=
   spec_of_txt (ann := ann) Try.func13 rfl rfl (by kernel_rfl) H
end valid_Set_At
/-! ### haversack/haversackkeep.Writes: function 14 -/
namespace keep_Writes
def ann : Ann := (.seq 3 (.region [(List.range 1, 3)]) (.seq 3 (.seq 1027 (.region [(List.range 5, 1027)]) (.cond (.seq 16 (.region [(List.range 1, 16)]) (.exit 16)) .leaf)) (.seq 0 (.seq 35 (.region [(List.range 1, 35)]) (.block (.loop 35 (.seq 35 (.seq 16419 (.region [(List.range 4, 16419)]) (.cond .leaf (.exit 0))) (.seq 35 (.block (.seq 33554467 (.region [(List.range 9, 33554467)]) (.cond (.seq 16 (.region [(List.range 1, 16)]) (.exit 16)) .leaf))) (.region [(List.range 3, 35)])))))) (.seq 16 (.region [(List.range 1, 16)]) (.exit 16)))))
noncomputable abbrev cd (n : Nat) : Code := sub (bodyOf Try.f14) (pth n)
abbrev an (n : Nat) : Ann := subA ann (pth n)
@[irreducible] def Xret (t4 : Bool) : Fr := (mkFr 0 26 [(4, (.bool t4))])
@[irreducible] def X0  : Fr := (mkFr 0 26 [])
@[irreducible] def L1 (a0 : OA) (a0n a0c : Nat) (b1 : OA) (b1n b1c : Nat) (i5 : Int) (K : EP) (h : Heap) : Prop := Lp PP true (cd 116) (mkFr 0 26 [(0, (.slice a0 a0n a0c)), (1, (.slice b1 b1n b1c)), (5, (.int .i64 i5))]) K h
@[irreducible] def B1 (K : EP) : EP := seqK (fun fr h => Lp PP true (cd 116) (fr.mask 35) K h) K
@[irreducible] def K2 (Q : VP) : EP := seqK (fun fr h => ev PP true none (cd 15) (an 15) (fr.mask 0) (bodyK PP Try.f14 Q) h) (bodyK PP Try.f14 Q)
@[irreducible] def K1 (Q : VP) : EP := blockK 0 (K2 Q)
theorem L1_of {a0 : OA} {a0n a0c : Nat} {b1 : OA} {b1n b1c : Nat} {i5 : Int} {K : EP} {h : Heap} (H :
 let t14 : Bool := decide (i5 < (a0n : Int))
 br t14 (
 hwp PP (Instr.indexAt T_sl_api_Write (.slice a0 a0n a0c) (.int .i64 i5)) (fun v h1 => ∃ (t19 : Addr), v = (.pointer (some t19)) ∧
 ∃ (t20f0 t20f1 t20f2 : ByteArray) (t20f3 : Bool) (t20f4 : ByteArray), rdCells h1 t19 0 [(.string t20f0), (.string t20f1), (.string t20f2), (.bool t20f3), (.string t20f4)] ∧
 hwp PP (Instr.indexAt T_sl_api_Write (.slice b1 b1n b1c) (.int .i64 i5)) (fun v_1 h2 => ∃ (t23 : Addr), v_1 = (.pointer (some t23)) ∧
 ∃ (t24f0 t24f1 t24f2 : ByteArray) (t24f3 : Bool) (t24f4 : ByteArray), rdCells h2 t23 0 [(.string t24f0), (.string t24f1), (.string t24f2), (.bool t24f3), (.string t24f4)] ∧
 let t25 : Bool := (!((decide (t20f0 = t24f0) && (decide (t20f1 = t24f1) && (decide (t20f2 = t24f2) && true))) && ((t20f3 == t24f3) && (decide (t20f4 = t24f4) && true))))
 br t25 (
 K .ret (Xret false) h2) (
 let t16 : Int := IntKind.i64.wrap (i5 + 1)
 L1 a0 a0n a0c b1 b1n b1c t16 K h2)) h1) h) (
 K (.exit 0) (X0) h)) : L1 a0 a0n a0c b1 b1n b1c i5 K h := by unfold L1; exact Lp.of_txt (an 116) 35 (by kernel_rfl) H
theorem L1_Xret {Q : VP} {t4 : Bool} {h : Heap} (H :
 Q (.bool t4) h) : (K1 Q) .ret (Xret t4) h := of_eq_txt (by kernel_rfl) H
theorem L1_X0 {Q : VP}  {h : Heap} (H :
 Q (.bool true) h) : (K1 Q) (.exit 0) (X0 ) h := of_eq_txt (by kernel_rfl) H
theorem door {a0 : OA} {a0n a0c : Nat} {b1 : OA} {b1n b1c : Nat} {Q : VP} {h : Heap} (H :
 let t10 : Bool := ((a0n : Int) != (b1n : Int))
 br t10 (
 Q (.bool false) h) (
 L1 a0 a0n a0c b1 b1n b1c 0 (K1 Q) h)) : SpecH PP F_keep_Writes [(.slice a0 a0n a0c), (.slice b1 b1n b1c)] h Q :=
   spec_of_txt (ann := ann) Try.func14 rfl rfl (by kernel_rfl) H
end keep_Writes
/-! ### (*haversack/valid.Set).Writes: function 15 -/
namespace valid_Set_Writes
def ann : Ann := (.seq 1 (.region [(List.range 1, 1)]) (.seq 1 (.seq 17 (.region [(List.range 2, 17)]) (.cond (.seq 4 (.region [(List.range 1, 4)]) (.exit 4)) .leaf)) (.seq 4 (.region [(List.range 7, 4)]) (.exit 4))))
noncomputable abbrev cd (n : Nat) : Code := sub (bodyOf Try.f15) (pth n)
abbrev an (n : Nat) : Ann := subA ann (pth n)
theorem door {s0 : OA} {Q : VP} {h : Heap} (H :
 let t4 : Bool := (Option.isNone s0)
 br t4 (
 Q (.slice none 0 0) h) (
 nilc s0 (fun t6 =>
 ∃ (t8 : ON), cellH h (Addr.add t6 3) = some (.map t8) ∧
 SpecH PP F_maps_Values_map_api_Key_api_Write_api_Key_api_Write [(.map t8)] h (fun v h1 => ∃ (t9 : Value), v = t9 ∧
 SpecH PP F_slices_SortedFunc_api_Write [t9, (.func (.func F_valid_Set_Writes_1) #[] #[])] h1 (fun v_1 h2 => ∃ (t10 : OA) (t10n t10c : Nat), v_1 = (.slice t10 t10n t10c) ∧
 Q (.slice t10 t10n t10c) h2))))) : SpecH PP F_valid_Set_Writes [(.pointer s0)] h Q :=
   spec_of_txt (ann := ann) Try.func15 rfl rfl (by kernel_rfl) H
end valid_Set_Writes
/-! ### (*haversack/valid.Set).Put: function 16 -/
namespace valid_Set_Put
def ann : Ann := (.seq 21 (.region [(List.range 1, 21)]) (.seq 149 (.region [(List.range 2, 149)]) (.cond (.region [(List.range 9, 0)]) .leaf)))
noncomputable abbrev cd (n : Nat) : Code := sub (bodyOf Try.f16) (pth n)
abbrev an (n : Nat) : Ann := subA ann (pth n)
theorem door {s0 : OA} {k1f0 k1f1 k1f2 data2 : ByteArray} {Q : VP} {h : Heap} (H :
 let k4 : Addr := ⟨Array.size h, 0, none⟩
 let h1 : Heap := Array.push h (.cells #[(.string k1f0), (.string k1f1), (.string k1f2)] T_api_Key (0, 0))
 let t7 : Bool := (!Option.isNone s0)
 br t7 (
 nilc s0 (fun t9 =>
 ∃ (t11 : ON), cellH h1 (Addr.add t9 3) = some (.map t11) ∧
 ∃ (t12f0 t12f1 t12f2 : ByteArray), rdCells h1 k4 0 [(.string t12f0), (.string t12f1), (.string t12f2)] ∧
 ∃ (t13f0 t13f1 t13f2 : ByteArray), rdCells h1 k4 0 [(.string t13f0), (.string t13f1), (.string t13f2)] ∧
 hwp PP (Instr.mapUpdate T_map_api_Key_api_Write (.map t11) (.agg #[(.string t12f0), (.string t12f1), (.string t12f2)]) (.agg #[(.string t13f0), (.string t13f1), (.string t13f2), (.bool true), (.string data2)])) (fun _ h2 =>
 Q (.tuple #[]) h2) h1)) (
 Q (.tuple #[]) h1)) : SpecH PP F_valid_Set_Put [(.pointer s0), (.agg #[(.string k1f0), (.string k1f1), (.string k1f2)]), (.string data2)] h Q :=
   spec_of_txt (ann := ann) Try.func16 rfl rfl (by kernel_rfl) H
end valid_Set_Put
/-! ### (*haversack/valid.Set).Delete: function 17 -/
namespace valid_Set_Delete
def ann : Ann := (.seq 9 (.region [(List.range 1, 9)]) (.seq 41 (.region [(List.range 2, 41)]) (.cond (.region [(List.range 8, 0)]) .leaf)))
noncomputable abbrev cd (n : Nat) : Code := sub (bodyOf Try.f17) (pth n)
abbrev an (n : Nat) : Ann := subA ann (pth n)
theorem door {s0 : OA} {k1f0 k1f1 k1f2 : ByteArray} {Q : VP} {h : Heap} (H :
 let k3 : Addr := ⟨Array.size h, 0, none⟩
 let h1 : Heap := Array.push h (.cells #[(.string k1f0), (.string k1f1), (.string k1f2)] T_api_Key (0, 0))
 let t5 : Bool := (!Option.isNone s0)
 br t5 (
 nilc s0 (fun t7 =>
 ∃ (t9 : ON), cellH h1 (Addr.add t7 3) = some (.map t9) ∧
 ∃ (t10f0 t10f1 t10f2 : ByteArray), rdCells h1 k3 0 [(.string t10f0), (.string t10f1), (.string t10f2)] ∧
 ∃ (t11f0 t11f1 t11f2 : ByteArray), rdCells h1 k3 0 [(.string t11f0), (.string t11f1), (.string t11f2)] ∧
 hwp PP (Instr.mapUpdate T_map_api_Key_api_Write (.map t9) (.agg #[(.string t10f0), (.string t10f1), (.string t10f2)]) (.agg #[(.string t11f0), (.string t11f1), (.string t11f2), (.bool false), (.string (⟨#[]⟩ : ByteArray))])) (fun _ h2 =>
 Q (.tuple #[]) h2) h1)) (
 Q (.tuple #[]) h1)) : SpecH PP F_valid_Set_Delete [(.pointer s0), (.agg #[(.string k1f0), (.string k1f1), (.string k1f2)])] h Q :=
   spec_of_txt (ann := ann) Try.func17 rfl rfl (by kernel_rfl) H
end valid_Set_Delete
/-! ### (*haversack/valid.Set).Own: function 18 -/
namespace valid_Set_Own
def ann : Ann := (.seq 25 (.region [(List.range 3, 25)]) (.seq 25 (.seq 537 (.region [(List.range 2, 537)]) (.cond (.seq 48 (.region [(List.range 3, 48)]) (.exit 48)) .leaf)) (.seq 208 (.tree (.run [0, 1, 2, 3, 4] (.alt 5 (.run [6, 7, 8, 9, 10, 11] .done) (.alt 9 (.run [5, 6, 7, 8, 10, 11] .done) .nil))) 208) (.join (.seq 48 (.region [(List.range 4, 48)]) (.exit 48))))))
noncomputable abbrev cd (n : Nat) : Code := sub (bodyOf Try.f18) (pth n)
abbrev an (n : Nat) : Ann := subA ann (pth n)
@[irreducible] def J1 (t4 w6 : Addr) (ok7 : Bool) (Q : VP) (h : Heap) : Prop := Jn PP true (cd 15) (mkFr 0 22 [(4, (.pointer (some t4))), (6, (.pointer (some w6))), (7, (.bool ok7))]) (bodyK PP Try.f18 Q) h
theorem J1_of {t4 w6 : Addr} {ok7 : Bool} {Q : VP} {h : Heap} (H :
 ∃ (t20f0 t20f1 t20f2 : ByteArray) (t20f3 : Bool) (t20f4 : ByteArray), rdCells h w6 0 [(.string t20f0), (.string t20f1), (.string t20f2), (.bool t20f3), (.string t20f4)] ∧
 wrCells t4 0 [(.string t20f0), (.string t20f1), (.string t20f2), (.bool t20f3), (.string t20f4)] (fun h1 =>
 ∃ (t4_1f0 t4_1f1 t4_1f2 : ByteArray) (t4_1f3 : Bool) (t4_1f4 : ByteArray), rdCells h1 t4 0 [(.string t4_1f0), (.string t4_1f1), (.string t4_1f2), (.bool t4_1f3), (.string t4_1f4)] ∧
 Q (.tuple #[(.agg #[(.string t4_1f0), (.string t4_1f1), (.string t4_1f2), (.bool t4_1f3), (.string t4_1f4)]), (.bool ok7)]) h1) h) : J1 t4 w6 ok7 Q h := by unfold J1; exact Jn.of_txt (an 15) (by kernel_rfl) H
theorem door {s0 : OA} {k1f0 k1f1 k1f2 : ByteArray} {Q : VP} {h : Heap} (H :
 let k3 : Addr := ⟨Array.size h, 0, none⟩
 let h1 : Heap := Array.push h (.cells #[(.string k1f0), (.string k1f1), (.string k1f2)] T_api_Key (0, 0))
 let t4 : Addr := ⟨Array.size h1, 0, none⟩
 let h2 : Heap := Array.push h1 (.cells #[(.string (⟨#[]⟩ : ByteArray)), (.string (⟨#[]⟩ : ByteArray)), (.string (⟨#[]⟩ : ByteArray)), (.bool false), (.string (⟨#[]⟩ : ByteArray))] T_api_Write (0, 0))
 let t9 : Bool := (Option.isNone s0)
 br t9 (
 wrCells t4 0 [(.string (⟨#[]⟩ : ByteArray)), (.string (⟨#[]⟩ : ByteArray)), (.string (⟨#[]⟩ : ByteArray)), (.bool false), (.string (⟨#[]⟩ : ByteArray))] (fun h3 =>
 ∃ (t4_1f0 t4_1f1 t4_1f2 : ByteArray) (t4_1f3 : Bool) (t4_1f4 : ByteArray), rdCells h3 t4 0 [(.string t4_1f0), (.string t4_1f1), (.string t4_1f2), (.bool t4_1f3), (.string t4_1f4)] ∧
 Q (.tuple #[(.agg #[(.string t4_1f0), (.string t4_1f1), (.string t4_1f2), (.bool t4_1f3), (.string t4_1f4)]), (.bool false)]) h3) h2) (
 nilc s0 (fun t13 =>
 ∃ (t15 : ON), cellH h2 (Addr.add t13 3) = some (.map t15) ∧
 ∃ (t16f0 t16f1 t16f2 : ByteArray), rdCells h2 k3 0 [(.string t16f0), (.string t16f1), (.string t16f2)] ∧
 (
 hwp PP (Instr.lookup T_map_api_Key_api_Write (.map t15) (.agg #[(.string t16f0), (.string t16f1), (.string t16f2)]) true) (fun v_1 h7 => ∃ (t17_2f0 t17_2f1 t17_2f2 : ByteArray) (t17_2f3 : Bool) (t17_2f4 : ByteArray) (t17_3 : Bool), v_1 = (.tuple #[(.agg #[(.string t17_2f0), (.string t17_2f1), (.string t17_2f2), (.bool t17_2f3), (.string t17_2f4)]), (.bool t17_3)]) ∧
 let w6_1 : Addr := ⟨Array.size h7, 0, none⟩
 let h8 : Heap := Array.push h7 (.cells #[(.string (⟨#[]⟩ : ByteArray)), (.string (⟨#[]⟩ : ByteArray)), (.string (⟨#[]⟩ : ByteArray)), (.bool false), (.string (⟨#[]⟩ : ByteArray))] T_api_Write (0, 0))
 wrCells w6_1 0 [(.string t17_2f0), (.string t17_2f1), (.string t17_2f2), (.bool t17_2f3), (.string t17_2f4)] (fun h9 =>
 J1 t4 w6_1 t17_3 Q h9) h8) h2) ∧
 (
 let w6 : Addr := ⟨Array.size h2, 0, none⟩
 let h4 : Heap := Array.push h2 (.cells #[(.string (⟨#[]⟩ : ByteArray)), (.string (⟨#[]⟩ : ByteArray)), (.string (⟨#[]⟩ : ByteArray)), (.bool false), (.string (⟨#[]⟩ : ByteArray))] T_api_Write (0, 0))
 hwp PP (Instr.lookup T_map_api_Key_api_Write (.map t15) (.agg #[(.string t16f0), (.string t16f1), (.string t16f2)]) true) (fun v h5 => ∃ (t17f0 t17f1 t17f2 : ByteArray) (t17f3 : Bool) (t17f4 : ByteArray) (t17_1 : Bool), v = (.tuple #[(.agg #[(.string t17f0), (.string t17f1), (.string t17f2), (.bool t17f3), (.string t17f4)]), (.bool t17_1)]) ∧
 wrCells w6 0 [(.string t17f0), (.string t17f1), (.string t17f2), (.bool t17f3), (.string t17f4)] (fun h6 =>
 J1 t4 w6 t17_1 Q h6) h5) h4) ∧
 True))) : SpecH PP F_valid_Set_Own [(.pointer s0), (.agg #[(.string k1f0), (.string k1f1), (.string k1f2)])] h Q :=
   spec_of_txt (ann := ann) Try.func18 rfl rfl (by kernel_rfl) H
end valid_Set_Own
/-! ### (*haversack/valid.Set).Check: function 19 -/
namespace valid_Set_Check
def ann : Ann := (.seq 3 (.region [(List.range 2, 3)]) (.seq 3 (.seq 1027 (.region [(List.range 2, 1027)]) (.cond (.seq 48 (.region [(List.range 2, 48)]) (.exit 48)) .leaf)) (.seq 67 (.region [(List.range 1, 67)]) (.seq 3 (.seq 14403 (.region [(List.range 3, 14403)]) (.block (.loop 14403 (.seq 30787 (.region [(List.range 1, 30787)]) (.seq 14403 (.cond .leaf (.exit 3)) (.seq 14403 (.block (.seq 14659 (.region [(List.range 4, 14659)]) (.seq 14595 (.seq 1063171 (.region [(List.range 4, 1063171)]) (.cond (.seq 48 (.region [(List.range 2, 48)]) (.exit 48)) .leaf)) (.region [(List.range 3, 14403)])))) (.region [(List.range 2, 14403)]))))))) (.seq 3 (.seq 536870915 (.region [(List.range 6, 536870915)]) (.cond (.seq 48 (.region [(List.range 2, 48)]) (.exit 48)) .leaf)) (.seq 48 (.region [(List.range 6, 48)]) (.exit 48)))))))
noncomputable abbrev cd (n : Nat) : Code := sub (bodyOf Try.f19) (pth n)
abbrev an (n : Nat) : Ann := subA ann (pth n)
@[irreducible] def Xret (t4 t5 : Int) : Fr := (mkFr 0 34 [(4, (.int .i64 t4)), (5, (.int .i64 t5))])
@[irreducible] def X0 (s0 xl1 : OA) (xl1n xl1c : Nat) : Fr := (mkFr 0 34 [(0, (.pointer s0)), (1, (.slice xl1 xl1n xl1c))])
@[irreducible] def L1 (s0 xl1 : OA) (xl1n xl1c : Nat) (last6 : Int) (t11 : OA) (t11n t11c : Nat) (t12 t13 : Int) (K : EP) (h : Heap) : Prop := Lp PP true (cd 244) (mkFr 0 34 [(0, (.pointer s0)), (1, (.slice xl1 xl1n xl1c)), (6, (.int .i64 last6)), (11, (.slice t11 t11n t11c)), (12, (.int .i64 t12)), (13, (.int .i64 t13))]) K h
@[irreducible] def B1 (K : EP) : EP := seqK (fun fr h => Lp PP true (cd 244) (fr.mask 14403) K h) K
@[irreducible] def K2 (Q : VP) : EP := seqK (fun fr h => ev PP true none (cd 31) (an 31) (fr.mask 3) (bodyK PP Try.f19 Q) h) (bodyK PP Try.f19 Q)
@[irreducible] def K1 (Q : VP) : EP := blockK 0 (K2 Q)
theorem L1_of {s0 xl1 : OA} {xl1n xl1c : Nat} {last6 : Int} {t11 : OA} {t11n t11c : Nat} {t12 t13 : Int} {K : EP} {h : Heap} (H :
 let t14 : Bool := decide (t13 < t12)
 br t14 (
 hwp PP (Instr.indexAt T_sl_api_Commit (.slice t11 t11n t11c) (.int .i64 t13)) (fun v h1 => ∃ (t15 : Addr), v = (.pointer (some t15)) ∧
 ∃ (t16f0 : Int) (t16f1 : OA) (t16f1n t16f1c : Nat), rdCells h1 t15 0 [(.int .i64 t16f0), (.slice t16f1 t16f1n t16f1c)] ∧
 let c8 : Addr := ⟨Array.size h1, 0, none⟩
 let h2 : Heap := Array.push h1 (.cells #[(.int .i64 0), (.slice none 0 0)] T_api_Commit (0, 0))
 wrCells c8 0 [(.int .i64 t16f0), (.slice t16f1 t16f1n t16f1c)] (fun h3 =>
 ∃ (t18 : Int), cellH h3 c8 = some (.int .i64 t18) ∧
 let t20 : Bool := decide (t18 ≤ last6)
 br t20 (
 K .ret (Xret (-1) 130) h3) (
 ∃ (t22 : Int), cellH h3 c8 = some (.int .i64 t22) ∧
 let t23 : Int := IntKind.i64.wrap (t13 + 1)
 L1 s0 xl1 xl1n xl1c t22 t11 t11n t11c t12 t23 K h3)) h2) h) (
 K (.exit 0) (X0 s0 xl1 xl1n xl1c) h)) : L1 s0 xl1 xl1n xl1c last6 t11 t11n t11c t12 t13 K h := by unfold L1; exact Lp.of_txt (an 244) 14403 (by kernel_rfl) H
theorem L1_Xret {Q : VP} {t4 t5 : Int} {h : Heap} (H :
 Q (.tuple #[(.int .i64 t4), (.int .i64 t5)]) h) : (K1 Q) .ret (Xret t4 t5) h := of_eq_txt (by kernel_rfl) H
theorem L1_X0 {Q : VP} {s0 xl1 : OA} {xl1n xl1c : Nat} {h : Heap} (H :
 nilc s0 (fun t25 =>
 ∃ (t27 : ON), cellH h (Addr.add t25 3) = some (.map t27) ∧
 hwp PP (Builtin.len_ #[T_map_api_Key_api_Write] T_int #[(.map t27)]) (fun v h1 => ∃ (t28 : Int), v = (.int .i64 t28) ∧
 let t29 : Bool := (t28 == 0)
 br t29 (
 Q (.tuple #[(.int .i64 (-1)), (.int .i64 0)]) h1) (
 SpecH PP F_slices_IndexFunc_api_Commit_api_Commit [(.slice xl1 xl1n xl1c), (.func (.func F_valid_Set_Clash) #[(.pointer s0)] #[])] h1 (fun v_1 h2 => ∃ (t33 : Int), v_1 = (.int .i64 t33) ∧
 Q (.tuple #[(.int .i64 t33), (.int .i64 0)]) h2))) h)) : (K1 Q) (.exit 0) (X0 s0 xl1 xl1n xl1c) h := of_eq_txt (by kernel_rfl) H
theorem door {s0 xl1 : OA} {xl1n xl1c : Nat} {Q : VP} {h : Heap} (H :
 let t10 : Bool := (Option.isNone s0)
 br t10 (
 Q (.tuple #[(.int .i64 (-1)), (.int .i64 3)]) h) (
 L1 s0 xl1 xl1n xl1c 0 xl1 xl1n xl1c (xl1n : Int) 0 (K1 Q) h)) : SpecH PP F_valid_Set_Check [(.pointer s0), (.slice xl1 xl1n xl1c)] h Q :=
   spec_of_txt (ann := ann) Try.func19 rfl rfl (by kernel_rfl) H
end valid_Set_Check
/-! ### slices.ContainsFunc[[]haversack/api.Write,haversack/api.Write]: function 20 -/
namespace slices_ContainsFunc_api_Write_api_Write
def ann : Ann := (.seq 3 (.region [(List.range 1, 3)]) (.seq 16 (.region [(List.range 5, 16)]) (.exit 16)))
noncomputable abbrev cd (n : Nat) : Code := sub (bodyOf Try.f20) (pth n)
abbrev an (n : Nat) : Ann := subA ann (pth n)
theorem door {s0 : OA} {s0n s0c : Nat} {f1 : Value} {Q : VP} {h : Heap} (H :
 SpecH PP F_slices_IndexFunc_api_Write_api_Write [(.slice s0 s0n s0c), f1] h (fun v h1 => ∃ (t7 : Int), v = (.int .i64 t7) ∧
 let t8 : Bool := decide (t7 ≥ 0)
 Q (.bool t8) h1)) : SpecH PP F_slices_ContainsFunc_api_Write_api_Write [(.slice s0 s0n s0c), f1] h Q :=
   spec_of_txt (ann := ann) Try.func20 rfl rfl (by kernel_rfl) H
end slices_ContainsFunc_api_Write_api_Write
/-! ### (*haversack/valid.Set).Clash$1: function 21 -/
namespace valid_Set_Clash_1
def ann : Ann := (.seq 6 (.region [(List.range 2, 6)]) (.seq 8 (.region [(List.range 22, 8)]) (.exit 8)))
noncomputable abbrev cd (n : Nat) : Code := sub (bodyOf Try.f21) (pth n)
abbrev an (n : Nat) : Ann := subA ann (pth n)
theorem door {w0f0 w0f1 w0f2 : ByteArray} {w0f3 : Bool} {w0f4 : ByteArray} {t1 : Addr} {Q : VP} {h : Heap} (H :
 let w2 : Addr := ⟨Array.size h, 0, none⟩
 let h1 : Heap := Array.push h (.cells #[(.string w0f0), (.string w0f1), (.string w0f2), (.bool w0f3), (.string w0f4)] T_api_Write (0, 0))
 ∃ (t4 : OA), cellH h1 t1 = some (.pointer t4) ∧
 nilc t4 (fun t5 =>
 ∃ (t7 : ON), cellH h1 (Addr.add t5 1) = some (.map t7) ∧
 ∃ (t9f0 t9f1 t9f2 : ByteArray), rdCells h1 w2 0 [(.string t9f0), (.string t9f1), (.string t9f2)] ∧
 hwp PP (Instr.lookup T_map_api_Key_bool (.map t7) (.agg #[(.string t9f0), (.string t9f1), (.string t9f2)]) false) (fun v h2 => ∃ (t10 : Bool), v = (.bool t10) ∧
 br t10 (
 Q (.bool true) h2) (
 ∃ (t12 : OA), cellH h2 t1 = some (.pointer t12) ∧
 nilc t12 (fun t13 =>
 ∃ (t15 : ON), cellH h2 (Addr.add t13 2) = some (.map t15) ∧
 ∃ (t18 : ByteArray), cellH h2 w2 = some (.string t18) ∧
 ∃ (t21 : ByteArray), cellH h2 (Addr.add w2 1) = some (.string t21) ∧
 hwp PP (Instr.lookup T_map_api_Box_bool (.map t15) (.agg #[(.string t18), (.string t21)]) false) (fun v_1 h3 => ∃ (t23 : Bool), v_1 = (.bool t23) ∧
 Q (.bool t23) h3) h2))) h1)) : SpecH PP F_valid_Set_Clash_1 [(.agg #[(.string w0f0), (.string w0f1), (.string w0f2), (.bool w0f3), (.string w0f4)]), (.pointer (some t1))] h Q :=
   spec_of_txt (ann := ann) Try.func21 rfl rfl (by kernel_rfl) H
end valid_Set_Clash_1
/-! ### haversack/haversacklaw13.key: function 22 -/
namespace law13_key
def ann : Ann := (.seq 19 (.region [(List.range 1, 19)]) (.seq 16 (.region [(List.range 4, 16)]) (.exit 16)))
noncomputable abbrev cd (n : Nat) : Code := sub (bodyOf Try.f22) (pth n)
abbrev an (n : Nat) : Ann := subA ann (pth n)
theorem door {a0 e1 : ByteArray} {Q : VP} {h : Heap} (H :
 let t4 : Addr := ⟨Array.size h, 0, none⟩
 let h1 : Heap := Array.push h (.cells #[(.string (⟨#[]⟩ : ByteArray)), (.string (⟨#[]⟩ : ByteArray)), (.string (⟨#[]⟩ : ByteArray))] T_api_Key (0, 0))
 wrCells t4 0 [(.string (⟨#[116]⟩ : ByteArray)), (.string a0), (.string e1)] (fun h2 =>
 ∃ (t4_1f0 t4_1f1 t4_1f2 : ByteArray), rdCells h2 t4 0 [(.string t4_1f0), (.string t4_1f1), (.string t4_1f2)] ∧
 Q (.agg #[(.string t4_1f0), (.string t4_1f1), (.string t4_1f2)]) h2) h1) : SpecH PP F_law13_key [(.string a0), (.string e1)] h Q :=
   spec_of_txt (ann := ann) Try.func22 rfl rfl (by kernel_rfl) H
end law13_key
/-! ### haversack/haversacklaw13.commit: function 23 -/
namespace law13_commit
def ann : Ann := (.seq 25 (.region [(List.range 2, 25)]) (.seq 16 (.region [(List.range 6, 16)]) (.exit 16)))
noncomputable abbrev cd (n : Nat) : Code := sub (bodyOf Try.f23) (pth n)
abbrev an (n : Nat) : Ann := subA ann (pth n)
theorem door {at0 : Int} {k1f0 k1f1 k1f2 : ByteArray} {Q : VP} {h : Heap} (H :
 let k3 : Addr := ⟨Array.size h, 0, none⟩
 let h1 : Heap := Array.push h (.cells #[(.string k1f0), (.string k1f1), (.string k1f2)] T_api_Key (0, 0))
 let t4 : Addr := ⟨Array.size h1, 0, none⟩
 let h2 : Heap := Array.push h1 (.cells #[(.int .i64 0), (.slice none 0 0)] T_api_Commit (0, 0))
 ∃ (t6f0 t6f1 t6f2 : ByteArray), rdCells h2 k3 0 [(.string t6f0), (.string t6f1), (.string t6f2)] ∧
 let h3 : Heap := Array.push h2 (.cells #[(.string t6f0), (.string t6f1), (.string t6f2), (.bool true), (.string (⟨#[]⟩ : ByteArray))] T_api_Write (0, 0))
 wrCells t4 0 [(.int .i64 at0), (.slice (some ⟨Array.size h2, 0, none⟩) 1 1)] (fun h4 =>
 ∃ (t4_1f0 : Int) (t4_1f1 : OA) (t4_1f1n t4_1f1c : Nat), rdCells h4 t4 0 [(.int .i64 t4_1f0), (.slice t4_1f1 t4_1f1n t4_1f1c)] ∧
 Q (.agg #[(.int .i64 t4_1f0), (.slice t4_1f1 t4_1f1n t4_1f1c)]) h4) h3) : SpecH PP F_law13_commit [(.int .i64 at0), (.agg #[(.string k1f0), (.string k1f1), (.string k1f2)])] h Q :=
   spec_of_txt (ann := ann) Try.func23 rfl rfl (by kernel_rfl) H
end law13_commit
/-! ### (*haversack/haversackref13.Set).Stage: function 24 -/
namespace ref13_Set_Stage
def ann : Ann := (.seq 9 (.region [(List.range 1, 9)]) (.seq 25 (.region [(List.range 1, 25)]) (.seq 25 (.block (.loop 25 (.seq 25 (.seq 67108889 (.region [(List.range 20, 67108889)]) (.cond .leaf (.exit 25))) (.block (.region [(List.range 3, 25)]))))) (.seq 57 (.region [(List.range 7, 57)]) (.seq 57 (.seq 70368744177721 (.region [(List.range 12, 70368744177721)]) (.join (.cond (.region [(List.range 3, 57)]) .leaf))) (.join (.seq 121 (.region [(List.range 1, 121)]) (.seq 105 (.region [(List.range 9, 105)]) (.seq 97 (.region [(List.range 5, 97)]) (.region [(List.range 7, 0)]))))))))))
noncomputable abbrev cd (n : Nat) : Code := sub (bodyOf Try.f24) (pth n)
abbrev an (n : Nat) : Ann := subA ann (pth n)
@[irreducible] def X0 (s0 : OA) (w3 : Addr) (k4 : Int) : Fr := (mkFr 0 67 [(0, (.pointer s0)), (3, (.pointer (some w3))), (4, (.int .i64 k4))])
@[irreducible] def L1 (s0 : OA) (w3 : Addr) (k4 : Int) (K : EP) (h : Heap) : Prop := Lp PP true (cd 56) (mkFr 0 67 [(0, (.pointer s0)), (3, (.pointer (some w3))), (4, (.int .i64 k4))]) K h
@[irreducible] def B1 (K : EP) : EP := seqK (fun fr h => Lp PP true (cd 56) (fr.mask 25) K h) K
@[irreducible] def K2 (Q : VP) : EP := seqK (fun fr h => Jn PP true (cd 63) (fr.mask 57) (bodyK PP Try.f24 Q) h) (bodyK PP Try.f24 Q)
@[irreducible] def J1 (s0 : OA) (w3 : Addr) (k4 : Int) (rest5 : OA) (rest5n rest5c : Nat) (t46 : Bool) (Q : VP) (h : Heap) : Prop := Jn PP true (cd 125) (mkFr 0 67 [(0, (.pointer s0)), (3, (.pointer (some w3))), (4, (.int .i64 k4)), (5, (.slice rest5 rest5n rest5c)), (46, (.bool t46))]) (K2 Q) h
@[irreducible] def K3 (Q : VP) : EP := seqK (fun fr h => ev PP true none (cd 15) (an 15) (fr.mask 25) (bodyK PP Try.f24 Q) h) (bodyK PP Try.f24 Q)
@[irreducible] def K1 (Q : VP) : EP := blockK 0 (K3 Q)
@[irreducible] def J2 (s0 : OA) (w3 : Addr) (k4 : Int) (rest5 : OA) (rest5n rest5c : Nat) (Q : VP) (h : Heap) : Prop := Jn PP true (cd 63) (mkFr 0 67 [(0, (.pointer s0)), (3, (.pointer (some w3))), (4, (.int .i64 k4)), (5, (.slice rest5 rest5n rest5c))]) (bodyK PP Try.f24 Q) h
theorem L1_of {s0 : OA} {w3 : Addr} {k4 : Int} {K : EP} {h : Heap} (H :
 nilc s0 (fun t9 =>
 ∃ (t11 : OA) (t11n t11c : Nat), cellH h (Addr.add t9 3) = some (.slice t11 t11n t11c) ∧
 let t13 : Bool := decide (k4 < (t11n : Int))
 br t13 (
 nilc s0 (fun t16 =>
 ∃ (t18 : OA) (t18n t18c : Nat), cellH h (Addr.add t16 3) = some (.slice t18 t18n t18c) ∧
 hwp PP (Instr.indexAt T_sl_api_Write (.slice t18 t18n t18c) (.int .i64 k4)) (fun v h1 => ∃ (t20 : Addr), v = (.pointer (some t20)) ∧
 ∃ (t22f0 t22f1 t22f2 : ByteArray), rdCells h1 t20 0 [(.string t22f0), (.string t22f1), (.string t22f2)] ∧
 ∃ (t24f0 t24f1 t24f2 : ByteArray), rdCells h1 w3 0 [(.string t24f0), (.string t24f1), (.string t24f2)] ∧
 SpecH PP F_ref13_Before [(.agg #[(.string t22f0), (.string t22f1), (.string t22f2)]), (.agg #[(.string t24f0), (.string t24f1), (.string t24f2)])] h1 (fun v_1 h2 => ∃ (t25 : Bool), v_1 = (.bool t25) ∧
 br t25 (
 let t28 : Int := IntKind.i64.wrap (k4 + 1)
 L1 s0 w3 t28 K h2) (
 K (.exit 0) (X0 s0 w3 k4) h2))) h)) (
 K (.exit 0) (X0 s0 w3 k4) h))) : L1 s0 w3 k4 K h := by unfold L1; exact Lp.of_txt (an 56) 25 (by kernel_rfl) H
theorem L1_X0 {Q : VP} {s0 : OA} {w3 : Addr} {k4 : Int} {h : Heap} (H :
 nilc s0 (fun t30 =>
 ∃ (t32 : OA) (t32n t32c : Nat), cellH h (Addr.add t30 3) = some (.slice t32 t32n t32c) ∧
 hwp PP (Instr.sliceAt T_sl_api_Write (.slice t32 t32n t32c) (some (.int .i64 k4)) none none) (fun v h1 => ∃ (t34 : OA) (t34n t34c : Nat), v = (.slice t34 t34n t34c) ∧
 let t37 : Bool := decide ((t34n : Int) > 0)
 br t37 (
 hwp PP (Instr.indexAt T_sl_api_Write (.slice t34 t34n t34c) (.int .i64 0)) (fun v_1 h2 => ∃ (t40 : Addr), v_1 = (.pointer (some t40)) ∧
 ∃ (t42f0 t42f1 t42f2 : ByteArray), rdCells h2 t40 0 [(.string t42f0), (.string t42f1), (.string t42f2)] ∧
 ∃ (t44f0 t44f1 t44f2 : ByteArray), rdCells h2 w3 0 [(.string t44f0), (.string t44f1), (.string t44f2)] ∧
 let t45 : Bool := (decide (t42f0 = t44f0) && (decide (t42f1 = t44f1) && (decide (t42f2 = t44f2) && true)))
 J1 s0 w3 k4 t34 t34n t34c t45 Q h2) h1) (
 J1 s0 w3 k4 t34 t34n t34c false Q h1)) h)) : (K1 Q) (.exit 0) (X0 s0 w3 k4) h := of_eq_txt (by kernel_rfl) H
theorem J1_of {s0 : OA} {w3 : Addr} {k4 : Int} {rest5 : OA} {rest5n rest5c : Nat} {t46 : Bool} {Q : VP} {h : Heap} (H :
 br t46 (
 hwp PP (Instr.sliceAt T_sl_api_Write (.slice rest5 rest5n rest5c) (some (.int .i64 1)) none none) (fun v h1 => ∃ (t48 : OA) (t48n t48c : Nat), v = (.slice t48 t48n t48c) ∧
 J2 s0 w3 k4 t48 t48n t48c Q h1) h) (
 J2 s0 w3 k4 rest5 rest5n rest5c Q h)) : J1 s0 w3 k4 rest5 rest5n rest5c t46 Q h := by unfold J1; exact Jn.of_txt (an 125) (by kernel_rfl) H
theorem J2_of {s0 : OA} {w3 : Addr} {k4 : Int} {rest5 : OA} {rest5n rest5c : Nat} {Q : VP} {h : Heap} (H :
 nilc s0 (fun t51 =>
 ∃ (t53 : OA) (t53n t53c : Nat), cellH h (Addr.add t51 3) = some (.slice t53 t53n t53c) ∧
 hwp PP (Instr.sliceAt T_sl_api_Write (.slice t53 t53n t53c) none (some (.int .i64 k4)) none) (fun v h1 => ∃ (t55 : OA) (t55n t55c : Nat), v = (.slice t55 t55n t55c) ∧
 hwp PP (Builtin.append_ #[T_sl_api_Write, T_sl_api_Write] T_sl_api_Write #[(.slice none 0 0), (.slice t55 t55n t55c)]) (fun v_1 h2 => ∃ (t56 : OA) (t56n t56c : Nat), v_1 = (.slice t56 t56n t56c) ∧
 ∃ (t58f0 t58f1 t58f2 : ByteArray) (t58f3 : Bool) (t58f4 : ByteArray), rdCells h2 w3 0 [(.string t58f0), (.string t58f1), (.string t58f2), (.bool t58f3), (.string t58f4)] ∧
 let h3 : Heap := Array.push h2 (.cells #[(.string t58f0), (.string t58f1), (.string t58f2), (.bool t58f3), (.string t58f4)] T_api_Write (0, 0))
 hwp PP (Builtin.append_ #[T_sl_api_Write, T_sl_api_Write] T_sl_api_Write #[(.slice t56 t56n t56c), (.slice (some ⟨Array.size h2, 0, none⟩) 1 1)]) (fun v_2 h4 => ∃ (t60 : OA) (t60n t60c : Nat), v_2 = (.slice t60 t60n t60c) ∧
 hwp PP (Builtin.append_ #[T_sl_api_Write, T_sl_api_Write] T_sl_api_Write #[(.slice t60 t60n t60c), (.slice rest5 rest5n rest5c)]) (fun v_3 h5 => ∃ (t64 : OA) (t64n t64c : Nat), v_3 = (.slice t64 t64n t64c) ∧
 nilc s0 (fun t65 =>
 wr (Addr.add t65 3) (.slice t64 t64n t64c) (fun h6 =>
 Q (.tuple #[]) h6) h5)) h4) h3) h1) h)) : J2 s0 w3 k4 rest5 rest5n rest5c Q h := by unfold J2; exact Jn.of_txt (an 63) (by kernel_rfl) H
theorem door {s0 : OA} {w1f0 w1f1 w1f2 : ByteArray} {w1f3 : Bool} {w1f4 : ByteArray} {Q : VP} {h : Heap} (H :
 let w3 : Addr := ⟨Array.size h, 0, none⟩
 let h1 : Heap := Array.push h (.cells #[(.string w1f0), (.string w1f1), (.string w1f2), (.bool w1f3), (.string w1f4)] T_api_Write (0, 0))
 L1 s0 w3 0 (K1 Q) h1) : SpecH PP F_ref13_Set_Stage [(.pointer s0), (.agg #[(.string w1f0), (.string w1f1), (.string w1f2), (.bool w1f3), (.string w1f4)])] h Q :=
   spec_of_txt (ann := ann) Try.func24 rfl rfl (by kernel_rfl) H
end ref13_Set_Stage
/-! ### (*haversack/haversackref13.Set).Own: function 25 -/
namespace ref13_Set_Own
def ann : Ann := (.seq 25 (.region [(List.range 3, 25)]) (.seq 16 (.seq 89 (.region [(List.range 1, 89)]) (.block (.loop 89 (.seq 89 (.seq 8281 (.region [(List.range 7, 8281)]) (.cond .leaf (.exit 16))) (.seq 89 (.block (.seq 33554521 (.region [(List.range 10, 33554521)]) (.cond (.seq 48 (.region [(List.range 9, 48)]) (.exit 48)) .leaf))) (.region [(List.range 3, 89)])))))) (.seq 48 (.region [(List.range 3, 48)]) (.exit 48))))
noncomputable abbrev cd (n : Nat) : Code := sub (bodyOf Try.f25) (pth n)
abbrev an (n : Nat) : Ann := subA ann (pth n)
@[irreducible] def Xret (t4 : Addr) (t5 : Bool) : Fr := (mkFr 0 34 [(4, (.pointer (some t4))), (5, (.bool t5))])
@[irreducible] def X0 (t4 : Addr) : Fr := (mkFr 0 34 [(4, (.pointer (some t4)))])
@[irreducible] def L1 (s0 : OA) (k3 t4 : Addr) (i6 : Int) (K : EP) (h : Heap) : Prop := Lp PP true (cd 52) (mkFr 0 34 [(0, (.pointer s0)), (3, (.pointer (some k3))), (4, (.pointer (some t4))), (6, (.int .i64 i6))]) K h
@[irreducible] def B1 (K : EP) : EP := seqK (fun fr h => Lp PP true (cd 52) (fr.mask 89) K h) K
@[irreducible] def K2 (Q : VP) : EP := seqK (fun fr h => ev PP true none (cd 7) (an 7) (fr.mask 16) (bodyK PP Try.f25 Q) h) (bodyK PP Try.f25 Q)
@[irreducible] def K1 (Q : VP) : EP := blockK 0 (K2 Q)
theorem L1_of {s0 : OA} {k3 t4 : Addr} {i6 : Int} {K : EP} {h : Heap} (H :
 nilc s0 (fun t9 =>
 ∃ (t11 : OA) (t11n t11c : Nat), cellH h (Addr.add t9 3) = some (.slice t11 t11n t11c) ∧
 let t13 : Bool := decide (i6 < (t11n : Int))
 br t13 (
 nilc s0 (fun t17 =>
 ∃ (t19 : OA) (t19n t19c : Nat), cellH h (Addr.add t17 3) = some (.slice t19 t19n t19c) ∧
 hwp PP (Instr.indexAt T_sl_api_Write (.slice t19 t19n t19c) (.int .i64 i6)) (fun v h1 => ∃ (t21 : Addr), v = (.pointer (some t21)) ∧
 ∃ (t23f0 t23f1 t23f2 : ByteArray), rdCells h1 t21 0 [(.string t23f0), (.string t23f1), (.string t23f2)] ∧
 ∃ (t24f0 t24f1 t24f2 : ByteArray), rdCells h1 k3 0 [(.string t24f0), (.string t24f1), (.string t24f2)] ∧
 let t25 : Bool := (decide (t23f0 = t24f0) && (decide (t23f1 = t24f1) && (decide (t23f2 = t24f2) && true)))
 br t25 (
 nilc s0 (fun t27 =>
 ∃ (t29 : OA) (t29n t29c : Nat), cellH h1 (Addr.add t27 3) = some (.slice t29 t29n t29c) ∧
 hwp PP (Instr.indexAt T_sl_api_Write (.slice t29 t29n t29c) (.int .i64 i6)) (fun v_1 h2 => ∃ (t31 : Addr), v_1 = (.pointer (some t31)) ∧
 ∃ (t32f0 t32f1 t32f2 : ByteArray) (t32f3 : Bool) (t32f4 : ByteArray), rdCells h2 t31 0 [(.string t32f0), (.string t32f1), (.string t32f2), (.bool t32f3), (.string t32f4)] ∧
 wrCells t4 0 [(.string t32f0), (.string t32f1), (.string t32f2), (.bool t32f3), (.string t32f4)] (fun h3 =>
 K .ret (Xret t4 true) h3) h2) h1)) (
 let t15 : Int := IntKind.i64.wrap (i6 + 1)
 L1 s0 k3 t4 t15 K h1)) h)) (
 K (.exit 0) (X0 t4) h))) : L1 s0 k3 t4 i6 K h := by unfold L1; exact Lp.of_txt (an 52) 89 (by kernel_rfl) H
theorem L1_Xret {Q : VP} {t4 : Addr} {t5 : Bool} {h : Heap} (H :
 ∃ (t4_1f0 t4_1f1 t4_1f2 : ByteArray) (t4_1f3 : Bool) (t4_1f4 : ByteArray), rdCells h t4 0 [(.string t4_1f0), (.string t4_1f1), (.string t4_1f2), (.bool t4_1f3), (.string t4_1f4)] ∧
 Q (.tuple #[(.agg #[(.string t4_1f0), (.string t4_1f1), (.string t4_1f2), (.bool t4_1f3), (.string t4_1f4)]), (.bool t5)]) h) : (K1 Q) .ret (Xret t4 t5) h := of_eq_txt (by kernel_rfl) H
theorem L1_X0 {Q : VP} {t4 : Addr} {h : Heap} (H :
 wrCells t4 0 [(.string (⟨#[]⟩ : ByteArray)), (.string (⟨#[]⟩ : ByteArray)), (.string (⟨#[]⟩ : ByteArray)), (.bool false), (.string (⟨#[]⟩ : ByteArray))] (fun h1 =>
 ∃ (t4_1f0 t4_1f1 t4_1f2 : ByteArray) (t4_1f3 : Bool) (t4_1f4 : ByteArray), rdCells h1 t4 0 [(.string t4_1f0), (.string t4_1f1), (.string t4_1f2), (.bool t4_1f3), (.string t4_1f4)] ∧
 Q (.tuple #[(.agg #[(.string t4_1f0), (.string t4_1f1), (.string t4_1f2), (.bool t4_1f3), (.string t4_1f4)]), (.bool false)]) h1) h) : (K1 Q) (.exit 0) (X0 t4) h := of_eq_txt (by kernel_rfl) H
theorem door {s0 : OA} {k1f0 k1f1 k1f2 : ByteArray} {Q : VP} {h : Heap} (H :
 let k3 : Addr := ⟨Array.size h, 0, none⟩
 let h1 : Heap := Array.push h (.cells #[(.string k1f0), (.string k1f1), (.string k1f2)] T_api_Key (0, 0))
 let t4 : Addr := ⟨Array.size h1, 0, none⟩
 let h2 : Heap := Array.push h1 (.cells #[(.string (⟨#[]⟩ : ByteArray)), (.string (⟨#[]⟩ : ByteArray)), (.string (⟨#[]⟩ : ByteArray)), (.bool false), (.string (⟨#[]⟩ : ByteArray))] T_api_Write (0, 0))
 L1 s0 k3 t4 0 (K1 Q) h2) : SpecH PP F_ref13_Set_Own [(.pointer s0), (.agg #[(.string k1f0), (.string k1f1), (.string k1f2)])] h Q :=
   spec_of_txt (ann := ann) Try.func25 rfl rfl (by kernel_rfl) H
end ref13_Set_Own
/-! ### (*haversack/haversackref13.Set).Check: function 26 -/
namespace ref13_Set_Check
def ann : Ann := (.seq 3 (.region [(List.range 2, 3)]) (.seq 67 (.region [(List.range 1, 67)]) (.seq 3 (.seq 195 (.region [(List.range 1, 195)]) (.block (.loop 195 (.seq 195 (.seq 4291 (.region [(List.range 4, 4291)]) (.cond .leaf (.exit 3))) (.seq 195 (.block (.seq 131 (.seq 2097283 (.region [(List.range 7, 2097283)]) (.cond (.seq 48 (.region [(List.range 2, 48)]) (.exit 48)) .leaf)) (.region [(List.range 6, 195)]))) (.region [(List.range 3, 195)])))))) (.seq 0 (.seq 259 (.region [(List.range 1, 259)]) (.block (.loop 259 (.seq 259 (.seq 1073742083 (.region [(List.range 4, 1073742083)]) (.cond .leaf (.exit 0))) (.seq 259 (.block (.seq 70368744177923 (.region [(List.range 14, 70368744177923)]) (.join (.cond (.seq 48 (.region [(List.range 3, 48)]) (.exit 48)) .leaf)))) (.region [(List.range 3, 259)])))))) (.seq 48 (.region [(List.range 2, 48)]) (.exit 48))))))
noncomputable abbrev cd (n : Nat) : Code := sub (bodyOf Try.f26) (pth n)
abbrev an (n : Nat) : Ann := subA ann (pth n)
@[irreducible] def Xret (t4 t5 : Int) : Fr := (mkFr 0 48 [(4, (.int .i64 t4)), (5, (.int .i64 t5))])
@[irreducible] def X0 (s0 xl1 : OA) (xl1n xl1c : Nat) : Fr := (mkFr 0 48 [(0, (.pointer s0)), (1, (.slice xl1 xl1n xl1c))])
@[irreducible] def X2  : Fr := (mkFr 0 48 [])
@[irreducible] def L1 (s0 xl1 : OA) (xl1n xl1c : Nat) (last6 i7 : Int) (K : EP) (h : Heap) : Prop := Lp PP true (cd 116) (mkFr 0 48 [(0, (.pointer s0)), (1, (.slice xl1 xl1n xl1c)), (6, (.int .i64 last6)), (7, (.int .i64 i7))]) K h
@[irreducible] def B1 (K : EP) : EP := seqK (fun fr h => Lp PP true (cd 116) (fr.mask 195) K h) K
@[irreducible] def K2 (Q : VP) : EP := seqK (fun fr h => ev PP true none (cd 15) (an 15) (fr.mask 3) (bodyK PP Try.f26 Q) h) (bodyK PP Try.f26 Q)
@[irreducible] def K1 (Q : VP) : EP := blockK 0 (K2 Q)
@[irreducible] def K4 (Q : VP) : EP := seqK (fun fr h => ev PP true none (cd 31) (an 31) (fr.mask 0) (bodyK PP Try.f26 Q) h) (bodyK PP Try.f26 Q)
@[irreducible] def K3 (Q : VP) : EP := blockK 2 (K4 Q)
@[irreducible] def L2 (s0 xl1 : OA) (xl1n xl1c : Nat) (i8 : Int) (K : EP) (h : Heap) : Prop := Lp PP true (cd 244) (mkFr 0 48 [(0, (.pointer s0)), (1, (.slice xl1 xl1n xl1c)), (8, (.int .i64 i8))]) K h
@[irreducible] def B2 (K : EP) : EP := seqK (fun fr h => Lp PP true (cd 244) (fr.mask 259) K h) K
@[irreducible] def K6 (K : EP) : EP := seqK (fun fr h => ev PP true none (cd 979) (an 979) (fr.mask 259) (B2 K) h) (B2 K)
@[irreducible] def K5 (K : EP) : EP := blockK 3 (K6 K)
@[irreducible] def J1 (s0 xl1 : OA) (xl1n xl1c : Nat) (i8 : Int) (t46 : Bool) (K : EP) (h : Heap) : Prop := Jn PP true (cd 3913) (mkFr 0 48 [(0, (.pointer s0)), (1, (.slice xl1 xl1n xl1c)), (8, (.int .i64 i8)), (46, (.bool t46))]) (K5 K) h
theorem L1_of {s0 xl1 : OA} {xl1n xl1c : Nat} {last6 i7 : Int} {K : EP} {h : Heap} (H :
 let t12 : Bool := decide (i7 < (xl1n : Int))
 br t12 (
 hwp PP (Instr.indexAt T_sl_api_Commit (.slice xl1 xl1n xl1c) (.int .i64 i7)) (fun v h1 => ∃ (t17 : Addr), v = (.pointer (some t17)) ∧
 ∃ (t19 : Int), cellH h1 t17 = some (.int .i64 t19) ∧
 let t21 : Bool := decide (t19 ≤ last6)
 br t21 (
 K .ret (Xret (-1) 130) h1) (
 hwp PP (Instr.indexAt T_sl_api_Commit (.slice xl1 xl1n xl1c) (.int .i64 i7)) (fun v_1 h2 => ∃ (t24 : Addr), v_1 = (.pointer (some t24)) ∧
 ∃ (t26 : Int), cellH h2 t24 = some (.int .i64 t26) ∧
 let t14 : Int := IntKind.i64.wrap (i7 + 1)
 L1 s0 xl1 xl1n xl1c t26 t14 K h2) h1)) h) (
 K (.exit 0) (X0 s0 xl1 xl1n xl1c) h)) : L1 s0 xl1 xl1n xl1c last6 i7 K h := by unfold L1; exact Lp.of_txt (an 116) 195 (by kernel_rfl) H
theorem L1_Xret {Q : VP} {t4 t5 : Int} {h : Heap} (H :
 Q (.tuple #[(.int .i64 t4), (.int .i64 t5)]) h) : (K1 Q) .ret (Xret t4 t5) h := of_eq_txt (by kernel_rfl) H
theorem L1_X0 {Q : VP} {s0 xl1 : OA} {xl1n xl1c : Nat} {h : Heap} (H :
 L2 s0 xl1 xl1n xl1c 0 (K3 Q) h) : (K1 Q) (.exit 0) (X0 s0 xl1 xl1n xl1c) h := of_eq_txt (by kernel_rfl) H
theorem L2_of {s0 xl1 : OA} {xl1n xl1c : Nat} {i8 : Int} {K : EP} {h : Heap} (H :
 let t30 : Bool := decide (i8 < (xl1n : Int))
 br t30 (
 nilc s0 (fun t34 =>
 ∃ (t36 : OA) (t36n t36c : Nat), cellH h (Addr.add t34 3) = some (.slice t36 t36n t36c) ∧
 let t38 : Bool := decide ((t36n : Int) > 0)
 br t38 (
 hwp PP (Instr.indexAt T_sl_api_Commit (.slice xl1 xl1n xl1c) (.int .i64 i8)) (fun v h1 => ∃ (t43 : Addr), v = (.pointer (some t43)) ∧
 ∃ (t44f0 : Int) (t44f1 : OA) (t44f1n t44f1c : Nat), rdCells h1 t43 0 [(.int .i64 t44f0), (.slice t44f1 t44f1n t44f1c)] ∧
 SpecH PP F_ref13_Set_Clash [(.pointer s0), (.agg #[(.int .i64 t44f0), (.slice t44f1 t44f1n t44f1c)])] h1 (fun v_1 h2 => ∃ (t45 : Bool), v_1 = (.bool t45) ∧
 J1 s0 xl1 xl1n xl1c i8 t45 K h2)) h) (
 J1 s0 xl1 xl1n xl1c i8 false K h))) (
 K (.exit 2) (X2) h)) : L2 s0 xl1 xl1n xl1c i8 K h := by unfold L2; exact Lp.of_txt (an 244) 259 (by kernel_rfl) H
theorem L2_Xret {Q : VP} {t4 t5 : Int} {h : Heap} (H :
 Q (.tuple #[(.int .i64 t4), (.int .i64 t5)]) h) : (K3 Q) .ret (Xret t4 t5) h := of_eq_txt (by kernel_rfl) H
theorem J1_of {s0 xl1 : OA} {xl1n xl1c : Nat} {i8 : Int} {t46 : Bool} {K : EP} {h : Heap} (H :
 br t46 (
 K .ret (Xret i8 0) h) (
 let t32 : Int := IntKind.i64.wrap (i8 + 1)
 L2 s0 xl1 xl1n xl1c t32 K h)) : J1 s0 xl1 xl1n xl1c i8 t46 K h := by unfold J1; exact Jn.of_txt (an 3913) (by kernel_rfl) H
theorem L2_X2 {Q : VP}  {h : Heap} (H :
 Q (.tuple #[(.int .i64 (-1)), (.int .i64 0)]) h) : (K3 Q) (.exit 2) (X2 ) h := of_eq_txt (by kernel_rfl) H
theorem door {s0 xl1 : OA} {xl1n xl1c : Nat} {Q : VP} {h : Heap} (H :
 L1 s0 xl1 xl1n xl1c 0 0 (K1 Q) h) : SpecH PP F_ref13_Set_Check [(.pointer s0), (.slice xl1 xl1n xl1c)] h Q :=
   spec_of_txt (ann := ann) Try.func26 rfl rfl (by kernel_rfl) H
end ref13_Set_Check
/-! ### (*haversack/haversackref13.Set).Clash: function 27 -/
namespace ref13_Set_Clash
def ann : Ann := (.seq 9 (.region [(List.range 2, 9)]) (.seq 0 (.seq 41 (.region [(List.range 1, 41)]) (.block (.loop 41 (.seq 41 (.seq 1065 (.region [(List.range 5, 1065)]) (.cond .leaf (.exit 0))) (.seq 41 (.block (.seq 536870953 (.region [(List.range 17, 536870953)]) (.join (.cond (.seq 16 (.region [(List.range 1, 16)]) (.exit 16)) .leaf)))) (.region [(List.range 3, 41)])))))) (.seq 16 (.region [(List.range 1, 16)]) (.exit 16))))
noncomputable abbrev cd (n : Nat) : Code := sub (bodyOf Try.f27) (pth n)
abbrev an (n : Nat) : Ann := subA ann (pth n)
@[irreducible] def X0  : Fr := (mkFr 0 30 [])
@[irreducible] def Xret (t4 : Bool) : Fr := (mkFr 0 30 [(4, (.bool t4))])
@[irreducible] def L1 (s0 : OA) (c3 : Addr) (i5 : Int) (K : EP) (h : Heap) : Prop := Lp PP true (cd 52) (mkFr 0 30 [(0, (.pointer s0)), (3, (.pointer (some c3))), (5, (.int .i64 i5))]) K h
@[irreducible] def B1 (K : EP) : EP := seqK (fun fr h => Lp PP true (cd 52) (fr.mask 41) K h) K
@[irreducible] def K4 (K : EP) : EP := seqK (fun fr h => ev PP true none (cd 211) (an 211) (fr.mask 41) (B1 K) h) (B1 K)
@[irreducible] def K2 (K : EP) : EP := blockK 1 (K4 K)
@[irreducible] def J1 (s0 : OA) (c3 : Addr) (i5 : Int) (t29 : Bool) (K : EP) (h : Heap) : Prop := Jn PP true (cd 841) (mkFr 0 30 [(0, (.pointer s0)), (3, (.pointer (some c3))), (5, (.int .i64 i5)), (29, (.bool t29))]) (K2 K) h
@[irreducible] def K3 (Q : VP) : EP := seqK (fun fr h => ev PP true none (cd 7) (an 7) (fr.mask 0) (bodyK PP Try.f27 Q) h) (bodyK PP Try.f27 Q)
@[irreducible] def K1 (Q : VP) : EP := blockK 0 (K3 Q)
theorem L1_of {s0 : OA} {c3 : Addr} {i5 : Int} {K : EP} {h : Heap} (H :
 ∃ (t8 : OA) (t8n t8c : Nat), cellH h (Addr.add c3 1) = some (.slice t8 t8n t8c) ∧
 let t10 : Bool := decide (i5 < (t8n : Int))
 br t10 (
 ∃ (t14 : Int), cellH h c3 = some (.int .i64 t14) ∧
 nilc s0 (fun t16 =>
 ∃ (t18 : Int), cellH h t16 = some (.int .i64 t18) ∧
 let t19 : Bool := decide (t14 > t18)
 br t19 (
 ∃ (t23 : OA) (t23n t23c : Nat), cellH h (Addr.add c3 1) = some (.slice t23 t23n t23c) ∧
 hwp PP (Instr.indexAt T_sl_api_Write (.slice t23 t23n t23c) (.int .i64 i5)) (fun v h1 => ∃ (t25 : Addr), v = (.pointer (some t25)) ∧
 ∃ (t27f0 t27f1 t27f2 : ByteArray), rdCells h1 t25 0 [(.string t27f0), (.string t27f1), (.string t27f2)] ∧
 SpecH PP F_ref13_Set_meets [(.pointer s0), (.agg #[(.string t27f0), (.string t27f1), (.string t27f2)])] h1 (fun v_1 h2 => ∃ (t28 : Bool), v_1 = (.bool t28) ∧
 J1 s0 c3 i5 t28 K h2)) h) (
 J1 s0 c3 i5 false K h))) (
 K (.exit 0) (X0) h)) : L1 s0 c3 i5 K h := by unfold L1; exact Lp.of_txt (an 52) 41 (by kernel_rfl) H
theorem L1_X0 {Q : VP}  {h : Heap} (H :
 Q (.bool false) h) : (K1 Q) (.exit 0) (X0 ) h := of_eq_txt (by kernel_rfl) H
theorem J1_of {s0 : OA} {c3 : Addr} {i5 : Int} {t29 : Bool} {K : EP} {h : Heap} (H :
 br t29 (
 K .ret (Xret true) h) (
 let t12 : Int := IntKind.i64.wrap (i5 + 1)
 L1 s0 c3 t12 K h)) : J1 s0 c3 i5 t29 K h := by unfold J1; exact Jn.of_txt (an 841) (by kernel_rfl) H
theorem L1_Xret {Q : VP} {t4 : Bool} {h : Heap} (H :
 Q (.bool t4) h) : (K1 Q) .ret (Xret t4) h := of_eq_txt (by kernel_rfl) H
theorem door {s0 : OA} {c1f0 : Int} {c1f1 : OA} {c1f1n c1f1c : Nat} {Q : VP} {h : Heap} (H :
 let c3 : Addr := ⟨Array.size h, 0, none⟩
 let h1 : Heap := Array.push h (.cells #[(.int .i64 c1f0), (.slice c1f1 c1f1n c1f1c)] T_api_Commit (0, 0))
 L1 s0 c3 0 (K1 Q) h1) : SpecH PP F_ref13_Set_Clash [(.pointer s0), (.agg #[(.int .i64 c1f0), (.slice c1f1 c1f1n c1f1c)])] h Q :=
   spec_of_txt (ann := ann) Try.func27 rfl rfl (by kernel_rfl) H
end ref13_Set_Clash
/-! ### slices.SortedFunc[haversack/api.Write]: function 28 -/
namespace slices_SortedFunc_api_Write
def ann : Ann := (.seq 3 (.region [(List.range 1, 3)]) (.seq 34 (.region [(List.range 3, 34)]) (.seq 32 (.region [(List.range 3, 32)]) (.seq 16 (.region [(List.range 2, 16)]) (.exit 16)))))
noncomputable abbrev cd (n : Nat) : Code := sub (bodyOf Try.f28) (pth n)
abbrev an (n : Nat) : Ann := subA ann (pth n)
theorem door {seq0 cmp1 : Value} {Q : VP} {h : Heap} (H :
 SpecH PP F_slices_Collect_api_Write [seq0] h (fun v h1 => ∃ (t7 : OA) (t7n t7c : Nat), v = (.slice t7 t7n t7c) ∧
 SpecH PP F_slices_SortFunc_api_Write_api_Write [(.slice t7 t7n t7c), cmp1] h1 (fun v_1 h2 => v_1 = (.tuple #[]) ∧
 Q (.slice t7 t7n t7c) h2))) : SpecH PP F_slices_SortedFunc_api_Write [seq0, cmp1] h Q :=
   spec_of_txt (ann := ann) Try.func28 rfl rfl (by kernel_rfl) H
end slices_SortedFunc_api_Write
/-! ### maps.Values[map[haversack/api.Key]haversack/api.Write,haversack/api.Key,haversack/api.Write]: function 29 -/
namespace maps_Values_map_api_Key_api_Write_api_Key_api_Write
def ann : Ann := (.seq 2 (.region [(List.range 2, 2)]) (.seq 4 (.region [(List.range 2, 4)]) (.exit 4)))
noncomputable abbrev cd (n : Nat) : Code := sub (bodyOf Try.f29) (pth n)
abbrev an (n : Nat) : Ann := subA ann (pth n)
theorem door {m0 : ON} {Q : VP} {h : Heap} (H :
 let m1 : Addr := ⟨Array.size h, 0, none⟩
 let h1 : Heap := Array.push h (.cells #[(.map m0)] T_map_api_Key_api_Write (0, 0))
 Q (.func (.func F_maps_Values_map_api_Key_api_Write_api_Key_api_Write_1) #[] #[(.pointer (some m1))]) h1) : SpecH PP F_maps_Values_map_api_Key_api_Write_api_Key_api_Write [(.map m0)] h Q :=
   spec_of_txt (ann := ann) Try.func29 rfl rfl (by kernel_rfl) H
end maps_Values_map_api_Key_api_Write_api_Key_api_Write
/-! ### (*haversack/valid.Set).Writes$1: function 30 -/
namespace valid_Set_Writes_1
def ann : Ann := (.seq 12 (.region [(List.range 3, 12)]) (.seq 16 (.region [(List.range 24, 16)]) (.exit 16)))
noncomputable abbrev cd (n : Nat) : Code := sub (bodyOf Try.f30) (pth n)
abbrev an (n : Nat) : Ann := subA ann (pth n)
theorem door {a0f0 a0f1 a0f2 : ByteArray} {a0f3 : Bool} {a0f4 b1f0 b1f1 b1f2 : ByteArray} {b1f3 : Bool} {b1f4 : ByteArray} {Q : VP} {h : Heap} (H :
 let a2 : Addr := ⟨Array.size h, 0, none⟩
 let h1 : Heap := Array.push h (.cells #[(.string a0f0), (.string a0f1), (.string a0f2), (.bool a0f3), (.string a0f4)] T_api_Write (0, 0))
 let b3 : Addr := ⟨Array.size h1, 0, none⟩
 let h2 : Heap := Array.push h1 (.cells #[(.string b1f0), (.string b1f1), (.string b1f2), (.bool b1f3), (.string b1f4)] T_api_Write (0, 0))
 ∃ (t7 : ByteArray), cellH h2 a2 = some (.string t7) ∧
 ∃ (t10 : ByteArray), cellH h2 b3 = some (.string t10) ∧
 ∃ v, PureAt PP F_cmp_Compare_string [(.string t7), (.string t10)] v ∧
 ∃ (t11 : Int), v = (.int .i64 t11) ∧
 ∃ (t14 : ByteArray), cellH h2 (Addr.add a2 1) = some (.string t14) ∧
 ∃ (t17 : ByteArray), cellH h2 (Addr.add b3 1) = some (.string t17) ∧
 ∃ v_1, PureAt PP F_cmp_Compare_string [(.string t14), (.string t17)] v_1 ∧
 ∃ (t18 : Int), v_1 = (.int .i64 t18) ∧
 ∃ (t21 : ByteArray), cellH h2 (Addr.add a2 2) = some (.string t21) ∧
 ∃ (t24 : ByteArray), cellH h2 (Addr.add b3 2) = some (.string t24) ∧
 ∃ v_2, PureAt PP F_cmp_Compare_string [(.string t21), (.string t24)] v_2 ∧
 ∃ (t25 : Int), v_2 = (.int .i64 t25) ∧
 let h3 : Heap := Array.push h2 (.cells #[(.int .i64 t11), (.int .i64 t18), (.int .i64 t25)] T_int (0, 0))
 SpecH PP F_cmp_Or_int [(.slice (some ⟨Array.size h2, 0, none⟩) 3 3)] h3 (fun v_3 h4 => ∃ (t27 : Int), v_3 = (.int .i64 t27) ∧
 Q (.int .i64 t27) h4)) : SpecH PP F_valid_Set_Writes_1 [(.agg #[(.string a0f0), (.string a0f1), (.string a0f2), (.bool a0f3), (.string a0f4)]), (.agg #[(.string b1f0), (.string b1f1), (.string b1f2), (.bool b1f3), (.string b1f4)])] h Q :=
   spec_of_txt (ann := ann) Try.func30 rfl rfl (by kernel_rfl) H
end valid_Set_Writes_1
/-! ### cmp.Or[int]: function 31 -/
namespace cmp_Or_int
def ann : Ann := (.seq 1 (.region [(List.range 1, 1)]) (.seq 9 (.region [(List.range 1, 9)]) (.seq 8 (.seq 456 (.region [(List.range 3, 456)]) (.block (.loop 456 (.seq 968 (.region [(List.range 1, 968)]) (.seq 456 (.cond .leaf (.exit 8)) (.seq 456 (.block (.seq 488 (.region [(List.range 3, 488)]) (.seq 16872 (.region [(List.range 3, 16872)]) (.cond (.seq 4 (.region [(List.range 2, 4)]) (.exit 4)) .leaf)))) (.region [(List.range 2, 456)]))))))) (.seq 4 (.region [(List.range 2, 4)]) (.exit 4)))))
noncomputable abbrev cd (n : Nat) : Code := sub (bodyOf Try.f31) (pth n)
abbrev an (n : Nat) : Ann := subA ann (pth n)
@[irreducible] def Xret (t2 : Int) : Fr := (mkFr 0 18 [(2, (.int .i64 t2))])
@[irreducible] def X0 (zero3 : Int) : Fr := (mkFr 0 18 [(3, (.int .i64 zero3))])
@[irreducible] def L1 (zero3 : Int) (t6 : OA) (t6n t6c : Nat) (t7 t8 : Int) (K : EP) (h : Heap) : Prop := Lp PP true (cd 116) (mkFr 0 18 [(3, (.int .i64 zero3)), (6, (.slice t6 t6n t6c)), (7, (.int .i64 t7)), (8, (.int .i64 t8))]) K h
@[irreducible] def B1 (K : EP) : EP := seqK (fun fr h => Lp PP true (cd 116) (fr.mask 456) K h) K
@[irreducible] def K2 (Q : VP) : EP := seqK (fun fr h => ev PP true none (cd 15) (an 15) (fr.mask 8) (bodyK PP Try.f31 Q) h) (bodyK PP Try.f31 Q)
@[irreducible] def K1 (Q : VP) : EP := blockK 0 (K2 Q)
theorem L1_of {zero3 : Int} {t6 : OA} {t6n t6c : Nat} {t7 t8 : Int} {K : EP} {h : Heap} (H :
 let t9 : Bool := decide (t8 < t7)
 br t9 (
 hwp PP (Instr.indexAt T_sl_int (.slice t6 t6n t6c) (.int .i64 t8)) (fun v h1 => ∃ (t10 : Addr), v = (.pointer (some t10)) ∧
 ∃ (t11 : Int), cellH h1 t10 = some (.int .i64 t11) ∧
 let t14 : Bool := (t11 != zero3)
 br t14 (
 K .ret (Xret t11) h1) (
 let t16 : Int := IntKind.i64.wrap (t8 + 1)
 L1 zero3 t6 t6n t6c t7 t16 K h1)) h) (
 K (.exit 0) (X0 zero3) h)) : L1 zero3 t6 t6n t6c t7 t8 K h := by unfold L1; exact Lp.of_txt (an 116) 456 (by kernel_rfl) H
theorem L1_Xret {Q : VP} {t2 : Int} {h : Heap} (H :
 Q (.int .i64 t2) h) : (K1 Q) .ret (Xret t2) h := of_eq_txt (by kernel_rfl) H
theorem L1_X0 {Q : VP} {zero3 : Int} {h : Heap} (H :
 Q (.int .i64 zero3) h) : (K1 Q) (.exit 0) (X0 zero3) h := of_eq_txt (by kernel_rfl) H
theorem door {vals0 : OA} {vals0n vals0c : Nat} {Q : VP} {h : Heap} (H :
 L1 0 vals0 vals0n vals0c (vals0n : Int) 0 (K1 Q) h) : SpecH PP F_cmp_Or_int [(.slice vals0 vals0n vals0c)] h Q :=
   spec_of_txt (ann := ann) Try.func31 rfl rfl (by kernel_rfl) H
end cmp_Or_int
/-! ### cmp.Compare[string]: function 32 -/
namespace cmp_Compare_string
def ann : Ann := (.seq 3 (.region [(List.range 1, 3)]) (.seq 35 (.region [(List.range 3, 35)]) (.seq 99 (.region [(List.range 3, 99)]) (.seq 67 (.seq 2115 (.region [(List.range 1, 2115)]) (.cond (.seq 0 (.seq 4096 (.region [(List.range 1, 4096)]) (.cond (.seq 16 (.region [(List.range 1, 16)]) (.exit 16)) .leaf)) (.seq 16 (.region [(List.range 1, 16)]) (.exit 16))) .leaf)) (.seq 3 (.seq 8195 (.region [(List.range 1, 8195)]) (.cond (.seq 16 (.region [(List.range 1, 16)]) (.exit 16)) .leaf)) (.seq 3 (.seq 65539 (.region [(List.range 3, 65539)]) (.cond (.seq 16 (.region [(List.range 1, 16)]) (.exit 16)) .leaf)) (.seq 0 (.seq 524288 (.region [(List.range 3, 524288)]) (.cond (.seq 16 (.region [(List.range 1, 16)]) (.exit 16)) .leaf)) (.seq 16 (.region [(List.range 1, 16)]) (.exit 16)))))))))
noncomputable abbrev cd (n : Nat) : Code := sub (bodyOf Try.f32) (pth n)
abbrev an (n : Nat) : Ann := subA ann (pth n)
theorem door {x0 y1 : ByteArray} {Q : VP} {h : Heap} (H :
 ∃ v, PureAt PP F_cmp_isNaN_string [(.string x0)] v ∧
 ∃ (t8 : Bool), v = (.bool t8) ∧
 ∃ v_1, PureAt PP F_cmp_isNaN_string [(.string y1)] v_1 ∧
 ∃ (t10 : Bool), v_1 = (.bool t10) ∧
 br t8 (
 br t10 (
 Q (.int .i64 0) h) (
 Q (.int .i64 (-1)) h)) (
 br t10 (
 Q (.int .i64 1) h) (
 let t16 : Bool := strLt x0 y1
 br t16 (
 Q (.int .i64 (-1)) h) (
 let t19 : Bool := (!(strLt x0 y1 || decide (x0 = y1)))
 br t19 (
 Q (.int .i64 1) h) (
 Q (.int .i64 0) h))))) : SpecH PP F_cmp_Compare_string [(.string x0), (.string y1)] h Q :=
   spec_of_txt (ann := ann) Try.func32 rfl rfl (by kernel_rfl) H
end cmp_Compare_string
/-! ### slices.IndexFunc[[]haversack/api.Commit,haversack/api.Commit]: function 33 -/
namespace slices_IndexFunc_api_Commit_api_Commit
def ann : Ann := (.seq 3 (.region [(List.range 1, 3)]) (.seq 0 (.seq 387 (.region [(List.range 3, 387)]) (.block (.loop 387 (.seq 899 (.region [(List.range 1, 899)]) (.seq 387 (.cond .leaf (.exit 0)) (.seq 387 (.block (.seq 419 (.region [(List.range 2, 419)]) (.seq 65955 (.region [(List.range 6, 65955)]) (.cond (.seq 16 (.region [(List.range 2, 16)]) (.exit 16)) .leaf)))) (.region [(List.range 2, 387)]))))))) (.seq 16 (.region [(List.range 1, 16)]) (.exit 16))))
noncomputable abbrev cd (n : Nat) : Code := sub (bodyOf Try.f33) (pth n)
abbrev an (n : Nat) : Ann := subA ann (pth n)
@[irreducible] def Xret (t4 : Int) : Fr := (mkFr 0 19 [(4, (.int .i64 t4))])
@[irreducible] def X0  : Fr := (mkFr 0 19 [])
@[irreducible] def L1 (s0 : OA) (s0n s0c : Nat) (f1 : Value) (t7 t8 : Int) (K : EP) (h : Heap) : Prop := Lp PP true (cd 52) (mkFr 0 19 [(0, (.slice s0 s0n s0c)), (1, f1), (7, (.int .i64 t7)), (8, (.int .i64 t8))]) K h
@[irreducible] def B1 (K : EP) : EP := seqK (fun fr h => Lp PP true (cd 52) (fr.mask 387) K h) K
@[irreducible] def K2 (Q : VP) : EP := seqK (fun fr h => ev PP true none (cd 7) (an 7) (fr.mask 0) (bodyK PP Try.f33 Q) h) (bodyK PP Try.f33 Q)
@[irreducible] def K1 (Q : VP) : EP := blockK 0 (K2 Q)
theorem L1_of {s0 : OA} {s0n s0c : Nat} {f1 : Value} {t7 t8 : Int} {K : EP} {h : Heap} (H :
 let t9 : Bool := decide (t8 < t7)
 br t9 (
 hwp PP (Instr.indexAt T_sl_api_Commit (.slice s0 s0n s0c) (.int .i64 t8)) (fun v h1 => ∃ (t14 : Addr), v = (.pointer (some t14)) ∧
 ∃ (t15f0 : Int) (t15f1 : OA) (t15f1n t15f1c : Nat), rdCells h1 t14 0 [(.int .i64 t15f0), (.slice t15f1 t15f1n t15f1c)] ∧
 callV PP f1 [(.agg #[(.int .i64 t15f0), (.slice t15f1 t15f1n t15f1c)])] (fun v_1 h2 => ∃ (t16 : Bool), v_1 = (.bool t16) ∧
 br t16 (
 K .ret (Xret t8) h2) (
 let t18 : Int := IntKind.i64.wrap (t8 + 1)
 L1 s0 s0n s0c f1 t7 t18 K h2)) h1) h) (
 K (.exit 0) (X0) h)) : L1 s0 s0n s0c f1 t7 t8 K h := by unfold L1; exact Lp.of_txt (an 52) 387 (by kernel_rfl) H
theorem L1_Xret {Q : VP} {t4 : Int} {h : Heap} (H :
 Q (.int .i64 t4) h) : (K1 Q) .ret (Xret t4) h := of_eq_txt (by kernel_rfl) H
theorem L1_X0 {Q : VP}  {h : Heap} (H :
 Q (.int .i64 (-1)) h) : (K1 Q) (.exit 0) (X0 ) h := of_eq_txt (by kernel_rfl) H
theorem door {s0 : OA} {s0n s0c : Nat} {f1 : Value} {Q : VP} {h : Heap} (H :
 L1 s0 s0n s0c f1 (s0n : Int) 0 (K1 Q) h) : SpecH PP F_slices_IndexFunc_api_Commit_api_Commit [(.slice s0 s0n s0c), f1] h Q :=
   spec_of_txt (ann := ann) Try.func33 rfl rfl (by kernel_rfl) H
end slices_IndexFunc_api_Commit_api_Commit
/-! ### slices.IndexFunc[[]haversack/api.Write,haversack/api.Write]: function 34 -/
namespace slices_IndexFunc_api_Write_api_Write
def ann : Ann := (.seq 3 (.region [(List.range 1, 3)]) (.seq 0 (.seq 387 (.region [(List.range 3, 387)]) (.block (.loop 387 (.seq 899 (.region [(List.range 1, 899)]) (.seq 387 (.cond .leaf (.exit 0)) (.seq 387 (.block (.seq 419 (.region [(List.range 2, 419)]) (.seq 65955 (.region [(List.range 6, 65955)]) (.cond (.seq 16 (.region [(List.range 2, 16)]) (.exit 16)) .leaf)))) (.region [(List.range 2, 387)]))))))) (.seq 16 (.region [(List.range 1, 16)]) (.exit 16))))
noncomputable abbrev cd (n : Nat) : Code := sub (bodyOf Try.f34) (pth n)
abbrev an (n : Nat) : Ann := subA ann (pth n)
@[irreducible] def Xret (t4 : Int) : Fr := (mkFr 0 19 [(4, (.int .i64 t4))])
@[irreducible] def X0  : Fr := (mkFr 0 19 [])
@[irreducible] def L1 (s0 : OA) (s0n s0c : Nat) (f1 : Value) (t7 t8 : Int) (K : EP) (h : Heap) : Prop := Lp PP true (cd 52) (mkFr 0 19 [(0, (.slice s0 s0n s0c)), (1, f1), (7, (.int .i64 t7)), (8, (.int .i64 t8))]) K h
@[irreducible] def B1 (K : EP) : EP := seqK (fun fr h => Lp PP true (cd 52) (fr.mask 387) K h) K
@[irreducible] def K2 (Q : VP) : EP := seqK (fun fr h => ev PP true none (cd 7) (an 7) (fr.mask 0) (bodyK PP Try.f34 Q) h) (bodyK PP Try.f34 Q)
@[irreducible] def K1 (Q : VP) : EP := blockK 0 (K2 Q)
theorem L1_of {s0 : OA} {s0n s0c : Nat} {f1 : Value} {t7 t8 : Int} {K : EP} {h : Heap} (H :
 let t9 : Bool := decide (t8 < t7)
 br t9 (
 hwp PP (Instr.indexAt T_sl_api_Write (.slice s0 s0n s0c) (.int .i64 t8)) (fun v h1 => ∃ (t14 : Addr), v = (.pointer (some t14)) ∧
 ∃ (t15f0 t15f1 t15f2 : ByteArray) (t15f3 : Bool) (t15f4 : ByteArray), rdCells h1 t14 0 [(.string t15f0), (.string t15f1), (.string t15f2), (.bool t15f3), (.string t15f4)] ∧
 callV PP f1 [(.agg #[(.string t15f0), (.string t15f1), (.string t15f2), (.bool t15f3), (.string t15f4)])] (fun v_1 h2 => ∃ (t16 : Bool), v_1 = (.bool t16) ∧
 br t16 (
 K .ret (Xret t8) h2) (
 let t18 : Int := IntKind.i64.wrap (t8 + 1)
 L1 s0 s0n s0c f1 t7 t18 K h2)) h1) h) (
 K (.exit 0) (X0) h)) : L1 s0 s0n s0c f1 t7 t8 K h := by unfold L1; exact Lp.of_txt (an 52) 387 (by kernel_rfl) H
theorem L1_Xret {Q : VP} {t4 : Int} {h : Heap} (H :
 Q (.int .i64 t4) h) : (K1 Q) .ret (Xret t4) h := of_eq_txt (by kernel_rfl) H
theorem L1_X0 {Q : VP}  {h : Heap} (H :
 Q (.int .i64 (-1)) h) : (K1 Q) (.exit 0) (X0 ) h := of_eq_txt (by kernel_rfl) H
theorem door {s0 : OA} {s0n s0c : Nat} {f1 : Value} {Q : VP} {h : Heap} (H :
 L1 s0 s0n s0c f1 (s0n : Int) 0 (K1 Q) h) : SpecH PP F_slices_IndexFunc_api_Write_api_Write [(.slice s0 s0n s0c), f1] h Q :=
   spec_of_txt (ann := ann) Try.func34 rfl rfl (by kernel_rfl) H
end slices_IndexFunc_api_Write_api_Write
/-! ### haversack/haversackref13.Before: function 35 -/
namespace ref13_Before
def ann : Ann := (.seq 12 (.region [(List.range 3, 12)]) (.seq 12 (.block (.seq 44 (.region [(List.range 6, 44)]) (.cond (.seq 16 (.region [(List.range 6, 16)]) (.exit 16)) (.seq 65548 (.region [(List.range 6, 65548)]) (.cond (.seq 16 (.region [(List.range 6, 16)]) (.exit 16)) .leaf))))) (.seq 16 (.region [(List.range 6, 16)]) (.exit 16))))
noncomputable abbrev cd (n : Nat) : Code := sub (bodyOf Try.f35) (pth n)
abbrev an (n : Nat) : Ann := subA ann (pth n)
theorem door {a0f0 a0f1 a0f2 b1f0 b1f1 b1f2 : ByteArray} {Q : VP} {h : Heap} (H :
 let a2 : Addr := ⟨Array.size h, 0, none⟩
 let h1 : Heap := Array.push h (.cells #[(.string a0f0), (.string a0f1), (.string a0f2)] T_api_Key (0, 0))
 let b3 : Addr := ⟨Array.size h1, 0, none⟩
 let h2 : Heap := Array.push h1 (.cells #[(.string b1f0), (.string b1f1), (.string b1f2)] T_api_Key (0, 0))
 ∃ (t7 : ByteArray), cellH h2 a2 = some (.string t7) ∧
 ∃ (t9 : ByteArray), cellH h2 b3 = some (.string t9) ∧
 let t10 : Bool := (!decide (t7 = t9))
 br t10 (
 ∃ (t12 : ByteArray), cellH h2 a2 = some (.string t12) ∧
 ∃ (t14 : ByteArray), cellH h2 b3 = some (.string t14) ∧
 let t15 : Bool := strLt t12 t14
 Q (.bool t15) h2) (
 ∃ (t18 : ByteArray), cellH h2 (Addr.add a2 1) = some (.string t18) ∧
 ∃ (t20 : ByteArray), cellH h2 (Addr.add b3 1) = some (.string t20) ∧
 let t21 : Bool := (!decide (t18 = t20))
 br t21 (
 ∃ (t23 : ByteArray), cellH h2 (Addr.add a2 1) = some (.string t23) ∧
 ∃ (t25 : ByteArray), cellH h2 (Addr.add b3 1) = some (.string t25) ∧
 let t26 : Bool := strLt t23 t25
 Q (.bool t26) h2) (
 ∃ (t28 : ByteArray), cellH h2 (Addr.add a2 2) = some (.string t28) ∧
 ∃ (t30 : ByteArray), cellH h2 (Addr.add b3 2) = some (.string t30) ∧
 let t31 : Bool := strLt t28 t30
 Q (.bool t31) h2))) : SpecH PP F_ref13_Before [(.agg #[(.string a0f0), (.string a0f1), (.string a0f2)]), (.agg #[(.string b1f0), (.string b1f1), (.string b1f2)])] h Q :=
   spec_of_txt (ann := ann) Try.func35 rfl rfl (by kernel_rfl) H
end ref13_Before
/-! ### (*haversack/haversackref13.Set).meets: function 36 -/
namespace ref13_Set_meets
def ann : Ann := (.seq 9 (.region [(List.range 2, 9)]) (.seq 9 (.seq 41 (.region [(List.range 1, 41)]) (.block (.loop 41 (.seq 41 (.seq 8233 (.region [(List.range 7, 8233)]) (.cond .leaf (.exit 9))) (.seq 41 (.block (.seq 16777257 (.region [(List.range 9, 16777257)]) (.cond (.seq 16 (.region [(List.range 1, 16)]) (.exit 16)) .leaf))) (.region [(List.range 3, 41)])))))) (.seq 0 (.seq 73 (.region [(List.range 1, 73)]) (.block (.loop 73 (.seq 73 (.seq 2147483721 (.region [(List.range 7, 2147483721)]) (.cond .leaf (.exit 0))) (.seq 73 (.block (.seq 144115188075855945 (.region [(List.range 24, 144115188075855945)]) (.join (.cond (.seq 16 (.region [(List.range 1, 16)]) (.exit 16)) .leaf)))) (.region [(List.range 3, 73)])))))) (.seq 16 (.region [(List.range 1, 16)]) (.exit 16)))))
noncomputable abbrev cd (n : Nat) : Code := sub (bodyOf Try.f36) (pth n)
abbrev an (n : Nat) : Ann := subA ann (pth n)
@[irreducible] def Xret (t4 : Bool) : Fr := (mkFr 0 58 [(4, (.bool t4))])
@[irreducible] def X0 (s0 : OA) (k3 : Addr) : Fr := (mkFr 0 58 [(0, (.pointer s0)), (3, (.pointer (some k3)))])
@[irreducible] def X2  : Fr := (mkFr 0 58 [])
@[irreducible] def L1 (s0 : OA) (k3 : Addr) (i5 : Int) (K : EP) (h : Heap) : Prop := Lp PP true (cd 52) (mkFr 0 58 [(0, (.pointer s0)), (3, (.pointer (some k3))), (5, (.int .i64 i5))]) K h
@[irreducible] def B1 (K : EP) : EP := seqK (fun fr h => Lp PP true (cd 52) (fr.mask 41) K h) K
@[irreducible] def K2 (Q : VP) : EP := seqK (fun fr h => ev PP true none (cd 7) (an 7) (fr.mask 9) (bodyK PP Try.f36 Q) h) (bodyK PP Try.f36 Q)
@[irreducible] def K1 (Q : VP) : EP := blockK 0 (K2 Q)
@[irreducible] def K4 (Q : VP) : EP := seqK (fun fr h => ev PP true none (cd 15) (an 15) (fr.mask 0) (bodyK PP Try.f36 Q) h) (bodyK PP Try.f36 Q)
@[irreducible] def K3 (Q : VP) : EP := blockK 2 (K4 Q)
@[irreducible] def L2 (s0 : OA) (k3 : Addr) (i6 : Int) (K : EP) (h : Heap) : Prop := Lp PP true (cd 116) (mkFr 0 58 [(0, (.pointer s0)), (3, (.pointer (some k3))), (6, (.int .i64 i6))]) K h
@[irreducible] def B2 (K : EP) : EP := seqK (fun fr h => Lp PP true (cd 116) (fr.mask 73) K h) K
@[irreducible] def K6 (K : EP) : EP := seqK (fun fr h => ev PP true none (cd 467) (an 467) (fr.mask 73) (B2 K) h) (B2 K)
@[irreducible] def K5 (K : EP) : EP := blockK 3 (K6 K)
@[irreducible] def J1 (s0 : OA) (k3 : Addr) (i6 : Int) (t57 : Bool) (K : EP) (h : Heap) : Prop := Jn PP true (cd 1865) (mkFr 0 58 [(0, (.pointer s0)), (3, (.pointer (some k3))), (6, (.int .i64 i6)), (57, (.bool t57))]) (K5 K) h
theorem L1_of {s0 : OA} {k3 : Addr} {i5 : Int} {K : EP} {h : Heap} (H :
 nilc s0 (fun t9 =>
 ∃ (t11 : OA) (t11n t11c : Nat), cellH h (Addr.add t9 1) = some (.slice t11 t11n t11c) ∧
 let t13 : Bool := decide (i5 < (t11n : Int))
 br t13 (
 nilc s0 (fun t17 =>
 ∃ (t19 : OA) (t19n t19c : Nat), cellH h (Addr.add t17 1) = some (.slice t19 t19n t19c) ∧
 hwp PP (Instr.indexAt T_sl_api_Key (.slice t19 t19n t19c) (.int .i64 i5)) (fun v h1 => ∃ (t21 : Addr), v = (.pointer (some t21)) ∧
 ∃ (t22f0 t22f1 t22f2 : ByteArray), rdCells h1 t21 0 [(.string t22f0), (.string t22f1), (.string t22f2)] ∧
 ∃ (t23f0 t23f1 t23f2 : ByteArray), rdCells h1 k3 0 [(.string t23f0), (.string t23f1), (.string t23f2)] ∧
 let t24 : Bool := (decide (t22f0 = t23f0) && (decide (t22f1 = t23f1) && (decide (t22f2 = t23f2) && true)))
 br t24 (
 K .ret (Xret true) h1) (
 let t15 : Int := IntKind.i64.wrap (i5 + 1)
 L1 s0 k3 t15 K h1)) h)) (
 K (.exit 0) (X0 s0 k3) h))) : L1 s0 k3 i5 K h := by unfold L1; exact Lp.of_txt (an 52) 41 (by kernel_rfl) H
theorem L1_Xret {Q : VP} {t4 : Bool} {h : Heap} (H :
 Q (.bool t4) h) : (K1 Q) .ret (Xret t4) h := of_eq_txt (by kernel_rfl) H
theorem L1_X0 {Q : VP} {s0 : OA} {k3 : Addr} {h : Heap} (H :
 L2 s0 k3 0 (K3 Q) h) : (K1 Q) (.exit 0) (X0 s0 k3) h := of_eq_txt (by kernel_rfl) H
theorem L2_of {s0 : OA} {k3 : Addr} {i6 : Int} {K : EP} {h : Heap} (H :
 nilc s0 (fun t27 =>
 ∃ (t29 : OA) (t29n t29c : Nat), cellH h (Addr.add t27 2) = some (.slice t29 t29n t29c) ∧
 let t31 : Bool := decide (i6 < (t29n : Int))
 br t31 (
 nilc s0 (fun t35 =>
 ∃ (t37 : OA) (t37n t37c : Nat), cellH h (Addr.add t35 2) = some (.slice t37 t37n t37c) ∧
 hwp PP (Instr.indexAt T_sl_api_Box (.slice t37 t37n t37c) (.int .i64 i6)) (fun v h1 => ∃ (t39 : Addr), v = (.pointer (some t39)) ∧
 ∃ (t41 : ByteArray), cellH h1 t39 = some (.string t41) ∧
 ∃ (t43 : ByteArray), cellH h1 k3 = some (.string t43) ∧
 let t44 : Bool := decide (t41 = t43)
 br t44 (
 nilc s0 (fun t47 =>
 ∃ (t49 : OA) (t49n t49c : Nat), cellH h1 (Addr.add t47 2) = some (.slice t49 t49n t49c) ∧
 hwp PP (Instr.indexAt T_sl_api_Box (.slice t49 t49n t49c) (.int .i64 i6)) (fun v_1 h2 => ∃ (t51 : Addr), v_1 = (.pointer (some t51)) ∧
 ∃ (t53 : ByteArray), cellH h2 (Addr.add t51 1) = some (.string t53) ∧
 ∃ (t55 : ByteArray), cellH h2 (Addr.add k3 1) = some (.string t55) ∧
 let t56 : Bool := decide (t53 = t55)
 J1 s0 k3 i6 t56 K h2) h1)) (
 J1 s0 k3 i6 false K h1)) h)) (
 K (.exit 2) (X2) h))) : L2 s0 k3 i6 K h := by unfold L2; exact Lp.of_txt (an 116) 73 (by kernel_rfl) H
theorem L2_Xret {Q : VP} {t4 : Bool} {h : Heap} (H :
 Q (.bool t4) h) : (K3 Q) .ret (Xret t4) h := of_eq_txt (by kernel_rfl) H
theorem J1_of {s0 : OA} {k3 : Addr} {i6 : Int} {t57 : Bool} {K : EP} {h : Heap} (H :
 br t57 (
 K .ret (Xret true) h) (
 let t33 : Int := IntKind.i64.wrap (i6 + 1)
 L2 s0 k3 t33 K h)) : J1 s0 k3 i6 t57 K h := by unfold J1; exact Jn.of_txt (an 1865) (by kernel_rfl) H
theorem L2_X2 {Q : VP}  {h : Heap} (H :
 Q (.bool false) h) : (K3 Q) (.exit 2) (X2 ) h := of_eq_txt (by kernel_rfl) H
theorem door {s0 : OA} {k1f0 k1f1 k1f2 : ByteArray} {Q : VP} {h : Heap} (H :
 let k3 : Addr := ⟨Array.size h, 0, none⟩
 let h1 : Heap := Array.push h (.cells #[(.string k1f0), (.string k1f1), (.string k1f2)] T_api_Key (0, 0))
 L1 s0 k3 0 (K1 Q) h1) : SpecH PP F_ref13_Set_meets [(.pointer s0), (.agg #[(.string k1f0), (.string k1f1), (.string k1f2)])] h Q :=
   spec_of_txt (ann := ann) Try.func36 rfl rfl (by kernel_rfl) H
end ref13_Set_meets
/-! ### slices.Collect[haversack/api.Write]: function 37 -/
namespace slices_Collect_api_Write
def ann : Ann := (.seq 1 (.region [(List.range 1, 1)]) (.seq 4 (.region [(List.range 3, 4)]) (.exit 4)))
noncomputable abbrev cd (n : Nat) : Code := sub (bodyOf Try.f37) (pth n)
abbrev an (n : Nat) : Ann := subA ann (pth n)
theorem door {seq0 : Value} {Q : VP} {h : Heap} (H :
 SpecH PP F_slices_AppendSeq_api_Write_api_Write [(.slice none 0 0), seq0] h (fun v h1 => ∃ (t4 : OA) (t4n t4c : Nat), v = (.slice t4 t4n t4c) ∧
 Q (.slice t4 t4n t4c) h1)) : SpecH PP F_slices_Collect_api_Write [seq0] h Q :=
   spec_of_txt (ann := ann) Try.func37 rfl rfl (by kernel_rfl) H
end slices_Collect_api_Write
/-! ### slices.SortFunc[[]haversack/api.Write,haversack/api.Write]: function 38 -/
namespace slices_SortFunc_api_Write_api_Write
def ann : Ann := (.seq 19 (.region [(List.range 3, 19)]) (.region [(List.range 7, 0)]))
noncomputable abbrev cd (n : Nat) : Code := sub (bodyOf Try.f38) (pth n)
abbrev an (n : Nat) : Ann := subA ann (pth n)
theorem door {x0 : OA} {x0n x0c : Nat} {cmp1 : Value} {Q : VP} {h : Heap} (H :
 let t10 : Int := IntKind.u64.wrap (x0n : Int)
 SpecH PP F_math_bits_Len [(.int .u64 t10)] h (fun v h1 => ∃ (t11 : Int), v = (.int .i64 t11) ∧
 SpecH PP F_slices_pdqsortCmpFunc_api_Write [(.slice x0 x0n x0c), (.int .i64 0), (.int .i64 (x0n : Int)), (.int .i64 t11), cmp1] h1 (fun v_1 h2 => v_1 = (.tuple #[]) ∧
 Q (.tuple #[]) h2))) : SpecH PP F_slices_SortFunc_api_Write_api_Write [(.slice x0 x0n x0c), cmp1] h Q :=
   spec_of_txt (ann := ann) Try.func38 rfl rfl (by kernel_rfl) H
end slices_SortFunc_api_Write_api_Write
/-! ### maps.Values[map[haversack/api.Key]haversack/api.Write,haversack/api.Key,haversack/api.Write]$1: function 39 -/
namespace maps_Values_map_api_Key_api_Write_api_Key_api_Write_1
def ann : Ann := (.seq 65 (.region [(List.range 2, 65)]) (.block (.loop 65 (.seq 321 (.region [(List.range 2, 321)]) (.seq 65 (.cond .leaf (.exit 0)) (.block (.seq 81 (.region [(List.range 4, 81)]) (.seq 16449 (.region [(List.range 4, 16449)]) (.cond (.exit 0) .leaf)))))))))
noncomputable abbrev cd (n : Nat) : Code := sub (bodyOf Try.f39) (pth n)
abbrev an (n : Nat) : Ann := subA ann (pth n)
@[irreducible] def Xret  : Fr := (mkFr 0 15 [])
@[irreducible] def X0  : Fr := (mkFr 0 15 [])
@[irreducible] def L1 (yield0 t6 : Value) (K : EP) (h : Heap) : Prop := Lp PP true (cd 12) (mkFr 0 15 [(0, yield0), (6, t6)]) K h
@[irreducible] def B1 (K : EP) : EP := seqK (fun fr h => Lp PP true (cd 12) (fr.mask 65) K h) K
@[irreducible] def K1 (Q : VP) : EP := blockK 0 (bodyK PP Try.f39 Q)
theorem L1_of {yield0 t6 : Value} {K : EP} {h : Heap} (H :
 hwp PP (Instr.next t6 false T_) (fun v h1 => ∃ (b : Bool) (r : List Value), v = .tuple ((.bool b :: r).toArray) ∧
 br b (
 hwp PP (Instr.entry t6) (fun v_1 h2 => ∃ (t9 t9_1 : Value), v_1 = (.tuple #[t9, t9_1]) ∧
 ∃ (t10f0 t10f1 t10f2 : ByteArray) (t10f3 : Bool) (t10f4 : ByteArray), t9_1 = (.agg #[(.string t10f0), (.string t10f1), (.string t10f2), (.bool t10f3), (.string t10f4)]) ∧
 let v4 : Addr := ⟨Array.size h2, 0, none⟩
 let h3 : Heap := Array.push h2 (.cells #[(.string (⟨#[]⟩ : ByteArray)), (.string (⟨#[]⟩ : ByteArray)), (.string (⟨#[]⟩ : ByteArray)), (.bool false), (.string (⟨#[]⟩ : ByteArray))] T_api_Write (0, 0))
 wrCells v4 0 [(.string t10f0), (.string t10f1), (.string t10f2), (.bool t10f3), (.string t10f4)] (fun h4 =>
 ∃ (t12f0 t12f1 t12f2 : ByteArray) (t12f3 : Bool) (t12f4 : ByteArray), rdCells h4 v4 0 [(.string t12f0), (.string t12f1), (.string t12f2), (.bool t12f3), (.string t12f4)] ∧
 callV PP yield0 [(.agg #[(.string t12f0), (.string t12f1), (.string t12f2), (.bool t12f3), (.string t12f4)])] (fun v_2 h5 => ∃ (t13 : Bool), v_2 = (.bool t13) ∧
 let t14 : Bool := (!t13)
 br t14 (
 K .ret (Xret) h5) (
 L1 yield0 t6 K h5)) h4) h3) h1) (
 K (.exit 0) (X0) h1)) h) : L1 yield0 t6 K h := by unfold L1; exact Lp.of_txt (an 12) 65 (by kernel_rfl) H
theorem L1_Xret {Q : VP}  {h : Heap} (H :
 Q (.tuple #[]) h) : (K1 Q) .ret (Xret ) h := of_eq_txt (by kernel_rfl) H
theorem L1_X0 {Q : VP}  {h : Heap} (H :
 Q (.tuple #[]) h) : (K1 Q) (.exit 0) (X0 ) h := of_eq_txt (by kernel_rfl) H
theorem door {yield0 : Value} {t1 : Addr} {Q : VP} {h : Heap} (H :
 ∃ (t5 : ON), cellH h t1 = some (.map t5) ∧
 hwp PP (Instr.range T_map_api_Key_api_Write (.map t5)) (fun v h1 => ∃ (t6 : Value), v = t6 ∧
 L1 yield0 t6 (K1 Q) h1) h) : SpecH PP F_maps_Values_map_api_Key_api_Write_api_Key_api_Write_1 [yield0, (.pointer (some t1))] h Q :=
   spec_of_txt (ann := ann) Try.func39 rfl rfl (by kernel_rfl) H
end maps_Values_map_api_Key_api_Write_api_Key_api_Write_1
/-! ### cmp.isNaN[string]: function 40 -/
namespace cmp_isNaN_string
def ann : Ann := (.seq 1 (.region [(List.range 1, 1)]) (.seq 4 (.region [(List.range 4, 4)]) (.exit 4)))
noncomputable abbrev cd (n : Nat) : Code := sub (bodyOf Try.f40) (pth n)
abbrev an (n : Nat) : Ann := subA ann (pth n)
theorem door {x0 : ByteArray} {Q : VP} {h : Heap} (H :
 let t5 : Bool := (!decide (x0 = x0))
 Q (.bool t5) h) : SpecH PP F_cmp_isNaN_string [(.string x0)] h Q :=
   spec_of_txt (ann := ann) Try.func40 rfl rfl (by kernel_rfl) H
end cmp_isNaN_string
/-! ### slices.AppendSeq[[]haversack/api.Write,haversack/api.Write]: function 41 -/
namespace slices_AppendSeq_api_Write_api_Write
def ann : Ann := (.seq 22 (.region [(List.range 2, 22)]) (.seq 4 (.seq 84 (.region [(List.range 1, 84)]) (.block (.range 20 (.region [(List.range 2, 36)]) (.block (.region [(List.range 5, 0)]))))) (.seq 16 (.region [(List.range 2, 16)]) (.exit 16))))
noncomputable abbrev cd (n : Nat) : Code := sub (bodyOf Try.f41) (pth n)
abbrev an (n : Nat) : Ann := subA ann (pth n)
@[irreducible] def R1 (s2 : Addr) (t4 : OA) (t4n t4c : Nat) (t7f0 t7f1 t7f2 : ByteArray) (t7f3 : Bool) (t7f4 : ByteArray) (l : Nat) (K : VP) (h : Heap) : Prop := ev PP false none (cd 52) (an 52) (setAll (mkFr 0 13 [(2, (.pointer (some s2))), (4, (.slice t4 t4n t4c))]) [(7, (.agg #[(.string t7f0), (.string t7f1), (.string t7f2), (.bool t7f3), (.string t7f4)]))]) (roundK PP l (cd 53) (an 53) 36 K) h
@[irreducible] def K2 (Q : VP) : EP := seqK (fun fr h => ev PP true none (cd 7) (an 7) (fr.mask 4) (bodyKR PP Try.f41 Q) h) (bodyKR PP Try.f41 Q)
@[irreducible] def K1 (Q : VP) : EP := blockK 0 (K2 Q)
theorem R1_of {s2 : Addr} {t4 : OA} {t4n t4c : Nat} {t7f0 t7f1 t7f2 : ByteArray} {t7f3 : Bool} {t7f4 : ByteArray} {l : Nat} {K : VP} {h : Heap} (H :
 let v5 : Addr := ⟨Array.size h, 0, none⟩
 let h1 : Heap := Array.push h (.cells #[(.string (⟨#[]⟩ : ByteArray)), (.string (⟨#[]⟩ : ByteArray)), (.string (⟨#[]⟩ : ByteArray)), (.bool false), (.string (⟨#[]⟩ : ByteArray))] T_api_Write (0, 0))
 wrCells v5 0 [(.string t7f0), (.string t7f1), (.string t7f2), (.bool t7f3), (.string t7f4)] (fun h2 =>
 ∃ xL : Loop, h2[l]? = some (.loop xL) ∧ xL.state = .ready ∧
 let h3 : Heap := h2.setIfInBounds l (.loop { xL with state := .busy })
 ∃ (t8 : OA) (t8n t8c : Nat), cellH h3 s2 = some (.slice t8 t8n t8c) ∧
 ∃ (t9f0 t9f1 t9f2 : ByteArray) (t9f3 : Bool) (t9f4 : ByteArray), rdCells h3 v5 0 [(.string t9f0), (.string t9f1), (.string t9f2), (.bool t9f3), (.string t9f4)] ∧
 let h4 : Heap := Array.push h3 (.cells #[(.string t9f0), (.string t9f1), (.string t9f2), (.bool t9f3), (.string t9f4)] T_api_Write (0, 0))
 hwp PP (Builtin.append_ #[T_sl_api_Write, T_sl_api_Write] T_sl_api_Write #[(.slice t8 t8n t8c), (.slice (some ⟨Array.size h3, 0, none⟩) 1 1)]) (fun v h5 => ∃ (t11 : OA) (t11n t11c : Nat), v = (.slice t11 t11n t11c) ∧
 wr s2 (.slice t11 t11n t11c) (fun h6 =>
 ∃ xL_1, h6[l]? = some (.loop xL_1) ∧ K (.bool true) (h6.setIfInBounds l (endL xL_1 none))) h5) h4) h1) : R1 s2 t4 t4n t4c t7f0 t7f1 t7f2 t7f3 t7f4 l K h := of_eq_txt (by kernel_rfl) H
theorem R1_yield {s2 : Addr} {t4 : OA} {t4n t4c : Nat} {t7f0 t7f1 t7f2 : ByteArray} {t7f3 : Bool} {t7f4 : ByteArray} {l : Nat} {K : VP} {h : Heap} {L : Loop} (hl : h[l]? = some (.loop L)) (hp : L.params = #[7]) (ha : L.assign = (cd 52)) (hb : L.body = (cd 53)) (hf : FrRel (mkFr 0 13 [(2, (.pointer (some s2))), (4, (.slice t4 t4n t4c))]) L.tmps) (H : R1 s2 t4 t4n t4c t7f0 t7f1 t7f2 t7f3 t7f4 l K h) : callV PP (.func (.yield l) #[] #[]) [(.agg #[(.string t7f0), (.string t7f1), (.string t7f2), (.bool t7f3), (.string t7f4)])] K h := by
   unfold R1 at H
   refine yield_ok (ann := an 52) (annB := an 53) (m := 36) hl (by rw [hp]; rfl) hf ?_
   rw [ha, hb, hp]; exact H
theorem R1_outn0 {Q : VP} {s2 : Addr} {t4 : OA} {t4n t4c : Nat} {h : Heap} (H :
 ∃ (t12 : OA) (t12n t12c : Nat), cellH h s2 = some (.slice t12 t12n t12c) ∧
 ∀ h1, Takes h h1 → Q (.slice t12 t12n t12c) h1) : (K1 Q) .normal (mkFr 0 13 [(2, (.pointer (some s2))), (4, (.slice t4 t4n t4c))]) h := of_eq_txt (by kernel_rfl) H
theorem door {s0 : OA} {s0n s0c : Nat} {seq1 : Value} {Q : VP} {h : Heap} (H :
 let s2 : Addr := ⟨Array.size h, 0, none⟩
 let h1 : Heap := Array.push h (.cells #[(.slice s0 s0n s0c)] T_sl_api_Write (0, 0))
 rangeK PP seq1 #[7] (cd 52) (cd 53) (mkFr 0 13 [(2, (.pointer (some s2))), (4, (.slice none 0 0))]) (K1 Q) h1) : SpecH PP F_slices_AppendSeq_api_Write_api_Write [(.slice s0 s0n s0c), seq1] h Q :=
   spec_of_txtR (ann := ann) Try.func41 rfl (by kernel_rfl) H
end slices_AppendSeq_api_Write_api_Write
/-! ### slices.pdqsortCmpFunc[haversack/api.Write]: function 42 -/
namespace slices_pdqsortCmpFunc_api_Write
def ann : Ann := (.seq 1055 (.region [(List.range 1, 1055)]) (.seq 3103 (.region [(List.range 1, 3103)]) (.block (.loop 3103 (.block (.seq 7199 (.region [(List.range 4, 7199)]) (.seq 7199 (.seq 33561631 (.region [(List.range 2, 33561631)]) (.cond (.seq 0 (.region [(List.range 5, 0)]) (.exit 0)) .leaf)) (.seq 7199 (.seq 4294974495 (.region [(List.range 2, 4294974495)]) (.cond (.seq 0 (.region [(List.range 5, 0)]) (.exit 0)) .leaf)) (.seq 7199 (.seq 549755821087 (.region [(List.range 2, 549755821087)]) (.cond (.seq 7199 (.region [(List.range 5, 7199)]) (.region [(List.range 3, 7199)])) .leaf)) (.join (.seq 31775 (.region [(List.range 10, 31775)]) (.seq 31775 (.seq 72057594037959711 (.region [(List.range 2, 72057594037959711)]) (.cond (.seq 15391 (.region [(List.range 5, 15391)]) (.seq 15391 (.region [(List.range 7, 15391)]) (.region [(List.range 1, 31775)]))) .leaf)) (.join (.seq 15391 (.seq 37778931862957161724959 (.region [(List.range 8, 37778931862957161724959)]) (.join (.cond (.seq 1208925819614629174721567 (.region [(List.range 5, 1208925819614629174721567)]) (.cond (.exit 0) .leaf)) .leaf))) (.join (.seq 12319 (.seq 158456325028528675187087916063 (.region [(List.range 17, 158456325028528675187087916063)]) (.join (.cond (.seq 35869 (.region [(List.range 7, 35869)]) (.seq 3103 (.region [(List.range 2, 3103)]) (.exit 3103))) .leaf))) (.seq 200735 (.region [(List.range 11, 200735)]) (.seq 71711 (.region [(List.range 2, 71711)]) (.seq 858143 (.region [(List.range 8, 858143)]) (.seq 1902623 (.region [(List.range 3, 1902623)]) (.seq 42535295865117307932921825928972929055 (.region [(List.range 3, 42535295865117307932921825928972929055)]) (.cond (.seq 68639 (.region [(List.range 4, 68639)]) (.seq 68637 (.region [(List.range 6, 68637)]) (.region [(List.range 3, 3103)]))) (.seq 68639 (.region [(List.range 4, 68639)]) (.seq 68635 (.region [(List.range 7, 68635)]) (.region [(List.range 2, 3103)])))))))))))))))))))))))))
noncomputable abbrev cd (n : Nat) : Code := sub (bodyOf Try.f42) (pth n)
abbrev an (n : Nat) : Ann := subA ann (pth n)
@[irreducible] def Xret  : Fr := (mkFr 0 148 [])
@[irreducible] def L1 (data0 : OA) (data0n data0c : Nat) (a1 b2 limit3 : Int) (cmp4 : Value) (wasBalanced10 wasPartitioned11 : Bool) (K : EP) (h : Heap) : Prop := Lp PP true (cd 28) (mkFr 0 148 [(0, (.slice data0 data0n data0c)), (1, (.int .i64 a1)), (2, (.int .i64 b2)), (3, (.int .i64 limit3)), (4, cmp4), (10, (.bool wasBalanced10)), (11, (.bool wasPartitioned11))]) K h
@[irreducible] def B1 (K : EP) : EP := seqK (fun fr h => Lp PP true (cd 28) (fr.mask 3103) K h) K
@[irreducible] def K2 (K : EP) : EP := blockK 1 (B1 K)
@[irreducible] def J1 (data0 : OA) (data0n data0c : Nat) (a1 b2 limit3 : Int) (cmp4 : Value) (wasBalanced10 wasPartitioned11 : Bool) (length12 : Int) (K : EP) (h : Heap) : Prop := Jn PP true (cd 911) (mkFr 0 148 [(0, (.slice data0 data0n data0c)), (1, (.int .i64 a1)), (2, (.int .i64 b2)), (3, (.int .i64 limit3)), (4, cmp4), (10, (.bool wasBalanced10)), (11, (.bool wasPartitioned11)), (12, (.int .i64 length12))]) (K2 K) h
@[irreducible] def K1 (Q : VP) : EP := blockK 0 (bodyK PP Try.f42 Q)
@[irreducible] def J2 (data0 : OA) (data0n data0c : Nat) (a1 b2 limit3 : Int) (cmp4 : Value) (wasBalanced10 wasPartitioned11 : Bool) (length12 pivot13 hint14 : Int) (K : EP) (h : Heap) : Prop := Jn PP true (cd 3647) (mkFr 0 148 [(0, (.slice data0 data0n data0c)), (1, (.int .i64 a1)), (2, (.int .i64 b2)), (3, (.int .i64 limit3)), (4, cmp4), (10, (.bool wasBalanced10)), (11, (.bool wasPartitioned11)), (12, (.int .i64 length12)), (13, (.int .i64 pivot13)), (14, (.int .i64 hint14))]) (K2 K) h
@[irreducible] def K3 (K : EP) : EP := seqK (fun fr h => Jn PP true (cd 7295) (fr.mask 15391) (K2 K) h) (K2 K)
@[irreducible] def J3 (data0 : OA) (data0n data0c : Nat) (a1 b2 limit3 : Int) (cmp4 : Value) (wasBalanced10 wasPartitioned11 : Bool) (length12 pivot13 : Int) (t75 : Bool) (K : EP) (h : Heap) : Prop := Jn PP true (cd 14589) (mkFr 0 148 [(0, (.slice data0 data0n data0c)), (1, (.int .i64 a1)), (2, (.int .i64 b2)), (3, (.int .i64 limit3)), (4, cmp4), (10, (.bool wasBalanced10)), (11, (.bool wasPartitioned11)), (12, (.int .i64 length12)), (13, (.int .i64 pivot13)), (75, (.bool t75))]) (K3 K) h
@[irreducible] def J4 (data0 : OA) (data0n data0c : Nat) (a1 b2 limit3 : Int) (cmp4 : Value) (wasBalanced10 wasPartitioned11 : Bool) (length12 pivot13 : Int) (K : EP) (h : Heap) : Prop := Jn PP true (cd 7295) (mkFr 0 148 [(0, (.slice data0 data0n data0c)), (1, (.int .i64 a1)), (2, (.int .i64 b2)), (3, (.int .i64 limit3)), (4, cmp4), (10, (.bool wasBalanced10)), (11, (.bool wasPartitioned11)), (12, (.int .i64 length12)), (13, (.int .i64 pivot13))]) (K2 K) h
@[irreducible] def K4 (K : EP) : EP := seqK (fun fr h => ev PP true none (cd 14591) (an 14591) (fr.mask 12319) (K2 K) h) (K2 K)
@[irreducible] def J5 (data0 : OA) (data0n data0c : Nat) (a1 b2 limit3 : Int) (cmp4 : Value) (wasBalanced10 wasPartitioned11 : Bool) (length12 pivot13 : Int) (t97 : Bool) (K : EP) (h : Heap) : Prop := Jn PP true (cd 29181) (mkFr 0 148 [(0, (.slice data0 data0n data0c)), (1, (.int .i64 a1)), (2, (.int .i64 b2)), (3, (.int .i64 limit3)), (4, cmp4), (10, (.bool wasBalanced10)), (11, (.bool wasPartitioned11)), (12, (.int .i64 length12)), (13, (.int .i64 pivot13)), (97, (.bool t97))]) (K4 K) h
theorem L1_of {data0 : OA} {data0n data0c : Nat} {a1 b2 limit3 : Int} {cmp4 : Value} {wasBalanced10 wasPartitioned11 : Bool} {K : EP} {h : Heap} (H :
 let t23 : Int := IntKind.i64.wrap (b2 - a1)
 let t25 : Bool := decide (t23 ≤ 12)
 br t25 (
 SpecH PP F_slices_insertionSortCmpFunc_api_Write [(.slice data0 data0n data0c), (.int .i64 a1), (.int .i64 b2), cmp4] h (fun v h1 => v = (.tuple #[]) ∧
 K .ret (Xret) h1)) (
 let t32 : Bool := (limit3 == 0)
 br t32 (
 SpecH PP F_slices_heapSortCmpFunc_api_Write [(.slice data0 data0n data0c), (.int .i64 a1), (.int .i64 b2), cmp4] h (fun v_1 h2 => v_1 = (.tuple #[]) ∧
 K .ret (Xret) h2)) (
 let t39 : Bool := (!wasBalanced10)
 br t39 (
 SpecH PP F_slices_breakPatternsCmpFunc_api_Write [(.slice data0 data0n data0c), (.int .i64 a1), (.int .i64 b2), cmp4] h (fun v_2 h3 => v_2 = (.tuple #[]) ∧
 let t46 : Int := IntKind.i64.wrap (limit3 - 1)
 J1 data0 data0n data0c a1 b2 t46 cmp4 wasBalanced10 wasPartitioned11 t23 K h3)) (
 J1 data0 data0n data0c a1 b2 limit3 cmp4 wasBalanced10 wasPartitioned11 t23 K h)))) : L1 data0 data0n data0c a1 b2 limit3 cmp4 wasBalanced10 wasPartitioned11 K h := by unfold L1; exact Lp.of_txt (an 28) 3103 (by kernel_rfl) H
theorem L1_Xret {Q : VP}  {h : Heap} (H :
 Q (.tuple #[]) h) : (K1 Q) .ret (Xret ) h := of_eq_txt (by kernel_rfl) H
theorem J1_of {data0 : OA} {data0n data0c : Nat} {a1 b2 limit3 : Int} {cmp4 : Value} {wasBalanced10 wasPartitioned11 : Bool} {length12 : Int} {K : EP} {h : Heap} (H :
 SpecH PP F_slices_choosePivotCmpFunc_api_Write [(.slice data0 data0n data0c), (.int .i64 a1), (.int .i64 b2), cmp4] h (fun v h1 => ∃ (t52 t52_1 : Int), v = (.tuple #[(.int .i64 t52), (.int .i64 t52_1)]) ∧
 let t56 : Bool := (t52_1 == 2)
 br t56 (
 SpecH PP F_slices_reverseRangeCmpFunc_api_Write [(.slice data0 data0n data0c), (.int .i64 a1), (.int .i64 b2), cmp4] h1 (fun v_1 h2 => v_1 = (.tuple #[]) ∧
 let t63 : Int := IntKind.i64.wrap (b2 - 1)
 let t66 : Int := IntKind.i64.wrap (t52 - a1)
 let t67 : Int := IntKind.i64.wrap (t63 - t66)
 J2 data0 data0n data0c a1 b2 limit3 cmp4 wasBalanced10 wasPartitioned11 length12 t67 1 K h2)) (
 J2 data0 data0n data0c a1 b2 limit3 cmp4 wasBalanced10 wasPartitioned11 length12 t52 t52_1 K h1))) : J1 data0 data0n data0c a1 b2 limit3 cmp4 wasBalanced10 wasPartitioned11 length12 K h := by unfold J1; exact Jn.of_txt (an 911) (by kernel_rfl) H
theorem J2_of {data0 : OA} {data0n data0c : Nat} {a1 b2 limit3 : Int} {cmp4 : Value} {wasBalanced10 wasPartitioned11 : Bool} {length12 pivot13 hint14 : Int} {K : EP} {h : Heap} (H :
 br wasBalanced10 (
 br wasPartitioned11 (
 let t74 : Bool := (hint14 == 1)
 J3 data0 data0n data0c a1 b2 limit3 cmp4 wasBalanced10 wasPartitioned11 length12 pivot13 t74 K h) (
 J3 data0 data0n data0c a1 b2 limit3 cmp4 wasBalanced10 wasPartitioned11 length12 pivot13 false K h)) (
 J3 data0 data0n data0c a1 b2 limit3 cmp4 wasBalanced10 wasPartitioned11 length12 pivot13 false K h)) : J2 data0 data0n data0c a1 b2 limit3 cmp4 wasBalanced10 wasPartitioned11 length12 pivot13 hint14 K h := by unfold J2; exact Jn.of_txt (an 3647) (by kernel_rfl) H
theorem J3_of {data0 : OA} {data0n data0c : Nat} {a1 b2 limit3 : Int} {cmp4 : Value} {wasBalanced10 wasPartitioned11 : Bool} {length12 pivot13 : Int} {t75 : Bool} {K : EP} {h : Heap} (H :
 br t75 (
 SpecH PP F_slices_partialInsertionSortCmpFunc_api_Write [(.slice data0 data0n data0c), (.int .i64 a1), (.int .i64 b2), cmp4] h (fun v h1 => ∃ (t80 : Bool), v = (.bool t80) ∧
 br t80 (
 K .ret (Xret) h1) (
 J4 data0 data0n data0c a1 b2 limit3 cmp4 wasBalanced10 wasPartitioned11 length12 pivot13 K h1))) (
 J4 data0 data0n data0c a1 b2 limit3 cmp4 wasBalanced10 wasPartitioned11 length12 pivot13 K h)) : J3 data0 data0n data0c a1 b2 limit3 cmp4 wasBalanced10 wasPartitioned11 length12 pivot13 t75 K h := by unfold J3; exact Jn.of_txt (an 14589) (by kernel_rfl) H
theorem J4_of {data0 : OA} {data0n data0c : Nat} {a1 b2 limit3 : Int} {cmp4 : Value} {wasBalanced10 wasPartitioned11 : Bool} {length12 pivot13 : Int} {K : EP} {h : Heap} (H :
 let t82 : Bool := decide (a1 > 0)
 br t82 (
 let t87 : Int := IntKind.i64.wrap (a1 - 1)
 hwp PP (Instr.indexAt T_sl_api_Write (.slice data0 data0n data0c) (.int .i64 t87)) (fun v h1 => ∃ (t88 : Addr), v = (.pointer (some t88)) ∧
 ∃ (t89f0 t89f1 t89f2 : ByteArray) (t89f3 : Bool) (t89f4 : ByteArray), rdCells h1 t88 0 [(.string t89f0), (.string t89f1), (.string t89f2), (.bool t89f3), (.string t89f4)] ∧
 hwp PP (Instr.indexAt T_sl_api_Write (.slice data0 data0n data0c) (.int .i64 pivot13)) (fun v_1 h2 => ∃ (t92 : Addr), v_1 = (.pointer (some t92)) ∧
 ∃ (t93f0 t93f1 t93f2 : ByteArray) (t93f3 : Bool) (t93f4 : ByteArray), rdCells h2 t92 0 [(.string t93f0), (.string t93f1), (.string t93f2), (.bool t93f3), (.string t93f4)] ∧
 callV PP cmp4 [(.agg #[(.string t89f0), (.string t89f1), (.string t89f2), (.bool t89f3), (.string t89f4)]), (.agg #[(.string t93f0), (.string t93f1), (.string t93f2), (.bool t93f3), (.string t93f4)])] (fun v_2 h3 => ∃ (t94 : Int), v_2 = (.int .i64 t94) ∧
 let t95 : Bool := decide (t94 < 0)
 let t96 : Bool := (!t95)
 J5 data0 data0n data0c a1 b2 limit3 cmp4 wasBalanced10 wasPartitioned11 length12 pivot13 t96 K h3) h2) h1) h) (
 J5 data0 data0n data0c a1 b2 limit3 cmp4 wasBalanced10 wasPartitioned11 length12 pivot13 false K h)) : J4 data0 data0n data0c a1 b2 limit3 cmp4 wasBalanced10 wasPartitioned11 length12 pivot13 K h := by unfold J4; exact Jn.of_txt (an 7295) (by kernel_rfl) H
theorem J5_of {data0 : OA} {data0n data0c : Nat} {a1 b2 limit3 : Int} {cmp4 : Value} {wasBalanced10 wasPartitioned11 : Bool} {length12 pivot13 : Int} {t97 : Bool} {K : EP} {h : Heap} (H :
 br t97 (
 SpecH PP F_slices_partitionEqualCmpFunc_api_Write [(.slice data0 data0n data0c), (.int .i64 a1), (.int .i64 b2), (.int .i64 pivot13), cmp4] h (fun v h1 => ∃ (t103 : Int), v = (.int .i64 t103) ∧
 L1 data0 data0n data0c t103 b2 limit3 cmp4 wasBalanced10 wasPartitioned11 K h1)) (
 SpecH PP F_slices_partitionCmpFunc_api_Write [(.slice data0 data0n data0c), (.int .i64 a1), (.int .i64 b2), (.int .i64 pivot13), cmp4] h (fun v_1 h2 => ∃ (t111 : Int) (t111_1 : Bool), v_1 = (.tuple #[(.int .i64 t111), (.bool t111_1)]) ∧
 let t117 : Int := IntKind.i64.wrap (t111 - a1)
 let t120 : Int := IntKind.i64.wrap (b2 - t111)
 let t122 : Int := IntKind.i64.wrap (Int.tdiv length12 8)
 let t125 : Bool := decide (t117 < t120)
 br t125 (
 let t128 : Bool := decide (t117 ≥ t122)
 SpecH PP F_slices_pdqsortCmpFunc_api_Write [(.slice data0 data0n data0c), (.int .i64 a1), (.int .i64 t111), (.int .i64 limit3), cmp4] h2 (fun v_2 h3 => v_2 = (.tuple #[]) ∧
 let t136 : Int := IntKind.i64.wrap (t111 + 1)
 L1 data0 data0n data0c t136 b2 limit3 cmp4 t128 t111_1 K h3)) (
 let t139 : Bool := decide (t120 ≥ t122)
 let t142 : Int := IntKind.i64.wrap (t111 + 1)
 SpecH PP F_slices_pdqsortCmpFunc_api_Write [(.slice data0 data0n data0c), (.int .i64 t142), (.int .i64 b2), (.int .i64 limit3), cmp4] h2 (fun v_3 h4 => v_3 = (.tuple #[]) ∧
 L1 data0 data0n data0c a1 t111 limit3 cmp4 t139 t111_1 K h4))))) : J5 data0 data0n data0c a1 b2 limit3 cmp4 wasBalanced10 wasPartitioned11 length12 pivot13 t97 K h := by unfold J5; exact Jn.of_txt (an 29181) (by kernel_rfl) H
theorem door {data0 : OA} {data0n data0c : Nat} {a1 b2 limit3 : Int} {cmp4 : Value} {Q : VP} {h : Heap} (H :
 L1 data0 data0n data0c a1 b2 limit3 cmp4 true true (K1 Q) h) : SpecH PP F_slices_pdqsortCmpFunc_api_Write [(.slice data0 data0n data0c), (.int .i64 a1), (.int .i64 b2), (.int .i64 limit3), cmp4] h Q :=
   spec_of_txt (ann := ann) Try.func42 rfl rfl (by kernel_rfl) H
end slices_pdqsortCmpFunc_api_Write
/-! ### math/bits.Len: function 43 -/
namespace math_bits_Len
def ann : Ann := (.seq 1 (.region [(List.range 1, 1)]) (.seq 1 (.cond (.seq 4 (.region [(List.range 4, 4)]) (.exit 4)) .leaf) (.seq 4 (.region [(List.range 3, 4)]) (.exit 4))))
noncomputable abbrev cd (n : Nat) : Code := sub (bodyOf Try.f43) (pth n)
abbrev an (n : Nat) : Ann := subA ann (pth n)
theorem door {x0 : Int} {Q : VP} {h : Heap} (H :
 SpecH PP F_math_bits_Len64 [(.int .u64 x0)] h (fun v h1 => ∃ (t7 : Int), v = (.int .i64 t7) ∧
 Q (.int .i64 t7) h1)) : SpecH PP F_math_bits_Len [(.int .u64 x0)] h Q :=
   spec_of_txt (ann := ann) Try.func43 rfl rfl (by kernel_rfl) H
end math_bits_Len
/-! ### slices.insertionSortCmpFunc[haversack/api.Write]: function 44 -/
namespace slices_insertionSortCmpFunc_api_Write
def ann : Ann := (.seq 271 (.region [(List.range 3, 271)]) (.block (.loop 271 (.seq 271 (.seq 16655 (.region [(List.range 3, 16655)]) (.cond .leaf (.exit 0))) (.seq 271 (.block (.seq 783 (.region [(List.range 2, 783)]) (.block (.loop 783 (.seq 783 (.seq 17179869967 (.region [(List.range 17, 17179869967)]) (.cond .leaf (.exit 271))) (.seq 783 (.block (.region [(List.range 18, 783)])) (.region [(List.range 3, 783)]))))))) (.region [(List.range 3, 271)]))))))
noncomputable abbrev cd (n : Nat) : Code := sub (bodyOf Try.f44) (pth n)
abbrev an (n : Nat) : Ann := subA ann (pth n)
@[irreducible] def X0  : Fr := (mkFr 0 53 [])
@[irreducible] def X2 (data0 : OA) (data0n data0c : Nat) (a1 b2 : Int) (cmp3 : Value) (i8 : Int) : Fr := (mkFr 0 53 [(0, (.slice data0 data0n data0c)), (1, (.int .i64 a1)), (2, (.int .i64 b2)), (3, cmp3), (8, (.int .i64 i8))])
@[irreducible] def L1 (data0 : OA) (data0n data0c : Nat) (a1 b2 : Int) (cmp3 : Value) (i8 : Int) (K : EP) (h : Heap) : Prop := Lp PP true (cd 12) (mkFr 0 53 [(0, (.slice data0 data0n data0c)), (1, (.int .i64 a1)), (2, (.int .i64 b2)), (3, cmp3), (8, (.int .i64 i8))]) K h
@[irreducible] def B1 (K : EP) : EP := seqK (fun fr h => Lp PP true (cd 12) (fr.mask 271) K h) K
@[irreducible] def K1 (Q : VP) : EP := blockK 0 (bodyK PP Try.f44 Q)
@[irreducible] def K4 (K : EP) : EP := seqK (fun fr h => ev PP true none (cd 51) (an 51) (fr.mask 271) (B1 K) h) (B1 K)
@[irreducible] def K3 (K : EP) : EP := blockK 1 (K4 K)
@[irreducible] def K2 (K : EP) : EP := blockK 2 (K3 K)
@[irreducible] def L2 (data0 : OA) (data0n data0c : Nat) (a1 b2 : Int) (cmp3 : Value) (i8 j9 : Int) (K : EP) (h : Heap) : Prop := Lp PP true (cd 804) (mkFr 0 53 [(0, (.slice data0 data0n data0c)), (1, (.int .i64 a1)), (2, (.int .i64 b2)), (3, cmp3), (8, (.int .i64 i8)), (9, (.int .i64 j9))]) K h
@[irreducible] def B2 (K : EP) : EP := seqK (fun fr h => Lp PP true (cd 804) (fr.mask 783) K h) K
theorem L1_of {data0 : OA} {data0n data0c : Nat} {a1 b2 : Int} {cmp3 : Value} {i8 : Int} {K : EP} {h : Heap} (H :
 let t14 : Bool := decide (i8 < b2)
 br t14 (
 L2 data0 data0n data0c a1 b2 cmp3 i8 i8 (K2 K) h) (
 K (.exit 0) (X0) h)) : L1 data0 data0n data0c a1 b2 cmp3 i8 K h := by unfold L1; exact Lp.of_txt (an 12) 271 (by kernel_rfl) H
theorem L1_X0 {Q : VP}  {h : Heap} (H :
 Q (.tuple #[]) h) : (K1 Q) (.exit 0) (X0 ) h := of_eq_txt (by kernel_rfl) H
theorem L2_of {data0 : OA} {data0n data0c : Nat} {a1 b2 : Int} {cmp3 : Value} {i8 j9 : Int} {K : EP} {h : Heap} (H :
 let t20 : Bool := decide (j9 > a1)
 br t20 (
 hwp PP (Instr.indexAt T_sl_api_Write (.slice data0 data0n data0c) (.int .i64 j9)) (fun v h1 => ∃ (t25 : Addr), v = (.pointer (some t25)) ∧
 ∃ (t26f0 t26f1 t26f2 : ByteArray) (t26f3 : Bool) (t26f4 : ByteArray), rdCells h1 t25 0 [(.string t26f0), (.string t26f1), (.string t26f2), (.bool t26f3), (.string t26f4)] ∧
 let t29 : Int := IntKind.i64.wrap (j9 - 1)
 hwp PP (Instr.indexAt T_sl_api_Write (.slice data0 data0n data0c) (.int .i64 t29)) (fun v_1 h2 => ∃ (t30 : Addr), v_1 = (.pointer (some t30)) ∧
 ∃ (t31f0 t31f1 t31f2 : ByteArray) (t31f3 : Bool) (t31f4 : ByteArray), rdCells h2 t30 0 [(.string t31f0), (.string t31f1), (.string t31f2), (.bool t31f3), (.string t31f4)] ∧
 callV PP cmp3 [(.agg #[(.string t26f0), (.string t26f1), (.string t26f2), (.bool t26f3), (.string t26f4)]), (.agg #[(.string t31f0), (.string t31f1), (.string t31f2), (.bool t31f3), (.string t31f4)])] (fun v_2 h3 => ∃ (t32 : Int), v_2 = (.int .i64 t32) ∧
 let t33 : Bool := decide (t32 < 0)
 br t33 (
 let t41 : Int := IntKind.i64.wrap (j9 - 1)
 let t44 : Int := IntKind.i64.wrap (j9 - 1)
 hwp PP (Instr.indexAt T_sl_api_Write (.slice data0 data0n data0c) (.int .i64 t44)) (fun v_3 h4 => ∃ (t45 : Addr), v_3 = (.pointer (some t45)) ∧
 ∃ (t46f0 t46f1 t46f2 : ByteArray) (t46f3 : Bool) (t46f4 : ByteArray), rdCells h4 t45 0 [(.string t46f0), (.string t46f1), (.string t46f2), (.bool t46f3), (.string t46f4)] ∧
 hwp PP (Instr.indexAt T_sl_api_Write (.slice data0 data0n data0c) (.int .i64 j9)) (fun v_4 h5 => ∃ (t49 : Addr), v_4 = (.pointer (some t49)) ∧
 ∃ (t50f0 t50f1 t50f2 : ByteArray) (t50f3 : Bool) (t50f4 : ByteArray), rdCells h5 t49 0 [(.string t50f0), (.string t50f1), (.string t50f2), (.bool t50f3), (.string t50f4)] ∧
 hwp PP (Instr.indexAt T_sl_api_Write (.slice data0 data0n data0c) (.int .i64 j9)) (fun v_5 h6 => ∃ (t51 : Addr), v_5 = (.pointer (some t51)) ∧
 wrCells t51 0 [(.string t46f0), (.string t46f1), (.string t46f2), (.bool t46f3), (.string t46f4)] (fun h7 =>
 hwp PP (Instr.indexAt T_sl_api_Write (.slice data0 data0n data0c) (.int .i64 t41)) (fun v_6 h8 => ∃ (t52 : Addr), v_6 = (.pointer (some t52)) ∧
 wrCells t52 0 [(.string t50f0), (.string t50f1), (.string t50f2), (.bool t50f3), (.string t50f4)] (fun h9 =>
 let t36 : Int := IntKind.i64.wrap (j9 - 1)
 L2 data0 data0n data0c a1 b2 cmp3 i8 t36 K h9) h8) h7) h6) h5) h4) h3) (
 K (.exit 2) (X2 data0 data0n data0c a1 b2 cmp3 i8) h3)) h2) h1) h) (
 K (.exit 2) (X2 data0 data0n data0c a1 b2 cmp3 i8) h)) : L2 data0 data0n data0c a1 b2 cmp3 i8 j9 K h := by unfold L2; exact Lp.of_txt (an 804) 783 (by kernel_rfl) H
theorem L2_X2 {K : EP} {data0 : OA} {data0n data0c : Nat} {a1 b2 : Int} {cmp3 : Value} {i8 : Int} {h : Heap} (H :
 let t16 : Int := IntKind.i64.wrap (i8 + 1)
 L1 data0 data0n data0c a1 b2 cmp3 t16 K h) : (K2 K) (.exit 2) (X2 data0 data0n data0c a1 b2 cmp3 i8) h := of_eq_txt (by kernel_rfl) H
theorem door {data0 : OA} {data0n data0c : Nat} {a1 b2 : Int} {cmp3 : Value} {Q : VP} {h : Heap} (H :
 let t11 : Int := IntKind.i64.wrap (a1 + 1)
 L1 data0 data0n data0c a1 b2 cmp3 t11 (K1 Q) h) : SpecH PP F_slices_insertionSortCmpFunc_api_Write [(.slice data0 data0n data0c), (.int .i64 a1), (.int .i64 b2), cmp3] h Q :=
   spec_of_txt (ann := ann) Try.func44 rfl rfl (by kernel_rfl) H
end slices_insertionSortCmpFunc_api_Write
/-! ### slices.heapSortCmpFunc[haversack/api.Write]: function 45 -/
namespace slices_heapSortCmpFunc_api_Write
def ann : Ann := (.seq 271 (.region [(List.range 2, 271)]) (.seq 783 (.region [(List.range 1, 783)]) (.seq 1801 (.region [(List.range 4, 1801)]) (.seq 1801 (.seq 3849 (.region [(List.range 4, 3849)]) (.block (.loop 3849 (.seq 3849 (.seq 2101001 (.region [(List.range 2, 2101001)]) (.cond .leaf (.exit 1801))) (.seq 3849 (.block (.region [(List.range 6, 3849)])) (.region [(List.range 3, 3849)])))))) (.seq 4873 (.region [(List.range 3, 4873)]) (.block (.loop 4873 (.seq 4873 (.seq 8589939465 (.region [(List.range 2, 8589939465)]) (.cond .leaf (.exit 0))) (.seq 4873 (.block (.seq 4873 (.region [(List.range 20, 4873)]) (.region [(List.range 6, 4873)]))) (.region [(List.range 3, 4873)]))))))))))
noncomputable abbrev cd (n : Nat) : Code := sub (bodyOf Try.f45) (pth n)
abbrev an (n : Nat) : Ann := subA ann (pth n)
@[irreducible] def X0 (data0 : OA) (data0n data0c : Nat) (cmp3 : Value) (first8 lo9 hi10 : Int) : Fr := (mkFr 0 60 [(0, (.slice data0 data0n data0c)), (3, cmp3), (8, (.int .i64 first8)), (9, (.int .i64 lo9)), (10, (.int .i64 hi10))])
@[irreducible] def X2  : Fr := (mkFr 0 60 [])
@[irreducible] def L1 (data0 : OA) (data0n data0c : Nat) (cmp3 : Value) (first8 lo9 hi10 i11 : Int) (K : EP) (h : Heap) : Prop := Lp PP true (cd 244) (mkFr 0 60 [(0, (.slice data0 data0n data0c)), (3, cmp3), (8, (.int .i64 first8)), (9, (.int .i64 lo9)), (10, (.int .i64 hi10)), (11, (.int .i64 i11))]) K h
@[irreducible] def B1 (K : EP) : EP := seqK (fun fr h => Lp PP true (cd 244) (fr.mask 3849) K h) K
@[irreducible] def K3 (Q : VP) : EP := seqK (fun fr h => ev PP true none (cd 31) (an 31) (fr.mask 1801) (bodyK PP Try.f45 Q) h) (bodyK PP Try.f45 Q)
@[irreducible] def K1 (Q : VP) : EP := blockK 0 (K3 Q)
@[irreducible] def K2 (Q : VP) : EP := blockK 2 (bodyK PP Try.f45 Q)
@[irreducible] def L2 (data0 : OA) (data0n data0c : Nat) (cmp3 : Value) (first8 lo9 i12 : Int) (K : EP) (h : Heap) : Prop := Lp PP true (cd 252) (mkFr 0 60 [(0, (.slice data0 data0n data0c)), (3, cmp3), (8, (.int .i64 first8)), (9, (.int .i64 lo9)), (12, (.int .i64 i12))]) K h
@[irreducible] def B2 (K : EP) : EP := seqK (fun fr h => Lp PP true (cd 252) (fr.mask 4873) K h) K
theorem L1_of {data0 : OA} {data0n data0c : Nat} {cmp3 : Value} {first8 lo9 hi10 i11 : Int} {K : EP} {h : Heap} (H :
 let t21 : Bool := decide (i11 ≥ 0)
 br t21 (
 SpecH PP F_slices_siftDownCmpFunc_api_Write [(.slice data0 data0n data0c), (.int .i64 i11), (.int .i64 hi10), (.int .i64 first8), cmp3] h (fun v h1 => v = (.tuple #[]) ∧
 let t23 : Int := IntKind.i64.wrap (i11 - 1)
 L1 data0 data0n data0c cmp3 first8 lo9 hi10 t23 K h1)) (
 K (.exit 0) (X0 data0 data0n data0c cmp3 first8 lo9 hi10) h)) : L1 data0 data0n data0c cmp3 first8 lo9 hi10 i11 K h := by unfold L1; exact Lp.of_txt (an 244) 3849 (by kernel_rfl) H
theorem L1_X0 {Q : VP} {data0 : OA} {data0n data0c : Nat} {cmp3 : Value} {first8 lo9 hi10 : Int} {h : Heap} (H :
 let t31 : Int := IntKind.i64.wrap (hi10 - 1)
 L2 data0 data0n data0c cmp3 first8 lo9 t31 (K2 Q) h) : (K1 Q) (.exit 0) (X0 data0 data0n data0c cmp3 first8 lo9 hi10) h := of_eq_txt (by kernel_rfl) H
theorem L2_of {data0 : OA} {data0n data0c : Nat} {cmp3 : Value} {first8 lo9 i12 : Int} {K : EP} {h : Heap} (H :
 let t33 : Bool := decide (i12 ≥ 0)
 br t33 (
 let t41 : Int := IntKind.i64.wrap (first8 + i12)
 let t45 : Int := IntKind.i64.wrap (first8 + i12)
 hwp PP (Instr.indexAt T_sl_api_Write (.slice data0 data0n data0c) (.int .i64 t45)) (fun v h1 => ∃ (t46 : Addr), v = (.pointer (some t46)) ∧
 ∃ (t47f0 t47f1 t47f2 : ByteArray) (t47f3 : Bool) (t47f4 : ByteArray), rdCells h1 t46 0 [(.string t47f0), (.string t47f1), (.string t47f2), (.bool t47f3), (.string t47f4)] ∧
 hwp PP (Instr.indexAt T_sl_api_Write (.slice data0 data0n data0c) (.int .i64 first8)) (fun v_1 h2 => ∃ (t50 : Addr), v_1 = (.pointer (some t50)) ∧
 ∃ (t51f0 t51f1 t51f2 : ByteArray) (t51f3 : Bool) (t51f4 : ByteArray), rdCells h2 t50 0 [(.string t51f0), (.string t51f1), (.string t51f2), (.bool t51f3), (.string t51f4)] ∧
 hwp PP (Instr.indexAt T_sl_api_Write (.slice data0 data0n data0c) (.int .i64 first8)) (fun v_2 h3 => ∃ (t52 : Addr), v_2 = (.pointer (some t52)) ∧
 wrCells t52 0 [(.string t47f0), (.string t47f1), (.string t47f2), (.bool t47f3), (.string t47f4)] (fun h4 =>
 hwp PP (Instr.indexAt T_sl_api_Write (.slice data0 data0n data0c) (.int .i64 t41)) (fun v_3 h5 => ∃ (t53 : Addr), v_3 = (.pointer (some t53)) ∧
 wrCells t53 0 [(.string t51f0), (.string t51f1), (.string t51f2), (.bool t51f3), (.string t51f4)] (fun h6 =>
 SpecH PP F_slices_siftDownCmpFunc_api_Write [(.slice data0 data0n data0c), (.int .i64 lo9), (.int .i64 i12), (.int .i64 first8), cmp3] h6 (fun v_4 h7 => v_4 = (.tuple #[]) ∧
 let t35 : Int := IntKind.i64.wrap (i12 - 1)
 L2 data0 data0n data0c cmp3 first8 lo9 t35 K h7)) h5) h4) h3) h2) h1) h) (
 K (.exit 2) (X2) h)) : L2 data0 data0n data0c cmp3 first8 lo9 i12 K h := by unfold L2; exact Lp.of_txt (an 252) 4873 (by kernel_rfl) H
theorem L2_X2 {Q : VP}  {h : Heap} (H :
 Q (.tuple #[]) h) : (K2 Q) (.exit 2) (X2 ) h := of_eq_txt (by kernel_rfl) H
theorem door {data0 : OA} {data0n data0c : Nat} {a1 b2 : Int} {cmp3 : Value} {Q : VP} {h : Heap} (H :
 let t16 : Int := IntKind.i64.wrap (b2 - a1)
 let t18 : Int := IntKind.i64.wrap (t16 - 1)
 let t19 : Int := IntKind.i64.wrap (Int.tdiv t18 2)
 L1 data0 data0n data0c cmp3 a1 0 t16 t19 (K1 Q) h) : SpecH PP F_slices_heapSortCmpFunc_api_Write [(.slice data0 data0n data0c), (.int .i64 a1), (.int .i64 b2), cmp3] h Q :=
   spec_of_txt (ann := ann) Try.func45 rfl rfl (by kernel_rfl) H
end slices_heapSortCmpFunc_api_Write
/-! ### slices.breakPatternsCmpFunc[haversack/api.Write]: function 46 -/
namespace slices_breakPatternsCmpFunc_api_Write
def ann : Ann := (.seq 259 (.region [(List.range 4, 259)]) (.seq 131331 (.region [(List.range 2, 131331)]) (.cond (.seq 771 (.region [(List.range 4, 771)]) (.seq 1795 (.region [(List.range 3, 1795)]) (.seq 3843 (.region [(List.range 7, 3843)]) (.block (.loop 3843 (.seq 3843 (.seq 34359742211 (.region [(List.range 8, 34359742211)]) (.cond .leaf (.exit 0))) (.seq 3843 (.block (.seq 7939 (.region [(List.range 6, 7939)]) (.seq 7939 (.seq 35184372096771 (.region [(List.range 3, 35184372096771)]) (.cond (.region [(List.range 4, 7939)]) .leaf)) (.join (.region [(List.range 20, 3843)]))))) (.region [(List.range 3, 3843)])))))))) .leaf)))
noncomputable abbrev cd (n : Nat) : Code := sub (bodyOf Try.f46) (pth n)
abbrev an (n : Nat) : Ann := subA ann (pth n)
@[irreducible] def X0  : Fr := (mkFr 0 67 [])
@[irreducible] def L1 (data0 : OA) (data0n data0c : Nat) (a1 length8 : Int) (random9 : Addr) (modulus10 idx11 : Int) (K : EP) (h : Heap) : Prop := Lp PP true (cd 476) (mkFr 0 67 [(0, (.slice data0 data0n data0c)), (1, (.int .i64 a1)), (8, (.int .i64 length8)), (9, (.pointer (some random9))), (10, (.int .u64 modulus10)), (11, (.int .i64 idx11))]) K h
@[irreducible] def B1 (K : EP) : EP := seqK (fun fr h => Lp PP true (cd 476) (fr.mask 3843) K h) K
@[irreducible] def K3 (K : EP) : EP := seqK (fun fr h => ev PP true none (cd 1907) (an 1907) (fr.mask 3843) (B1 K) h) (B1 K)
@[irreducible] def K2 (K : EP) : EP := blockK 1 (K3 K)
@[irreducible] def J1 (data0 : OA) (data0n data0c : Nat) (a1 length8 : Int) (random9 : Addr) (modulus10 idx11 other12 : Int) (K : EP) (h : Heap) : Prop := Jn PP true (cd 15251) (mkFr 0 67 [(0, (.slice data0 data0n data0c)), (1, (.int .i64 a1)), (8, (.int .i64 length8)), (9, (.pointer (some random9))), (10, (.int .u64 modulus10)), (11, (.int .i64 idx11)), (12, (.int .i64 other12))]) (K2 K) h
@[irreducible] def K1 (Q : VP) : EP := blockK 0 (bodyK PP Try.f46 Q)
theorem L1_of {data0 : OA} {data0n data0c : Nat} {a1 length8 : Int} {random9 : Addr} {modulus10 idx11 : Int} {K : EP} {h : Heap} (H :
 let t31 : Int := IntKind.i64.wrap (Int.tdiv length8 4)
 let t32 : Int := IntKind.i64.wrap (t31 * 2)
 let t33 : Int := IntKind.i64.wrap (a1 + t32)
 let t34 : Int := IntKind.i64.wrap (t33 + 1)
 let t35 : Bool := decide (idx11 ≤ t34)
 br t35 (
 SpecH PP F_slices_xorshift_Next [(.pointer (some random9))] h (fun v h1 => ∃ (t38 : Int), v = (.int .u64 t38) ∧
 let t40 : Int := IntKind.u64.wrap (modulus10 - 1)
 let t41 : Int := bAnd .u64 t38 t40
 let t42 : Int := IntKind.i64.wrap t41
 let t45 : Bool := decide (t42 ≥ length8)
 br t45 (
 let t48 : Int := IntKind.i64.wrap (t42 - length8)
 J1 data0 data0n data0c a1 length8 random9 modulus10 idx11 t48 K h1) (
 J1 data0 data0n data0c a1 length8 random9 modulus10 idx11 t42 K h1))) (
 K (.exit 0) (X0) h)) : L1 data0 data0n data0c a1 length8 random9 modulus10 idx11 K h := by unfold L1; exact Lp.of_txt (an 476) 3843 (by kernel_rfl) H
theorem L1_X0 {Q : VP}  {h : Heap} (H :
 Q (.tuple #[]) h) : (K1 Q) (.exit 0) (X0 ) h := of_eq_txt (by kernel_rfl) H
theorem J1_of {data0 : OA} {data0n data0c : Nat} {a1 length8 : Int} {random9 : Addr} {modulus10 idx11 other12 : Int} {K : EP} {h : Heap} (H :
 let t54 : Int := IntKind.i64.wrap (a1 + other12)
 let t58 : Int := IntKind.i64.wrap (a1 + other12)
 hwp PP (Instr.indexAt T_sl_api_Write (.slice data0 data0n data0c) (.int .i64 t58)) (fun v h1 => ∃ (t59 : Addr), v = (.pointer (some t59)) ∧
 ∃ (t60f0 t60f1 t60f2 : ByteArray) (t60f3 : Bool) (t60f4 : ByteArray), rdCells h1 t59 0 [(.string t60f0), (.string t60f1), (.string t60f2), (.bool t60f3), (.string t60f4)] ∧
 hwp PP (Instr.indexAt T_sl_api_Write (.slice data0 data0n data0c) (.int .i64 idx11)) (fun v_1 h2 => ∃ (t63 : Addr), v_1 = (.pointer (some t63)) ∧
 ∃ (t64f0 t64f1 t64f2 : ByteArray) (t64f3 : Bool) (t64f4 : ByteArray), rdCells h2 t63 0 [(.string t64f0), (.string t64f1), (.string t64f2), (.bool t64f3), (.string t64f4)] ∧
 hwp PP (Instr.indexAt T_sl_api_Write (.slice data0 data0n data0c) (.int .i64 idx11)) (fun v_2 h3 => ∃ (t65 : Addr), v_2 = (.pointer (some t65)) ∧
 wrCells t65 0 [(.string t60f0), (.string t60f1), (.string t60f2), (.bool t60f3), (.string t60f4)] (fun h4 =>
 hwp PP (Instr.indexAt T_sl_api_Write (.slice data0 data0n data0c) (.int .i64 t54)) (fun v_3 h5 => ∃ (t66 : Addr), v_3 = (.pointer (some t66)) ∧
 wrCells t66 0 [(.string t64f0), (.string t64f1), (.string t64f2), (.bool t64f3), (.string t64f4)] (fun h6 =>
 let t37 : Int := IntKind.i64.wrap (idx11 + 1)
 L1 data0 data0n data0c a1 length8 random9 modulus10 t37 K h6) h5) h4) h3) h2) h1) h) : J1 data0 data0n data0c a1 length8 random9 modulus10 idx11 other12 K h := by unfold J1; exact Jn.of_txt (an 15251) (by kernel_rfl) H
theorem door {data0 : OA} {data0n data0c : Nat} {a1 b2 : Int} {cmp3 : Value} {Q : VP} {h : Heap} (H :
 let t15 : Int := IntKind.i64.wrap (b2 - a1)
 let t17 : Bool := decide (t15 ≥ 8)
 br t17 (
 let t19 : Int := IntKind.u64.wrap t15
 let random9 : Addr := ⟨Array.size h, 0, none⟩
 let h1 : Heap := Array.push h (.cells #[(.int .u64 0)] T_slices_xorshift (0, 0))
 wr random9 (.int .u64 t19) (fun h2 =>
 SpecH PP F_slices_nextPowerOfTwo [(.int .i64 t15)] h2 (fun v h3 => ∃ (t21 : Int), v = (.int .u64 t21) ∧
 let t24 : Int := IntKind.i64.wrap (Int.tdiv t15 4)
 let t25 : Int := IntKind.i64.wrap (t24 * 2)
 let t26 : Int := IntKind.i64.wrap (a1 + t25)
 let t27 : Int := IntKind.i64.wrap (t26 - 1)
 L1 data0 data0n data0c a1 t15 random9 t21 t27 (K1 Q) h3)) h1) (
 Q (.tuple #[]) h)) : SpecH PP F_slices_breakPatternsCmpFunc_api_Write [(.slice data0 data0n data0c), (.int .i64 a1), (.int .i64 b2), cmp3] h Q :=
   spec_of_txt (ann := ann) Try.func46 rfl rfl (by kernel_rfl) H
end slices_breakPatternsCmpFunc_api_Write
/-! ### slices.choosePivotCmpFunc[haversack/api.Write]: function 47 -/
namespace slices_choosePivotCmpFunc_api_Write
def ann : Ann := (.seq 15 (.region [(List.range 2, 15)]) (.seq 1035 (.region [(List.range 4, 1035)]) (.seq 3083 (.region [(List.range 1, 3083)]) (.seq 7179 (.region [(List.range 6, 7179)]) (.seq 15371 (.region [(List.range 6, 15371)]) (.seq 31753 (.region [(List.range 6, 31753)]) (.seq 10240 (.seq 17179900937 (.region [(List.range 2, 17179900937)]) (.cond (.seq 30729 (.seq 68719507465 (.region [(List.range 2, 68719507465)]) (.cond (.seq 30729 (.region [(List.range 5, 30729)]) (.seq 30729 (.region [(List.range 5, 30729)]) (.region [(List.range 5, 30729)]))) .leaf)) (.join (.region [(List.range 7, 10240)]))) .leaf)) (.join (.seq 36028797018972160 (.region [(List.range 1, 36028797018972160)]) (.block (.seq 180143985094828032 (.region [(List.range 2, 180143985094828032)]) (.cond (.seq 768 (.region [(List.range 3, 768)]) (.exit 768)) (.seq 1152921504606855168 (.region [(List.range 2, 1152921504606855168)]) (.cond (.seq 768 (.region [(List.range 3, 768)]) (.exit 768)) (.seq 768 (.region [(List.range 3, 768)]) (.exit 768))))))))))))))))
noncomputable abbrev cd (n : Nat) : Code := sub (bodyOf Try.f47) (pth n)
abbrev an (n : Nat) : Ann := subA ann (pth n)
@[irreducible] def K1 (Q : VP) : EP := seqK (fun fr h => Jn PP true (cd 255) (fr.mask 10240) (bodyK PP Try.f47 Q) h) (bodyK PP Try.f47 Q)
@[irreducible] def J1 (data0 : OA) (data0n data0c : Nat) (cmp3 : Value) (swaps11 : Addr) (i12 j13 k14 : Int) (Q : VP) (h : Heap) : Prop := Jn PP true (cd 2037) (mkFr 0 63 [(0, (.slice data0 data0n data0c)), (3, cmp3), (11, (.pointer (some swaps11))), (12, (.int .i64 i12)), (13, (.int .i64 j13)), (14, (.int .i64 k14))]) (K1 Q) h
@[irreducible] def J2 (swaps11 : Addr) (j13 : Int) (Q : VP) (h : Heap) : Prop := Jn PP true (cd 255) (mkFr 0 63 [(11, (.pointer (some swaps11))), (13, (.int .i64 j13))]) (bodyK PP Try.f47 Q) h
theorem J1_of {data0 : OA} {data0n data0c : Nat} {cmp3 : Value} {swaps11 : Addr} {i12 j13 k14 : Int} {Q : VP} {h : Heap} (H :
 SpecH PP F_slices_medianCmpFunc_api_Write [(.slice data0 data0n data0c), (.int .i64 i12), (.int .i64 j13), (.int .i64 k14), (.pointer (some swaps11)), cmp3] h (fun v h1 => ∃ (t54 : Int), v = (.int .i64 t54) ∧
 J2 swaps11 t54 Q h1)) : J1 data0 data0n data0c cmp3 swaps11 i12 j13 k14 Q h := by unfold J1; exact Jn.of_txt (an 2037) (by kernel_rfl) H
theorem J2_of {swaps11 : Addr} {j13 : Int} {Q : VP} {h : Heap} (H :
 ∃ (t55 : Int), cellH h swaps11 = some (.int .i64 t55) ∧
 let t58 : Bool := (t55 == 0)
 br t58 (
 Q (.tuple #[(.int .i64 j13), (.int .i64 1)]) h) (
 let t61 : Bool := (t55 == 12)
 br t61 (
 Q (.tuple #[(.int .i64 j13), (.int .i64 2)]) h) (
 Q (.tuple #[(.int .i64 j13), (.int .i64 0)]) h))) : J2 swaps11 j13 Q h := by unfold J2; exact Jn.of_txt (an 255) (by kernel_rfl) H
theorem door {data0 : OA} {data0n data0c : Nat} {a1 b2 : Int} {cmp3 : Value} {Q : VP} {h : Heap} (H :
 let t17 : Int := IntKind.i64.wrap (b2 - a1)
 let swaps11 : Addr := ⟨Array.size h, 0, none⟩
 let h1 : Heap := Array.push h (.cells #[(.int .i64 0)] T_int (0, 0))
 let t20 : Int := IntKind.i64.wrap (Int.tdiv t17 4)
 let t21 : Int := IntKind.i64.wrap (t20 * 1)
 let t22 : Int := IntKind.i64.wrap (a1 + t21)
 let t25 : Int := IntKind.i64.wrap (Int.tdiv t17 4)
 let t26 : Int := IntKind.i64.wrap (t25 * 2)
 let t27 : Int := IntKind.i64.wrap (a1 + t26)
 let t30 : Int := IntKind.i64.wrap (Int.tdiv t17 4)
 let t31 : Int := IntKind.i64.wrap (t30 * 3)
 let t32 : Int := IntKind.i64.wrap (a1 + t31)
 let t34 : Bool := decide (t17 ≥ 8)
 br t34 (
 let t36 : Bool := decide (t17 ≥ 50)
 br t36 (
 SpecH PP F_slices_medianAdjacentCmpFunc_api_Write [(.slice data0 data0n data0c), (.int .i64 t22), (.pointer (some swaps11)), cmp3] h1 (fun v h2 => ∃ (t40 : Int), v = (.int .i64 t40) ∧
 SpecH PP F_slices_medianAdjacentCmpFunc_api_Write [(.slice data0 data0n data0c), (.int .i64 t27), (.pointer (some swaps11)), cmp3] h2 (fun v_1 h3 => ∃ (t44 : Int), v_1 = (.int .i64 t44) ∧
 SpecH PP F_slices_medianAdjacentCmpFunc_api_Write [(.slice data0 data0n data0c), (.int .i64 t32), (.pointer (some swaps11)), cmp3] h3 (fun v_2 h4 => ∃ (t48 : Int), v_2 = (.int .i64 t48) ∧
 J1 data0 data0n data0c cmp3 swaps11 t40 t44 t48 Q h4)))) (
 J1 data0 data0n data0c cmp3 swaps11 t22 t27 t32 Q h1)) (
 J2 swaps11 t27 Q h1)) : SpecH PP F_slices_choosePivotCmpFunc_api_Write [(.slice data0 data0n data0c), (.int .i64 a1), (.int .i64 b2), cmp3] h Q :=
   spec_of_txt (ann := ann) Try.func47 rfl rfl (by kernel_rfl) H
end slices_choosePivotCmpFunc_api_Write
/-! ### slices.reverseRangeCmpFunc[haversack/api.Write]: function 48 -/
namespace slices_reverseRangeCmpFunc_api_Write
def ann : Ann := (.seq 261 (.region [(List.range 2, 261)]) (.seq 769 (.region [(List.range 3, 769)]) (.block (.loop 769 (.seq 769 (.seq 33537 (.region [(List.range 3, 33537)]) (.cond .leaf (.exit 0))) (.block (.seq 769 (.region [(List.range 16, 769)]) (.seq 769 (.region [(List.range 3, 769)]) (.region [(List.range 3, 769)])))))))))
noncomputable abbrev cd (n : Nat) : Code := sub (bodyOf Try.f48) (pth n)
abbrev an (n : Nat) : Ann := subA ann (pth n)
@[irreducible] def X0  : Fr := (mkFr 0 34 [])
@[irreducible] def L1 (data0 : OA) (data0n data0c : Nat) (i8 j9 : Int) (K : EP) (h : Heap) : Prop := Lp PP true (cd 28) (mkFr 0 34 [(0, (.slice data0 data0n data0c)), (8, (.int .i64 i8)), (9, (.int .i64 j9))]) K h
@[irreducible] def B1 (K : EP) : EP := seqK (fun fr h => Lp PP true (cd 28) (fr.mask 769) K h) K
@[irreducible] def K1 (Q : VP) : EP := blockK 0 (bodyK PP Try.f48 Q)
theorem L1_of {data0 : OA} {data0n data0c : Nat} {i8 j9 : Int} {K : EP} {h : Heap} (H :
 let t15 : Bool := decide (i8 < j9)
 br t15 (
 hwp PP (Instr.indexAt T_sl_api_Write (.slice data0 data0n data0c) (.int .i64 j9)) (fun v h1 => ∃ (t22 : Addr), v = (.pointer (some t22)) ∧
 ∃ (t23f0 t23f1 t23f2 : ByteArray) (t23f3 : Bool) (t23f4 : ByteArray), rdCells h1 t22 0 [(.string t23f0), (.string t23f1), (.string t23f2), (.bool t23f3), (.string t23f4)] ∧
 hwp PP (Instr.indexAt T_sl_api_Write (.slice data0 data0n data0c) (.int .i64 i8)) (fun v_1 h2 => ∃ (t26 : Addr), v_1 = (.pointer (some t26)) ∧
 ∃ (t27f0 t27f1 t27f2 : ByteArray) (t27f3 : Bool) (t27f4 : ByteArray), rdCells h2 t26 0 [(.string t27f0), (.string t27f1), (.string t27f2), (.bool t27f3), (.string t27f4)] ∧
 hwp PP (Instr.indexAt T_sl_api_Write (.slice data0 data0n data0c) (.int .i64 i8)) (fun v_2 h3 => ∃ (t28 : Addr), v_2 = (.pointer (some t28)) ∧
 wrCells t28 0 [(.string t23f0), (.string t23f1), (.string t23f2), (.bool t23f3), (.string t23f4)] (fun h4 =>
 hwp PP (Instr.indexAt T_sl_api_Write (.slice data0 data0n data0c) (.int .i64 j9)) (fun v_3 h5 => ∃ (t29 : Addr), v_3 = (.pointer (some t29)) ∧
 wrCells t29 0 [(.string t27f0), (.string t27f1), (.string t27f2), (.bool t27f3), (.string t27f4)] (fun h6 =>
 let t31 : Int := IntKind.i64.wrap (i8 + 1)
 let t33 : Int := IntKind.i64.wrap (j9 - 1)
 L1 data0 data0n data0c t31 t33 K h6) h5) h4) h3) h2) h1) h) (
 K (.exit 0) (X0) h)) : L1 data0 data0n data0c i8 j9 K h := by unfold L1; exact Lp.of_txt (an 28) 769 (by kernel_rfl) H
theorem L1_X0 {Q : VP}  {h : Heap} (H :
 Q (.tuple #[]) h) : (K1 Q) (.exit 0) (X0 ) h := of_eq_txt (by kernel_rfl) H
theorem door {data0 : OA} {data0n data0c : Nat} {a1 b2 : Int} {cmp3 : Value} {Q : VP} {h : Heap} (H :
 let t12 : Int := IntKind.i64.wrap (b2 - 1)
 L1 data0 data0n data0c a1 t12 (K1 Q) h) : SpecH PP F_slices_reverseRangeCmpFunc_api_Write [(.slice data0 data0n data0c), (.int .i64 a1), (.int .i64 b2), cmp3] h Q :=
   spec_of_txt (ann := ann) Try.func48 rfl rfl (by kernel_rfl) H
end slices_reverseRangeCmpFunc_api_Write
/-! ### slices.partialInsertionSortCmpFunc[haversack/api.Write]: function 49 -/
namespace slices_partialInsertionSortCmpFunc_api_Write
def ann : Ann := (.seq 15 (.region [(List.range 1, 15)]) (.seq 527 (.region [(List.range 3, 527)]) (.seq 0 (.seq 1551 (.region [(List.range 1, 1551)]) (.block (.loop 1551 (.seq 1551 (.seq 67087 (.region [(List.range 2, 67087)]) (.cond .leaf (.exit 0))) (.seq 1551 (.block (.seq 1551 (.block (.loop 1551 (.seq 1551 (.seq 68719478287 (.region [(List.range 18, 68719478287)]) (.cond .leaf (.exit 1551))) (.block (.region [(List.range 3, 1551)]))))) (.seq 1551 (.seq 2199023257103 (.region [(List.range 3, 2199023257103)]) (.cond (.seq 256 (.region [(List.range 1, 256)]) (.exit 256)) .leaf)) (.seq 1551 (.seq 35184372090383 (.region [(List.range 4, 35184372090383)]) (.cond (.seq 256 (.region [(List.range 1, 256)]) (.exit 256)) .leaf)) (.seq 1551 (.region [(List.range 18, 1551)]) (.seq 1551 (.seq 36893488147419104783 (.region [(List.range 4, 36893488147419104783)]) (.cond (.seq 3599 (.region [(List.range 3, 3599)]) (.block (.loop 3599 (.seq 3599 (.seq 590295810358705655311 (.region [(List.range 2, 590295810358705655311)]) (.cond .leaf (.exit 1551))) (.seq 3599 (.block (.seq 3599 (.seq 19342813113834066795302415 (.region [(List.range 13, 19342813113834066795302415)]) (.cond (.exit 1551) .leaf)) (.region [(List.range 18, 3599)]))) (.region [(List.range 3, 3599)])))))) .leaf)) (.join (.seq 20282409603651670423947251287567 (.region [(List.range 4, 20282409603651670423947251287567)]) (.cond (.seq 5647 (.region [(List.range 3, 5647)]) (.block (.loop 5647 (.seq 5647 (.seq 649037107316853453566312041158159 (.region [(List.range 3, 649037107316853453566312041158159)]) (.cond .leaf (.exit 1551))) (.seq 5647 (.block (.seq 5647 (.seq 21267647932558653966460912964485518863 (.region [(List.range 13, 21267647932558653966460912964485518863)]) (.cond (.exit 1551) .leaf)) (.region [(List.range 18, 5647)]))) (.region [(List.range 3, 5647)])))))) .leaf))))))))) (.join (.region [(List.range 3, 1551)]))))))) (.seq 256 (.region [(List.range 1, 256)]) (.exit 256)))))
noncomputable abbrev cd (n : Nat) : Code := sub (bodyOf Try.f49) (pth n)
abbrev an (n : Nat) : Ann := subA ann (pth n)
@[irreducible] def X0  : Fr := (mkFr 0 141 [])
@[irreducible] def X2 (data0 : OA) (data0n data0c : Nat) (a1 b2 : Int) (cmp3 : Value) (i9 j10 : Int) : Fr := (mkFr 0 141 [(0, (.slice data0 data0n data0c)), (1, (.int .i64 a1)), (2, (.int .i64 b2)), (3, cmp3), (9, (.int .i64 i9)), (10, (.int .i64 j10))])
@[irreducible] def Xret (t8 : Bool) : Fr := (mkFr 0 141 [(8, (.bool t8))])
@[irreducible] def X4 (data0 : OA) (data0n data0c : Nat) (a1 b2 : Int) (cmp3 : Value) (i9 j10 : Int) : Fr := (mkFr 0 141 [(0, (.slice data0 data0n data0c)), (1, (.int .i64 a1)), (2, (.int .i64 b2)), (3, cmp3), (9, (.int .i64 i9)), (10, (.int .i64 j10))])
@[irreducible] def X6 (data0 : OA) (data0n data0c : Nat) (a1 b2 : Int) (cmp3 : Value) (i9 j10 : Int) : Fr := (mkFr 0 141 [(0, (.slice data0 data0n data0c)), (1, (.int .i64 a1)), (2, (.int .i64 b2)), (3, cmp3), (9, (.int .i64 i9)), (10, (.int .i64 j10))])
@[irreducible] def L1 (data0 : OA) (data0n data0c : Nat) (a1 b2 : Int) (cmp3 : Value) (i9 j10 : Int) (K : EP) (h : Heap) : Prop := Lp PP true (cd 116) (mkFr 0 141 [(0, (.slice data0 data0n data0c)), (1, (.int .i64 a1)), (2, (.int .i64 b2)), (3, cmp3), (9, (.int .i64 i9)), (10, (.int .i64 j10))]) K h
@[irreducible] def B1 (K : EP) : EP := seqK (fun fr h => Lp PP true (cd 116) (fr.mask 1551) K h) K
@[irreducible] def K3 (Q : VP) : EP := seqK (fun fr h => ev PP true none (cd 15) (an 15) (fr.mask 0) (bodyK PP Try.f49 Q) h) (bodyK PP Try.f49 Q)
@[irreducible] def K1 (Q : VP) : EP := blockK 0 (K3 Q)
@[irreducible] def K9 (K : EP) : EP := seqK (fun fr h => Jn PP true (cd 467) (fr.mask 1551) (B1 K) h) (B1 K)
@[irreducible] def K6 (K : EP) : EP := blockK 1 (K9 K)
@[irreducible] def K4 (K : EP) : EP := seqK (fun fr h => ev PP true none (cd 1865) (an 1865) (fr.mask 1551) (K6 K) h) (K6 K)
@[irreducible] def K2 (K : EP) : EP := blockK 2 (K4 K)
@[irreducible] def L2 (data0 : OA) (data0n data0c : Nat) (a1 b2 : Int) (cmp3 : Value) (i9 j10 : Int) (K : EP) (h : Heap) : Prop := Lp PP true (cd 7456) (mkFr 0 141 [(0, (.slice data0 data0n data0c)), (1, (.int .i64 a1)), (2, (.int .i64 b2)), (3, cmp3), (9, (.int .i64 i9)), (10, (.int .i64 j10))]) K h
@[irreducible] def B2 (K : EP) : EP := seqK (fun fr h => Lp PP true (cd 7456) (fr.mask 1551) K h) K
@[irreducible] def J1 (data0 : OA) (data0n data0c : Nat) (a1 b2 : Int) (cmp3 : Value) (i9 j10 : Int) (K : EP) (h : Heap) : Prop := Jn PP true (cd 29855) (mkFr 0 141 [(0, (.slice data0 data0n data0c)), (1, (.int .i64 a1)), (2, (.int .i64 b2)), (3, cmp3), (9, (.int .i64 i9)), (10, (.int .i64 j10))]) (K6 K) h
@[irreducible] def K8 (K : EP) : EP := seqK (fun fr h => Jn PP true (cd 29855) (fr.mask 1551) (K6 K) h) (K6 K)
@[irreducible] def K5 (K : EP) : EP := blockK 4 (K8 K)
@[irreducible] def K7 (K : EP) : EP := blockK 6 (K6 K)
@[irreducible] def L3 (data0 : OA) (data0n data0c : Nat) (a1 b2 : Int) (cmp3 : Value) (i9 j10 j11 : Int) (K : EP) (h : Heap) : Prop := Lp PP true (cd 955348) (mkFr 0 141 [(0, (.slice data0 data0n data0c)), (1, (.int .i64 a1)), (2, (.int .i64 b2)), (3, cmp3), (9, (.int .i64 i9)), (10, (.int .i64 j10)), (11, (.int .i64 j11))]) K h
@[irreducible] def B3 (K : EP) : EP := seqK (fun fr h => Lp PP true (cd 955348) (fr.mask 3599) K h) K
@[irreducible] def L4 (data0 : OA) (data0n data0c : Nat) (a1 b2 : Int) (cmp3 : Value) (i9 j10 j12 : Int) (K : EP) (h : Heap) : Prop := Lp PP true (cd 955380) (mkFr 0 141 [(0, (.slice data0 data0n data0c)), (1, (.int .i64 a1)), (2, (.int .i64 b2)), (3, cmp3), (9, (.int .i64 i9)), (10, (.int .i64 j10)), (12, (.int .i64 j12))]) K h
@[irreducible] def B4 (K : EP) : EP := seqK (fun fr h => Lp PP true (cd 955380) (fr.mask 5647) K h) K
@[irreducible] def J2 (data0 : OA) (data0n data0c : Nat) (a1 b2 : Int) (cmp3 : Value) (i9 j10 : Int) (K : EP) (h : Heap) : Prop := Jn PP true (cd 467) (mkFr 0 141 [(0, (.slice data0 data0n data0c)), (1, (.int .i64 a1)), (2, (.int .i64 b2)), (3, cmp3), (9, (.int .i64 i9)), (10, (.int .i64 j10))]) (B1 K) h
theorem L1_of {data0 : OA} {data0n data0c : Nat} {a1 b2 : Int} {cmp3 : Value} {i9 j10 : Int} {K : EP} {h : Heap} (H :
 let t16 : Bool := decide (j10 < 5)
 br t16 (
 L2 data0 data0n data0c a1 b2 cmp3 i9 j10 (K2 K) h) (
 K (.exit 0) (X0) h)) : L1 data0 data0n data0c a1 b2 cmp3 i9 j10 K h := by unfold L1; exact Lp.of_txt (an 116) 1551 (by kernel_rfl) H
theorem L1_X0 {Q : VP}  {h : Heap} (H :
 Q (.bool false) h) : (K1 Q) (.exit 0) (X0 ) h := of_eq_txt (by kernel_rfl) H
theorem L2_of {data0 : OA} {data0n data0c : Nat} {a1 b2 : Int} {cmp3 : Value} {i9 j10 : Int} {K : EP} {h : Heap} (H :
 let t21 : Bool := decide (i9 < b2)
 br t21 (
 hwp PP (Instr.indexAt T_sl_api_Write (.slice data0 data0n data0c) (.int .i64 i9)) (fun v h1 => ∃ (t26 : Addr), v = (.pointer (some t26)) ∧
 ∃ (t27f0 t27f1 t27f2 : ByteArray) (t27f3 : Bool) (t27f4 : ByteArray), rdCells h1 t26 0 [(.string t27f0), (.string t27f1), (.string t27f2), (.bool t27f3), (.string t27f4)] ∧
 let t30 : Int := IntKind.i64.wrap (i9 - 1)
 hwp PP (Instr.indexAt T_sl_api_Write (.slice data0 data0n data0c) (.int .i64 t30)) (fun v_1 h2 => ∃ (t31 : Addr), v_1 = (.pointer (some t31)) ∧
 ∃ (t32f0 t32f1 t32f2 : ByteArray) (t32f3 : Bool) (t32f4 : ByteArray), rdCells h2 t31 0 [(.string t32f0), (.string t32f1), (.string t32f2), (.bool t32f3), (.string t32f4)] ∧
 callV PP cmp3 [(.agg #[(.string t27f0), (.string t27f1), (.string t27f2), (.bool t27f3), (.string t27f4)]), (.agg #[(.string t32f0), (.string t32f1), (.string t32f2), (.bool t32f3), (.string t32f4)])] (fun v_2 h3 => ∃ (t33 : Int), v_2 = (.int .i64 t33) ∧
 let t34 : Bool := decide (t33 < 0)
 let t35 : Bool := (!t34)
 br t35 (
 let t38 : Int := IntKind.i64.wrap (i9 + 1)
 L2 data0 data0n data0c a1 b2 cmp3 t38 j10 K h3) (
 K (.exit 2) (X2 data0 data0n data0c a1 b2 cmp3 i9 j10) h3)) h2) h1) h) (
 K (.exit 2) (X2 data0 data0n data0c a1 b2 cmp3 i9 j10) h)) : L2 data0 data0n data0c a1 b2 cmp3 i9 j10 K h := by unfold L2; exact Lp.of_txt (an 7456) 1551 (by kernel_rfl) H
theorem L2_X2 {K : EP} {data0 : OA} {data0n data0c : Nat} {a1 b2 : Int} {cmp3 : Value} {i9 j10 : Int} {h : Heap} (H :
 let t41 : Bool := (i9 == b2)
 br t41 (
 K .ret (Xret true) h) (
 let t44 : Int := IntKind.i64.wrap (b2 - a1)
 let t45 : Bool := decide (t44 < 50)
 br t45 (
 K .ret (Xret false) h) (
 let t50 : Int := IntKind.i64.wrap (i9 - 1)
 let t53 : Int := IntKind.i64.wrap (i9 - 1)
 hwp PP (Instr.indexAt T_sl_api_Write (.slice data0 data0n data0c) (.int .i64 t53)) (fun v h1 => ∃ (t54 : Addr), v = (.pointer (some t54)) ∧
 ∃ (t55f0 t55f1 t55f2 : ByteArray) (t55f3 : Bool) (t55f4 : ByteArray), rdCells h1 t54 0 [(.string t55f0), (.string t55f1), (.string t55f2), (.bool t55f3), (.string t55f4)] ∧
 hwp PP (Instr.indexAt T_sl_api_Write (.slice data0 data0n data0c) (.int .i64 i9)) (fun v_1 h2 => ∃ (t58 : Addr), v_1 = (.pointer (some t58)) ∧
 ∃ (t59f0 t59f1 t59f2 : ByteArray) (t59f3 : Bool) (t59f4 : ByteArray), rdCells h2 t58 0 [(.string t59f0), (.string t59f1), (.string t59f2), (.bool t59f3), (.string t59f4)] ∧
 hwp PP (Instr.indexAt T_sl_api_Write (.slice data0 data0n data0c) (.int .i64 i9)) (fun v_2 h3 => ∃ (t60 : Addr), v_2 = (.pointer (some t60)) ∧
 wrCells t60 0 [(.string t55f0), (.string t55f1), (.string t55f2), (.bool t55f3), (.string t55f4)] (fun h4 =>
 hwp PP (Instr.indexAt T_sl_api_Write (.slice data0 data0n data0c) (.int .i64 t50)) (fun v_3 h5 => ∃ (t61 : Addr), v_3 = (.pointer (some t61)) ∧
 wrCells t61 0 [(.string t59f0), (.string t59f1), (.string t59f2), (.bool t59f3), (.string t59f4)] (fun h6 =>
 let t64 : Int := IntKind.i64.wrap (i9 - a1)
 let t65 : Bool := decide (t64 ≥ 2)
 br t65 (
 let t67 : Int := IntKind.i64.wrap (i9 - 1)
 L3 data0 data0n data0c a1 b2 cmp3 i9 j10 t67 (K5 K) h6) (
 J1 data0 data0n data0c a1 b2 cmp3 i9 j10 K h6)) h5) h4) h3) h2) h1) h))) : (K2 K) (.exit 2) (X2 data0 data0n data0c a1 b2 cmp3 i9 j10) h := of_eq_txt (by kernel_rfl) H
theorem J1_of {data0 : OA} {data0n data0c : Nat} {a1 b2 : Int} {cmp3 : Value} {i9 j10 : Int} {K : EP} {h : Heap} (H :
 let t103 : Int := IntKind.i64.wrap (b2 - i9)
 let t104 : Bool := decide (t103 ≥ 2)
 br t104 (
 let t106 : Int := IntKind.i64.wrap (i9 + 1)
 L4 data0 data0n data0c a1 b2 cmp3 i9 j10 t106 (K7 K) h) (
 J2 data0 data0n data0c a1 b2 cmp3 i9 j10 K h)) : J1 data0 data0n data0c a1 b2 cmp3 i9 j10 K h := by unfold J1; exact Jn.of_txt (an 29855) (by kernel_rfl) H
theorem L1_Xret {Q : VP} {t8 : Bool} {h : Heap} (H :
 Q (.bool t8) h) : (K1 Q) .ret (Xret t8) h := of_eq_txt (by kernel_rfl) H
theorem L3_of {data0 : OA} {data0n data0c : Nat} {a1 b2 : Int} {cmp3 : Value} {i9 j10 j11 : Int} {K : EP} {h : Heap} (H :
 let t69 : Bool := decide (j11 ≥ 1)
 br t69 (
 hwp PP (Instr.indexAt T_sl_api_Write (.slice data0 data0n data0c) (.int .i64 j11)) (fun v h1 => ∃ (t75 : Addr), v = (.pointer (some t75)) ∧
 ∃ (t76f0 t76f1 t76f2 : ByteArray) (t76f3 : Bool) (t76f4 : ByteArray), rdCells h1 t75 0 [(.string t76f0), (.string t76f1), (.string t76f2), (.bool t76f3), (.string t76f4)] ∧
 let t79 : Int := IntKind.i64.wrap (j11 - 1)
 hwp PP (Instr.indexAt T_sl_api_Write (.slice data0 data0n data0c) (.int .i64 t79)) (fun v_1 h2 => ∃ (t80 : Addr), v_1 = (.pointer (some t80)) ∧
 ∃ (t81f0 t81f1 t81f2 : ByteArray) (t81f3 : Bool) (t81f4 : ByteArray), rdCells h2 t80 0 [(.string t81f0), (.string t81f1), (.string t81f2), (.bool t81f3), (.string t81f4)] ∧
 callV PP cmp3 [(.agg #[(.string t76f0), (.string t76f1), (.string t76f2), (.bool t76f3), (.string t76f4)]), (.agg #[(.string t81f0), (.string t81f1), (.string t81f2), (.bool t81f3), (.string t81f4)])] (fun v_2 h3 => ∃ (t82 : Int), v_2 = (.int .i64 t82) ∧
 let t83 : Bool := decide (t82 < 0)
 let t84 : Bool := (!t83)
 br t84 (
 K (.exit 4) (X4 data0 data0n data0c a1 b2 cmp3 i9 j10) h3) (
 let t89 : Int := IntKind.i64.wrap (j11 - 1)
 let t92 : Int := IntKind.i64.wrap (j11 - 1)
 hwp PP (Instr.indexAt T_sl_api_Write (.slice data0 data0n data0c) (.int .i64 t92)) (fun v_3 h4 => ∃ (t93 : Addr), v_3 = (.pointer (some t93)) ∧
 ∃ (t94f0 t94f1 t94f2 : ByteArray) (t94f3 : Bool) (t94f4 : ByteArray), rdCells h4 t93 0 [(.string t94f0), (.string t94f1), (.string t94f2), (.bool t94f3), (.string t94f4)] ∧
 hwp PP (Instr.indexAt T_sl_api_Write (.slice data0 data0n data0c) (.int .i64 j11)) (fun v_4 h5 => ∃ (t97 : Addr), v_4 = (.pointer (some t97)) ∧
 ∃ (t98f0 t98f1 t98f2 : ByteArray) (t98f3 : Bool) (t98f4 : ByteArray), rdCells h5 t97 0 [(.string t98f0), (.string t98f1), (.string t98f2), (.bool t98f3), (.string t98f4)] ∧
 hwp PP (Instr.indexAt T_sl_api_Write (.slice data0 data0n data0c) (.int .i64 j11)) (fun v_5 h6 => ∃ (t99 : Addr), v_5 = (.pointer (some t99)) ∧
 wrCells t99 0 [(.string t94f0), (.string t94f1), (.string t94f2), (.bool t94f3), (.string t94f4)] (fun h7 =>
 hwp PP (Instr.indexAt T_sl_api_Write (.slice data0 data0n data0c) (.int .i64 t89)) (fun v_6 h8 => ∃ (t100 : Addr), v_6 = (.pointer (some t100)) ∧
 wrCells t100 0 [(.string t98f0), (.string t98f1), (.string t98f2), (.bool t98f3), (.string t98f4)] (fun h9 =>
 let t71 : Int := IntKind.i64.wrap (j11 - 1)
 L3 data0 data0n data0c a1 b2 cmp3 i9 j10 t71 K h9) h8) h7) h6) h5) h4) h3)) h2) h1) h) (
 K (.exit 4) (X4 data0 data0n data0c a1 b2 cmp3 i9 j10) h)) : L3 data0 data0n data0c a1 b2 cmp3 i9 j10 j11 K h := by unfold L3; exact Lp.of_txt (an 955348) 3599 (by kernel_rfl) H
theorem L3_X4 {K : EP} {data0 : OA} {data0n data0c : Nat} {a1 b2 : Int} {cmp3 : Value} {i9 j10 : Int} {h : Heap} (H :
 J1 data0 data0n data0c a1 b2 cmp3 i9 j10 K h) : (K5 K) (.exit 4) (X4 data0 data0n data0c a1 b2 cmp3 i9 j10) h := of_eq_txt (by kernel_rfl) H
theorem L4_of {data0 : OA} {data0n data0c : Nat} {a1 b2 : Int} {cmp3 : Value} {i9 j10 j12 : Int} {K : EP} {h : Heap} (H :
 let t109 : Bool := decide (j12 < b2)
 br t109 (
 hwp PP (Instr.indexAt T_sl_api_Write (.slice data0 data0n data0c) (.int .i64 j12)) (fun v h1 => ∃ (t115 : Addr), v = (.pointer (some t115)) ∧
 ∃ (t116f0 t116f1 t116f2 : ByteArray) (t116f3 : Bool) (t116f4 : ByteArray), rdCells h1 t115 0 [(.string t116f0), (.string t116f1), (.string t116f2), (.bool t116f3), (.string t116f4)] ∧
 let t119 : Int := IntKind.i64.wrap (j12 - 1)
 hwp PP (Instr.indexAt T_sl_api_Write (.slice data0 data0n data0c) (.int .i64 t119)) (fun v_1 h2 => ∃ (t120 : Addr), v_1 = (.pointer (some t120)) ∧
 ∃ (t121f0 t121f1 t121f2 : ByteArray) (t121f3 : Bool) (t121f4 : ByteArray), rdCells h2 t120 0 [(.string t121f0), (.string t121f1), (.string t121f2), (.bool t121f3), (.string t121f4)] ∧
 callV PP cmp3 [(.agg #[(.string t116f0), (.string t116f1), (.string t116f2), (.bool t116f3), (.string t116f4)]), (.agg #[(.string t121f0), (.string t121f1), (.string t121f2), (.bool t121f3), (.string t121f4)])] (fun v_2 h3 => ∃ (t122 : Int), v_2 = (.int .i64 t122) ∧
 let t123 : Bool := decide (t122 < 0)
 let t124 : Bool := (!t123)
 br t124 (
 K (.exit 6) (X6 data0 data0n data0c a1 b2 cmp3 i9 j10) h3) (
 let t129 : Int := IntKind.i64.wrap (j12 - 1)
 let t132 : Int := IntKind.i64.wrap (j12 - 1)
 hwp PP (Instr.indexAt T_sl_api_Write (.slice data0 data0n data0c) (.int .i64 t132)) (fun v_3 h4 => ∃ (t133 : Addr), v_3 = (.pointer (some t133)) ∧
 ∃ (t134f0 t134f1 t134f2 : ByteArray) (t134f3 : Bool) (t134f4 : ByteArray), rdCells h4 t133 0 [(.string t134f0), (.string t134f1), (.string t134f2), (.bool t134f3), (.string t134f4)] ∧
 hwp PP (Instr.indexAt T_sl_api_Write (.slice data0 data0n data0c) (.int .i64 j12)) (fun v_4 h5 => ∃ (t137 : Addr), v_4 = (.pointer (some t137)) ∧
 ∃ (t138f0 t138f1 t138f2 : ByteArray) (t138f3 : Bool) (t138f4 : ByteArray), rdCells h5 t137 0 [(.string t138f0), (.string t138f1), (.string t138f2), (.bool t138f3), (.string t138f4)] ∧
 hwp PP (Instr.indexAt T_sl_api_Write (.slice data0 data0n data0c) (.int .i64 j12)) (fun v_5 h6 => ∃ (t139 : Addr), v_5 = (.pointer (some t139)) ∧
 wrCells t139 0 [(.string t134f0), (.string t134f1), (.string t134f2), (.bool t134f3), (.string t134f4)] (fun h7 =>
 hwp PP (Instr.indexAt T_sl_api_Write (.slice data0 data0n data0c) (.int .i64 t129)) (fun v_6 h8 => ∃ (t140 : Addr), v_6 = (.pointer (some t140)) ∧
 wrCells t140 0 [(.string t138f0), (.string t138f1), (.string t138f2), (.bool t138f3), (.string t138f4)] (fun h9 =>
 let t111 : Int := IntKind.i64.wrap (j12 + 1)
 L4 data0 data0n data0c a1 b2 cmp3 i9 j10 t111 K h9) h8) h7) h6) h5) h4) h3)) h2) h1) h) (
 K (.exit 6) (X6 data0 data0n data0c a1 b2 cmp3 i9 j10) h)) : L4 data0 data0n data0c a1 b2 cmp3 i9 j10 j12 K h := by unfold L4; exact Lp.of_txt (an 955380) 5647 (by kernel_rfl) H
theorem L4_X6 {K : EP} {data0 : OA} {data0n data0c : Nat} {a1 b2 : Int} {cmp3 : Value} {i9 j10 : Int} {h : Heap} (H :
 J2 data0 data0n data0c a1 b2 cmp3 i9 j10 K h) : (K7 K) (.exit 6) (X6 data0 data0n data0c a1 b2 cmp3 i9 j10) h := of_eq_txt (by kernel_rfl) H
theorem J2_of {data0 : OA} {data0n data0c : Nat} {a1 b2 : Int} {cmp3 : Value} {i9 j10 : Int} {K : EP} {h : Heap} (H :
 let t18 : Int := IntKind.i64.wrap (j10 + 1)
 L1 data0 data0n data0c a1 b2 cmp3 i9 t18 K h) : J2 data0 data0n data0c a1 b2 cmp3 i9 j10 K h := by unfold J2; exact Jn.of_txt (an 467) (by kernel_rfl) H
theorem door {data0 : OA} {data0n data0c : Nat} {a1 b2 : Int} {cmp3 : Value} {Q : VP} {h : Heap} (H :
 let t14 : Int := IntKind.i64.wrap (a1 + 1)
 L1 data0 data0n data0c a1 b2 cmp3 t14 0 (K1 Q) h) : SpecH PP F_slices_partialInsertionSortCmpFunc_api_Write [(.slice data0 data0n data0c), (.int .i64 a1), (.int .i64 b2), cmp3] h Q :=
   spec_of_txt (ann := ann) Try.func49 rfl rfl (by kernel_rfl) H
end slices_partialInsertionSortCmpFunc_api_Write
/-! ### slices.partitionEqualCmpFunc[haversack/api.Write]: function 50 -/
namespace slices_partitionEqualCmpFunc_api_Write
def ann : Ann := (.seq 31 (.region [(List.range 1, 31)]) (.seq 23 (.region [(List.range 16, 23)]) (.seq 6163 (.region [(List.range 6, 6163)]) (.seq 2048 (.block (.loop 6163 (.block (.seq 6163 (.block (.loop 6163 (.seq 6163 (.seq 140737488361491 (.region [(List.range 17, 140737488361491)]) (.cond .leaf (.exit 6163))) (.block (.region [(List.range 3, 6163)]))))) (.seq 6163 (.block (.loop 6163 (.seq 6163 (.seq 36893488147419109395 (.region [(List.range 16, 36893488147419109395)]) (.cond .leaf (.exit 6163))) (.block (.region [(List.range 3, 6163)]))))) (.seq 6163 (.seq 1180591620717411309587 (.region [(List.range 3, 1180591620717411309587)]) (.cond (.exit 2048) .leaf)) (.seq 6163 (.region [(List.range 16, 6163)]) (.seq 6163 (.region [(List.range 3, 6163)]) (.region [(List.range 3, 6163)]))))))))) (.seq 1024 (.region [(List.range 2, 1024)]) (.exit 1024))))))
noncomputable abbrev cd (n : Nat) : Code := sub (bodyOf Try.f50) (pth n)
abbrev an (n : Nat) : Ann := subA ann (pth n)
@[irreducible] def X2 (data0 : OA) (data0n data0c : Nat) (a1 : Int) (cmp4 : Value) (i11 j12 : Int) : Fr := (mkFr 0 90 [(0, (.slice data0 data0n data0c)), (1, (.int .i64 a1)), (4, cmp4), (11, (.int .i64 i11)), (12, (.int .i64 j12))])
@[irreducible] def X4 (data0 : OA) (data0n data0c : Nat) (a1 : Int) (cmp4 : Value) (i11 j12 : Int) : Fr := (mkFr 0 90 [(0, (.slice data0 data0n data0c)), (1, (.int .i64 a1)), (4, cmp4), (11, (.int .i64 i11)), (12, (.int .i64 j12))])
@[irreducible] def X0 (i11 : Int) : Fr := (mkFr 0 90 [(11, (.int .i64 i11))])
@[irreducible] def L1 (data0 : OA) (data0n data0c : Nat) (a1 : Int) (cmp4 : Value) (i11 j12 : Int) (K : EP) (h : Heap) : Prop := Lp PP true (cd 120) (mkFr 0 90 [(0, (.slice data0 data0n data0c)), (1, (.int .i64 a1)), (4, cmp4), (11, (.int .i64 i11)), (12, (.int .i64 j12))]) K h
@[irreducible] def B1 (K : EP) : EP := seqK (fun fr h => Lp PP true (cd 120) (fr.mask 6163) K h) K
@[irreducible] def K3 (Q : VP) : EP := seqK (fun fr h => ev PP true none (cd 31) (an 31) (fr.mask 2048) (bodyK PP Try.f50 Q) h) (bodyK PP Try.f50 Q)
@[irreducible] def K1 (Q : VP) : EP := blockK 0 (K3 Q)
@[irreducible] def K6 (K : EP) : EP := blockK 1 (B1 K)
@[irreducible] def K4 (K : EP) : EP := seqK (fun fr h => ev PP true none (cd 481) (an 481) (fr.mask 6163) (K6 K) h) (K6 K)
@[irreducible] def K2 (K : EP) : EP := blockK 2 (K4 K)
@[irreducible] def L2 (data0 : OA) (data0n data0c : Nat) (a1 : Int) (cmp4 : Value) (i11 j12 : Int) (K : EP) (h : Heap) : Prop := Lp PP true (cd 1920) (mkFr 0 90 [(0, (.slice data0 data0n data0c)), (1, (.int .i64 a1)), (4, cmp4), (11, (.int .i64 i11)), (12, (.int .i64 j12))]) K h
@[irreducible] def B2 (K : EP) : EP := seqK (fun fr h => Lp PP true (cd 1920) (fr.mask 6163) K h) K
@[irreducible] def K7 (K : EP) : EP := seqK (fun fr h => ev PP true none (cd 963) (an 963) (fr.mask 6163) (K6 K) h) (K6 K)
@[irreducible] def K5 (K : EP) : EP := blockK 4 (K7 K)
@[irreducible] def L3 (data0 : OA) (data0n data0c : Nat) (a1 : Int) (cmp4 : Value) (i11 j12 : Int) (K : EP) (h : Heap) : Prop := Lp PP true (cd 3848) (mkFr 0 90 [(0, (.slice data0 data0n data0c)), (1, (.int .i64 a1)), (4, cmp4), (11, (.int .i64 i11)), (12, (.int .i64 j12))]) K h
@[irreducible] def B3 (K : EP) : EP := seqK (fun fr h => Lp PP true (cd 3848) (fr.mask 6163) K h) K
theorem L1_of {data0 : OA} {data0n data0c : Nat} {a1 : Int} {cmp4 : Value} {i11 j12 : Int} {K : EP} {h : Heap} (H :
 L2 data0 data0n data0c a1 cmp4 i11 j12 (K2 K) h) : L1 data0 data0n data0c a1 cmp4 i11 j12 K h := by unfold L1; exact Lp.of_txt (an 120) 6163 (by kernel_rfl) H
theorem L2_of {data0 : OA} {data0n data0c : Nat} {a1 : Int} {cmp4 : Value} {i11 j12 : Int} {K : EP} {h : Heap} (H :
 let t33 : Bool := decide (i11 ≤ j12)
 br t33 (
 hwp PP (Instr.indexAt T_sl_api_Write (.slice data0 data0n data0c) (.int .i64 a1)) (fun v h1 => ∃ (t38 : Addr), v = (.pointer (some t38)) ∧
 ∃ (t39f0 t39f1 t39f2 : ByteArray) (t39f3 : Bool) (t39f4 : ByteArray), rdCells h1 t38 0 [(.string t39f0), (.string t39f1), (.string t39f2), (.bool t39f3), (.string t39f4)] ∧
 hwp PP (Instr.indexAt T_sl_api_Write (.slice data0 data0n data0c) (.int .i64 i11)) (fun v_1 h2 => ∃ (t42 : Addr), v_1 = (.pointer (some t42)) ∧
 ∃ (t43f0 t43f1 t43f2 : ByteArray) (t43f3 : Bool) (t43f4 : ByteArray), rdCells h2 t42 0 [(.string t43f0), (.string t43f1), (.string t43f2), (.bool t43f3), (.string t43f4)] ∧
 callV PP cmp4 [(.agg #[(.string t39f0), (.string t39f1), (.string t39f2), (.bool t39f3), (.string t39f4)]), (.agg #[(.string t43f0), (.string t43f1), (.string t43f2), (.bool t43f3), (.string t43f4)])] (fun v_2 h3 => ∃ (t44 : Int), v_2 = (.int .i64 t44) ∧
 let t45 : Bool := decide (t44 < 0)
 let t46 : Bool := (!t45)
 br t46 (
 let t49 : Int := IntKind.i64.wrap (i11 + 1)
 L2 data0 data0n data0c a1 cmp4 t49 j12 K h3) (
 K (.exit 2) (X2 data0 data0n data0c a1 cmp4 i11 j12) h3)) h2) h1) h) (
 K (.exit 2) (X2 data0 data0n data0c a1 cmp4 i11 j12) h)) : L2 data0 data0n data0c a1 cmp4 i11 j12 K h := by unfold L2; exact Lp.of_txt (an 1920) 6163 (by kernel_rfl) H
theorem L2_X2 {K : EP} {data0 : OA} {data0n data0c : Nat} {a1 : Int} {cmp4 : Value} {i11 j12 : Int} {h : Heap} (H :
 L3 data0 data0n data0c a1 cmp4 i11 j12 (K5 K) h) : (K2 K) (.exit 2) (X2 data0 data0n data0c a1 cmp4 i11 j12) h := of_eq_txt (by kernel_rfl) H
theorem L3_of {data0 : OA} {data0n data0c : Nat} {a1 : Int} {cmp4 : Value} {i11 j12 : Int} {K : EP} {h : Heap} (H :
 let t52 : Bool := decide (i11 ≤ j12)
 br t52 (
 hwp PP (Instr.indexAt T_sl_api_Write (.slice data0 data0n data0c) (.int .i64 a1)) (fun v h1 => ∃ (t57 : Addr), v = (.pointer (some t57)) ∧
 ∃ (t58f0 t58f1 t58f2 : ByteArray) (t58f3 : Bool) (t58f4 : ByteArray), rdCells h1 t57 0 [(.string t58f0), (.string t58f1), (.string t58f2), (.bool t58f3), (.string t58f4)] ∧
 hwp PP (Instr.indexAt T_sl_api_Write (.slice data0 data0n data0c) (.int .i64 j12)) (fun v_1 h2 => ∃ (t61 : Addr), v_1 = (.pointer (some t61)) ∧
 ∃ (t62f0 t62f1 t62f2 : ByteArray) (t62f3 : Bool) (t62f4 : ByteArray), rdCells h2 t61 0 [(.string t62f0), (.string t62f1), (.string t62f2), (.bool t62f3), (.string t62f4)] ∧
 callV PP cmp4 [(.agg #[(.string t58f0), (.string t58f1), (.string t58f2), (.bool t58f3), (.string t58f4)]), (.agg #[(.string t62f0), (.string t62f1), (.string t62f2), (.bool t62f3), (.string t62f4)])] (fun v_2 h3 => ∃ (t63 : Int), v_2 = (.int .i64 t63) ∧
 let t64 : Bool := decide (t63 < 0)
 br t64 (
 let t67 : Int := IntKind.i64.wrap (j12 - 1)
 L3 data0 data0n data0c a1 cmp4 i11 t67 K h3) (
 K (.exit 4) (X4 data0 data0n data0c a1 cmp4 i11 j12) h3)) h2) h1) h) (
 K (.exit 4) (X4 data0 data0n data0c a1 cmp4 i11 j12) h)) : L3 data0 data0n data0c a1 cmp4 i11 j12 K h := by unfold L3; exact Lp.of_txt (an 3848) 6163 (by kernel_rfl) H
theorem L3_X4 {K : EP} {data0 : OA} {data0n data0c : Nat} {a1 : Int} {cmp4 : Value} {i11 j12 : Int} {h : Heap} (H :
 let t70 : Bool := decide (i11 > j12)
 br t70 (
 K (.exit 0) (X0 i11) h) (
 hwp PP (Instr.indexAt T_sl_api_Write (.slice data0 data0n data0c) (.int .i64 j12)) (fun v h1 => ∃ (t77 : Addr), v = (.pointer (some t77)) ∧
 ∃ (t78f0 t78f1 t78f2 : ByteArray) (t78f3 : Bool) (t78f4 : ByteArray), rdCells h1 t77 0 [(.string t78f0), (.string t78f1), (.string t78f2), (.bool t78f3), (.string t78f4)] ∧
 hwp PP (Instr.indexAt T_sl_api_Write (.slice data0 data0n data0c) (.int .i64 i11)) (fun v_1 h2 => ∃ (t81 : Addr), v_1 = (.pointer (some t81)) ∧
 ∃ (t82f0 t82f1 t82f2 : ByteArray) (t82f3 : Bool) (t82f4 : ByteArray), rdCells h2 t81 0 [(.string t82f0), (.string t82f1), (.string t82f2), (.bool t82f3), (.string t82f4)] ∧
 hwp PP (Instr.indexAt T_sl_api_Write (.slice data0 data0n data0c) (.int .i64 i11)) (fun v_2 h3 => ∃ (t83 : Addr), v_2 = (.pointer (some t83)) ∧
 wrCells t83 0 [(.string t78f0), (.string t78f1), (.string t78f2), (.bool t78f3), (.string t78f4)] (fun h4 =>
 hwp PP (Instr.indexAt T_sl_api_Write (.slice data0 data0n data0c) (.int .i64 j12)) (fun v_3 h5 => ∃ (t84 : Addr), v_3 = (.pointer (some t84)) ∧
 wrCells t84 0 [(.string t82f0), (.string t82f1), (.string t82f2), (.bool t82f3), (.string t82f4)] (fun h6 =>
 let t86 : Int := IntKind.i64.wrap (i11 + 1)
 let t88 : Int := IntKind.i64.wrap (j12 - 1)
 L1 data0 data0n data0c a1 cmp4 t86 t88 K h6) h5) h4) h3) h2) h1) h)) : (K5 K) (.exit 4) (X4 data0 data0n data0c a1 cmp4 i11 j12) h := of_eq_txt (by kernel_rfl) H
theorem L1_X0 {Q : VP} {i11 : Int} {h : Heap} (H :
 Q (.int .i64 i11) h) : (K1 Q) (.exit 0) (X0 i11) h := of_eq_txt (by kernel_rfl) H
theorem door {data0 : OA} {data0n data0c : Nat} {a1 b2 pivot3 : Int} {cmp4 : Value} {Q : VP} {h : Heap} (H :
 hwp PP (Instr.indexAt T_sl_api_Write (.slice data0 data0n data0c) (.int .i64 pivot3)) (fun v h1 => ∃ (t19 : Addr), v = (.pointer (some t19)) ∧
 ∃ (t20f0 t20f1 t20f2 : ByteArray) (t20f3 : Bool) (t20f4 : ByteArray), rdCells h1 t19 0 [(.string t20f0), (.string t20f1), (.string t20f2), (.bool t20f3), (.string t20f4)] ∧
 hwp PP (Instr.indexAt T_sl_api_Write (.slice data0 data0n data0c) (.int .i64 a1)) (fun v_1 h2 => ∃ (t23 : Addr), v_1 = (.pointer (some t23)) ∧
 ∃ (t24f0 t24f1 t24f2 : ByteArray) (t24f3 : Bool) (t24f4 : ByteArray), rdCells h2 t23 0 [(.string t24f0), (.string t24f1), (.string t24f2), (.bool t24f3), (.string t24f4)] ∧
 hwp PP (Instr.indexAt T_sl_api_Write (.slice data0 data0n data0c) (.int .i64 a1)) (fun v_2 h3 => ∃ (t25 : Addr), v_2 = (.pointer (some t25)) ∧
 wrCells t25 0 [(.string t20f0), (.string t20f1), (.string t20f2), (.bool t20f3), (.string t20f4)] (fun h4 =>
 hwp PP (Instr.indexAt T_sl_api_Write (.slice data0 data0n data0c) (.int .i64 pivot3)) (fun v_3 h5 => ∃ (t26 : Addr), v_3 = (.pointer (some t26)) ∧
 wrCells t26 0 [(.string t24f0), (.string t24f1), (.string t24f2), (.bool t24f3), (.string t24f4)] (fun h6 =>
 let t28 : Int := IntKind.i64.wrap (a1 + 1)
 let t30 : Int := IntKind.i64.wrap (b2 - 1)
 L1 data0 data0n data0c a1 cmp4 t28 t30 (K1 Q) h6) h5) h4) h3) h2) h1) h) : SpecH PP F_slices_partitionEqualCmpFunc_api_Write [(.slice data0 data0n data0c), (.int .i64 a1), (.int .i64 b2), (.int .i64 pivot3), cmp4] h Q :=
   spec_of_txt (ann := ann) Try.func50 rfl rfl (by kernel_rfl) H
end slices_partitionEqualCmpFunc_api_Write
/-! ### slices.partitionCmpFunc[haversack/api.Write]: function 51 -/
namespace slices_partitionCmpFunc_api_Write
def ann : Ann := (.seq 31 (.region [(List.range 2, 31)]) (.seq 23 (.region [(List.range 16, 23)]) (.seq 12307 (.region [(List.range 6, 12307)]) (.seq 12307 (.block (.loop 12307 (.seq 12307 (.seq 140737488367635 (.region [(List.range 16, 140737488367635)]) (.cond .leaf (.exit 12307))) (.block (.region [(List.range 3, 12307)]))))) (.seq 12307 (.block (.loop 12307 (.seq 12307 (.seq 73786976294838218771 (.region [(List.range 17, 73786976294838218771)]) (.cond .leaf (.exit 12307))) (.block (.region [(List.range 3, 12307)]))))) (.seq 12307 (.seq 2361183241434822619155 (.region [(List.range 3, 2361183241434822619155)]) (.cond (.seq 8192 (.region [(List.range 16, 8192)]) (.seq 3072 (.region [(List.range 3, 3072)]) (.exit 3072))) .leaf)) (.seq 12307 (.region [(List.range 16, 12307)]) (.seq 12307 (.region [(List.range 3, 12307)]) (.seq 12307 (.region [(List.range 3, 12307)]) (.seq 8195 (.block (.loop 12307 (.block (.seq 12307 (.block (.loop 12307 (.seq 12307 (.seq 1329227995784915872903807060280356883 (.region [(List.range 16, 1329227995784915872903807060280356883)]) (.cond .leaf (.exit 12307))) (.block (.region [(List.range 3, 12307)]))))) (.seq 12307 (.block (.loop 12307 (.seq 12307 (.seq 696898287454081973172991196020261297074195 (.region [(List.range 17, 696898287454081973172991196020261297074195)]) (.cond .leaf (.exit 12307))) (.block (.region [(List.range 3, 12307)]))))) (.seq 12307 (.seq 22300745198530623141535718272648361505992723 (.region [(List.range 3, 22300745198530623141535718272648361505992723)]) (.cond (.exit 8195) .leaf)) (.seq 12307 (.region [(List.range 16, 12307)]) (.seq 12307 (.region [(List.range 3, 12307)]) (.region [(List.range 3, 12307)]))))))))) (.seq 8192 (.region [(List.range 16, 8192)]) (.seq 3072 (.region [(List.range 3, 3072)]) (.exit 3072)))))))))))))
noncomputable abbrev cd (n : Nat) : Code := sub (bodyOf Try.f51) (pth n)
abbrev an (n : Nat) : Ann := subA ann (pth n)
@[irreducible] def X0 (data0 : OA) (data0n data0c : Nat) (a1 : Int) (cmp4 : Value) (i12 j13 : Int) : Fr := (mkFr 0 178 [(0, (.slice data0 data0n data0c)), (1, (.int .i64 a1)), (4, cmp4), (12, (.int .i64 i12)), (13, (.int .i64 j13))])
@[irreducible] def X2 (data0 : OA) (data0n data0c : Nat) (a1 : Int) (cmp4 : Value) (i12 j13 : Int) : Fr := (mkFr 0 178 [(0, (.slice data0 data0n data0c)), (1, (.int .i64 a1)), (4, cmp4), (12, (.int .i64 i12)), (13, (.int .i64 j13))])
@[irreducible] def X6 (data0 : OA) (data0n data0c : Nat) (a1 : Int) (cmp4 : Value) (i12 j13 : Int) : Fr := (mkFr 0 178 [(0, (.slice data0 data0n data0c)), (1, (.int .i64 a1)), (4, cmp4), (12, (.int .i64 i12)), (13, (.int .i64 j13))])
@[irreducible] def X8 (data0 : OA) (data0n data0c : Nat) (a1 : Int) (cmp4 : Value) (i12 j13 : Int) : Fr := (mkFr 0 178 [(0, (.slice data0 data0n data0c)), (1, (.int .i64 a1)), (4, cmp4), (12, (.int .i64 i12)), (13, (.int .i64 j13))])
@[irreducible] def X4 (data0 : OA) (data0n data0c : Nat) (a1 j13 : Int) : Fr := (mkFr 0 178 [(0, (.slice data0 data0n data0c)), (1, (.int .i64 a1)), (13, (.int .i64 j13))])
@[irreducible] def L1 (data0 : OA) (data0n data0c : Nat) (a1 : Int) (cmp4 : Value) (i12 j13 : Int) (K : EP) (h : Heap) : Prop := Lp PP true (cd 120) (mkFr 0 178 [(0, (.slice data0 data0n data0c)), (1, (.int .i64 a1)), (4, cmp4), (12, (.int .i64 i12)), (13, (.int .i64 j13))]) K h
@[irreducible] def B1 (K : EP) : EP := seqK (fun fr h => Lp PP true (cd 120) (fr.mask 12307) K h) K
@[irreducible] def K3 (Q : VP) : EP := seqK (fun fr h => ev PP true none (cd 31) (an 31) (fr.mask 12307) (bodyK PP Try.f51 Q) h) (bodyK PP Try.f51 Q)
@[irreducible] def K1 (Q : VP) : EP := blockK 0 (K3 Q)
@[irreducible] def K4 (Q : VP) : EP := seqK (fun fr h => ev PP true none (cd 63) (an 63) (fr.mask 12307) (bodyK PP Try.f51 Q) h) (bodyK PP Try.f51 Q)
@[irreducible] def K2 (Q : VP) : EP := blockK 2 (K4 Q)
@[irreducible] def L2 (data0 : OA) (data0n data0c : Nat) (a1 : Int) (cmp4 : Value) (i12 j13 : Int) (K : EP) (h : Heap) : Prop := Lp PP true (cd 248) (mkFr 0 178 [(0, (.slice data0 data0n data0c)), (1, (.int .i64 a1)), (4, cmp4), (12, (.int .i64 i12)), (13, (.int .i64 j13))]) K h
@[irreducible] def B2 (K : EP) : EP := seqK (fun fr h => Lp PP true (cd 248) (fr.mask 12307) K h) K
@[irreducible] def K6 (Q : VP) : EP := seqK (fun fr h => ev PP true none (cd 2047) (an 2047) (fr.mask 8195) (bodyK PP Try.f51 Q) h) (bodyK PP Try.f51 Q)
@[irreducible] def K5 (Q : VP) : EP := blockK 4 (K6 Q)
@[irreducible] def L3 (data0 : OA) (data0n data0c : Nat) (a1 : Int) (cmp4 : Value) (i12 j13 : Int) (K : EP) (h : Heap) : Prop := Lp PP true (cd 8184) (mkFr 0 178 [(0, (.slice data0 data0n data0c)), (1, (.int .i64 a1)), (4, cmp4), (12, (.int .i64 i12)), (13, (.int .i64 j13))]) K h
@[irreducible] def B3 (K : EP) : EP := seqK (fun fr h => Lp PP true (cd 8184) (fr.mask 12307) K h) K
@[irreducible] def K10 (K : EP) : EP := blockK 5 (B3 K)
@[irreducible] def K8 (K : EP) : EP := seqK (fun fr h => ev PP true none (cd 32737) (an 32737) (fr.mask 12307) (K10 K) h) (K10 K)
@[irreducible] def K7 (K : EP) : EP := blockK 6 (K8 K)
@[irreducible] def L4 (data0 : OA) (data0n data0c : Nat) (a1 : Int) (cmp4 : Value) (i12 j13 : Int) (K : EP) (h : Heap) : Prop := Lp PP true (cd 130944) (mkFr 0 178 [(0, (.slice data0 data0n data0c)), (1, (.int .i64 a1)), (4, cmp4), (12, (.int .i64 i12)), (13, (.int .i64 j13))]) K h
@[irreducible] def B4 (K : EP) : EP := seqK (fun fr h => Lp PP true (cd 130944) (fr.mask 12307) K h) K
@[irreducible] def K11 (K : EP) : EP := seqK (fun fr h => ev PP true none (cd 65475) (an 65475) (fr.mask 12307) (K10 K) h) (K10 K)
@[irreducible] def K9 (K : EP) : EP := blockK 8 (K11 K)
@[irreducible] def L5 (data0 : OA) (data0n data0c : Nat) (a1 : Int) (cmp4 : Value) (i12 j13 : Int) (K : EP) (h : Heap) : Prop := Lp PP true (cd 261896) (mkFr 0 178 [(0, (.slice data0 data0n data0c)), (1, (.int .i64 a1)), (4, cmp4), (12, (.int .i64 i12)), (13, (.int .i64 j13))]) K h
@[irreducible] def B5 (K : EP) : EP := seqK (fun fr h => Lp PP true (cd 261896) (fr.mask 12307) K h) K
theorem L1_of {data0 : OA} {data0n data0c : Nat} {a1 : Int} {cmp4 : Value} {i12 j13 : Int} {K : EP} {h : Heap} (H :
 let t34 : Bool := decide (i12 ≤ j13)
 br t34 (
 hwp PP (Instr.indexAt T_sl_api_Write (.slice data0 data0n data0c) (.int .i64 i12)) (fun v h1 => ∃ (t39 : Addr), v = (.pointer (some t39)) ∧
 ∃ (t40f0 t40f1 t40f2 : ByteArray) (t40f3 : Bool) (t40f4 : ByteArray), rdCells h1 t39 0 [(.string t40f0), (.string t40f1), (.string t40f2), (.bool t40f3), (.string t40f4)] ∧
 hwp PP (Instr.indexAt T_sl_api_Write (.slice data0 data0n data0c) (.int .i64 a1)) (fun v_1 h2 => ∃ (t43 : Addr), v_1 = (.pointer (some t43)) ∧
 ∃ (t44f0 t44f1 t44f2 : ByteArray) (t44f3 : Bool) (t44f4 : ByteArray), rdCells h2 t43 0 [(.string t44f0), (.string t44f1), (.string t44f2), (.bool t44f3), (.string t44f4)] ∧
 callV PP cmp4 [(.agg #[(.string t40f0), (.string t40f1), (.string t40f2), (.bool t40f3), (.string t40f4)]), (.agg #[(.string t44f0), (.string t44f1), (.string t44f2), (.bool t44f3), (.string t44f4)])] (fun v_2 h3 => ∃ (t45 : Int), v_2 = (.int .i64 t45) ∧
 let t46 : Bool := decide (t45 < 0)
 br t46 (
 let t49 : Int := IntKind.i64.wrap (i12 + 1)
 L1 data0 data0n data0c a1 cmp4 t49 j13 K h3) (
 K (.exit 0) (X0 data0 data0n data0c a1 cmp4 i12 j13) h3)) h2) h1) h) (
 K (.exit 0) (X0 data0 data0n data0c a1 cmp4 i12 j13) h)) : L1 data0 data0n data0c a1 cmp4 i12 j13 K h := by unfold L1; exact Lp.of_txt (an 120) 12307 (by kernel_rfl) H
theorem L1_X0 {Q : VP} {data0 : OA} {data0n data0c : Nat} {a1 : Int} {cmp4 : Value} {i12 j13 : Int} {h : Heap} (H :
 L2 data0 data0n data0c a1 cmp4 i12 j13 (K2 Q) h) : (K1 Q) (.exit 0) (X0 data0 data0n data0c a1 cmp4 i12 j13) h := of_eq_txt (by kernel_rfl) H
theorem L2_of {data0 : OA} {data0n data0c : Nat} {a1 : Int} {cmp4 : Value} {i12 j13 : Int} {K : EP} {h : Heap} (H :
 let t52 : Bool := decide (i12 ≤ j13)
 br t52 (
 hwp PP (Instr.indexAt T_sl_api_Write (.slice data0 data0n data0c) (.int .i64 j13)) (fun v h1 => ∃ (t57 : Addr), v = (.pointer (some t57)) ∧
 ∃ (t58f0 t58f1 t58f2 : ByteArray) (t58f3 : Bool) (t58f4 : ByteArray), rdCells h1 t57 0 [(.string t58f0), (.string t58f1), (.string t58f2), (.bool t58f3), (.string t58f4)] ∧
 hwp PP (Instr.indexAt T_sl_api_Write (.slice data0 data0n data0c) (.int .i64 a1)) (fun v_1 h2 => ∃ (t61 : Addr), v_1 = (.pointer (some t61)) ∧
 ∃ (t62f0 t62f1 t62f2 : ByteArray) (t62f3 : Bool) (t62f4 : ByteArray), rdCells h2 t61 0 [(.string t62f0), (.string t62f1), (.string t62f2), (.bool t62f3), (.string t62f4)] ∧
 callV PP cmp4 [(.agg #[(.string t58f0), (.string t58f1), (.string t58f2), (.bool t58f3), (.string t58f4)]), (.agg #[(.string t62f0), (.string t62f1), (.string t62f2), (.bool t62f3), (.string t62f4)])] (fun v_2 h3 => ∃ (t63 : Int), v_2 = (.int .i64 t63) ∧
 let t64 : Bool := decide (t63 < 0)
 let t65 : Bool := (!t64)
 br t65 (
 let t68 : Int := IntKind.i64.wrap (j13 - 1)
 L2 data0 data0n data0c a1 cmp4 i12 t68 K h3) (
 K (.exit 2) (X2 data0 data0n data0c a1 cmp4 i12 j13) h3)) h2) h1) h) (
 K (.exit 2) (X2 data0 data0n data0c a1 cmp4 i12 j13) h)) : L2 data0 data0n data0c a1 cmp4 i12 j13 K h := by unfold L2; exact Lp.of_txt (an 248) 12307 (by kernel_rfl) H
theorem L2_X2 {Q : VP} {data0 : OA} {data0n data0c : Nat} {a1 : Int} {cmp4 : Value} {i12 j13 : Int} {h : Heap} (H :
 let t71 : Bool := decide (i12 > j13)
 br t71 (
 hwp PP (Instr.indexAt T_sl_api_Write (.slice data0 data0n data0c) (.int .i64 a1)) (fun v h1 => ∃ (t78 : Addr), v = (.pointer (some t78)) ∧
 ∃ (t79f0 t79f1 t79f2 : ByteArray) (t79f3 : Bool) (t79f4 : ByteArray), rdCells h1 t78 0 [(.string t79f0), (.string t79f1), (.string t79f2), (.bool t79f3), (.string t79f4)] ∧
 hwp PP (Instr.indexAt T_sl_api_Write (.slice data0 data0n data0c) (.int .i64 j13)) (fun v_1 h2 => ∃ (t82 : Addr), v_1 = (.pointer (some t82)) ∧
 ∃ (t83f0 t83f1 t83f2 : ByteArray) (t83f3 : Bool) (t83f4 : ByteArray), rdCells h2 t82 0 [(.string t83f0), (.string t83f1), (.string t83f2), (.bool t83f3), (.string t83f4)] ∧
 hwp PP (Instr.indexAt T_sl_api_Write (.slice data0 data0n data0c) (.int .i64 j13)) (fun v_2 h3 => ∃ (t84 : Addr), v_2 = (.pointer (some t84)) ∧
 wrCells t84 0 [(.string t79f0), (.string t79f1), (.string t79f2), (.bool t79f3), (.string t79f4)] (fun h4 =>
 hwp PP (Instr.indexAt T_sl_api_Write (.slice data0 data0n data0c) (.int .i64 a1)) (fun v_3 h5 => ∃ (t85 : Addr), v_3 = (.pointer (some t85)) ∧
 wrCells t85 0 [(.string t83f0), (.string t83f1), (.string t83f2), (.bool t83f3), (.string t83f4)] (fun h6 =>
 Q (.tuple #[(.int .i64 j13), (.bool true)]) h6) h5) h4) h3) h2) h1) h) (
 hwp PP (Instr.indexAt T_sl_api_Write (.slice data0 data0n data0c) (.int .i64 j13)) (fun v_4 h7 => ∃ (t93 : Addr), v_4 = (.pointer (some t93)) ∧
 ∃ (t94f0 t94f1 t94f2 : ByteArray) (t94f3 : Bool) (t94f4 : ByteArray), rdCells h7 t93 0 [(.string t94f0), (.string t94f1), (.string t94f2), (.bool t94f3), (.string t94f4)] ∧
 hwp PP (Instr.indexAt T_sl_api_Write (.slice data0 data0n data0c) (.int .i64 i12)) (fun v_5 h8 => ∃ (t97 : Addr), v_5 = (.pointer (some t97)) ∧
 ∃ (t98f0 t98f1 t98f2 : ByteArray) (t98f3 : Bool) (t98f4 : ByteArray), rdCells h8 t97 0 [(.string t98f0), (.string t98f1), (.string t98f2), (.bool t98f3), (.string t98f4)] ∧
 hwp PP (Instr.indexAt T_sl_api_Write (.slice data0 data0n data0c) (.int .i64 i12)) (fun v_6 h9 => ∃ (t99 : Addr), v_6 = (.pointer (some t99)) ∧
 wrCells t99 0 [(.string t94f0), (.string t94f1), (.string t94f2), (.bool t94f3), (.string t94f4)] (fun h10 =>
 hwp PP (Instr.indexAt T_sl_api_Write (.slice data0 data0n data0c) (.int .i64 j13)) (fun v_7 h11 => ∃ (t100 : Addr), v_7 = (.pointer (some t100)) ∧
 wrCells t100 0 [(.string t98f0), (.string t98f1), (.string t98f2), (.bool t98f3), (.string t98f4)] (fun h12 =>
 let t102 : Int := IntKind.i64.wrap (i12 + 1)
 let t104 : Int := IntKind.i64.wrap (j13 - 1)
 L3 data0 data0n data0c a1 cmp4 t102 t104 (K5 Q) h12) h11) h10) h9) h8) h7) h)) : (K2 Q) (.exit 2) (X2 data0 data0n data0c a1 cmp4 i12 j13) h := of_eq_txt (by kernel_rfl) H
theorem L3_of {data0 : OA} {data0n data0c : Nat} {a1 : Int} {cmp4 : Value} {i12 j13 : Int} {K : EP} {h : Heap} (H :
 L4 data0 data0n data0c a1 cmp4 i12 j13 (K7 K) h) : L3 data0 data0n data0c a1 cmp4 i12 j13 K h := by unfold L3; exact Lp.of_txt (an 8184) 12307 (by kernel_rfl) H
theorem L4_of {data0 : OA} {data0n data0c : Nat} {a1 : Int} {cmp4 : Value} {i12 j13 : Int} {K : EP} {h : Heap} (H :
 let t107 : Bool := decide (i12 ≤ j13)
 br t107 (
 hwp PP (Instr.indexAt T_sl_api_Write (.slice data0 data0n data0c) (.int .i64 i12)) (fun v h1 => ∃ (t112 : Addr), v = (.pointer (some t112)) ∧
 ∃ (t113f0 t113f1 t113f2 : ByteArray) (t113f3 : Bool) (t113f4 : ByteArray), rdCells h1 t112 0 [(.string t113f0), (.string t113f1), (.string t113f2), (.bool t113f3), (.string t113f4)] ∧
 hwp PP (Instr.indexAt T_sl_api_Write (.slice data0 data0n data0c) (.int .i64 a1)) (fun v_1 h2 => ∃ (t116 : Addr), v_1 = (.pointer (some t116)) ∧
 ∃ (t117f0 t117f1 t117f2 : ByteArray) (t117f3 : Bool) (t117f4 : ByteArray), rdCells h2 t116 0 [(.string t117f0), (.string t117f1), (.string t117f2), (.bool t117f3), (.string t117f4)] ∧
 callV PP cmp4 [(.agg #[(.string t113f0), (.string t113f1), (.string t113f2), (.bool t113f3), (.string t113f4)]), (.agg #[(.string t117f0), (.string t117f1), (.string t117f2), (.bool t117f3), (.string t117f4)])] (fun v_2 h3 => ∃ (t118 : Int), v_2 = (.int .i64 t118) ∧
 let t119 : Bool := decide (t118 < 0)
 br t119 (
 let t122 : Int := IntKind.i64.wrap (i12 + 1)
 L4 data0 data0n data0c a1 cmp4 t122 j13 K h3) (
 K (.exit 6) (X6 data0 data0n data0c a1 cmp4 i12 j13) h3)) h2) h1) h) (
 K (.exit 6) (X6 data0 data0n data0c a1 cmp4 i12 j13) h)) : L4 data0 data0n data0c a1 cmp4 i12 j13 K h := by unfold L4; exact Lp.of_txt (an 130944) 12307 (by kernel_rfl) H
theorem L4_X6 {K : EP} {data0 : OA} {data0n data0c : Nat} {a1 : Int} {cmp4 : Value} {i12 j13 : Int} {h : Heap} (H :
 L5 data0 data0n data0c a1 cmp4 i12 j13 (K9 K) h) : (K7 K) (.exit 6) (X6 data0 data0n data0c a1 cmp4 i12 j13) h := of_eq_txt (by kernel_rfl) H
theorem L5_of {data0 : OA} {data0n data0c : Nat} {a1 : Int} {cmp4 : Value} {i12 j13 : Int} {K : EP} {h : Heap} (H :
 let t125 : Bool := decide (i12 ≤ j13)
 br t125 (
 hwp PP (Instr.indexAt T_sl_api_Write (.slice data0 data0n data0c) (.int .i64 j13)) (fun v h1 => ∃ (t130 : Addr), v = (.pointer (some t130)) ∧
 ∃ (t131f0 t131f1 t131f2 : ByteArray) (t131f3 : Bool) (t131f4 : ByteArray), rdCells h1 t130 0 [(.string t131f0), (.string t131f1), (.string t131f2), (.bool t131f3), (.string t131f4)] ∧
 hwp PP (Instr.indexAt T_sl_api_Write (.slice data0 data0n data0c) (.int .i64 a1)) (fun v_1 h2 => ∃ (t134 : Addr), v_1 = (.pointer (some t134)) ∧
 ∃ (t135f0 t135f1 t135f2 : ByteArray) (t135f3 : Bool) (t135f4 : ByteArray), rdCells h2 t134 0 [(.string t135f0), (.string t135f1), (.string t135f2), (.bool t135f3), (.string t135f4)] ∧
 callV PP cmp4 [(.agg #[(.string t131f0), (.string t131f1), (.string t131f2), (.bool t131f3), (.string t131f4)]), (.agg #[(.string t135f0), (.string t135f1), (.string t135f2), (.bool t135f3), (.string t135f4)])] (fun v_2 h3 => ∃ (t136 : Int), v_2 = (.int .i64 t136) ∧
 let t137 : Bool := decide (t136 < 0)
 let t138 : Bool := (!t137)
 br t138 (
 let t141 : Int := IntKind.i64.wrap (j13 - 1)
 L5 data0 data0n data0c a1 cmp4 i12 t141 K h3) (
 K (.exit 8) (X8 data0 data0n data0c a1 cmp4 i12 j13) h3)) h2) h1) h) (
 K (.exit 8) (X8 data0 data0n data0c a1 cmp4 i12 j13) h)) : L5 data0 data0n data0c a1 cmp4 i12 j13 K h := by unfold L5; exact Lp.of_txt (an 261896) 12307 (by kernel_rfl) H
theorem L5_X8 {K : EP} {data0 : OA} {data0n data0c : Nat} {a1 : Int} {cmp4 : Value} {i12 j13 : Int} {h : Heap} (H :
 let t144 : Bool := decide (i12 > j13)
 br t144 (
 K (.exit 4) (X4 data0 data0n data0c a1 j13) h) (
 hwp PP (Instr.indexAt T_sl_api_Write (.slice data0 data0n data0c) (.int .i64 j13)) (fun v h1 => ∃ (t151 : Addr), v = (.pointer (some t151)) ∧
 ∃ (t152f0 t152f1 t152f2 : ByteArray) (t152f3 : Bool) (t152f4 : ByteArray), rdCells h1 t151 0 [(.string t152f0), (.string t152f1), (.string t152f2), (.bool t152f3), (.string t152f4)] ∧
 hwp PP (Instr.indexAt T_sl_api_Write (.slice data0 data0n data0c) (.int .i64 i12)) (fun v_1 h2 => ∃ (t155 : Addr), v_1 = (.pointer (some t155)) ∧
 ∃ (t156f0 t156f1 t156f2 : ByteArray) (t156f3 : Bool) (t156f4 : ByteArray), rdCells h2 t155 0 [(.string t156f0), (.string t156f1), (.string t156f2), (.bool t156f3), (.string t156f4)] ∧
 hwp PP (Instr.indexAt T_sl_api_Write (.slice data0 data0n data0c) (.int .i64 i12)) (fun v_2 h3 => ∃ (t157 : Addr), v_2 = (.pointer (some t157)) ∧
 wrCells t157 0 [(.string t152f0), (.string t152f1), (.string t152f2), (.bool t152f3), (.string t152f4)] (fun h4 =>
 hwp PP (Instr.indexAt T_sl_api_Write (.slice data0 data0n data0c) (.int .i64 j13)) (fun v_3 h5 => ∃ (t158 : Addr), v_3 = (.pointer (some t158)) ∧
 wrCells t158 0 [(.string t156f0), (.string t156f1), (.string t156f2), (.bool t156f3), (.string t156f4)] (fun h6 =>
 let t160 : Int := IntKind.i64.wrap (i12 + 1)
 let t162 : Int := IntKind.i64.wrap (j13 - 1)
 L3 data0 data0n data0c a1 cmp4 t160 t162 K h6) h5) h4) h3) h2) h1) h)) : (K9 K) (.exit 8) (X8 data0 data0n data0c a1 cmp4 i12 j13) h := of_eq_txt (by kernel_rfl) H
theorem L3_X4 {Q : VP} {data0 : OA} {data0n data0c : Nat} {a1 j13 : Int} {h : Heap} (H :
 hwp PP (Instr.indexAt T_sl_api_Write (.slice data0 data0n data0c) (.int .i64 a1)) (fun v h1 => ∃ (t169 : Addr), v = (.pointer (some t169)) ∧
 ∃ (t170f0 t170f1 t170f2 : ByteArray) (t170f3 : Bool) (t170f4 : ByteArray), rdCells h1 t169 0 [(.string t170f0), (.string t170f1), (.string t170f2), (.bool t170f3), (.string t170f4)] ∧
 hwp PP (Instr.indexAt T_sl_api_Write (.slice data0 data0n data0c) (.int .i64 j13)) (fun v_1 h2 => ∃ (t173 : Addr), v_1 = (.pointer (some t173)) ∧
 ∃ (t174f0 t174f1 t174f2 : ByteArray) (t174f3 : Bool) (t174f4 : ByteArray), rdCells h2 t173 0 [(.string t174f0), (.string t174f1), (.string t174f2), (.bool t174f3), (.string t174f4)] ∧
 hwp PP (Instr.indexAt T_sl_api_Write (.slice data0 data0n data0c) (.int .i64 j13)) (fun v_2 h3 => ∃ (t175 : Addr), v_2 = (.pointer (some t175)) ∧
 wrCells t175 0 [(.string t170f0), (.string t170f1), (.string t170f2), (.bool t170f3), (.string t170f4)] (fun h4 =>
 hwp PP (Instr.indexAt T_sl_api_Write (.slice data0 data0n data0c) (.int .i64 a1)) (fun v_3 h5 => ∃ (t176 : Addr), v_3 = (.pointer (some t176)) ∧
 wrCells t176 0 [(.string t174f0), (.string t174f1), (.string t174f2), (.bool t174f3), (.string t174f4)] (fun h6 =>
 Q (.tuple #[(.int .i64 j13), (.bool false)]) h6) h5) h4) h3) h2) h1) h) : (K5 Q) (.exit 4) (X4 data0 data0n data0c a1 j13) h := of_eq_txt (by kernel_rfl) H
theorem door {data0 : OA} {data0n data0c : Nat} {a1 b2 pivot3 : Int} {cmp4 : Value} {Q : VP} {h : Heap} (H :
 hwp PP (Instr.indexAt T_sl_api_Write (.slice data0 data0n data0c) (.int .i64 pivot3)) (fun v h1 => ∃ (t20 : Addr), v = (.pointer (some t20)) ∧
 ∃ (t21f0 t21f1 t21f2 : ByteArray) (t21f3 : Bool) (t21f4 : ByteArray), rdCells h1 t20 0 [(.string t21f0), (.string t21f1), (.string t21f2), (.bool t21f3), (.string t21f4)] ∧
 hwp PP (Instr.indexAt T_sl_api_Write (.slice data0 data0n data0c) (.int .i64 a1)) (fun v_1 h2 => ∃ (t24 : Addr), v_1 = (.pointer (some t24)) ∧
 ∃ (t25f0 t25f1 t25f2 : ByteArray) (t25f3 : Bool) (t25f4 : ByteArray), rdCells h2 t24 0 [(.string t25f0), (.string t25f1), (.string t25f2), (.bool t25f3), (.string t25f4)] ∧
 hwp PP (Instr.indexAt T_sl_api_Write (.slice data0 data0n data0c) (.int .i64 a1)) (fun v_2 h3 => ∃ (t26 : Addr), v_2 = (.pointer (some t26)) ∧
 wrCells t26 0 [(.string t21f0), (.string t21f1), (.string t21f2), (.bool t21f3), (.string t21f4)] (fun h4 =>
 hwp PP (Instr.indexAt T_sl_api_Write (.slice data0 data0n data0c) (.int .i64 pivot3)) (fun v_3 h5 => ∃ (t27 : Addr), v_3 = (.pointer (some t27)) ∧
 wrCells t27 0 [(.string t25f0), (.string t25f1), (.string t25f2), (.bool t25f3), (.string t25f4)] (fun h6 =>
 let t29 : Int := IntKind.i64.wrap (a1 + 1)
 let t31 : Int := IntKind.i64.wrap (b2 - 1)
 L1 data0 data0n data0c a1 cmp4 t29 t31 (K1 Q) h6) h5) h4) h3) h2) h1) h) : SpecH PP F_slices_partitionCmpFunc_api_Write [(.slice data0 data0n data0c), (.int .i64 a1), (.int .i64 b2), (.int .i64 pivot3), cmp4] h Q :=
   spec_of_txt (ann := ann) Try.func51 rfl rfl (by kernel_rfl) H
end slices_partitionCmpFunc_api_Write
/-! ### math/bits.Len32: function 52 -/
namespace math_bits_Len32
def ann : Ann := (.seq 5 (.region [(List.range 1, 5)]) (.seq 5 (.seq 21 (.region [(List.range 2, 21)]) (.cond (.seq 1 (.region [(List.range 3, 1)]) (.region [(List.range 1, 5)])) .leaf)) (.join (.seq 5 (.seq 261 (.region [(List.range 2, 261)]) (.cond (.seq 5 (.region [(List.range 3, 5)]) (.region [(List.range 3, 5)])) .leaf)) (.join (.seq 4 (.region [(List.range 7, 4)]) (.exit 4)))))))
noncomputable abbrev cd (n : Nat) : Code := sub (bodyOf Try.f52) (pth n)
abbrev an (n : Nat) : Ann := subA ann (pth n)
@[irreducible] def J1 (x0 xn2 : Int) (Q : VP) (h : Heap) : Prop := Jn PP true (cd 7) (mkFr 0 19 [(0, (.int .u32 x0)), (2, (.int .i64 xn2))]) (bodyK PP Try.f52 Q) h
@[irreducible] def J2 (x0 xn2 : Int) (Q : VP) (h : Heap) : Prop := Jn PP true (cd 15) (mkFr 0 19 [(0, (.int .u32 x0)), (2, (.int .i64 xn2))]) (bodyK PP Try.f52 Q) h
theorem J1_of {x0 xn2 : Int} {Q : VP} {h : Heap} (H :
 let t8 : Bool := decide (x0 ≥ 256)
 br t8 (
 let t10 : Int := sShr .u32 x0 8
 let t12 : Int := IntKind.i64.wrap (xn2 + 8)
 J2 t10 t12 Q h) (
 J2 x0 xn2 Q h)) : J1 x0 xn2 Q h := by unfold J1; exact Jn.of_txt (an 7) (by kernel_rfl) H
theorem J2_of {x0 xn2 : Int} {Q : VP} {h : Heap} (H :
 let t15 : Int := IntKind.u8.wrap x0
 hwp PP (Instr.index T_string (.string (⟨#[0, 1, 2, 2, 3, 3, 3, 3, 4, 4, 4, 4, 4, 4, 4, 4, 5, 5, 5, 5, 5, 5, 5, 5, 5, 5, 5, 5, 5, 5, 5, 5, 6, 6, 6, 6, 6, 6, 6, 6, 6, 6, 6, 6, 6, 6, 6, 6, 6, 6, 6, 6, 6, 6, 6, 6, 6, 6, 6, 6, 6, 6, 6, 6, 7, 7, 7, 7, 7, 7, 7, 7, 7, 7, 7, 7, 7, 7, 7, 7, 7, 7, 7, 7, 7, 7, 7, 7, 7, 7, 7, 7, 7, 7, 7, 7, 7, 7, 7, 7, 7, 7, 7, 7, 7, 7, 7, 7, 7, 7, 7, 7, 7, 7, 7, 7, 7, 7, 7, 7, 7, 7, 7, 7, 7, 7, 7, 7, 8, 8, 8, 8, 8, 8, 8, 8, 8, 8, 8, 8, 8, 8, 8, 8, 8, 8, 8, 8, 8, 8, 8, 8, 8, 8, 8, 8, 8, 8, 8, 8, 8, 8, 8, 8, 8, 8, 8, 8, 8, 8, 8, 8, 8, 8, 8, 8, 8, 8, 8, 8, 8, 8, 8, 8, 8, 8, 8, 8, 8, 8, 8, 8, 8, 8, 8, 8, 8, 8, 8, 8, 8, 8, 8, 8, 8, 8, 8, 8, 8, 8, 8, 8, 8, 8, 8, 8, 8, 8, 8, 8, 8, 8, 8, 8, 8, 8, 8, 8, 8, 8, 8, 8, 8, 8, 8, 8, 8, 8, 8, 8, 8, 8, 8, 8, 8, 8, 8, 8, 8, 8, 8, 8, 8, 8, 8, 8]⟩ : ByteArray)) (.int .u8 t15)) (fun v h1 => ∃ (t16 : Int), v = (.int .u8 t16) ∧
 let t17 : Int := IntKind.i64.wrap t16
 let t18 : Int := IntKind.i64.wrap (xn2 + t17)
 Q (.int .i64 t18) h1) h) : J2 x0 xn2 Q h := by unfold J2; exact Jn.of_txt (an 15) (by kernel_rfl) H
theorem door {x0 : Int} {Q : VP} {h : Heap} (H :
 let t4 : Bool := decide (x0 ≥ 65536)
 br t4 (
 let t6 : Int := sShr .u32 x0 16
 J1 t6 16 Q h) (
 J1 x0 0 Q h)) : SpecH PP F_math_bits_Len32 [(.int .u32 x0)] h Q :=
   spec_of_txt (ann := ann) Try.func52 rfl rfl (by kernel_rfl) H
end math_bits_Len32
/-! ### math/bits.Len64: function 53 -/
namespace math_bits_Len64
def ann : Ann := (.seq 5 (.region [(List.range 1, 5)]) (.seq 5 (.seq 21 (.region [(List.range 2, 21)]) (.cond (.seq 1 (.region [(List.range 3, 1)]) (.region [(List.range 1, 5)])) .leaf)) (.join (.seq 5 (.seq 261 (.region [(List.range 2, 261)]) (.cond (.seq 5 (.region [(List.range 3, 5)]) (.region [(List.range 3, 5)])) .leaf)) (.join (.seq 5 (.seq 16389 (.region [(List.range 2, 16389)]) (.cond (.seq 5 (.region [(List.range 3, 5)]) (.region [(List.range 3, 5)])) .leaf)) (.join (.seq 4 (.region [(List.range 7, 4)]) (.exit 4)))))))))
noncomputable abbrev cd (n : Nat) : Code := sub (bodyOf Try.f53) (pth n)
abbrev an (n : Nat) : Ann := subA ann (pth n)
@[irreducible] def J1 (x0 xn2 : Int) (Q : VP) (h : Heap) : Prop := Jn PP true (cd 7) (mkFr 0 25 [(0, (.int .u64 x0)), (2, (.int .i64 xn2))]) (bodyK PP Try.f53 Q) h
@[irreducible] def J2 (x0 xn2 : Int) (Q : VP) (h : Heap) : Prop := Jn PP true (cd 15) (mkFr 0 25 [(0, (.int .u64 x0)), (2, (.int .i64 xn2))]) (bodyK PP Try.f53 Q) h
@[irreducible] def J3 (x0 xn2 : Int) (Q : VP) (h : Heap) : Prop := Jn PP true (cd 31) (mkFr 0 25 [(0, (.int .u64 x0)), (2, (.int .i64 xn2))]) (bodyK PP Try.f53 Q) h
theorem J1_of {x0 xn2 : Int} {Q : VP} {h : Heap} (H :
 let t8 : Bool := decide (x0 ≥ 65536)
 br t8 (
 let t10 : Int := sShr .u64 x0 16
 let t12 : Int := IntKind.i64.wrap (xn2 + 16)
 J2 t10 t12 Q h) (
 J2 x0 xn2 Q h)) : J1 x0 xn2 Q h := by unfold J1; exact Jn.of_txt (an 7) (by kernel_rfl) H
theorem J2_of {x0 xn2 : Int} {Q : VP} {h : Heap} (H :
 let t14 : Bool := decide (x0 ≥ 256)
 br t14 (
 let t16 : Int := sShr .u64 x0 8
 let t18 : Int := IntKind.i64.wrap (xn2 + 8)
 J3 t16 t18 Q h) (
 J3 x0 xn2 Q h)) : J2 x0 xn2 Q h := by unfold J2; exact Jn.of_txt (an 15) (by kernel_rfl) H
theorem J3_of {x0 xn2 : Int} {Q : VP} {h : Heap} (H :
 let t21 : Int := IntKind.u8.wrap x0
 hwp PP (Instr.index T_string (.string (⟨#[0, 1, 2, 2, 3, 3, 3, 3, 4, 4, 4, 4, 4, 4, 4, 4, 5, 5, 5, 5, 5, 5, 5, 5, 5, 5, 5, 5, 5, 5, 5, 5, 6, 6, 6, 6, 6, 6, 6, 6, 6, 6, 6, 6, 6, 6, 6, 6, 6, 6, 6, 6, 6, 6, 6, 6, 6, 6, 6, 6, 6, 6, 6, 6, 7, 7, 7, 7, 7, 7, 7, 7, 7, 7, 7, 7, 7, 7, 7, 7, 7, 7, 7, 7, 7, 7, 7, 7, 7, 7, 7, 7, 7, 7, 7, 7, 7, 7, 7, 7, 7, 7, 7, 7, 7, 7, 7, 7, 7, 7, 7, 7, 7, 7, 7, 7, 7, 7, 7, 7, 7, 7, 7, 7, 7, 7, 7, 7, 8, 8, 8, 8, 8, 8, 8, 8, 8, 8, 8, 8, 8, 8, 8, 8, 8, 8, 8, 8, 8, 8, 8, 8, 8, 8, 8, 8, 8, 8, 8, 8, 8, 8, 8, 8, 8, 8, 8, 8, 8, 8, 8, 8, 8, 8, 8, 8, 8, 8, 8, 8, 8, 8, 8, 8, 8, 8, 8, 8, 8, 8, 8, 8, 8, 8, 8, 8, 8, 8, 8, 8, 8, 8, 8, 8, 8, 8, 8, 8, 8, 8, 8, 8, 8, 8, 8, 8, 8, 8, 8, 8, 8, 8, 8, 8, 8, 8, 8, 8, 8, 8, 8, 8, 8, 8, 8, 8, 8, 8, 8, 8, 8, 8, 8, 8, 8, 8, 8, 8, 8, 8, 8, 8, 8, 8, 8, 8]⟩ : ByteArray)) (.int .u8 t21)) (fun v h1 => ∃ (t22 : Int), v = (.int .u8 t22) ∧
 let t23 : Int := IntKind.i64.wrap t22
 let t24 : Int := IntKind.i64.wrap (xn2 + t23)
 Q (.int .i64 t24) h1) h) : J3 x0 xn2 Q h := by unfold J3; exact Jn.of_txt (an 31) (by kernel_rfl) H
theorem door {x0 : Int} {Q : VP} {h : Heap} (H :
 let t4 : Bool := decide (x0 ≥ 4294967296)
 br t4 (
 let t6 : Int := sShr .u64 x0 32
 J1 t6 32 Q h) (
 J1 x0 0 Q h)) : SpecH PP F_math_bits_Len64 [(.int .u64 x0)] h Q :=
   spec_of_txt (ann := ann) Try.func53 rfl rfl (by kernel_rfl) H
end math_bits_Len64
/-! ### slices.siftDownCmpFunc[haversack/api.Write]: function 54 -/
namespace slices_siftDownCmpFunc_api_Write
def ann : Ann := (.seq 1053 (.region [(List.range 2, 1053)]) (.block (.loop 1053 (.block (.seq 3101 (.region [(List.range 4, 3101)]) (.seq 3101 (.seq 265245 (.region [(List.range 3, 265245)]) (.cond (.exit 0) .leaf)) (.seq 3101 (.seq 1099511630877 (.region [(List.range 22, 1099511630877)]) (.join (.cond (.region [(List.range 3, 3101)]) .leaf))) (.join (.seq 3101 (.seq 288230376151714845 (.region [(List.range 16, 288230376151714845)]) (.cond (.exit 0) .leaf)) (.seq 2077 (.region [(List.range 24, 2077)]) (.region [(List.range 2, 1053)])))))))))))
noncomputable abbrev cd (n : Nat) : Code := sub (bodyOf Try.f54) (pth n)
abbrev an (n : Nat) : Ann := subA ann (pth n)
@[irreducible] def X0  : Fr := (mkFr 0 82 [])
@[irreducible] def Xret  : Fr := (mkFr 0 82 [])
@[irreducible] def L1 (data0 : OA) (data0n data0c : Nat) (hi2 first3 : Int) (cmp4 : Value) (root10 : Int) (K : EP) (h : Heap) : Prop := Lp PP true (cd 12) (mkFr 0 82 [(0, (.slice data0 data0n data0c)), (2, (.int .i64 hi2)), (3, (.int .i64 first3)), (4, cmp4), (10, (.int .i64 root10))]) K h
@[irreducible] def B1 (K : EP) : EP := seqK (fun fr h => Lp PP true (cd 12) (fr.mask 1053) K h) K
@[irreducible] def K3 (K : EP) : EP := blockK 1 (B1 K)
@[irreducible] def K2 (K : EP) : EP := seqK (fun fr h => Jn PP true (cd 199) (fr.mask 3101) (K3 K) h) (K3 K)
@[irreducible] def J1 (data0 : OA) (data0n data0c : Nat) (hi2 first3 : Int) (cmp4 : Value) (root10 child11 : Int) (t40 : Bool) (K : EP) (h : Heap) : Prop := Jn PP true (cd 397) (mkFr 0 82 [(0, (.slice data0 data0n data0c)), (2, (.int .i64 hi2)), (3, (.int .i64 first3)), (4, cmp4), (10, (.int .i64 root10)), (11, (.int .i64 child11)), (40, (.bool t40))]) (K2 K) h
@[irreducible] def K1 (Q : VP) : EP := blockK 0 (bodyK PP Try.f54 Q)
@[irreducible] def J2 (data0 : OA) (data0n data0c : Nat) (hi2 first3 : Int) (cmp4 : Value) (root10 child11 : Int) (K : EP) (h : Heap) : Prop := Jn PP true (cd 199) (mkFr 0 82 [(0, (.slice data0 data0n data0c)), (2, (.int .i64 hi2)), (3, (.int .i64 first3)), (4, cmp4), (10, (.int .i64 root10)), (11, (.int .i64 child11))]) (K3 K) h
theorem L1_of {data0 : OA} {data0n data0c : Nat} {hi2 first3 : Int} {cmp4 : Value} {root10 : Int} {K : EP} {h : Heap} (H :
 let t14 : Int := IntKind.i64.wrap (2 * root10)
 let t15 : Int := IntKind.i64.wrap (t14 + 1)
 let t18 : Bool := decide (t15 ≥ hi2)
 br t18 (
 K (.exit 0) (X0) h) (
 let t20 : Int := IntKind.i64.wrap (t15 + 1)
 let t22 : Bool := decide (t20 < hi2)
 br t22 (
 let t28 : Int := IntKind.i64.wrap (first3 + t15)
 hwp PP (Instr.indexAt T_sl_api_Write (.slice data0 data0n data0c) (.int .i64 t28)) (fun v h1 => ∃ (t29 : Addr), v = (.pointer (some t29)) ∧
 ∃ (t30f0 t30f1 t30f2 : ByteArray) (t30f3 : Bool) (t30f4 : ByteArray), rdCells h1 t29 0 [(.string t30f0), (.string t30f1), (.string t30f2), (.bool t30f3), (.string t30f4)] ∧
 let t34 : Int := IntKind.i64.wrap (first3 + t15)
 let t35 : Int := IntKind.i64.wrap (t34 + 1)
 hwp PP (Instr.indexAt T_sl_api_Write (.slice data0 data0n data0c) (.int .i64 t35)) (fun v_1 h2 => ∃ (t36 : Addr), v_1 = (.pointer (some t36)) ∧
 ∃ (t37f0 t37f1 t37f2 : ByteArray) (t37f3 : Bool) (t37f4 : ByteArray), rdCells h2 t36 0 [(.string t37f0), (.string t37f1), (.string t37f2), (.bool t37f3), (.string t37f4)] ∧
 callV PP cmp4 [(.agg #[(.string t30f0), (.string t30f1), (.string t30f2), (.bool t30f3), (.string t30f4)]), (.agg #[(.string t37f0), (.string t37f1), (.string t37f2), (.bool t37f3), (.string t37f4)])] (fun v_2 h3 => ∃ (t38 : Int), v_2 = (.int .i64 t38) ∧
 let t39 : Bool := decide (t38 < 0)
 J1 data0 data0n data0c hi2 first3 cmp4 root10 t15 t39 K h3) h2) h1) h) (
 J1 data0 data0n data0c hi2 first3 cmp4 root10 t15 false K h))) : L1 data0 data0n data0c hi2 first3 cmp4 root10 K h := by unfold L1; exact Lp.of_txt (an 12) 1053 (by kernel_rfl) H
theorem L1_X0 {Q : VP}  {h : Heap} (H :
 Q (.tuple #[]) h) : (K1 Q) (.exit 0) (X0 ) h := of_eq_txt (by kernel_rfl) H
theorem J1_of {data0 : OA} {data0n data0c : Nat} {hi2 first3 : Int} {cmp4 : Value} {root10 child11 : Int} {t40 : Bool} {K : EP} {h : Heap} (H :
 br t40 (
 let t42 : Int := IntKind.i64.wrap (child11 + 1)
 J2 data0 data0n data0c hi2 first3 cmp4 root10 t42 K h) (
 J2 data0 data0n data0c hi2 first3 cmp4 root10 child11 K h)) : J1 data0 data0n data0c hi2 first3 cmp4 root10 child11 t40 K h := by unfold J1; exact Jn.of_txt (an 397) (by kernel_rfl) H
theorem J2_of {data0 : OA} {data0n data0c : Nat} {hi2 first3 : Int} {cmp4 : Value} {root10 child11 : Int} {K : EP} {h : Heap} (H :
 let t47 : Int := IntKind.i64.wrap (first3 + root10)
 hwp PP (Instr.indexAt T_sl_api_Write (.slice data0 data0n data0c) (.int .i64 t47)) (fun v h1 => ∃ (t48 : Addr), v = (.pointer (some t48)) ∧
 ∃ (t49f0 t49f1 t49f2 : ByteArray) (t49f3 : Bool) (t49f4 : ByteArray), rdCells h1 t48 0 [(.string t49f0), (.string t49f1), (.string t49f2), (.bool t49f3), (.string t49f4)] ∧
 let t53 : Int := IntKind.i64.wrap (first3 + child11)
 hwp PP (Instr.indexAt T_sl_api_Write (.slice data0 data0n data0c) (.int .i64 t53)) (fun v_1 h2 => ∃ (t54 : Addr), v_1 = (.pointer (some t54)) ∧
 ∃ (t55f0 t55f1 t55f2 : ByteArray) (t55f3 : Bool) (t55f4 : ByteArray), rdCells h2 t54 0 [(.string t55f0), (.string t55f1), (.string t55f2), (.bool t55f3), (.string t55f4)] ∧
 callV PP cmp4 [(.agg #[(.string t49f0), (.string t49f1), (.string t49f2), (.bool t49f3), (.string t49f4)]), (.agg #[(.string t55f0), (.string t55f1), (.string t55f2), (.bool t55f3), (.string t55f4)])] (fun v_2 h3 => ∃ (t56 : Int), v_2 = (.int .i64 t56) ∧
 let t57 : Bool := decide (t56 < 0)
 let t58 : Bool := (!t57)
 br t58 (
 K .ret (Xret) h3) (
 let t62 : Int := IntKind.i64.wrap (first3 + root10)
 let t66 : Int := IntKind.i64.wrap (first3 + child11)
 let t70 : Int := IntKind.i64.wrap (first3 + child11)
 hwp PP (Instr.indexAt T_sl_api_Write (.slice data0 data0n data0c) (.int .i64 t70)) (fun v_3 h4 => ∃ (t71 : Addr), v_3 = (.pointer (some t71)) ∧
 ∃ (t72f0 t72f1 t72f2 : ByteArray) (t72f3 : Bool) (t72f4 : ByteArray), rdCells h4 t71 0 [(.string t72f0), (.string t72f1), (.string t72f2), (.bool t72f3), (.string t72f4)] ∧
 let t76 : Int := IntKind.i64.wrap (first3 + root10)
 hwp PP (Instr.indexAt T_sl_api_Write (.slice data0 data0n data0c) (.int .i64 t76)) (fun v_4 h5 => ∃ (t77 : Addr), v_4 = (.pointer (some t77)) ∧
 ∃ (t78f0 t78f1 t78f2 : ByteArray) (t78f3 : Bool) (t78f4 : ByteArray), rdCells h5 t77 0 [(.string t78f0), (.string t78f1), (.string t78f2), (.bool t78f3), (.string t78f4)] ∧
 hwp PP (Instr.indexAt T_sl_api_Write (.slice data0 data0n data0c) (.int .i64 t62)) (fun v_5 h6 => ∃ (t79 : Addr), v_5 = (.pointer (some t79)) ∧
 wrCells t79 0 [(.string t72f0), (.string t72f1), (.string t72f2), (.bool t72f3), (.string t72f4)] (fun h7 =>
 hwp PP (Instr.indexAt T_sl_api_Write (.slice data0 data0n data0c) (.int .i64 t66)) (fun v_6 h8 => ∃ (t80 : Addr), v_6 = (.pointer (some t80)) ∧
 wrCells t80 0 [(.string t78f0), (.string t78f1), (.string t78f2), (.bool t78f3), (.string t78f4)] (fun h9 =>
 L1 data0 data0n data0c hi2 first3 cmp4 child11 K h9) h8) h7) h6) h5) h4) h3)) h2) h1) h) : J2 data0 data0n data0c hi2 first3 cmp4 root10 child11 K h := by unfold J2; exact Jn.of_txt (an 199) (by kernel_rfl) H
theorem L1_Xret {Q : VP}  {h : Heap} (H :
 Q (.tuple #[]) h) : (K1 Q) .ret (Xret ) h := of_eq_txt (by kernel_rfl) H
theorem door {data0 : OA} {data0n data0c : Nat} {lo1 hi2 first3 : Int} {cmp4 : Value} {Q : VP} {h : Heap} (H :
 L1 data0 data0n data0c hi2 first3 cmp4 lo1 (K1 Q) h) : SpecH PP F_slices_siftDownCmpFunc_api_Write [(.slice data0 data0n data0c), (.int .i64 lo1), (.int .i64 hi2), (.int .i64 first3), cmp4] h Q :=
   spec_of_txt (ann := ann) Try.func54 rfl rfl (by kernel_rfl) H
end slices_siftDownCmpFunc_api_Write
/-! ### slices.nextPowerOfTwo: function 55 -/
namespace slices_nextPowerOfTwo
def ann : Ann := (.seq 1 (.region [(List.range 1, 1)]) (.seq 4 (.region [(List.range 5, 4)]) (.exit 4)))
noncomputable abbrev cd (n : Nat) : Code := sub (bodyOf Try.f55) (pth n)
abbrev an (n : Nat) : Ann := subA ann (pth n)
theorem door {length0 : Int} {Q : VP} {h : Heap} (H :
 let t4 : Int := IntKind.u64.wrap length0
 SpecH PP F_math_bits_Len [(.int .u64 t4)] h (fun v h1 => ∃ (t5 : Int), v = (.int .i64 t5) ∧
 br (decide (0 ≤ t5)) (
 let t6 : Int := sShl .u64 1 t5
 Q (.int .u64 t6) h1) False)) : SpecH PP F_slices_nextPowerOfTwo [(.int .i64 length0)] h Q :=
   spec_of_txt (ann := ann) Try.func55 rfl rfl (by kernel_rfl) H
end slices_nextPowerOfTwo
/-! ### (*slices.xorshift).Next: function 56 -/
namespace slices_xorshift_Next
def ann : Ann := (.seq 1 (.region [(List.range 1, 1)]) (.seq 1 (.region [(List.range 10, 1)]) (.seq 1 (.region [(List.range 10, 1)]) (.seq 1 (.region [(List.range 10, 1)]) (.seq 4 (.region [(List.range 4, 4)]) (.exit 4))))))
noncomputable abbrev cd (n : Nat) : Code := sub (bodyOf Try.f56) (pth n)
abbrev an (n : Nat) : Ann := subA ann (pth n)
theorem door {r0 : OA} {Q : VP} {h : Heap} (H :
 nilc r0 (fun t4 =>
 ∃ (t5 : Int), cellH h t4 = some (.int .u64 t5) ∧
 nilc r0 (fun t7 =>
 ∃ (t8 : Int), cellH h t7 = some (.int .u64 t8) ∧
 let t9 : Int := sShl .u64 t8 13
 let t10 : Int := bXor .u64 t5 t9
 nilc r0 (fun t11 =>
 wr t11 (.int .u64 t10) (fun h1 =>
 nilc r0 (fun t13 =>
 ∃ (t14 : Int), cellH h1 t13 = some (.int .u64 t14) ∧
 nilc r0 (fun t16 =>
 ∃ (t17 : Int), cellH h1 t16 = some (.int .u64 t17) ∧
 let t18 : Int := sShr .u64 t17 7
 let t19 : Int := bXor .u64 t14 t18
 nilc r0 (fun t20 =>
 wr t20 (.int .u64 t19) (fun h2 =>
 nilc r0 (fun t22 =>
 ∃ (t23 : Int), cellH h2 t22 = some (.int .u64 t23) ∧
 nilc r0 (fun t25 =>
 ∃ (t26 : Int), cellH h2 t25 = some (.int .u64 t26) ∧
 let t27 : Int := sShl .u64 t26 17
 let t28 : Int := bXor .u64 t23 t27
 nilc r0 (fun t29 =>
 wr t29 (.int .u64 t28) (fun h3 =>
 nilc r0 (fun t31 =>
 ∃ (t32 : Int), cellH h3 t31 = some (.int .u64 t32) ∧
 Q (.int .u64 t32) h3)) h2)))) h1)))) h)))) : SpecH PP F_slices_xorshift_Next [(.pointer r0)] h Q :=
   spec_of_txt (ann := ann) Try.func56 rfl rfl (by kernel_rfl) H
end slices_xorshift_Next
/-! ### slices.medianAdjacentCmpFunc[haversack/api.Write]: function 57 -/
namespace slices_medianAdjacentCmpFunc_api_Write
def ann : Ann := (.seq 15 (.region [(List.range 1, 15)]) (.seq 256 (.region [(List.range 10, 256)]) (.exit 256)))
noncomputable abbrev cd (n : Nat) : Code := sub (bodyOf Try.f57) (pth n)
abbrev an (n : Nat) : Ann := subA ann (pth n)
theorem door {data0 : OA} {data0n data0c : Nat} {a1 : Int} {swaps2 : OA} {cmp3 : Value} {Q : VP} {h : Heap} (H :
 let t11 : Int := IntKind.i64.wrap (a1 - 1)
 let t14 : Int := IntKind.i64.wrap (a1 + 1)
 SpecH PP F_slices_medianCmpFunc_api_Write [(.slice data0 data0n data0c), (.int .i64 t11), (.int .i64 a1), (.int .i64 t14), (.pointer swaps2), cmp3] h (fun v h1 => ∃ (t17 : Int), v = (.int .i64 t17) ∧
 Q (.int .i64 t17) h1)) : SpecH PP F_slices_medianAdjacentCmpFunc_api_Write [(.slice data0 data0n data0c), (.int .i64 a1), (.pointer swaps2), cmp3] h Q :=
   spec_of_txt (ann := ann) Try.func57 rfl rfl (by kernel_rfl) H
end slices_medianAdjacentCmpFunc_api_Write
/-! ### slices.medianCmpFunc[haversack/api.Write]: function 58 -/
namespace slices_medianCmpFunc_api_Write
def ann : Ann := (.seq 63 (.region [(List.range 1, 63)]) (.seq 63 (.region [(List.range 11, 63)]) (.seq 55 (.region [(List.range 11, 55)]) (.seq 4 (.region [(List.range 11, 4)]) (.seq 4096 (.region [(List.range 2, 4096)]) (.exit 4096))))))
noncomputable abbrev cd (n : Nat) : Code := sub (bodyOf Try.f58) (pth n)
abbrev an (n : Nat) : Ann := subA ann (pth n)
theorem door {data0 : OA} {data0n data0c : Nat} {a1 b2 c3 : Int} {swaps4 : OA} {cmp5 : Value} {Q : VP} {h : Heap} (H :
 SpecH PP F_slices_order2CmpFunc_api_Write [(.slice data0 data0n data0c), (.int .i64 a1), (.int .i64 b2), (.pointer swaps4), cmp5] h (fun v h1 => ∃ (t19 t19_1 : Int), v = (.tuple #[(.int .i64 t19), (.int .i64 t19_1)]) ∧
 SpecH PP F_slices_order2CmpFunc_api_Write [(.slice data0 data0n data0c), (.int .i64 t19_1), (.int .i64 c3), (.pointer swaps4), cmp5] h1 (fun v_1 h2 => ∃ (t28 t28_1 : Int), v_1 = (.tuple #[(.int .i64 t28), (.int .i64 t28_1)]) ∧
 SpecH PP F_slices_order2CmpFunc_api_Write [(.slice data0 data0n data0c), (.int .i64 t19), (.int .i64 t28), (.pointer swaps4), cmp5] h2 (fun v_2 h3 => ∃ (t37 t37_1 : Int), v_2 = (.tuple #[(.int .i64 t37), (.int .i64 t37_1)]) ∧
 Q (.int .i64 t37_1) h3)))) : SpecH PP F_slices_medianCmpFunc_api_Write [(.slice data0 data0n data0c), (.int .i64 a1), (.int .i64 b2), (.int .i64 c3), (.pointer swaps4), cmp5] h Q :=
   spec_of_txt (ann := ann) Try.func58 rfl rfl (by kernel_rfl) H
end slices_medianCmpFunc_api_Write
/-! ### slices.order2CmpFunc[haversack/api.Write]: function 59 -/
namespace slices_order2CmpFunc_api_Write
def ann : Ann := (.seq 31 (.region [(List.range 2, 31)]) (.seq 6 (.seq 4194318 (.region [(List.range 11, 4194318)]) (.cond (.seq 6 (.region [(List.range 6, 6)]) (.seq 3072 (.region [(List.range 4, 3072)]) (.exit 3072))) .leaf)) (.seq 3072 (.region [(List.range 4, 3072)]) (.exit 3072))))
noncomputable abbrev cd (n : Nat) : Code := sub (bodyOf Try.f59) (pth n)
abbrev an (n : Nat) : Ann := subA ann (pth n)
theorem door {data0 : OA} {data0n data0c : Nat} {a1 b2 : Int} {swaps3 : OA} {cmp4 : Value} {Q : VP} {h : Heap} (H :
 hwp PP (Instr.indexAt T_sl_api_Write (.slice data0 data0n data0c) (.int .i64 b2)) (fun v h1 => ∃ (t15 : Addr), v = (.pointer (some t15)) ∧
 ∃ (t16f0 t16f1 t16f2 : ByteArray) (t16f3 : Bool) (t16f4 : ByteArray), rdCells h1 t15 0 [(.string t16f0), (.string t16f1), (.string t16f2), (.bool t16f3), (.string t16f4)] ∧
 hwp PP (Instr.indexAt T_sl_api_Write (.slice data0 data0n data0c) (.int .i64 a1)) (fun v_1 h2 => ∃ (t19 : Addr), v_1 = (.pointer (some t19)) ∧
 ∃ (t20f0 t20f1 t20f2 : ByteArray) (t20f3 : Bool) (t20f4 : ByteArray), rdCells h2 t19 0 [(.string t20f0), (.string t20f1), (.string t20f2), (.bool t20f3), (.string t20f4)] ∧
 callV PP cmp4 [(.agg #[(.string t16f0), (.string t16f1), (.string t16f2), (.bool t16f3), (.string t16f4)]), (.agg #[(.string t20f0), (.string t20f1), (.string t20f2), (.bool t20f3), (.string t20f4)])] (fun v_2 h3 => ∃ (t21 : Int), v_2 = (.int .i64 t21) ∧
 let t22 : Bool := decide (t21 < 0)
 br t22 (
 nilc swaps3 (fun t24 =>
 ∃ (t25 : Int), cellH h3 t24 = some (.int .i64 t25) ∧
 let t26 : Int := IntKind.i64.wrap (t25 + 1)
 nilc swaps3 (fun t27 =>
 wr t27 (.int .i64 t26) (fun h4 =>
 Q (.tuple #[(.int .i64 b2), (.int .i64 a1)]) h4) h3))) (
 Q (.tuple #[(.int .i64 a1), (.int .i64 b2)]) h3)) h2) h1) h) : SpecH PP F_slices_order2CmpFunc_api_Write [(.slice data0 data0n data0c), (.int .i64 a1), (.int .i64 b2), (.pointer swaps3), cmp4] h Q :=
   spec_of_txt (ann := ann) Try.func59 rfl rfl (by kernel_rfl) H
end slices_order2CmpFunc_api_Write
end Go.Proofs.Ytcdifhgocjjbpaa
