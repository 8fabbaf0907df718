/- Texts of the proof, laid together: What the functions of this text come to, as predicates on heaps (printed by my own program out of the dump), each with its proof against the program.; Disks, plain.; A log on a disk, plain: its bytes, its calls.; A log, plain: what stays so while it is appended to; a log cut.; maps.clone, called.; DERIVED: THE SHELF's CONTRACTS AT THIS DUMP, IN PLAIN WORDS (tools/lay-plain.mjs out of 'TryzPick.lean', which tools/lay-shelf.mjs wrote): THE SAME DECLARATIONS UNDER THE SAME NAMES: 'import', 'namespace', 'open', 'def', 'theorem' AND NOTHING ELSE: no command of the shelf's: FOR A HAND-IN. Each laying: the table of numbers ('.._ren') and one theorem, a field a fact of the dump's own or the kernel's comparison; each contract: ONE APPLICATION.; slices.Sort of strings: the kit's contract as one over heaps.; A disk in memory; the small calls.; The names of a map, rising: maps.Keys, slices.Sorted. -/
import Derived.Test.YtjihchpobpgpeaaGreatDoorP1
import Derived.Test.YtjihchpobpgpeaaGreatDoorP2
import Derived.Test.YtjihchpobpgpeaaGreatDoorProg
import Derived.Shelf.Strconv.Atoi
import Derived.Shelf.LaysM
import Derived.Shelf.Strconv.Itoa3
import Derived.Shelf.LaysC
import Derived.Shelf.Sort.Plain
import Derived.Shelf.Strings.Prefix
import Derived.Shelf.Slices.In.SortNone
set_option linter.unusedVariables false
set_option maxRecDepth 100000
namespace Go.Proofs.YtjihchpobpgpeaaGreatDoor
open Go Go.HW
noncomputable abbrev PP : Program := Tryz.prog
abbrev T_ : TypeId := 0
abbrev T_int : TypeId := 3
abbrev T_bool : TypeId := 4
abbrev T_uint8 : TypeId := 5
abbrev T_string : TypeId := 9
abbrev T_any : TypeId := 20
abbrev T_sl_int : TypeId := 22
abbrev T_p_disk_Disk : TypeId := 24
abbrev T_sl_api_Record : TypeId := 27
abbrev T_sl_string : TypeId := 35
abbrev T_struct_Seq_int_Data_string : TypeId := 39
abbrev T_api_Record : TypeId := 40
abbrev T_sl_uint8 : TypeId := 43
abbrev T_sl_p_wal_segment : TypeId := 46
abbrev T_struct_d_p_disk_Disk_l_sl_p_wal_segment_synced_int_names_boo : TypeId := 47
abbrev T_wal_Log : TypeId := 48
abbrev T_interface_Error_string : TypeId := 50
abbrev T_error : TypeId := 51
abbrev T_p_wal_segment : TypeId := 60
abbrev T_struct_name_string_first_int_next_int_size_int_dirty_bool : TypeId := 61
abbrev T_wal_segment : TypeId := 62
abbrev T_map_string_p_disk_file : TypeId := 71
abbrev T_disk_names : TypeId := 72
abbrev T_p_disk_file : TypeId := 73
abbrev T_sl_disk_change : TypeId := 74
abbrev T_struct_room_int_now_disk_names_safe_disk_names_changes_sl_di : TypeId := 75
abbrev T_disk_Disk : TypeId := 76
abbrev T_struct_b_sl_uint8_safe_int : TypeId := 77
abbrev T_disk_file : TypeId := 78
abbrev T_struct_from_string_to_string_f_p_disk_file : TypeId := 81
abbrev T_disk_change : TypeId := 82
abbrev T_uint32 : TypeId := 89
abbrev T_uint64 : TypeId := 92
abbrev T_16_uint32 : TypeId := 144
abbrev F_law10_WalCuts : FuncId := 3
abbrev F_law10_WalNil : FuncId := 4
abbrev F_law10_awake : FuncId := 5
abbrev F_law10_room : FuncId := 6
abbrev F_wal_Open : FuncId := 7
abbrev F_wal_Log_Append : FuncId := 8
abbrev F_wal_Log_Cut : FuncId := 9
abbrev F_wal_Log_Sync : FuncId := 10
abbrev F_disk_Disk_Names : FuncId := 11
abbrev F_disk_Disk_Used : FuncId := 12
abbrev F_disk_Disk_Crash : FuncId := 13
abbrev F_wal_Log_Synced : FuncId := 14
abbrev F_wal_Log_Last : FuncId := 15
abbrev F_wal_Log_First : FuncId := 16
abbrev F_disk_New : FuncId := 17
abbrev F_disk_Disk_Down : FuncId := 18
abbrev F_strings_HasPrefix : FuncId := 19
abbrev F_strconv_Atoi : FuncId := 20
abbrev F_disk_Disk_Read : FuncId := 21
abbrev F_wal_begins : FuncId := 22
abbrev F_wal_records : FuncId := 23
abbrev F_wal_Log_settle : FuncId := 24
abbrev F_wal_Log_begin : FuncId := 25
abbrev F_wal_Log_lay : FuncId := 26
abbrev F_disk_Disk_Remove : FuncId := 27
abbrev F_slices_Delete_wal_segment_wal_segment : FuncId := 28
abbrev F_disk_Disk_Sync : FuncId := 29
abbrev F_disk_Disk_SyncDir : FuncId := 30
abbrev F_disk_Disk_ready : FuncId := 31
abbrev F_slices_Sorted_string : FuncId := 32
abbrev F_maps_Keys_disk_names_string_disk_file : FuncId := 33
abbrev F_disk_Disk_Crash_1 : FuncId := 34
abbrev F_maps_Clone_disk_names_string_disk_file : FuncId := 35
abbrev F_disk_says : FuncId := 36
abbrev F_disk_names_do : FuncId := 37
abbrev F_slices_Clone_byte_byte : FuncId := 38
abbrev F_internal_stringslite_HasPrefix : FuncId := 39
abbrev F_disk_Disk_find : FuncId := 42
abbrev F_wal_whole : FuncId := 43
abbrev F_little_Get32 : FuncId := 44
abbrev F_little_Get64 : FuncId := 45
abbrev F_strconv_Itoa : FuncId := 46
abbrev F_disk_Disk_Create : FuncId := 47
abbrev F_disk_Disk_Append : FuncId := 48
abbrev F_wal_head : FuncId := 49
abbrev F_wal_laid : FuncId := 50
abbrev F_disk_Disk_change : FuncId := 51
abbrev F_disk_Disk_done : FuncId := 52
abbrev F_slices_Collect_string : FuncId := 53
abbrev F_slices_Sort_string_string : FuncId := 54
abbrev F_maps_Keys_disk_names_string_disk_file_1 : FuncId := 55
abbrev F_maps_clone : FuncId := 56
abbrev F_little_Sum : FuncId := 62
abbrev F_little_get : FuncId := 63
abbrev F_disk_good : FuncId := 65
abbrev F_wal_sealed : FuncId := 66
abbrev F_little_Put64 : FuncId := 67
abbrev F_little_Put32 : FuncId := 68
abbrev F_slices_AppendSeq_string_string : FuncId := 69
abbrev F_little_More : FuncId := 75
abbrev F_slices_Backward_byte_byte : FuncId := 76
abbrev F_little_put : FuncId := 78
abbrev F_slices_Backward_byte_byte_1 : FuncId := 92
abbrev G_little_steps : Nat := 2
theorem C_ : PP.cellsOf T_ = 1 := by kernel_rfl
theorem C_int : PP.cellsOf T_int = 1 := by kernel_rfl
theorem U_int : PP.underlying T_int = some (.int .i64) := by kernel_rfl
theorem C_bool : PP.cellsOf T_bool = 1 := by kernel_rfl
theorem U_bool : PP.underlying T_bool = some .bool := by kernel_rfl
theorem C_uint8 : PP.cellsOf T_uint8 = 1 := by kernel_rfl
theorem U_uint8 : PP.underlying T_uint8 = some (.int .u8) := by kernel_rfl
theorem C_string : PP.cellsOf T_string = 1 := by kernel_rfl
theorem U_string : PP.underlying T_string = some .string := by kernel_rfl
theorem C_any : PP.cellsOf T_any = 1 := by kernel_rfl
theorem C_sl_int : PP.cellsOf T_sl_int = 1 := by kernel_rfl
theorem E_sl_int : Elem PP T_sl_int T_int 1 8 (.int .i64 0) := Elem.of (by kernel_rfl) (by kernel_rfl)
theorem U_sl_int : PP.underlying T_sl_int = some (.slice T_int) := by kernel_rfl
theorem C_p_disk_Disk : PP.cellsOf T_p_disk_Disk = 1 := by kernel_rfl
theorem C_sl_api_Record : PP.cellsOf T_sl_api_Record = 1 := by kernel_rfl
theorem E_sl_api_Record : Elem PP T_sl_api_Record T_api_Record 2 24 (.agg #[(.int .i64 0), (.string (⟨#[]⟩ : ByteArray))]) := Elem.of (by kernel_rfl) (by kernel_rfl)
theorem U_sl_api_Record : PP.underlying T_sl_api_Record = some (.slice T_api_Record) := by kernel_rfl
theorem C_sl_string : PP.cellsOf T_sl_string = 1 := by kernel_rfl
theorem E_sl_string : Elem PP T_sl_string T_string 1 16 (.string (⟨#[]⟩ : ByteArray)) := Elem.of (by kernel_rfl) (by kernel_rfl)
theorem U_sl_string : PP.underlying T_sl_string = some (.slice T_string) := by kernel_rfl
theorem FL_struct_Seq_int_Data_string : fieldsOf PP T_struct_Seq_int_Data_string = [(T_int, 0, 1), (T_string, 1, 1)] := by kernel_rfl
theorem C_struct_Seq_int_Data_string : PP.cellsOf T_struct_Seq_int_Data_string = 2 := by kernel_rfl
theorem FL_api_Record : fieldsOf PP T_api_Record = [(T_int, 0, 1), (T_string, 1, 1)] := by kernel_rfl
theorem C_api_Record : PP.cellsOf T_api_Record = 2 := by kernel_rfl
theorem C_sl_uint8 : PP.cellsOf T_sl_uint8 = 1 := by kernel_rfl
theorem E_sl_uint8 : Elem PP T_sl_uint8 T_uint8 1 1 (.int .u8 0) := Elem.of (by kernel_rfl) (by kernel_rfl)
theorem U_sl_uint8 : PP.underlying T_sl_uint8 = some (.slice T_uint8) := by kernel_rfl
theorem C_sl_p_wal_segment : PP.cellsOf T_sl_p_wal_segment = 1 := by kernel_rfl
theorem E_sl_p_wal_segment : Elem PP T_sl_p_wal_segment T_p_wal_segment 1 8 (.pointer none) := Elem.of (by kernel_rfl) (by kernel_rfl)
theorem U_sl_p_wal_segment : PP.underlying T_sl_p_wal_segment = some (.slice T_p_wal_segment) := by kernel_rfl
theorem FL_struct_d_p_disk_Disk_l_sl_p_wal_segment_synced_int_names_boo : fieldsOf PP T_struct_d_p_disk_Disk_l_sl_p_wal_segment_synced_int_names_boo = [(T_p_disk_Disk, 0, 1), (T_sl_p_wal_segment, 1, 1), (T_int, 2, 1), (T_bool, 3, 1), (T_int, 4, 1)] := by kernel_rfl
theorem C_struct_d_p_disk_Disk_l_sl_p_wal_segment_synced_int_names_boo : PP.cellsOf T_struct_d_p_disk_Disk_l_sl_p_wal_segment_synced_int_names_boo = 5 := by kernel_rfl
theorem FL_wal_Log : fieldsOf PP T_wal_Log = [(T_p_disk_Disk, 0, 1), (T_sl_p_wal_segment, 1, 1), (T_int, 2, 1), (T_bool, 3, 1), (T_int, 4, 1)] := by kernel_rfl
theorem C_wal_Log : PP.cellsOf T_wal_Log = 5 := by kernel_rfl
theorem C_interface_Error_string : PP.cellsOf T_interface_Error_string = 1 := by kernel_rfl
theorem C_error : PP.cellsOf T_error = 1 := by kernel_rfl
theorem C_p_wal_segment : PP.cellsOf T_p_wal_segment = 1 := by kernel_rfl
theorem FL_struct_name_string_first_int_next_int_size_int_dirty_bool : fieldsOf PP T_struct_name_string_first_int_next_int_size_int_dirty_bool = [(T_string, 0, 1), (T_int, 1, 1), (T_int, 2, 1), (T_int, 3, 1), (T_bool, 4, 1)] := by kernel_rfl
theorem C_struct_name_string_first_int_next_int_size_int_dirty_bool : PP.cellsOf T_struct_name_string_first_int_next_int_size_int_dirty_bool = 5 := by kernel_rfl
theorem FL_wal_segment : fieldsOf PP T_wal_segment = [(T_string, 0, 1), (T_int, 1, 1), (T_int, 2, 1), (T_int, 3, 1), (T_bool, 4, 1)] := by kernel_rfl
theorem C_wal_segment : PP.cellsOf T_wal_segment = 5 := by kernel_rfl
theorem C_map_string_p_disk_file : PP.cellsOf T_map_string_p_disk_file = 1 := by kernel_rfl
theorem U_map_string_p_disk_file : PP.underlying T_map_string_p_disk_file = some (.map T_string T_p_disk_file) := by kernel_rfl
theorem C_disk_names : PP.cellsOf T_disk_names = 1 := by kernel_rfl
theorem U_disk_names : PP.underlying T_disk_names = some (.map T_string T_p_disk_file) := by kernel_rfl
theorem C_p_disk_file : PP.cellsOf T_p_disk_file = 1 := by kernel_rfl
theorem C_sl_disk_change : PP.cellsOf T_sl_disk_change = 1 := by kernel_rfl
theorem E_sl_disk_change : Elem PP T_sl_disk_change T_disk_change 3 40 (.agg #[(.string (⟨#[]⟩ : ByteArray)), (.string (⟨#[]⟩ : ByteArray)), (.pointer none)]) := Elem.of (by kernel_rfl) (by kernel_rfl)
theorem U_sl_disk_change : PP.underlying T_sl_disk_change = some (.slice T_disk_change) := by kernel_rfl
theorem FL_struct_room_int_now_disk_names_safe_disk_names_changes_sl_di : fieldsOf PP T_struct_room_int_now_disk_names_safe_disk_names_changes_sl_di = [(T_int, 0, 1), (T_disk_names, 1, 1), (T_disk_names, 2, 1), (T_sl_disk_change, 3, 1), (T_int, 4, 1), (T_bool, 5, 1), (T_int, 6, 1)] := by kernel_rfl
theorem C_struct_room_int_now_disk_names_safe_disk_names_changes_sl_di : PP.cellsOf T_struct_room_int_now_disk_names_safe_disk_names_changes_sl_di = 7 := by kernel_rfl
theorem FL_disk_Disk : fieldsOf PP T_disk_Disk = [(T_int, 0, 1), (T_disk_names, 1, 1), (T_disk_names, 2, 1), (T_sl_disk_change, 3, 1), (T_int, 4, 1), (T_bool, 5, 1), (T_int, 6, 1)] := by kernel_rfl
theorem C_disk_Disk : PP.cellsOf T_disk_Disk = 7 := by kernel_rfl
theorem FL_struct_b_sl_uint8_safe_int : fieldsOf PP T_struct_b_sl_uint8_safe_int = [(T_sl_uint8, 0, 1), (T_int, 1, 1)] := by kernel_rfl
theorem C_struct_b_sl_uint8_safe_int : PP.cellsOf T_struct_b_sl_uint8_safe_int = 2 := by kernel_rfl
theorem FL_disk_file : fieldsOf PP T_disk_file = [(T_sl_uint8, 0, 1), (T_int, 1, 1)] := by kernel_rfl
theorem C_disk_file : PP.cellsOf T_disk_file = 2 := by kernel_rfl
theorem FL_struct_from_string_to_string_f_p_disk_file : fieldsOf PP T_struct_from_string_to_string_f_p_disk_file = [(T_string, 0, 1), (T_string, 1, 1), (T_p_disk_file, 2, 1)] := by kernel_rfl
theorem C_struct_from_string_to_string_f_p_disk_file : PP.cellsOf T_struct_from_string_to_string_f_p_disk_file = 3 := by kernel_rfl
theorem FL_disk_change : fieldsOf PP T_disk_change = [(T_string, 0, 1), (T_string, 1, 1), (T_p_disk_file, 2, 1)] := by kernel_rfl
theorem C_disk_change : PP.cellsOf T_disk_change = 3 := by kernel_rfl
theorem C_uint32 : PP.cellsOf T_uint32 = 1 := by kernel_rfl
theorem U_uint32 : PP.underlying T_uint32 = some (.int .u32) := by kernel_rfl
theorem C_uint64 : PP.cellsOf T_uint64 = 1 := by kernel_rfl
theorem U_uint64 : PP.underlying T_uint64 = some (.int .u64) := by kernel_rfl
theorem C_16_uint32 : PP.cellsOf T_16_uint32 = 16 := by kernel_rfl
theorem A_16_uint32 : Arr PP T_16_uint32 T_uint32 16 1 := Arr.of (by kernel_rfl) (by kernel_rfl)
theorem U_16_uint32 : PP.underlying T_16_uint32 = some (.array 16 T_uint32) := by kernel_rfl
/-! ### haversack/haversacklaw10.WalCuts: function 3 -/
namespace law10_WalCuts
def ann : Ann := (.seq 7 (.region [(List.range 1, 7)]) (.seq 7 (.seq 549755813895 (.region [(List.range 16, 549755813895)]) (.join (.cond (.seq 64 (.region [(List.range 2, 64)]) (.exit 64)) .leaf))) (.seq 135 (.region [(List.range 2, 135)]) (.seq 1415 (.region [(List.range 9, 1415)]) (.seq 391 (.seq 9007199254741383 (.region [(List.range 6, 9007199254741383)]) (.join (.cond (.seq 64 (.region [(List.range 1, 64)]) (.exit 64)) .leaf))) (.seq 391 (.seq 2439 (.region [(List.range 1, 2439)]) (.block (.loop 2439 (.seq 2439 (.seq 72057594037930375 (.region [(List.range 3, 72057594037930375)]) (.cond .leaf (.exit 391))) (.seq 2439 (.block (.seq 14727 (.region [(List.range 8, 14727)]) (.seq 4722366482869645216135 (.region [(List.range 8, 4722366482869645216135)]) (.join (.cond (.seq 64 (.region [(List.range 1, 64)]) (.exit 64)) .leaf))))) (.region [(List.range 3, 2439)])))))) (.seq 16775 (.region [(List.range 4, 16775)]) (.seq 49287 (.region [(List.range 3, 49287)]) (.seq 114823 (.region [(List.range 4, 114823)]) (.seq 245895 (.region [(List.range 3, 245895)]) (.seq 245891 (.region [(List.range 3, 245891)]) (.seq 2080771 (.region [(List.range 9, 2080771)]) (.seq 983043 (.seq 40564819207303340847894503555075 (.region [(List.range 14, 40564819207303340847894503555075)]) (.join (.cond (.seq 64 (.region [(List.range 1, 64)]) (.exit 64)) .leaf))) (.seq 458755 (.seq 3080195 (.region [(List.range 1, 3080195)]) (.block (.loop 3080195 (.seq 3080195 (.seq 649037107316853453566312044232707 (.region [(List.range 4, 649037107316853453566312044232707)]) (.cond .leaf (.exit 458755))) (.seq 3080195 (.block (.seq 43556142965880123323311949751266334146563 (.region [(List.range 24, 43556142965880123323311949751266334146563)]) (.join (.cond (.seq 64 (.region [(List.range 1, 64)]) (.exit 64)) .leaf)))) (.region [(List.range 3, 3080195)])))))) (.seq 12779523 (.region [(List.range 7, 12779523)]) (.seq 64 (.region [(List.range 25, 64)]) (.exit 64)))))))))))))))))
noncomputable abbrev cd (n : Nat) : Code := sub (bodyOf Tryz.f3) (pth n)
abbrev an (n : Nat) : Ann := subA ann (pth n)
@[irreducible] def X0 (many0 : Int) (data1 : ByteArray) (choices2 : OA) (choices2n choices2c : Nat) (d7 xl8 : OA) : Fr := (mkFr 0 165 [(0, (.int .i64 many0)), (1, (.string data1)), (2, (.slice choices2 choices2n choices2c)), (7, (.pointer d7)), (8, (.pointer xl8))])
@[irreducible] def Xret (t6 : Bool) : Fr := (mkFr 0 165 [(6, (.bool t6))])
@[irreducible] def X2 (many0 : Int) (data1 : ByteArray) (files16 used17 : Int) (x18 : OA) : Fr := (mkFr 0 165 [(0, (.int .i64 many0)), (1, (.string data1)), (16, (.int .i64 files16)), (17, (.int .i64 used17)), (18, (.pointer x18))])
@[irreducible] def K1 (Q : VP) : EP := seqK (fun fr h => ev PP true none (cd 7) (an 7) (fr.mask 7) (bodyK PP Tryz.f3 Q) h) (bodyK PP Tryz.f3 Q)
@[irreducible] def J1 (many0 : Int) (data1 : ByteArray) (choices2 : OA) (choices2n choices2c : Nat) (t39 : Bool) (Q : VP) (h : Heap) : Prop := Jn PP true (cd 13) (mkFr 0 165 [(0, (.int .i64 many0)), (1, (.string data1)), (2, (.slice choices2 choices2n choices2c)), (39, (.bool t39))]) (K1 Q) h
@[irreducible] def K2 (Q : VP) : EP := seqK (fun fr h => ev PP true none (cd 63) (an 63) (fr.mask 391) (bodyK PP Tryz.f3 Q) h) (bodyK PP Tryz.f3 Q)
@[irreducible] def J2 (many0 : Int) (data1 : ByteArray) (choices2 : OA) (choices2n choices2c : Nat) (d7 xl8 : OA) (t53 : Bool) (Q : VP) (h : Heap) : Prop := Jn PP true (cd 125) (mkFr 0 165 [(0, (.int .i64 many0)), (1, (.string data1)), (2, (.slice choices2 choices2n choices2c)), (7, (.pointer d7)), (8, (.pointer xl8)), (53, (.bool t53))]) (K2 Q) h
@[irreducible] def K4 (Q : VP) : EP := seqK (fun fr h => ev PP true none (cd 127) (an 127) (fr.mask 391) (bodyK PP Tryz.f3 Q) h) (bodyK PP Tryz.f3 Q)
@[irreducible] def K3 (Q : VP) : EP := blockK 0 (K4 Q)
@[irreducible] def L1 (many0 : Int) (data1 : ByteArray) (choices2 : OA) (choices2n choices2c : Nat) (d7 xl8 : OA) (i11 : Int) (K : EP) (h : Heap) : Prop := Lp PP true (cd 1012) (mkFr 0 165 [(0, (.int .i64 many0)), (1, (.string data1)), (2, (.slice choices2 choices2n choices2c)), (7, (.pointer d7)), (8, (.pointer xl8)), (11, (.int .i64 i11))]) K h
@[irreducible] def B1 (K : EP) : EP := seqK (fun fr h => Lp PP true (cd 1012) (fr.mask 2439) K h) K
@[irreducible] def K8 (K : EP) : EP := seqK (fun fr h => ev PP true none (cd 4051) (an 4051) (fr.mask 2439) (B1 K) h) (B1 K)
@[irreducible] def K5 (K : EP) : EP := blockK 1 (K8 K)
@[irreducible] def J3 (many0 : Int) (data1 : ByteArray) (choices2 : OA) (choices2n choices2c : Nat) (d7 xl8 : OA) (i11 : Int) (t72 : Bool) (K : EP) (h : Heap) : Prop := Jn PP true (cd 32403) (mkFr 0 165 [(0, (.int .i64 many0)), (1, (.string data1)), (2, (.slice choices2 choices2n choices2c)), (7, (.pointer d7)), (8, (.pointer xl8)), (11, (.int .i64 i11)), (72, (.bool t72))]) (K5 K) h
@[irreducible] def K6 (Q : VP) : EP := seqK (fun fr h => ev PP true none (cd 16383) (an 16383) (fr.mask 983043) (bodyK PP Tryz.f3 Q) h) (bodyK PP Tryz.f3 Q)
@[irreducible] def J4 (many0 : Int) (data1 : ByteArray) (files16 used17 : Int) (x18 r19 : OA) (r19n r19c : Nat) (t105 : Bool) (Q : VP) (h : Heap) : Prop := Jn PP true (cd 32765) (mkFr 0 165 [(0, (.int .i64 many0)), (1, (.string data1)), (16, (.int .i64 files16)), (17, (.int .i64 used17)), (18, (.pointer x18)), (19, (.slice r19 r19n r19c)), (105, (.bool t105))]) (K6 Q) h
@[irreducible] def K9 (Q : VP) : EP := seqK (fun fr h => ev PP true none (cd 32767) (an 32767) (fr.mask 458755) (bodyK PP Tryz.f3 Q) h) (bodyK PP Tryz.f3 Q)
@[irreducible] def K7 (Q : VP) : EP := blockK 2 (K9 Q)
@[irreducible] def L2 (many0 : Int) (data1 : ByteArray) (files16 used17 : Int) (x18 r19 : OA) (r19n r19c : Nat) (xn21 : Int) (K : EP) (h : Heap) : Prop := Lp PP true (cd 262132) (mkFr 0 165 [(0, (.int .i64 many0)), (1, (.string data1)), (16, (.int .i64 files16)), (17, (.int .i64 used17)), (18, (.pointer x18)), (19, (.slice r19 r19n r19c)), (21, (.int .i64 xn21))]) K h
@[irreducible] def B2 (K : EP) : EP := seqK (fun fr h => Lp PP true (cd 262132) (fr.mask 3080195) K h) K
@[irreducible] def K11 (K : EP) : EP := seqK (fun fr h => ev PP true none (cd 1048531) (an 1048531) (fr.mask 3080195) (B2 K) h) (B2 K)
@[irreducible] def K10 (K : EP) : EP := blockK 3 (K11 K)
@[irreducible] def J5 (many0 : Int) (data1 : ByteArray) (files16 used17 : Int) (x18 r19 : OA) (r19n r19c : Nat) (xn21 : Int) (t135 : Bool) (K : EP) (h : Heap) : Prop := Jn PP true (cd 4194121) (mkFr 0 165 [(0, (.int .i64 many0)), (1, (.string data1)), (16, (.int .i64 files16)), (17, (.int .i64 used17)), (18, (.pointer x18)), (19, (.slice r19 r19n r19c)), (21, (.int .i64 xn21)), (135, (.bool t135))]) (K10 K) h
theorem J1_of {many0 : Int} {data1 : ByteArray} {choices2 : OA} {choices2n choices2c : Nat} {t39 : Bool} {Q : VP} {h : Heap} (H :
 br t39 (
 SpecH PP F_law10_awake [] h (fun v h1 => ∃ (t40 : Bool), v = (.bool t40) ∧
 Q (.bool t40) h1)) (
 SpecH PP F_law10_room [] h (fun v_1 h2 => ∃ (t41 : OA), v_1 = (.pointer t41) ∧
 SpecH PP F_wal_Open [(.pointer t41)] h2 (fun v_2 h3 => ∃ (t44 t44_1 : OA) (t44_1n t44_1c : Nat) (t44_2 : Int), v_2 = (.tuple #[(.pointer t44), (.slice t44_1 t44_1n t44_1c), (.int .i64 t44_2)]) ∧
 let t49 : Bool := (Option.isNone t44)
 br t49 (
 J2 many0 data1 choices2 choices2n choices2c t41 t44 true Q h3) (
 let t52 : Bool := (t44_2 != 0)
 J2 many0 data1 choices2 choices2n choices2c t41 t44 t52 Q h3))))) : J1 many0 data1 choices2 choices2n choices2c t39 Q h := by unfold J1; exact Jn.of_txt (an 13) (by kernel_rfl) H
theorem J2_of {many0 : Int} {data1 : ByteArray} {choices2 : OA} {choices2n choices2c : Nat} {d7 xl8 : OA} {t53 : Bool} {Q : VP} {h : Heap} (H :
 br t53 (
 Q (.bool false) h) (
 L1 many0 data1 choices2 choices2n choices2c d7 xl8 0 (K3 Q) h)) : J2 many0 data1 choices2 choices2n choices2c d7 xl8 t53 Q h := by unfold J2; exact Jn.of_txt (an 125) (by kernel_rfl) H
theorem L1_of {many0 : Int} {data1 : ByteArray} {choices2 : OA} {choices2n choices2c : Nat} {d7 xl8 : OA} {i11 : Int} {K : EP} {h : Heap} (H :
 let t56 : Bool := decide (i11 < many0)
 br t56 (
 SpecH PP F_wal_Log_Append [(.pointer xl8), (.string data1)] h (fun v h1 => ∃ (t62 t62_1 : Int), v = (.tuple #[(.int .i64 t62), (.int .i64 t62_1)]) ∧
 let t66 : Bool := (t62_1 != 0)
 br t66 (
 J3 many0 data1 choices2 choices2n choices2c d7 xl8 i11 true K h1) (
 let t70 : Int := IntKind.i64.wrap (i11 + 1)
 let t71 : Bool := (t62 != t70)
 J3 many0 data1 choices2 choices2n choices2c d7 xl8 i11 t71 K h1))) (
 K (.exit 0) (X0 many0 data1 choices2 choices2n choices2c d7 xl8) h)) : L1 many0 data1 choices2 choices2n choices2c d7 xl8 i11 K h := by unfold L1; exact Lp.of_txt (an 1012) 2439 (by kernel_rfl) H
theorem L1_X0 {Q : VP} {many0 : Int} {data1 : ByteArray} {choices2 : OA} {choices2n choices2c : Nat} {d7 xl8 : OA} {h : Heap} (H :
 SpecH PP F_wal_Log_Cut [(.pointer xl8), (.int .i64 many0)] h (fun v h1 => ∃ (t75 : Int), v = (.int .i64 t75) ∧
 SpecH PP F_wal_Log_Sync [(.pointer xl8)] h1 (fun v_1 h2 => ∃ (t77 : Int), v_1 = (.int .i64 t77) ∧
 SpecH PP F_disk_Disk_Names [(.pointer d7)] h2 (fun v_2 h3 => ∃ (t79 : OA) (t79n t79c : Nat), v_2 = (.slice t79 t79n t79c) ∧
 SpecH PP F_disk_Disk_Used [(.pointer d7)] h3 (fun v_3 h4 => ∃ (t82 : Int), v_3 = (.int .i64 t82) ∧
 SpecH PP F_disk_Disk_Crash [(.pointer d7), (.slice choices2 choices2n choices2c)] h4 (fun v_4 h5 => ∃ (t85 : Int), v_4 = (.int .i64 t85) ∧
 SpecH PP F_wal_Open [(.pointer d7)] h5 (fun v_5 h6 => ∃ (t88 t88_1 : OA) (t88_1n t88_1c : Nat) (t88_2 : Int), v_5 = (.tuple #[(.pointer t88), (.slice t88_1 t88_1n t88_1c), (.int .i64 t88_2)]) ∧
 let t93 : Bool := (Option.isNone t88)
 br t93 (
 J4 many0 data1 (t79n : Int) t82 t88 t88_1 t88_1n t88_1c true Q h6) (
 let t96 : Bool := (t75 != 0)
 br t96 (
 J4 many0 data1 (t79n : Int) t82 t88 t88_1 t88_1n t88_1c true Q h6) (
 let t100 : Bool := (t77 != 0)
 br t100 (
 J4 many0 data1 (t79n : Int) t82 t88 t88_1 t88_1n t88_1c true Q h6) (
 let t104 : Bool := (t88_2 != 0)
 J4 many0 data1 (t79n : Int) t82 t88 t88_1 t88_1n t88_1c t104 Q h6)))))))))) : (K3 Q) (.exit 0) (X0 many0 data1 choices2 choices2n choices2c d7 xl8) h := of_eq_txt (by kernel_rfl) H
theorem J3_of {many0 : Int} {data1 : ByteArray} {choices2 : OA} {choices2n choices2c : Nat} {d7 xl8 : OA} {i11 : Int} {t72 : Bool} {K : EP} {h : Heap} (H :
 br t72 (
 K .ret (Xret false) h) (
 let t58 : Int := IntKind.i64.wrap (i11 + 1)
 L1 many0 data1 choices2 choices2n choices2c d7 xl8 t58 K h)) : J3 many0 data1 choices2 choices2n choices2c d7 xl8 i11 t72 K h := by unfold J3; exact Jn.of_txt (an 32403) (by kernel_rfl) H
theorem J4_of {many0 : Int} {data1 : ByteArray} {files16 used17 : Int} {x18 r19 : OA} {r19n r19c : Nat} {t105 : Bool} {Q : VP} {h : Heap} (H :
 br t105 (
 Q (.bool false) h) (
 L2 many0 data1 files16 used17 x18 r19 r19n r19c 0 (K7 Q) h)) : J4 many0 data1 files16 used17 x18 r19 r19n r19c t105 Q h := by unfold J4; exact Jn.of_txt (an 32765) (by kernel_rfl) H
theorem L1_Xret {Q : VP} {t6 : Bool} {h : Heap} (H :
 Q (.bool t6) h) : (K3 Q) .ret (Xret t6) h := of_eq_txt (by kernel_rfl) H
theorem L2_of {many0 : Int} {data1 : ByteArray} {files16 used17 : Int} {x18 r19 : OA} {r19n r19c : Nat} {xn21 : Int} {K : EP} {h : Heap} (H :
 let t109 : Bool := decide (xn21 < (r19n : Int))
 br t109 (
 hwp PP (Instr.indexAt T_sl_api_Record (.slice r19 r19n r19c) (.int .i64 xn21)) (fun v h1 => ∃ (t114 : Addr), v = (.pointer (some t114)) ∧
 ∃ (t116 : ByteArray), cellH h1 (Addr.add t114 1) = some (.string t116) ∧
 let t118 : Bool := (!decide (t116 = data1))
 br t118 (
 J5 many0 data1 files16 used17 x18 r19 r19n r19c xn21 true K h1) (
 hwp PP (Instr.indexAt T_sl_api_Record (.slice r19 r19n r19c) (.int .i64 xn21)) (fun v_1 h2 => ∃ (t122 : Addr), v_1 = (.pointer (some t122)) ∧
 ∃ (t124 : Int), cellH h2 t122 = some (.int .i64 t124) ∧
 let t125 : Bool := decide (t124 < 1)
 br t125 (
 J5 many0 data1 files16 used17 x18 r19 r19n r19c xn21 true K h2) (
 hwp PP (Instr.indexAt T_sl_api_Record (.slice r19 r19n r19c) (.int .i64 xn21)) (fun v_2 h3 => ∃ (t130 : Addr), v_2 = (.pointer (some t130)) ∧
 ∃ (t132 : Int), cellH h3 t130 = some (.int .i64 t132) ∧
 let t134 : Bool := decide (t132 > many0)
 J5 many0 data1 files16 used17 x18 r19 r19n r19c xn21 t134 K h3) h2)) h1)) h) (
 K (.exit 2) (X2 many0 data1 files16 used17 x18) h)) : L2 many0 data1 files16 used17 x18 r19 r19n r19c xn21 K h := by unfold L2; exact Lp.of_txt (an 262132) 3080195 (by kernel_rfl) H
theorem L2_Xret {Q : VP} {t6 : Bool} {h : Heap} (H :
 Q (.bool t6) h) : (K7 Q) .ret (Xret t6) h := of_eq_txt (by kernel_rfl) H
theorem J5_of {many0 : Int} {data1 : ByteArray} {files16 used17 : Int} {x18 r19 : OA} {r19n r19c : Nat} {xn21 : Int} {t135 : Bool} {K : EP} {h : Heap} (H :
 br t135 (
 K .ret (Xret false) h) (
 let t111 : Int := IntKind.i64.wrap (xn21 + 1)
 L2 many0 data1 files16 used17 x18 r19 r19n r19c t111 K h)) : J5 many0 data1 files16 used17 x18 r19 r19n r19c xn21 t135 K h := by unfold J5; exact Jn.of_txt (an 4194121) (by kernel_rfl) H
theorem L2_X2 {Q : VP} {many0 : Int} {data1 : ByteArray} {files16 used17 : Int} {x18 : OA} {h : Heap} (H :
 SpecH PP F_wal_Log_Append [(.pointer x18), (.string (⟨#[109, 111, 114, 101]⟩ : ByteArray))] h (fun v h1 => ∃ (t138 t138_1 : Int), v = (.tuple #[(.int .i64 t138), (.int .i64 t138_1)]) ∧
 SpecH PP F_law10_awake [] h1 (fun v_1 h2 => ∃ (t141 : Bool), v_1 = (.bool t141) ∧
 br t141 (
 let t144 : Bool := decide (files16 ≤ 2)
 br t144 (
 let t149 : Int := (ByteArray.size data1 : Int)
 let t150 : Int := IntKind.i64.wrap (16384 + t149)
 let t151 : Int := IntKind.i64.wrap (t150 + 100)
 let t152 : Int := IntKind.i64.wrap (2 * t151)
 let t153 : Bool := decide (used17 ≤ t152)
 br t153 (
 let t157 : Bool := (t138_1 == 0)
 br t157 (
 let t162 : Int := IntKind.i64.wrap (many0 + 1)
 let t163 : Bool := (t138 == t162)
 Q (.bool t163) h2) (
 Q (.bool false) h2)) (
 Q (.bool false) h2)) (
 Q (.bool false) h2)) (
 Q (.bool false) h2)))) : (K7 Q) (.exit 2) (X2 many0 data1 files16 used17 x18) h := of_eq_txt (by kernel_rfl) H
theorem door {many0 : Int} {data1 : ByteArray} {choices2 : OA} {choices2n choices2c : Nat} {Q : VP} {h : Heap} (H :
 let t25 : Bool := decide (many0 < 0)
 br t25 (
 J1 many0 data1 choices2 choices2n choices2c true Q h) (
 let t28 : Bool := decide (many0 > 200)
 br t28 (
 J1 many0 data1 choices2 choices2n choices2c true Q h) (
 let t32 : Int := (ByteArray.size data1 : Int)
 let t33 : Bool := decide (t32 > 4000)
 br t33 (
 J1 many0 data1 choices2 choices2n choices2c true Q h) (
 let t38 : Bool := decide ((choices2n : Int) > 300)
 J1 many0 data1 choices2 choices2n choices2c t38 Q h)))) : SpecH PP F_law10_WalCuts [(.int .i64 many0), (.string data1), (.slice choices2 choices2n choices2c)] h Q :=
   spec_of_txt (ann := ann) Tryz.func3 rfl rfl (by kernel_rfl) H
end law10_WalCuts
/-! ### haversack/haversacklaw10.WalNil: function 4 -/
namespace law10_WalNil
def ann : Ann := (.seq 3 (.region [(List.range 1, 3)]) (.seq 3 (.seq 8195 (.region [(List.range 3, 8195)]) (.cond (.seq 16 (.region [(List.range 2, 16)]) (.exit 16)) .leaf)) (.seq 227 (.region [(List.range 8, 227)]) (.seq 483 (.region [(List.range 1, 483)]) (.seq 2018 (.region [(List.range 8, 2018)]) (.seq 16 (.region [(List.range 49, 16)]) (.exit 16)))))))
noncomputable abbrev cd (n : Nat) : Code := sub (bodyOf Tryz.f4) (pth n)
abbrev an (n : Nat) : Ann := subA ann (pth n)
theorem door {data0 : ByteArray} {xn1 : Int} {Q : VP} {h : Heap} (H :
 let t12 : Int := (ByteArray.size data0 : Int)
 let t13 : Bool := decide (t12 > 262144)
 br t13 (
 SpecH PP F_law10_awake [] h (fun v h1 => ∃ (t14 : Bool), v = (.bool t14) ∧
 Q (.bool t14) h1)) (
 SpecH PP F_wal_Open [(.pointer none)] h (fun v_1 h2 => ∃ (t16 t16_1 : OA) (t16_1n t16_1c : Nat) (t16_2 : Int), v_1 = (.tuple #[(.pointer t16), (.slice t16_1 t16_1n t16_1c), (.int .i64 t16_2)]) ∧
 SpecH PP F_wal_Log_Append [(.pointer none), (.string data0)] h2 (fun v_2 h3 => ∃ (t23 t23_1 : Int), v_2 = (.tuple #[(.int .i64 t23), (.int .i64 t23_1)]) ∧
 SpecH PP F_law10_awake [] h3 (fun v_3 h4 => ∃ (t26 : Bool), v_3 = (.bool t26) ∧
 br t26 (
 let t29 : Bool := (Option.isNone t16)
 br t29 (
 let t34 : Bool := ((t16_1n : Int) == 0)
 br t34 (
 let t38 : Bool := (t16_2 == 3)
 br t38 (
 let t42 : Bool := (t23 == 0)
 br t42 (
 let t46 : Bool := (t23_1 == 3)
 br t46 (
 SpecH PP F_wal_Log_Sync [(.pointer none)] h4 (fun v_4 h5 => ∃ (t50 : Int), v_4 = (.int .i64 t50) ∧
 let t51 : Bool := (t50 == 3)
 br t51 (
 SpecH PP F_wal_Log_Cut [(.pointer none), (.int .i64 xn1)] h5 (fun v_5 h6 => ∃ (t56 : Int), v_5 = (.int .i64 t56) ∧
 let t57 : Bool := (t56 == 3)
 br t57 (
 SpecH PP F_wal_Log_Synced [(.pointer none)] h6 (fun v_6 h7 => ∃ (t61 : Int), v_6 = (.int .i64 t61) ∧
 let t62 : Bool := (t61 == 0)
 br t62 (
 SpecH PP F_wal_Log_Last [(.pointer none)] h7 (fun v_7 h8 => ∃ (t66 : Int), v_7 = (.int .i64 t66) ∧
 let t67 : Bool := (t66 == 0)
 br t67 (
 SpecH PP F_wal_Log_First [(.pointer none)] h8 (fun v_8 h9 => ∃ (t71 : Int), v_8 = (.int .i64 t71) ∧
 let t72 : Bool := (t71 == 0)
 Q (.bool t72) h9)) (
 Q (.bool false) h8))) (
 Q (.bool false) h7))) (
 Q (.bool false) h6))) (
 Q (.bool false) h5))) (
 Q (.bool false) h4)) (
 Q (.bool false) h4)) (
 Q (.bool false) h4)) (
 Q (.bool false) h4)) (
 Q (.bool false) h4)) (
 Q (.bool false) h4)))))) : SpecH PP F_law10_WalNil [(.string data0), (.int .i64 xn1)] h Q :=
   spec_of_txt (ann := ann) Tryz.func4 rfl rfl (by kernel_rfl) H
end law10_WalNil
/-! ### haversack/haversacklaw10.awake: function 5 -/
namespace law10_awake
def ann : Ann := (.seq 0 (.region [(List.range 1, 0)]) (.seq 2 (.region [(List.range 2, 2)]) (.seq 30 (.region [(List.range 9, 30)]) (.seq 6 (.seq 8589934598 (.region [(List.range 11, 8589934598)]) (.join (.cond (.seq 1 (.region [(List.range 1, 1)]) (.exit 1)) .leaf))) (.seq 102 (.region [(List.range 7, 102)]) (.seq 486 (.region [(List.range 7, 486)]) (.seq 998 (.region [(List.range 3, 998)]) (.seq 2022 (.region [(List.range 3, 2022)]) (.seq 6118 (.region [(List.range 9, 6118)]) (.seq 6114 (.region [(List.range 2, 6114)]) (.seq 6114 (.region [(List.range 2, 6114)]) (.seq 63456 (.region [(List.range 9, 63456)]) (.seq 30688 (.seq 1208925819614629174736864 (.region [(List.range 16, 1208925819614629174736864)]) (.join (.cond (.seq 1 (.region [(List.range 1, 1)]) (.exit 1)) .leaf))) (.seq 1 (.region [(List.range 53, 1)]) (.exit 1)))))))))))))))
noncomputable abbrev cd (n : Nat) : Code := sub (bodyOf Tryz.f5) (pth n)
abbrev an (n : Nat) : Ann := subA ann (pth n)
@[irreducible] def K1 (Q : VP) : EP := seqK (fun fr h => ev PP true none (cd 31) (an 31) (fr.mask 6) (bodyK PP Tryz.f5 Q) h) (bodyK PP Tryz.f5 Q)
@[irreducible] def J1 (d1 xl2 : OA) (t33 : Bool) (Q : VP) (h : Heap) : Prop := Jn PP true (cd 61) (mkFr 0 133 [(1, (.pointer d1)), (2, (.pointer xl2)), (33, (.bool t33))]) (K1 Q) h
@[irreducible] def K2 (Q : VP) : EP := seqK (fun fr h => ev PP true none (cd 16383) (an 16383) (fr.mask 30688) (bodyK PP Tryz.f5 Q) h) (bodyK PP Tryz.f5 Q)
@[irreducible] def J2 (a5 f6 b7 g8 xh9 xn10 i12 : Int) (m13 s14 : OA) (s14n s14c : Nat) (t80 : Bool) (Q : VP) (h : Heap) : Prop := Jn PP true (cd 32765) (mkFr 0 133 [(5, (.int .i64 a5)), (6, (.int .i64 f6)), (7, (.int .i64 b7)), (8, (.int .i64 g8)), (9, (.int .i64 xh9)), (10, (.int .i64 xn10)), (12, (.int .i64 i12)), (13, (.pointer m13)), (14, (.slice s14 s14n s14c)), (80, (.bool t80))]) (K2 Q) h
theorem J1_of {d1 xl2 : OA} {t33 : Bool} {Q : VP} {h : Heap} (H :
 br t33 (
 Q (.bool false) h) (
 SpecH PP F_wal_Log_Append [(.pointer xl2), (.string (⟨#[97]⟩ : ByteArray))] h (fun v h1 => ∃ (t36 t36_1 : Int), v = (.tuple #[(.int .i64 t36), (.int .i64 t36_1)]) ∧
 SpecH PP F_wal_Log_Append [(.pointer xl2), (.string (⟨#[98]⟩ : ByteArray))] h1 (fun v_1 h2 => ∃ (t41 t41_1 : Int), v_1 = (.tuple #[(.int .i64 t41), (.int .i64 t41_1)]) ∧
 SpecH PP F_wal_Log_Sync [(.pointer xl2)] h2 (fun v_2 h3 => ∃ (t45 : Int), v_2 = (.int .i64 t45) ∧
 SpecH PP F_wal_Log_Synced [(.pointer xl2)] h3 (fun v_3 h4 => ∃ (t47 : Int), v_3 = (.int .i64 t47) ∧
 hwp PP (Instr.makeSlice T_sl_uint8 (.int .i64 65537) (.int .i64 65537)) (fun v_4 h5 => ∃ (t50 : OA) (t50n t50c : Nat), v_4 = (.slice t50 t50n t50c) ∧
 hwp PP (Go.convert T_sl_uint8 T_string (.slice t50 t50n t50c)) (fun v_5 h6 => ∃ (t51 : ByteArray), v_5 = (.string t51) ∧
 SpecH PP F_wal_Log_Append [(.pointer xl2), (.string t51)] h6 (fun v_6 h7 => ∃ (t52 t52_1 : Int), v_6 = (.tuple #[(.int .i64 t52), (.int .i64 t52_1)]) ∧
 SpecH PP F_wal_Log_Append [(.pointer xl2), (.string (⟨#[99]⟩ : ByteArray))] h7 (fun v_7 h8 => ∃ (t56 t56_1 : Int), v_7 = (.tuple #[(.int .i64 t56), (.int .i64 t56_1)]) ∧
 SpecH PP F_disk_Disk_Crash [(.pointer d1), (.slice none 0 0)] h8 (fun v_8 h9 => ∃ (t58 : Int), v_8 = (.int .i64 t58) ∧
 SpecH PP F_wal_Open [(.pointer d1)] h9 (fun v_9 h10 => ∃ (t61 t61_1 : OA) (t61_1n t61_1c : Nat) (t61_2 : Int), v_9 = (.tuple #[(.pointer t61), (.slice t61_1 t61_1n t61_1c), (.int .i64 t61_2)]) ∧
 let t66 : Bool := (Option.isNone t61)
 br t66 (
 J2 t36 t36_1 t41 t41_1 t45 t47 t52_1 t61 t61_1 t61_1n t61_1c true Q h10) (
 let t69 : Bool := (t61_2 != 0)
 br t69 (
 J2 t36 t36_1 t41 t41_1 t45 t47 t52_1 t61 t61_1 t61_1n t61_1c true Q h10) (
 let t74 : Bool := decide ((t61_1n : Int) < 2)
 br t74 (
 J2 t36 t36_1 t41 t41_1 t45 t47 t52_1 t61 t61_1 t61_1n t61_1c true Q h10) (
 let t79 : Bool := decide ((t61_1n : Int) > 3)
 J2 t36 t36_1 t41 t41_1 t45 t47 t52_1 t61 t61_1 t61_1n t61_1c t79 Q h10)))))))) h5) h4)))))) : J1 d1 xl2 t33 Q h := by unfold J1; exact Jn.of_txt (an 61) (by kernel_rfl) H
theorem J2_of {a5 f6 b7 g8 xh9 xn10 i12 : Int} {m13 s14 : OA} {s14n s14c : Nat} {t80 : Bool} {Q : VP} {h : Heap} (H :
 br t80 (
 Q (.bool false) h) (
 let t82 : Bool := (f6 == 0)
 br t82 (
 let t85 : Bool := (g8 == 0)
 br t85 (
 let t89 : Bool := (a5 == 1)
 br t89 (
 let t93 : Bool := (b7 == 2)
 br t93 (
 let t97 : Bool := (xh9 == 0)
 br t97 (
 let t101 : Bool := (xn10 == 2)
 br t101 (
 let t105 : Bool := (i12 == 2)
 br t105 (
 hwp PP (Instr.indexAt T_sl_api_Record (.slice s14 s14n s14c) (.int .i64 0)) (fun v h1 => ∃ (t109 : Addr), v = (.pointer (some t109)) ∧
 ∃ (t110f0 : Int) (t110f1 : ByteArray), rdCells h1 t109 0 [(.int .i64 t110f0), (.string t110f1)] ∧
 let t112 : Bool := ((t110f0 == 1) && (decide (t110f1 = (⟨#[97]⟩ : ByteArray)) && true))
 br t112 (
 hwp PP (Instr.indexAt T_sl_api_Record (.slice s14 s14n s14c) (.int .i64 1)) (fun v_1 h2 => ∃ (t116 : Addr), v_1 = (.pointer (some t116)) ∧
 ∃ (t117f0 : Int) (t117f1 : ByteArray), rdCells h2 t116 0 [(.int .i64 t117f0), (.string t117f1)] ∧
 let t119 : Bool := ((t117f0 == 2) && (decide (t117f1 = (⟨#[98]⟩ : ByteArray)) && true))
 br t119 (
 SpecH PP F_wal_Log_Last [(.pointer m13)] h2 (fun v_2 h3 => ∃ (t123 : Int), v_2 = (.int .i64 t123) ∧
 let t126 : Bool := (t123 == (s14n : Int))
 br t126 (
 SpecH PP F_wal_Log_Cut [(.pointer m13), (.int .i64 9)] h3 (fun v_3 h4 => ∃ (t130 : Int), v_3 = (.int .i64 t130) ∧
 let t131 : Bool := (t130 == 101)
 Q (.bool t131) h4)) (
 Q (.bool false) h3))) (
 Q (.bool false) h2)) h1) (
 Q (.bool false) h1)) h) (
 Q (.bool false) h)) (
 Q (.bool false) h)) (
 Q (.bool false) h)) (
 Q (.bool false) h)) (
 Q (.bool false) h)) (
 Q (.bool false) h)) (
 Q (.bool false) h))) : J2 a5 f6 b7 g8 xh9 xn10 i12 m13 s14 s14n s14c t80 Q h := by unfold J2; exact Jn.of_txt (an 32765) (by kernel_rfl) H
theorem door  {Q : VP} {h : Heap} (H :
 SpecH PP F_law10_room [] h (fun v h1 => ∃ (t16 : OA), v = (.pointer t16) ∧
 SpecH PP F_wal_Open [(.pointer t16)] h1 (fun v_1 h2 => ∃ (t19 t19_1 : OA) (t19_1n t19_1c : Nat) (t19_2 : Int), v_1 = (.tuple #[(.pointer t19), (.slice t19_1 t19_1n t19_1c), (.int .i64 t19_2)]) ∧
 let t24 : Bool := (Option.isNone t19)
 br t24 (
 J1 t16 t19 true Q h2) (
 let t27 : Bool := (t19_2 != 0)
 br t27 (
 J1 t16 t19 true Q h2) (
 let t32 : Bool := decide ((t19_1n : Int) > 0)
 J1 t16 t19 t32 Q h2))))) : SpecH PP F_law10_awake [] h Q :=
   spec_of_txt (ann := ann) Tryz.func5 rfl rfl (by kernel_rfl) H
end law10_awake
/-! ### haversack/haversacklaw10.room: function 6 -/
namespace law10_room
def ann : Ann := (.seq 0 (.region [(List.range 1, 0)]) (.seq 2 (.region [(List.range 6, 2)]) (.seq 1 (.region [(List.range 2, 1)]) (.exit 1))))
noncomputable abbrev cd (n : Nat) : Code := sub (bodyOf Tryz.f6) (pth n)
abbrev an (n : Nat) : Ann := subA ann (pth n)
theorem door  {Q : VP} {h : Heap} (H :
 SpecH PP F_disk_New [(.int .i64 4194304)] h (fun v h1 => ∃ (t4 : OA) (t4_1 : Int), v = (.tuple #[(.pointer t4), (.int .i64 t4_1)]) ∧
 Q (.pointer t4) h1)) : SpecH PP F_law10_room [] h Q :=
   spec_of_txt (ann := ann) Tryz.func6 rfl rfl (by kernel_rfl) H
end law10_room
/-! ### haversack/wal.Open: function 7 -/
namespace wal_Open
def ann : Ann := (.seq 1 (.region [(List.range 3, 1)]) (.seq 1 (.block (.seq 524289 (.region [(List.range 3, 524289)]) (.cond (.seq 28 (.region [(List.range 3, 28)]) (.exit 28)) (.seq 4194305 (.region [(List.range 3, 4194305)]) (.cond (.seq 28 (.region [(List.range 3, 28)]) (.exit 28)) .leaf))))) (.seq 33 (.region [(List.range 4, 33)]) (.seq 225 (.region [(List.range 2, 225)]) (.seq 481 (.region [(List.range 1, 481)]) (.seq 993 (.region [(List.range 1, 993)]) (.seq 992 (.seq 3758097377 (.region [(List.range 4, 3758097377)]) (.block (.loop 3758097377 (.seq 8053064673 (.region [(List.range 1, 8053064673)]) (.seq 3758097377 (.cond .leaf (.exit 992)) (.seq 3758097377 (.block (.seq 3758099425 (.region [(List.range 3, 3758099425)]) (.seq 3758099425 (.seq 141197052897 (.region [(List.range 3, 141197052897)]) (.cond (.exit 3758097377) .leaf)) (.seq 3758099425 (.seq 3758111713 (.region [(List.range 8, 3758111713)]) (.seq 35188130192353 (.region [(List.range 2, 35188130192353)]) (.cond (.region [(List.range 10, 3758099425)]) .leaf))) (.join (.seq 3758148577 (.region [(List.range 8, 3758148577)]) (.seq 3758115809 (.seq 4611686022185536481 (.region [(List.range 2, 4611686022185536481)]) (.cond (.seq 28 (.region [(List.range 4, 28)]) (.exit 28)) .leaf)) (.seq 3758312417 (.region [(List.range 7, 3758312417)]) (.seq 3758180705 (.seq 38685626227668137348778977 (.region [(List.range 17, 38685626227668137348778977)]) (.join (.cond (.seq 3758097377 (.region [(List.range 5, 3758097377)]) (.exit 3758097377)) .leaf))) (.seq 3758181345 (.region [(List.range 8, 3758181345)]) (.seq 3758181345 (.region [(List.range 4, 3758181345)]) (.region [(List.range 20, 3758097377)])))))))))))) (.join (.region [(List.range 2, 3758097377)])))))))) (.seq 96 (.seq 262240 (.region [(List.range 6, 262240)]) (.seq 42535295865117307932921825928971288672 (.region [(List.range 2, 42535295865117307932921825928971288672)]) (.cond (.seq 28 (.region [(List.range 4, 28)]) (.exit 28)) .leaf))) (.seq 96 (.region [(List.range 6, 96)]) (.seq 28 (.region [(List.range 5, 28)]) (.exit 28)))))))))))
noncomputable abbrev cd (n : Nat) : Code := sub (bodyOf Tryz.f7) (pth n)
abbrev an (n : Nat) : Ann := subA ann (pth n)
@[irreducible] def X1 (xl5 : Addr) (all6 : OA) (all6n all6c : Nat) (last7 : OA) (last7n last7c : Nat) (stale8 : OA) (stale8n stale8c : Nat) (well9 : Bool) : Fr := (mkFr 0 134 [(5, (.pointer (some xl5))), (6, (.slice all6 all6n all6c)), (7, (.slice last7 last7n last7c)), (8, (.slice stale8 stale8n stale8c)), (9, (.bool well9))])
@[irreducible] def Xret (t2 t3 : OA) (t3n t3c : Nat) (t4 : Int) : Fr := (mkFr 0 134 [(2, (.pointer t2)), (3, (.slice t3 t3n t3c)), (4, (.int .i64 t4))])
@[irreducible] def L1 (d0 : OA) (xl5 : Addr) (all6 : OA) (all6n all6c : Nat) (last7 : OA) (last7n last7c : Nat) (stale8 : OA) (stale8n stale8c : Nat) (well9 : Bool) (t29 : OA) (t29n t29c : Nat) (t30 t31 : Int) (K : EP) (h : Heap) : Prop := Lp PP true (cd 2036) (mkFr 0 134 [(0, (.pointer d0)), (5, (.pointer (some xl5))), (6, (.slice all6 all6n all6c)), (7, (.slice last7 last7n last7c)), (8, (.slice stale8 stale8n stale8c)), (9, (.bool well9)), (29, (.slice t29 t29n t29c)), (30, (.int .i64 t30)), (31, (.int .i64 t31))]) K h
@[irreducible] def B1 (K : EP) : EP := seqK (fun fr h => Lp PP true (cd 2036) (fr.mask 3758097377) K h) K
@[irreducible] def J1 (d0 : OA) (xl5 : Addr) (all6 : OA) (all6n all6c : Nat) (last7 : OA) (last7n last7c : Nat) (stale8 : OA) (stale8n stale8c : Nat) (well9 : Bool) (t29 : OA) (t29n t29c : Nat) (t30 t31 : Int) (K : EP) (h : Heap) : Prop := Jn PP true (cd 16295) (mkFr 0 134 [(0, (.pointer d0)), (5, (.pointer (some xl5))), (6, (.slice all6 all6n all6c)), (7, (.slice last7 last7n last7c)), (8, (.slice stale8 stale8n stale8c)), (9, (.bool well9)), (29, (.slice t29 t29n t29c)), (30, (.int .i64 t30)), (31, (.int .i64 t31))]) (B1 K) h
@[irreducible] def K4 (K : EP) : EP := seqK (fun fr h => Jn PP true (cd 16295) (fr.mask 3758097377) (B1 K) h) (B1 K)
@[irreducible] def K2 (K : EP) : EP := blockK 2 (K4 K)
@[irreducible] def J2 (d0 : OA) (xl5 : Addr) (all6 : OA) (all6n all6c : Nat) (last7 : OA) (last7n last7c : Nat) (stale8 : OA) (stale8n stale8c : Nat) (well9 : Bool) (name11 : ByteArray) (t29 : OA) (t29n t29c : Nat) (t30 t31 : Int) (K : EP) (h : Heap) : Prop := Jn PP true (cd 260711) (mkFr 0 134 [(0, (.pointer d0)), (5, (.pointer (some xl5))), (6, (.slice all6 all6n all6c)), (7, (.slice last7 last7n last7c)), (8, (.slice stale8 stale8n stale8c)), (9, (.bool well9)), (11, (.string name11)), (29, (.slice t29 t29n t29c)), (30, (.int .i64 t30)), (31, (.int .i64 t31))]) (K2 K) h
@[irreducible] def K3 (Q : VP) : EP := seqK (fun fr h => ev PP true none (cd 255) (an 255) (fr.mask 992) (bodyK PP Tryz.f7 Q) h) (bodyK PP Tryz.f7 Q)
@[irreducible] def K1 (Q : VP) : EP := blockK 1 (K3 Q)
@[irreducible] def K5 (K : EP) : EP := seqK (fun fr h => ev PP true none (cd 4171391) (an 4171391) (fr.mask 3758180705) (K2 K) h) (K2 K)
@[irreducible] def J3 (d0 : OA) (xl5 : Addr) (all6 : OA) (all6n all6c : Nat) (last7 : OA) (last7n last7c : Nat) (stale8 : OA) (stale8n stale8c : Nat) (well9 : Bool) (name11 : ByteArray) (b14 : OA) (b14n b14c : Nat) (first16 : Int) (t29 : OA) (t29n t29c : Nat) (t30 t31 : Int) (t85 : Bool) (K : EP) (h : Heap) : Prop := Jn PP true (cd 8342781) (mkFr 0 134 [(0, (.pointer d0)), (5, (.pointer (some xl5))), (6, (.slice all6 all6n all6c)), (7, (.slice last7 last7n last7c)), (8, (.slice stale8 stale8n stale8c)), (9, (.bool well9)), (11, (.string name11)), (14, (.slice b14 b14n b14c)), (16, (.int .i64 first16)), (29, (.slice t29 t29n t29c)), (30, (.int .i64 t30)), (31, (.int .i64 t31)), (85, (.bool t85))]) (K5 K) h
theorem L1_of {d0 : OA} {xl5 : Addr} {all6 : OA} {all6n all6c : Nat} {last7 : OA} {last7n last7c : Nat} {stale8 : OA} {stale8n stale8c : Nat} {well9 : Bool} {t29 : OA} {t29n t29c : Nat} {t30 t31 : Int} {K : EP} {h : Heap} (H :
 let t32 : Bool := decide (t31 < t30)
 br t32 (
 hwp PP (Instr.indexAt T_sl_string (.slice t29 t29n t29c) (.int .i64 t31)) (fun v h1 => ∃ (t33 : Addr), v = (.pointer (some t33)) ∧
 ∃ (t34 : ByteArray), cellH h1 t33 = some (.string t34) ∧
 SpecH PP F_strings_HasPrefix [(.string t34), (.string (⟨#[108, 111, 103, 46]⟩ : ByteArray))] h1 (fun v_1 h2 => ∃ (t36 : Bool), v_1 = (.bool t36) ∧
 let t37 : Bool := (!t36)
 br t37 (
 J1 d0 xl5 all6 all6n all6c last7 last7n last7c stale8 stale8n stale8c well9 t29 t29n t29c t30 t31 K h2) (
 hwp PP (Instr.sliceAt T_string (.string t34) (some (.int .i64 4)) none none) (fun v_2 h3 => ∃ (t40 : ByteArray), v_2 = (.string t40) ∧
 SpecH PP F_strconv_Atoi [(.string t40)] h3 (fun v_3 h4 => ∃ (t41 : Int) (t41_1 : Value), v_3 = (.tuple #[(.int .i64 t41), t41_1]) ∧
 hwp PP (do eqGuard .eql T_error (.tmp 44) (.const .nilIface) t41_1 .nilIface; Go.binOp .eql T_error t41_1 .nilIface) (fun v_4 h5 => ∃ (t45 : Bool), v_4 = (.bool t45) ∧
 br t45 (
 ∃ (t50 : Int), cellH h5 (Addr.add xl5 4) = some (.int .i64 t50) ∧
 let t52 : Int := (if t41 > t50 then t41 else t50)
 wr (Addr.add xl5 4) (.int .i64 t52) (fun h6 =>
 J2 d0 xl5 all6 all6n all6c last7 last7n last7c stale8 stale8n stale8c well9 t34 t29 t29n t29c t30 t31 K h6) h5) (
 J2 d0 xl5 all6 all6n all6c last7 last7n last7c stale8 stale8n stale8c well9 t34 t29 t29n t29c t30 t31 K h5)) h4)) h2))) h) (
 K (.exit 1) (X1 xl5 all6 all6n all6c last7 last7n last7c stale8 stale8n stale8c well9) h)) : L1 d0 xl5 all6 all6n all6c last7 last7n last7c stale8 stale8n stale8c well9 t29 t29n t29c t30 t31 K h := by unfold L1; exact Lp.of_txt (an 2036) 3758097377 (by kernel_rfl) H
theorem L1_X1 {Q : VP} {xl5 : Addr} {all6 : OA} {all6n all6c : Nat} {last7 : OA} {last7n last7c : Nat} {stale8 : OA} {stale8n stale8c : Nat} {well9 : Bool} {h : Heap} (H :
 SpecH PP F_wal_Log_settle [(.pointer (some xl5)), (.slice stale8 stale8n stale8c), (.slice last7 last7n last7c), (.bool well9)] h (fun v h1 => ∃ (t123 : Int), v = (.int .i64 t123) ∧
 let t125 : Bool := (t123 != 0)
 br t125 (
 Q (.tuple #[(.pointer none), (.slice none 0 0), (.int .i64 t123)]) h1) (
 SpecH PP F_wal_Log_Last [(.pointer (some xl5))] h1 (fun v_1 h2 => ∃ (t129 : Int), v_1 = (.int .i64 t129) ∧
 wr (Addr.add xl5 2) (.int .i64 t129) (fun h3 =>
 Q (.tuple #[(.pointer (some xl5)), (.slice all6 all6n all6c), (.int .i64 0)]) h3) h2)))) : (K1 Q) (.exit 1) (X1 xl5 all6 all6n all6c last7 last7n last7c stale8 stale8n stale8c well9) h := of_eq_txt (by kernel_rfl) H
theorem J1_of {d0 : OA} {xl5 : Addr} {all6 : OA} {all6n all6c : Nat} {last7 : OA} {last7n last7c : Nat} {stale8 : OA} {stale8n stale8c : Nat} {well9 : Bool} {t29 : OA} {t29n t29c : Nat} {t30 t31 : Int} {K : EP} {h : Heap} (H :
 let t118 : Int := IntKind.i64.wrap (t31 + 1)
 L1 d0 xl5 all6 all6n all6c last7 last7n last7c stale8 stale8n stale8c well9 t29 t29n t29c t30 t118 K h) : J1 d0 xl5 all6 all6n all6c last7 last7n last7c stale8 stale8n stale8c well9 t29 t29n t29c t30 t31 K h := by unfold J1; exact Jn.of_txt (an 16295) (by kernel_rfl) H
theorem J2_of {d0 : OA} {xl5 : Addr} {all6 : OA} {all6n all6c : Nat} {last7 : OA} {last7n last7c : Nat} {stale8 : OA} {stale8n stale8c : Nat} {well9 : Bool} {name11 : ByteArray} {t29 : OA} {t29n t29c : Nat} {t30 t31 : Int} {K : EP} {h : Heap} (H :
 SpecH PP F_disk_Disk_Read [(.pointer d0), (.string name11)] h (fun v h1 => ∃ (t58 : OA) (t58n t58c : Nat) (t58_1 : Int), v = (.tuple #[(.slice t58 t58n t58c), (.int .i64 t58_1)]) ∧
 let t62 : Bool := (t58_1 != 0)
 br t62 (
 K .ret (Xret none none 0 0 t58_1) h1) (
 SpecH PP F_wal_begins [(.slice t58 t58n t58c)] h1 (fun v_1 h2 => ∃ (t66 : Int) (t66_1 : Bool), v_1 = (.tuple #[(.int .i64 t66), (.bool t66_1)]) ∧
 let t70 : Bool := (!t66_1)
 br t70 (
 J3 d0 xl5 all6 all6n all6c last7 last7n last7c stale8 stale8n stale8c well9 name11 t58 t58n t58c t66 t29 t29n t29c t30 t31 true K h2) (
 ∃ (t75 : OA) (t75n t75c : Nat), cellH h2 (Addr.add xl5 1) = some (.slice t75 t75n t75c) ∧
 let t77 : Bool := decide ((t75n : Int) > 0)
 br t77 (
 SpecH PP F_wal_Log_Last [(.pointer (some xl5))] h2 (fun v_2 h3 => ∃ (t81 : Int), v_2 = (.int .i64 t81) ∧
 let t82 : Int := IntKind.i64.wrap (t81 + 1)
 let t83 : Bool := (t66 != t82)
 J3 d0 xl5 all6 all6n all6c last7 last7n last7c stale8 stale8n stale8c well9 name11 t58 t58n t58c t66 t29 t29n t29c t30 t31 t83 K h3)) (
 J3 d0 xl5 all6 all6n all6c last7 last7n last7c stale8 stale8n stale8c well9 name11 t58 t58n t58c t66 t29 t29n t29c t30 t31 false K h2)))))) : J2 d0 xl5 all6 all6n all6c last7 last7n last7c stale8 stale8n stale8c well9 name11 t29 t29n t29c t30 t31 K h := by unfold J2; exact Jn.of_txt (an 260711) (by kernel_rfl) H
theorem L1_Xret {Q : VP} {t2 t3 : OA} {t3n t3c : Nat} {t4 : Int} {h : Heap} (H :
 Q (.tuple #[(.pointer t2), (.slice t3 t3n t3c), (.int .i64 t4)]) h) : (K1 Q) .ret (Xret t2 t3 t3n t3c t4) h := of_eq_txt (by kernel_rfl) H
theorem J3_of {d0 : OA} {xl5 : Addr} {all6 : OA} {all6n all6c : Nat} {last7 : OA} {last7n last7c : Nat} {stale8 : OA} {stale8n stale8c : Nat} {well9 : Bool} {name11 : ByteArray} {b14 : OA} {b14n b14c : Nat} {first16 : Int} {t29 : OA} {t29n t29c : Nat} {t30 t31 : Int} {t85 : Bool} {K : EP} {h : Heap} (H :
 br t85 (
 let h1 : Heap := Array.push h (.cells #[(.string name11)] T_string (0, 0))
 hwp PP (Builtin.append_ #[T_sl_string, T_sl_string] T_sl_string #[(.slice stale8 stale8n stale8c), (.slice (some ⟨Array.size h, 0, none⟩) 1 1)]) (fun v h2 => ∃ (t89 : OA) (t89n t89c : Nat), v = (.slice t89 t89n t89c) ∧
 J1 d0 xl5 all6 all6n all6c last7 last7n last7c t89 t89n t89c well9 t29 t29n t29c t30 t31 K h2) h1) (
 SpecH PP F_wal_records [(.slice b14 b14n b14c), (.int .i64 first16)] h (fun v_1 h3 => ∃ (t93 : OA) (t93n t93c : Nat) (t93_1 : Bool), v_1 = (.tuple #[(.slice t93 t93n t93c), (.bool t93_1)]) ∧
 hwp PP (Builtin.append_ #[T_sl_api_Record, T_sl_api_Record] T_sl_api_Record #[(.slice all6 all6n all6c), (.slice t93 t93n t93c)]) (fun v_2 h4 => ∃ (t98 : OA) (t98n t98c : Nat), v_2 = (.slice t98 t98n t98c) ∧
 ∃ (t103 : OA) (t103n t103c : Nat), cellH h4 (Addr.add xl5 1) = some (.slice t103 t103n t103c) ∧
 let t109 : Int := IntKind.i64.wrap (first16 + (t93n : Int))
 let t113 : Addr := ⟨Array.size h4, 0, none⟩
 let h5 : Heap := Array.push h4 (.cells #[(.string name11), (.int .i64 first16), (.int .i64 t109), (.int .i64 (b14n : Int)), (.bool true)] T_wal_segment (0, 0))
 let h6 : Heap := Array.push h5 (.cells #[(.pointer (some t113))] T_p_wal_segment (0, 0))
 hwp PP (Builtin.append_ #[T_sl_p_wal_segment, T_sl_p_wal_segment] T_sl_p_wal_segment #[(.slice t103 t103n t103c), (.slice (some ⟨Array.size h5, 0, none⟩) 1 1)]) (fun v_3 h7 => ∃ (t115 : OA) (t115n t115c : Nat), v_3 = (.slice t115 t115n t115c) ∧
 wr (Addr.add xl5 1) (.slice t115 t115n t115c) (fun h8 =>
 J1 d0 xl5 t98 t98n t98c t93 t93n t93c stale8 stale8n stale8c t93_1 t29 t29n t29c t30 t31 K h8) h7) h6) h3))) : J3 d0 xl5 all6 all6n all6c last7 last7n last7c stale8 stale8n stale8c well9 name11 b14 b14n b14c first16 t29 t29n t29c t30 t31 t85 K h := by unfold J3; exact Jn.of_txt (an 8342781) (by kernel_rfl) H
theorem door {d0 : OA} {Q : VP} {h : Heap} (H :
 let t21 : Bool := (Option.isNone d0)
 br t21 (
 Q (.tuple #[(.pointer none), (.slice none 0 0), (.int .i64 3)]) h) (
 SpecH PP F_disk_Disk_Down [(.pointer d0)] h (fun v h1 => ∃ (t24 : Bool), v = (.bool t24) ∧
 br t24 (
 Q (.tuple #[(.pointer none), (.slice none 0 0), (.int .i64 94)]) h1) (
 let t27 : Addr := ⟨Array.size h1, 0, none⟩
 let h2 : Heap := Array.push h1 (.cells #[(.pointer d0), (.slice none 0 0), (.int .i64 0), (.bool false), (.int .i64 0)] T_wal_Log (0, 0))
 SpecH PP F_disk_Disk_Names [(.pointer d0)] h2 (fun v_1 h3 => ∃ (t29 : OA) (t29n t29c : Nat), v_1 = (.slice t29 t29n t29c) ∧
 L1 d0 t27 none 0 0 none 0 0 none 0 0 false t29 t29n t29c (t29n : Int) 0 (K1 Q) h3))))) : SpecH PP F_wal_Open [(.pointer d0)] h Q :=
   spec_of_txt (ann := ann) Tryz.func7 rfl rfl (by kernel_rfl) H
end wal_Open
/-! ### (*haversack/wal.Log).Append: function 8 -/
namespace wal_Log_Append
def ann : Ann := (.seq 3 (.region [(List.range 2, 3)]) (.seq 3 (.block (.seq 515 (.region [(List.range 3, 515)]) (.cond (.seq 48 (.region [(List.range 2, 48)]) (.exit 48)) (.seq 4099 (.region [(List.range 4, 4099)]) (.cond (.seq 48 (.region [(List.range 2, 48)]) (.exit 48)) .leaf))))) (.seq 65 (.region [(List.range 7, 65)]) (.seq 65 (.seq 68719476801 (.region [(List.range 16, 68719476801)]) (.cond (.seq 193 (.region [(List.range 5, 193)]) (.seq 4398046511297 (.region [(List.range 2, 4398046511297)]) (.cond (.seq 48 (.region [(List.range 3, 48)]) (.exit 48)) .leaf))) .leaf)) (.join (.seq 64 (.seq 320 (.region [(List.range 4, 320)]) (.seq 281474976710976 (.region [(List.range 2, 281474976710976)]) (.cond (.seq 48 (.region [(List.range 3, 48)]) (.exit 48)) .leaf))) (.seq 48 (.region [(List.range 4, 48)]) (.exit 48))))))))
noncomputable abbrev cd (n : Nat) : Code := sub (bodyOf Tryz.f8) (pth n)
abbrev an (n : Nat) : Ann := subA ann (pth n)
@[irreducible] def J1 (xl0 : OA) (r6 : Addr) (Q : VP) (h : Heap) : Prop := Jn PP true (cd 31) (mkFr 0 52 [(0, (.pointer xl0)), (6, (.pointer (some r6)))]) (bodyK PP Tryz.f8 Q) h
theorem J1_of {xl0 : OA} {r6 : Addr} {Q : VP} {h : Heap} (H :
 ∃ (t45f0 : Int) (t45f1 : ByteArray), rdCells h r6 0 [(.int .i64 t45f0), (.string t45f1)] ∧
 SpecH PP F_wal_Log_lay [(.pointer xl0), (.agg #[(.int .i64 t45f0), (.string t45f1)])] h (fun v h1 => ∃ (t46 : Int), v = (.int .i64 t46) ∧
 let t48 : Bool := (t46 != 0)
 br t48 (
 Q (.tuple #[(.int .i64 0), (.int .i64 t46)]) h1) (
 ∃ (t51 : Int), cellH h1 r6 = some (.int .i64 t51) ∧
 Q (.tuple #[(.int .i64 t51), (.int .i64 0)]) h1))) : J1 xl0 r6 Q h := by unfold J1; exact Jn.of_txt (an 31) (by kernel_rfl) H
theorem door {xl0 : OA} {data1 : ByteArray} {Q : VP} {h : Heap} (H :
 let t11 : Bool := (Option.isNone xl0)
 br t11 (
 Q (.tuple #[(.int .i64 0), (.int .i64 3)]) h) (
 let t14 : Int := (ByteArray.size data1 : Int)
 let t15 : Bool := decide (t14 > 65536)
 br t15 (
 Q (.tuple #[(.int .i64 0), (.int .i64 2)]) h) (
 SpecH PP F_wal_Log_Last [(.pointer xl0)] h (fun v h1 => ∃ (t17 : Int), v = (.int .i64 t17) ∧
 let t18 : Int := IntKind.i64.wrap (t17 + 1)
 let r6 : Addr := ⟨Array.size h1, 0, none⟩
 let h2 : Heap := Array.push h1 (.cells #[(.int .i64 0), (.string (⟨#[]⟩ : ByteArray))] T_api_Record (0, 0))
 wrCells r6 0 [(.int .i64 t18), (.string data1)] (fun h3 =>
 nilc xl0 (fun t22 =>
 ∃ (t24 : OA) (t24n t24c : Nat), cellH h3 (Addr.add t22 1) = some (.slice t24 t24n t24c) ∧
 nilc xl0 (fun t26 =>
 ∃ (t28 : OA) (t28n t28c : Nat), cellH h3 (Addr.add t26 1) = some (.slice t28 t28n t28c) ∧
 let t30 : Int := IntKind.i64.wrap ((t28n : Int) - 1)
 hwp PP (Instr.indexAt T_sl_p_wal_segment (.slice t24 t24n t24c) (.int .i64 t30)) (fun v_1 h4 => ∃ (t31 : Addr), v_1 = (.pointer (some t31)) ∧
 ∃ (t32 : OA), cellH h4 t31 = some (.pointer t32) ∧
 nilc t32 (fun t33 =>
 ∃ (t35 : Int), cellH h4 (Addr.add t33 3) = some (.int .i64 t35) ∧
 let t36 : Bool := decide (t35 > 16384)
 br t36 (
 ∃ (t39 : Int), cellH h4 r6 = some (.int .i64 t39) ∧
 SpecH PP F_wal_Log_begin [(.pointer xl0), (.int .i64 t39)] h4 (fun v_2 h5 => ∃ (t40 : Int), v_2 = (.int .i64 t40) ∧
 let t42 : Bool := (t40 != 0)
 br t42 (
 Q (.tuple #[(.int .i64 0), (.int .i64 t40)]) h5) (
 J1 xl0 r6 Q h5))) (
 J1 xl0 r6 Q h4))) h3))) h2)))) : SpecH PP F_wal_Log_Append [(.pointer xl0), (.string data1)] h Q :=
   spec_of_txt (ann := ann) Tryz.func8 rfl rfl (by kernel_rfl) H
end wal_Log_Append
/-! ### (*haversack/wal.Log).Cut: function 9 -/
namespace wal_Log_Cut
def ann : Ann := (.seq 3 (.region [(List.range 1, 3)]) (.seq 3 (.block (.seq 1027 (.region [(List.range 3, 1027)]) (.cond (.seq 16 (.region [(List.range 1, 16)]) (.exit 16)) (.seq 8195 (.region [(List.range 9, 8195)]) (.join (.cond (.seq 16 (.region [(List.range 1, 16)]) (.exit 16)) .leaf)))))) (.seq 3 (.seq 35 (.region [(List.range 6, 35)]) (.seq 36028797018963971 (.region [(List.range 29, 36028797018963971)]) (.join (.cond (.seq 67 (.region [(List.range 5, 67)]) (.seq 2305843009213694019 (.region [(List.range 2, 2305843009213694019)]) (.cond (.seq 16 (.region [(List.range 2, 16)]) (.exit 16)) .leaf))) .leaf)))) (.join (.seq 131 (.region [(List.range 1, 131)]) (.seq 129 (.block (.loop 131 (.seq 131 (.seq 38685626227668133590597763 (.region [(List.range 23, 38685626227668133590597763)]) (.cond .leaf (.exit 129))) (.block (.region [(List.range 3, 131)]))))) (.seq 129 (.seq 618970019642690137449562241 (.region [(List.range 2, 618970019642690137449562241)]) (.cond (.seq 16 (.region [(List.range 1, 16)]) (.exit 16)) .leaf)) (.seq 129 (.seq 385 (.region [(List.range 3, 385)]) (.seq 9903520314283042199192994177 (.region [(List.range 2, 9903520314283042199192994177)]) (.cond (.seq 16 (.region [(List.range 2, 16)]) (.exit 16)) .leaf))) (.seq 0 (.seq 118842243771396506390315925505 (.region [(List.range 2, 118842243771396506390315925505)]) (.block (.loop 118842243771396506390315925505 (.seq 277298568799925181577403826177 (.region [(List.range 1, 277298568799925181577403826177)]) (.seq 118842243771396506390315925505 (.cond .leaf (.exit 0)) (.seq 118842243771396506390315925505 (.block (.seq 118842243771396506390315925505 (.region [(List.range 4, 118842243771396506390315925505)]) (.seq 118842243771396506390315925505 (.seq 118842243771396506390315926017 (.region [(List.range 15, 118842243771396506390315926017)]) (.seq 83076868578801013452994331583447553 (.region [(List.range 2, 83076868578801013452994331583447553)]) (.cond (.seq 16 (.region [(List.range 2, 16)]) (.exit 16)) .leaf))) (.region [(List.range 9, 118842243771396506390315925505)])))) (.region [(List.range 2, 118842243771396506390315925505)]))))))) (.seq 16 (.region [(List.range 1, 16)]) (.exit 16)))))))))))
noncomputable abbrev cd (n : Nat) : Code := sub (bodyOf Tryz.f9) (pth n)
abbrev an (n : Nat) : Ann := subA ann (pth n)
@[irreducible] def X1 (xl0 : OA) (gone7 : Int) : Fr := (mkFr 0 127 [(0, (.pointer xl0)), (7, (.int .i64 gone7))])
@[irreducible] def Xret (t4 : Int) : Fr := (mkFr 0 127 [(4, (.int .i64 t4))])
@[irreducible] def X3  : Fr := (mkFr 0 127 [])
@[irreducible] def K2 (Q : VP) : EP := seqK (fun fr h => ev PP true none (cd 7) (an 7) (fr.mask 3) (bodyK PP Tryz.f9 Q) h) (bodyK PP Tryz.f9 Q)
@[irreducible] def K1 (Q : VP) : EP := blockK 0 (K2 Q)
@[irreducible] def J1 (xl0 : OA) (seq1 : Int) (t13 : Bool) (Q : VP) (h : Heap) : Prop := Jn PP true (cd 103) (mkFr 0 127 [(0, (.pointer xl0)), (1, (.int .i64 seq1)), (13, (.bool t13))]) (K1 Q) h
@[irreducible] def K3 (Q : VP) : EP := seqK (fun fr h => Jn PP true (cd 15) (fr.mask 3) (bodyK PP Tryz.f9 Q) h) (bodyK PP Tryz.f9 Q)
@[irreducible] def J2 (xl0 : OA) (seq1 : Int) (t55 : Bool) (Q : VP) (h : Heap) : Prop := Jn PP true (cd 59) (mkFr 0 127 [(0, (.pointer xl0)), (1, (.int .i64 seq1)), (55, (.bool t55))]) (K3 Q) h
@[irreducible] def J3 (xl0 : OA) (seq1 : Int) (Q : VP) (h : Heap) : Prop := Jn PP true (cd 15) (mkFr 0 127 [(0, (.pointer xl0)), (1, (.int .i64 seq1))]) (bodyK PP Tryz.f9 Q) h
@[irreducible] def K5 (Q : VP) : EP := seqK (fun fr h => ev PP true none (cd 63) (an 63) (fr.mask 129) (bodyK PP Tryz.f9 Q) h) (bodyK PP Tryz.f9 Q)
@[irreducible] def K4 (Q : VP) : EP := blockK 1 (K5 Q)
@[irreducible] def L1 (xl0 : OA) (seq1 gone7 : Int) (K : EP) (h : Heap) : Prop := Lp PP true (cd 248) (mkFr 0 127 [(0, (.pointer xl0)), (1, (.int .i64 seq1)), (7, (.int .i64 gone7))]) K h
@[irreducible] def B1 (K : EP) : EP := seqK (fun fr h => Lp PP true (cd 248) (fr.mask 131) K h) K
@[irreducible] def K7 (Q : VP) : EP := seqK (fun fr h => ev PP true none (cd 511) (an 511) (fr.mask 0) (bodyK PP Tryz.f9 Q) h) (bodyK PP Tryz.f9 Q)
@[irreducible] def K6 (Q : VP) : EP := blockK 3 (K7 Q)
@[irreducible] def L2 (xl0 : OA) (t95 t96 : Int) (K : EP) (h : Heap) : Prop := Lp PP true (cd 4084) (mkFr 0 127 [(0, (.pointer xl0)), (95, (.int .i64 t95)), (96, (.int .i64 t96))]) K h
@[irreducible] def B2 (K : EP) : EP := seqK (fun fr h => Lp PP true (cd 4084) (fr.mask 118842243771396506390315925505) K h) K
theorem J1_of {xl0 : OA} {seq1 : Int} {t13 : Bool} {Q : VP} {h : Heap} (H :
 br t13 (
 Q (.int .i64 101) h) (
 nilc xl0 (fun t23 =>
 ∃ (t25 : OA) (t25n t25c : Nat), cellH h (Addr.add t23 1) = some (.slice t25 t25n t25c) ∧
 SpecH PP F_wal_Log_Last [(.pointer xl0)] h (fun v h1 => ∃ (t29 : Int), v = (.int .i64 t29) ∧
 let t30 : Bool := (seq1 == t29)
 br t30 (
 nilc xl0 (fun t33 =>
 ∃ (t35 : OA) (t35n t35c : Nat), cellH h1 (Addr.add t33 1) = some (.slice t35 t35n t35c) ∧
 let t37 : Int := IntKind.i64.wrap ((t25n : Int) - 1)
 hwp PP (Instr.indexAt T_sl_p_wal_segment (.slice t35 t35n t35c) (.int .i64 t37)) (fun v_1 h2 => ∃ (t38 : Addr), v_1 = (.pointer (some t38)) ∧
 ∃ (t39 : OA), cellH h2 t38 = some (.pointer t39) ∧
 nilc t39 (fun t40 =>
 ∃ (t42 : Int), cellH h2 (Addr.add t40 2) = some (.int .i64 t42) ∧
 nilc xl0 (fun t44 =>
 ∃ (t46 : OA) (t46n t46c : Nat), cellH h2 (Addr.add t44 1) = some (.slice t46 t46n t46c) ∧
 let t48 : Int := IntKind.i64.wrap ((t25n : Int) - 1)
 hwp PP (Instr.indexAt T_sl_p_wal_segment (.slice t46 t46n t46c) (.int .i64 t48)) (fun v_2 h3 => ∃ (t49 : Addr), v_2 = (.pointer (some t49)) ∧
 ∃ (t50 : OA), cellH h3 t49 = some (.pointer t50) ∧
 nilc t50 (fun t51 =>
 ∃ (t53 : Int), cellH h3 (Addr.add t51 1) = some (.int .i64 t53) ∧
 let t54 : Bool := decide (t42 > t53)
 J2 xl0 seq1 t54 Q h3)) h2))) h1)) (
 J2 xl0 seq1 false Q h1))))) : J1 xl0 seq1 t13 Q h := by unfold J1; exact Jn.of_txt (an 103) (by kernel_rfl) H
theorem J2_of {xl0 : OA} {seq1 : Int} {t55 : Bool} {Q : VP} {h : Heap} (H :
 br t55 (
 let t58 : Int := IntKind.i64.wrap (seq1 + 1)
 SpecH PP F_wal_Log_begin [(.pointer xl0), (.int .i64 t58)] h (fun v h1 => ∃ (t59 : Int), v = (.int .i64 t59) ∧
 let t61 : Bool := (t59 != 0)
 br t61 (
 Q (.int .i64 t59) h1) (
 J3 xl0 seq1 Q h1))) (
 J3 xl0 seq1 Q h)) : J2 xl0 seq1 t55 Q h := by unfold J2; exact Jn.of_txt (an 59) (by kernel_rfl) H
theorem J3_of {xl0 : OA} {seq1 : Int} {Q : VP} {h : Heap} (H :
 L1 xl0 seq1 0 (K4 Q) h) : J3 xl0 seq1 Q h := by unfold J3; exact Jn.of_txt (an 15) (by kernel_rfl) H
theorem L1_of {xl0 : OA} {seq1 gone7 : Int} {K : EP} {h : Heap} (H :
 nilc xl0 (fun t65 =>
 ∃ (t67 : OA) (t67n t67c : Nat), cellH h (Addr.add t65 1) = some (.slice t67 t67n t67c) ∧
 let t69 : Int := IntKind.i64.wrap ((t67n : Int) - 1)
 let t70 : Bool := decide (gone7 < t69)
 br t70 (
 nilc xl0 (fun t73 =>
 ∃ (t75 : OA) (t75n t75c : Nat), cellH h (Addr.add t73 1) = some (.slice t75 t75n t75c) ∧
 hwp PP (Instr.indexAt T_sl_p_wal_segment (.slice t75 t75n t75c) (.int .i64 gone7)) (fun v h1 => ∃ (t77 : Addr), v = (.pointer (some t77)) ∧
 ∃ (t78 : OA), cellH h1 t77 = some (.pointer t78) ∧
 nilc t78 (fun t79 =>
 ∃ (t81 : Int), cellH h1 (Addr.add t79 2) = some (.int .i64 t81) ∧
 let t83 : Int := IntKind.i64.wrap (seq1 + 1)
 let t84 : Bool := decide (t81 ≤ t83)
 br t84 (
 let t87 : Int := IntKind.i64.wrap (gone7 + 1)
 L1 xl0 seq1 t87 K h1) (
 K (.exit 1) (X1 xl0 gone7) h1))) h)) (
 K (.exit 1) (X1 xl0 gone7) h))) : L1 xl0 seq1 gone7 K h := by unfold L1; exact Lp.of_txt (an 248) 131 (by kernel_rfl) H
theorem L1_X1 {Q : VP} {xl0 : OA} {gone7 : Int} {h : Heap} (H :
 let t89 : Bool := (gone7 == 0)
 br t89 (
 Q (.int .i64 0) h) (
 SpecH PP F_wal_Log_Sync [(.pointer xl0)] h (fun v h1 => ∃ (t91 : Int), v = (.int .i64 t91) ∧
 let t93 : Bool := (t91 != 0)
 br t93 (
 Q (.int .i64 t91) h1) (
 L2 xl0 gone7 0 (K6 Q) h1)))) : (K4 Q) (.exit 1) (X1 xl0 gone7) h := of_eq_txt (by kernel_rfl) H
theorem L2_of {xl0 : OA} {t95 t96 : Int} {K : EP} {h : Heap} (H :
 let t97 : Bool := decide (t96 < t95)
 br t97 (
 nilc xl0 (fun t99 =>
 wr (Addr.add t99 3) (.bool true) (fun h1 =>
 nilc xl0 (fun t102 =>
 ∃ (t104 : OA), cellH h1 t102 = some (.pointer t104) ∧
 nilc xl0 (fun t106 =>
 ∃ (t108 : OA) (t108n t108c : Nat), cellH h1 (Addr.add t106 1) = some (.slice t108 t108n t108c) ∧
 hwp PP (Instr.indexAt T_sl_p_wal_segment (.slice t108 t108n t108c) (.int .i64 0)) (fun v h2 => ∃ (t109 : Addr), v = (.pointer (some t109)) ∧
 ∃ (t110 : OA), cellH h2 t109 = some (.pointer t110) ∧
 nilc t110 (fun t111 =>
 ∃ (t113 : ByteArray), cellH h2 t111 = some (.string t113) ∧
 SpecH PP F_disk_Disk_Remove [(.pointer t104), (.string t113)] h2 (fun v_1 h3 => ∃ (t114 : Int), v_1 = (.int .i64 t114) ∧
 let t116 : Bool := (t114 != 0)
 br t116 (
 K .ret (Xret t114) h3) (
 nilc xl0 (fun t120 =>
 ∃ (t122 : OA) (t122n t122c : Nat), cellH h3 (Addr.add t120 1) = some (.slice t122 t122n t122c) ∧
 SpecH PP F_slices_Delete_wal_segment_wal_segment [(.slice t122 t122n t122c), (.int .i64 0), (.int .i64 1)] h3 (fun v_2 h4 => ∃ (t123 : OA) (t123n t123c : Nat), v_2 = (.slice t123 t123n t123c) ∧
 nilc xl0 (fun t124 =>
 wr (Addr.add t124 1) (.slice t123 t123n t123c) (fun h5 =>
 let t126 : Int := IntKind.i64.wrap (t96 + 1)
 L2 xl0 t95 t126 K h5) h4))))))) h1))) h)) (
 K (.exit 3) (X3) h)) : L2 xl0 t95 t96 K h := by unfold L2; exact Lp.of_txt (an 4084) 118842243771396506390315925505 (by kernel_rfl) H
theorem L2_Xret {Q : VP} {t4 : Int} {h : Heap} (H :
 Q (.int .i64 t4) h) : (K6 Q) .ret (Xret t4) h := of_eq_txt (by kernel_rfl) H
theorem L2_X3 {Q : VP}  {h : Heap} (H :
 Q (.int .i64 0) h) : (K6 Q) (.exit 3) (X3 ) h := of_eq_txt (by kernel_rfl) H
theorem door {xl0 : OA} {seq1 : Int} {Q : VP} {h : Heap} (H :
 let t12 : Bool := (Option.isNone xl0)
 br t12 (
 Q (.int .i64 3) h) (
 let t15 : Bool := decide (seq1 < 0)
 br t15 (
 J1 xl0 seq1 true Q h) (
 SpecH PP F_wal_Log_Last [(.pointer xl0)] h (fun v h1 => ∃ (t19 : Int), v = (.int .i64 t19) ∧
 let t20 : Bool := decide (seq1 > t19)
 J1 xl0 seq1 t20 Q h1)))) : SpecH PP F_wal_Log_Cut [(.pointer xl0), (.int .i64 seq1)] h Q :=
   spec_of_txt (ann := ann) Tryz.func9 rfl rfl (by kernel_rfl) H
end wal_Log_Cut
/-! ### (*haversack/wal.Log).Sync: function 10 -/
namespace wal_Log_Sync
def ann : Ann := (.seq 1 (.region [(List.range 1, 1)]) (.seq 1 (.seq 257 (.region [(List.range 2, 257)]) (.cond (.seq 4 (.region [(List.range 1, 4)]) (.exit 4)) .leaf)) (.seq 1 (.seq 28673 (.region [(List.range 6, 28673)]) (.block (.loop 28673 (.seq 61441 (.region [(List.range 1, 61441)]) (.seq 28673 (.cond .leaf (.exit 1)) (.seq 28673 (.block (.seq 28689 (.region [(List.range 3, 28689)]) (.seq 28689 (.seq 4222993 (.region [(List.range 5, 4222993)]) (.cond (.exit 28673) .leaf)) (.seq 28689 (.seq 28721 (.region [(List.range 10, 28721)]) (.seq 8589963313 (.region [(List.range 2, 8589963313)]) (.cond (.seq 4 (.region [(List.range 2, 4)]) (.exit 4)) .leaf))) (.region [(List.range 4, 28673)]))))) (.join (.region [(List.range 2, 28673)])))))))) (.seq 1 (.seq 4398046511105 (.region [(List.range 4, 4398046511105)]) (.cond (.seq 1 (.seq 65 (.region [(List.range 6, 65)]) (.seq 562949953421377 (.region [(List.range 2, 562949953421377)]) (.cond (.seq 4 (.region [(List.range 2, 4)]) (.exit 4)) .leaf))) (.region [(List.range 4, 1)])) .leaf)) (.join (.seq 0 (.region [(List.range 6, 0)]) (.seq 4 (.region [(List.range 1, 4)]) (.exit 4))))))))
noncomputable abbrev cd (n : Nat) : Code := sub (bodyOf Tryz.f10) (pth n)
abbrev an (n : Nat) : Ann := subA ann (pth n)
@[irreducible] def Xret (t2 : Int) : Fr := (mkFr 0 59 [(2, (.int .i64 t2))])
@[irreducible] def X0 (xl0 : OA) : Fr := (mkFr 0 59 [(0, (.pointer xl0))])
@[irreducible] def L1 (xl0 t12 : OA) (t12n t12c : Nat) (t13 t14 : Int) (K : EP) (h : Heap) : Prop := Lp PP true (cd 116) (mkFr 0 59 [(0, (.pointer xl0)), (12, (.slice t12 t12n t12c)), (13, (.int .i64 t13)), (14, (.int .i64 t14))]) K h
@[irreducible] def B1 (K : EP) : EP := seqK (fun fr h => Lp PP true (cd 116) (fr.mask 28673) K h) K
@[irreducible] def J1 (xl0 t12 : OA) (t12n t12c : Nat) (t13 t14 : Int) (K : EP) (h : Heap) : Prop := Jn PP true (cd 935) (mkFr 0 59 [(0, (.pointer xl0)), (12, (.slice t12 t12n t12c)), (13, (.int .i64 t13)), (14, (.int .i64 t14))]) (B1 K) h
@[irreducible] def K2 (Q : VP) : EP := seqK (fun fr h => ev PP true none (cd 15) (an 15) (fr.mask 1) (bodyK PP Tryz.f10 Q) h) (bodyK PP Tryz.f10 Q)
@[irreducible] def K1 (Q : VP) : EP := blockK 0 (K2 Q)
@[irreducible] def J2 (xl0 : OA) (Q : VP) (h : Heap) : Prop := Jn PP true (cd 31) (mkFr 0 59 [(0, (.pointer xl0))]) (bodyK PP Tryz.f10 Q) h
theorem L1_of {xl0 t12 : OA} {t12n t12c : Nat} {t13 t14 : Int} {K : EP} {h : Heap} (H :
 let t15 : Bool := decide (t14 < t13)
 br t15 (
 hwp PP (Instr.indexAt T_sl_p_wal_segment (.slice t12 t12n t12c) (.int .i64 t14)) (fun v h1 => ∃ (t16 : Addr), v = (.pointer (some t16)) ∧
 ∃ (t17 : OA), cellH h1 t16 = some (.pointer t17) ∧
 nilc t17 (fun t19 =>
 ∃ (t21 : Bool), cellH h1 (Addr.add t19 4) = some (.bool t21) ∧
 let t22 : Bool := (!t21)
 br t22 (
 J1 xl0 t12 t12n t12c t13 t14 K h1) (
 nilc xl0 (fun t24 =>
 ∃ (t26 : OA), cellH h1 t24 = some (.pointer t26) ∧
 nilc t17 (fun t28 =>
 ∃ (t30 : ByteArray), cellH h1 t28 = some (.string t30) ∧
 SpecH PP F_disk_Disk_Sync [(.pointer t26), (.string t30)] h1 (fun v_1 h2 => ∃ (t31 : Int), v_1 = (.int .i64 t31) ∧
 let t33 : Bool := (t31 != 0)
 br t33 (
 K .ret (Xret t31) h2) (
 nilc t17 (fun t36 =>
 wr (Addr.add t36 4) (.bool false) (fun h3 =>
 J1 xl0 t12 t12n t12c t13 t14 K h3) h2)))))))) h) (
 K (.exit 0) (X0 xl0) h)) : L1 xl0 t12 t12n t12c t13 t14 K h := by unfold L1; exact Lp.of_txt (an 116) 28673 (by kernel_rfl) H
theorem L1_Xret {Q : VP} {t2 : Int} {h : Heap} (H :
 Q (.int .i64 t2) h) : (K1 Q) .ret (Xret t2) h := of_eq_txt (by kernel_rfl) H
theorem J1_of {xl0 t12 : OA} {t12n t12c : Nat} {t13 t14 : Int} {K : EP} {h : Heap} (H :
 let t38 : Int := IntKind.i64.wrap (t14 + 1)
 L1 xl0 t12 t12n t12c t13 t38 K h) : J1 xl0 t12 t12n t12c t13 t14 K h := by unfold J1; exact Jn.of_txt (an 935) (by kernel_rfl) H
theorem L1_X0 {Q : VP} {xl0 : OA} {h : Heap} (H :
 nilc xl0 (fun t40 =>
 ∃ (t42 : Bool), cellH h (Addr.add t40 3) = some (.bool t42) ∧
 br t42 (
 nilc xl0 (fun t44 =>
 ∃ (t46 : OA), cellH h t44 = some (.pointer t46) ∧
 SpecH PP F_disk_Disk_SyncDir [(.pointer t46)] h (fun v h1 => ∃ (t47 : Int), v = (.int .i64 t47) ∧
 let t49 : Bool := (t47 != 0)
 br t49 (
 Q (.int .i64 t47) h1) (
 nilc xl0 (fun t52 =>
 wr (Addr.add t52 3) (.bool false) (fun h2 =>
 J2 xl0 Q h2) h1))))) (
 J2 xl0 Q h))) : (K1 Q) (.exit 0) (X0 xl0) h := of_eq_txt (by kernel_rfl) H
theorem J2_of {xl0 : OA} {Q : VP} {h : Heap} (H :
 SpecH PP F_wal_Log_Last [(.pointer xl0)] h (fun v h1 => ∃ (t56 : Int), v = (.int .i64 t56) ∧
 nilc xl0 (fun t57 =>
 wr (Addr.add t57 2) (.int .i64 t56) (fun h2 =>
 Q (.int .i64 0) h2) h1))) : J2 xl0 Q h := by unfold J2; exact Jn.of_txt (an 31) (by kernel_rfl) H
theorem door {xl0 : OA} {Q : VP} {h : Heap} (H :
 let t8 : Bool := (Option.isNone xl0)
 br t8 (
 Q (.int .i64 3) h) (
 nilc xl0 (fun t10 =>
 ∃ (t12 : OA) (t12n t12c : Nat), cellH h (Addr.add t10 1) = some (.slice t12 t12n t12c) ∧
 L1 xl0 t12 t12n t12c (t12n : Int) 0 (K1 Q) h))) : SpecH PP F_wal_Log_Sync [(.pointer xl0)] h Q :=
   spec_of_txt (ann := ann) Tryz.func10 rfl rfl (by kernel_rfl) H
end wal_Log_Sync
/-! ### (*haversack/disk.Disk).Names: function 11 -/
namespace disk_Disk_Names
def ann : Ann := (.seq 1 (.region [(List.range 1, 1)]) (.seq 1 (.seq 33 (.region [(List.range 3, 33)]) (.cond (.seq 4 (.region [(List.range 1, 4)]) (.exit 4)) .leaf)) (.seq 4 (.region [(List.range 7, 4)]) (.exit 4))))
noncomputable abbrev cd (n : Nat) : Code := sub (bodyOf Tryz.f11) (pth n)
abbrev an (n : Nat) : Ann := subA ann (pth n)
theorem door {d0 : OA} {Q : VP} {h : Heap} (H :
 SpecH PP F_disk_Disk_ready [(.pointer d0)] h (fun v h1 => ∃ (t4 : Int), v = (.int .i64 t4) ∧
 let t5 : Bool := (t4 != 0)
 br t5 (
 Q (.slice none 0 0) h1) (
 nilc d0 (fun t7 =>
 ∃ (t9 : ON), cellH h1 (Addr.add t7 1) = some (.map t9) ∧
 SpecH PP F_maps_Keys_disk_names_string_disk_file [(.map t9)] h1 (fun v_1 h2 => ∃ (t10 : Value), v_1 = t10 ∧
 SpecH PP F_slices_Sorted_string [t10] h2 (fun v_2 h3 => ∃ (t11 : OA) (t11n t11c : Nat), v_2 = (.slice t11 t11n t11c) ∧
 Q (.slice t11 t11n t11c) h3)))))) : SpecH PP F_disk_Disk_Names [(.pointer d0)] h Q :=
   spec_of_txt (ann := ann) Tryz.func11 rfl rfl (by kernel_rfl) H
end disk_Disk_Names
/-! ### (*haversack/disk.Disk).Used: function 12 -/
namespace disk_Disk_Used
def ann : Ann := (.seq 1 (.region [(List.range 1, 1)]) (.seq 1 (.seq 257 (.region [(List.range 3, 257)]) (.cond (.seq 4 (.region [(List.range 1, 4)]) (.exit 4)) .leaf)) (.seq 9 (.region [(List.range 1, 9)]) (.seq 8 (.seq 8200 (.region [(List.range 5, 8200)]) (.block (.loop 8200 (.seq 40968 (.region [(List.range 2, 40968)]) (.seq 8200 (.cond .leaf (.exit 8)) (.block (.seq 8232 (.region [(List.range 3, 8232)]) (.region [(List.range 8, 8200)])))))))) (.seq 4 (.region [(List.range 2, 4)]) (.exit 4))))))
noncomputable abbrev cd (n : Nat) : Code := sub (bodyOf Tryz.f12) (pth n)
abbrev an (n : Nat) : Ann := subA ann (pth n)
@[irreducible] def X0 (xn3 : Int) : Fr := (mkFr 0 26 [(3, (.int .i64 xn3))])
@[irreducible] def L1 (xn3 : Int) (t13 : Value) (K : EP) (h : Heap) : Prop := Lp PP true (cd 244) (mkFr 0 26 [(3, (.int .i64 xn3)), (13, t13)]) K h
@[irreducible] def B1 (K : EP) : EP := seqK (fun fr h => Lp PP true (cd 244) (fr.mask 8200) K h) K
@[irreducible] def K2 (Q : VP) : EP := seqK (fun fr h => ev PP true none (cd 31) (an 31) (fr.mask 8) (bodyK PP Tryz.f12 Q) h) (bodyK PP Tryz.f12 Q)
@[irreducible] def K1 (Q : VP) : EP := blockK 0 (K2 Q)
theorem L1_of {xn3 : Int} {t13 : Value} {K : EP} {h : Heap} (H :
 hwp PP (Instr.next t13 false T_) (fun v h1 => ∃ (b : Bool) (r : List Value), v = .tuple ((.bool b :: r).toArray) ∧
 br b (
 hwp PP (Instr.entry t13) (fun v_1 h2 => ∃ (t16 t16_1 : Value), v_1 = (.tuple #[t16, t16_1]) ∧
 ∃ (t17 : OA), t16_1 = (.pointer t17) ∧
 nilc t17 (fun t20 =>
 ∃ (t22 : OA) (t22n t22c : Nat), cellH h2 t20 = some (.slice t22 t22n t22c) ∧
 let t24 : Int := IntKind.i64.wrap (xn3 + (t22n : Int))
 L1 t24 t13 K h2)) h1) (
 K (.exit 0) (X0 xn3) h1)) h) : L1 xn3 t13 K h := by unfold L1; exact Lp.of_txt (an 244) 8200 (by kernel_rfl) H
theorem L1_X0 {Q : VP} {xn3 : Int} {h : Heap} (H :
 Q (.int .i64 xn3) h) : (K1 Q) (.exit 0) (X0 xn3) h := of_eq_txt (by kernel_rfl) H
theorem door {d0 : OA} {Q : VP} {h : Heap} (H :
 SpecH PP F_disk_Disk_ready [(.pointer d0)] h (fun v h1 => ∃ (t7 : Int), v = (.int .i64 t7) ∧
 let t8 : Bool := (t7 != 0)
 br t8 (
 Q (.int .i64 0) h1) (
 nilc d0 (fun t10 =>
 ∃ (t12 : ON), cellH h1 (Addr.add t10 1) = some (.map t12) ∧
 hwp PP (Instr.range T_disk_names (.map t12)) (fun v_1 h2 => ∃ (t13 : Value), v_1 = t13 ∧
 L1 0 t13 (K1 Q) h2) h1)))) : SpecH PP F_disk_Disk_Used [(.pointer d0)] h Q :=
   spec_of_txt (ann := ann) Tryz.func12 rfl rfl (by kernel_rfl) H
end disk_Disk_Used
/-! ### (*haversack/disk.Disk).Crash: function 13 -/
namespace disk_Disk_Crash
def ann : Ann := (.seq 9 (.region [(List.range 2, 9)]) (.seq 9 (.seq 16393 (.region [(List.range 2, 16393)]) (.cond (.seq 16 (.region [(List.range 1, 16)]) (.exit 16)) .leaf)) (.seq 33 (.region [(List.range 2, 33)]) (.seq 33 (.region [(List.range 8, 33)]) (.seq 33 (.region [(List.range 9, 33)]) (.seq 33 (.seq 30786325577761 (.tree (.run [0, 1, 2, 4, 6, 7, 8, 14] (.alt 3 (.alt 5 (.run [9, 10, 11, 12, 13] .done) (.alt 9 (.run [5, 10, 11, 12, 13] .done) .nil)) (.alt 5 (.run [3, 9, 10, 11, 12, 13] .done) (.alt 9 (.run [10] (.alt 3 (.run [5, 11, 12, 13] .done) (.alt 5 (.run [3, 11, 12, 13] .done) .nil))) .nil)))) 30786325577761) (.block (.loop 30786325577761 (.seq 65970697666593 (.region [(List.range 1, 65970697666593)]) (.seq 30786325577761 (.cond .leaf (.exit 33)) (.seq 30786325577761 (.block (.seq 30786325577889 (.region [(List.range 4, 30786325577889)]) (.region [(List.range 6, 30786325577761)]))) (.region [(List.range 2, 30786325577761)]))))))) (.seq 1 (.seq 504403158265495585 (.region [(List.range 4, 504403158265495585)]) (.block (.loop 504403158265495585 (.seq 1080863910568919073 (.region [(List.range 1, 1080863910568919073)]) (.seq 504403158265495585 (.cond .leaf (.exit 1)) (.seq 504403158265495585 (.block (.seq 504403158265496097 (.region [(List.range 3, 504403158265496097)]) (.seq 504403158265497121 (.region [(List.range 7, 504403158265497121)]) (.seq 504403158265499169 (.region [(List.range 3, 504403158265499169)]) (.seq 504403158265503265 (.region [(List.range 24, 504403158265503265)]) (.seq 504403158265500193 (.seq 19807040629070487556651488801 (.region [(List.range 2, 19807040629070487556651488801)]) (.cond (.region [(List.range 7, 504403158265500193)]) .leaf)) (.join (.region [(List.range 11, 504403158265495585)])))))))) (.region [(List.range 2, 504403158265495585)]))))))) (.seq 1 (.region [(List.range 9, 1)]) (.seq 0 (.region [(List.range 4, 0)]) (.seq 16 (.region [(List.range 1, 16)]) (.exit 16)))))))))))
noncomputable abbrev cd (n : Nat) : Code := sub (bodyOf Tryz.f13) (pth n)
abbrev an (n : Nat) : Ann := subA ann (pth n)
@[irreducible] def X0 (d0 : OA) (choice5 : Value) : Fr := (mkFr 0 123 [(0, (.pointer d0)), (5, choice5)])
@[irreducible] def X2 (d0 : OA) : Fr := (mkFr 0 123 [(0, (.pointer d0))])
@[irreducible] def L1 (d0 : OA) (choice5 : Value) (t42 : OA) (t42n t42c : Nat) (t43 t44 : Int) (K : EP) (h : Heap) : Prop := Lp PP true (cd 1012) (mkFr 0 123 [(0, (.pointer d0)), (5, choice5), (42, (.slice t42 t42n t42c)), (43, (.int .i64 t43)), (44, (.int .i64 t44))]) K h
@[irreducible] def B1 (K : EP) : EP := seqK (fun fr h => Lp PP true (cd 1012) (fr.mask 30786325577761) K h) K
@[irreducible] def K3 (Q : VP) : EP := seqK (fun fr h => ev PP true none (cd 127) (an 127) (fr.mask 33) (bodyK PP Tryz.f13 Q) h) (bodyK PP Tryz.f13 Q)
@[irreducible] def K1 (Q : VP) : EP := blockK 0 (K3 Q)
@[irreducible] def K4 (Q : VP) : EP := seqK (fun fr h => ev PP true none (cd 255) (an 255) (fr.mask 1) (bodyK PP Tryz.f13 Q) h) (bodyK PP Tryz.f13 Q)
@[irreducible] def K2 (Q : VP) : EP := blockK 2 (K4 Q)
@[irreducible] def L2 (d0 : OA) (choice5 : Value) (t56 : OA) (t56n t56c : Nat) (t57 t58 : Int) (K : EP) (h : Heap) : Prop := Lp PP true (cd 2036) (mkFr 0 123 [(0, (.pointer d0)), (5, choice5), (56, (.slice t56 t56n t56c)), (57, (.int .i64 t57)), (58, (.int .i64 t58))]) K h
@[irreducible] def B2 (K : EP) : EP := seqK (fun fr h => Lp PP true (cd 2036) (fr.mask 504403158265495585) K h) K
@[irreducible] def K6 (K : EP) : EP := seqK (fun fr h => ev PP true none (cd 16295) (an 16295) (fr.mask 504403158265495585) (B2 K) h) (B2 K)
@[irreducible] def K5 (K : EP) : EP := blockK 3 (K6 K)
@[irreducible] def J1 (d0 : OA) (choice5 : Value) (name9 : ByteArray) (b12 : OA) (b12n b12c : Nat) (t56 : OA) (t56n t56c : Nat) (t57 t58 : Int) (K : EP) (h : Heap) : Prop := Jn PP true (cd 1042847) (mkFr 0 123 [(0, (.pointer d0)), (5, choice5), (9, (.string name9)), (12, (.slice b12 b12n b12c)), (56, (.slice t56 t56n t56c)), (57, (.int .i64 t57)), (58, (.int .i64 t58))]) (K5 K) h
theorem L1_of {d0 : OA} {choice5 : Value} {t42 : OA} {t42n t42c : Nat} {t43 t44 : Int} {K : EP} {h : Heap} (H :
 let t45 : Bool := decide (t44 < t43)
 br t45 (
 hwp PP (Instr.indexAt T_sl_disk_change (.slice t42 t42n t42c) (.int .i64 t44)) (fun v h1 => ∃ (t46 : Addr), v = (.pointer (some t46)) ∧
 ∃ (t47f0 t47f1 : ByteArray) (t47f2 : OA), rdCells h1 t46 0 [(.string t47f0), (.string t47f1), (.pointer t47f2)] ∧
 let c7 : Addr := ⟨Array.size h1, 0, none⟩
 let h2 : Heap := Array.push h1 (.cells #[(.string (⟨#[]⟩ : ByteArray)), (.string (⟨#[]⟩ : ByteArray)), (.pointer none)] T_disk_change (0, 0))
 wrCells c7 0 [(.string t47f0), (.string t47f1), (.pointer t47f2)] (fun h3 =>
 nilc d0 (fun t49 =>
 ∃ (t51 : ON), cellH h3 (Addr.add t49 1) = some (.map t51) ∧
 ∃ (t52f0 t52f1 : ByteArray) (t52f2 : OA), rdCells h3 c7 0 [(.string t52f0), (.string t52f1), (.pointer t52f2)] ∧
 SpecH PP F_disk_names_do [(.map t51), (.agg #[(.string t52f0), (.string t52f1), (.pointer t52f2)])] h3 (fun v_1 h4 => v_1 = (.tuple #[]) ∧
 let t54 : Int := IntKind.i64.wrap (t44 + 1)
 L1 d0 choice5 t42 t42n t42c t43 t54 K h4))) h2) h) (
 K (.exit 0) (X0 d0 choice5) h)) : L1 d0 choice5 t42 t42n t42c t43 t44 K h := by unfold L1; exact Lp.of_txt (an 1012) 30786325577761 (by kernel_rfl) H
theorem L1_X0 {Q : VP} {d0 : OA} {choice5 : Value} {h : Heap} (H :
 SpecH PP F_disk_Disk_Names [(.pointer d0)] h (fun v h1 => ∃ (t56 : OA) (t56n t56c : Nat), v = (.slice t56 t56n t56c) ∧
 L2 d0 choice5 t56 t56n t56c (t56n : Int) 0 (K2 Q) h1)) : (K1 Q) (.exit 0) (X0 d0 choice5) h := of_eq_txt (by kernel_rfl) H
theorem L2_of {d0 : OA} {choice5 : Value} {t56 : OA} {t56n t56c : Nat} {t57 t58 : Int} {K : EP} {h : Heap} (H :
 let t59 : Bool := decide (t58 < t57)
 br t59 (
 hwp PP (Instr.indexAt T_sl_string (.slice t56 t56n t56c) (.int .i64 t58)) (fun v h1 => ∃ (t60 : Addr), v = (.pointer (some t60)) ∧
 ∃ (t61 : ByteArray), cellH h1 t60 = some (.string t61) ∧
 nilc d0 (fun t63 =>
 ∃ (t65 : ON), cellH h1 (Addr.add t63 1) = some (.map t65) ∧
 hwp PP (Instr.lookup T_disk_names (.map t65) (.string t61) false) (fun v_1 h2 => ∃ (t67 : OA), v_1 = (.pointer t67) ∧
 callV PP choice5 [] (fun v_2 h3 => ∃ (t69 : Int), v_2 = (.int .i64 t69) ∧
 nilc t67 (fun t71 =>
 ∃ (t73 : OA) (t73n t73c : Nat), cellH h3 t71 = some (.slice t73 t73n t73c) ∧
 nilc t67 (fun t75 =>
 ∃ (t77 : Int), cellH h3 (Addr.add t75 1) = some (.int .i64 t77) ∧
 nilc t67 (fun t80 =>
 ∃ (t82 : OA) (t82n t82c : Nat), cellH h3 t80 = some (.slice t82 t82n t82c) ∧
 nilc t67 (fun t85 =>
 ∃ (t87 : Int), cellH h3 (Addr.add t85 1) = some (.int .i64 t87) ∧
 let t88 : Int := IntKind.i64.wrap ((t82n : Int) - t87)
 ∃ v_3, PureAt PP F_disk_says [(.int .i64 t69), (.int .i64 t88)] v_3 ∧
 ∃ (t89 : Int), v_3 = (.int .i64 t89) ∧
 let t90 : Int := IntKind.i64.wrap (t77 + t89)
 hwp PP (Instr.sliceAt T_sl_uint8 (.slice t73 t73n t73c) none (some (.int .i64 t90)) none) (fun v_4 h4 => ∃ (t91 : OA) (t91n t91c : Nat), v_4 = (.slice t91 t91n t91c) ∧
 SpecH PP F_slices_Clone_byte_byte [(.slice t91 t91n t91c)] h4 (fun v_5 h5 => ∃ (t92 : OA) (t92n t92c : Nat), v_5 = (.slice t92 t92n t92c) ∧
 let t94 : Bool := decide (t69 < 0)
 br t94 (
 nilc t67 (fun t97 =>
 ∃ (t99 : Int), cellH h5 (Addr.add t97 1) = some (.int .i64 t99) ∧
 hwp PP (Instr.sliceAt T_sl_uint8 (.slice t92 t92n t92c) (some (.int .i64 t99)) none none) (fun v_6 h6 => ∃ (t100 : OA) (t100n t100c : Nat), v_6 = (.slice t100 t100n t100c) ∧
 hwp PP (Builtin.clear_ #[T_sl_uint8] T_ #[(.slice t100 t100n t100c)]) (fun v_7 h7 => v_7 = (.tuple #[]) ∧
 J1 d0 choice5 t61 t92 t92n t92c t56 t56n t56c t57 t58 K h7) h6) h5)) (
 J1 d0 choice5 t61 t92 t92n t92c t56 t56n t56c t57 t58 K h5))) h3))))) h2) h1)) h) (
 K (.exit 2) (X2 d0) h)) : L2 d0 choice5 t56 t56n t56c t57 t58 K h := by unfold L2; exact Lp.of_txt (an 2036) 504403158265495585 (by kernel_rfl) H
theorem L2_X2 {Q : VP} {d0 : OA} {h : Heap} (H :
 nilc d0 (fun t114 =>
 ∃ (t116 : ON), cellH h (Addr.add t114 1) = some (.map t116) ∧
 SpecH PP F_maps_Clone_disk_names_string_disk_file [(.map t116)] h (fun v h1 => ∃ (t117 : ON), v = (.map t117) ∧
 nilc d0 (fun t118 =>
 wr (Addr.add t118 2) (.map t117) (fun h2 =>
 nilc d0 (fun t121 =>
 wr (Addr.add t121 3) (.slice none 0 0) (fun h3 =>
 Q (.int .i64 0) h3) h2)) h1)))) : (K2 Q) (.exit 2) (X2 d0) h := of_eq_txt (by kernel_rfl) H
theorem J1_of {d0 : OA} {choice5 : Value} {name9 : ByteArray} {b12 : OA} {b12n b12c : Nat} {t56 : OA} {t56n t56c : Nat} {t57 t58 : Int} {K : EP} {h : Heap} (H :
 nilc d0 (fun t102 =>
 ∃ (t104 : ON), cellH h (Addr.add t102 1) = some (.map t104) ∧
 let t110 : Addr := ⟨Array.size h, 0, none⟩
 let h1 : Heap := Array.push h (.cells #[(.slice b12 b12n b12c), (.int .i64 (b12n : Int))] T_disk_file (0, 0))
 hwp PP (Instr.mapUpdate T_disk_names (.map t104) (.string name9) (.pointer (some t110))) (fun _ h2 =>
 let t111 : Int := IntKind.i64.wrap (t58 + 1)
 L2 d0 choice5 t56 t56n t56c t57 t111 K h2) h1)) : J1 d0 choice5 name9 b12 b12n b12c t56 t56n t56c t57 t58 K h := by unfold J1; exact Jn.of_txt (an 1042847) (by kernel_rfl) H
theorem door {d0 choices1 : OA} {choices1n choices1c : Nat} {Q : VP} {h : Heap} (H :
 let choices3 : Addr := ⟨Array.size h, 0, none⟩
 let h1 : Heap := Array.push h (.cells #[(.slice choices1 choices1n choices1c)] T_sl_int (0, 0))
 let t14 : Bool := (Option.isNone d0)
 br t14 (
 Q (.int .i64 3) h1) (
 nilc d0 (fun t18 =>
 wr (Addr.add t18 5) (.bool false) (fun h2 =>
 nilc d0 (fun t20 =>
 wr (Addr.add t20 6) (.int .i64 0) (fun h3 =>
 nilc d0 (fun t24 =>
 ∃ (t26 : ON), cellH h3 (Addr.add t24 2) = some (.map t26) ∧
 SpecH PP F_maps_Clone_disk_names_string_disk_file [(.map t26)] h3 (fun v h4 => ∃ (t27 : ON), v = (.map t27) ∧
 nilc d0 (fun t28 =>
 wr (Addr.add t28 1) (.map t27) (fun h5 =>
 nilc d0 (fun t31 =>
 nilc d0 (fun t37 =>
 (
 ∃ (t33_3 : OA) (t33_3n t33_3c : Nat), cellH h5 (Addr.add t31 3) = some (.slice t33_3 t33_3n t33_3c) ∧
 (
 callV PP (.func (.func F_disk_Disk_Crash_1) #[] #[(.pointer (some choices3))]) [] (fun v_13 h14 => ∃ (t35_4 : Int), v_13 = (.int .i64 t35_4) ∧
 ∃ (t39_3 : OA) (t39_3n t39_3c : Nat), cellH h14 (Addr.add t37 3) = some (.slice t39_3 t39_3n t39_3c) ∧
 ∃ v_14, PureAt PP F_disk_says [(.int .i64 t35_4), (.int .i64 (t39_3n : Int))] v_14 ∧
 ∃ (t41_4 : Int), v_14 = (.int .i64 t41_4) ∧
 hwp PP (Instr.sliceAt T_sl_disk_change (.slice t33_3 t33_3n t33_3c) none (some (.int .i64 t41_4)) none) (fun v_15 h15 => ∃ (t42_4 : OA) (t42_4n t42_4c : Nat), v_15 = (.slice t42_4 t42_4n t42_4c) ∧
 L1 d0 (.func (.func F_disk_Disk_Crash_1) #[] #[(.pointer (some choices3))]) t42_4 t42_4n t42_4c (t42_4n : Int) 0 (K1 Q) h15) h14) h5) ∧
 (
 ∃ (t39_2 : OA) (t39_2n t39_2c : Nat), cellH h5 (Addr.add t37 3) = some (.slice t39_2 t39_2n t39_2c) ∧
 callV PP (.func (.func F_disk_Disk_Crash_1) #[] #[(.pointer (some choices3))]) [] (fun v_10 h12 => ∃ (t35_3 : Int), v_10 = (.int .i64 t35_3) ∧
 ∃ v_11, PureAt PP F_disk_says [(.int .i64 t35_3), (.int .i64 (t39_2n : Int))] v_11 ∧
 ∃ (t41_3 : Int), v_11 = (.int .i64 t41_3) ∧
 hwp PP (Instr.sliceAt T_sl_disk_change (.slice t33_3 t33_3n t33_3c) none (some (.int .i64 t41_3)) none) (fun v_12 h13 => ∃ (t42_3 : OA) (t42_3n t42_3c : Nat), v_12 = (.slice t42_3 t42_3n t42_3c) ∧
 L1 d0 (.func (.func F_disk_Disk_Crash_1) #[] #[(.pointer (some choices3))]) t42_3 t42_3n t42_3c (t42_3n : Int) 0 (K1 Q) h13) h12) h5) ∧
 True) ∧
 (
 callV PP (.func (.func F_disk_Disk_Crash_1) #[] #[(.pointer (some choices3))]) [] (fun v_7 h10 => ∃ (t35_2 : Int), v_7 = (.int .i64 t35_2) ∧
 ∃ (t33_2 : OA) (t33_2n t33_2c : Nat), cellH h10 (Addr.add t31 3) = some (.slice t33_2 t33_2n t33_2c) ∧
 ∃ (t39_1 : OA) (t39_1n t39_1c : Nat), cellH h10 (Addr.add t37 3) = some (.slice t39_1 t39_1n t39_1c) ∧
 ∃ v_8, PureAt PP F_disk_says [(.int .i64 t35_2), (.int .i64 (t39_1n : Int))] v_8 ∧
 ∃ (t41_2 : Int), v_8 = (.int .i64 t41_2) ∧
 hwp PP (Instr.sliceAt T_sl_disk_change (.slice t33_2 t33_2n t33_2c) none (some (.int .i64 t41_2)) none) (fun v_9 h11 => ∃ (t42_2 : OA) (t42_2n t42_2c : Nat), v_9 = (.slice t42_2 t42_2n t42_2c) ∧
 L1 d0 (.func (.func F_disk_Disk_Crash_1) #[] #[(.pointer (some choices3))]) t42_2 t42_2n t42_2c (t42_2n : Int) 0 (K1 Q) h11) h10) h5) ∧
 (
 ∃ (t39 : OA) (t39n t39c : Nat), cellH h5 (Addr.add t37 3) = some (.slice t39 t39n t39c) ∧
 (
 ∃ (t33_1 : OA) (t33_1n t33_1c : Nat), cellH h5 (Addr.add t31 3) = some (.slice t33_1 t33_1n t33_1c) ∧
 callV PP (.func (.func F_disk_Disk_Crash_1) #[] #[(.pointer (some choices3))]) [] (fun v_4 h8 => ∃ (t35_1 : Int), v_4 = (.int .i64 t35_1) ∧
 ∃ v_5, PureAt PP F_disk_says [(.int .i64 t35_1), (.int .i64 (t39n : Int))] v_5 ∧
 ∃ (t41_1 : Int), v_5 = (.int .i64 t41_1) ∧
 hwp PP (Instr.sliceAt T_sl_disk_change (.slice t33_1 t33_1n t33_1c) none (some (.int .i64 t41_1)) none) (fun v_6 h9 => ∃ (t42_1 : OA) (t42_1n t42_1c : Nat), v_6 = (.slice t42_1 t42_1n t42_1c) ∧
 L1 d0 (.func (.func F_disk_Disk_Crash_1) #[] #[(.pointer (some choices3))]) t42_1 t42_1n t42_1c (t42_1n : Int) 0 (K1 Q) h9) h8) h5) ∧
 (
 callV PP (.func (.func F_disk_Disk_Crash_1) #[] #[(.pointer (some choices3))]) [] (fun v_1 h6 => ∃ (t35 : Int), v_1 = (.int .i64 t35) ∧
 ∃ (t33 : OA) (t33n t33c : Nat), cellH h6 (Addr.add t31 3) = some (.slice t33 t33n t33c) ∧
 ∃ v_2, PureAt PP F_disk_says [(.int .i64 t35), (.int .i64 (t39n : Int))] v_2 ∧
 ∃ (t41 : Int), v_2 = (.int .i64 t41) ∧
 hwp PP (Instr.sliceAt T_sl_disk_change (.slice t33 t33n t33c) none (some (.int .i64 t41)) none) (fun v_3 h7 => ∃ (t42 : OA) (t42n t42c : Nat), v_3 = (.slice t42 t42n t42c) ∧
 L1 d0 (.func (.func F_disk_Disk_Crash_1) #[] #[(.pointer (some choices3))]) t42 t42n t42c (t42n : Int) 0 (K1 Q) h7) h6) h5) ∧
 True) ∧
 True))) h4)))) h2)) h1))) : SpecH PP F_disk_Disk_Crash [(.pointer d0), (.slice choices1 choices1n choices1c)] h Q :=
   spec_of_txt (ann := ann) Tryz.func13 rfl rfl (by kernel_rfl) H
end disk_Disk_Crash
/-! ### (*haversack/wal.Log).Synced: function 14 -/
namespace wal_Log_Synced
def ann : Ann := (.seq 1 (.region [(List.range 1, 1)]) (.seq 1 (.seq 17 (.region [(List.range 2, 17)]) (.cond (.seq 4 (.region [(List.range 1, 4)]) (.exit 4)) .leaf)) (.seq 4 (.region [(List.range 5, 4)]) (.exit 4))))
noncomputable abbrev cd (n : Nat) : Code := sub (bodyOf Tryz.f14) (pth n)
abbrev an (n : Nat) : Ann := subA ann (pth n)
theorem door {xl0 : OA} {Q : VP} {h : Heap} (H :
 let t4 : Bool := (Option.isNone xl0)
 br t4 (
 Q (.int .i64 0) h) (
 nilc xl0 (fun t6 =>
 ∃ (t8 : Int), cellH h (Addr.add t6 2) = some (.int .i64 t8) ∧
 Q (.int .i64 t8) h))) : SpecH PP F_wal_Log_Synced [(.pointer xl0)] h Q :=
   spec_of_txt (ann := ann) Tryz.func14 rfl rfl (by kernel_rfl) H
end wal_Log_Synced
/-! ### (*haversack/wal.Log).Last: function 15 -/
namespace wal_Log_Last
def ann : Ann := (.seq 1 (.region [(List.range 1, 1)]) (.seq 1 (.seq 4097 (.region [(List.range 10, 4097)]) (.join (.cond (.seq 4 (.region [(List.range 1, 4)]) (.exit 4)) .leaf))) (.seq 4 (.region [(List.range 17, 4)]) (.exit 4))))
noncomputable abbrev cd (n : Nat) : Code := sub (bodyOf Tryz.f15) (pth n)
abbrev an (n : Nat) : Ann := subA ann (pth n)
@[irreducible] def K1 (Q : VP) : EP := seqK (fun fr h => ev PP true none (cd 7) (an 7) (fr.mask 1) (bodyK PP Tryz.f15 Q) h) (bodyK PP Tryz.f15 Q)
@[irreducible] def J1 (xl0 : OA) (t12 : Bool) (Q : VP) (h : Heap) : Prop := Jn PP true (cd 13) (mkFr 0 29 [(0, (.pointer xl0)), (12, (.bool t12))]) (K1 Q) h
theorem J1_of {xl0 : OA} {t12 : Bool} {Q : VP} {h : Heap} (H :
 br t12 (
 Q (.int .i64 0) h) (
 nilc xl0 (fun t14 =>
 ∃ (t16 : OA) (t16n t16c : Nat), cellH h (Addr.add t14 1) = some (.slice t16 t16n t16c) ∧
 nilc xl0 (fun t18 =>
 ∃ (t20 : OA) (t20n t20c : Nat), cellH h (Addr.add t18 1) = some (.slice t20 t20n t20c) ∧
 let t22 : Int := IntKind.i64.wrap ((t20n : Int) - 1)
 hwp PP (Instr.indexAt T_sl_p_wal_segment (.slice t16 t16n t16c) (.int .i64 t22)) (fun v h1 => ∃ (t23 : Addr), v = (.pointer (some t23)) ∧
 ∃ (t24 : OA), cellH h1 t23 = some (.pointer t24) ∧
 nilc t24 (fun t25 =>
 ∃ (t27 : Int), cellH h1 (Addr.add t25 2) = some (.int .i64 t27) ∧
 let t28 : Int := IntKind.i64.wrap (t27 - 1)
 Q (.int .i64 t28) h1)) h)))) : J1 xl0 t12 Q h := by unfold J1; exact Jn.of_txt (an 13) (by kernel_rfl) H
theorem door {xl0 : OA} {Q : VP} {h : Heap} (H :
 let t4 : Bool := (Option.isNone xl0)
 br t4 (
 J1 xl0 true Q h) (
 nilc xl0 (fun t7 =>
 ∃ (t9 : OA) (t9n t9c : Nat), cellH h (Addr.add t7 1) = some (.slice t9 t9n t9c) ∧
 let t11 : Bool := ((t9n : Int) == 0)
 J1 xl0 t11 Q h))) : SpecH PP F_wal_Log_Last [(.pointer xl0)] h Q :=
   spec_of_txt (ann := ann) Tryz.func15 rfl rfl (by kernel_rfl) H
end wal_Log_Last
/-! ### (*haversack/wal.Log).First: function 16 -/
namespace wal_Log_First
def ann : Ann := (.seq 1 (.region [(List.range 1, 1)]) (.seq 1 (.seq 4097 (.region [(List.range 10, 4097)]) (.join (.cond (.seq 4 (.region [(List.range 1, 4)]) (.exit 4)) .leaf))) (.seq 4 (.region [(List.range 10, 4)]) (.exit 4))))
noncomputable abbrev cd (n : Nat) : Code := sub (bodyOf Tryz.f16) (pth n)
abbrev an (n : Nat) : Ann := subA ann (pth n)
@[irreducible] def K1 (Q : VP) : EP := seqK (fun fr h => ev PP true none (cd 7) (an 7) (fr.mask 1) (bodyK PP Tryz.f16 Q) h) (bodyK PP Tryz.f16 Q)
@[irreducible] def J1 (xl0 : OA) (t12 : Bool) (Q : VP) (h : Heap) : Prop := Jn PP true (cd 13) (mkFr 0 22 [(0, (.pointer xl0)), (12, (.bool t12))]) (K1 Q) h
theorem J1_of {xl0 : OA} {t12 : Bool} {Q : VP} {h : Heap} (H :
 br t12 (
 Q (.int .i64 0) h) (
 nilc xl0 (fun t14 =>
 ∃ (t16 : OA) (t16n t16c : Nat), cellH h (Addr.add t14 1) = some (.slice t16 t16n t16c) ∧
 hwp PP (Instr.indexAt T_sl_p_wal_segment (.slice t16 t16n t16c) (.int .i64 0)) (fun v h1 => ∃ (t17 : Addr), v = (.pointer (some t17)) ∧
 ∃ (t18 : OA), cellH h1 t17 = some (.pointer t18) ∧
 nilc t18 (fun t19 =>
 ∃ (t21 : Int), cellH h1 (Addr.add t19 1) = some (.int .i64 t21) ∧
 Q (.int .i64 t21) h1)) h))) : J1 xl0 t12 Q h := by unfold J1; exact Jn.of_txt (an 13) (by kernel_rfl) H
theorem door {xl0 : OA} {Q : VP} {h : Heap} (H :
 let t4 : Bool := (Option.isNone xl0)
 br t4 (
 J1 xl0 true Q h) (
 nilc xl0 (fun t7 =>
 ∃ (t9 : OA) (t9n t9c : Nat), cellH h (Addr.add t7 1) = some (.slice t9 t9n t9c) ∧
 let t11 : Bool := ((t9n : Int) == 0)
 J1 xl0 t11 Q h))) : SpecH PP F_wal_Log_First [(.pointer xl0)] h Q :=
   spec_of_txt (ann := ann) Tryz.func16 rfl rfl (by kernel_rfl) H
end wal_Log_First
/-! ### haversack/disk.New: function 17 -/
namespace disk_New
def ann : Ann := (.seq 1 (.region [(List.range 2, 1)]) (.seq 1 (.seq 513 (.region [(List.range 6, 513)]) (.join (.cond (.seq 12 (.region [(List.range 2, 12)]) (.exit 12)) .leaf))) (.seq 12 (.region [(List.range 7, 12)]) (.exit 12))))
noncomputable abbrev cd (n : Nat) : Code := sub (bodyOf Tryz.f17) (pth n)
abbrev an (n : Nat) : Ann := subA ann (pth n)
@[irreducible] def K1 (Q : VP) : EP := seqK (fun fr h => ev PP true none (cd 7) (an 7) (fr.mask 1) (bodyK PP Tryz.f17 Q) h) (bodyK PP Tryz.f17 Q)
@[irreducible] def J1 (room0 : Int) (t9 : Bool) (Q : VP) (h : Heap) : Prop := Jn PP true (cd 13) (mkFr 0 15 [(0, (.int .i64 room0)), (9, (.bool t9))]) (K1 Q) h
theorem J1_of {room0 : Int} {t9 : Bool} {Q : VP} {h : Heap} (H :
 br t9 (
 Q (.tuple #[(.pointer none), (.int .i64 1)]) h) (
 let h1 : Heap := Array.push h (.map #[] 0)
 let h2 : Heap := Array.push h1 (.map #[] 0)
 let t14 : Addr := ⟨Array.size h2, 0, none⟩
 let h3 : Heap := Array.push h2 (.cells #[(.int .i64 room0), (.map (some (Array.size h))), (.map (some (Array.size h1))), (.slice none 0 0), (.int .i64 0), (.bool false), (.int .i64 0)] T_disk_Disk (0, 0))
 Q (.tuple #[(.pointer (some t14)), (.int .i64 0)]) h3)) : J1 room0 t9 Q h := by unfold J1; exact Jn.of_txt (an 13) (by kernel_rfl) H
theorem door {room0 : Int} {Q : VP} {h : Heap} (H :
 let t5 : Bool := decide (room0 < 1)
 br t5 (
 J1 room0 true Q h) (
 let t8 : Bool := decide (room0 > 4194304)
 J1 room0 t8 Q h)) : SpecH PP F_disk_New [(.int .i64 room0)] h Q :=
   spec_of_txt (ann := ann) Tryz.func17 rfl rfl (by kernel_rfl) H
end disk_New
/-! ### (*haversack/disk.Disk).Down: function 18 -/
namespace disk_Disk_Down
def ann : Ann := (.seq 1 (.region [(List.range 1, 1)]) (.seq 4 (.region [(List.range 16, 4)]) (.exit 4)))
noncomputable abbrev cd (n : Nat) : Code := sub (bodyOf Tryz.f18) (pth n)
abbrev an (n : Nat) : Ann := subA ann (pth n)
theorem door {d0 : OA} {Q : VP} {h : Heap} (H :
 let t4 : Bool := (!Option.isNone d0)
 br t4 (
 nilc d0 (fun t7 =>
 ∃ (t9 : Bool), cellH h (Addr.add t7 5) = some (.bool t9) ∧
 br t9 (
 nilc d0 (fun t13 =>
 ∃ (t15 : Int), cellH h (Addr.add t13 6) = some (.int .i64 t15) ∧
 let t16 : Bool := (t15 == 0)
 Q (.bool t16) h)) (
 Q (.bool false) h))) (
 Q (.bool false) h)) : SpecH PP F_disk_Disk_Down [(.pointer d0)] h Q :=
   spec_of_txt (ann := ann) Tryz.func18 rfl rfl (by kernel_rfl) H
end disk_Disk_Down
/-! ### strings.HasPrefix: function 19 -/
namespace strings_HasPrefix
def ann : Ann := (.seq 3 (.region [(List.range 1, 3)]) (.seq 16 (.region [(List.range 4, 16)]) (.exit 16)))
noncomputable abbrev cd (n : Nat) : Code := sub (bodyOf Tryz.f19) (pth n)
abbrev an (n : Nat) : Ann := subA ann (pth n)
theorem door {s0 prefix1 : ByteArray} {Q : VP} {h : Heap} (H :
 SpecH PP F_internal_stringslite_HasPrefix [(.string s0), (.string prefix1)] h (fun v h1 => ∃ (t7 : Bool), v = (.bool t7) ∧
 Q (.bool t7) h1)) : SpecH PP F_strings_HasPrefix [(.string s0), (.string prefix1)] h Q :=
   spec_of_txt (ann := ann) Tryz.func19 rfl rfl (by kernel_rfl) H
end strings_HasPrefix
/-! ### (*haversack/disk.Disk).Read: function 21 -/
namespace disk_Disk_Read
def ann : Ann := (.seq 3 (.region [(List.range 2, 3)]) (.seq 192 (.region [(List.range 8, 192)]) (.seq 64 (.seq 32960 (.region [(List.range 2, 32960)]) (.cond (.seq 48 (.region [(List.range 3, 48)]) (.exit 48)) .leaf)) (.seq 48 (.region [(List.range 7, 48)]) (.exit 48)))))
noncomputable abbrev cd (n : Nat) : Code := sub (bodyOf Tryz.f21) (pth n)
abbrev an (n : Nat) : Ann := subA ann (pth n)
theorem door {d0 : OA} {name1 : ByteArray} {Q : VP} {h : Heap} (H :
 SpecH PP F_disk_Disk_find [(.pointer d0), (.string name1)] h (fun v h1 => ∃ (t11 : OA) (t11_1 : Int), v = (.tuple #[(.pointer t11), (.int .i64 t11_1)]) ∧
 let t15 : Bool := (t11_1 != 0)
 br t15 (
 Q (.tuple #[(.slice none 0 0), (.int .i64 t11_1)]) h1) (
 nilc t11 (fun t18 =>
 ∃ (t20 : OA) (t20n t20c : Nat), cellH h1 t18 = some (.slice t20 t20n t20c) ∧
 SpecH PP F_slices_Clone_byte_byte [(.slice t20 t20n t20c)] h1 (fun v_1 h2 => ∃ (t21 : OA) (t21n t21c : Nat), v_1 = (.slice t21 t21n t21c) ∧
 Q (.tuple #[(.slice t21 t21n t21c), (.int .i64 0)]) h2))))) : SpecH PP F_disk_Disk_Read [(.pointer d0), (.string name1)] h Q :=
   spec_of_txt (ann := ann) Tryz.func21 rfl rfl (by kernel_rfl) H
end disk_Disk_Read
/-! ### haversack/wal.begins: function 22 -/
namespace wal_begins
def ann : Ann := (.seq 1 (.region [(List.range 2, 1)]) (.seq 1 (.seq 65537 (.region [(List.range 9, 65537)]) (.join (.cond (.seq 12 (.region [(List.range 2, 12)]) (.exit 12)) .leaf))) (.seq 17 (.region [(List.range 7, 17)]) (.seq 80 (.region [(List.range 7, 80)]) (.seq 12 (.region [(List.range 6, 12)]) (.exit 12))))))
noncomputable abbrev cd (n : Nat) : Code := sub (bodyOf Tryz.f22) (pth n)
abbrev an (n : Nat) : Ann := subA ann (pth n)
@[irreducible] def K1 (Q : VP) : EP := seqK (fun fr h => ev PP true none (cd 7) (an 7) (fr.mask 1) (bodyK PP Tryz.f22 Q) h) (bodyK PP Tryz.f22 Q)
@[irreducible] def J1 (b0 : OA) (b0n b0c : Nat) (t16 : Bool) (Q : VP) (h : Heap) : Prop := Jn PP true (cd 13) (mkFr 0 31 [(0, (.slice b0 b0n b0c)), (16, (.bool t16))]) (K1 Q) h
theorem J1_of {b0 : OA} {b0n b0c : Nat} {t16 : Bool} {Q : VP} {h : Heap} (H :
 br t16 (
 Q (.tuple #[(.int .i64 0), (.bool false)]) h) (
 SpecH PP F_little_Get32 [(.slice b0 b0n b0c), (.int .i64 0)] h (fun v h1 => ∃ (t19 t19_1 : Int), v = (.tuple #[(.int .u32 t19), (.int .i64 t19_1)]) ∧
 SpecH PP F_little_Get64 [(.slice b0 b0n b0c), (.int .i64 4)] h1 (fun v_1 h2 => ∃ (t24 t24_1 : Int), v_1 = (.tuple #[(.int .u64 t24), (.int .i64 t24_1)]) ∧
 let t28 : Int := IntKind.i64.wrap t24
 let t30 : Bool := (t19 == 1818326888)
 Q (.tuple #[(.int .i64 t28), (.bool t30)]) h2)))) : J1 b0 b0n b0c t16 Q h := by unfold J1; exact Jn.of_txt (an 13) (by kernel_rfl) H
theorem door {b0 : OA} {b0n b0c : Nat} {Q : VP} {h : Heap} (H :
 let t10 : Bool := decide ((b0n : Int) < 16)
 br t10 (
 J1 b0 b0n b0c true Q h) (
 hwp PP (Instr.sliceAt T_sl_uint8 (.slice b0 b0n b0c) none (some (.int .i64 16)) none) (fun v h1 => ∃ (t13 : OA) (t13n t13c : Nat), v = (.slice t13 t13n t13c) ∧
 SpecH PP F_wal_whole [(.slice t13 t13n t13c)] h1 (fun v_1 h2 => ∃ (t14 : Bool), v_1 = (.bool t14) ∧
 let t15 : Bool := (!t14)
 J1 b0 b0n b0c t15 Q h2)) h)) : SpecH PP F_wal_begins [(.slice b0 b0n b0c)] h Q :=
   spec_of_txt (ann := ann) Tryz.func22 rfl rfl (by kernel_rfl) H
end wal_begins
/-! ### haversack/wal.records: function 23 -/
namespace wal_records
def ann : Ann := (.seq 19 (.region [(List.range 2, 19)]) (.seq 17 (.seq 19 (.region [(List.range 3, 19)]) (.block (.loop 19 (.seq 19 (.seq 16403 (.region [(List.range 3, 16403)]) (.cond .leaf (.exit 17))) (.block (.seq 83 (.region [(List.range 7, 83)]) (.seq 339 (.region [(List.range 7, 339)]) (.seq 83 (.seq 562949953421395 (.region [(List.range 25, 562949953421395)]) (.join (.cond (.seq 48 (.region [(List.range 3, 48)]) (.exit 48)) .leaf))) (.seq 83 (.region [(List.range 11, 83)]) (.seq 19 (.region [(List.range 6, 19)]) (.region [(List.range 3, 19)]))))))))))) (.seq 48 (.region [(List.range 6, 48)]) (.exit 48))))
noncomputable abbrev cd (n : Nat) : Code := sub (bodyOf Tryz.f23) (pth n)
abbrev an (n : Nat) : Ann := subA ann (pth n)
@[irreducible] def X0 (b0 : OA) (b0n b0c : Nat) (xl4 : OA) (xl4n xl4c : Nat) : Fr := (mkFr 0 72 [(0, (.slice b0 b0n b0c)), (4, (.slice xl4 xl4n xl4c))])
@[irreducible] def Xret (xl4 : OA) (xl4n xl4c : Nat) (well5 : Bool) : Fr := (mkFr 0 72 [(4, (.slice xl4 xl4n xl4c)), (5, (.bool well5))])
@[irreducible] def L1 (b0 : OA) (b0n b0c : Nat) (seq1 : Int) (xl4 : OA) (xl4n xl4c : Nat) (K : EP) (h : Heap) : Prop := Lp PP true (cd 52) (mkFr 0 72 [(0, (.slice b0 b0n b0c)), (1, (.int .i64 seq1)), (4, (.slice xl4 xl4n xl4c))]) K h
@[irreducible] def B1 (K : EP) : EP := seqK (fun fr h => Lp PP true (cd 52) (fr.mask 19) K h) K
@[irreducible] def K4 (K : EP) : EP := blockK 1 (B1 K)
@[irreducible] def K2 (K : EP) : EP := seqK (fun fr h => ev PP true none (cd 1687) (an 1687) (fr.mask 83) (K4 K) h) (K4 K)
@[irreducible] def J1 (b0 : OA) (b0n b0c : Nat) (seq1 : Int) (xl4 : OA) (xl4n xl4c : Nat) (xn6 : Int) (t49 : Bool) (K : EP) (h : Heap) : Prop := Jn PP true (cd 3373) (mkFr 0 72 [(0, (.slice b0 b0n b0c)), (1, (.int .i64 seq1)), (4, (.slice xl4 xl4n xl4c)), (6, (.int .u32 xn6)), (49, (.bool t49))]) (K2 K) h
@[irreducible] def K3 (Q : VP) : EP := seqK (fun fr h => ev PP true none (cd 7) (an 7) (fr.mask 17) (bodyK PP Tryz.f23 Q) h) (bodyK PP Tryz.f23 Q)
@[irreducible] def K1 (Q : VP) : EP := blockK 0 (K3 Q)
theorem L1_of {b0 : OA} {b0n b0c : Nat} {seq1 : Int} {xl4 : OA} {xl4n xl4c : Nat} {K : EP} {h : Heap} (H :
 let t14 : Bool := decide ((b0n : Int) ≥ 16)
 br t14 (
 SpecH PP F_little_Get32 [(.slice b0 b0n b0c), (.int .i64 0)] h (fun v h1 => ∃ (t17 t17_1 : Int), v = (.tuple #[(.int .u32 t17), (.int .i64 t17_1)]) ∧
 SpecH PP F_little_Get64 [(.slice b0 b0n b0c), (.int .i64 4)] h1 (fun v_1 h2 => ∃ (t22 t22_1 : Int), v_1 = (.tuple #[(.int .u64 t22), (.int .i64 t22_1)]) ∧
 let t26 : Bool := decide (t17 > 65536)
 br t26 (
 J1 b0 b0n b0c seq1 xl4 xl4n xl4c t17 true K h2) (
 let t29 : Int := IntKind.i64.wrap t17
 let t30 : Int := IntKind.i64.wrap (t29 + 16)
 let t33 : Bool := decide (t30 > (b0n : Int))
 br t33 (
 J1 b0 b0n b0c seq1 xl4 xl4n xl4c t17 true K h2) (
 let t38 : Int := IntKind.u64.wrap seq1
 let t39 : Bool := (t22 != t38)
 br t39 (
 J1 b0 b0n b0c seq1 xl4 xl4n xl4c t17 true K h2) (
 let t44 : Int := IntKind.i64.wrap t17
 let t45 : Int := IntKind.i64.wrap (t44 + 16)
 hwp PP (Instr.sliceAt T_sl_uint8 (.slice b0 b0n b0c) none (some (.int .i64 t45)) none) (fun v_2 h3 => ∃ (t46 : OA) (t46n t46c : Nat), v_2 = (.slice t46 t46n t46c) ∧
 SpecH PP F_wal_whole [(.slice t46 t46n t46c)] h3 (fun v_3 h4 => ∃ (t47 : Bool), v_3 = (.bool t47) ∧
 let t48 : Bool := (!t47)
 J1 b0 b0n b0c seq1 xl4 xl4n xl4c t17 t48 K h4)) h2)))))) (
 K (.exit 0) (X0 b0 b0n b0c xl4 xl4n xl4c) h)) : L1 b0 b0n b0c seq1 xl4 xl4n xl4c K h := by unfold L1; exact Lp.of_txt (an 52) 19 (by kernel_rfl) H
theorem L1_X0 {Q : VP} {b0 : OA} {b0n b0c : Nat} {xl4 : OA} {xl4n xl4c : Nat} {h : Heap} (H :
 let t71 : Bool := ((b0n : Int) == 0)
 Q (.tuple #[(.slice xl4 xl4n xl4c), (.bool t71)]) h) : (K1 Q) (.exit 0) (X0 b0 b0n b0c xl4 xl4n xl4c) h := of_eq_txt (by kernel_rfl) H
theorem J1_of {b0 : OA} {b0n b0c : Nat} {seq1 : Int} {xl4 : OA} {xl4n xl4c : Nat} {xn6 : Int} {t49 : Bool} {K : EP} {h : Heap} (H :
 br t49 (
 K .ret (Xret xl4 xl4n xl4c false) h) (
 let t55 : Int := IntKind.u32.wrap (12 + xn6)
 hwp PP (Instr.sliceAt T_sl_uint8 (.slice b0 b0n b0c) (some (.int .i64 12)) (some (.int .u32 t55)) none) (fun v h1 => ∃ (t56 : OA) (t56n t56c : Nat), v = (.slice t56 t56n t56c) ∧
 hwp PP (Go.convert T_sl_uint8 T_string (.slice t56 t56n t56c)) (fun v_1 h2 => ∃ (t57 : ByteArray), v_1 = (.string t57) ∧
 let h3 : Heap := Array.push h2 (.cells #[(.int .i64 seq1), (.string t57)] T_api_Record (0, 0))
 hwp PP (Builtin.append_ #[T_sl_api_Record, T_sl_api_Record] T_sl_api_Record #[(.slice xl4 xl4n xl4c), (.slice (some ⟨Array.size h2, 0, none⟩) 1 1)]) (fun v_2 h4 => ∃ (t60 : OA) (t60n t60c : Nat), v_2 = (.slice t60 t60n t60c) ∧
 let t63 : Int := IntKind.i64.wrap xn6
 let t64 : Int := IntKind.i64.wrap (t63 + 16)
 hwp PP (Instr.sliceAt T_sl_uint8 (.slice b0 b0n b0c) (some (.int .i64 t64)) none none) (fun v_3 h5 => ∃ (t65 : OA) (t65n t65c : Nat), v_3 = (.slice t65 t65n t65c) ∧
 let t67 : Int := IntKind.i64.wrap (seq1 + 1)
 L1 t65 t65n t65c t67 t60 t60n t60c K h5) h4) h3) h1) h)) : J1 b0 b0n b0c seq1 xl4 xl4n xl4c xn6 t49 K h := by unfold J1; exact Jn.of_txt (an 3373) (by kernel_rfl) H
theorem L1_Xret {Q : VP} {xl4 : OA} {xl4n xl4c : Nat} {well5 : Bool} {h : Heap} (H :
 Q (.tuple #[(.slice xl4 xl4n xl4c), (.bool well5)]) h) : (K1 Q) .ret (Xret xl4 xl4n xl4c well5) h := of_eq_txt (by kernel_rfl) H
theorem door {b0 : OA} {b0n b0c : Nat} {seq1 : Int} {Q : VP} {h : Heap} (H :
 hwp PP (Instr.sliceAt T_sl_uint8 (.slice b0 b0n b0c) (some (.int .i64 16)) none none) (fun v h1 => ∃ (t11 : OA) (t11n t11c : Nat), v = (.slice t11 t11n t11c) ∧
 L1 t11 t11n t11c seq1 none 0 0 (K1 Q) h1) h) : SpecH PP F_wal_records [(.slice b0 b0n b0c), (.int .i64 seq1)] h Q :=
   spec_of_txt (ann := ann) Tryz.func23 rfl rfl (by kernel_rfl) H
end wal_records
/-! ### (*haversack/wal.Log).settle: function 24 -/
namespace wal_Log_settle
def ann : Ann := (.seq 15 (.region [(List.range 1, 15)]) (.seq 15 (.region [(List.range 4, 15)]) (.seq 13 (.seq 234881037 (.region [(List.range 3, 234881037)]) (.block (.loop 234881037 (.seq 503316493 (.region [(List.range 1, 503316493)]) (.seq 234881037 (.cond .leaf (.exit 13)) (.seq 234881037 (.block (.seq 234882061 (.region [(List.range 3, 234882061)]) (.seq 234883085 (.region [(List.range 7, 234883085)]) (.seq 275112790029 (.region [(List.range 2, 275112790029)]) (.cond (.seq 256 (.region [(List.range 2, 256)]) (.exit 256)) .leaf))))) (.region [(List.range 2, 234881037)]))))))) (.seq 13 (.seq 4109 (.region [(List.range 3, 4109)]) (.seq 17592186048525 (.region [(List.range 2, 17592186048525)]) (.cond (.seq 256 (.region [(List.range 2, 256)]) (.exit 256)) .leaf))) (.seq 5 (.seq 70368744177669 (.region [(List.range 1, 70368744177669)]) (.cond (.seq 256 (.region [(List.range 1, 256)]) (.exit 256)) .leaf)) (.seq 8197 (.region [(List.range 1, 8197)]) (.seq 24581 (.region [(List.range 4, 24581)]) (.seq 24581 (.seq 57349 (.region [(List.range 6, 57349)]) (.seq 36893488147419160581 (.region [(List.range 11, 36893488147419160581)]) (.join (.cond (.seq 40965 (.region [(List.range 9, 40965)]) (.seq 8197 (.region [(List.range 11, 8197)]) (.region [(List.range 5, 24581)]))) (.region [(List.range 1, 24581)]))))) (.join (.seq 8197 (.seq 73733 (.region [(List.range 4, 73733)]) (.seq 4951760157141521099596570629 (.region [(List.range 2, 4951760157141521099596570629)]) (.cond (.seq 256 (.region [(List.range 2, 256)]) (.exit 256)) .leaf))) (.seq 8193 (.seq 138649284399962590788701921281 (.region [(List.range 3, 138649284399962590788701921281)]) (.block (.loop 138649284399962590788701921281 (.seq 297105609428491265975789821953 (.region [(List.range 1, 297105609428491265975789821953)]) (.seq 138649284399962590788701921281 (.cond .leaf (.exit 8193)) (.seq 138649284399962590788701921281 (.block (.seq 138649284399962590788702183425 (.region [(List.range 4, 138649284399962590788702183425)]) (.seq 138649284399962590788702445569 (.region [(List.range 4, 138649284399962590788702445569)]) (.seq 20421058888051633014735953731585 (.region [(List.range 2, 20421058888051633014735953731585)]) (.cond (.seq 256 (.region [(List.range 2, 256)]) (.exit 256)) .leaf))))) (.region [(List.range 2, 138649284399962590788701921281)]))))))) (.seq 8193 (.seq 1056769 (.region [(List.range 3, 1056769)]) (.seq 20769187434139310514121985317937153 (.region [(List.range 6, 20769187434139310514121985317937153)]) (.join (.cond (.seq 256 (.region [(List.range 2, 256)]) (.exit 256)) .leaf)))) (.seq 8193 (.region [(List.range 4, 8193)]) (.seq 1 (.seq 2097153 (.region [(List.range 10, 2097153)]) (.seq 680564733841876926926749214863538520065 (.region [(List.range 2, 680564733841876926926749214863538520065)]) (.cond (.seq 256 (.region [(List.range 2, 256)]) (.exit 256)) .leaf))) (.seq 256 (.region [(List.range 3, 256)]) (.exit 256))))))))))))))))
noncomputable abbrev cd (n : Nat) : Code := sub (bodyOf Tryz.f24) (pth n)
abbrev an (n : Nat) : Ann := subA ann (pth n)
@[irreducible] def Xret (t8 : Int) : Fr := (mkFr 0 133 [(8, (.int .i64 t8))])
@[irreducible] def X0 (xl0 last2 : OA) (last2n last2c : Nat) (well3 : Bool) : Fr := (mkFr 0 133 [(0, (.pointer xl0)), (2, (.slice last2 last2n last2c)), (3, (.bool well3))])
@[irreducible] def X2 (xl0 old13 : OA) : Fr := (mkFr 0 133 [(0, (.pointer xl0)), (13, (.pointer old13))])
@[irreducible] def L1 (xl0 last2 : OA) (last2n last2c : Nat) (well3 : Bool) (t25 : OA) (t25n t25c : Nat) (t26 t27 : Int) (K : EP) (h : Heap) : Prop := Lp PP true (cd 116) (mkFr 0 133 [(0, (.pointer xl0)), (2, (.slice last2 last2n last2c)), (3, (.bool well3)), (25, (.slice t25 t25n t25c)), (26, (.int .i64 t26)), (27, (.int .i64 t27))]) K h
@[irreducible] def B1 (K : EP) : EP := seqK (fun fr h => Lp PP true (cd 116) (fr.mask 234881037) K h) K
@[irreducible] def K2 (Q : VP) : EP := seqK (fun fr h => ev PP true none (cd 15) (an 15) (fr.mask 13) (bodyK PP Tryz.f24 Q) h) (bodyK PP Tryz.f24 Q)
@[irreducible] def K1 (Q : VP) : EP := blockK 0 (K2 Q)
@[irreducible] def K3 (Q : VP) : EP := seqK (fun fr h => Jn PP true (cd 511) (fr.mask 24581) (bodyK PP Tryz.f24 Q) h) (bodyK PP Tryz.f24 Q)
@[irreducible] def J1 (xl0 last2 : OA) (last2n last2c : Nat) (old13 : OA) (next14 xn15 : Int) (t65 : Bool) (Q : VP) (h : Heap) : Prop := Jn PP true (cd 2043) (mkFr 0 133 [(0, (.pointer xl0)), (2, (.slice last2 last2n last2c)), (13, (.pointer old13)), (14, (.int .i64 next14)), (15, (.int .i64 xn15)), (65, (.bool t65))]) (K3 Q) h
@[irreducible] def J2 (xl0 last2 : OA) (last2n last2c : Nat) (old13 : OA) (next14 : Int) (Q : VP) (h : Heap) : Prop := Jn PP true (cd 511) (mkFr 0 133 [(0, (.pointer xl0)), (2, (.slice last2 last2n last2c)), (13, (.pointer old13)), (14, (.int .i64 next14))]) (bodyK PP Tryz.f24 Q) h
@[irreducible] def K5 (Q : VP) : EP := seqK (fun fr h => ev PP true none (cd 2047) (an 2047) (fr.mask 8193) (bodyK PP Tryz.f24 Q) h) (bodyK PP Tryz.f24 Q)
@[irreducible] def K4 (Q : VP) : EP := blockK 2 (K5 Q)
@[irreducible] def L2 (xl0 old13 t94 : OA) (t94n t94c : Nat) (t95 t96 : Int) (K : EP) (h : Heap) : Prop := Lp PP true (cd 16372) (mkFr 0 133 [(0, (.pointer xl0)), (13, (.pointer old13)), (94, (.slice t94 t94n t94c)), (95, (.int .i64 t95)), (96, (.int .i64 t96))]) K h
@[irreducible] def B2 (K : EP) : EP := seqK (fun fr h => Lp PP true (cd 16372) (fr.mask 138649284399962590788701921281) K h) K
@[irreducible] def K6 (Q : VP) : EP := seqK (fun fr h => ev PP true none (cd 4095) (an 4095) (fr.mask 8193) (bodyK PP Tryz.f24 Q) h) (bodyK PP Tryz.f24 Q)
@[irreducible] def J3 (xl0 old13 : OA) (e20 : Int) (t114 : Bool) (Q : VP) (h : Heap) : Prop := Jn PP true (cd 16379) (mkFr 0 133 [(0, (.pointer xl0)), (13, (.pointer old13)), (20, (.int .i64 e20)), (114, (.bool t114))]) (K6 Q) h
theorem L1_of {xl0 last2 : OA} {last2n last2c : Nat} {well3 : Bool} {t25 : OA} {t25n t25c : Nat} {t26 t27 : Int} {K : EP} {h : Heap} (H :
 let t28 : Bool := decide (t27 < t26)
 br t28 (
 hwp PP (Instr.indexAt T_sl_string (.slice t25 t25n t25c) (.int .i64 t27)) (fun v h1 => ∃ (t29 : Addr), v = (.pointer (some t29)) ∧
 ∃ (t30 : ByteArray), cellH h1 t29 = some (.string t30) ∧
 nilc xl0 (fun t32 =>
 ∃ (t34 : OA), cellH h1 t32 = some (.pointer t34) ∧
 SpecH PP F_disk_Disk_Remove [(.pointer t34), (.string t30)] h1 (fun v_1 h2 => ∃ (t36 : Int), v_1 = (.int .i64 t36) ∧
 let t38 : Bool := (t36 != 0)
 br t38 (
 K .ret (Xret t36) h2) (
 let t40 : Int := IntKind.i64.wrap (t27 + 1)
 L1 xl0 last2 last2n last2c well3 t25 t25n t25c t26 t40 K h2)))) h) (
 K (.exit 0) (X0 xl0 last2 last2n last2c well3) h)) : L1 xl0 last2 last2n last2c well3 t25 t25n t25c t26 t27 K h := by unfold L1; exact Lp.of_txt (an 116) 234881037 (by kernel_rfl) H
theorem L1_Xret {Q : VP} {t8 : Int} {h : Heap} (H :
 Q (.int .i64 t8) h) : (K1 Q) .ret (Xret t8) h := of_eq_txt (by kernel_rfl) H
theorem L1_X0 {Q : VP} {xl0 last2 : OA} {last2n last2c : Nat} {well3 : Bool} {h : Heap} (H :
 SpecH PP F_wal_Log_Sync [(.pointer xl0)] h (fun v h1 => ∃ (t42 : Int), v = (.int .i64 t42) ∧
 let t44 : Bool := (t42 != 0)
 br t44 (
 Q (.int .i64 t42) h1) (
 br well3 (
 Q (.int .i64 0) h1) (
 SpecH PP F_wal_Log_Last [(.pointer xl0)] h1 (fun v_1 h2 => ∃ (t48 : Int), v_1 = (.int .i64 t48) ∧
 let t49 : Int := IntKind.i64.wrap (t48 + 1)
 nilc xl0 (fun t51 =>
 ∃ (t53 : OA) (t53n t53c : Nat), cellH h2 (Addr.add t51 1) = some (.slice t53 t53n t53c) ∧
 let t56 : Bool := decide ((t53n : Int) > 0)
 br t56 (
 let t59 : Bool := decide ((t53n : Int) ≥ 8)
 br t59 (
 J1 xl0 last2 last2n last2c none t49 (t53n : Int) true Q h2) (
 let t63 : Bool := ((last2n : Int) == 0)
 J1 xl0 last2 last2n last2c none t49 (t53n : Int) t63 Q h2)) (
 J1 xl0 last2 last2n last2c none t49 (t53n : Int) false Q h2))))))) : (K1 Q) (.exit 0) (X0 xl0 last2 last2n last2c well3) h := of_eq_txt (by kernel_rfl) H
theorem J1_of {xl0 last2 : OA} {last2n last2c : Nat} {old13 : OA} {next14 xn15 : Int} {t65 : Bool} {Q : VP} {h : Heap} (H :
 br t65 (
 nilc xl0 (fun t67 =>
 ∃ (t69 : OA) (t69n t69c : Nat), cellH h (Addr.add t67 1) = some (.slice t69 t69n t69c) ∧
 let t71 : Int := IntKind.i64.wrap (xn15 - 1)
 hwp PP (Instr.indexAt T_sl_p_wal_segment (.slice t69 t69n t69c) (.int .i64 t71)) (fun v h1 => ∃ (t72 : Addr), v = (.pointer (some t72)) ∧
 ∃ (t73 : OA), cellH h1 t72 = some (.pointer t73) ∧
 nilc xl0 (fun t76 =>
 ∃ (t78 : OA) (t78n t78c : Nat), cellH h1 (Addr.add t76 1) = some (.slice t78 t78n t78c) ∧
 let t80 : Int := IntKind.i64.wrap (xn15 - 1)
 hwp PP (Instr.sliceAt T_sl_p_wal_segment (.slice t78 t78n t78c) none (some (.int .i64 t80)) none) (fun v_1 h2 => ∃ (t81 : OA) (t81n t81c : Nat), v_1 = (.slice t81 t81n t81c) ∧
 nilc xl0 (fun t82 =>
 wr (Addr.add t82 1) (.slice t81 t81n t81c) (fun h3 =>
 nilc t73 (fun t85 =>
 ∃ (t87 : Int), cellH h3 (Addr.add t85 1) = some (.int .i64 t87) ∧
 J2 xl0 last2 last2n last2c t73 t87 Q h3)) h2)) h1)) h)) (
 J2 xl0 none 0 0 old13 next14 Q h)) : J1 xl0 last2 last2n last2c old13 next14 xn15 t65 Q h := by unfold J1; exact Jn.of_txt (an 2043) (by kernel_rfl) H
theorem J2_of {xl0 last2 : OA} {last2n last2c : Nat} {old13 : OA} {next14 : Int} {Q : VP} {h : Heap} (H :
 SpecH PP F_wal_Log_begin [(.pointer xl0), (.int .i64 next14)] h (fun v h1 => ∃ (t90 : Int), v = (.int .i64 t90) ∧
 let t92 : Bool := (t90 != 0)
 br t92 (
 Q (.int .i64 t90) h1) (
 L2 xl0 old13 last2 last2n last2c (last2n : Int) 0 (K4 Q) h1))) : J2 xl0 last2 last2n last2c old13 next14 Q h := by unfold J2; exact Jn.of_txt (an 511) (by kernel_rfl) H
theorem L2_of {xl0 old13 t94 : OA} {t94n t94c : Nat} {t95 t96 : Int} {K : EP} {h : Heap} (H :
 let t97 : Bool := decide (t96 < t95)
 br t97 (
 hwp PP (Instr.indexAt T_sl_api_Record (.slice t94 t94n t94c) (.int .i64 t96)) (fun v h1 => ∃ (t98 : Addr), v = (.pointer (some t98)) ∧
 ∃ (t99f0 : Int) (t99f1 : ByteArray), rdCells h1 t98 0 [(.int .i64 t99f0), (.string t99f1)] ∧
 let r18 : Addr := ⟨Array.size h1, 0, none⟩
 let h2 : Heap := Array.push h1 (.cells #[(.int .i64 0), (.string (⟨#[]⟩ : ByteArray))] T_api_Record (0, 0))
 wrCells r18 0 [(.int .i64 t99f0), (.string t99f1)] (fun h3 =>
 ∃ (t101f0 : Int) (t101f1 : ByteArray), rdCells h3 r18 0 [(.int .i64 t101f0), (.string t101f1)] ∧
 SpecH PP F_wal_Log_lay [(.pointer xl0), (.agg #[(.int .i64 t101f0), (.string t101f1)])] h3 (fun v_1 h4 => ∃ (t102 : Int), v_1 = (.int .i64 t102) ∧
 let t104 : Bool := (t102 != 0)
 br t104 (
 K .ret (Xret t102) h4) (
 let t106 : Int := IntKind.i64.wrap (t96 + 1)
 L2 xl0 old13 t94 t94n t94c t95 t106 K h4))) h2) h) (
 K (.exit 2) (X2 xl0 old13) h)) : L2 xl0 old13 t94 t94n t94c t95 t96 K h := by unfold L2; exact Lp.of_txt (an 16372) 138649284399962590788701921281 (by kernel_rfl) H
theorem L2_Xret {Q : VP} {t8 : Int} {h : Heap} (H :
 Q (.int .i64 t8) h) : (K4 Q) .ret (Xret t8) h := of_eq_txt (by kernel_rfl) H
theorem L2_X2 {Q : VP} {xl0 old13 : OA} {h : Heap} (H :
 SpecH PP F_wal_Log_Sync [(.pointer xl0)] h (fun v h1 => ∃ (t108 : Int), v = (.int .i64 t108) ∧
 let t110 : Bool := (t108 != 0)
 br t110 (
 J3 xl0 old13 t108 true Q h1) (
 let t113 : Bool := (Option.isNone old13)
 J3 xl0 old13 t108 t113 Q h1))) : (K4 Q) (.exit 2) (X2 xl0 old13) h := of_eq_txt (by kernel_rfl) H
theorem J3_of {xl0 old13 : OA} {e20 : Int} {t114 : Bool} {Q : VP} {h : Heap} (H :
 br t114 (
 Q (.int .i64 e20) h) (
 nilc xl0 (fun t117 =>
 wr (Addr.add t117 3) (.bool true) (fun h1 =>
 nilc xl0 (fun t120 =>
 ∃ (t122 : OA), cellH h1 t120 = some (.pointer t122) ∧
 nilc old13 (fun t124 =>
 ∃ (t126 : ByteArray), cellH h1 t124 = some (.string t126) ∧
 SpecH PP F_disk_Disk_Remove [(.pointer t122), (.string t126)] h1 (fun v h2 => ∃ (t127 : Int), v = (.int .i64 t127) ∧
 let t129 : Bool := (t127 != 0)
 br t129 (
 Q (.int .i64 t127) h2) (
 SpecH PP F_wal_Log_Sync [(.pointer xl0)] h2 (fun v_1 h3 => ∃ (t132 : Int), v_1 = (.int .i64 t132) ∧
 Q (.int .i64 t132) h3)))))) h))) : J3 xl0 old13 e20 t114 Q h := by unfold J3; exact Jn.of_txt (an 16379) (by kernel_rfl) H
theorem door {xl0 stale1 : OA} {stale1n stale1c : Nat} {last2 : OA} {last2n last2c : Nat} {well3 : Bool} {Q : VP} {h : Heap} (H :
 nilc xl0 (fun t23 =>
 wr (Addr.add t23 3) (.bool true) (fun h1 =>
 L1 xl0 last2 last2n last2c well3 stale1 stale1n stale1c (stale1n : Int) 0 (K1 Q) h1) h)) : SpecH PP F_wal_Log_settle [(.pointer xl0), (.slice stale1 stale1n stale1c), (.slice last2 last2n last2c), (.bool well3)] h Q :=
   spec_of_txt (ann := ann) Tryz.func24 rfl rfl (by kernel_rfl) H
end wal_Log_settle
/-! ### (*haversack/wal.Log).begin: function 25 -/
namespace wal_Log_begin
def ann : Ann := (.seq 3 (.region [(List.range 1, 3)]) (.seq 35 (.region [(List.range 8, 35)]) (.seq 67 (.region [(List.range 7, 67)]) (.seq 67 (.seq 195 (.region [(List.range 10, 195)]) (.seq 68719476931 (.region [(List.range 6, 68719476931)]) (.join (.cond (.seq 16 (.region [(List.range 2, 16)]) (.exit 16)) .leaf)))) (.seq 67 (.region [(List.range 4, 67)]) (.seq 65 (.seq 321 (.tree (.run [0, 1, 2, 4, 5, 6, 8] (.alt 3 (.alt 7 (.run [9, 10, 11] .done) (.alt 9 (.run [7, 10, 11] .done) .nil)) (.alt 7 (.alt 3 (.run [9, 10, 11] .done) (.alt 9 (.run [3, 10, 11] .done) .nil)) (.alt 9 (.run [3, 7, 10, 11] .done) .nil)))) 321) (.join (.seq 9007199254741313 (.region [(List.range 2, 9007199254741313)]) (.cond (.seq 256 (.region [(List.range 9, 256)]) (.seq 16 (.region [(List.range 2, 16)]) (.exit 16))) .leaf)))) (.seq 65 (.region [(List.range 8, 65)]) (.seq 0 (.region [(List.range 11, 0)]) (.seq 16 (.region [(List.range 1, 16)]) (.exit 16))))))))))
noncomputable abbrev cd (n : Nat) : Code := sub (bodyOf Tryz.f25) (pth n)
abbrev an (n : Nat) : Ann := subA ann (pth n)
@[irreducible] def K1 (Q : VP) : EP := seqK (fun fr h => ev PP true none (cd 31) (an 31) (fr.mask 67) (bodyK PP Tryz.f25 Q) h) (bodyK PP Tryz.f25 Q)
@[irreducible] def J1 (xl0 : OA) (first1 : Int) (s6 : Addr) (e7 : Int) (t36 : Bool) (Q : VP) (h : Heap) : Prop := Jn PP true (cd 123) (mkFr 0 81 [(0, (.pointer xl0)), (1, (.int .i64 first1)), (6, (.pointer (some s6))), (7, (.int .i64 e7)), (36, (.bool t36))]) (K1 Q) h
@[irreducible] def K2 (Q : VP) : EP := seqK (fun fr h => ev PP true none (cd 127) (an 127) (fr.mask 65) (bodyK PP Tryz.f25 Q) h) (bodyK PP Tryz.f25 Q)
@[irreducible] def J2 (xl0 : OA) (s6 : Addr) (e8 : Int) (Q : VP) (h : Heap) : Prop := Jn PP true (cd 253) (mkFr 0 81 [(0, (.pointer xl0)), (6, (.pointer (some s6))), (8, (.int .i64 e8))]) (K2 Q) h
theorem J1_of {xl0 : OA} {first1 : Int} {s6 : Addr} {e7 : Int} {t36 : Bool} {Q : VP} {h : Heap} (H :
 br t36 (
 Q (.int .i64 e7) h) (
 nilc xl0 (fun t39 =>
 wr (Addr.add t39 3) (.bool true) (fun h1 =>
 nilc xl0 (fun t42 =>
 (
 ∃ (t44_3 : OA), cellH h1 t42 = some (.pointer t44_3) ∧
 (
 ∃ (t48_3 : ByteArray), cellH h1 s6 = some (.string t48_3) ∧
 SpecH PP F_wal_head [(.int .i64 first1)] h1 (fun v_8 h10 => ∃ (t50_4 : OA) (t50_4n t50_4c : Nat), v_8 = (.slice t50_4 t50_4n t50_4c) ∧
 SpecH PP F_disk_Disk_Append [(.pointer t44_3), (.string t48_3), (.slice t50_4 t50_4n t50_4c)] h10 (fun v_9 h11 => ∃ (t51_4 : Int), v_9 = (.int .i64 t51_4) ∧
 J2 xl0 s6 t51_4 Q h11))) ∧
 (
 SpecH PP F_wal_head [(.int .i64 first1)] h1 (fun v_6 h8 => ∃ (t50_3 : OA) (t50_3n t50_3c : Nat), v_6 = (.slice t50_3 t50_3n t50_3c) ∧
 ∃ (t48_2 : ByteArray), cellH h8 s6 = some (.string t48_2) ∧
 SpecH PP F_disk_Disk_Append [(.pointer t44_3), (.string t48_2), (.slice t50_3 t50_3n t50_3c)] h8 (fun v_7 h9 => ∃ (t51_3 : Int), v_7 = (.int .i64 t51_3) ∧
 J2 xl0 s6 t51_3 Q h9))) ∧
 True) ∧
 (
 ∃ (t48_1 : ByteArray), cellH h1 s6 = some (.string t48_1) ∧
 (
 ∃ (t44_2 : OA), cellH h1 t42 = some (.pointer t44_2) ∧
 SpecH PP F_wal_head [(.int .i64 first1)] h1 (fun v_4 h6 => ∃ (t50_2 : OA) (t50_2n t50_2c : Nat), v_4 = (.slice t50_2 t50_2n t50_2c) ∧
 SpecH PP F_disk_Disk_Append [(.pointer t44_2), (.string t48_1), (.slice t50_2 t50_2n t50_2c)] h6 (fun v_5 h7 => ∃ (t51_2 : Int), v_5 = (.int .i64 t51_2) ∧
 J2 xl0 s6 t51_2 Q h7))) ∧
 (
 SpecH PP F_wal_head [(.int .i64 first1)] h1 (fun v_2 h4 => ∃ (t50_1 : OA) (t50_1n t50_1c : Nat), v_2 = (.slice t50_1 t50_1n t50_1c) ∧
 ∃ (t44_1 : OA), cellH h4 t42 = some (.pointer t44_1) ∧
 SpecH PP F_disk_Disk_Append [(.pointer t44_1), (.string t48_1), (.slice t50_1 t50_1n t50_1c)] h4 (fun v_3 h5 => ∃ (t51_1 : Int), v_3 = (.int .i64 t51_1) ∧
 J2 xl0 s6 t51_1 Q h5))) ∧
 True) ∧
 (
 SpecH PP F_wal_head [(.int .i64 first1)] h1 (fun v h2 => ∃ (t50 : OA) (t50n t50c : Nat), v = (.slice t50 t50n t50c) ∧
 ∃ (t44 : OA), cellH h2 t42 = some (.pointer t44) ∧
 ∃ (t48 : ByteArray), cellH h2 s6 = some (.string t48) ∧
 SpecH PP F_disk_Disk_Append [(.pointer t44), (.string t48), (.slice t50 t50n t50c)] h2 (fun v_1 h3 => ∃ (t51 : Int), v_1 = (.int .i64 t51) ∧
 J2 xl0 s6 t51 Q h3))) ∧
 True)) h))) : J1 xl0 first1 s6 e7 t36 Q h := by unfold J1; exact Jn.of_txt (an 123) (by kernel_rfl) H
theorem J2_of {xl0 : OA} {s6 : Addr} {e8 : Int} {Q : VP} {h : Heap} (H :
 let t53 : Bool := (e8 != 0)
 br t53 (
 nilc xl0 (fun t55 =>
 ∃ (t57 : OA), cellH h t55 = some (.pointer t57) ∧
 ∃ (t61 : ByteArray), cellH h s6 = some (.string t61) ∧
 SpecH PP F_disk_Disk_Remove [(.pointer t57), (.string t61)] h (fun v h1 => ∃ (t62 : Int), v = (.int .i64 t62) ∧
 Q (.int .i64 e8) h1))) (
 nilc xl0 (fun t65 =>
 ∃ (t67 : Int), cellH h (Addr.add t65 4) = some (.int .i64 t67) ∧
 let t68 : Int := IntKind.i64.wrap (t67 + 1)
 nilc xl0 (fun t69 =>
 wr (Addr.add t69 4) (.int .i64 t68) (fun h2 =>
 nilc xl0 (fun t73 =>
 ∃ (t75 : OA) (t75n t75c : Nat), cellH h2 (Addr.add t73 1) = some (.slice t75 t75n t75c) ∧
 let h3 : Heap := Array.push h2 (.cells #[(.pointer (some s6))] T_p_wal_segment (0, 0))
 hwp PP (Builtin.append_ #[T_sl_p_wal_segment, T_sl_p_wal_segment] T_sl_p_wal_segment #[(.slice t75 t75n t75c), (.slice (some ⟨Array.size h2, 0, none⟩) 1 1)]) (fun v_1 h4 => ∃ (t78 : OA) (t78n t78c : Nat), v_1 = (.slice t78 t78n t78c) ∧
 nilc xl0 (fun t79 =>
 wr (Addr.add t79 1) (.slice t78 t78n t78c) (fun h5 =>
 Q (.int .i64 0) h5) h4)) h3)) h)))) : J2 xl0 s6 e8 Q h := by unfold J2; exact Jn.of_txt (an 253) (by kernel_rfl) H
theorem door {xl0 : OA} {first1 : Int} {Q : VP} {h : Heap} (H :
 nilc xl0 (fun t10 =>
 ∃ (t12 : Int), cellH h (Addr.add t10 4) = some (.int .i64 t12) ∧
 let t13 : Int := IntKind.i64.wrap (1000001 + t12)
 SpecH PP F_strconv_Itoa [(.int .i64 t13)] h (fun v h1 => ∃ (t14 : ByteArray), v = (.string t14) ∧
 hwp PP (Instr.sliceAt T_string (.string t14) (some (.int .i64 1)) none none) (fun v_1 h2 => ∃ (t15 : ByteArray), v_1 = (.string t15) ∧
 br (decide (ByteArray.size (⟨#[108, 111, 103, 46]⟩ : ByteArray) + ByteArray.size t15 ≤ 9223372036854775807)) (
 let t17 : ByteArray := ((⟨#[108, 111, 103, 46]⟩ : ByteArray) ++ t15)
 let t21 : Addr := ⟨Array.size h2, 0, none⟩
 let h3 : Heap := Array.push h2 (.cells #[(.string t17), (.int .i64 first1), (.int .i64 first1), (.int .i64 16), (.bool true)] T_wal_segment (0, 0))
 nilc xl0 (fun t23 =>
 ∃ (t25 : OA), cellH h3 t23 = some (.pointer t25) ∧
 ∃ (t29 : ByteArray), cellH h3 t21 = some (.string t29) ∧
 SpecH PP F_disk_Disk_Create [(.pointer t25), (.string t29)] h3 (fun v_2 h4 => ∃ (t30 : Int), v_2 = (.int .i64 t30) ∧
 let t32 : Bool := (t30 != 0)
 br t32 (
 let t35 : Bool := (t30 != 91)
 J1 xl0 first1 t21 t30 t35 Q h4) (
 J1 xl0 first1 t21 t30 false Q h4)))) False) h1))) : SpecH PP F_wal_Log_begin [(.pointer xl0), (.int .i64 first1)] h Q :=
   spec_of_txt (ann := ann) Tryz.func25 rfl rfl (by kernel_rfl) H
end wal_Log_begin
/-! ### (*haversack/wal.Log).lay: function 26 -/
namespace wal_Log_lay
def ann : Ann := (.seq 9 (.region [(List.range 2, 9)]) (.seq 41 (.region [(List.range 13, 41)]) (.seq 97 (.region [(List.range 3, 97)]) (.seq 96 (.seq 224 (.region [(List.range 11, 224)]) (.seq 8589934816 (.region [(List.range 2, 8589934816)]) (.cond (.seq 16 (.region [(List.range 2, 16)]) (.exit 16)) .leaf))) (.seq 32 (.region [(List.range 10, 32)]) (.seq 32 (.region [(List.range 8, 32)]) (.seq 0 (.region [(List.range 4, 0)]) (.seq 16 (.region [(List.range 1, 16)]) (.exit 16)))))))))
noncomputable abbrev cd (n : Nat) : Code := sub (bodyOf Tryz.f26) (pth n)
abbrev an (n : Nat) : Ann := subA ann (pth n)
theorem door {xl0 : OA} {r1f0 : Int} {r1f1 : ByteArray} {Q : VP} {h : Heap} (H :
 let r3 : Addr := ⟨Array.size h, 0, none⟩
 let h1 : Heap := Array.push h (.cells #[(.int .i64 r1f0), (.string r1f1)] T_api_Record (0, 0))
 nilc xl0 (fun t9 =>
 ∃ (t11 : OA) (t11n t11c : Nat), cellH h1 (Addr.add t9 1) = some (.slice t11 t11n t11c) ∧
 nilc xl0 (fun t13 =>
 ∃ (t15 : OA) (t15n t15c : Nat), cellH h1 (Addr.add t13 1) = some (.slice t15 t15n t15c) ∧
 let t17 : Int := IntKind.i64.wrap ((t15n : Int) - 1)
 hwp PP (Instr.indexAt T_sl_p_wal_segment (.slice t11 t11n t11c) (.int .i64 t17)) (fun v h2 => ∃ (t18 : Addr), v = (.pointer (some t18)) ∧
 ∃ (t19 : OA), cellH h2 t18 = some (.pointer t19) ∧
 ∃ (t20f0 : Int) (t20f1 : ByteArray), rdCells h2 r3 0 [(.int .i64 t20f0), (.string t20f1)] ∧
 SpecH PP F_wal_laid [(.agg #[(.int .i64 t20f0), (.string t20f1)])] h2 (fun v_1 h3 => ∃ (t21 : OA) (t21n t21c : Nat), v_1 = (.slice t21 t21n t21c) ∧
 nilc xl0 (fun t23 =>
 ∃ (t25 : OA), cellH h3 t23 = some (.pointer t25) ∧
 nilc t19 (fun t27 =>
 ∃ (t29 : ByteArray), cellH h3 t27 = some (.string t29) ∧
 SpecH PP F_disk_Disk_Append [(.pointer t25), (.string t29), (.slice t21 t21n t21c)] h3 (fun v_2 h4 => ∃ (t31 : Int), v_2 = (.int .i64 t31) ∧
 let t33 : Bool := (t31 != 0)
 br t33 (
 Q (.int .i64 t31) h4) (
 nilc t19 (fun t36 =>
 ∃ (t38 : Int), cellH h4 (Addr.add t36 3) = some (.int .i64 t38) ∧
 let t41 : Int := IntKind.i64.wrap (t38 + (t21n : Int))
 nilc t19 (fun t42 =>
 wr (Addr.add t42 3) (.int .i64 t41) (fun h5 =>
 nilc t19 (fun t45 =>
 ∃ (t47 : Int), cellH h5 (Addr.add t45 2) = some (.int .i64 t47) ∧
 let t48 : Int := IntKind.i64.wrap (t47 + 1)
 nilc t19 (fun t49 =>
 wr (Addr.add t49 2) (.int .i64 t48) (fun h6 =>
 nilc t19 (fun t52 =>
 wr (Addr.add t52 4) (.bool true) (fun h7 =>
 Q (.int .i64 0) h7) h6)) h5))) h4)))))))) h1))) : SpecH PP F_wal_Log_lay [(.pointer xl0), (.agg #[(.int .i64 r1f0), (.string r1f1)])] h Q :=
   spec_of_txt (ann := ann) Tryz.func26 rfl rfl (by kernel_rfl) H
end wal_Log_lay
/-! ### (*haversack/disk.Disk).Remove: function 27 -/
namespace disk_Disk_Remove
def ann : Ann := (.seq 3 (.region [(List.range 1, 3)]) (.seq 3 (.seq 67 (.region [(List.range 8, 67)]) (.seq 16451 (.region [(List.range 2, 16451)]) (.cond (.seq 16 (.region [(List.range 2, 16)]) (.exit 16)) .leaf))) (.seq 16 (.region [(List.range 5, 16)]) (.exit 16))))
noncomputable abbrev cd (n : Nat) : Code := sub (bodyOf Tryz.f27) (pth n)
abbrev an (n : Nat) : Ann := subA ann (pth n)
theorem door {d0 : OA} {name1 : ByteArray} {Q : VP} {h : Heap} (H :
 SpecH PP F_disk_Disk_find [(.pointer d0), (.string name1)] h (fun v h1 => ∃ (t10 : OA) (t10_1 : Int), v = (.tuple #[(.pointer t10), (.int .i64 t10_1)]) ∧
 let t14 : Bool := (t10_1 != 0)
 br t14 (
 Q (.int .i64 t10_1) h1) (
 SpecH PP F_disk_Disk_change [(.pointer d0), (.agg #[(.string name1), (.string (⟨#[]⟩ : ByteArray)), (.pointer none)])] h1 (fun v_1 h2 => ∃ (t19 : Int), v_1 = (.int .i64 t19) ∧
 Q (.int .i64 t19) h2)))) : SpecH PP F_disk_Disk_Remove [(.pointer d0), (.string name1)] h Q :=
   spec_of_txt (ann := ann) Tryz.func27 rfl rfl (by kernel_rfl) H
end disk_Disk_Remove
/-! ### slices.Delete[[]*haversack/wal.segment,*haversack/wal.segment]: function 28 -/
namespace slices_Delete_wal_segment_wal_segment
def ann : Ann := (.seq 7 (.region [(List.range 1, 7)]) (.seq 7 (.region [(List.range 6, 7)]) (.seq 7 (.seq 65543 (.region [(List.range 3, 65543)]) (.cond (.seq 64 (.region [(List.range 2, 64)]) (.exit 64)) .leaf)) (.seq 135 (.region [(List.range 3, 135)]) (.seq 129 (.region [(List.range 8, 129)]) (.seq 1 (.region [(List.range 6, 1)]) (.seq 64 (.region [(List.range 2, 64)]) (.exit 64))))))))
noncomputable abbrev cd (n : Nat) : Code := sub (bodyOf Tryz.f28) (pth n)
abbrev an (n : Nat) : Ann := subA ann (pth n)
theorem door {s0 : OA} {s0n s0c : Nat} {i1 j2 : Int} {Q : VP} {h : Heap} (H :
 hwp PP (Instr.sliceAt T_sl_p_wal_segment (.slice s0 s0n s0c) (some (.int .i64 i1)) (some (.int .i64 j2)) (some (.int .i64 (s0n : Int)))) (fun v h1 => ∃ (t13 : OA) (t13n t13c : Nat), v = (.slice t13 t13n t13c) ∧
 let t16 : Bool := (i1 == j2)
 br t16 (
 Q (.slice s0 s0n s0c) h1) (
 hwp PP (Instr.sliceAt T_sl_p_wal_segment (.slice s0 s0n s0c) none (some (.int .i64 i1)) none) (fun v_1 h2 => ∃ (t22 : OA) (t22n t22c : Nat), v_1 = (.slice t22 t22n t22c) ∧
 hwp PP (Instr.sliceAt T_sl_p_wal_segment (.slice s0 s0n s0c) (some (.int .i64 j2)) none none) (fun v_2 h3 => ∃ (t25 : OA) (t25n t25c : Nat), v_2 = (.slice t25 t25n t25c) ∧
 hwp PP (Builtin.append_ #[T_sl_p_wal_segment, T_sl_p_wal_segment] T_sl_p_wal_segment #[(.slice t22 t22n t22c), (.slice t25 t25n t25c)]) (fun v_3 h4 => ∃ (t26 : OA) (t26n t26c : Nat), v_3 = (.slice t26 t26n t26c) ∧
 hwp PP (Instr.sliceAt T_sl_p_wal_segment (.slice t26 t26n t26c) (some (.int .i64 (t26n : Int))) (some (.int .i64 (s0n : Int))) none) (fun v_4 h5 => ∃ (t31 : OA) (t31n t31c : Nat), v_4 = (.slice t31 t31n t31c) ∧
 hwp PP (Builtin.clear_ #[T_sl_p_wal_segment] T_ #[(.slice t31 t31n t31c)]) (fun v_5 h6 => v_5 = (.tuple #[]) ∧
 Q (.slice t26 t26n t26c) h6) h5) h4) h3) h2) h1)) h) : SpecH PP F_slices_Delete_wal_segment_wal_segment [(.slice s0 s0n s0c), (.int .i64 i1), (.int .i64 j2)] h Q :=
   spec_of_txt (ann := ann) Tryz.func28 rfl rfl (by kernel_rfl) H
end slices_Delete_wal_segment_wal_segment
/-! ### (*haversack/disk.Disk).Sync: function 29 -/
namespace disk_Disk_Sync
def ann : Ann := (.seq 3 (.region [(List.range 1, 3)]) (.seq 97 (.region [(List.range 8, 97)]) (.seq 33 (.seq 16481 (.region [(List.range 2, 16481)]) (.cond (.seq 16 (.region [(List.range 2, 16)]) (.exit 16)) .leaf)) (.seq 1 (.region [(List.range 9, 1)]) (.seq 16 (.region [(List.range 3, 16)]) (.exit 16))))))
noncomputable abbrev cd (n : Nat) : Code := sub (bodyOf Tryz.f29) (pth n)
abbrev an (n : Nat) : Ann := subA ann (pth n)
theorem door {d0 : OA} {name1 : ByteArray} {Q : VP} {h : Heap} (H :
 SpecH PP F_disk_Disk_find [(.pointer d0), (.string name1)] h (fun v h1 => ∃ (t10 : OA) (t10_1 : Int), v = (.tuple #[(.pointer t10), (.int .i64 t10_1)]) ∧
 let t14 : Bool := (t10_1 != 0)
 br t14 (
 Q (.int .i64 t10_1) h1) (
 nilc t10 (fun t18 =>
 ∃ (t20 : OA) (t20n t20c : Nat), cellH h1 t18 = some (.slice t20 t20n t20c) ∧
 nilc t10 (fun t22 =>
 wr (Addr.add t22 1) (.int .i64 (t20n : Int)) (fun h2 =>
 SpecH PP F_disk_Disk_done [(.pointer d0)] h2 (fun v_1 h3 => ∃ (t25 : Int), v_1 = (.int .i64 t25) ∧
 Q (.int .i64 t25) h3)) h1))))) : SpecH PP F_disk_Disk_Sync [(.pointer d0), (.string name1)] h Q :=
   spec_of_txt (ann := ann) Tryz.func29 rfl rfl (by kernel_rfl) H
end disk_Disk_Sync
/-! ### (*haversack/disk.Disk).SyncDir: function 30 -/
namespace disk_Disk_SyncDir
def ann : Ann := (.seq 1 (.region [(List.range 1, 1)]) (.seq 1 (.seq 9 (.region [(List.range 3, 9)]) (.seq 137 (.region [(List.range 2, 137)]) (.cond (.seq 4 (.region [(List.range 2, 4)]) (.exit 4)) .leaf))) (.seq 1 (.region [(List.range 9, 1)]) (.seq 1 (.region [(List.range 4, 1)]) (.seq 4 (.region [(List.range 3, 4)]) (.exit 4))))))
noncomputable abbrev cd (n : Nat) : Code := sub (bodyOf Tryz.f30) (pth n)
abbrev an (n : Nat) : Ann := subA ann (pth n)
theorem door {d0 : OA} {Q : VP} {h : Heap} (H :
 SpecH PP F_disk_Disk_ready [(.pointer d0)] h (fun v h1 => ∃ (t5 : Int), v = (.int .i64 t5) ∧
 let t7 : Bool := (t5 != 0)
 br t7 (
 Q (.int .i64 t5) h1) (
 nilc d0 (fun t11 =>
 ∃ (t13 : ON), cellH h1 (Addr.add t11 1) = some (.map t13) ∧
 SpecH PP F_maps_Clone_disk_names_string_disk_file [(.map t13)] h1 (fun v_1 h2 => ∃ (t14 : ON), v_1 = (.map t14) ∧
 nilc d0 (fun t15 =>
 wr (Addr.add t15 2) (.map t14) (fun h3 =>
 nilc d0 (fun t18 =>
 wr (Addr.add t18 3) (.slice none 0 0) (fun h4 =>
 SpecH PP F_disk_Disk_done [(.pointer d0)] h4 (fun v_2 h5 => ∃ (t21 : Int), v_2 = (.int .i64 t21) ∧
 Q (.int .i64 t21) h5)) h3)) h2)))))) : SpecH PP F_disk_Disk_SyncDir [(.pointer d0)] h Q :=
   spec_of_txt (ann := ann) Tryz.func30 rfl rfl (by kernel_rfl) H
end disk_Disk_SyncDir
/-! ### (*haversack/disk.Disk).ready: function 31 -/
namespace disk_Disk_ready
def ann : Ann := (.seq 1 (.region [(List.range 1, 1)]) (.seq 0 (.block (.seq 9 (.region [(List.range 3, 9)]) (.cond (.seq 4 (.region [(List.range 1, 4)]) (.exit 4)) (.seq 64 (.region [(List.range 3, 64)]) (.cond (.seq 4 (.region [(List.range 1, 4)]) (.exit 4)) .leaf))))) (.seq 4 (.region [(List.range 1, 4)]) (.exit 4))))
noncomputable abbrev cd (n : Nat) : Code := sub (bodyOf Tryz.f31) (pth n)
abbrev an (n : Nat) : Ann := subA ann (pth n)
theorem door {d0 : OA} {Q : VP} {h : Heap} (H :
 let t5 : Bool := (Option.isNone d0)
 br t5 (
 Q (.int .i64 3) h) (
 SpecH PP F_disk_Disk_Down [(.pointer d0)] h (fun v h1 => ∃ (t8 : Bool), v = (.bool t8) ∧
 br t8 (
 Q (.int .i64 94) h1) (
 Q (.int .i64 0) h1)))) : SpecH PP F_disk_Disk_ready [(.pointer d0)] h Q :=
   spec_of_txt (ann := ann) Tryz.func31 rfl rfl (by kernel_rfl) H
end disk_Disk_ready
/-! ### slices.Sorted[string]: function 32 -/
namespace slices_Sorted_string
def ann : Ann := (.seq 1 (.region [(List.range 1, 1)]) (.seq 8 (.region [(List.range 3, 8)]) (.seq 8 (.region [(List.range 2, 8)]) (.seq 4 (.region [(List.range 2, 4)]) (.exit 4)))))
noncomputable abbrev cd (n : Nat) : Code := sub (bodyOf Tryz.f32) (pth n)
abbrev an (n : Nat) : Ann := subA ann (pth n)
theorem door {seq0 : Value} {Q : VP} {h : Heap} (H :
 SpecH PP F_slices_Collect_string [seq0] h (fun v h1 => ∃ (t5 : OA) (t5n t5c : Nat), v = (.slice t5 t5n t5c) ∧
 SpecH PP F_slices_Sort_string_string [(.slice t5 t5n t5c)] h1 (fun v_1 h2 => v_1 = (.tuple #[]) ∧
 Q (.slice t5 t5n t5c) h2))) : SpecH PP F_slices_Sorted_string [seq0] h Q :=
   spec_of_txt (ann := ann) Tryz.func32 rfl rfl (by kernel_rfl) H
end slices_Sorted_string
/-! ### maps.Keys[haversack/disk.names,string,*haversack/disk.file]: function 33 -/
namespace maps_Keys_disk_names_string_disk_file
def ann : Ann := (.seq 2 (.region [(List.range 2, 2)]) (.seq 4 (.region [(List.range 2, 4)]) (.exit 4)))
noncomputable abbrev cd (n : Nat) : Code := sub (bodyOf Tryz.f33) (pth n)
abbrev an (n : Nat) : Ann := subA ann (pth n)
theorem door {m0 : ON} {Q : VP} {h : Heap} (H :
 let m1 : Addr := ⟨Array.size h, 0, none⟩
 let h1 : Heap := Array.push h (.cells #[(.map m0)] T_disk_names (0, 0))
 Q (.func (.func F_maps_Keys_disk_names_string_disk_file_1) #[] #[(.pointer (some m1))]) h1) : SpecH PP F_maps_Keys_disk_names_string_disk_file [(.map m0)] h Q :=
   spec_of_txt (ann := ann) Tryz.func33 rfl rfl (by kernel_rfl) H
end maps_Keys_disk_names_string_disk_file
/-! ### (*haversack/disk.Disk).Crash$1: function 34 -/
namespace disk_Disk_Crash_1
def ann : Ann := (.seq 1 (.region [(List.range 1, 1)]) (.seq 1 (.seq 33 (.region [(List.range 3, 33)]) (.cond (.seq 2 (.region [(List.range 1, 2)]) (.exit 2)) .leaf)) (.seq 5 (.region [(List.range 4, 5)]) (.seq 4 (.region [(List.range 3, 4)]) (.seq 2 (.region [(List.range 2, 2)]) (.exit 2))))))
noncomputable abbrev cd (n : Nat) : Code := sub (bodyOf Tryz.f34) (pth n)
abbrev an (n : Nat) : Ann := subA ann (pth n)
theorem door {t0 : Addr} {Q : VP} {h : Heap} (H :
 ∃ (t3 : OA) (t3n t3c : Nat), cellH h t0 = some (.slice t3 t3n t3c) ∧
 let t5 : Bool := ((t3n : Int) == 0)
 br t5 (
 Q (.int .i64 0) h) (
 ∃ (t6 : OA) (t6n t6c : Nat), cellH h t0 = some (.slice t6 t6n t6c) ∧
 hwp PP (Instr.indexAt T_sl_int (.slice t6 t6n t6c) (.int .i64 0)) (fun v h1 => ∃ (t7 : Addr), v = (.pointer (some t7)) ∧
 ∃ (t8 : Int), cellH h1 t7 = some (.int .i64 t8) ∧
 ∃ (t9 : OA) (t9n t9c : Nat), cellH h1 t0 = some (.slice t9 t9n t9c) ∧
 hwp PP (Instr.sliceAt T_sl_int (.slice t9 t9n t9c) (some (.int .i64 1)) none none) (fun v_1 h2 => ∃ (t10 : OA) (t10n t10c : Nat), v_1 = (.slice t10 t10n t10c) ∧
 wr t0 (.slice t10 t10n t10c) (fun h3 =>
 Q (.int .i64 t8) h3) h2) h1) h)) : SpecH PP F_disk_Disk_Crash_1 [(.pointer (some t0))] h Q :=
   spec_of_txt (ann := ann) Tryz.func34 rfl rfl (by kernel_rfl) H
end disk_Disk_Crash_1
/-! ### maps.Clone[haversack/disk.names,string,*haversack/disk.file]: function 35 -/
namespace maps_Clone_disk_names_string_disk_file
def ann : Ann := (.seq 1 (.region [(List.range 1, 1)]) (.seq 1 (.seq 17 (.region [(List.range 2, 17)]) (.cond (.seq 4 (.region [(List.range 1, 4)]) (.exit 4)) .leaf)) (.seq 4 (.region [(List.range 5, 4)]) (.exit 4))))
noncomputable abbrev cd (n : Nat) : Code := sub (bodyOf Tryz.f35) (pth n)
abbrev an (n : Nat) : Ann := subA ann (pth n)
theorem door {m0 : ON} {Q : VP} {h : Heap} (H :
 let t4 : Bool := (Option.isNone m0)
 br t4 (
 Q (.map none) h) (
 callV PP (.func (.func F_maps_clone) #[] #[]) [(.iface T_disk_names (.map m0))] (fun v h1 => ∃ (t7 : Value), v = t7 ∧
 hwp PP (Instr.typeAssert t7 T_any T_disk_names false) (fun v_1 h2 => ∃ (t8 : ON), v_1 = (.map t8) ∧
 Q (.map t8) h2) h1) h)) : SpecH PP F_maps_Clone_disk_names_string_disk_file [(.map m0)] h Q :=
   spec_of_txt (ann := ann) Tryz.func35 rfl rfl (by kernel_rfl) H
end maps_Clone_disk_names_string_disk_file
/-! ### haversack/disk.says: function 36 -/
namespace disk_says
def ann : Ann := (.seq 3 (.region [(List.range 1, 3)]) (.seq 3 (.seq 67 (.region [(List.range 2, 67)]) (.cond (.region [(List.range 4, 3)]) .leaf)) (.join (.seq 16 (.region [(List.range 5, 16)]) (.exit 16)))))
noncomputable abbrev cd (n : Nat) : Code := sub (bodyOf Tryz.f36) (pth n)
abbrev an (n : Nat) : Ann := subA ann (pth n)
@[irreducible] def J1 (c0 xn1 : Int) (Q : VP) (h : Heap) : Prop := Jn PP true (cd 7) (mkFr 0 14 [(0, (.int .i64 c0)), (1, (.int .i64 xn1))]) (bodyK PP Tryz.f36 Q) h
theorem J1_of {c0 xn1 : Int} {Q : VP} {h : Heap} (H :
 let t12 : Int := IntKind.i64.wrap (xn1 + 1)
 br (!decide (t12 = 0)) (
 let t13 : Int := Int.tmod c0 t12
 Q (.int .i64 t13) h) False) : J1 c0 xn1 Q h := by unfold J1; exact Jn.of_txt (an 7) (by kernel_rfl) H
theorem door {c0 xn1 : Int} {Q : VP} {h : Heap} (H :
 let t6 : Bool := decide (c0 < 0)
 br t6 (
 let t8 : Int := IntKind.i64.wrap (c0 + 1)
 let t9 : Int := IntKind.i64.wrap (0 - t8)
 J1 t9 xn1 Q h) (
 J1 c0 xn1 Q h)) : SpecH PP F_disk_says [(.int .i64 c0), (.int .i64 xn1)] h Q :=
   spec_of_txt (ann := ann) Tryz.func36 rfl rfl (by kernel_rfl) H
end disk_says
/-! ### (haversack/disk.names).do: function 37 -/
namespace disk_names_do
def ann : Ann := (.seq 9 (.region [(List.range 1, 9)]) (.seq 9 (.seq 73 (.region [(List.range 3, 73)]) (.cond (.region [(List.range 4, 9)]) .leaf)) (.join (.seq 4105 (.region [(List.range 3, 4105)]) (.cond (.region [(List.range 6, 0)]) .leaf)))))
noncomputable abbrev cd (n : Nat) : Code := sub (bodyOf Tryz.f37) (pth n)
abbrev an (n : Nat) : Ann := subA ann (pth n)
@[irreducible] def J1 (xn0 : ON) (c3 : Addr) (Q : VP) (h : Heap) : Prop := Jn PP true (cd 7) (mkFr 0 18 [(0, (.map xn0)), (3, (.pointer (some c3)))]) (bodyK PP Tryz.f37 Q) h
theorem J1_of {xn0 : ON} {c3 : Addr} {Q : VP} {h : Heap} (H :
 ∃ (t11 : ByteArray), cellH h (Addr.add c3 1) = some (.string t11) ∧
 let t12 : Bool := (!decide (t11 = (⟨#[]⟩ : ByteArray)))
 br t12 (
 ∃ (t15 : ByteArray), cellH h (Addr.add c3 1) = some (.string t15) ∧
 ∃ (t17 : OA), cellH h (Addr.add c3 2) = some (.pointer t17) ∧
 hwp PP (Instr.mapUpdate T_disk_names (.map xn0) (.string t15) (.pointer t17)) (fun _ h1 =>
 Q (.tuple #[]) h1) h) (
 Q (.tuple #[]) h)) : J1 xn0 c3 Q h := by unfold J1; exact Jn.of_txt (an 7) (by kernel_rfl) H
theorem door {xn0 : ON} {c1f0 c1f1 : ByteArray} {c1f2 : OA} {Q : VP} {h : Heap} (H :
 let c3 : Addr := ⟨Array.size h, 0, none⟩
 let h1 : Heap := Array.push h (.cells #[(.string c1f0), (.string c1f1), (.pointer c1f2)] T_disk_change (0, 0))
 ∃ (t5 : ByteArray), cellH h1 c3 = some (.string t5) ∧
 let t6 : Bool := (!decide (t5 = (⟨#[]⟩ : ByteArray)))
 br t6 (
 ∃ (t9 : ByteArray), cellH h1 c3 = some (.string t9) ∧
 hwp PP (Builtin.delete_ #[T_disk_names, T_string] T_ #[(.map xn0), (.string t9)]) (fun v h2 => v = (.tuple #[]) ∧
 J1 xn0 c3 Q h2) h1) (
 J1 xn0 c3 Q h1)) : SpecH PP F_disk_names_do [(.map xn0), (.agg #[(.string c1f0), (.string c1f1), (.pointer c1f2)])] h Q :=
   spec_of_txt (ann := ann) Tryz.func37 rfl rfl (by kernel_rfl) H
end disk_names_do
/-! ### slices.Clone[[]byte,byte]: function 38 -/
namespace slices_Clone_byte_byte
def ann : Ann := (.seq 1 (.region [(List.range 1, 1)]) (.seq 1 (.seq 17 (.region [(List.range 2, 17)]) (.cond (.seq 4 (.region [(List.range 1, 4)]) (.exit 4)) .leaf)) (.seq 4 (.region [(List.range 4, 4)]) (.exit 4))))
noncomputable abbrev cd (n : Nat) : Code := sub (bodyOf Tryz.f38) (pth n)
abbrev an (n : Nat) : Ann := subA ann (pth n)
theorem door {s0 : OA} {s0n s0c : Nat} {Q : VP} {h : Heap} (H :
 let t4 : Bool := (Option.isNone s0)
 br t4 (
 Q (.slice none 0 0) h) (
 let h1 : Heap := Array.push h (.cells #[] T_uint8 (0, 0))
 hwp PP (Builtin.append_ #[T_sl_uint8, T_sl_uint8] T_sl_uint8 #[(.slice (some ⟨Array.size h, 0, none⟩) 0 0), (.slice s0 s0n s0c)]) (fun v h2 => ∃ (t7 : OA) (t7n t7c : Nat), v = (.slice t7 t7n t7c) ∧
 Q (.slice t7 t7n t7c) h2) h1)) : SpecH PP F_slices_Clone_byte_byte [(.slice s0 s0n s0c)] h Q :=
   spec_of_txt (ann := ann) Tryz.func38 rfl rfl (by kernel_rfl) H
end slices_Clone_byte_byte
/-! ### internal/stringslite.HasPrefix: function 39 -/
namespace internal_stringslite_HasPrefix
def ann : Ann := (.seq 3 (.region [(List.range 1, 3)]) (.seq 16 (.region [(List.range 14, 16)]) (.exit 16)))
noncomputable abbrev cd (n : Nat) : Code := sub (bodyOf Tryz.f39) (pth n)
abbrev an (n : Nat) : Ann := subA ann (pth n)
theorem door {s0 prefix1 : ByteArray} {Q : VP} {h : Heap} (H :
 let t6 : Int := (ByteArray.size s0 : Int)
 let t8 : Int := (ByteArray.size prefix1 : Int)
 let t9 : Bool := decide (t6 ≥ t8)
 br t9 (
 let t13 : Int := (ByteArray.size prefix1 : Int)
 hwp PP (Instr.sliceAt T_string (.string s0) none (some (.int .i64 t13)) none) (fun v h1 => ∃ (t14 : ByteArray), v = (.string t14) ∧
 let t16 : Bool := decide (t14 = prefix1)
 Q (.bool t16) h1) h) (
 Q (.bool false) h)) : SpecH PP F_internal_stringslite_HasPrefix [(.string s0), (.string prefix1)] h Q :=
   spec_of_txt (ann := ann) Tryz.func39 rfl rfl (by kernel_rfl) H
end internal_stringslite_HasPrefix
/-! ### (*haversack/disk.Disk).find: function 42 -/
namespace disk_Disk_find
def ann : Ann := (.seq 3 (.region [(List.range 2, 3)]) (.seq 3 (.seq 67 (.region [(List.range 3, 67)]) (.seq 4163 (.region [(List.range 2, 4163)]) (.cond (.seq 48 (.region [(List.range 3, 48)]) (.exit 48)) .leaf))) (.seq 384 (.region [(List.range 11, 384)]) (.seq 128 (.seq 16777344 (.region [(List.range 2, 16777344)]) (.cond (.seq 48 (.region [(List.range 2, 48)]) (.exit 48)) .leaf)) (.seq 48 (.region [(List.range 3, 48)]) (.exit 48))))))
noncomputable abbrev cd (n : Nat) : Code := sub (bodyOf Tryz.f42) (pth n)
abbrev an (n : Nat) : Ann := subA ann (pth n)
theorem door {d0 : OA} {name1 : ByteArray} {Q : VP} {h : Heap} (H :
 SpecH PP F_disk_Disk_ready [(.pointer d0)] h (fun v h1 => ∃ (t10 : Int), v = (.int .i64 t10) ∧
 let t12 : Bool := (t10 != 0)
 br t12 (
 Q (.tuple #[(.pointer none), (.int .i64 t10)]) h1) (
 nilc d0 (fun t16 =>
 ∃ (t18 : ON), cellH h1 (Addr.add t16 1) = some (.map t18) ∧
 hwp PP (Instr.lookup T_disk_names (.map t18) (.string name1) true) (fun v_1 h2 => ∃ (t20 : OA) (t20_1 : Bool), v_1 = (.tuple #[(.pointer t20), (.bool t20_1)]) ∧
 let t24 : Bool := (!t20_1)
 br t24 (
 Q (.tuple #[(.pointer none), (.int .i64 92)]) h2) (
 Q (.tuple #[(.pointer t20), (.int .i64 0)]) h2)) h1)))) : SpecH PP F_disk_Disk_find [(.pointer d0), (.string name1)] h Q :=
   spec_of_txt (ann := ann) Tryz.func42 rfl rfl (by kernel_rfl) H
end disk_Disk_find
/-! ### haversack/wal.whole: function 43 -/
namespace wal_whole
def ann : Ann := (.seq 1 (.region [(List.range 1, 1)]) (.seq 25 (.region [(List.range 10, 25)]) (.seq 4 (.region [(List.range 13, 4)]) (.exit 4))))
noncomputable abbrev cd (n : Nat) : Code := sub (bodyOf Tryz.f43) (pth n)
abbrev an (n : Nat) : Ann := subA ann (pth n)
theorem door {b0 : OA} {b0n b0c : Nat} {Q : VP} {h : Heap} (H :
 let t9 : Int := IntKind.i64.wrap ((b0n : Int) - 4)
 SpecH PP F_little_Get32 [(.slice b0 b0n b0c), (.int .i64 t9)] h (fun v h1 => ∃ (t10 t10_1 : Int), v = (.tuple #[(.int .u32 t10), (.int .i64 t10_1)]) ∧
 let t14 : Bool := (t10_1 == 0)
 br t14 (
 let t20 : Int := IntKind.i64.wrap ((b0n : Int) - 4)
 hwp PP (Instr.sliceAt T_sl_uint8 (.slice b0 b0n b0c) none (some (.int .i64 t20)) none) (fun v_1 h2 => ∃ (t21 : OA) (t21n t21c : Nat), v_1 = (.slice t21 t21n t21c) ∧
 SpecH PP F_little_Sum [(.slice t21 t21n t21c)] h2 (fun v_2 h3 => ∃ (t22 : Int), v_2 = (.int .u32 t22) ∧
 let t23 : Bool := (t10 == t22)
 Q (.bool t23) h3)) h1) (
 Q (.bool false) h1))) : SpecH PP F_wal_whole [(.slice b0 b0n b0c)] h Q :=
   spec_of_txt (ann := ann) Tryz.func43 rfl rfl (by kernel_rfl) H
end wal_whole
/-! ### haversack/little.Get32: function 44 -/
namespace little_Get32
def ann : Ann := (.seq 3 (.region [(List.range 2, 3)]) (.seq 192 (.region [(List.range 8, 192)]) (.seq 48 (.region [(List.range 5, 48)]) (.exit 48))))
noncomputable abbrev cd (n : Nat) : Code := sub (bodyOf Tryz.f44) (pth n)
abbrev an (n : Nat) : Ann := subA ann (pth n)
theorem door {b0 : OA} {b0n b0c : Nat} {at1 : Int} {Q : VP} {h : Heap} (H :
 SpecH PP F_little_get [(.slice b0 b0n b0c), (.int .i64 at1), (.int .i64 4)] h (fun v h1 => ∃ (t11 t11_1 : Int), v = (.tuple #[(.int .u64 t11), (.int .i64 t11_1)]) ∧
 let t15 : Int := IntKind.u32.wrap t11
 Q (.tuple #[(.int .u32 t15), (.int .i64 t11_1)]) h1)) : SpecH PP F_little_Get32 [(.slice b0 b0n b0c), (.int .i64 at1)] h Q :=
   spec_of_txt (ann := ann) Tryz.func44 rfl rfl (by kernel_rfl) H
end little_Get32
/-! ### haversack/little.Get64: function 45 -/
namespace little_Get64
def ann : Ann := (.seq 3 (.region [(List.range 2, 3)]) (.seq 48 (.region [(List.range 7, 48)]) (.exit 48)))
noncomputable abbrev cd (n : Nat) : Code := sub (bodyOf Tryz.f45) (pth n)
abbrev an (n : Nat) : Ann := subA ann (pth n)
theorem door {b0 : OA} {b0n b0c : Nat} {at1 : Int} {Q : VP} {h : Heap} (H :
 SpecH PP F_little_get [(.slice b0 b0n b0c), (.int .i64 at1), (.int .i64 8)] h (fun v h1 => ∃ (t8 t8_1 : Int), v = (.tuple #[(.int .u64 t8), (.int .i64 t8_1)]) ∧
 Q (.tuple #[(.int .u64 t8), (.int .i64 t8_1)]) h1)) : SpecH PP F_little_Get64 [(.slice b0 b0n b0c), (.int .i64 at1)] h Q :=
   spec_of_txt (ann := ann) Tryz.func45 rfl rfl (by kernel_rfl) H
end little_Get64
/-! ### (*haversack/disk.Disk).Create: function 47 -/
namespace disk_Disk_Create
def ann : Ann := (.seq 3 (.region [(List.range 1, 3)]) (.seq 3 (.seq 35 (.region [(List.range 3, 35)]) (.seq 2083 (.region [(List.range 2, 2083)]) (.cond (.seq 16 (.region [(List.range 2, 16)]) (.exit 16)) .leaf))) (.seq 131 (.region [(List.range 11, 131)]) (.seq 3 (.block (.seq 4194435 (.region [(List.range 4, 4194435)]) (.cond (.seq 16 (.region [(List.range 1, 16)]) (.exit 16)) (.seq 67108867 (.region [(List.range 2, 67108867)]) (.cond (.seq 16 (.region [(List.range 1, 16)]) (.exit 16)) (.seq 268435459 (.region [(List.range 7, 268435459)]) (.cond (.seq 16 (.region [(List.range 1, 16)]) (.exit 16)) .leaf))))))) (.seq 16 (.region [(List.range 7, 16)]) (.exit 16))))))
noncomputable abbrev cd (n : Nat) : Code := sub (bodyOf Tryz.f47) (pth n)
abbrev an (n : Nat) : Ann := subA ann (pth n)
theorem door {d0 : OA} {name1 : ByteArray} {Q : VP} {h : Heap} (H :
 SpecH PP F_disk_Disk_ready [(.pointer d0)] h (fun v h1 => ∃ (t9 : Int), v = (.int .i64 t9) ∧
 let t11 : Bool := (t9 != 0)
 br t11 (
 Q (.int .i64 t9) h1) (
 nilc d0 (fun t15 =>
 ∃ (t17 : ON), cellH h1 (Addr.add t15 1) = some (.map t17) ∧
 hwp PP (Instr.lookup T_disk_names (.map t17) (.string name1) true) (fun v_1 h2 => ∃ (t19 : OA) (t19_1 : Bool), v_1 = (.tuple #[(.pointer t19), (.bool t19_1)]) ∧
 SpecH PP F_disk_good [(.string name1)] h2 (fun v_2 h3 => ∃ (t24 : Bool), v_2 = (.bool t24) ∧
 let t25 : Bool := (!t24)
 br t25 (
 Q (.int .i64 90) h3) (
 br t19_1 (
 Q (.int .i64 91) h3) (
 nilc d0 (fun t30 =>
 ∃ (t32 : ON), cellH h3 (Addr.add t30 1) = some (.map t32) ∧
 hwp PP (Builtin.len_ #[T_disk_names] T_int #[(.map t32)]) (fun v_3 h4 => ∃ (t33 : Int), v_3 = (.int .i64 t33) ∧
 let t34 : Bool := decide (t33 ≥ 64)
 br t34 (
 Q (.int .i64 95) h4) (
 let t38 : Addr := ⟨Array.size h4, 0, none⟩
 let h5 : Heap := Array.push h4 (.cells #[(.slice none 0 0), (.int .i64 0)] T_disk_file (0, 0))
 SpecH PP F_disk_Disk_change [(.pointer d0), (.agg #[(.string (⟨#[]⟩ : ByteArray)), (.string name1), (.pointer (some t38))])] h5 (fun v_4 h6 => ∃ (t40 : Int), v_4 = (.int .i64 t40) ∧
 Q (.int .i64 t40) h6))) h3))))) h1)))) : SpecH PP F_disk_Disk_Create [(.pointer d0), (.string name1)] h Q :=
   spec_of_txt (ann := ann) Tryz.func47 rfl rfl (by kernel_rfl) H
end disk_Disk_Create
/-! ### (*haversack/disk.Disk).Append: function 48 -/
namespace disk_Disk_Append
def ann : Ann := (.seq 7 (.region [(List.range 1, 7)]) (.seq 389 (.region [(List.range 8, 389)]) (.seq 133 (.block (.seq 33157 (.region [(List.range 3, 33157)]) (.cond (.seq 64 (.region [(List.range 2, 64)]) (.exit 64)) (.seq 524421 (.tree (.run [0, 1, 2, 3, 4, 6] (.alt 5 (.run [7, 8, 9, 10] .done) (.alt 7 (.run [5, 8, 9, 10] .done) .nil))) 524421) (.join (.cond (.seq 64 (.region [(List.range 1, 64)]) (.exit 64)) .leaf)))))) (.seq 1 (.region [(List.range 21, 1)]) (.seq 64 (.region [(List.range 3, 64)]) (.exit 64))))))
noncomputable abbrev cd (n : Nat) : Code := sub (bodyOf Tryz.f48) (pth n)
abbrev an (n : Nat) : Ann := subA ann (pth n)
@[irreducible] def K2 (Q : VP) : EP := seqK (fun fr h => ev PP true none (cd 15) (an 15) (fr.mask 133) (bodyK PP Tryz.f48 Q) h) (bodyK PP Tryz.f48 Q)
@[irreducible] def K1 (Q : VP) : EP := blockK 0 (K2 Q)
@[irreducible] def J1 (d0 b2 : OA) (b2n b2c : Nat) (f7 : OA) (t19 : Bool) (Q : VP) (h : Heap) : Prop := Jn PP true (cd 231) (mkFr 0 52 [(0, (.pointer d0)), (2, (.slice b2 b2n b2c)), (7, (.pointer f7)), (19, (.bool t19))]) (K1 Q) h
theorem J1_of {d0 b2 : OA} {b2n b2c : Nat} {f7 : OA} {t19 : Bool} {Q : VP} {h : Heap} (H :
 br t19 (
 Q (.int .i64 93) h) (
 nilc f7 (fun t32 =>
 ∃ (t34 : OA) (t34n t34c : Nat), cellH h t32 = some (.slice t34 t34n t34c) ∧
 nilc f7 (fun t36 =>
 ∃ (t38 : OA) (t38n t38c : Nat), cellH h t36 = some (.slice t38 t38n t38c) ∧
 nilc f7 (fun t41 =>
 ∃ (t43 : OA) (t43n t43c : Nat), cellH h t41 = some (.slice t43 t43n t43c) ∧
 hwp PP (Instr.sliceAt T_sl_uint8 (.slice t34 t34n t34c) none (some (.int .i64 (t38n : Int))) (some (.int .i64 (t43n : Int)))) (fun v h1 => ∃ (t45 : OA) (t45n t45c : Nat), v = (.slice t45 t45n t45c) ∧
 hwp PP (Builtin.append_ #[T_sl_uint8, T_sl_uint8] T_sl_uint8 #[(.slice t45 t45n t45c), (.slice b2 b2n b2c)]) (fun v_1 h2 => ∃ (t47 : OA) (t47n t47c : Nat), v_1 = (.slice t47 t47n t47c) ∧
 nilc f7 (fun t48 =>
 wr t48 (.slice t47 t47n t47c) (fun h3 =>
 SpecH PP F_disk_Disk_done [(.pointer d0)] h3 (fun v_2 h4 => ∃ (t51 : Int), v_2 = (.int .i64 t51) ∧
 Q (.int .i64 t51) h4)) h2)) h1) h))))) : J1 d0 b2 b2n b2c f7 t19 Q h := by unfold J1; exact Jn.of_txt (an 231) (by kernel_rfl) H
theorem door {d0 : OA} {name1 : ByteArray} {b2 : OA} {b2n b2c : Nat} {Q : VP} {h : Heap} (H :
 SpecH PP F_disk_Disk_find [(.pointer d0), (.string name1)] h (fun v h1 => ∃ (t12 : OA) (t12_1 : Int), v = (.tuple #[(.pointer t12), (.int .i64 t12_1)]) ∧
 let t17 : Bool := (t12_1 != 0)
 br t17 (
 Q (.int .i64 t12_1) h1) (
 nilc d0 (fun t23 =>
 (
 ∃ (t25_1 : Int), cellH h1 t23 = some (.int .i64 t25_1) ∧
 SpecH PP F_disk_Disk_Used [(.pointer d0)] h1 (fun v_2 h3 => ∃ (t27_1 : Int), v_2 = (.int .i64 t27_1) ∧
 let t28_1 : Int := IntKind.i64.wrap (t25_1 - t27_1)
 let t29_1 : Bool := decide ((b2n : Int) > t28_1)
 J1 d0 b2 b2n b2c t12 t29_1 Q h3)) ∧
 (
 SpecH PP F_disk_Disk_Used [(.pointer d0)] h1 (fun v_1 h2 => ∃ (t27 : Int), v_1 = (.int .i64 t27) ∧
 ∃ (t25 : Int), cellH h2 t23 = some (.int .i64 t25) ∧
 let t28 : Int := IntKind.i64.wrap (t25 - t27)
 let t29 : Bool := decide ((b2n : Int) > t28)
 J1 d0 b2 b2n b2c t12 t29 Q h2)) ∧
 True)))) : SpecH PP F_disk_Disk_Append [(.pointer d0), (.string name1), (.slice b2 b2n b2c)] h Q :=
   spec_of_txt (ann := ann) Tryz.func48 rfl rfl (by kernel_rfl) H
end disk_Disk_Append
/-! ### haversack/wal.head: function 49 -/
namespace wal_head
def ann : Ann := (.seq 1 (.region [(List.range 1, 1)]) (.seq 4 (.region [(List.range 6, 4)]) (.exit 4)))
noncomputable abbrev cd (n : Nat) : Code := sub (bodyOf Tryz.f49) (pth n)
abbrev an (n : Nat) : Ann := subA ann (pth n)
theorem door {first0 : Int} {Q : VP} {h : Heap} (H :
 SpecH PP F_little_Put32 [(.slice none 0 0), (.int .u32 1818326888)] h (fun v h1 => ∃ (t3 : OA) (t3n t3c : Nat), v = (.slice t3 t3n t3c) ∧
 let t5 : Int := IntKind.u64.wrap first0
 SpecH PP F_little_Put64 [(.slice t3 t3n t3c), (.int .u64 t5)] h1 (fun v_1 h2 => ∃ (t6 : OA) (t6n t6c : Nat), v_1 = (.slice t6 t6n t6c) ∧
 SpecH PP F_wal_sealed [(.slice t6 t6n t6c)] h2 (fun v_2 h3 => ∃ (t7 : OA) (t7n t7c : Nat), v_2 = (.slice t7 t7n t7c) ∧
 Q (.slice t7 t7n t7c) h3)))) : SpecH PP F_wal_head [(.int .i64 first0)] h Q :=
   spec_of_txt (ann := ann) Tryz.func49 rfl rfl (by kernel_rfl) H
end wal_head
/-! ### haversack/wal.laid: function 50 -/
namespace wal_laid
def ann : Ann := (.seq 2 (.region [(List.range 2, 2)]) (.seq 10 (.tree (.run [0, 1, 2, 3, 5] (.alt 4 (.run [6, 7, 8, 9] .done) (.alt 6 (.run [4, 7, 8, 9] .done) .nil))) 10) (.join (.seq 4 (.region [(List.range 6, 4)]) (.exit 4)))))
noncomputable abbrev cd (n : Nat) : Code := sub (bodyOf Tryz.f50) (pth n)
abbrev an (n : Nat) : Ann := subA ann (pth n)
@[irreducible] def J1 (r1 : Addr) (b3 : OA) (b3n b3c : Nat) (Q : VP) (h : Heap) : Prop := Jn PP true (cd 7) (mkFr 0 18 [(1, (.pointer (some r1))), (3, (.slice b3 b3n b3c))]) (bodyK PP Tryz.f50 Q) h
theorem J1_of {r1 : Addr} {b3 : OA} {b3n b3c : Nat} {Q : VP} {h : Heap} (H :
 ∃ (t15 : ByteArray), cellH h (Addr.add r1 1) = some (.string t15) ∧
 hwp PP (Builtin.append_ #[T_sl_uint8, T_string] T_sl_uint8 #[(.slice b3 b3n b3c), (.string t15)]) (fun v h1 => ∃ (t16 : OA) (t16n t16c : Nat), v = (.slice t16 t16n t16c) ∧
 SpecH PP F_wal_sealed [(.slice t16 t16n t16c)] h1 (fun v_1 h2 => ∃ (t17 : OA) (t17n t17c : Nat), v_1 = (.slice t17 t17n t17c) ∧
 Q (.slice t17 t17n t17c) h2)) h) : J1 r1 b3 b3n b3c Q h := by unfold J1; exact Jn.of_txt (an 7) (by kernel_rfl) H
theorem door {r0f0 : Int} {r0f1 : ByteArray} {Q : VP} {h : Heap} (H :
 let r1 : Addr := ⟨Array.size h, 0, none⟩
 let h1 : Heap := Array.push h (.cells #[(.int .i64 r0f0), (.string r0f1)] T_api_Record (0, 0))
 ∃ (t5 : ByteArray), cellH h1 (Addr.add r1 1) = some (.string t5) ∧
 let t6 : Int := (ByteArray.size t5 : Int)
 let t7 : Int := IntKind.u32.wrap t6
 (
 SpecH PP F_little_Put32 [(.slice none 0 0), (.int .u32 t7)] h1 (fun v_2 h4 => ∃ (t8_1 : OA) (t8_1n t8_1c : Nat), v_2 = (.slice t8_1 t8_1n t8_1c) ∧
 ∃ (t10_1 : Int), cellH h4 r1 = some (.int .i64 t10_1) ∧
 let t11_1 : Int := IntKind.u64.wrap t10_1
 SpecH PP F_little_Put64 [(.slice t8_1 t8_1n t8_1c), (.int .u64 t11_1)] h4 (fun v_3 h5 => ∃ (t12_1 : OA) (t12_1n t12_1c : Nat), v_3 = (.slice t12_1 t12_1n t12_1c) ∧
 J1 r1 t12_1 t12_1n t12_1c Q h5))) ∧
 (
 ∃ (t10 : Int), cellH h1 r1 = some (.int .i64 t10) ∧
 SpecH PP F_little_Put32 [(.slice none 0 0), (.int .u32 t7)] h1 (fun v h2 => ∃ (t8 : OA) (t8n t8c : Nat), v = (.slice t8 t8n t8c) ∧
 let t11 : Int := IntKind.u64.wrap t10
 SpecH PP F_little_Put64 [(.slice t8 t8n t8c), (.int .u64 t11)] h2 (fun v_1 h3 => ∃ (t12 : OA) (t12n t12c : Nat), v_1 = (.slice t12 t12n t12c) ∧
 J1 r1 t12 t12n t12c Q h3))) ∧
 True) : SpecH PP F_wal_laid [(.agg #[(.int .i64 r0f0), (.string r0f1)])] h Q :=
   spec_of_txt (ann := ann) Tryz.func50 rfl rfl (by kernel_rfl) H
end wal_laid
/-! ### (*haversack/disk.Disk).change: function 51 -/
namespace disk_Disk_change
def ann : Ann := (.seq 9 (.region [(List.range 2, 9)]) (.seq 9 (.region [(List.range 6, 9)]) (.seq 1 (.region [(List.range 11, 1)]) (.seq 16 (.region [(List.range 3, 16)]) (.exit 16)))))
noncomputable abbrev cd (n : Nat) : Code := sub (bodyOf Tryz.f51) (pth n)
abbrev an (n : Nat) : Ann := subA ann (pth n)
theorem door {d0 : OA} {c1f0 c1f1 : ByteArray} {c1f2 : OA} {Q : VP} {h : Heap} (H :
 let c3 : Addr := ⟨Array.size h, 0, none⟩
 let h1 : Heap := Array.push h (.cells #[(.string c1f0), (.string c1f1), (.pointer c1f2)] T_disk_change (0, 0))
 nilc d0 (fun t6 =>
 ∃ (t8 : ON), cellH h1 (Addr.add t6 1) = some (.map t8) ∧
 ∃ (t9f0 t9f1 : ByteArray) (t9f2 : OA), rdCells h1 c3 0 [(.string t9f0), (.string t9f1), (.pointer t9f2)] ∧
 SpecH PP F_disk_names_do [(.map t8), (.agg #[(.string t9f0), (.string t9f1), (.pointer t9f2)])] h1 (fun v h2 => v = (.tuple #[]) ∧
 nilc d0 (fun t13 =>
 ∃ (t15 : OA) (t15n t15c : Nat), cellH h2 (Addr.add t13 3) = some (.slice t15 t15n t15c) ∧
 ∃ (t16f0 t16f1 : ByteArray) (t16f2 : OA), rdCells h2 c3 0 [(.string t16f0), (.string t16f1), (.pointer t16f2)] ∧
 let h3 : Heap := Array.push h2 (.cells #[(.string t16f0), (.string t16f1), (.pointer t16f2)] T_disk_change (0, 0))
 hwp PP (Builtin.append_ #[T_sl_disk_change, T_sl_disk_change] T_sl_disk_change #[(.slice t15 t15n t15c), (.slice (some ⟨Array.size h2, 0, none⟩) 1 1)]) (fun v_1 h4 => ∃ (t18 : OA) (t18n t18c : Nat), v_1 = (.slice t18 t18n t18c) ∧
 nilc d0 (fun t19 =>
 wr (Addr.add t19 3) (.slice t18 t18n t18c) (fun h5 =>
 SpecH PP F_disk_Disk_done [(.pointer d0)] h5 (fun v_2 h6 => ∃ (t22 : Int), v_2 = (.int .i64 t22) ∧
 Q (.int .i64 t22) h6)) h4)) h3)))) : SpecH PP F_disk_Disk_change [(.pointer d0), (.agg #[(.string c1f0), (.string c1f1), (.pointer c1f2)])] h Q :=
   spec_of_txt (ann := ann) Tryz.func51 rfl rfl (by kernel_rfl) H
end disk_Disk_change
/-! ### (*haversack/disk.Disk).done: function 52 -/
namespace disk_Disk_done
def ann : Ann := (.seq 1 (.region [(List.range 1, 1)]) (.seq 1 (.region [(List.range 8, 1)]) (.seq 0 (.seq 8193 (.region [(List.range 4, 8193)]) (.cond (.region [(List.range 8, 0)]) .leaf)) (.seq 4 (.region [(List.range 1, 4)]) (.exit 4)))))
noncomputable abbrev cd (n : Nat) : Code := sub (bodyOf Tryz.f52) (pth n)
abbrev an (n : Nat) : Ann := subA ann (pth n)
theorem door {d0 : OA} {Q : VP} {h : Heap} (H :
 nilc d0 (fun t4 =>
 ∃ (t6 : Int), cellH h (Addr.add t4 4) = some (.int .i64 t6) ∧
 let t7 : Int := IntKind.i64.wrap (t6 + 1)
 nilc d0 (fun t8 =>
 wr (Addr.add t8 4) (.int .i64 t7) (fun h1 =>
 nilc d0 (fun t11 =>
 ∃ (t13 : Bool), cellH h1 (Addr.add t11 5) = some (.bool t13) ∧
 br t13 (
 nilc d0 (fun t15 =>
 ∃ (t17 : Int), cellH h1 (Addr.add t15 6) = some (.int .i64 t17) ∧
 let t18 : Int := IntKind.i64.wrap (t17 - 1)
 nilc d0 (fun t19 =>
 wr (Addr.add t19 6) (.int .i64 t18) (fun h2 =>
 Q (.int .i64 0) h2) h1))) (
 Q (.int .i64 0) h1))) h))) : SpecH PP F_disk_Disk_done [(.pointer d0)] h Q :=
   spec_of_txt (ann := ann) Tryz.func52 rfl rfl (by kernel_rfl) H
end disk_Disk_done
/-! ### slices.Collect[string]: function 53 -/
namespace slices_Collect_string
def ann : Ann := (.seq 1 (.region [(List.range 1, 1)]) (.seq 4 (.region [(List.range 3, 4)]) (.exit 4)))
noncomputable abbrev cd (n : Nat) : Code := sub (bodyOf Tryz.f53) (pth n)
abbrev an (n : Nat) : Ann := subA ann (pth n)
theorem door {seq0 : Value} {Q : VP} {h : Heap} (H :
 SpecH PP F_slices_AppendSeq_string_string [(.slice none 0 0), seq0] h (fun v h1 => ∃ (t4 : OA) (t4n t4c : Nat), v = (.slice t4 t4n t4c) ∧
 Q (.slice t4 t4n t4c) h1)) : SpecH PP F_slices_Collect_string [seq0] h Q :=
   spec_of_txt (ann := ann) Tryz.func53 rfl rfl (by kernel_rfl) H
end slices_Collect_string
/-! ### maps.Keys[haversack/disk.names,string,*haversack/disk.file]$1: function 55 -/
namespace maps_Keys_disk_names_string_disk_file_1
def ann : Ann := (.seq 33 (.region [(List.range 2, 33)]) (.block (.loop 33 (.seq 161 (.region [(List.range 2, 161)]) (.seq 33 (.cond .leaf (.exit 0)) (.block (.seq 41 (.region [(List.range 3, 41)]) (.seq 8225 (.region [(List.range 4, 8225)]) (.cond (.exit 0) .leaf)))))))))
noncomputable abbrev cd (n : Nat) : Code := sub (bodyOf Tryz.f55) (pth n)
abbrev an (n : Nat) : Ann := subA ann (pth n)
@[irreducible] def Xret  : Fr := (mkFr 0 14 [])
@[irreducible] def X0  : Fr := (mkFr 0 14 [])
@[irreducible] def L1 (yield0 t5 : Value) (K : EP) (h : Heap) : Prop := Lp PP true (cd 12) (mkFr 0 14 [(0, yield0), (5, t5)]) K h
@[irreducible] def B1 (K : EP) : EP := seqK (fun fr h => Lp PP true (cd 12) (fr.mask 33) K h) K
@[irreducible] def K1 (Q : VP) : EP := blockK 0 (bodyK PP Tryz.f55 Q)
theorem L1_of {yield0 t5 : Value} {K : EP} {h : Heap} (H :
 hwp PP (Instr.next t5 false T_) (fun v h1 => ∃ (b : Bool) (r : List Value), v = .tuple ((.bool b :: r).toArray) ∧
 br b (
 hwp PP (Instr.entry t5) (fun v_1 h2 => ∃ (t8 t8_1 : Value), v_1 = (.tuple #[t8, t8_1]) ∧
 ∃ (t9 : ByteArray), t8 = (.string t9) ∧
 callV PP yield0 [(.string t9)] (fun v_2 h3 => ∃ (t12 : Bool), v_2 = (.bool t12) ∧
 let t13 : Bool := (!t12)
 br t13 (
 K .ret (Xret) h3) (
 L1 yield0 t5 K h3)) h2) h1) (
 K (.exit 0) (X0) h1)) h) : L1 yield0 t5 K h := by unfold L1; exact Lp.of_txt (an 12) 33 (by kernel_rfl) H
theorem L1_Xret {Q : VP}  {h : Heap} (H :
 Q (.tuple #[]) h) : (K1 Q) .ret (Xret ) h := of_eq_txt (by kernel_rfl) H
theorem L1_X0 {Q : VP}  {h : Heap} (H :
 Q (.tuple #[]) h) : (K1 Q) (.exit 0) (X0 ) h := of_eq_txt (by kernel_rfl) H
theorem door {yield0 : Value} {t1 : Addr} {Q : VP} {h : Heap} (H :
 ∃ (t4 : ON), cellH h t1 = some (.map t4) ∧
 hwp PP (Instr.range T_disk_names (.map t4)) (fun v h1 => ∃ (t5 : Value), v = t5 ∧
 L1 yield0 t5 (K1 Q) h1) h) : SpecH PP F_maps_Keys_disk_names_string_disk_file_1 [yield0, (.pointer (some t1))] h Q :=
   spec_of_txt (ann := ann) Tryz.func55 rfl rfl (by kernel_rfl) H
end maps_Keys_disk_names_string_disk_file_1
/-! ### haversack/little.Sum: function 62 -/
namespace little_Sum
def ann : Ann := (.seq 1 (.region [(List.range 1, 1)]) (.seq 4 (.region [(List.range 3, 4)]) (.exit 4)))
noncomputable abbrev cd (n : Nat) : Code := sub (bodyOf Tryz.f62) (pth n)
abbrev an (n : Nat) : Ann := subA ann (pth n)
theorem door {b0 : OA} {b0n b0c : Nat} {Q : VP} {h : Heap} (H :
 SpecH PP F_little_More [(.int .u32 0), (.slice b0 b0n b0c)] h (fun v h1 => ∃ (t4 : Int), v = (.int .u32 t4) ∧
 Q (.int .u32 t4) h1)) : SpecH PP F_little_Sum [(.slice b0 b0n b0c)] h Q :=
   spec_of_txt (ann := ann) Tryz.func62 rfl rfl (by kernel_rfl) H
end little_Sum
/-! ### haversack/little.get: function 63 -/
namespace little_get
def ann : Ann := (.seq 199 (.region [(List.range 2, 199)]) (.seq 199 (.seq 1048775 (.region [(List.range 10, 1048775)]) (.join (.cond (.seq 192 (.region [(List.range 2, 192)]) (.exit 192)) .leaf))) (.seq 455 (.region [(List.range 1, 455)]) (.seq 256 (.seq 134218176 (.region [(List.range 7, 134218176)]) (.block (.range 448 (.region [(List.range 1, 1280)]) (.block (.region [(List.range 6, 0)]))))) (.seq 192 (.region [(List.range 3, 192)]) (.exit 192))))))
noncomputable abbrev cd (n : Nat) : Code := sub (bodyOf Tryz.f63) (pth n)
abbrev an (n : Nat) : Ann := subA ann (pth n)
@[irreducible] def K1 (Q : VP) : EP := seqK (fun fr h => ev PP true none (cd 7) (an 7) (fr.mask 199) (bodyKR PP Tryz.f63 Q) h) (bodyKR PP Tryz.f63 Q)
@[irreducible] def J1 (b0 : OA) (b0n b0c : Nat) (at1 xn2 t6 t7 : Int) (t20 : Bool) (Q : VP) (h : Heap) : Prop := Jn PP true (cd 13) (mkFr 0 36 [(0, (.slice b0 b0n b0c)), (1, (.int .i64 at1)), (2, (.int .i64 xn2)), (6, (.int .u64 t6)), (7, (.int .i64 t7)), (20, (.bool t20))]) (K1 Q) h
@[irreducible] def K3 (Q : VP) : EP := seqK (fun fr h => ev PP true none (cd 31) (an 31) (fr.mask 256) (bodyKR PP Tryz.f63 Q) h) (bodyKR PP Tryz.f63 Q)
@[irreducible] def K2 (Q : VP) : EP := blockK 0 (K3 Q)
@[irreducible] def R1 (t6 t7 : Int) (v8 : Addr) (t28 : Value) (t29 : Int) (l : Nat) (K : VP) (h : Heap) : Prop := ev PP false none (cd 244) (an 244) (setAll (mkFr 0 36 [(6, (.int .u64 t6)), (7, (.int .i64 t7)), (8, (.pointer (some v8)))]) [(28, t28), (29, (.int .u8 t29))]) (roundK PP l (cd 245) (an 245) 1280 K) h
theorem J1_of {b0 : OA} {b0n b0c : Nat} {at1 xn2 t6 t7 : Int} {t20 : Bool} {Q : VP} {h : Heap} (H :
 br t20 (
 ∀ h1, Takes h h1 → Q (.tuple #[(.int .u64 0), (.int .i64 20)]) h1) (
 let v8 : Addr := ⟨Array.size h, 0, none⟩
 let h2 : Heap := Array.push h (.cells #[(.int .u64 0)] T_uint64 (0, 0))
 let t25 : Int := IntKind.i64.wrap (at1 + xn2)
 hwp PP (Instr.sliceAt T_sl_uint8 (.slice b0 b0n b0c) (some (.int .i64 at1)) (some (.int .i64 t25)) none) (fun v h3 => ∃ (t26 : OA) (t26n t26c : Nat), v = (.slice t26 t26n t26c) ∧
 SpecH PP F_slices_Backward_byte_byte [(.slice t26 t26n t26c)] h3 (fun v_1 h4 => ∃ (t27 : Value), v_1 = t27 ∧
 rangeK PP t27 #[28, 29] (cd 244) (cd 245) (mkFr 0 36 [(6, (.int .u64 t6)), (7, (.int .i64 t7)), (8, (.pointer (some v8)))]) (K2 Q) h4)) h2)) : J1 b0 b0n b0c at1 xn2 t6 t7 t20 Q h := by unfold J1; exact Jn.of_txt (an 13) (by kernel_rfl) H
theorem R1_of {t6 t7 : Int} {v8 : Addr} {t28 : Value} {t29 : Int} {l : Nat} {K : VP} {h : Heap} (H :
 ∃ xL : Loop, h[l]? = some (.loop xL) ∧ xL.state = .ready ∧
 let h1 : Heap := h.setIfInBounds l (.loop { xL with state := .busy })
 ∃ (t30 : Int), cellH h1 v8 = some (.int .u64 t30) ∧
 let t31 : Int := sShl .u64 t30 8
 let t33 : Int := IntKind.u64.wrap t29
 let t34 : Int := bOr .u64 t31 t33
 wr v8 (.int .u64 t34) (fun h2 =>
 ∃ xL_1, h2[l]? = some (.loop xL_1) ∧ K (.bool true) (h2.setIfInBounds l (endL xL_1 none))) h1) : R1 t6 t7 v8 t28 t29 l K h := of_eq_txt (by kernel_rfl) H
theorem R1_yield {t6 t7 : Int} {v8 : Addr} {t28 : Value} {t29 : Int} {l : Nat} {K : VP} {h : Heap} {L : Loop} (hl : h[l]? = some (.loop L)) (hp : L.params = #[28, 29]) (ha : L.assign = (cd 244)) (hb : L.body = (cd 245)) (hf : FrRel (mkFr 0 36 [(6, (.int .u64 t6)), (7, (.int .i64 t7)), (8, (.pointer (some v8)))]) L.tmps) (H : R1 t6 t7 v8 t28 t29 l K h) : callV PP (.func (.yield l) #[] #[]) [t28, (.int .u8 t29)] K h := by
   unfold R1 at H
   refine yield_ok (ann := an 244) (annB := an 245) (m := 1280) hl (by rw [hp]; rfl) hf ?_
   rw [ha, hb, hp]; exact H
theorem R1_outn0 {Q : VP} {t6 t7 : Int} {v8 : Addr} {h : Heap} (H :
 ∃ (t35 : Int), cellH h v8 = some (.int .u64 t35) ∧
 ∀ h1, Takes h h1 → Q (.tuple #[(.int .u64 t35), (.int .i64 0)]) h1) : (K2 Q) .normal (mkFr 0 36 [(6, (.int .u64 t6)), (7, (.int .i64 t7)), (8, (.pointer (some v8)))]) h := of_eq_txt (by kernel_rfl) H
theorem door {b0 : OA} {b0n b0c : Nat} {at1 xn2 : Int} {Q : VP} {h : Heap} (H :
 let t12 : Bool := decide (at1 < 0)
 br t12 (
 J1 b0 b0n b0c at1 xn2 0 0 true Q h) (
 let t18 : Int := IntKind.i64.wrap ((b0n : Int) - xn2)
 let t19 : Bool := decide (at1 > t18)
 J1 b0 b0n b0c at1 xn2 0 0 t19 Q h)) : SpecH PP F_little_get [(.slice b0 b0n b0c), (.int .i64 at1), (.int .i64 xn2)] h Q :=
   spec_of_txtR (ann := ann) Tryz.func63 rfl (by kernel_rfl) H
end little_get
/-! ### haversack/disk.good: function 65 -/
namespace disk_good
def ann : Ann := (.seq 1 (.region [(List.range 1, 1)]) (.seq 1 (.seq 449 (.region [(List.range 4, 449)]) (.block (.loop 449 (.seq 961 (.region [(List.range 1, 961)]) (.seq 449 (.cond .leaf (.exit 1)) (.seq 449 (.block (.seq 465 (.region [(List.range 3, 465)]) (.seq 8589935041 (.region [(List.range 22, 8589935041)]) (.join (.cond (.seq 4 (.region [(List.range 1, 4)]) (.exit 4)) .leaf))))) (.region [(List.range 2, 449)]))))))) (.seq 4 (.region [(List.range 8, 4)]) (.exit 4))))
noncomputable abbrev cd (n : Nat) : Code := sub (bodyOf Tryz.f65) (pth n)
abbrev an (n : Nat) : Ann := subA ann (pth n)
@[irreducible] def X0 (name0 : ByteArray) : Fr := (mkFr 0 42 [(0, (.string name0))])
@[irreducible] def Xret (t2 : Bool) : Fr := (mkFr 0 42 [(2, (.bool t2))])
@[irreducible] def L1 (name0 : ByteArray) (t6 : OA) (t6n t6c : Nat) (t7 t8 : Int) (K : EP) (h : Heap) : Prop := Lp PP true (cd 52) (mkFr 0 42 [(0, (.string name0)), (6, (.slice t6 t6n t6c)), (7, (.int .i64 t7)), (8, (.int .i64 t8))]) K h
@[irreducible] def B1 (K : EP) : EP := seqK (fun fr h => Lp PP true (cd 52) (fr.mask 449) K h) K
@[irreducible] def K4 (K : EP) : EP := seqK (fun fr h => ev PP true none (cd 423) (an 423) (fr.mask 449) (B1 K) h) (B1 K)
@[irreducible] def K2 (K : EP) : EP := blockK 1 (K4 K)
@[irreducible] def J1 (name0 : ByteArray) (t6 : OA) (t6n t6c : Nat) (t7 t8 : Int) (t33 : Bool) (K : EP) (h : Heap) : Prop := Jn PP true (cd 3379) (mkFr 0 42 [(0, (.string name0)), (6, (.slice t6 t6n t6c)), (7, (.int .i64 t7)), (8, (.int .i64 t8)), (33, (.bool t33))]) (K2 K) h
@[irreducible] def K3 (Q : VP) : EP := seqK (fun fr h => ev PP true none (cd 7) (an 7) (fr.mask 1) (bodyK PP Tryz.f65 Q) h) (bodyK PP Tryz.f65 Q)
@[irreducible] def K1 (Q : VP) : EP := blockK 0 (K3 Q)
theorem L1_of {name0 : ByteArray} {t6 : OA} {t6n t6c : Nat} {t7 t8 : Int} {K : EP} {h : Heap} (H :
 let t9 : Bool := decide (t8 < t7)
 br t9 (
 hwp PP (Instr.indexAt T_sl_uint8 (.slice t6 t6n t6c) (.int .i64 t8)) (fun v h1 => ∃ (t10 : Addr), v = (.pointer (some t10)) ∧
 ∃ (t11 : Int), cellH h1 t10 = some (.int .u8 t11) ∧
 let t13 : Bool := decide (t11 < 97)
 br t13 (
 let t20 : Bool := decide (t11 < 48)
 br t20 (
 let t28 : Bool := (t11 != 46)
 br t28 (
 let t32 : Bool := (t11 != 45)
 J1 name0 t6 t6n t6c t7 t8 t32 K h1) (
 J1 name0 t6 t6n t6c t7 t8 false K h1)) (
 let t23 : Bool := decide (t11 > 57)
 br t23 (
 let t28_1 : Bool := (t11 != 46)
 br t28_1 (
 let t32_1 : Bool := (t11 != 45)
 J1 name0 t6 t6n t6c t7 t8 t32_1 K h1) (
 J1 name0 t6 t6n t6c t7 t8 false K h1)) (
 J1 name0 t6 t6n t6c t7 t8 false K h1))) (
 let t16 : Bool := decide (t11 > 122)
 br t16 (
 let t20_1 : Bool := decide (t11 < 48)
 br t20_1 (
 let t28_2 : Bool := (t11 != 46)
 br t28_2 (
 let t32_2 : Bool := (t11 != 45)
 J1 name0 t6 t6n t6c t7 t8 t32_2 K h1) (
 J1 name0 t6 t6n t6c t7 t8 false K h1)) (
 let t23_1 : Bool := decide (t11 > 57)
 br t23_1 (
 let t28_3 : Bool := (t11 != 46)
 br t28_3 (
 let t32_3 : Bool := (t11 != 45)
 J1 name0 t6 t6n t6c t7 t8 t32_3 K h1) (
 J1 name0 t6 t6n t6c t7 t8 false K h1)) (
 J1 name0 t6 t6n t6c t7 t8 false K h1))) (
 J1 name0 t6 t6n t6c t7 t8 false K h1))) h) (
 K (.exit 0) (X0 name0) h)) : L1 name0 t6 t6n t6c t7 t8 K h := by unfold L1; exact Lp.of_txt (an 52) 449 (by kernel_rfl) H
theorem L1_X0 {Q : VP} {name0 : ByteArray} {h : Heap} (H :
 let t36 : Bool := (!decide (name0 = (⟨#[]⟩ : ByteArray)))
 br t36 (
 let t39 : Int := (ByteArray.size name0 : Int)
 let t40 : Bool := decide (t39 ≤ 32)
 Q (.bool t40) h) (
 Q (.bool false) h)) : (K1 Q) (.exit 0) (X0 name0) h := of_eq_txt (by kernel_rfl) H
theorem J1_of {name0 : ByteArray} {t6 : OA} {t6n t6c : Nat} {t7 t8 : Int} {t33 : Bool} {K : EP} {h : Heap} (H :
 br t33 (
 K .ret (Xret false) h) (
 let t34 : Int := IntKind.i64.wrap (t8 + 1)
 L1 name0 t6 t6n t6c t7 t34 K h)) : J1 name0 t6 t6n t6c t7 t8 t33 K h := by unfold J1; exact Jn.of_txt (an 3379) (by kernel_rfl) H
theorem L1_Xret {Q : VP} {t2 : Bool} {h : Heap} (H :
 Q (.bool t2) h) : (K1 Q) .ret (Xret t2) h := of_eq_txt (by kernel_rfl) H
theorem door {name0 : ByteArray} {Q : VP} {h : Heap} (H :
 hwp PP (Go.convert T_string T_sl_uint8 (.string name0)) (fun v h1 => ∃ (t6 : OA) (t6n t6c : Nat), v = (.slice t6 t6n t6c) ∧
 L1 name0 t6 t6n t6c (t6n : Int) 0 (K1 Q) h1) h) : SpecH PP F_disk_good [(.string name0)] h Q :=
   spec_of_txt (ann := ann) Tryz.func65 rfl rfl (by kernel_rfl) H
end disk_good
/-! ### haversack/wal.sealed: function 66 -/
namespace wal_sealed
def ann : Ann := (.seq 1 (.region [(List.range 1, 1)]) (.seq 4 (.region [(List.range 5, 4)]) (.exit 4)))
noncomputable abbrev cd (n : Nat) : Code := sub (bodyOf Tryz.f66) (pth n)
abbrev an (n : Nat) : Ann := subA ann (pth n)
theorem door {b0 : OA} {b0n b0c : Nat} {Q : VP} {h : Heap} (H :
 SpecH PP F_little_Sum [(.slice b0 b0n b0c)] h (fun v h1 => ∃ (t5 : Int), v = (.int .u32 t5) ∧
 SpecH PP F_little_Put32 [(.slice b0 b0n b0c), (.int .u32 t5)] h1 (fun v_1 h2 => ∃ (t6 : OA) (t6n t6c : Nat), v_1 = (.slice t6 t6n t6c) ∧
 Q (.slice t6 t6n t6c) h2))) : SpecH PP F_wal_sealed [(.slice b0 b0n b0c)] h Q :=
   spec_of_txt (ann := ann) Tryz.func66 rfl rfl (by kernel_rfl) H
end wal_sealed
/-! ### haversack/little.Put64: function 67 -/
namespace little_Put64
def ann : Ann := (.seq 3 (.region [(List.range 1, 3)]) (.seq 16 (.region [(List.range 4, 16)]) (.exit 16)))
noncomputable abbrev cd (n : Nat) : Code := sub (bodyOf Tryz.f67) (pth n)
abbrev an (n : Nat) : Ann := subA ann (pth n)
theorem door {b0 : OA} {b0n b0c : Nat} {v1 : Int} {Q : VP} {h : Heap} (H :
 SpecH PP F_little_put [(.slice b0 b0n b0c), (.int .u64 v1), (.int .i64 8)] h (fun v h1 => ∃ (t7 : OA) (t7n t7c : Nat), v = (.slice t7 t7n t7c) ∧
 Q (.slice t7 t7n t7c) h1)) : SpecH PP F_little_Put64 [(.slice b0 b0n b0c), (.int .u64 v1)] h Q :=
   spec_of_txt (ann := ann) Tryz.func67 rfl rfl (by kernel_rfl) H
end little_Put64
/-! ### haversack/little.Put32: function 68 -/
namespace little_Put32
def ann : Ann := (.seq 3 (.region [(List.range 1, 3)]) (.seq 16 (.region [(List.range 5, 16)]) (.exit 16)))
noncomputable abbrev cd (n : Nat) : Code := sub (bodyOf Tryz.f68) (pth n)
abbrev an (n : Nat) : Ann := subA ann (pth n)
theorem door {b0 : OA} {b0n b0c : Nat} {v1 : Int} {Q : VP} {h : Heap} (H :
 let t7 : Int := IntKind.u64.wrap v1
 SpecH PP F_little_put [(.slice b0 b0n b0c), (.int .u64 t7), (.int .i64 4)] h (fun v h1 => ∃ (t8 : OA) (t8n t8c : Nat), v = (.slice t8 t8n t8c) ∧
 Q (.slice t8 t8n t8c) h1)) : SpecH PP F_little_Put32 [(.slice b0 b0n b0c), (.int .u32 v1)] h Q :=
   spec_of_txt (ann := ann) Tryz.func68 rfl rfl (by kernel_rfl) H
end little_Put32
/-! ### slices.AppendSeq[[]string,string]: function 69 -/
namespace slices_AppendSeq_string_string
def ann : Ann := (.seq 22 (.region [(List.range 2, 22)]) (.seq 4 (.seq 84 (.region [(List.range 1, 84)]) (.block (.range 20 (.region [(List.range 1, 36)]) (.block (.region [(List.range 5, 0)]))))) (.seq 16 (.region [(List.range 2, 16)]) (.exit 16))))
noncomputable abbrev cd (n : Nat) : Code := sub (bodyOf Tryz.f69) (pth n)
abbrev an (n : Nat) : Ann := subA ann (pth n)
@[irreducible] def R1 (s2 : Addr) (t4 : OA) (t4n t4c : Nat) (t7 : ByteArray) (l : Nat) (K : VP) (h : Heap) : Prop := ev PP false none (cd 52) (an 52) (setAll (mkFr 0 13 [(2, (.pointer (some s2))), (4, (.slice t4 t4n t4c))]) [(7, (.string t7))]) (roundK PP l (cd 53) (an 53) 36 K) h
@[irreducible] def K2 (Q : VP) : EP := seqK (fun fr h => ev PP true none (cd 7) (an 7) (fr.mask 4) (bodyKR PP Tryz.f69 Q) h) (bodyKR PP Tryz.f69 Q)
@[irreducible] def K1 (Q : VP) : EP := blockK 0 (K2 Q)
theorem R1_of {s2 : Addr} {t4 : OA} {t4n t4c : Nat} {t7 : ByteArray} {l : Nat} {K : VP} {h : Heap} (H :
 ∃ xL : Loop, h[l]? = some (.loop xL) ∧ xL.state = .ready ∧
 let h1 : Heap := h.setIfInBounds l (.loop { xL with state := .busy })
 ∃ (t8 : OA) (t8n t8c : Nat), cellH h1 s2 = some (.slice t8 t8n t8c) ∧
 let h2 : Heap := Array.push h1 (.cells #[(.string t7)] T_string (0, 0))
 hwp PP (Builtin.append_ #[T_sl_string, T_sl_string] T_sl_string #[(.slice t8 t8n t8c), (.slice (some ⟨Array.size h1, 0, none⟩) 1 1)]) (fun v h3 => ∃ (t11 : OA) (t11n t11c : Nat), v = (.slice t11 t11n t11c) ∧
 wr s2 (.slice t11 t11n t11c) (fun h4 =>
 ∃ xL_1, h4[l]? = some (.loop xL_1) ∧ K (.bool true) (h4.setIfInBounds l (endL xL_1 none))) h3) h2) : R1 s2 t4 t4n t4c t7 l K h := of_eq_txt (by kernel_rfl) H
theorem R1_yield {s2 : Addr} {t4 : OA} {t4n t4c : Nat} {t7 : ByteArray} {l : Nat} {K : VP} {h : Heap} {L : Loop} (hl : h[l]? = some (.loop L)) (hp : L.params = #[7]) (ha : L.assign = (cd 52)) (hb : L.body = (cd 53)) (hf : FrRel (mkFr 0 13 [(2, (.pointer (some s2))), (4, (.slice t4 t4n t4c))]) L.tmps) (H : R1 s2 t4 t4n t4c t7 l K h) : callV PP (.func (.yield l) #[] #[]) [(.string t7)] K h := by
   unfold R1 at H
   refine yield_ok (ann := an 52) (annB := an 53) (m := 36) hl (by rw [hp]; rfl) hf ?_
   rw [ha, hb, hp]; exact H
theorem R1_outn0 {Q : VP} {s2 : Addr} {t4 : OA} {t4n t4c : Nat} {h : Heap} (H :
 ∃ (t12 : OA) (t12n t12c : Nat), cellH h s2 = some (.slice t12 t12n t12c) ∧
 ∀ h1, Takes h h1 → Q (.slice t12 t12n t12c) h1) : (K1 Q) .normal (mkFr 0 13 [(2, (.pointer (some s2))), (4, (.slice t4 t4n t4c))]) h := of_eq_txt (by kernel_rfl) H
theorem door {s0 : OA} {s0n s0c : Nat} {seq1 : Value} {Q : VP} {h : Heap} (H :
 let s2 : Addr := ⟨Array.size h, 0, none⟩
 let h1 : Heap := Array.push h (.cells #[(.slice s0 s0n s0c)] T_sl_string (0, 0))
 rangeK PP seq1 #[7] (cd 52) (cd 53) (mkFr 0 13 [(2, (.pointer (some s2))), (4, (.slice none 0 0))]) (K1 Q) h1) : SpecH PP F_slices_AppendSeq_string_string [(.slice s0 s0n s0c), seq1] h Q :=
   spec_of_txtR (ann := ann) Tryz.func69 rfl (by kernel_rfl) H
end slices_AppendSeq_string_string
/-! ### haversack/little.More: function 75 -/
namespace little_More
def ann : Ann := (.seq 3 (.region [(List.range 1, 3)]) (.seq 34 (.region [(List.range 3, 34)]) (.seq 32 (.seq 7200 (.region [(List.range 3, 7200)]) (.block (.loop 7200 (.seq 15392 (.region [(List.range 1, 15392)]) (.seq 7200 (.cond .leaf (.exit 32)) (.seq 7200 (.block (.seq 7328 (.region [(List.range 3, 7328)]) (.seq 7200 (.region [(List.range 5, 7200)]) (.seq 7200 (.region [(List.range 8, 7200)]) (.region [(List.range 8, 7200)]))))) (.region [(List.range 2, 7200)]))))))) (.seq 16 (.region [(List.range 3, 16)]) (.exit 16)))))
noncomputable abbrev cd (n : Nat) : Code := sub (bodyOf Tryz.f75) (pth n)
abbrev an (n : Nat) : Ann := subA ann (pth n)
@[irreducible] def X0 (r5 : Int) : Fr := (mkFr 0 37 [(5, (.int .u32 r5))])
@[irreducible] def L1 (r5 : Int) (t10 : OA) (t10n t10c : Nat) (t11 t12 : Int) (K : EP) (h : Heap) : Prop := Lp PP true (cd 116) (mkFr 0 37 [(5, (.int .u32 r5)), (10, (.slice t10 t10n t10c)), (11, (.int .i64 t11)), (12, (.int .i64 t12))]) K h
@[irreducible] def B1 (K : EP) : EP := seqK (fun fr h => Lp PP true (cd 116) (fr.mask 7200) K h) K
@[irreducible] def K2 (Q : VP) : EP := seqK (fun fr h => ev PP true none (cd 15) (an 15) (fr.mask 32) (bodyK PP Tryz.f75 Q) h) (bodyK PP Tryz.f75 Q)
@[irreducible] def K1 (Q : VP) : EP := blockK 0 (K2 Q)
theorem L1_of {r5 : Int} {t10 : OA} {t10n t10c : Nat} {t11 t12 : Int} {K : EP} {h : Heap} (H :
 let t13 : Bool := decide (t12 < t11)
 br t13 (
 hwp PP (Instr.indexAt T_sl_uint8 (.slice t10 t10n t10c) (.int .i64 t12)) (fun v h1 => ∃ (t14 : Addr), v = (.pointer (some t14)) ∧
 ∃ (t15 : Int), cellH h1 t14 = some (.int .u8 t15) ∧
 let t18 : Int := IntKind.u32.wrap t15
 let t19 : Int := bXor .u32 r5 t18
 let t21 : Int := sShr .u32 t19 4
 let t23 : Int := bAnd .u32 t19 15
 hwp PP (Instr.indexAt T_16_uint32 (.pointer (some ⟨G_little_steps, 0, none⟩)) (.int .u32 t23)) (fun v_1 h2 => ∃ (t24 : Addr), v_1 = (.pointer (some t24)) ∧
 ∃ (t25 : Int), cellH h2 t24 = some (.int .u32 t25) ∧
 let t26 : Int := bXor .u32 t21 t25
 let t28 : Int := sShr .u32 t26 4
 let t30 : Int := bAnd .u32 t26 15
 hwp PP (Instr.indexAt T_16_uint32 (.pointer (some ⟨G_little_steps, 0, none⟩)) (.int .u32 t30)) (fun v_2 h3 => ∃ (t31 : Addr), v_2 = (.pointer (some t31)) ∧
 ∃ (t32 : Int), cellH h3 t31 = some (.int .u32 t32) ∧
 let t33 : Int := bXor .u32 t28 t32
 let t34 : Int := IntKind.i64.wrap (t12 + 1)
 L1 t33 t10 t10n t10c t11 t34 K h3) h2) h1) h) (
 K (.exit 0) (X0 r5) h)) : L1 r5 t10 t10n t10c t11 t12 K h := by unfold L1; exact Lp.of_txt (an 116) 7200 (by kernel_rfl) H
theorem L1_X0 {Q : VP} {r5 : Int} {h : Heap} (H :
 let t36 : Int := bXor .u32 IntKind.u32.max r5
 Q (.int .u32 t36) h) : (K1 Q) (.exit 0) (X0 r5) h := of_eq_txt (by kernel_rfl) H
theorem door {sum0 : Int} {b1 : OA} {b1n b1c : Nat} {Q : VP} {h : Heap} (H :
 let t9 : Int := bXor .u32 IntKind.u32.max sum0
 L1 t9 b1 b1n b1c (b1n : Int) 0 (K1 Q) h) : SpecH PP F_little_More [(.int .u32 sum0), (.slice b1 b1n b1c)] h Q :=
   spec_of_txt (ann := ann) Tryz.func75 rfl rfl (by kernel_rfl) H
end little_More
/-! ### slices.Backward[[]byte,byte]: function 76 -/
namespace slices_Backward_byte_byte
def ann : Ann := (.seq 2 (.region [(List.range 2, 2)]) (.seq 4 (.region [(List.range 2, 4)]) (.exit 4)))
noncomputable abbrev cd (n : Nat) : Code := sub (bodyOf Tryz.f76) (pth n)
abbrev an (n : Nat) : Ann := subA ann (pth n)
theorem door {s0 : OA} {s0n s0c : Nat} {Q : VP} {h : Heap} (H :
 let s1 : Addr := ⟨Array.size h, 0, none⟩
 let h1 : Heap := Array.push h (.cells #[(.slice s0 s0n s0c)] T_sl_uint8 (0, 0))
 Q (.func (.func F_slices_Backward_byte_byte_1) #[] #[(.pointer (some s1))]) h1) : SpecH PP F_slices_Backward_byte_byte [(.slice s0 s0n s0c)] h Q :=
   spec_of_txt (ann := ann) Tryz.func76 rfl rfl (by kernel_rfl) H
end slices_Backward_byte_byte
/-! ### haversack/little.put: function 78 -/
namespace little_put
def ann : Ann := (.seq 7 (.region [(List.range 1, 7)]) (.seq 135 (.region [(List.range 8, 135)]) (.seq 134 (.region [(List.range 3, 134)]) (.seq 128 (.seq 786562 (.region [(List.range 2, 786562)]) (.block (.loop 786562 (.seq 1835138 (.region [(List.range 1, 1835138)]) (.seq 786562 (.cond .leaf (.exit 128)) (.seq 786562 (.block (.seq 786562 (.region [(List.range 6, 786562)]) (.region [(List.range 3, 786562)]))) (.region [(List.range 2, 786562)]))))))) (.seq 64 (.region [(List.range 2, 64)]) (.exit 64))))))
noncomputable abbrev cd (n : Nat) : Code := sub (bodyOf Tryz.f78) (pth n)
abbrev an (n : Nat) : Ann := subA ann (pth n)
@[irreducible] def X0 (out7 : OA) (out7n out7c : Nat) : Fr := (mkFr 0 30 [(7, (.slice out7 out7n out7c))])
@[irreducible] def L1 (v1 : Int) (out7 : OA) (out7n out7c : Nat) (t18 t19 : Int) (K : EP) (h : Heap) : Prop := Lp PP true (cd 244) (mkFr 0 30 [(1, (.int .u64 v1)), (7, (.slice out7 out7n out7c)), (18, (.int .i64 t18)), (19, (.int .i64 t19))]) K h
@[irreducible] def B1 (K : EP) : EP := seqK (fun fr h => Lp PP true (cd 244) (fr.mask 786562) K h) K
@[irreducible] def K2 (Q : VP) : EP := seqK (fun fr h => ev PP true none (cd 31) (an 31) (fr.mask 128) (bodyK PP Tryz.f78 Q) h) (bodyK PP Tryz.f78 Q)
@[irreducible] def K1 (Q : VP) : EP := blockK 0 (K2 Q)
theorem L1_of {v1 : Int} {out7 : OA} {out7n out7c : Nat} {t18 t19 : Int} {K : EP} {h : Heap} (H :
 let t20 : Bool := decide (t19 < t18)
 br t20 (
 let t23 : Int := IntKind.u8.wrap v1
 let h1 : Heap := Array.push h (.cells #[(.int .u8 t23)] T_uint8 (0, 0))
 hwp PP (Builtin.append_ #[T_sl_uint8, T_sl_uint8] T_sl_uint8 #[(.slice out7 out7n out7c), (.slice (some ⟨Array.size h, 0, none⟩) 1 1)]) (fun v h2 => ∃ (t25 : OA) (t25n t25c : Nat), v = (.slice t25 t25n t25c) ∧
 let t27 : Int := sShr .u64 v1 8
 let t28 : Int := IntKind.i64.wrap (t19 + 1)
 L1 t27 t25 t25n t25c t18 t28 K h2) h1) (
 K (.exit 0) (X0 out7 out7n out7c) h)) : L1 v1 out7 out7n out7c t18 t19 K h := by unfold L1; exact Lp.of_txt (an 244) 786562 (by kernel_rfl) H
theorem L1_X0 {Q : VP} {out7 : OA} {out7n out7c : Nat} {h : Heap} (H :
 Q (.slice out7 out7n out7c) h) : (K1 Q) (.exit 0) (X0 out7 out7n out7c) h := of_eq_txt (by kernel_rfl) H
theorem door {b0 : OA} {b0n b0c : Nat} {v1 xn2 : Int} {Q : VP} {h : Heap} (H :
 let t13 : Int := IntKind.i64.wrap ((b0n : Int) + xn2)
 hwp PP (Instr.makeSlice T_sl_uint8 (.int .i64 (b0n : Int)) (.int .i64 t13)) (fun v h1 => ∃ (t14 : OA) (t14n t14c : Nat), v = (.slice t14 t14n t14c) ∧
 hwp PP (Builtin.copy_ #[T_sl_uint8, T_sl_uint8] T_int #[(.slice t14 t14n t14c), (.slice b0 b0n b0c)]) (fun v_1 h2 => ∃ (t17 : Int), v_1 = (.int .i64 t17) ∧
 L1 v1 t14 t14n t14c xn2 0 (K1 Q) h2) h1) h) : SpecH PP F_little_put [(.slice b0 b0n b0c), (.int .u64 v1), (.int .i64 xn2)] h Q :=
   spec_of_txt (ann := ann) Tryz.func78 rfl rfl (by kernel_rfl) H
end little_put
/-! ### slices.Backward[[]byte,byte]$1: function 92 -/
namespace slices_Backward_byte_byte_1
def ann : Ann := (.seq 11 (.region [(List.range 4, 11)]) (.block (.loop 11 (.seq 11 (.seq 267 (.region [(List.range 2, 267)]) (.cond .leaf (.exit 0))) (.seq 11 (.block (.seq 262155 (.region [(List.range 8, 262155)]) (.cond (.exit 0) .leaf))) (.region [(List.range 3, 11)]))))))
noncomputable abbrev cd (n : Nat) : Code := sub (bodyOf Tryz.f92) (pth n)
abbrev an (n : Nat) : Ann := subA ann (pth n)
@[irreducible] def Xret  : Fr := (mkFr 0 19 [])
@[irreducible] def X0  : Fr := (mkFr 0 19 [])
@[irreducible] def L1 (yield0 : Value) (t1 : Addr) (i3 : Int) (K : EP) (h : Heap) : Prop := Lp PP true (cd 12) (mkFr 0 19 [(0, yield0), (1, (.pointer (some t1))), (3, (.int .i64 i3))]) K h
@[irreducible] def B1 (K : EP) : EP := seqK (fun fr h => Lp PP true (cd 12) (fr.mask 11) K h) K
@[irreducible] def K1 (Q : VP) : EP := blockK 0 (bodyK PP Tryz.f92 Q)
theorem L1_of {yield0 : Value} {t1 : Addr} {i3 : Int} {K : EP} {h : Heap} (H :
 let t8 : Bool := decide (i3 ≥ 0)
 br t8 (
 ∃ (t13 : OA) (t13n t13c : Nat), cellH h t1 = some (.slice t13 t13n t13c) ∧
 hwp PP (Instr.indexAt T_sl_uint8 (.slice t13 t13n t13c) (.int .i64 i3)) (fun v h1 => ∃ (t15 : Addr), v = (.pointer (some t15)) ∧
 ∃ (t16 : Int), cellH h1 t15 = some (.int .u8 t16) ∧
 callV PP yield0 [(.int .i64 i3), (.int .u8 t16)] (fun v_1 h2 => ∃ (t17 : Bool), v_1 = (.bool t17) ∧
 let t18 : Bool := (!t17)
 br t18 (
 K .ret (Xret) h2) (
 let t10 : Int := IntKind.i64.wrap (i3 - 1)
 L1 yield0 t1 t10 K h2)) h1) h) (
 K (.exit 0) (X0) h)) : L1 yield0 t1 i3 K h := by unfold L1; exact Lp.of_txt (an 12) 11 (by kernel_rfl) H
theorem L1_Xret {Q : VP}  {h : Heap} (H :
 Q (.tuple #[]) h) : (K1 Q) .ret (Xret ) h := of_eq_txt (by kernel_rfl) H
theorem L1_X0 {Q : VP}  {h : Heap} (H :
 Q (.tuple #[]) h) : (K1 Q) (.exit 0) (X0 ) h := of_eq_txt (by kernel_rfl) H
theorem door {yield0 : Value} {t1 : Addr} {Q : VP} {h : Heap} (H :
 ∃ (t4 : OA) (t4n t4c : Nat), cellH h t1 = some (.slice t4 t4n t4c) ∧
 let t6 : Int := IntKind.i64.wrap ((t4n : Int) - 1)
 L1 yield0 t1 t6 (K1 Q) h) : SpecH PP F_slices_Backward_byte_byte_1 [yield0, (.pointer (some t1))] h Q :=
   spec_of_txt (ann := ann) Tryz.func92 rfl rfl (by kernel_rfl) H
end slices_Backward_byte_byte_1
end Go.Proofs.YtjihchpobpgpeaaGreatDoor

set_option linter.unusedVariables false
set_option linter.unusedSimpArgs false
namespace Go.Proofs.YtjihchpobpgpeaaGreatDoor
open Go Go.HW
abbrev Nm := ByteArray
abbrev e0 : ByteArray := ⟨#[]⟩
structure Fil where
  bs : List Nat
  safe : Nat
structure Chg where
  fr : Nm
  to : Nm
  f : Nat
/-- What a disk is. -/
structure DS where
  room : Nat
  files : List Fil
  now : List (Nm × Nat)
  safe : List (Nm × Nat)
  chg : List Chg
  steps : Nat
  left : Option Nat
def fil0 : Fil := ⟨[], 0⟩
def Ris (l : List (Nm × Nat)) : Prop := l.Pairwise fun x y => strLt x.1 y.1 = true
def ins : List (Nm × Nat) → Nm × Nat → List (Nm × Nat)
  | [], x => [x]
  | y :: l, x => if strLt y.1 x.1 then y :: ins l x else x :: y :: l
/-- A change, done to names. -/
def ap (l : List (Nm × Nat)) (c : Chg) : List (Nm × Nat) :=
  let l1 := if c.fr = e0 then l else mdel l c.fr
  if c.to = e0 then l1 else ins (mdel l1 c.to) (c.to, c.f)
def aps (l : List (Nm × Nat)) (cs : List Chg) : List (Nm × Nat) := cs.foldl ap l
theorem ins_perm (l : List (Nm × Nat)) (x : Nm × Nat) : (ins l x).Perm (x :: l) := by
  induction l with
  | nil => exact .refl _
  | cons y l ih =>
    unfold ins
    split
    · exact (ih.cons y).trans (.swap ..)
    · exact .refl _
theorem mem_ins {l : List (Nm × Nat)} {x y : Nm × Nat} : y ∈ ins l x ↔ y = x ∨ y ∈ l := by rw [(ins_perm l x).mem_iff, List.mem_cons]
theorem Ris.ins {l : List (Nm × Nat)} {x : Nm × Nat} (h : Ris l) (hx : ∀ y ∈ l, y.1 ≠ x.1) : Ris (ins l x) := by
  induction l with
  | nil => exact List.pairwise_singleton ..
  | cons y l ih =>
    have h' := List.pairwise_cons.1 h
    have hyx := hx y (List.mem_cons_self ..)
    have hx' := fun z hz => hx z (List.mem_cons_of_mem _ hz)
    unfold Go.Proofs.YtjihchpobpgpeaaGreatDoor.ins
    split
    · rename_i e
      refine List.pairwise_cons.2 ⟨fun z hz => ?_, ih h'.2 hx'⟩
      rcases mem_ins.1 hz with rfl | hz
      · exact e
      · exact h'.1 z hz
    · rename_i e
      have e2 : strLt x.1 y.1 = true := by
        cases q : strLt x.1 y.1 with
        | true => rfl
        | false => exact absurd (slt_tri (by simpa using e) q) hyx
      refine List.pairwise_cons.2 ⟨fun z hz => ?_, h⟩
      rcases List.mem_cons.1 hz with rfl | hz
      · exact e2
      · exact slt_trans e2 (h'.1 z hz)
theorem mdel_sub {α β : Type} [DecidableEq α] (l : List (α × β)) (k : α) : (mdel l k).Sublist l := List.filter_sublist
theorem mem_mdel {α β : Type} [DecidableEq α] {l : List (α × β)} {k : α} {x : α × β} : x ∈ mdel l k ↔ x ∈ l ∧ x.1 ≠ k := by
  unfold mdel; rw [List.mem_filter]; simp
theorem Ris.mdel {l : List (Nm × Nat)} (h : Ris l) (k : Nm) : Ris (mdel l k) := h.sublist (mdel_sub ..)
theorem Ris.ap {l : List (Nm × Nat)} (h : Ris l) (c : Chg) : Ris (ap l c) := by
  unfold Go.Proofs.YtjihchpobpgpeaaGreatDoor.ap
  have h1 : Ris (if c.fr = e0 then l else HW.mdel l c.fr) := by split; exact h; exact h.mdel _
  dsimp only
  split
  · exact h1
  · exact (h1.mdel _).ins fun y hy => (mem_mdel.1 hy).2
theorem Ris.aps {cs : List Chg} : ∀ {l : List (Nm × Nat)}, Ris l → Ris (aps l cs) := by
  induction cs with
  | nil => exact fun h => h
  | cons c cs ih => exact fun h => ih (h.ap c)
theorem mem_ap {l : List (Nm × Nat)} {c : Chg} {x : Nm × Nat} (h : x ∈ ap l c) : x ∈ l ∨ (c.to ≠ e0 ∧ x = (c.to, c.f)) := by
  have hd : ∀ y, y ∈ (if c.fr = e0 then l else mdel l c.fr) → y ∈ l := fun y hy => by
    split at hy
    · exact hy
    · exact (mem_mdel.1 hy).1
  unfold ap at h
  dsimp only at h
  split at h
  · exact .inl (hd _ h)
  · rename_i e
    rcases mem_ins.1 h with q | q
    · exact .inr ⟨e, q⟩
    · exact .inl (hd _ (mem_mdel.1 q).1)
theorem mem_aps {cs : List Chg} : ∀ {l : List (Nm × Nat)} {x : Nm × Nat}, x ∈ aps l cs → x ∈ l ∨ ∃ c ∈ cs, c.to ≠ e0 ∧ x = (c.to, c.f) := by
  induction cs with
  | nil => exact fun h => .inl h
  | cons c cs ih =>
    intro l x h
    rcases ih (l := ap l c) h with q | ⟨c', h1, h2⟩
    · rcases mem_ap q with q | q
      · exact .inl q
      · exact .inr ⟨c, List.mem_cons_self .., q⟩
    · exact .inr ⟨c', List.mem_cons_of_mem _ h1, h2⟩
theorem aps_snoc (l : List (Nm × Nat)) (cs : List Chg) (c : Chg) : aps l (cs ++ [c]) = ap (aps l cs) c := by unfold aps; rw [List.foldl_append]; rfl
theorem Ris.nodup {l : List (Nm × Nat)} (h : Ris l) : (l.map (·.1)).Nodup := by
  rw [List.nodup_iff_pairwise_ne, List.pairwise_map]
  exact h.imp fun h e => by rw [e, slt_irrefl] at h; cases h
/-! ### The calls -/
def gch (c : Nat) : Bool := (97 ≤ c && c ≤ 122) || (48 ≤ c && c ≤ 57) || c == 46 || c == 45
def good (n : Nm) : Bool := (sb n).all gch && decide (n ≠ e0) && decide (n.size ≤ 32)
def DS.fl (d : DS) (i : Nat) : Fil := (d.files[i]?).getD fil0
def DS.tick (d : DS) : DS := { d with steps := d.steps + 1, left := d.left.map (· - 1) }
def DS.down (d : DS) : Bool := decide (d.left = some 0)
def DS.change (d : DS) (c : Chg) : DS := DS.tick { d with now := ap d.now c, chg := d.chg ++ [c] }
def DS.find (d : DS) (n : Nm) : Option Nat := mget d.now n
def dnew (room : Nat) : DS := ⟨room, [], [], [], [], 0, none⟩
def DS.create (d : DS) (n : Nm) : DS × Int :=
  if d.down then (d, 94) else if good n = false then (d, 90) else if (d.find n).isSome then (d, 91) else if 64 ≤ d.now.length then (d, 95)
  else (DS.change { d with files := d.files ++ [fil0] } ⟨e0, n, d.files.length⟩, 0)
def sumL (d : DS) (l : List (Nm × Nat)) : Nat := (l.map fun x => (d.fl x.2).bs.length).sum
def DS.used (d : DS) : Nat := if d.down then 0 else sumL d d.now
def DS.append (d : DS) (n : Nm) (b : List Nat) : DS × Int :=
  if d.down then (d, 94) else match d.find n with
  | none => (d, 92)
  | some i => if (d.room : Int) - d.used < b.length then (d, 93) else (DS.tick { d with files := d.files.set i ⟨(d.fl i).bs ++ b, (d.fl i).safe⟩ }, 0)
def DS.sync (d : DS) (n : Nm) : DS × Int :=
  if d.down then (d, 94) else match d.find n with
  | none => (d, 92)
  | some i => (DS.tick { d with files := d.files.set i ⟨(d.fl i).bs, (d.fl i).bs.length⟩ }, 0)
def DS.rename (d : DS) (n m : Nm) : DS × Int :=
  if d.down then (d, 94) else match d.find n with
  | none => (d, 92)
  | some i => if good m = false then (d, 90) else (d.change ⟨n, m, i⟩, 0)
def DS.remove (d : DS) (n : Nm) : DS × Int :=
  if d.down then (d, 94) else match d.find n with
  | none => (d, 92)
  | some i => (d.change ⟨n, e0, 0⟩, 0)
def DS.syncdir (d : DS) : DS × Int := if d.down then (d, 94) else (DS.tick { d with safe := d.now, chg := [] }, 0)
def DS.read (d : DS) (n : Nm) : List Nat × Int :=
  if d.down then ([], 94) else match d.find n with
  | none => ([], 92)
  | some i => ((d.fl i).bs, 0)
def DS.names (d : DS) : List Nm := if d.down then [] else d.now.map (·.1)
def DS.stop (d : DS) (n : Int) : DS × Int := if d.down then (d, 94) else if n < 0 then (d, 1) else ({ d with left := some n.toNat }, 0)
def says (c : Int) (n : Nat) : Nat := ((if c < 0 then -(c + 1) else c) % ((n : Int) + 1)).toNat
def cut (c : Int) (f : Fil) : Fil :=
  let b := f.bs.take (f.safe + says c (f.bs.length - f.safe))
  let b' := if c < 0 then b.take f.safe ++ List.replicate (b.length - f.safe) 0 else b
  ⟨b', b'.length⟩
def cutAll (cs : List Int) : Nat → List (Nm × Nat) → List Fil → List Fil
  | _, [], fs => fs
  | j, x :: l, fs => cutAll cs (j + 1) l (fs.set x.2 (cut (cs.getD j 0) (fs[x.2]?.getD fil0)))
def DS.crash (d : DS) (cs : List Int) : DS :=
  let m := aps d.safe (d.chg.take (says (cs.getD 0 0) d.chg.length))
  { d with left := none, now := m, safe := m, chg := [], files := cutAll cs 1 m d.files }
/-! ### What is always so -/
structure ChgOk (n : Nat) (c : Chg) : Prop where
  one : c.fr ≠ e0 ∨ c.to ≠ e0
  lt : c.to ≠ e0 → c.f < n
  z : c.to = e0 → c.f = 0
structure DI (d : DS) : Prop where
  room : 1 ≤ d.room ∧ d.room ≤ 4194304
  ris : Ris d.safe
  now : d.now = aps d.safe d.chg
  inj : ∀ k, ((aps d.safe (d.chg.take k)).map (·.2)).Nodup
  ix : ∀ x ∈ d.safe, x.1 ≠ e0 ∧ x.2 < d.files.length
  wf : ∀ c ∈ d.chg, ChgOk d.files.length c
  fil : ∀ f ∈ d.files, f.safe ≤ f.bs.length ∧ f.bs.length ≤ 4194304
  fl : d.files.length ≤ d.steps
  cl : d.chg.length ≤ d.steps
  lf : ∀ n, d.left = some n → n < 2 ^ 63
section
variable {d : DS}
theorem DI.ixs (h : DI d) (k : Nat) : ∀ x ∈ aps d.safe (d.chg.take k), x.1 ≠ e0 ∧ x.2 < d.files.length := by
  intro x hx
  rcases mem_aps hx with q | ⟨c, hc, h1, rfl⟩
  · exact h.ix x q
  · exact ⟨h1, (h.wf c (List.mem_of_mem_take hc)).lt h1⟩
theorem DI.all (h : DI d) : aps d.safe (d.chg.take d.chg.length) = d.now := by rw [List.take_length, ← h.now]
theorem DI.ixn (h : DI d) : ∀ x ∈ d.now, x.1 ≠ e0 ∧ x.2 < d.files.length := by have := h.ixs d.chg.length; rwa [h.all] at this
theorem DI.injn (h : DI d) : (d.now.map (·.2)).Nodup := by have := h.inj d.chg.length; rwa [h.all] at this
theorem DI.risn (h : DI d) : Ris d.now := by rw [h.now]; exact h.ris.aps
theorem DI.keys (h : DI d) : (d.now.map (·.1)).Nodup := h.risn.nodup
theorem DI.find_lt (h : DI d) {n : Nm} {i : Nat} (e : d.find n = some i) : i < d.files.length := (h.ixn _ (mget_mem e)).2
theorem DI.find_ne (h : DI d) {n : Nm} {i : Nat} (e : d.find n = some i) : n ≠ e0 := (h.ixn _ (mget_mem e)).1
theorem fl_eq {i : Nat} (hi : i < d.files.length) : d.files[i]? = some (d.fl i) := by unfold DS.fl; rw [List.getElem?_eq_getElem hi]; rfl
theorem DI.fl_ok (h : DI d) (i : Nat) : (d.fl i).safe ≤ (d.fl i).bs.length ∧ (d.fl i).bs.length ≤ 4194304 := by
  by_cases hi : i < d.files.length
  · exact h.fil _ (List.mem_of_getElem? (fl_eq hi))
  · unfold DS.fl; rw [List.getElem?_eq_none (by omega)]; exact ⟨Nat.le_refl _, by simp [fil0]⟩
theorem nodup_bound : ∀ (n : Nat) (l : List Nat), l.Nodup → (∀ i ∈ l, i < n) → l.length ≤ n := by
  intro n l hn hl
  have := (List.nodup_range (n := n)).length_le_of_subset (l₂ := l)
  have h2 := hn.length_le_of_subset (l₂ := List.range n) fun i hi => List.mem_range.2 (hl i hi)
  simpa using h2
theorem DI.len (h : DI d) (k : Nat) : (aps d.safe (d.chg.take k)).length ≤ d.files.length := by
  have := nodup_bound d.files.length _ (h.inj k) fun i hi => by
    obtain ⟨x, hx, rfl⟩ := List.mem_map.1 hi
    exact (h.ixs k x hx).2
  simpa using this
theorem DI.lenn (h : DI d) : d.now.length ≤ d.files.length := by have := h.len d.chg.length; rwa [h.all] at this
theorem DI.tick (h : DI d) : DI d.tick := ⟨h.room, h.ris, h.now, h.inj, h.ix, h.wf, h.fil, Nat.le_succ_of_le h.fl, Nat.le_succ_of_le h.cl, fun n e => by
  cases e2 : d.left with
  | none => simp [DS.tick, e2] at e
  | some m => have := h.lf m e2; simp [DS.tick, e2] at e; omega⟩
theorem di_new {room : Nat} (h : 1 ≤ room ∧ room ≤ 4194304) : DI (dnew room) := ⟨h, .nil, rfl, fun k => by simp [dnew, aps], nofun, nofun, nofun, Nat.le_refl _, Nat.le_refl _, nofun⟩
theorem nodup_map_ap {l : List (Nm × Nat)} {c : Chg} (h : (l.map (·.2)).Nodup) (hc : c.to ≠ e0 → ∀ x ∈ l, x.2 = c.f → c.fr ≠ e0 ∧ x.1 = c.fr) : ((ap l c).map (·.2)).Nodup := by
  unfold ap
  dsimp only
  have h1 : ((if c.fr = e0 then l else mdel l c.fr).map (·.2)).Nodup := by
    split
    · exact h
    · exact h.sublist ((mdel_sub l c.fr).map _)
  split
  · exact h1
  · rename_i e
    rw [((ins_perm _ _).map _).nodup_iff, List.map_cons, List.nodup_cons]
    refine ⟨fun q => ?_, h1.sublist ((mdel_sub _ c.to).map _)⟩
    obtain ⟨x, hx, hx2⟩ := List.mem_map.1 q
    have hx := (mem_mdel.1 hx).1
    split at hx
    · rename_i e3; exact (hc e x hx hx2).1 e3
    · have hx := mem_mdel.1 hx
      exact hx.2 (hc e x hx.1 hx2).2
theorem DI.change' {fs : List Fil} {c : Chg} (h : DI d) (hf : d.files.length ≤ fs.length) (hs : fs.length ≤ d.steps + 1) (hfs : ∀ f ∈ fs, f.safe ≤ f.bs.length ∧ f.bs.length ≤ 4194304) (hw : ChgOk fs.length c)
    (hc : c.to ≠ e0 → ∀ x ∈ d.now, x.2 = c.f → c.fr ≠ e0 ∧ x.1 = c.fr) : DI (DS.change { d with files := fs } c) := by
  have hn : aps d.safe (d.chg ++ [c]) = ap d.now c := by rw [aps_snoc, ← h.now]
  refine ⟨h.room, h.ris, hn.symm, fun k => ?_, fun x hx => ⟨(h.ix x hx).1, Nat.lt_of_lt_of_le (h.ix x hx).2 hf⟩, fun c' hc' => ?_, hfs, hs, ?_, ?_⟩
  · show ((aps d.safe ((d.chg ++ [c]).take k)).map (·.2)).Nodup
    by_cases hk : k ≤ d.chg.length
    · rw [List.take_append_of_le_length hk]; exact h.inj k
    · rw [List.take_of_length_le (by simp; omega), hn]
      exact nodup_map_ap h.injn hc
  · rcases List.mem_append.1 hc' with q | q
    · have := h.wf c' q
      exact ⟨this.one, fun e => Nat.lt_of_lt_of_le (this.lt e) hf, this.z⟩
    · rw [List.mem_singleton.1 q]; exact hw
  · show (d.chg ++ [c]).length ≤ d.steps + 1
    have := h.cl
    simp; exact this
  · exact h.tick.lf
theorem DI.create (h : DI d) (n : Nm) : DI (d.create n).1 := by
  unfold DS.create
  split
  · exact h
  split
  · exact h
  split
  · exact h
  split
  · exact h
  rename_i h1 h2 h3 h4
  have hg : good n = true := by simpa using h2
  have hne : n ≠ e0 := by unfold good at hg; simp at hg; exact hg.1.2
  refine h.change' (by simp) (by have := h.fl; simp; exact this) (fun f hf => ?_) ⟨.inr hne, fun _ => by simp, fun e => absurd e hne⟩ (fun _ x hx e => ?_)
  · rcases List.mem_append.1 hf with q | q
    · exact h.fil f q
    · rw [List.mem_singleton.1 q]; simp [fil0]
  · have := (h.ixn x hx).2
    have e : x.2 = d.files.length := e
    omega
theorem inj_val {l : List (Nm × Nat)} (h : (l.map (·.2)).Nodup) {x y : Nm × Nat} (hx : x ∈ l) (hy : y ∈ l) (e : x.2 = y.2) : x = y := by
  induction l with
  | nil => cases hx
  | cons z l ih =>
    rw [List.map_cons, List.nodup_cons] at h
    rcases List.mem_cons.1 hx with q | q <;> rcases List.mem_cons.1 hy with r | r
    · rw [q, r]
    · subst q; exact absurd (e ▸ List.mem_map_of_mem r) h.1
    · subst r; exact absurd (e ▸ List.mem_map_of_mem q) h.1
    · exact ih h.2 q r
theorem DI.rename (h : DI d) (n m : Nm) : DI (d.rename n m).1 := by
  unfold DS.rename
  split
  · exact h
  split
  · exact h
  · rename_i i e
    split
    · exact h
    rename_i hg
    have hg : good m = true := by simpa using hg
    have hne : m ≠ e0 := by unfold good at hg; simp at hg; exact hg.1.2
    refine h.change' (fs := d.files) (Nat.le_refl _) (Nat.le_succ_of_le h.fl) h.fil ⟨.inr hne, fun _ => h.find_lt e, fun q => absurd q hne⟩ (fun _ x hx e2 => ⟨h.find_ne e, ?_⟩)
    rw [inj_val h.injn hx (mget_mem e) e2]
theorem DI.remove (h : DI d) (n : Nm) : DI (d.remove n).1 := by
  unfold DS.remove
  split
  · exact h
  split
  · exact h
  · rename_i i e
    exact h.change' (fs := d.files) (Nat.le_refl _) (Nat.le_succ_of_le h.fl) h.fil ⟨.inl (h.find_ne e), fun q => absurd rfl q, fun _ => rfl⟩ (fun q => absurd rfl q)
theorem DI.syncdir (h : DI d) : DI d.syncdir.1 := by
  unfold DS.syncdir
  split
  · exact h
  · refine DI.tick (d := { d with safe := d.now, chg := [] }) ⟨h.room, h.risn, rfl, fun k => ?_, h.ixn, nofun, h.fil, h.fl, Nat.zero_le _, h.lf⟩
    simp only [List.take_nil]
    exact h.injn
theorem DI.setf (h : DI d) {i : Nat} {f : Fil} (hf : f.safe ≤ f.bs.length ∧ f.bs.length ≤ 4194304) : DI { d with files := d.files.set i f } :=
  ⟨h.room, h.ris, h.now, h.inj, by simpa using h.ix, by simpa using h.wf, fun g hg => by
    rcases List.mem_or_eq_of_mem_set hg with q | rfl
    · exact h.fil g q
    · exact hf, by simpa using h.fl, h.cl, h.lf⟩
theorem sum_mem {l : List Nat} {x : Nat} (h : x ∈ l) : x ≤ l.sum := by
  induction l with
  | nil => cases h
  | cons y l ih =>
    rw [List.sum_cons]
    rcases List.mem_cons.1 h with rfl | h
    · omega
    · have := ih h; omega
theorem DI.append (h : DI d) (n : Nm) (b : List Nat) : DI (d.append n b).1 := by
  unfold DS.append
  split
  · exact h
  rename_i hd
  split
  · exact h
  · rename_i i e
    split
    · exact h
    · rename_i hb
      refine (h.setf ⟨?_, ?_⟩).tick
      · have := (h.fl_ok i).1; simp; omega
      · have hu : d.used = sumL d d.now := by unfold DS.used; rw [if_neg hd]
        have h1 : (d.fl i).bs.length ≤ sumL d d.now := sum_mem (List.mem_map.2 ⟨(n, i), mget_mem e, rfl⟩)
        have := h.room
        simp; omega
theorem DI.sync (h : DI d) (n : Nm) : DI (d.sync n).1 := by
  unfold DS.sync
  split
  · exact h
  split
  · exact h
  · rename_i i e
    exact (h.setf (f := ⟨(d.fl i).bs, (d.fl i).bs.length⟩) ⟨Nat.le_refl _, (h.fl_ok i).2⟩).tick
theorem DI.stop (h : DI d) {n : Int} (hn : n < 2 ^ 63) : DI (d.stop n).1 := by
  unfold DS.stop
  split
  · exact h
  split
  · exact h
  · exact ⟨h.room, h.ris, h.now, h.inj, h.ix, h.wf, h.fil, h.fl, h.cl, fun m e => by cases e; omega⟩
theorem cut_ok {f : Fil} (c : Int) (h : f.safe ≤ f.bs.length ∧ f.bs.length ≤ 4194304) : (cut c f).safe ≤ (cut c f).bs.length ∧ (cut c f).bs.length ≤ 4194304 := by
  refine ⟨Nat.le_refl _, ?_⟩
  unfold cut
  dsimp only
  split
  · simp; omega
  · simp; omega
theorem cutAll_len (cs : List Int) : ∀ (l : List (Nm × Nat)) (j : Nat) (fs : List Fil), (cutAll cs j l fs).length = fs.length := by
  intro l
  induction l with
  | nil => exact fun _ _ => rfl
  | cons x l ih => intro j fs; unfold cutAll; rw [ih, List.length_set]
theorem cutAll_ok (cs : List Int) : ∀ (l : List (Nm × Nat)) (j : Nat) (fs : List Fil), (∀ f ∈ fs, f.safe ≤ f.bs.length ∧ f.bs.length ≤ 4194304) → ∀ f ∈ cutAll cs j l fs, f.safe ≤ f.bs.length ∧ f.bs.length ≤ 4194304 := by
  intro l
  induction l with
  | nil => exact fun _ _ h => h
  | cons x l ih =>
    intro j fs h
    unfold cutAll
    refine ih _ _ fun f hf => ?_
    rcases List.mem_or_eq_of_mem_set hf with q | rfl
    · exact h f q
    · refine cut_ok _ ?_
      cases e : fs[x.2]? with
      | none => simp [fil0]
      | some g => exact h g (List.mem_of_getElem? e)
theorem DI.crash (h : DI d) (cs : List Int) : DI (d.crash cs) := by
  refine ⟨h.room, h.ris.aps, rfl, fun k => ?_, fun x hx => ?_, nofun, cutAll_ok _ _ _ _ h.fil, ?_, Nat.zero_le _, nofun⟩
  · simp only [DS.crash, List.take_nil]
    exact h.inj _
  · have := h.ixs _ x hx
    refine ⟨this.1, ?_⟩
    simp only [DS.crash]
    rw [cutAll_len]; exact this.2
  · simp only [DS.crash]
    rw [cutAll_len]; exact h.fl
/-! ### Steps -/
theorem create_steps (n : Nm) : (d.create n).1.steps ≤ d.steps + 1 := by
  unfold DS.create; split <;> (try split) <;> (try split) <;> (try split) <;> simp [DS.change, DS.tick]
theorem append_steps (n : Nm) (b : List Nat) : (d.append n b).1.steps ≤ d.steps + 1 := by
  unfold DS.append; split; simp; split; simp; split <;> simp [DS.tick]
theorem sync_steps (n : Nm) : (d.sync n).1.steps ≤ d.steps + 1 := by
  unfold DS.sync; split; simp; split <;> simp [DS.tick]
theorem rename_steps (n m : Nm) : (d.rename n m).1.steps ≤ d.steps + 1 := by
  unfold DS.rename; split; simp; split; simp; split <;> simp [DS.change, DS.tick]
theorem remove_steps (n : Nm) : (d.remove n).1.steps ≤ d.steps + 1 := by
  unfold DS.remove; split; simp; split <;> simp [DS.change, DS.tick]
theorem syncdir_steps : d.syncdir.1.steps ≤ d.steps + 1 := by
  unfold DS.syncdir; split <;> simp [DS.tick]
theorem stop_steps (n : Int) : (d.stop n).1.steps = d.steps := by
  unfold DS.stop; split; rfl; split <;> rfl
theorem crash_steps (cs : List Int) : (d.crash cs).steps = d.steps := rfl
end
end Go.Proofs.YtjihchpobpgpeaaGreatDoor

set_option linter.unusedVariables false
set_option linter.unusedSimpArgs false
namespace Go.Proofs.YtjihchpobpgpeaaGreatDoor
open Go Go.HW
def nb (xs : List Nat) : List (BitVec 8) := xs.map (BitVec.ofNat 8)
def bn (bs : List (BitVec 8)) : List Nat := bs.map BitVec.toNat
/-- The check of some bytes; a number's bytes; bytes' number. -/
def crc (xs : List Nat) : Nat := (Crc.sum (nb xs)).toNat
def lek (k v : Nat) : List Nat := bn (Num.le k (BitVec.ofNat 64 v))
def getk (xs : List Nat) : Nat := (Num.of (nb xs)).toNat
theorem bn_nb {xs : List Nat} (hx : ∀ x ∈ xs, x < 256) : bn (nb xs) = xs := by
  unfold bn nb
  rw [List.map_map]
  conv => rhs; rw [← List.map_id xs]
  exact List.map_congr_left fun x hm => by simp only [Function.comp, BitVec.toNat_ofNat, Nat.mod_eq_of_lt (hx x hm), id]
theorem nb_bn (bs : List (BitVec 8)) : nb (bn bs) = bs := by
  unfold bn nb
  rw [List.map_map]
  conv => rhs; rw [← List.map_id bs]
  exact List.map_congr_left fun x _ => by simp
theorem lek_len (k v : Nat) : (lek k v).length = k := by unfold lek bn; rw [List.length_map, Num.le_len]
theorem lek_lt {k v x : Nat} (h : x ∈ lek k v) : x < 256 := by
  obtain ⟨b, _, rfl⟩ := List.mem_map.1 h; exact b.isLt
theorem crc_lt (xs : List Nat) : crc xs < 4294967296 := (Crc.sum (nb xs)).isLt
theorem get_le8 {v : Nat} (hv : v < 2 ^ 64) : getk (lek 8 v) = v := by
  unfold getk lek
  rw [nb_bn, Num.of_le8, BitVec.toNat_ofNat, Nat.mod_eq_of_lt hv]
theorem get_le4 {v : Nat} (hv : v < 2 ^ 32) : getk (lek 4 v) = v := by
  unfold getk lek
  rw [nb_bn]
  have h1 := Num.of_le4 (BitVec.ofNat 64 v)
  have h2 := Num.of4 (Num.le 4 (BitVec.ofNat 64 v)) (by rw [Num.le_len]; exact Nat.le_refl _)
  rw [h1] at h2
  rw [← h2, BitVec.toNat_setWidth, BitVec.toNat_setWidth, BitVec.toNat_ofNat]
  omega
def mark : Nat := 0x6c617768
/-- Bytes with their check behind them. -/
def sealB (b : List Nat) : List Nat := b ++ lek 4 (crc b)
def wholeB (b : List Nat) : Bool := decide (4 ≤ b.length) && decide (getk (b.drop (b.length - 4)) = crc (b.take (b.length - 4)))
theorem whole_seal (b : List Nat) : wholeB (sealB b) = true := by
  unfold wholeB sealB
  have hl : (b ++ lek 4 (crc b)).length = b.length + 4 := by rw [List.length_append, lek_len]
  rw [hl, Nat.add_sub_cancel, List.drop_left, List.take_left, get_le4 (crc_lt b)]
  simp
def headB (first : Nat) : List Nat := sealB (lek 4 mark ++ lek 8 first)
def laidB (seq : Nat) (data : List Nat) : List Nat := sealB (lek 4 data.length ++ lek 8 seq ++ data)
theorem head_len (first : Nat) : (headB first).length = 16 := by unfold headB sealB; simp [lek_len]
theorem laid_len (seq : Nat) (data : List Nat) : (laidB seq data).length = data.length + 16 := by unfold laidB sealB; simp [lek_len]; omega
/-- A segment; a log. -/
structure Seg where
  name : Nm
  first : Nat
  next : Nat
  size : Nat
  dirty : Bool
structure LS where
  segs : List Seg
  synced : Nat
  names : Bool
  file : Nat
abbrev Rec := Nat × List Nat
/-- The greatest number of a record. -/
def LS.last (l : LS) : Nat := match l.segs.getLast? with | some s => s.next - 1 | none => 0
def LS.first (l : LS) : Nat := match l.segs.head? with | some s => s.first | none => 0
/-- The digits of a number, the lowest last. -/
def digs (n : Nat) : List Nat := (Nat.toDigits 10 n).map fun c => c.toNat
def segName (file : Nat) : Nm := ⟨([108, 111, 103, 46] ++ (digs (1000001 + file)).drop 1).map UInt8.ofNat |>.toArray⟩
def lbegin (d : DS) (l : LS) (first : Nat) : DS × LS × Int :=
  let nm := segName l.file
  let r1 := d.create nm
  if r1.2 ≠ 0 ∧ r1.2 ≠ 91 then (r1.1, l, r1.2) else
  let r2 := r1.1.append nm (headB first)
  if r2.2 ≠ 0 then ((r2.1.remove nm).1, { l with names := true }, r2.2) else
  (r2.1, { l with names := true, file := l.file + 1, segs := l.segs ++ [⟨nm, first, first, 16, true⟩] }, 0)
def llay (d : DS) (l : LS) (r : Rec) : DS × LS × Int :=
  match l.segs.getLast? with
  | none => (d, l, 0)
  | some s =>
    let b := laidB r.1 r.2
    let r1 := d.append s.name b
    if r1.2 ≠ 0 then (r1.1, l, r1.2) else
    (r1.1, { l with segs := l.segs.dropLast ++ [{ s with size := s.size + b.length, next := s.next + 1, dirty := true }] }, 0)
def lappend (d : DS) (l : LS) (data : List Nat) : DS × LS × Nat × Int :=
  if 65536 < data.length then (d, l, 0, 2) else
  let seq := l.last + 1
  let big := match l.segs.getLast? with | some s => decide (16384 < s.size) | none => false
  let r1 := if big then lbegin d l seq else (d, l, 0)
  if r1.2.2 ≠ 0 then (r1.1, r1.2.1, 0, r1.2.2) else
  let r2 := llay r1.1 r1.2.1 (seq, data)
  if r2.2.2 ≠ 0 then (r2.1, r2.2.1, 0, r2.2.2) else (r2.1, r2.2.1, seq, 0)
def lsyncs (d : DS) : List Seg → DS × List Seg × Int
  | [] => (d, [], 0)
  | s :: l =>
    if s.dirty = false then let r := lsyncs d l; (r.1, s :: r.2.1, r.2.2) else
    let r1 := d.sync s.name
    if r1.2 ≠ 0 then (r1.1, s :: l, r1.2) else
    let r := lsyncs r1.1 l
    (r.1, { s with dirty := false } :: r.2.1, r.2.2)
def lsync (d : DS) (l : LS) : DS × LS × Int :=
  let r := lsyncs d l.segs
  let l1 := { l with segs := r.2.1 }
  if r.2.2 ≠ 0 then (r.1, l1, r.2.2) else
  if l.names then
    let r2 := r.1.syncdir
    if r2.2 ≠ 0 then (r2.1, l1, r2.2) else (r2.1, { l1 with names := false, synced := l1.last }, 0)
  else (r.1, { l1 with synced := l1.last }, 0)
/-- How many segments, but the last, end before a number. -/
def lgone (l : List Seg) (seq : Nat) : Nat := (l.dropLast.takeWhile fun s => decide (s.next ≤ seq + 1)).length
def lrem (d : DS) (l : LS) : Nat → DS × LS × Int
  | 0 => (d, l, 0)
  | n + 1 => match l.segs with
    | [] => (d, l, 0)
    | s :: rest =>
      let r := d.remove s.name
      if r.2 ≠ 0 then (r.1, { l with names := true }, r.2) else lrem r.1 { l with names := true, segs := rest } n
def lcut (d : DS) (l : LS) (seq : Int) : DS × LS × Int :=
  if seq < 0 ∨ (l.last : Int) < seq then (d, l, 101) else
  let full := match l.segs.getLast? with | some s => decide (s.first < s.next) | none => false
  let r1 := if seq = l.last ∧ full = true then lbegin d l (seq.toNat + 1) else (d, l, 0)
  if r1.2.2 ≠ 0 then r1 else
  let g := lgone r1.2.1.segs seq.toNat
  if g = 0 then (r1.1, r1.2.1, 0) else
  let r2 := lsync r1.1 r1.2.1
  if r2.2.2 ≠ 0 then r2 else lrem r2.1 r2.2.1 g
end Go.Proofs.YtjihchpobpgpeaaGreatDoor

set_option linter.unusedVariables false
set_option linter.unusedSimpArgs false
namespace Go.Proofs.YtjihchpobpgpeaaGreatDoor
open Go Go.HW
theorem mget_perm' {α β : Type} [DecidableEq α] {l l' : List (α × β)} (p : l.Perm l') (hn : (l'.map (·.1)).Nodup) (k : α) : mget l k = mget l' k := by
  cases e : mget l' k with
  | none =>
    have := mget_none.1 e
    exact mget_none.2 fun q => this ((p.map _).mem_iff.1 q)
  | some v => exact mget_of_mem ((p.map _).nodup_iff.2 hn) (p.mem_iff.2 (mget_mem e))
theorem ap_new {l : List (Nm × Nat)} {n : Nm} {f : Nat} (hk : (l.map (·.1)).Nodup) (hn : n ≠ e0) (k : Nm) : mget (ap l ⟨e0, n, f⟩) k = if n = k then some f else mget l k := by
  have e : ap l ⟨e0, n, f⟩ = ins (mdel l n) (n, f) := by unfold ap; dsimp only; rw [if_neg hn, if_pos rfl]
  rw [e, mget_perm' (ins_perm _ _) (by
    rw [List.map_cons, List.nodup_cons]
    refine ⟨fun q => ?_, nodup_mdel hk n⟩
    obtain ⟨x, hx, h2⟩ := List.mem_map.1 q
    exact (mem_mdel.1 hx).2 h2), mget_cons, mget_mdel]
  by_cases q : n = k
  · rw [if_pos q, if_pos q]
  · rw [if_neg q, if_neg q, if_neg q]
theorem ap_new_len {l : List (Nm × Nat)} {n : Nm} {f : Nat} (hn : n ≠ e0) (h : mget l n = none) : (ap l ⟨e0, n, f⟩).length = l.length + 1 := by
  have e : ap l ⟨e0, n, f⟩ = ins (mdel l n) (n, f) := by unfold ap; dsimp only; rw [if_neg hn, if_pos rfl]
  rw [e, (ins_perm _ _).length_eq, List.length_cons, mdel_none h]
/-- All bytes that files have. -/
def T (d : DS) : Nat := (d.files.map fun f => f.bs.length).sum
theorem sum_perm' {l m : List Nat} (p : l.Perm m) : l.sum = m.sum := by
  induction p with
  | nil => rfl
  | cons x p ih => rw [List.sum_cons, List.sum_cons, ih]
  | swap x y l => simp only [List.sum_cons]; omega
  | trans p q h1 h2 => rw [h1, h2]
theorem sum_ix (g : Nat → Nat) : ∀ (n : Nat) (l : List Nat), l.Nodup → (∀ i ∈ l, i < n) → (l.map g).sum ≤ ((List.range n).map g).sum
  | 0, l, _, h => by
    cases l with
    | nil => simp
    | cons x l => exact absurd (h x (List.mem_cons_self ..)) (by omega)
  | n + 1, l, hn, h => by
    rw [List.range_succ, List.map_append, List.sum_append]
    by_cases q : n ∈ l
    · have p : l.Perm (n :: l.erase n) := List.perm_cons_erase q
      rw [sum_perm' (p.map g), List.map_cons, List.sum_cons]
      have := sum_ix g n (l.erase n) (hn.erase n) fun i hi => by
        have h1 := h i (List.mem_of_mem_erase hi)
        have h2 : i ≠ n := fun e => by subst e; exact (List.Nodup.not_mem_erase hn) hi
        omega
      simp; omega
    · have := sum_ix g n l hn fun i hi => by
        have h1 := h i hi
        have h2 : i ≠ n := fun e => q (e ▸ hi)
        omega
      omega
theorem T_eq (d : DS) : T d = ((List.range d.files.length).map fun i => (d.fl i).bs.length).sum := by
  unfold T
  congr 1
  refine List.ext_getElem (by simp) fun i h1 h2 => ?_
  simp only [List.getElem_map, List.getElem_range]
  rw [List.length_map] at h1
  have := fl_eq (d := d) h1
  rw [List.getElem?_eq_getElem h1] at this
  rw [Option.some.inj this]
theorem used_T {d : DS} (hd : DI d) : d.used ≤ T d := by
  unfold DS.used
  split
  · exact Nat.zero_le _
  · rw [T_eq]
    unfold sumL
    have := sum_ix (fun i => (d.fl i).bs.length) d.files.length (d.now.map (·.2)) hd.injn fun i hi => by
      obtain ⟨x, hx, rfl⟩ := List.mem_map.1 hi
      exact (hd.ixn x hx).2
    rw [List.map_map] at this
    exact this
theorem T_set {d : DS} {i : Nat} (hi : i < d.files.length) (f : Fil) : (((d.files.set i f).map fun f => f.bs.length).sum) + (d.fl i).bs.length = T d + f.bs.length := by
  unfold T
  have h1 := fl_eq hi
  generalize d.fl i = g at h1 ⊢
  generalize d.files = fs at hi h1 ⊢
  induction fs generalizing i with
  | nil => cases hi
  | cons x fs ih =>
    cases i with
    | zero =>
      simp at h1; subst h1
      simp; omega
    | succ i =>
      have := ih (by simpa using hi) (by simpa using h1)
      simp only [List.set_cons_succ, List.map_cons, List.sum_cons]; omega
/-! ### Names of segments -/
theorem seg_good : ∀ i, i < 100 → good (segName i) = true := by
  have : ∀ i : Fin 100, good (segName i) = true := by decide +kernel
  exact fun i hi => this ⟨i, hi⟩
theorem seg_nodup : ((List.range 100).map segName).Nodup := by decide +kernel
theorem seg_inj {i j : Nat} (hi : i < 100) (hj : j < 100) (e : segName i = segName j) : i = j := by
  have h := seg_nodup
  rw [List.nodup_iff_pairwise_ne, List.pairwise_map] at h
  have h := List.pairwise_iff_getElem.1 h
  rcases Nat.lt_trichotomy i j with q | q | q
  · have := h i j (by simpa using hi) (by simpa using hj) q
    simp only [List.getElem_range] at this
    exact absurd e this
  · exact q
  · have := h j i (by simpa using hj) (by simpa using hi) q
    simp only [List.getElem_range] at this
    exact absurd e.symm this
theorem seg_ne {i : Nat} (hi : i < 100) : segName i ≠ e0 := by
  have := seg_good i hi
  unfold good at this; simp at this; exact this.1.2
end Go.Proofs.YtjihchpobpgpeaaGreatDoor

set_option maxRecDepth 20000
set_option linter.unusedVariables false
namespace Go.Proofs.YtjihchpobpgpeaaGreatDoor
open Go Go.HW
theorem mc_ext {args : List Value} {K : VP} {h : Heap} (H : hwp PP (Extern.MapsClone.clone args.toArray) K h) : callV PP (.func (.func F_maps_clone) #[] #[]) args K h :=
  callV_ext (f := F_maps_clone) (fn := Tryz.f56) Tryz.func56 (by kernel_rfl) (by kernel_rfl) (by kernel_rfl) (e := Extern.MapsClone.clone) (by kernel_rfl) H
end Go.Proofs.YtjihchpobpgpeaaGreatDoor

namespace Go.Proofs
open Go.Shelf
def Tryz.lays172_ren : Go.Shelf.Ren := ⟨fun | 172 => 20 | 244 => 40 | 245 => 41 | 247 => 57 | 279 => 58 | 280 => 59 | 281 => 60 | 282 => 61 | 287 => 72 | 316 => 73 | 171 => 46 | 205 => 74 | 321 => 90 | 322 => 91 | 243 => 64 | 246 => 77 | 283 => 93 | 284 => 94 | 285 => 95 | 286 => 96 | 129 => 89 | 317 => 103 | 318 => 104 | 319 => 105 | 320 => 106 | 337 => 108 | 338 => 109 | n => n, fun | 9 => 9 | 3 => 3 | 75 => 51 | 76 => 52 | 4 => 4 | 5 => 5 | 167 => 103 | 37 => 43 | 0 => 0 | 85 => 104 | 2 => 2 | 168 => 106 | 53 => 92 | 175 => 118 | 46 => 117 | 210 => 122 | 127 => 140 | 145 => 143 | 143 => 141 | 21 => 21 | 171 => 146 | 173 => 148 | 212 => 158 | 51 => 89 | 20 => 20 | 213 => 159 | 232 => 164 | 233 => 165 | 80 => 166 | n => n, fun | 15 => 0 | 16 => 1 | 17 => 3 | 18 => 4 | 19 => 5 | n => n⟩
theorem Tryz.lays172 : Go.Proofs.Lays.n172 Tryz.prog Tryz.lays172_ren := {
  mixed := by kernel_rfl
  f129 := Tryz.func89.trans (congrArg some (by kernel_rfl))
  f171 := Tryz.func46.trans (congrArg some (by kernel_rfl))
  f172 := Tryz.func20.trans (congrArg some (by kernel_rfl))
  f205 := Tryz.func74.trans (congrArg some (by kernel_rfl))
  f243 := Tryz.func64.trans (congrArg some (by kernel_rfl))
  f244 := Tryz.func40.trans (congrArg some (by kernel_rfl))
  f245 := Tryz.func41.trans (congrArg some (by kernel_rfl))
  f246 := Tryz.func77.trans (congrArg some (by kernel_rfl))
  f247 := Tryz.func57.trans (congrArg some (by kernel_rfl))
  f279 := Tryz.func58.trans (congrArg some (by kernel_rfl))
  f280 := Tryz.func59.trans (congrArg some (by kernel_rfl))
  f281 := Tryz.func60.trans (congrArg some (by kernel_rfl))
  f282 := Tryz.func61.trans (congrArg some (by kernel_rfl))
  f283 := Tryz.func93.trans (congrArg some (by kernel_rfl))
  f284 := Tryz.func94.trans (congrArg some (by kernel_rfl))
  f285 := Tryz.func95.trans (congrArg some (by kernel_rfl))
  f286 := Tryz.func96.trans (congrArg some (by kernel_rfl))
  f287 := Tryz.func72.trans (congrArg some (by kernel_rfl))
  f316 := Tryz.func73.trans (congrArg some (by kernel_rfl))
  f317 := Tryz.func103.trans (congrArg some (by kernel_rfl))
  f318 := Tryz.func104.trans (congrArg some (by kernel_rfl))
  f319 := Tryz.func105.trans (congrArg some (by kernel_rfl))
  f320 := Tryz.func106.trans (congrArg some (by kernel_rfl))
  f321 := Tryz.func90.trans (congrArg some (by kernel_rfl))
  f322 := Tryz.func91.trans (congrArg some (by kernel_rfl))
  f337 := Tryz.func108.trans (congrArg some (by kernel_rfl))
  f338 := Tryz.func109.trans (congrArg some (by kernel_rfl))
  t0 := Tryz.underlying0
  a0 := Tryz.isAgg0
  z0 := Tryz.sizeOf0
  v0 := Tryz.zeroValue0
  t2 := Tryz.underlying2
  a2 := Tryz.isAgg2
  z2 := Tryz.sizeOf2
  v2 := Tryz.zeroValue2
  t3 := Tryz.underlying3
  a3 := Tryz.isAgg3
  z3 := Tryz.sizeOf3
  v3 := Tryz.zeroValue3
  t4 := Tryz.underlying4
  a4 := Tryz.isAgg4
  z4 := Tryz.sizeOf4
  v4 := Tryz.zeroValue4
  t5 := Tryz.underlying5
  a5 := Tryz.isAgg5
  z5 := Tryz.sizeOf5
  v5 := Tryz.zeroValue5
  t9 := Tryz.underlying9
  a9 := Tryz.isAgg9
  z9 := Tryz.sizeOf9
  v9 := Tryz.zeroValue9
  t20 := Tryz.underlying20
  a20 := Tryz.isAgg20
  z20 := Tryz.sizeOf20
  v20 := Tryz.zeroValue20
  t21 := Tryz.underlying21
  a21 := Tryz.isAgg21
  z21 := Tryz.sizeOf21
  v21 := Tryz.zeroValue21
  t37 := Tryz.underlying43
  a37 := Tryz.isAgg43
  z37 := Tryz.sizeOf43
  v37 := Tryz.zeroValue43
  t46 := Tryz.underlying117
  a46 := Tryz.isAgg117
  z46 := Tryz.sizeOf117
  v46 := Tryz.zeroValue117
  t51 := Tryz.underlying89
  a51 := Tryz.isAgg89
  z51 := Tryz.sizeOf89
  v51 := Tryz.zeroValue89
  t53 := Tryz.underlying92
  a53 := Tryz.isAgg92
  z53 := Tryz.sizeOf92
  v53 := Tryz.zeroValue92
  t75 := Tryz.underlying51
  a75 := Tryz.isAgg51
  z75 := Tryz.sizeOf51
  v75 := Tryz.zeroValue51
  t76 := Tryz.underlying52
  a76 := Tryz.isAgg52
  z76 := Tryz.sizeOf52
  v76 := Tryz.zeroValue52
  t85 := Tryz.underlying104
  a85 := Tryz.isAgg104
  z85 := Tryz.sizeOf104
  v85 := Tryz.zeroValue104
  t127 := Tryz.underlying140
  a127 := Tryz.isAgg140
  z127 := Tryz.sizeOf140
  v127 := Tryz.zeroValue140
  t143 := Tryz.underlying141
  a143 := Tryz.isAgg141
  z143 := Tryz.sizeOf141
  v143 := Tryz.zeroValue141
  t145 := Tryz.underlying143
  a145 := Tryz.isAgg143
  z145 := Tryz.sizeOf143
  v145 := Tryz.zeroValue143
  t167 := Tryz.underlying103
  a167 := Tryz.isAgg103
  z167 := Tryz.sizeOf103
  v167 := Tryz.zeroValue103
  t168 := Tryz.underlying106
  a168 := Tryz.isAgg106
  z168 := Tryz.sizeOf106
  v168 := Tryz.zeroValue106
  t171 := Tryz.underlying146
  a171 := Tryz.isAgg146
  z171 := Tryz.sizeOf146
  v171 := Tryz.zeroValue146
  t173 := Tryz.underlying148
  a173 := Tryz.isAgg148
  z173 := Tryz.sizeOf148
  v173 := Tryz.zeroValue148
  t175 := Tryz.underlying118
  a175 := Tryz.isAgg118
  z175 := Tryz.sizeOf118
  v175 := Tryz.zeroValue118
  t210 := Tryz.underlying122
  a210 := Tryz.isAgg122
  z210 := Tryz.sizeOf122
  v210 := Tryz.zeroValue122
  t212 := Tryz.underlying158
  a212 := Tryz.isAgg158
  z212 := Tryz.sizeOf158
  v212 := Tryz.zeroValue158
  t213 := Tryz.underlying159
  a213 := Tryz.isAgg159
  z213 := Tryz.sizeOf159
  t232 := Tryz.underlying164
  a232 := Tryz.isAgg164
  z232 := Tryz.sizeOf164
  v232 := Tryz.zeroValue164
  t233 := Tryz.underlying165
  a233 := Tryz.isAgg165
  z233 := Tryz.sizeOf165
  v233 := Tryz.zeroValue165
  g15 := by kernel_rfl
  g16 := by kernel_rfl
  g17 := by kernel_rfl
  g18 := by kernel_rfl
  g19 := by kernel_rfl }
open Go.RowKit in
/-- strconv.Atoi: "Atoi is equivalent to ParseInt(s, 10, 0), converted to type int.": AT A DECIMAL NUMERAL OF AT MOST 18 BYTES: its value, and a nil error. The world behind the call: the one new row that the library's '[]byte(s)' lays. (LAID: no walk: one application.) -/
theorem Tryz.strconv_Atoi (s : ByteArray) (n : Int) (hl : s.size ≤ 18) (h : Lib.atoi s.data.toList = some n) (w : World) :
    Calls Tryz.prog 20 #[.string s] w fun e w' => e = .returned (.tuple #[.int .i64 n, .nilIface]) ∧ ∃ t, w' = Lib.bytesWorld w 5 t := Any.strconv_Atoi Tryz.lays172 s n hl h w
def Tryz.laysM171_ren : Go.Shelf.Ren := ⟨fun | 171 => 46 | 243 => 64 | 246 => 77 | 283 => 93 | 284 => 94 | 285 => 95 | 286 => 96 | 129 => 89 | 317 => 103 | 318 => 104 | 319 => 105 | 320 => 106 | 337 => 108 | 338 => 109 | n => n, fun | 3 => 3 | 9 => 9 | 2 => 2 | 4 => 4 | 171 => 146 | 0 => 0 | 53 => 92 | 37 => 43 | 5 => 5 | 173 => 148 | 212 => 158 | 51 => 89 | 20 => 20 | 213 => 159 | 46 => 117 | 232 => 164 | 233 => 165 | n => n, fun | 17 => 3 | 18 => 4 | 19 => 5 | n => n⟩
theorem Tryz.laysM171 : Go.Proofs.LaysM.n171 Tryz.prog Tryz.laysM171_ren := {
  mixed := by kernel_rfl
  f129 := Tryz.func89.trans (congrArg some (by kernel_rfl))
  f171 := Tryz.func46.trans (congrArg some (by kernel_rfl))
  f243 := Tryz.func64.trans (congrArg some (by kernel_rfl))
  f246 := Tryz.func77.trans (congrArg some (by kernel_rfl))
  f283 := Tryz.func93.trans (congrArg some (by kernel_rfl))
  f284 := Tryz.func94.trans (congrArg some (by kernel_rfl))
  f285 := Tryz.func95.trans (congrArg some (by kernel_rfl))
  f286 := Tryz.func96.trans (congrArg some (by kernel_rfl))
  f317 := Tryz.func103.trans (congrArg some (by kernel_rfl))
  f318 := Tryz.func104.trans (congrArg some (by kernel_rfl))
  f319 := Tryz.func105.trans (congrArg some (by kernel_rfl))
  f320 := Tryz.func106.trans (congrArg some (by kernel_rfl))
  f337 := Tryz.func108.trans (congrArg some (by kernel_rfl))
  f338 := Tryz.func109.trans (congrArg some (by kernel_rfl))
  t0 := Tryz.underlying0
  a0 := Tryz.isAgg0
  z0 := Tryz.sizeOf0
  v0 := Tryz.zeroValue0
  t2 := Tryz.underlying2
  a2 := Tryz.isAgg2
  z2 := Tryz.sizeOf2
  v2 := Tryz.zeroValue2
  t3 := Tryz.underlying3
  a3 := Tryz.isAgg3
  z3 := Tryz.sizeOf3
  v3 := Tryz.zeroValue3
  t4 := Tryz.underlying4
  a4 := Tryz.isAgg4
  z4 := Tryz.sizeOf4
  v4 := Tryz.zeroValue4
  t5 := Tryz.underlying5
  a5 := Tryz.isAgg5
  z5 := Tryz.sizeOf5
  v5 := Tryz.zeroValue5
  t9 := Tryz.underlying9
  a9 := Tryz.isAgg9
  z9 := Tryz.sizeOf9
  v9 := Tryz.zeroValue9
  t20 := Tryz.underlying20
  a20 := Tryz.isAgg20
  z20 := Tryz.sizeOf20
  v20 := Tryz.zeroValue20
  t37 := Tryz.underlying43
  a37 := Tryz.isAgg43
  z37 := Tryz.sizeOf43
  v37 := Tryz.zeroValue43
  t46 := Tryz.underlying117
  a46 := Tryz.isAgg117
  z46 := Tryz.sizeOf117
  v46 := Tryz.zeroValue117
  t51 := Tryz.underlying89
  a51 := Tryz.isAgg89
  z51 := Tryz.sizeOf89
  v51 := Tryz.zeroValue89
  t53 := Tryz.underlying92
  a53 := Tryz.isAgg92
  z53 := Tryz.sizeOf92
  v53 := Tryz.zeroValue92
  t171 := Tryz.underlying146
  a171 := Tryz.isAgg146
  z171 := Tryz.sizeOf146
  v171 := Tryz.zeroValue146
  t173 := Tryz.underlying148
  a173 := Tryz.isAgg148
  z173 := Tryz.sizeOf148
  v173 := Tryz.zeroValue148
  t212 := Tryz.underlying158
  a212 := Tryz.isAgg158
  z212 := Tryz.sizeOf158
  v212 := Tryz.zeroValue158
  t213 := Tryz.underlying159
  a213 := Tryz.isAgg159
  z213 := Tryz.sizeOf159
  t232 := Tryz.underlying164
  a232 := Tryz.isAgg164
  z232 := Tryz.sizeOf164
  v232 := Tryz.zeroValue164
  t233 := Tryz.underlying165
  a233 := Tryz.isAgg165
  z233 := Tryz.sizeOf165
  v233 := Tryz.zeroValue165
  g17 := by kernel_rfl
  g18 := by kernel_rfl
  g19 := by kernel_rfl
  i0 := by kernel_rfl
  i2 := by kernel_rfl
  i3 := by kernel_rfl
  i4 := by kernel_rfl
  i5 := by kernel_rfl
  i9 := by kernel_rfl
  i20 := by kernel_rfl
  i37 := by kernel_rfl
  i46 := by kernel_rfl
  i51 := by kernel_rfl
  i53 := by kernel_rfl
  i171 := by kernel_rfl
  i173 := by kernel_rfl
  i212 := by kernel_rfl
  i232 := by kernel_rfl
  i233 := by kernel_rfl
  m17 := by kernel_rfl
  m18 := by kernel_rfl
  m19 := by kernel_rfl }
open Go.RowKit Go.Sort Go.Lib in
/-- strconv.Itoa: "Itoa is equivalent to FormatInt(int64(i), 10).": i's DECIMAL NUMERAL ('Lib.itoa': a '-' where i is negative, then the digits), FOR EVERY int. The world behind the call: the world before it, new blocks behind the heap (the library's 'var a [24]byte'), draws. (LAID: no walk: one application.) -/
theorem Tryz.strconv_Itoa (n : Int) (h0 : -9223372036854775808 ≤ n) (h1 : n ≤ 9223372036854775807) (w : World) (htab : Lib.TabIs Tryz.prog w "internal/strconv.uint64pow10" .u64 Lib.pow10Tab) :
    Calls Tryz.prog 46 #[.int .i64 n] w fun e w' => e = .returned (.string ⟨(Lib.itoa n).toArray⟩) ∧ ∃ k os, w' = grow (w.drewN k) os := Any.strconv_Itoa Tryz.laysM171 n h0 h1 w htab
def Tryz.lays190_ren : Go.Shelf.Ren := ⟨fun | 190 => 54 | 125 => 71 | 258 => 70 | 128 => 88 | 129 => 89 | 302 => 79 | 303 => 80 | 304 => 81 | 305 => 82 | 306 => 83 | 307 => 84 | 308 => 85 | 309 => 86 | 310 => 87 | 333 => 97 | 329 => 98 | 330 => 99 | 334 => 100 | 335 => 101 | 336 => 102 | 344 => 107 | n => n, fun | 31 => 35 | 9 => 9 | 3 => 3 | 46 => 117 | 0 => 0 | 51 => 89 | 53 => 92 | 4 => 4 | 183 => 132 | 182 => 131 | 131 => 56 | 5 => 5 | 218 => 150 | 222 => 154 | 228 => 161 | 229 => 162 | n => n, fun | n => n⟩
theorem Tryz.lays190 : Go.Proofs.Lays.n190 Tryz.prog Tryz.lays190_ren := {
  mixed := by kernel_rfl
  f125 := Tryz.func71.trans (congrArg some (by kernel_rfl))
  f128 := Tryz.func88.trans (congrArg some (by kernel_rfl))
  f129 := Tryz.func89.trans (congrArg some (by kernel_rfl))
  f190 := Tryz.func54.trans (congrArg some (by kernel_rfl))
  f258 := Tryz.func70.trans (congrArg some (by kernel_rfl))
  f302 := Tryz.func79.trans (congrArg some (by kernel_rfl))
  f303 := Tryz.func80.trans (congrArg some (by kernel_rfl))
  f304 := Tryz.func81.trans (congrArg some (by kernel_rfl))
  f305 := Tryz.func82.trans (congrArg some (by kernel_rfl))
  f306 := Tryz.func83.trans (congrArg some (by kernel_rfl))
  f307 := Tryz.func84.trans (congrArg some (by kernel_rfl))
  f308 := Tryz.func85.trans (congrArg some (by kernel_rfl))
  f309 := Tryz.func86.trans (congrArg some (by kernel_rfl))
  f310 := Tryz.func87.trans (congrArg some (by kernel_rfl))
  f329 := Tryz.func98.trans (congrArg some (by kernel_rfl))
  f330 := Tryz.func99.trans (congrArg some (by kernel_rfl))
  f333 := Tryz.func97.trans (congrArg some (by kernel_rfl))
  f334 := Tryz.func100.trans (congrArg some (by kernel_rfl))
  f335 := Tryz.func101.trans (congrArg some (by kernel_rfl))
  f336 := Tryz.func102.trans (congrArg some (by kernel_rfl))
  f344 := Tryz.func107.trans (congrArg some (by kernel_rfl))
  t0 := Tryz.underlying0
  a0 := Tryz.isAgg0
  z0 := Tryz.sizeOf0
  v0 := Tryz.zeroValue0
  t3 := Tryz.underlying3
  a3 := Tryz.isAgg3
  z3 := Tryz.sizeOf3
  v3 := Tryz.zeroValue3
  t4 := Tryz.underlying4
  a4 := Tryz.isAgg4
  z4 := Tryz.sizeOf4
  v4 := Tryz.zeroValue4
  t5 := Tryz.underlying5
  a5 := Tryz.isAgg5
  z5 := Tryz.sizeOf5
  v5 := Tryz.zeroValue5
  t9 := Tryz.underlying9
  a9 := Tryz.isAgg9
  z9 := Tryz.sizeOf9
  v9 := Tryz.zeroValue9
  t31 := Tryz.underlying35
  a31 := Tryz.isAgg35
  z31 := Tryz.sizeOf35
  v31 := Tryz.zeroValue35
  t46 := Tryz.underlying117
  a46 := Tryz.isAgg117
  z46 := Tryz.sizeOf117
  v46 := Tryz.zeroValue117
  t51 := Tryz.underlying89
  a51 := Tryz.isAgg89
  z51 := Tryz.sizeOf89
  v51 := Tryz.zeroValue89
  t53 := Tryz.underlying92
  a53 := Tryz.isAgg92
  z53 := Tryz.sizeOf92
  v53 := Tryz.zeroValue92
  t131 := Tryz.underlying56
  a131 := Tryz.isAgg56
  z131 := Tryz.sizeOf56
  v131 := Tryz.zeroValue56
  t182 := Tryz.underlying131
  a182 := Tryz.isAgg131
  z182 := Tryz.sizeOf131
  v182 := Tryz.zeroValue131
  t183 := Tryz.underlying132
  a183 := Tryz.isAgg132
  z183 := Tryz.sizeOf132
  v183 := Tryz.zeroValue132
  t218 := Tryz.underlying150
  a218 := Tryz.isAgg150
  z218 := Tryz.sizeOf150
  v218 := Tryz.zeroValue150
  t222 := Tryz.underlying154
  a222 := Tryz.isAgg154
  z222 := Tryz.sizeOf154
  v222 := Tryz.zeroValue154
  t228 := Tryz.underlying161
  a228 := Tryz.isAgg161
  z228 := Tryz.sizeOf161
  v228 := Tryz.zeroValue161
  t229 := Tryz.underlying162
  a229 := Tryz.isAgg162
  z229 := Tryz.sizeOf162
  v229 := Tryz.zeroValue162 }
open Go.Sort Go.RowKit in
theorem Tryz.slices_Sort_string (blk off cap : Nat) (ss : List (List UInt8)) (w : World) (hH : Holds encStr w blk off ss.toArray) (hblk : blk < w.heap.size) (hsz : ss.length < 4611686018427387904) :
    Calls Tryz.prog 54 #[.slice (some ⟨blk, off, none⟩) ss.length cap] w fun e w' =>
      e = .returned (.tuple #[]) ∧ ∃ n os, w' = grow (putRow encStr (Sort.ahead w n) blk off (ss.mergeSort fun x y => decide (x ≤ y)).toArray) os := Any.slices_Sort_string Tryz.lays190 blk off cap ss w hH hblk hsz
def Tryz.lays99_ren : Go.Shelf.Ren := ⟨fun | 99 => 19 | 206 => 39 | n => n, fun | 9 => 9 | 4 => 4 | 3 => 3 | n => n, fun | n => n⟩
theorem Tryz.lays99 : Go.Proofs.Lays.n99 Tryz.prog Tryz.lays99_ren := {
  mixed := by kernel_rfl
  f99 := Tryz.func19.trans (congrArg some (by kernel_rfl))
  f206 := Tryz.func39.trans (congrArg some (by kernel_rfl))
  t3 := Tryz.underlying3
  a3 := Tryz.isAgg3
  z3 := Tryz.sizeOf3
  v3 := Tryz.zeroValue3
  t4 := Tryz.underlying4
  a4 := Tryz.isAgg4
  z4 := Tryz.sizeOf4
  v4 := Tryz.zeroValue4
  t9 := Tryz.underlying9
  a9 := Tryz.isAgg9
  z9 := Tryz.sizeOf9
  v9 := Tryz.zeroValue9 }
open Go.RowKit Go.Lib in
/-- strings.HasPrefix: "HasPrefix reports whether the string s begins with prefix.": IT RETURNS 'Lib.hasPrefix s prefix'; the world is as it was. (LAID: no walk: one application.) -/
theorem Tryz.strings_HasPrefix (s p : ByteArray) (w : World) :
    Calls Tryz.prog 19 #[.string s, .string p] w fun e w' => e = .returned (.bool (Lib.hasPrefix s.data.toList p.data.toList)) ∧ w' = w := Any.strings_HasPrefix Tryz.lays99 s p w
open Go.RowKit Go.Sort in
/-- .. and plain. (LAID: no walk: one application.) -/
theorem Tryz.slices_Sort_string_none (p : Option Addr) (cap : Nat) (w : World) :
    Calls Tryz.prog 54 #[.slice p 0 cap] w fun e w' => e = .returned (.tuple #[]) ∧ w' = w := Any.slices_Sort_string_none Tryz.lays190 p cap w
end Go.Proofs

set_option maxRecDepth 20000
set_option linter.unusedVariables false
set_option linter.unusedSimpArgs false
namespace Go.Proofs.YtjihchpobpgpeaaGreatDoor
open Go Go.HW
variable {h : Heap} {L : List Assn} {Q : Value → Heap → Prop}
theorem sort_hs {a : OA} {n c : Nat} {l : List ByteArray} (hl : l.length = n) (hm : n < 2 ^ 40) (H : Hs h (own a n c T_string 1 (l.map Value.string) :: L))
    (kk : ∀ h' (l' : List ByteArray), l'.Perm l → l'.Pairwise (fun x y => strLt y x = false) → Hs h' (own a n c T_string 1 (l'.map Value.string) :: L) → Q (.tuple #[]) h') : SpecH PP F_slices_Sort_string_string [.slice a n c] h Q := by
  by_cases h0 : n = 0
  · subst h0
    have : l = [] := List.length_eq_zero_iff.1 hl
    subst this
    intro w hw
    refine (Tryz.slices_Sort_string_none a c w).mono ?_
    rintro e w' ⟨rfl, rfl⟩
    refine ⟨_, rfl, .refl _, ?_⟩
    rw [hw]; exact kk h [] (.refl _) .nil H
  · have hle := H.own_le
    obtain ⟨b, off, ys, rfl, hc1, hx1, H1⟩ := H.own_pt (by omega)
    rw [Nat.mul_one] at hc1 hx1
    intro w hw
    have hg := H1.get
    let ss : List (List UInt8) := l.map fun s => s.data.toList
    have hss : ss.length = n := by simp [ss, hl]
    have henc : ∀ s : ByteArray, Go.Proofs.encStr s.data.toList = Value.string s := fun s => rfl
    have hmap : ss.map Go.Proofs.encStr = l.map Value.string := by
      simp only [ss, List.map_map]
      exact List.map_congr_left fun s _ => henc s
    have hget : ∀ j (hj : j < n), ys[off + j]? = some (Go.Proofs.encStr (ss[j]'(by omega))) := by
      intro j hj
      have h1 : (l.map Value.string)[j]? = ((ys.drop off).take n)[j]? := by rw [← hx1]
      rw [List.getElem?_take_of_lt hj, List.getElem?_drop, ← hmap, List.getElem?_map, List.getElem?_eq_getElem (by omega)] at h1
      rw [← h1]; rfl
    have hH : Sort.Holds Go.Proofs.encStr w b off ss.toArray := by
      intro j hj
      have hj : j < n := by simpa [hss] using hj
      have e := hget j hj
      constructor
      · unfold World.cell?
        show (match w.heap[b]? with | some (.cells c _ _) => if (none : Option _).isSome then none else c[off + j]? | _ => none) = _
        rw [hw, hg]
        show ys.toArray[off + j]? = _
        rw [List.getElem?_toArray, e, getElem!_pos _ _ (by simp; omega)]
        simp
      · unfold World.frozen?
        show (match w.heap[b]? with | some (.cells _ _ (lo, hi)) => decide (lo ≤ off + j) && decide (off + j < hi) | _ => false) = false
        rw [hw, hg]; simp
    have hb : b < w.heap.size := by rw [hw]; exact (Array.getElem?_eq_some_iff.1 hg).1
    have hsort := Tryz.slices_Sort_string b off c ss w hH hb (by omega)
    rw [hss] at hsort
    refine hsort.mono ?_
    rintro e w' ⟨rfl, m, os, rfl⟩
    generalize hts : (ss.mergeSort fun x y => decide (x ≤ y)) = ts
    have hperm : ts.Perm ss := by rw [← hts]; exact List.mergeSort_perm _ _
    have hord : ts.Pairwise fun x y => decide (x ≤ y) = true := by
      rw [← hts]
      refine List.pairwise_mergeSort (fun a b c h1 h2 => ?_) (fun a b => ?_) ss
      · simp only [decide_eq_true_eq] at *; exact List.le_trans h1 h2
      · simpa using List.le_total a b
    have htl : ts.length = n := by rw [hperm.length_eq, hss]
    have hmod : (Sort.putRow Go.Proofs.encStr (Sort.ahead w m) b off ts.toArray).heap = h.modify b (Sort.onCells (Sort.putCells Go.Proofs.encStr off ts.toArray)) := by
      rw [← hw]; rfl
    have hnew : (h.modify b (Sort.onCells (Sort.putCells Go.Proofs.encStr off ts.toArray)))[b]? = some (.cells (Sort.putCells Go.Proofs.encStr off ts.toArray ys.toArray) T_string (0, 0)) := by
      rw [Array.getElem?_modify, if_pos rfl, hg]; rfl
    have H2 : Hs (h.modify b (Sort.onCells (Sort.putCells Go.Proofs.encStr off ts.toArray))) (pt b T_string (Sort.putCells Go.Proofs.encStr off ts.toArray ys.toArray).toList :: L) := by
      refine Hs.chg H1 (fun j hj => ?_) hnew
      rw [Array.getElem?_modify, if_neg hj]
    have hx : Ext (h.modify b (Sort.onCells (Sort.putCells Go.Proofs.encStr off ts.toArray))) ((h.modify b (Sort.onCells (Sort.putCells Go.Proofs.encStr off ts.toArray))) ++ os) := fun i o e => by
      rw [Array.getElem?_append_left (Array.getElem?_eq_some_iff.1 e).1]; exact e
    have H3 := H2.ext hx
    have hw' : (Sort.grow (Sort.putRow Go.Proofs.encStr (Sort.ahead w m) b off ts.toArray) os).heap = h.modify b (Sort.onCells (Sort.putCells Go.Proofs.encStr off ts.toArray)) ++ os := by
      rw [← hmod]; rfl
    refine ⟨_, rfl, ⟨rfl, rfl, rfl, ?_, ?_⟩, ?_⟩
    · intro i o e d
      rw [hw', Array.getElem?_append_left (by rw [Array.size_modify]; rw [hw] at e; exact (Array.getElem?_eq_some_iff.1 e).1), Array.getElem?_modify]
      rw [hw] at e
      by_cases q : b = i
      · subst q; rw [hg] at e; cases e; cases d
      · rw [if_neg q]; exact e
    · rw [hw', hw]; simp
    · rw [hw']
      refine kk _ (ts.map fun u => (⟨u.toArray⟩ : ByteArray)) ?_ ?_ (H3.pt_own (n := n) (c := c) off ?_ ?_ hle ?_)
      · have := hperm.map fun u : List UInt8 => (⟨u.toArray⟩ : ByteArray)
        have e : ss.map (fun u : List UInt8 => (⟨u.toArray⟩ : ByteArray)) = l := by
          simp only [ss, List.map_map]
          exact (List.map_congr_left fun s _ => by rfl).trans (List.map_id l)
        rw [e] at this; exact this
      · rw [List.pairwise_map]
        refine hord.imp fun {x y} q => ?_
        have q : x ≤ y := of_decide_eq_true q
        rw [slt_eq]
        simpa using q
      · rw [Nat.mul_one]
        refine List.ext_getElem? fun j => ?_
        by_cases hj : j < n
        · have e2 : (Sort.putCells Go.Proofs.encStr off ts.toArray ys.toArray).toList[off + j]? = some (Value.string ⟨(ts[j]'(by omega)).toArray⟩) := by
            rw [Array.getElem?_toList]
            unfold Sort.putCells
            rw [Array.getElem?_mapIdx, List.getElem?_toArray, hget j hj, Option.map_some, if_pos ⟨by omega, by simp; omega⟩]
            rw [show off + j - off = j by omega, getElem!_pos _ _ (by simp; omega)]
            simp
          rw [List.getElem?_take_of_lt hj, List.getElem?_drop, e2, List.getElem?_map, List.getElem?_map, List.getElem?_eq_getElem (by omega)]
          rfl
        · rw [List.getElem?_eq_none (by simp; omega), List.getElem?_eq_none (by simp; omega)]
      · simp; omega
      · unfold Sort.putCells; simp; omega
end Go.Proofs.YtjihchpobpgpeaaGreatDoor

set_option maxRecDepth 20000
set_option linter.unusedVariables false
set_option linter.unusedSimpArgs false
namespace Go.Proofs.YtjihchpobpgpeaaGreatDoor
open Go Go.HW
variable {h : Heap} {L : List Assn} {Q : Value → Heap → Prop}
/-- The files in memory: by number, the block and what it holds. -/
abbrev FM := List (Nat × (Nat × Fil))
def blk (l : FM) (i : Nat) : Nat := ((mget l i).map (·.1)).getD 0
def filB (x : Nat × Fil) : Assn := fun m => ∃ a n c, Sp [pt x.1 T_disk_file [.slice a n c, .int .i64 (x.2.safe : Nat)], own a n c T_uint8 1 (nV x.2.bs)] m
theorem filB_open {x : Nat × Fil} : Hs h (filB x :: L) ↔ ∃ a n c, Hs h (pt x.1 T_disk_file [.slice a n c, .int .i64 (x.2.safe : Nat)] :: own a n c T_uint8 1 (nV x.2.bs) :: L) := by
  unfold filB
  simp only [Hs.ex, Hs.app, List.cons_append, List.nil_append]
def nmV (l : FM) (ns : List (Nm × Nat)) : List (Nm × Nat) := ns.map fun x => (x.1, blk l x.2)
def cptr (l : FM) (c : Chg) : OA := if c.to = e0 then none else some ⟨blk l c.f, 0, none⟩
def chV (l : FM) (c : Chg) : List Value := [.string c.fr, .string c.to, .pointer (cptr l c)]
theorem chV_len (l : FM) (c : Chg) : (chV l c).length = 3 := rfl
theorem chV_one (l : FM) (c : Chg) : ∀ x ∈ chV l c, oneC x = true := by
  intro x hx; simp [chV] at hx; rcases hx with rfl | rfl | rfl <;> rfl
structure LkD (d : DS) (l : FM) (mn ms : List (Nm × Nat)) : Prop where
  nd : (l.map (·.1)).Nodup
  fl : ∀ i b f, mget l i = some (b, f) → i < d.files.length ∧ d.fl i = f
  n : mn.Perm (nmV l d.now)
  s : ms.Perm (nmV l d.safe)
  hn : ∀ x ∈ d.now, mget l x.2 ≠ none
  hs : ∀ x ∈ d.safe, mget l x.2 ≠ none
  hc : ∀ c ∈ d.chg, c.to ≠ e0 → mget l c.f ≠ none
def dkV (d : DS) (rn rs : Nat) (a : OA) (c : Nat) : List Value := [.int .i64 (d.room : Nat), .map (some rn), .map (some rs), .slice a d.chg.length c, .int .i64 (d.steps : Nat), .bool d.left.isSome, .int .i64 (d.left.getD 0 : Nat)]
/-- A disk in memory. -/
def diskA (p : Nat) (d : DS) : Assn := fun m => ∃ l mn ms rn rs a c, LkD d l mn ms ∧
  Sp [pt p T_disk_Disk (dkV d rn rs a c), mp Value.string ptrV rn mn, mp Value.string ptrV rs ms, own a d.chg.length c T_disk_change 3 (d.chg.flatMap (chV l)), fam filB l] m
theorem diskA_open {p : Nat} {d : DS} : Hs h (diskA p d :: L) ↔ ∃ l mn ms rn rs a c, LkD d l mn ms ∧
    Hs h (pt p T_disk_Disk (dkV d rn rs a c) :: mp Value.string ptrV rn mn :: mp Value.string ptrV rs ms :: own a d.chg.length c T_disk_change 3 (d.chg.flatMap (chV l)) :: fam filB l :: L) := by
  unfold diskA
  simp only [Hs.ex, Hs.and, Hs.app, List.cons_append, List.nil_append]
theorem mget_congr {α β : Type} [DecidableEq α] {l l' : List (α × β)} (p : l.Perm l') (hn : (l'.map (·.1)).Nodup) (k : α) : mget l k = mget l' k := by
  cases e : mget l' k with
  | none =>
    have := mget_none.1 e
    exact mget_none.2 fun q => this ((p.map _).mem_iff.1 q)
  | some v => exact mget_of_mem ((p.map _).nodup_iff.2 hn) (p.mem_iff.2 (mget_mem e))
theorem nmV_keys (l : FM) (ns : List (Nm × Nat)) : (nmV l ns).map (·.1) = ns.map (·.1) := by unfold nmV; rw [List.map_map]; rfl
theorem nmV_get (l : FM) (ns : List (Nm × Nat)) (k : Nm) : mget (nmV l ns) k = (mget ns k).map (blk l) := by
  induction ns with
  | nil => rfl
  | cons x ns ih =>
    show mget ((x.1, blk l x.2) :: nmV l ns) k = _
    rw [mget_cons, mget_cons, ih]; split <;> rfl
theorem nmV_del (l : FM) (ns : List (Nm × Nat)) (k : Nm) : nmV l (mdel ns k) = mdel (nmV l ns) k := by
  unfold nmV mdel; rw [List.filter_map]; rfl
/-- A change, done to a map. -/
def doM (m : List (Nm × Nat)) (fr to : Nm) (b : Nat) : List (Nm × Nat) :=
  let m1 := if fr = e0 then m else mdel m fr
  if to = e0 then m1 else mset m1 to b
theorem mdel_perm {α β : Type} [DecidableEq α] {l l' : List (α × β)} (p : l.Perm l') (k : α) : (mdel l k).Perm (mdel l' k) := p.filter _
theorem doM_perm {l : FM} {m now : List (Nm × Nat)} {c : Chg} (p : m.Perm (nmV l now)) (hn : (now.map (·.1)).Nodup) : (doM m c.fr c.to (blk l c.f)).Perm (nmV l (ap now c)) := by
  unfold doM ap
  dsimp only
  have h1 : (if c.fr = e0 then m else mdel m c.fr).Perm (nmV l (if c.fr = e0 then now else mdel now c.fr)) := by
    split
    · exact p
    · rw [nmV_del]; exact mdel_perm p _
  have h2 : ((if c.fr = e0 then now else mdel now c.fr).map (·.1)).Nodup := by
    split
    · exact hn
    · exact hn.sublist ((mdel_sub _ _).map _)
  generalize (if c.fr = e0 then m else mdel m c.fr) = m1 at h1 ⊢
  generalize (if c.fr = e0 then now else mdel now c.fr) = n1 at h1 h2 ⊢
  split
  · exact h1
  · have hm : (m1.map (·.1)).Nodup := by rw [(h1.map _).nodup_iff, nmV_keys]; exact h2
    refine (mset_mdel_perm hm).trans ?_
    have : (nmV l (ins (mdel n1 c.to) (c.to, c.f))).Perm ((c.to, blk l c.f) :: nmV l (mdel n1 c.to)) := (ins_perm _ _).map _
    refine List.Perm.trans ?_ this.symm
    rw [nmV_del]
    exact (mdel_perm h1 _).cons _
theorem Ky_str : Keys PP T_string Value.string := Keys.str U_string
theorem z_fp : (PP.info? T_p_disk_file).bind (·.zero) = some (.pointer none) := by kernel_rfl
theorem do_hs {r b : Nat} {l : List (Nm × Nat)} {fr to : Nm} {x : OA} (hx : to ≠ e0 → x = some ⟨b, 0, none⟩) (H : Hs h (mp Value.string ptrV r l :: L)) (kk : ∀ h', Hs h' (mp Value.string ptrV r (doM l fr to b) :: L) → Q (.tuple #[]) h') :
    SpecH PP F_disk_names_do [.map (some r), .agg #[.string fr, .string to, .pointer x]] h Q := by
  refine disk_names_do.door ?_
  have H1 := H.new (t := T_disk_change) (cs := #[.string fr, .string to, .pointer x]) (xs := [.string fr, .string to, .pointer x])
  dsimp only
  generalize Array.size h = k at H1 ⊢
  generalize Array.push h _ = h1 at H1 ⊢
  have fin : ∀ {h2 : Heap} {l1 : List (Nm × Nat)}, (if to = e0 then l1 else mset l1 to b) = doM l fr to b → Hs h2 (pt k T_disk_change [.string fr, .string to, .pointer x] :: mp Value.string ptrV r l1 :: L) → disk_names_do.J1 (some r) ⟨k, 0, none⟩ Q h2 := by
    intro h2 l1 e H
    refine disk_names_do.J1_of ⟨_, H.cell (off := 1) rfl, (br_iff _ _ _).2 ⟨fun e2 => ?_, fun e2 => ?_⟩⟩
    · have e2 : ¬ to = e0 := by simpa using e2
      refine ⟨_, H.cell (off := 1) rfl, _, H.cell (off := 2) rfl, ?_⟩
      refine H.m1.mset U_disk_names Ky_str to b (by rw [hx e2]; rfl) fun h3 H3 => kk h3 ?_
      rw [if_neg e2] at e; rw [← e]; exact H3.m1.tl
    · have e2 : to = e0 := by simpa using e2
      rw [if_pos e2] at e
      subst e; exact kk _ H.tl
  refine ⟨_, H1.cell (off := 0) rfl, (br_iff _ _ _).2 ⟨fun e => ?_, fun e => ?_⟩⟩
  · have e : ¬ fr = e0 := by simpa using e
    refine ⟨_, H1.cell (off := 0) rfl, ?_⟩
    refine H1.m1.mdel U_disk_names Ky_str fr fun h2 H2 => ⟨rfl, fin ?_ H2.m1⟩
    unfold doM; rw [if_neg e]
  · have e : fr = e0 := by simpa using e
    refine fin ?_ H1
    unfold doM; rw [if_pos e]
theorem Down_hs {p : Nat} {d : DS} {rn rs : Nat} {a : OA} {c : Nat} (H : Hs h (pt p T_disk_Disk (dkV d rn rs a c) :: L)) (k : Q (.bool d.down) h) : SpecH PP F_disk_Disk_Down [.pointer (some ⟨p, 0, none⟩)] h Q := by
  refine disk_Disk_Down.door (br_true rfl ?_)
  refine ⟨_, H.cell (off := 5) rfl, (br_iff _ _ _).2 ⟨fun e => ?_, fun e => ?_⟩⟩
  · refine ⟨_, H.cell (off := 6) rfl, ?_⟩
    have : d.down = (((d.left.getD 0 : Nat) : Int) == 0) := by
      unfold DS.down
      cases h1 : d.left with
      | none => rw [h1] at e; cases e
      | some n => cases n <;> simp; omega
    rw [← this]; exact k
  · have : d.down = false := by
      unfold DS.down
      cases h1 : d.left with
      | none => rfl
      | some n => rw [h1] at e; cases e
    rw [← this]; exact k
theorem ready_hs {p : Nat} {d : DS} {rn rs : Nat} {a : OA} {c : Nat} (H : Hs h (pt p T_disk_Disk (dkV d rn rs a c) :: L)) (k : Q (.int .i64 (if d.down then 94 else 0)) h) : SpecH PP F_disk_Disk_ready [.pointer (some ⟨p, 0, none⟩)] h Q := by
  refine disk_Disk_ready.door (br_false rfl ?_)
  refine Down_hs H ⟨_, rfl, (br_iff _ _ _).2 ⟨fun e => ?_, fun e => ?_⟩⟩
  · rw [if_pos e] at k; exact k
  · rw [if_neg (by rw [e]; simp)] at k; exact k
theorem done_hs {p : Nat} {d : DS} {rn rs : Nat} {a : OA} {c : Nat} (hd : d.down = false) (hs : d.steps < 2 ^ 62) (hl : ∀ n, d.left = some n → n < 2 ^ 63) (H : Hs h (pt p T_disk_Disk (dkV d rn rs a c) :: L)) (kk : ∀ h', Hs h' (pt p T_disk_Disk (dkV d.tick rn rs a c) :: L) → Q (.int .i64 0) h') :
    SpecH PP F_disk_Disk_done [.pointer (some ⟨p, 0, none⟩)] h Q := by
  refine disk_Disk_done.door ⟨_, H.cell (off := 4) rfl, ?_⟩
  rw [inc (by omega)]
  refine H.sto (off := 4) (by simp [dkV]) (fun h1 H1 => ?_)
  refine ⟨_, H1.cell (off := 5) rfl, (br_iff _ _ _).2 ⟨fun e => ?_, fun e => ?_⟩⟩
  · obtain ⟨n, hn⟩ := Option.isSome_iff_exists.1 e
    have hn0 : n ≠ 0 := by rintro rfl; unfold DS.down at hd; simp [hn] at hd
    have := hl n hn
    refine ⟨_, H1.cell (off := 6) rfl, ?_⟩
    have e6 : IntKind.i64.wrap (((d.left.getD 0 : Nat) : Int) - 1) = ((n - 1 : Nat) : Int) := by rw [hn]; simp only [Option.getD_some]; rw [wrap_i64_z (by omega) (by omega)]; omega
    rw [e6]
    refine H1.sto (off := 6) (by simp [dkV]) (fun h2 H2 => kk h2 ?_)
    simpa [dkV, DS.tick, hn] using H2
  · have hn : d.left = none := by cases h1 : d.left with | none => rfl | some n => rw [h1] at e; cases e
    refine kk h1 ?_
    simpa [dkV, DS.tick, hn] using H1
theorem find_hs {p : Nat} {d : DS} {l : FM} {mn : List (Nm × Nat)} {rn rs : Nat} {a : OA} {c : Nat} {n : Nm} (hm : mn.Perm (nmV l d.now)) (hk : (d.now.map (·.1)).Nodup) (H : Hs h (pt p T_disk_Disk (dkV d rn rs a c) :: mp Value.string ptrV rn mn :: L))
    (k1 : d.down = true → Q (.tuple #[.pointer none, .int .i64 94]) h) (k2 : d.down = false → d.find n = none → Q (.tuple #[.pointer none, .int .i64 92]) h) (k3 : ∀ i, d.down = false → d.find n = some i → Q (.tuple #[.pointer (some ⟨blk l i, 0, none⟩), .int .i64 0]) h) :
    SpecH PP F_disk_Disk_find [.pointer (some ⟨p, 0, none⟩), .string n] h Q := by
  refine disk_Disk_find.door (ready_hs H ⟨_, rfl, (br_iff _ _ _).2 ⟨fun e => ?_, fun e => ?_⟩⟩)
  · cases hd : d.down with
    | true => exact k1 hd
    | false => rw [hd] at e; cases e
  · cases hd : d.down with
    | true => rw [hd] at e; cases e
    | false =>
      refine ⟨_, H.cell (off := 1) rfl, ?_⟩
      refine H.m1.lookup2 U_disk_names Ky_str z_fp n ?_
      have hg : mget mn n = (d.find n).map (blk l) := by rw [mget_congr hm (by rw [nmV_keys]; exact hk), nmV_get]; rfl
      rw [hg]
      cases hf : d.find n with
      | none => exact ⟨none, false, rfl, br_true rfl (k2 hd hf)⟩
      | some i => exact ⟨some ⟨blk l i, 0, none⟩, true, rfl, br_false rfl (k3 i hd hf)⟩
theorem good_hs {n : Nm} (hb : n.size < 2 ^ 60) (H : Hs h L) (kk : ∀ h', Hs h' L → Q (.bool (good n)) h') : SpecH PP F_disk_good [.string n] h Q := by
  refine disk_good.door ?_
  refine H.s2b U_string U_sl_uint8 U_uint8 fun h1 a c hc H1 => ⟨_, _, _, rfl, ?_⟩
  have go : ∀ (k i : Nat), i + k = n.size → ((sb n).take i).all gch = true → disk_good.L1 n (some a) n.size c n.size i (disk_good.K1 Q) h1 := by
    intro k
    induction k with
    | zero =>
      intro i hi ha
      refine disk_good.L1_of (br_false (decide_eq_false (by omega)) (disk_good.L1_X0 ?_))
      rw [List.take_of_length_le (by rw [sb_len]; omega)] at ha
      refine (br_iff _ _ _).2 ⟨fun e => ?_, fun e => ?_⟩
      · have e : ¬ n = e0 := by simpa using e
        have : decide (((n.size : Nat) : Int) ≤ 32) = good n := by unfold good; rw [ha, decide_eq_true e]; simp; omega
        dsimp only; rw [this]; exact kk _ H1.tl
      · have e : n = e0 := by simpa using e
        have : false = good n := by unfold good; rw [decide_eq_false (by simpa using e)]; simp
        rw [this]; exact kk _ H1.tl
    | succ k ih =>
      intro i hi ha
      have hin : i < n.size := by omega
      have hin' : i < (sb n).length := by rw [sb_len]; exact hin
      refine disk_good.L1_of (br_true (decide_eq_true (by omega)) ?_)
      refine idx E_sl_uint8 (v := .int .u8 ((sb n)[i] : Nat)) H1.rdO (by omega) (by omega) (by rw [Int.toNat_natCast]; exact nV_get hin') fun t ht => ⟨_, ht, ?_⟩
      generalize hx : (sb n)[i] = x
      have hj : ∀ t : Bool, t = !gch x → disk_good.J1 n (some a) n.size c n.size i t (disk_good.K1 Q) h1 := by
        rintro t rfl
        refine disk_good.J1_of ((br_iff _ _ _).2 ⟨fun e => ?_, fun e => ?_⟩)
        · have e : gch x = false := by simpa using e
          have : false = good n := by
            have : (sb n).all gch = false := by
              rw [List.all_eq_false]
              exact ⟨x, by rw [← hx]; exact List.getElem_mem _, by rw [e]; simp⟩
            unfold good; rw [this]; rfl
          exact disk_good.L1_Xret (by rw [this]; exact kk _ H1.tl)
        · have e : gch x = true := by simpa using e
          rw [inc (by omega)]
          refine ih (i + 1) (by omega) ?_
          rw [List.take_succ_eq_append_getElem hin', List.all_append, ha, hx]
          simp [e]
      dsimp only
      refine (br_iff _ _ _).2 ⟨fun e1 => (br_iff _ _ _).2 ⟨fun e2 => (br_iff _ _ _).2 ⟨fun e3 => hj _ ?_, fun e3 => hj _ ?_⟩, fun e2 => (br_iff _ _ _).2 ⟨fun e3 => (br_iff _ _ _).2 ⟨fun e4 => hj _ ?_, fun e4 => hj _ ?_⟩, fun e3 => hj _ ?_⟩⟩,
        fun e1 => (br_iff _ _ _).2 ⟨fun e2 => (br_iff _ _ _).2 ⟨fun e3 => (br_iff _ _ _).2 ⟨fun e4 => hj _ ?_, fun e4 => hj _ ?_⟩, fun e3 => (br_iff _ _ _).2 ⟨fun e4 => (br_iff _ _ _).2 ⟨fun e5 => hj _ ?_, fun e5 => hj _ ?_⟩, fun e4 => hj _ ?_⟩⟩, fun e2 => hj _ ?_⟩⟩
      all_goals (rw [Bool.eq_iff_iff]; simp [gch] at *; omega)
  exact go n.size 0 (by omega) rfl
theorem says_pure {c : Int} {n : Nat} (h1 : -9223372036854775808 ≤ c) (h2 : c < 9223372036854775808) (hn : n < 2 ^ 60) : PureAt PP F_disk_says [.int .i64 c, .int .i64 (n : Nat)] (.int .i64 (says c n : Nat)) := by
  intro h
  refine disk_says.door ?_
  have fin : ∀ x : Int, 0 ≤ x → (x % ((n : Int) + 1)).toNat = says c n → disk_says.J1 x n (fun r h' => r = .int .i64 (says c n : Nat) ∧ h' = h) h := by
    intro x hx e
    refine disk_says.J1_of ?_
    rw [inc (by omega)]
    refine br_true (by simp; omega) ⟨?_, rfl⟩
    rw [Int.tmod_eq_emod_of_nonneg hx, ← e, Int.toNat_of_nonneg (Int.emod_nonneg _ (by omega))]
    simp
  refine (br_iff _ _ _).2 ⟨fun e => ?_, fun e => ?_⟩
  · have e := of_decide_eq_true e
    dsimp only
    rw [wrap_i64_z (z := c + 1) (by omega) (by omega), wrap_i64_z (by omega) (by omega)]
    refine fin _ (by omega) ?_
    unfold says; rw [if_pos e]; congr 2; omega
  · have e := of_decide_eq_false e
    refine fin _ (by omega) ?_
    unfold says; rw [if_neg e]
end Go.Proofs.YtjihchpobpgpeaaGreatDoor

set_option maxRecDepth 20000
set_option linter.unusedVariables false
set_option linter.unusedSimpArgs false
namespace Go.Proofs.YtjihchpobpgpeaaGreatDoor
open Go Go.HW
variable {h : Heap} {L : List Assn} {Q : Value → Heap → Prop}
theorem str_app {l : List ByteArray} {a : OA} {c : Nat} {w : ByteArray} {h : Heap} {K : VP} (hs : l.length ≤ 2 ^ 40) (H : Hs h (own a l.length c T_string 1 (l.map Value.string) :: L))
    (k : ∀ h' a' c', Hs h' (own a' (l ++ [w]).length c' T_string 1 ((l ++ [w]).map Value.string) :: L) → K (.slice a' (l ++ [w]).length c') h') :
    hwp PP (Builtin.append_ #[T_sl_string, T_sl_string] T_sl_string #[.slice a l.length c, .slice (some ⟨Array.size h, 0, none⟩) 1 1]) K (Array.push h (.cells #[.string w] T_string (0, 0))) := by
  refine H.app_vals E_sl_string (m := 1) (ys := [.string w]) rfl rfl (by simp [oneC]) (fun h' a' c' H' => ?_) (by omega) (by omega)
  have e : l.map Value.string ++ [.string w] = (l ++ [w]).map Value.string := by simp
  rw [e] at H'
  have := k h' a' c'
  rw [List.length_append] at this
  exact this H'
/-- What maps.Keys yields. -/
theorem keys1_hs {r t1 : Nat} {m : List (Nm × Nat)} {yield : Value} (A : List Nm → Assn)
    (step : ∀ (done : List Nm) (x : Nm) (M : List Assn) (h : Heap) (R : VP), done.length < m.length → Hs h (A done :: M) → (∀ h', Hs h' (A (done ++ [x]) :: M) → R (.bool true) h') → callV PP yield [.string x] R h)
    (H : Hs h (A [] :: pt t1 T_disk_names [.map (some r)] :: mp Value.string ptrV r m :: L))
    (fin : ∀ h' ns, ns.Perm (m.map (·.1)) → Hs h' (A ns :: mp Value.string ptrV r m :: L) → Q (.tuple #[]) h') :
    SpecH PP F_maps_Keys_disk_names_string_disk_file_1 [yield, .pointer (some ⟨t1, 0, none⟩)] h Q := by
  refine maps_Keys_disk_names_string_disk_file_1.door ⟨_, H.m1.cell (off := 0) rfl, ?_⟩
  refine H.m2.range U_disk_names fun h1 i H1 => ⟨_, rfl, ?_⟩
  have go : ∀ (k : Nat) {h : Heap} {done todo : List (Nm × Nat)}, todo.length = k → Hs h (rgn Value.string ptrV r i m done todo :: A (done.map (·.1)) :: pt t1 T_disk_names [.map (some r)] :: L) →
      maps_Keys_disk_names_string_disk_file_1.L1 yield (.pointer (some ⟨i, 0, none⟩)) (maps_Keys_disk_names_string_disk_file_1.K1 Q) h := by
    intro k
    induction k with
    | zero =>
      intro h done todo hk H
      have : todo = [] := List.length_eq_zero_iff.1 hk
      subst this
      refine maps_Keys_disk_names_string_disk_file_1.L1_of (H.next (fun _ => ⟨false, [], rfl, br_false rfl (maps_Keys_disk_names_string_disk_file_1.L1_X0 ?_)⟩) (fun h' x todo' p _ => by simp at p))
      have hp := H.rgn_perm
      rw [List.append_nil] at hp
      exact fin h _ (hp.map _) (H.rgn_end.sel 3 [1, 0])
    | succ k ih =>
      intro h done todo hk H
      refine maps_Keys_disk_names_string_disk_file_1.L1_of (H.next (fun e => by rw [e] at hk; cases hk) (fun h2 x todo' p H2 => ⟨true, [.string x.1, ptrV x.2], rfl, br_true rfl ?_⟩))
      refine H2.entry ⟨_, _, rfl, _, rfl, ?_⟩
      have hp := H2.rgn_perm
      have hl : done.length < m.length := by have := hp.length_eq; simp at this; omega
      refine step (done.map (·.1)) x.1 _ h2 _ (by simpa using hl) H2.m1 fun h3 H3 => ⟨_, rfl, br_false rfl ?_⟩
      refine ih (done := done ++ [x]) (todo := todo') (by have := p.length_eq; simp at this; omega) ?_
      rw [List.map_append]
      exact Hs.m1 H3
  exact go m.length (done := []) rfl H1
def TA (out l df : Nat) (Lp : Loop) (ns : List Nm) : Assn := fun m => ∃ a c, Sp [ob l (.loop Lp), ob df (.deferred (some [])), pt out T_sl_string [.slice a ns.length c], own a ns.length c T_string 1 (ns.map Value.string)] m
theorem TA_open {out l df : Nat} {Lp : Loop} {ns : List Nm} {M : List Assn} : Hs h (TA out l df Lp ns :: M) ↔ ∃ a c, Hs h (ob l (.loop Lp) :: ob df (.deferred (some [])) :: pt out T_sl_string [.slice a ns.length c] :: own a ns.length c T_string 1 (ns.map Value.string) :: M) := by
  unfold TA
  simp only [Hs.ex, Hs.app, List.cons_append, List.nil_append]
theorem names_hs {r t1 : Nat} {m : List (Nm × Nat)} (hm : m.length < 2 ^ 40) (H : Hs h (pt t1 T_disk_names [.map (some r)] :: mp Value.string ptrV r m :: L))
    (kk : ∀ h' a c (ns : List Nm), ns.Perm (m.map (·.1)) → Hs h' (own a ns.length c T_string 1 (ns.map Value.string) :: mp Value.string ptrV r m :: L) → Q (.slice a ns.length c) h') :
    SpecH PP F_slices_AppendSeq_string_string [.slice none 0 0, .func (.func F_maps_Keys_disk_names_string_disk_file_1) #[] #[.pointer (some ⟨t1, 0, none⟩)]] h Q := by
  obtain ⟨μ, sm, s0, HE⟩ := Hs.em2 (As := [pt t1 T_disk_names [.map (some r)], mp Value.string ptrV r m]) H
  refine SpecH.keepD (slices_AppendSeq_string_string.door ?_)
  dsimp only
  have H1 := HE.new (t := T_sl_string) (cs := #[.slice none 0 0]) (xs := [.slice none 0 0])
  generalize Array.push h (.cells #[.slice none 0 0] T_sl_string (0, 0)) = h1 at H1 ⊢
  generalize Array.size h = out at H1 ⊢
  refine ⟨F_maps_Keys_disk_names_string_disk_file_1, #[], #[.pointer (some ⟨t1, 0, none⟩)], rfl, by kernel_rfl, fun fn tmps hf => ?_⟩
  generalize hL : (Loop.mk .ready none fn tmps #[7] (slices_AppendSeq_string_string.cd 52) (slices_AppendSeq_string_string.cd 53) h1.size) = Lp
  have H3 := (H1.push (.deferred (some []))).push (.loop Lp)
  rw [Array.size_push] at H3
  generalize (Array.push (Array.push h1 (.deferred (some []))) (.loop Lp)) = h3 at H3 ⊢
  generalize Array.size h1 = df at H3 hL ⊢
  have H4 : Hs h3 (TA out (df + 1) df Lp [] :: pt t1 T_disk_names [.map (some r)] :: mp Value.string ptrV r m :: [Em μ]) :=
    TA_open.2 ⟨none, 0, (H3.own_nil T_string 1).sel 4 [1, 2, 3, 0]⟩
  show SpecH PP F_maps_Keys_disk_names_string_disk_file_1 [_, _] _ _
  refine keys1_hs (TA out (df + 1) df Lp) ?_ H4 ?_
  · intro done x M h R hl H R1
    obtain ⟨a2, c2, H⟩ := TA_open.1 H
    refine slices_AppendSeq_string_string.R1_yield (t4 := none) (t4n := 0) (t4c := 0) (s2 := ⟨out, 0, none⟩) H.get (by rw [← hL]) (by rw [← hL]) (by rw [← hL]) (by rw [← hL]; exact hf) (slices_AppendSeq_string_string.R1_of ?_)
    refine ⟨Lp, H.get, by rw [← hL], ?_⟩
    have H3 := H.set (.loop { Lp with state := .busy })
    dsimp only
    generalize h.setIfInBounds (df + 1) (.loop { Lp with state := .busy }) = h3 at H3 ⊢
    refine ⟨_, _, _, H3.m2.cell (off := 0) rfl, ?_⟩
    refine str_app (w := x) (by omega) H3.m3 fun h5 a5 c5 H5 => ⟨_, _, _, rfl, ?_⟩
    refine (H5.m3).sto (off := 0) (by simp) fun h6 H6 => ?_
    refine ⟨{ Lp with state := .busy }, H6.m2.get, ?_⟩
    have eL : endL { Lp with state := .busy } none = .loop Lp := by rw [← hL]; rfl
    rw [eL]
    have H7 := H6.m2.set (.loop Lp)
    exact R1 _ (TA_open.2 ⟨a5, c5, H7.sel 4 [0, 3, 1, 2]⟩)
  · intro h' ns hp H
    obtain ⟨a2, c2, H⟩ := TA_open.1 H
    refine ⟨Lp, H.get, by rw [← hL]; simp, H.m1.get, ?_⟩
    have H4 := H.set (.loop { Lp with state := .exhausted })
    generalize h'.setIfInBounds (df + 1) (.loop { Lp with state := .exhausted }) = h4 at H4 ⊢
    rw [show Lp.pending = none by rw [← hL]]
    show slices_AppendSeq_string_string.K1 _ .normal _ _
    refine slices_AppendSeq_string_string.R1_outn0 ⟨_, _, _, (H4.m2).cell (off := 0) rfl, fun h5 tk kd => ?_⟩
    have H5 := H4.sel 5 [3, 4]
    refine kk h5 a2 c2 ns hp (Hs.takes2 (As := [own a2 ns.length c2 T_string 1 (ns.map Value.string), mp Value.string ptrV r m]) (M := []) H5 sm s0 tk kd ?_)
    intro A hA m' a
    rcases List.mem_cons.1 hA with rfl | hA
    · exact nd_own a
    · rw [List.mem_singleton.1 hA] at a ⊢; exact nd_mp a
theorem Keys_hs {r : Nat} (H : Hs h L) (kk : ∀ h' t1, Hs h' (pt t1 T_disk_names [.map (some r)] :: L) → Q (.func (.func F_maps_Keys_disk_names_string_disk_file_1) #[] #[.pointer (some ⟨t1, 0, none⟩)]) h') :
    SpecH PP F_maps_Keys_disk_names_string_disk_file [.map (some r)] h Q :=
  maps_Keys_disk_names_string_disk_file.door (kk _ _ H.new)
/-- The names, rising. -/
theorem Sorted_hs {r t1 : Nat} {m : List (Nm × Nat)} (hm : m.length < 2 ^ 40) (hn : (m.map (·.1)).Nodup) (H : Hs h (pt t1 T_disk_names [.map (some r)] :: mp Value.string ptrV r m :: L))
    (kk : ∀ h' a c (ns : List Nm), ns.Perm (m.map (·.1)) → ns.Pairwise (fun x y => strLt x y = true) → Hs h' (own a ns.length c T_string 1 (ns.map Value.string) :: mp Value.string ptrV r m :: L) → Q (.slice a ns.length c) h') :
    SpecH PP F_slices_Sorted_string [.func (.func F_maps_Keys_disk_names_string_disk_file_1) #[] #[.pointer (some ⟨t1, 0, none⟩)]] h Q := by
  refine slices_Sorted_string.door (slices_Collect_string.door (names_hs hm H fun h1 a c ns hp H1 => ⟨_, _, _, rfl, _, _, _, rfl, ?_⟩))
  have hl : ns.length = m.length := by have := hp.length_eq; simpa using this
  refine sort_hs rfl (by omega) H1 fun h2 ns' hp' ho H2 => ⟨rfl, ?_⟩
  have hl' : ns'.length = ns.length := hp'.length_eq
  rw [← hl'] at H2 ⊢
  refine kk h2 a c ns' (hp'.trans hp) ?_ H2
  have hd : ns'.Nodup := (hp'.trans hp).nodup_iff.2 hn
  rw [List.nodup_iff_pairwise_ne] at hd
  refine List.Pairwise.imp₂ (fun x y h1 h2 => ?_) ho hd
  cases e : strLt x y with
  | true => rfl
  | false => exact absurd (slt_tri e h1) h2
theorem rise_uniq : ∀ {l m : List Nm}, l.Pairwise (fun x y => strLt x y = true) → m.Pairwise (fun x y => strLt x y = true) → l.Perm m → l = m
  | [], m, _, _, p => by have := p.length_eq; exact (List.length_eq_zero_iff.1 this.symm).symm
  | x :: l, [], _, _, p => by simp at p
  | x :: l, y :: m, h1, h2, p => by
    have h1' := List.pairwise_cons.1 h1
    have h2' := List.pairwise_cons.1 h2
    have e : x = y := by
      have hx : x ∈ y :: m := p.mem_iff.1 (List.mem_cons_self ..)
      have hy : y ∈ x :: l := p.mem_iff.2 (List.mem_cons_self ..)
      rcases List.mem_cons.1 hx with q | q
      · exact q
      rcases List.mem_cons.1 hy with q2 | q2
      · exact q2.symm
      have a := h2'.1 x q
      have b := h1'.1 y q2
      rw [slt_asymm a] at b; cases b
    subst e
    rw [rise_uniq h1'.2 h2'.2 (p.cons_inv)]
end Go.Proofs.YtjihchpobpgpeaaGreatDoor
