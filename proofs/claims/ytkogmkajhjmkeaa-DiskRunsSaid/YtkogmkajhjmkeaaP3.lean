/- Texts of the proof, laid together: What the functions of this text come to, as predicates on heaps (printed by my own program out of the dump), each with its proof against the program. -/
import Derived.Test.YtkogmkajhjmkeaaP1
import Derived.Test.YtkogmkajhjmkeaaP2
import Derived.Test.YtkogmkajhjmkeaaProg
set_option linter.unusedVariables false
set_option maxRecDepth 100000
namespace Go.Proofs.Ytkogmkajhjmkeaa
open Go Go.HW
noncomputable abbrev PP : Program := Try.prog
abbrev T_ : TypeId := 0
abbrev T_int : TypeId := 3
abbrev T_bool : TypeId := 4
abbrev T_uint8 : TypeId := 5
abbrev T_string : TypeId := 9
abbrev T_any : TypeId := 20
abbrev T_p_disk_Disk : TypeId := 22
abbrev T_p_haversackref09_Disk : TypeId := 28
abbrev T_sl_haversacklaw09_Op : TypeId := 31
abbrev T_sl_uint8 : TypeId := 33
abbrev T_sl_int : TypeId := 34
abbrev T_struct_Kind_int_A_string_To_string_B_sl_uint8_N_int_Choices_ : TypeId := 35
abbrev T_haversacklaw09_Op : TypeId := 36
abbrev T_sl_string : TypeId := 45
abbrev T_map_string_p_disk_file : TypeId := 53
abbrev T_disk_names : TypeId := 54
abbrev T_sl_disk_change : TypeId := 55
abbrev T_struct_room_int_now_disk_names_safe_disk_names_changes_sl_di : TypeId := 56
abbrev T_disk_Disk : TypeId := 57
abbrev T_sl_haversackref09_File : TypeId := 60
abbrev T_sl_haversackref09_Named : TypeId := 61
abbrev T_sl_haversackref09_Change : TypeId := 62
abbrev T_struct_Room_int_Files_sl_haversackref09_File_Now_sl_haversac : TypeId := 63
abbrev T_haversackref09_Disk : TypeId := 64
abbrev T_map_p_disk_file_p_disk_file : TypeId := 66
abbrev T_p_disk_file : TypeId := 67
abbrev T_struct_b_sl_uint8_safe_int : TypeId := 69
abbrev T_disk_file : TypeId := 70
abbrev T_struct_from_string_to_string_f_p_disk_file : TypeId := 72
abbrev T_disk_change : TypeId := 73
abbrev T_struct_B_sl_uint8_Safe_int : TypeId := 74
abbrev T_haversackref09_File : TypeId := 75
abbrev T_struct_Kind_int_From_string_To_string_File_int : TypeId := 77
abbrev T_haversackref09_Change : TypeId := 78
abbrev T_struct_Name_string_File_int : TypeId := 93
abbrev T_haversackref09_Named : TypeId := 94
abbrev F_law09_DiskNew : FuncId := 3
abbrev F_law09_DiskRuns : FuncId := 4
abbrev F_law09_DiskStops : FuncId := 5
abbrev F_disk_New : FuncId := 6
abbrev F_law09_awake : FuncId := 7
abbrev F_law09_same : FuncId := 8
abbrev F_ref09_New : FuncId := 9
abbrev F_law09_large : FuncId := 10
abbrev F_disk_Disk_Clone : FuncId := 11
abbrev F_ref09_Disk_Clone : FuncId := 12
abbrev F_law09_step : FuncId := 13
abbrev F_disk_Disk_Stop : FuncId := 14
abbrev F_disk_Disk_Steps : FuncId := 15
abbrev F_law09_play : FuncId := 16
abbrev F_disk_Disk_Down : FuncId := 17
abbrev F_keep_Texts : FuncId := 18
abbrev F_disk_Disk_Names : FuncId := 19
abbrev F_disk_Disk_Create : FuncId := 20
abbrev F_disk_Disk_SyncDir : FuncId := 21
abbrev F_disk_Disk_Read : FuncId := 22
abbrev F_disk_Disk_Used : FuncId := 23
abbrev F_disk_Disk_Crash : FuncId := 24
abbrev F_disk_Disk_Append : FuncId := 25
abbrev F_disk_Disk_Sync : FuncId := 26
abbrev F_keep_Bytes : FuncId := 27
abbrev F_ref09_Disk_Names : FuncId := 28
abbrev F_ref09_Disk_Used : FuncId := 29
abbrev F_ref09_Disk_Down : FuncId := 30
abbrev F_ref09_Disk_Read : FuncId := 31
abbrev F_keep_Spoil : FuncId := 32
abbrev F_disk_Disk_Clone_1 : FuncId := 33
abbrev F_slices_Clone_byte_byte : FuncId := 34
abbrev F_ref09_without : FuncId := 35
abbrev F_ref09_Disk_Create : FuncId := 36
abbrev F_keep_Lend : FuncId := 37
abbrev F_keep_Back : FuncId := 38
abbrev F_ref09_Disk_Append : FuncId := 39
abbrev F_ref09_Disk_Sync : FuncId := 40
abbrev F_disk_Disk_Rename : FuncId := 41
abbrev F_ref09_Disk_Rename : FuncId := 42
abbrev F_disk_Disk_Remove : FuncId := 43
abbrev F_ref09_Disk_Remove : FuncId := 44
abbrev F_ref09_Disk_SyncDir : FuncId := 45
abbrev F_ref09_Disk_Stop : FuncId := 46
abbrev F_ref09_Disk_Crash : FuncId := 47
abbrev F_disk_Disk_ready : FuncId := 48
abbrev F_slices_Sorted_string : FuncId := 49
abbrev F_maps_Keys_disk_names_string_disk_file : FuncId := 50
abbrev F_disk_good : FuncId := 51
abbrev F_disk_Disk_change : FuncId := 52
abbrev F_maps_Clone_disk_names_string_disk_file : FuncId := 53
abbrev F_disk_Disk_done : FuncId := 54
abbrev F_disk_Disk_find : FuncId := 55
abbrev F_disk_Disk_Crash_1 : FuncId := 56
abbrev F_disk_says : FuncId := 57
abbrev F_disk_names_do : FuncId := 58
abbrev F_ref09_Disk_file : FuncId := 59
abbrev F_ref09_Name : FuncId := 60
abbrev F_ref09_find : FuncId := 61
abbrev F_ref09_Disk_change : FuncId := 62
abbrev F_ref09_Disk_step : FuncId := 63
abbrev F_ref09_says : FuncId := 64
abbrev F_ref09_choice : FuncId := 65
abbrev F_ref09_apply : FuncId := 66
abbrev F_slices_Collect_string : FuncId := 67
abbrev F_slices_Sort_string_string : FuncId := 68
abbrev F_maps_Keys_disk_names_string_disk_file_1 : FuncId := 69
abbrev F_maps_clone : FuncId := 70
abbrev F_ref09_with : FuncId := 71
abbrev F_slices_AppendSeq_string_string : FuncId := 72
theorem C_ : PP.cellsOf T_ = 1 := by kernel_rfl
theorem C_int : PP.cellsOf T_int = 1 := by kernel_rfl
theorem U_int : PP.underlying T_int = some (.int .i64) := by kernel_rfl
theorem C_bool : PP.cellsOf T_bool = 1 := by kernel_rfl
theorem U_bool : PP.underlying T_bool = some .bool := by kernel_rfl
theorem C_uint8 : PP.cellsOf T_uint8 = 1 := by kernel_rfl
theorem U_uint8 : PP.underlying T_uint8 = some (.int .u8) := by kernel_rfl
theorem C_string : PP.cellsOf T_string = 1 := by kernel_rfl
theorem U_string : PP.underlying T_string = some .string := by kernel_rfl
theorem C_any : PP.cellsOf T_any = 1 := by kernel_rfl
theorem C_p_disk_Disk : PP.cellsOf T_p_disk_Disk = 1 := by kernel_rfl
theorem C_p_haversackref09_Disk : PP.cellsOf T_p_haversackref09_Disk = 1 := by kernel_rfl
theorem C_sl_haversacklaw09_Op : PP.cellsOf T_sl_haversacklaw09_Op = 1 := by kernel_rfl
theorem E_sl_haversacklaw09_Op : Elem PP T_sl_haversacklaw09_Op T_haversacklaw09_Op 6 96 (.agg #[(.int .i64 0), (.string (⟨#[]⟩ : ByteArray)), (.string (⟨#[]⟩ : ByteArray)), (.slice none 0 0), (.int .i64 0), (.slice none 0 0)]) := Elem.of (by kernel_rfl) (by kernel_rfl)
theorem U_sl_haversacklaw09_Op : PP.underlying T_sl_haversacklaw09_Op = some (.slice T_haversacklaw09_Op) := by kernel_rfl
theorem C_sl_uint8 : PP.cellsOf T_sl_uint8 = 1 := by kernel_rfl
theorem E_sl_uint8 : Elem PP T_sl_uint8 T_uint8 1 1 (.int .u8 0) := Elem.of (by kernel_rfl) (by kernel_rfl)
theorem U_sl_uint8 : PP.underlying T_sl_uint8 = some (.slice T_uint8) := by kernel_rfl
theorem C_sl_int : PP.cellsOf T_sl_int = 1 := by kernel_rfl
theorem E_sl_int : Elem PP T_sl_int T_int 1 8 (.int .i64 0) := Elem.of (by kernel_rfl) (by kernel_rfl)
theorem U_sl_int : PP.underlying T_sl_int = some (.slice T_int) := by kernel_rfl
theorem FL_struct_Kind_int_A_string_To_string_B_sl_uint8_N_int_Choices_ : fieldsOf PP T_struct_Kind_int_A_string_To_string_B_sl_uint8_N_int_Choices_ = [(T_int, 0, 1), (T_string, 1, 1), (T_string, 2, 1), (T_sl_uint8, 3, 1), (T_int, 4, 1), (T_sl_int, 5, 1)] := by kernel_rfl
theorem C_struct_Kind_int_A_string_To_string_B_sl_uint8_N_int_Choices_ : PP.cellsOf T_struct_Kind_int_A_string_To_string_B_sl_uint8_N_int_Choices_ = 6 := by kernel_rfl
theorem FL_haversacklaw09_Op : fieldsOf PP T_haversacklaw09_Op = [(T_int, 0, 1), (T_string, 1, 1), (T_string, 2, 1), (T_sl_uint8, 3, 1), (T_int, 4, 1), (T_sl_int, 5, 1)] := by kernel_rfl
theorem C_haversacklaw09_Op : PP.cellsOf T_haversacklaw09_Op = 6 := by kernel_rfl
theorem C_sl_string : PP.cellsOf T_sl_string = 1 := by kernel_rfl
theorem E_sl_string : Elem PP T_sl_string T_string 1 16 (.string (⟨#[]⟩ : ByteArray)) := Elem.of (by kernel_rfl) (by kernel_rfl)
theorem U_sl_string : PP.underlying T_sl_string = some (.slice T_string) := by kernel_rfl
theorem C_map_string_p_disk_file : PP.cellsOf T_map_string_p_disk_file = 1 := by kernel_rfl
theorem U_map_string_p_disk_file : PP.underlying T_map_string_p_disk_file = some (.map T_string T_p_disk_file) := by kernel_rfl
theorem C_disk_names : PP.cellsOf T_disk_names = 1 := by kernel_rfl
theorem U_disk_names : PP.underlying T_disk_names = some (.map T_string T_p_disk_file) := by kernel_rfl
theorem C_sl_disk_change : PP.cellsOf T_sl_disk_change = 1 := by kernel_rfl
theorem E_sl_disk_change : Elem PP T_sl_disk_change T_disk_change 3 40 (.agg #[(.string (⟨#[]⟩ : ByteArray)), (.string (⟨#[]⟩ : ByteArray)), (.pointer none)]) := Elem.of (by kernel_rfl) (by kernel_rfl)
theorem U_sl_disk_change : PP.underlying T_sl_disk_change = some (.slice T_disk_change) := by kernel_rfl
theorem FL_struct_room_int_now_disk_names_safe_disk_names_changes_sl_di : fieldsOf PP T_struct_room_int_now_disk_names_safe_disk_names_changes_sl_di = [(T_int, 0, 1), (T_disk_names, 1, 1), (T_disk_names, 2, 1), (T_sl_disk_change, 3, 1), (T_int, 4, 1), (T_bool, 5, 1), (T_int, 6, 1)] := by kernel_rfl
theorem C_struct_room_int_now_disk_names_safe_disk_names_changes_sl_di : PP.cellsOf T_struct_room_int_now_disk_names_safe_disk_names_changes_sl_di = 7 := by kernel_rfl
theorem FL_disk_Disk : fieldsOf PP T_disk_Disk = [(T_int, 0, 1), (T_disk_names, 1, 1), (T_disk_names, 2, 1), (T_sl_disk_change, 3, 1), (T_int, 4, 1), (T_bool, 5, 1), (T_int, 6, 1)] := by kernel_rfl
theorem C_disk_Disk : PP.cellsOf T_disk_Disk = 7 := by kernel_rfl
theorem C_sl_haversackref09_File : PP.cellsOf T_sl_haversackref09_File = 1 := by kernel_rfl
theorem E_sl_haversackref09_File : Elem PP T_sl_haversackref09_File T_haversackref09_File 2 32 (.agg #[(.slice none 0 0), (.int .i64 0)]) := Elem.of (by kernel_rfl) (by kernel_rfl)
theorem U_sl_haversackref09_File : PP.underlying T_sl_haversackref09_File = some (.slice T_haversackref09_File) := by kernel_rfl
theorem C_sl_haversackref09_Named : PP.cellsOf T_sl_haversackref09_Named = 1 := by kernel_rfl
theorem E_sl_haversackref09_Named : Elem PP T_sl_haversackref09_Named T_haversackref09_Named 2 24 (.agg #[(.string (⟨#[]⟩ : ByteArray)), (.int .i64 0)]) := Elem.of (by kernel_rfl) (by kernel_rfl)
theorem U_sl_haversackref09_Named : PP.underlying T_sl_haversackref09_Named = some (.slice T_haversackref09_Named) := by kernel_rfl
theorem C_sl_haversackref09_Change : PP.cellsOf T_sl_haversackref09_Change = 1 := by kernel_rfl
theorem E_sl_haversackref09_Change : Elem PP T_sl_haversackref09_Change T_haversackref09_Change 4 48 (.agg #[(.int .i64 0), (.string (⟨#[]⟩ : ByteArray)), (.string (⟨#[]⟩ : ByteArray)), (.int .i64 0)]) := Elem.of (by kernel_rfl) (by kernel_rfl)
theorem U_sl_haversackref09_Change : PP.underlying T_sl_haversackref09_Change = some (.slice T_haversackref09_Change) := by kernel_rfl
theorem FL_struct_Room_int_Files_sl_haversackref09_File_Now_sl_haversac : fieldsOf PP T_struct_Room_int_Files_sl_haversackref09_File_Now_sl_haversac = [(T_int, 0, 1), (T_sl_haversackref09_File, 1, 1), (T_sl_haversackref09_Named, 2, 1), (T_sl_haversackref09_Named, 3, 1), (T_sl_haversackref09_Change, 4, 1), (T_int, 5, 1), (T_int, 6, 1)] := by kernel_rfl
theorem C_struct_Room_int_Files_sl_haversackref09_File_Now_sl_haversac : PP.cellsOf T_struct_Room_int_Files_sl_haversackref09_File_Now_sl_haversac = 7 := by kernel_rfl
theorem FL_haversackref09_Disk : fieldsOf PP T_haversackref09_Disk = [(T_int, 0, 1), (T_sl_haversackref09_File, 1, 1), (T_sl_haversackref09_Named, 2, 1), (T_sl_haversackref09_Named, 3, 1), (T_sl_haversackref09_Change, 4, 1), (T_int, 5, 1), (T_int, 6, 1)] := by kernel_rfl
theorem C_haversackref09_Disk : PP.cellsOf T_haversackref09_Disk = 7 := by kernel_rfl
theorem C_map_p_disk_file_p_disk_file : PP.cellsOf T_map_p_disk_file_p_disk_file = 1 := by kernel_rfl
theorem U_map_p_disk_file_p_disk_file : PP.underlying T_map_p_disk_file_p_disk_file = some (.map T_p_disk_file T_p_disk_file) := by kernel_rfl
theorem C_p_disk_file : PP.cellsOf T_p_disk_file = 1 := by kernel_rfl
theorem FL_struct_b_sl_uint8_safe_int : fieldsOf PP T_struct_b_sl_uint8_safe_int = [(T_sl_uint8, 0, 1), (T_int, 1, 1)] := by kernel_rfl
theorem C_struct_b_sl_uint8_safe_int : PP.cellsOf T_struct_b_sl_uint8_safe_int = 2 := by kernel_rfl
theorem FL_disk_file : fieldsOf PP T_disk_file = [(T_sl_uint8, 0, 1), (T_int, 1, 1)] := by kernel_rfl
theorem C_disk_file : PP.cellsOf T_disk_file = 2 := by kernel_rfl
theorem FL_struct_from_string_to_string_f_p_disk_file : fieldsOf PP T_struct_from_string_to_string_f_p_disk_file = [(T_string, 0, 1), (T_string, 1, 1), (T_p_disk_file, 2, 1)] := by kernel_rfl
theorem C_struct_from_string_to_string_f_p_disk_file : PP.cellsOf T_struct_from_string_to_string_f_p_disk_file = 3 := by kernel_rfl
theorem FL_disk_change : fieldsOf PP T_disk_change = [(T_string, 0, 1), (T_string, 1, 1), (T_p_disk_file, 2, 1)] := by kernel_rfl
theorem C_disk_change : PP.cellsOf T_disk_change = 3 := by kernel_rfl
theorem FL_struct_B_sl_uint8_Safe_int : fieldsOf PP T_struct_B_sl_uint8_Safe_int = [(T_sl_uint8, 0, 1), (T_int, 1, 1)] := by kernel_rfl
theorem C_struct_B_sl_uint8_Safe_int : PP.cellsOf T_struct_B_sl_uint8_Safe_int = 2 := by kernel_rfl
theorem FL_haversackref09_File : fieldsOf PP T_haversackref09_File = [(T_sl_uint8, 0, 1), (T_int, 1, 1)] := by kernel_rfl
theorem C_haversackref09_File : PP.cellsOf T_haversackref09_File = 2 := by kernel_rfl
theorem FL_struct_Kind_int_From_string_To_string_File_int : fieldsOf PP T_struct_Kind_int_From_string_To_string_File_int = [(T_int, 0, 1), (T_string, 1, 1), (T_string, 2, 1), (T_int, 3, 1)] := by kernel_rfl
theorem C_struct_Kind_int_From_string_To_string_File_int : PP.cellsOf T_struct_Kind_int_From_string_To_string_File_int = 4 := by kernel_rfl
theorem FL_haversackref09_Change : fieldsOf PP T_haversackref09_Change = [(T_int, 0, 1), (T_string, 1, 1), (T_string, 2, 1), (T_int, 3, 1)] := by kernel_rfl
theorem C_haversackref09_Change : PP.cellsOf T_haversackref09_Change = 4 := by kernel_rfl
theorem FL_struct_Name_string_File_int : fieldsOf PP T_struct_Name_string_File_int = [(T_string, 0, 1), (T_int, 1, 1)] := by kernel_rfl
theorem C_struct_Name_string_File_int : PP.cellsOf T_struct_Name_string_File_int = 2 := by kernel_rfl
theorem FL_haversackref09_Named : fieldsOf PP T_haversackref09_Named = [(T_string, 0, 1), (T_int, 1, 1)] := by kernel_rfl
theorem C_haversackref09_Named : PP.cellsOf T_haversackref09_Named = 2 := by kernel_rfl
/-! ### haversack/haversacklaw09.DiskNew: function 3 -/
namespace law09_DiskNew
def ann : Ann := (.seq 1 (.region [(List.range 1, 1)]) (.seq 25 (.region [(List.range 7, 25)]) (.seq 25 (.seq 32793 (.region [(List.range 6, 32793)]) (.join (.cond (.seq 4 (.region [(List.range 10, 4)]) (.exit 4)) .leaf))) (.seq 4 (.region [(List.range 16, 4)]) (.exit 4)))))
noncomputable abbrev cd (n : Nat) : Code := sub (bodyOf Try.f3) (pth n)
abbrev an (n : Nat) : Ann := subA ann (pth n)
@[irreducible] def K1 (Q : VP) : EP := seqK (fun fr h => ev PP true none (cd 15) (an 15) (fr.mask 25) (bodyK PP Try.f3 Q) h) (bodyK PP Try.f3 Q)
@[irreducible] def J1 (room0 : Int) (d3 : OA) (e4 : Int) (t15 : Bool) (Q : VP) (h : Heap) : Prop := Jn PP true (cd 29) (mkFr 0 40 [(0, (.int .i64 room0)), (3, (.pointer d3)), (4, (.int .i64 e4)), (15, (.bool t15))]) (K1 Q) h
theorem J1_of {room0 : Int} {d3 : OA} {e4 : Int} {t15 : Bool} {Q : VP} {h : Heap} (H :
 br t15 (
 SpecH PP F_law09_awake [] h (fun v h1 => ∃ (t16 : Bool), v = (.bool t16) ∧
 br t16 (
 let t19 : Bool := (Option.isNone d3)
 br t19 (
 let t23 : Bool := (e4 == 1)
 Q (.bool t23) h1) (
 Q (.bool false) h1)) (
 Q (.bool false) h1))) (
 SpecH PP F_law09_awake [] h (fun v_1 h2 => ∃ (t25 : Bool), v_1 = (.bool t25) ∧
 br t25 (
 let t28 : Bool := (!Option.isNone d3)
 br t28 (
 let t32 : Bool := (e4 == 0)
 br t32 (
 SpecH PP F_ref09_New [(.int .i64 room0)] h2 (fun v_2 h3 => ∃ (t37 : OA), v_2 = (.pointer t37) ∧
 SpecH PP F_law09_same [(.pointer d3), (.pointer t37)] h3 (fun v_3 h4 => ∃ (t38 : Bool), v_3 = (.bool t38) ∧
 Q (.bool t38) h4))) (
 Q (.bool false) h2)) (
 Q (.bool false) h2)) (
 Q (.bool false) h2)))) : J1 room0 d3 e4 t15 Q h := by unfold J1; exact Jn.of_txt (an 29) (by kernel_rfl) H
theorem door {room0 : Int} {Q : VP} {h : Heap} (H :
 SpecH PP F_disk_New [(.int .i64 room0)] h (fun v h1 => ∃ (t7 : OA) (t7_1 : Int), v = (.tuple #[(.pointer t7), (.int .i64 t7_1)]) ∧
 let t11 : Bool := decide (room0 < 1)
 br t11 (
 J1 room0 t7 t7_1 true Q h1) (
 let t14 : Bool := decide (room0 > 4194304)
 J1 room0 t7 t7_1 t14 Q h1))) : SpecH PP F_law09_DiskNew [(.int .i64 room0)] h Q :=
   spec_of_txt (ann := ann) Try.func3 rfl rfl (by kernel_rfl) H
end law09_DiskNew
/-! ### haversack/haversacklaw09.DiskRuns: function 4 -/
namespace law09_DiskRuns
def ann : Ann := (.seq 3 (.region [(List.range 1, 3)]) (.seq 3 (.seq 1048579 (.region [(List.range 10, 1048579)]) (.join (.cond (.seq 16 (.region [(List.range 2, 16)]) (.exit 16)) .leaf))) (.seq 99 (.region [(List.range 7, 99)]) (.seq 35 (.seq 4294967331 (.region [(List.range 6, 4294967331)]) (.join (.cond (.seq 16 (.region [(List.range 1, 16)]) (.exit 16)) .leaf))) (.seq 162 (.region [(List.range 3, 162)]) (.seq 418 (.region [(List.range 2, 418)]) (.seq 930 (.region [(List.range 2, 930)]) (.seq 768 (.seq 1954 (.region [(List.range 1, 1954)]) (.block (.loop 1954 (.seq 1954 (.seq 1099511629730 (.region [(List.range 4, 1099511629730)]) (.cond .leaf (.exit 768))) (.seq 1954 (.block (.seq 1954 (.seq 281474976712610 (.region [(List.range 6, 281474976712610)]) (.cond (.seq 1442 (.region [(List.range 2, 1442)]) (.seq 1954 (.region [(List.range 2, 1954)]) (.seq 1954 (.region [(List.range 3, 1954)]) (.seq 1954 (.region [(List.range 3, 1954)]) (.seq 72057594037929890 (.region [(List.range 2, 72057594037929890)]) (.cond (.seq 16 (.region [(List.range 1, 16)]) (.exit 16)) .leaf)))))) .leaf)) (.join (.seq 1180591620717411305378 (.region [(List.range 14, 1180591620717411305378)]) (.join (.cond (.seq 16 (.region [(List.range 1, 16)]) (.exit 16)) .leaf)))))) (.region [(List.range 3, 1954)])))))) (.seq 16 (.region [(List.range 7, 16)]) (.exit 16))))))))))
noncomputable abbrev cd (n : Nat) : Code := sub (bodyOf Try.f4) (pth n)
abbrev an (n : Nat) : Ann := subA ann (pth n)
@[irreducible] def Xret (t4 : Bool) : Fr := (mkFr 0 77 [(4, (.bool t4))])
@[irreducible] def X0 (elder8 kept9 : OA) : Fr := (mkFr 0 77 [(8, (.pointer elder8)), (9, (.pointer kept9))])
@[irreducible] def K1 (Q : VP) : EP := seqK (fun fr h => ev PP true none (cd 7) (an 7) (fr.mask 3) (bodyK PP Try.f4 Q) h) (bodyK PP Try.f4 Q)
@[irreducible] def J1 (room0 : Int) (script1 : OA) (script1n script1c : Nat) (t20 : Bool) (Q : VP) (h : Heap) : Prop := Jn PP true (cd 13) (mkFr 0 77 [(0, (.int .i64 room0)), (1, (.slice script1 script1n script1c)), (20, (.bool t20))]) (K1 Q) h
@[irreducible] def K2 (Q : VP) : EP := seqK (fun fr h => ev PP true none (cd 31) (an 31) (fr.mask 35) (bodyK PP Try.f4 Q) h) (bodyK PP Try.f4 Q)
@[irreducible] def J2 (room0 : Int) (script1 : OA) (script1n script1c : Nat) (d5 : OA) (t32 : Bool) (Q : VP) (h : Heap) : Prop := Jn PP true (cd 61) (mkFr 0 77 [(0, (.int .i64 room0)), (1, (.slice script1 script1n script1c)), (5, (.pointer d5)), (32, (.bool t32))]) (K2 Q) h
@[irreducible] def K4 (Q : VP) : EP := seqK (fun fr h => ev PP true none (cd 511) (an 511) (fr.mask 768) (bodyK PP Try.f4 Q) h) (bodyK PP Try.f4 Q)
@[irreducible] def K3 (Q : VP) : EP := blockK 0 (K4 Q)
@[irreducible] def L1 (script1 : OA) (script1n script1c : Nat) (d5 r7 elder8 kept9 : OA) (i10 : Int) (K : EP) (h : Heap) : Prop := Lp PP true (cd 4084) (mkFr 0 77 [(1, (.slice script1 script1n script1c)), (5, (.pointer d5)), (7, (.pointer r7)), (8, (.pointer elder8)), (9, (.pointer kept9)), (10, (.int .i64 i10))]) K h
@[irreducible] def B1 (K : EP) : EP := seqK (fun fr h => Lp PP true (cd 4084) (fr.mask 1954) K h) K
@[irreducible] def K6 (K : EP) : EP := seqK (fun fr h => ev PP true none (cd 16339) (an 16339) (fr.mask 1954) (B1 K) h) (B1 K)
@[irreducible] def K5 (K : EP) : EP := blockK 1 (K6 K)
@[irreducible] def J3 (script1 : OA) (script1n script1c : Nat) (d5 r7 elder8 kept9 : OA) (i10 : Int) (K : EP) (h : Heap) : Prop := Jn PP true (cd 65353) (mkFr 0 77 [(1, (.slice script1 script1n script1c)), (5, (.pointer d5)), (7, (.pointer r7)), (8, (.pointer elder8)), (9, (.pointer kept9)), (10, (.int .i64 i10))]) (K5 K) h
@[irreducible] def J4 (script1 : OA) (script1n script1c : Nat) (d5 r7 elder8 kept9 : OA) (i10 : Int) (t70 : Bool) (K : EP) (h : Heap) : Prop := Jn PP true (cd 130707) (mkFr 0 77 [(1, (.slice script1 script1n script1c)), (5, (.pointer d5)), (7, (.pointer r7)), (8, (.pointer elder8)), (9, (.pointer kept9)), (10, (.int .i64 i10)), (70, (.bool t70))]) (K5 K) h
theorem J1_of {room0 : Int} {script1 : OA} {script1n script1c : Nat} {t20 : Bool} {Q : VP} {h : Heap} (H :
 br t20 (
 SpecH PP F_law09_awake [] h (fun v h1 => ∃ (t21 : Bool), v = (.bool t21) ∧
 Q (.bool t21) h1)) (
 SpecH PP F_disk_New [(.int .i64 room0)] h (fun v_1 h2 => ∃ (t24 : OA) (t24_1 : Int), v_1 = (.tuple #[(.pointer t24), (.int .i64 t24_1)]) ∧
 let t28 : Bool := (Option.isNone t24)
 br t28 (
 J2 room0 script1 script1n script1c t24 true Q h2) (
 let t31 : Bool := (t24_1 != 0)
 J2 room0 script1 script1n script1c t24 t31 Q h2)))) : J1 room0 script1 script1n script1c t20 Q h := by unfold J1; exact Jn.of_txt (an 13) (by kernel_rfl) H
theorem J2_of {room0 : Int} {script1 : OA} {script1n script1c : Nat} {d5 : OA} {t32 : Bool} {Q : VP} {h : Heap} (H :
 br t32 (
 Q (.bool false) h) (
 SpecH PP F_ref09_New [(.int .i64 room0)] h (fun v h1 => ∃ (t34 : OA), v = (.pointer t34) ∧
 L1 script1 script1n script1c d5 t34 d5 t34 0 (K3 Q) h1))) : J2 room0 script1 script1n script1c d5 t32 Q h := by unfold J2; exact Jn.of_txt (an 61) (by kernel_rfl) H
theorem L1_of {script1 : OA} {script1n script1c : Nat} {d5 r7 elder8 kept9 : OA} {i10 : Int} {K : EP} {h : Heap} (H :
 let t40 : Bool := decide (i10 < (script1n : Int))
 br t40 (
 hwp PP (Instr.indexAt T_sl_haversacklaw09_Op (.slice script1 script1n script1c) (.int .i64 i10)) (fun v h1 => ∃ (t45 : Addr), v = (.pointer (some t45)) ∧
 ∃ (t47 : Int), cellH h1 t45 = some (.int .i64 t47) ∧
 let t48 : Bool := (t47 == 10)
 br t48 (
 SpecH PP F_disk_Disk_Clone [(.pointer d5)] h1 (fun v_1 h2 => ∃ (t52 : OA), v_1 = (.pointer t52) ∧
 SpecH PP F_ref09_Disk_Clone [(.pointer r7)] h2 (fun v_2 h3 => ∃ (t54 : OA), v_2 = (.pointer t54) ∧
 let t56 : Bool := (Option.isNone t52)
 br t56 (
 K .ret (Xret false) h3) (
 J3 script1 script1n script1c t52 t54 d5 r7 i10 K h3)))) (
 J3 script1 script1n script1c d5 r7 elder8 kept9 i10 K h1)) h) (
 K (.exit 0) (X0 elder8 kept9) h)) : L1 script1 script1n script1c d5 r7 elder8 kept9 i10 K h := by unfold L1; exact Lp.of_txt (an 4084) 1954 (by kernel_rfl) H
theorem L1_Xret {Q : VP} {t4 : Bool} {h : Heap} (H :
 Q (.bool t4) h) : (K3 Q) .ret (Xret t4) h := of_eq_txt (by kernel_rfl) H
theorem J3_of {script1 : OA} {script1n script1c : Nat} {d5 r7 elder8 kept9 : OA} {i10 : Int} {K : EP} {h : Heap} (H :
 hwp PP (Instr.indexAt T_sl_haversacklaw09_Op (.slice script1 script1n script1c) (.int .i64 i10)) (fun v h1 => ∃ (t61 : Addr), v = (.pointer (some t61)) ∧
 ∃ (t62f0 : Int) (t62f1 t62f2 : ByteArray) (t62f3 : OA) (t62f3n t62f3c : Nat) (t62f4 : Int) (t62f5 : OA) (t62f5n t62f5c : Nat), rdCells h1 t61 0 [(.int .i64 t62f0), (.string t62f1), (.string t62f2), (.slice t62f3 t62f3n t62f3c), (.int .i64 t62f4), (.slice t62f5 t62f5n t62f5c)] ∧
 SpecH PP F_law09_step [(.pointer d5), (.pointer r7), (.agg #[(.int .i64 t62f0), (.string t62f1), (.string t62f2), (.slice t62f3 t62f3n t62f3c), (.int .i64 t62f4), (.slice t62f5 t62f5n t62f5c)])] h1 (fun v_1 h2 => ∃ (t63 : Bool), v_1 = (.bool t63) ∧
 let t64 : Bool := (!t63)
 br t64 (
 J4 script1 script1n script1c d5 r7 elder8 kept9 i10 true K h2) (
 SpecH PP F_law09_same [(.pointer d5), (.pointer r7)] h2 (fun v_2 h3 => ∃ (t68 : Bool), v_2 = (.bool t68) ∧
 let t69 : Bool := (!t68)
 J4 script1 script1n script1c d5 r7 elder8 kept9 i10 t69 K h3)))) h) : J3 script1 script1n script1c d5 r7 elder8 kept9 i10 K h := by unfold J3; exact Jn.of_txt (an 65353) (by kernel_rfl) H
theorem L1_X0 {Q : VP} {elder8 kept9 : OA} {h : Heap} (H :
 SpecH PP F_law09_awake [] h (fun v h1 => ∃ (t71 : Bool), v = (.bool t71) ∧
 br t71 (
 SpecH PP F_law09_same [(.pointer elder8), (.pointer kept9)] h1 (fun v_1 h2 => ∃ (t75 : Bool), v_1 = (.bool t75) ∧
 Q (.bool t75) h2)) (
 Q (.bool false) h1))) : (K3 Q) (.exit 0) (X0 elder8 kept9) h := of_eq_txt (by kernel_rfl) H
theorem J4_of {script1 : OA} {script1n script1c : Nat} {d5 r7 elder8 kept9 : OA} {i10 : Int} {t70 : Bool} {K : EP} {h : Heap} (H :
 br t70 (
 K .ret (Xret false) h) (
 let t42 : Int := IntKind.i64.wrap (i10 + 1)
 L1 script1 script1n script1c d5 r7 elder8 kept9 t42 K h)) : J4 script1 script1n script1c d5 r7 elder8 kept9 i10 t70 K h := by unfold J4; exact Jn.of_txt (an 130707) (by kernel_rfl) H
theorem door {room0 : Int} {script1 : OA} {script1n script1c : Nat} {Q : VP} {h : Heap} (H :
 SpecH PP F_law09_large [(.slice script1 script1n script1c)] h (fun v h1 => ∃ (t12 : Bool), v = (.bool t12) ∧
 br t12 (
 J1 room0 script1 script1n script1c true Q h1) (
 let t15 : Bool := decide (room0 < 1)
 br t15 (
 J1 room0 script1 script1n script1c true Q h1) (
 let t19 : Bool := decide (room0 > 4194304)
 J1 room0 script1 script1n script1c t19 Q h1)))) : SpecH PP F_law09_DiskRuns [(.int .i64 room0), (.slice script1 script1n script1c)] h Q :=
   spec_of_txt (ann := ann) Try.func4 rfl rfl (by kernel_rfl) H
end law09_DiskRuns
/-! ### haversack/haversacklaw09.DiskStops: function 5 -/
namespace law09_DiskStops
def ann : Ann := (.seq 7 (.region [(List.range 1, 7)]) (.seq 7 (.seq 8388615 (.region [(List.range 6, 8388615)]) (.join (.cond (.seq 64 (.region [(List.range 1, 64)]) (.exit 64)) .leaf))) (.seq 391 (.region [(List.range 7, 391)]) (.seq 1926 (.region [(List.range 7, 1926)]) (.seq 646 (.seq 140737488357254 (.region [(List.range 14, 140737488357254)]) (.join (.cond (.seq 64 (.region [(List.range 11, 64)]) (.exit 64)) .leaf))) (.seq 646 (.seq 2305843009213694598 (.region [(List.range 4, 2305843009213694598)]) (.cond (.seq 64 (.region [(List.range 1, 64)]) (.exit 64)) .leaf)) (.seq 644 (.seq 2694 (.region [(List.range 1, 2694)]) (.block (.loop 2694 (.seq 2694 (.seq 36893488147419105926 (.region [(List.range 4, 36893488147419105926)]) (.cond .leaf (.exit 644))) (.seq 2694 (.block (.seq 6790 (.region [(List.range 6, 6790)]) (.seq 6790 (.seq 604462909807314587359878 (.region [(List.range 8, 604462909807314587359878)]) (.cond (.exit 2694) .leaf)) (.seq 6790 (.seq 9671406556917033397656198 (.region [(List.range 4, 9671406556917033397656198)]) (.cond (.exit 644) .leaf)) (.seq 6790 (.region [(List.range 4, 6790)]) (.region [(List.range 4, 2694)])))))) (.join (.region [(List.range 3, 2694)]))))))) (.seq 8832 (.region [(List.range 5, 8832)]) (.seq 8832 (.seq 81129638414606681695789005152896 (.region [(List.range 11, 81129638414606681695789005152896)]) (.join (.cond (.seq 64 (.region [(List.range 1, 64)]) (.exit 64)) .leaf))) (.seq 640 (.seq 324518553658426726783156020576896 (.region [(List.range 2, 324518553658426726783156020576896)]) (.cond (.seq 64 (.region [(List.range 9, 64)]) (.exit 64)) .leaf)) (.seq 17024 (.region [(List.range 3, 17024)]) (.seq 49792 (.region [(List.range 3, 49792)]) (.seq 180864 (.region [(List.range 7, 180864)]) (.seq 640 (.seq 2854495385411919762116571938898990272765493888 (.region [(List.range 26, 2854495385411919762116571938898990272765493888)]) (.join (.cond (.seq 64 (.region [(List.range 1, 64)]) (.exit 64)) .leaf))) (.seq 640 (.region [(List.range 2, 640)]) (.seq 640 (.region [(List.range 2, 640)]) (.seq 64 (.region [(List.range 16, 64)]) (.exit 64))))))))))))))))))
noncomputable abbrev cd (n : Nat) : Code := sub (bodyOf Try.f5) (pth n)
abbrev an (n : Nat) : Ann := subA ann (pth n)
@[irreducible] def X0 (xn2 : Int) (d7 x9 : OA) : Fr := (mkFr 0 171 [(2, (.int .i64 xn2)), (7, (.pointer d7)), (9, (.pointer x9))])
@[irreducible] def K1 (Q : VP) : EP := seqK (fun fr h => ev PP true none (cd 7) (an 7) (fr.mask 7) (bodyK PP Try.f5 Q) h) (bodyK PP Try.f5 Q)
@[irreducible] def J1 (room0 : Int) (script1 : OA) (script1n script1c : Nat) (xn2 : Int) (t23 : Bool) (Q : VP) (h : Heap) : Prop := Jn PP true (cd 13) (mkFr 0 171 [(0, (.int .i64 room0)), (1, (.slice script1 script1n script1c)), (2, (.int .i64 xn2)), (23, (.bool t23))]) (K1 Q) h
@[irreducible] def K2 (Q : VP) : EP := seqK (fun fr h => ev PP true none (cd 63) (an 63) (fr.mask 646) (bodyK PP Try.f5 Q) h) (bodyK PP Try.f5 Q)
@[irreducible] def J2 (script1 : OA) (script1n script1c : Nat) (xn2 : Int) (d7 : OA) (e8 : Int) (x9 : OA) (f10 : Int) (t47 : Bool) (Q : VP) (h : Heap) : Prop := Jn PP true (cd 125) (mkFr 0 171 [(1, (.slice script1 script1n script1c)), (2, (.int .i64 xn2)), (7, (.pointer d7)), (8, (.int .i64 e8)), (9, (.pointer x9)), (10, (.int .i64 f10)), (47, (.bool t47))]) (K2 Q) h
@[irreducible] def K4 (Q : VP) : EP := seqK (fun fr h => ev PP true none (cd 255) (an 255) (fr.mask 644) (bodyK PP Try.f5 Q) h) (bodyK PP Try.f5 Q)
@[irreducible] def K3 (Q : VP) : EP := blockK 0 (K4 Q)
@[irreducible] def L1 (script1 : OA) (script1n script1c : Nat) (xn2 : Int) (d7 x9 : OA) (i11 : Int) (K : EP) (h : Heap) : Prop := Lp PP true (cd 2036) (mkFr 0 171 [(1, (.slice script1 script1n script1c)), (2, (.int .i64 xn2)), (7, (.pointer d7)), (9, (.pointer x9)), (11, (.int .i64 i11))]) K h
@[irreducible] def B1 (K : EP) : EP := seqK (fun fr h => Lp PP true (cd 2036) (fr.mask 2694) K h) K
@[irreducible] def J3 (script1 : OA) (script1n script1c : Nat) (xn2 : Int) (d7 x9 : OA) (i11 : Int) (K : EP) (h : Heap) : Prop := Jn PP true (cd 8147) (mkFr 0 171 [(1, (.slice script1 script1n script1c)), (2, (.int .i64 xn2)), (7, (.pointer d7)), (9, (.pointer x9)), (11, (.int .i64 i11))]) (B1 K) h
@[irreducible] def K5 (Q : VP) : EP := seqK (fun fr h => ev PP true none (cd 1023) (an 1023) (fr.mask 8832) (bodyK PP Try.f5 Q) h) (bodyK PP Try.f5 Q)
@[irreducible] def J4 (d7 x9 : OA) (down13 t106 : Bool) (Q : VP) (h : Heap) : Prop := Jn PP true (cd 2045) (mkFr 0 171 [(7, (.pointer d7)), (9, (.pointer x9)), (13, (.bool down13)), (106, (.bool t106))]) (K5 Q) h
@[irreducible] def K6 (Q : VP) : EP := seqK (fun fr h => ev PP true none (cd 32767) (an 32767) (fr.mask 640) (bodyK PP Try.f5 Q) h) (bodyK PP Try.f5 Q)
@[irreducible] def J5 (d7 x9 : OA) (t151 : Bool) (Q : VP) (h : Heap) : Prop := Jn PP true (cd 65533) (mkFr 0 171 [(7, (.pointer d7)), (9, (.pointer x9)), (151, (.bool t151))]) (K6 Q) h
theorem J1_of {room0 : Int} {script1 : OA} {script1n script1c : Nat} {xn2 : Int} {t23 : Bool} {Q : VP} {h : Heap} (H :
 br t23 (
 Q (.bool true) h) (
 SpecH PP F_disk_New [(.int .i64 room0)] h (fun v h1 => ∃ (t26 : OA) (t26_1 : Int), v = (.tuple #[(.pointer t26), (.int .i64 t26_1)]) ∧
 SpecH PP F_disk_New [(.int .i64 room0)] h1 (fun v_1 h2 => ∃ (t31 : OA) (t31_1 : Int), v_1 = (.tuple #[(.pointer t31), (.int .i64 t31_1)]) ∧
 let t35 : Bool := (Option.isNone t26)
 br t35 (
 J2 script1 script1n script1c xn2 t26 t26_1 t31 t31_1 true Q h2) (
 let t38 : Bool := (Option.isNone t31)
 br t38 (
 J2 script1 script1n script1c xn2 t26 t26_1 t31 t31_1 true Q h2) (
 let t42 : Bool := (t26_1 != 0)
 br t42 (
 J2 script1 script1n script1c xn2 t26 t26_1 t31 t31_1 true Q h2) (
 let t46 : Bool := (t31_1 != 0)
 J2 script1 script1n script1c xn2 t26 t26_1 t31 t31_1 t46 Q h2))))))) : J1 room0 script1 script1n script1c xn2 t23 Q h := by unfold J1; exact Jn.of_txt (an 13) (by kernel_rfl) H
theorem J2_of {script1 : OA} {script1n script1c : Nat} {xn2 : Int} {d7 : OA} {e8 : Int} {x9 : OA} {f10 : Int} {t47 : Bool} {Q : VP} {h : Heap} (H :
 br t47 (
 SpecH PP F_law09_awake [] h (fun v h1 => ∃ (t48 : Bool), v = (.bool t48) ∧
 br t48 (
 let t51 : Bool := (e8 == 1)
 br t51 (
 let t56 : Bool := (f10 == e8)
 Q (.bool t56) h1) (
 Q (.bool false) h1)) (
 Q (.bool false) h1))) (
 SpecH PP F_disk_Disk_Stop [(.pointer d7), (.int .i64 xn2)] h (fun v_1 h2 => ∃ (t60 : Int), v_1 = (.int .i64 t60) ∧
 let t61 : Bool := (t60 != 0)
 br t61 (
 Q (.bool false) h2) (
 L1 script1 script1n script1c xn2 d7 x9 0 (K3 Q) h2)))) : J2 script1 script1n script1c xn2 d7 e8 x9 f10 t47 Q h := by unfold J2; exact Jn.of_txt (an 125) (by kernel_rfl) H
theorem L1_of {script1 : OA} {script1n script1c : Nat} {xn2 : Int} {d7 x9 : OA} {i11 : Int} {K : EP} {h : Heap} (H :
 let t65 : Bool := decide (i11 < (script1n : Int))
 br t65 (
 hwp PP (Instr.indexAt T_sl_haversacklaw09_Op (.slice script1 script1n script1c) (.int .i64 i11)) (fun v h1 => ∃ (t70 : Addr), v = (.pointer (some t70)) ∧
 ∃ (t71f0 : Int) (t71f1 t71f2 : ByteArray) (t71f3 : OA) (t71f3n t71f3c : Nat) (t71f4 : Int) (t71f5 : OA) (t71f5n t71f5c : Nat), rdCells h1 t70 0 [(.int .i64 t71f0), (.string t71f1), (.string t71f2), (.slice t71f3 t71f3n t71f3c), (.int .i64 t71f4), (.slice t71f5 t71f5n t71f5c)] ∧
 let o12 : Addr := ⟨Array.size h1, 0, none⟩
 let h2 : Heap := Array.push h1 (.cells #[(.int .i64 0), (.string (⟨#[]⟩ : ByteArray)), (.string (⟨#[]⟩ : ByteArray)), (.slice none 0 0), (.int .i64 0), (.slice none 0 0)] T_haversacklaw09_Op (0, 0))
 wrCells o12 0 [(.int .i64 t71f0), (.string t71f1), (.string t71f2), (.slice t71f3 t71f3n t71f3c), (.int .i64 t71f4), (.slice t71f5 t71f5n t71f5c)] (fun h3 =>
 ∃ (t73 : Int), cellH h3 o12 = some (.int .i64 t73) ∧
 let t74 : Bool := (t73 == 8)
 br t74 (
 J3 script1 script1n script1c xn2 d7 x9 i11 K h3) (
 ∃ (t77 : Int), cellH h3 o12 = some (.int .i64 t77) ∧
 let t78 : Bool := (t77 == 9)
 br t78 (
 J3 script1 script1n script1c xn2 d7 x9 i11 K h3) (
 SpecH PP F_disk_Disk_Steps [(.pointer x9)] h3 (fun v_1 h4 => ∃ (t81 : Int), v_1 = (.int .i64 t81) ∧
 let t83 : Bool := (t81 == xn2)
 br t83 (
 K (.exit 0) (X0 xn2 d7 x9) h4) (
 ∃ (t85f0 : Int) (t85f1 t85f2 : ByteArray) (t85f3 : OA) (t85f3n t85f3c : Nat) (t85f4 : Int) (t85f5 : OA) (t85f5n t85f5c : Nat), rdCells h4 o12 0 [(.int .i64 t85f0), (.string t85f1), (.string t85f2), (.slice t85f3 t85f3n t85f3c), (.int .i64 t85f4), (.slice t85f5 t85f5n t85f5c)] ∧
 let h5 : Heap := Array.push h4 (.cells #[(.int .i64 t85f0), (.string t85f1), (.string t85f2), (.slice t85f3 t85f3n t85f3c), (.int .i64 t85f4), (.slice t85f5 t85f5n t85f5c)] T_haversacklaw09_Op (0, 0))
 SpecH PP F_law09_play [(.pointer d7), (.slice (some ⟨Array.size h4, 0, none⟩) 1 1)] h5 (fun v_2 h6 => v_2 = (.tuple #[]) ∧
 ∃ (t89f0 : Int) (t89f1 t89f2 : ByteArray) (t89f3 : OA) (t89f3n t89f3c : Nat) (t89f4 : Int) (t89f5 : OA) (t89f5n t89f5c : Nat), rdCells h6 o12 0 [(.int .i64 t89f0), (.string t89f1), (.string t89f2), (.slice t89f3 t89f3n t89f3c), (.int .i64 t89f4), (.slice t89f5 t89f5n t89f5c)] ∧
 let h7 : Heap := Array.push h6 (.cells #[(.int .i64 t89f0), (.string t89f1), (.string t89f2), (.slice t89f3 t89f3n t89f3c), (.int .i64 t89f4), (.slice t89f5 t89f5n t89f5c)] T_haversacklaw09_Op (0, 0))
 SpecH PP F_law09_play [(.pointer x9), (.slice (some ⟨Array.size h6, 0, none⟩) 1 1)] h7 (fun v_3 h8 => v_3 = (.tuple #[]) ∧
 J3 script1 script1n script1c xn2 d7 x9 i11 K h8))))))) h2) h) (
 K (.exit 0) (X0 xn2 d7 x9) h)) : L1 script1 script1n script1c xn2 d7 x9 i11 K h := by unfold L1; exact Lp.of_txt (an 2036) 2694 (by kernel_rfl) H
theorem L1_X0 {Q : VP} {xn2 : Int} {d7 x9 : OA} {h : Heap} (H :
 SpecH PP F_disk_Disk_Steps [(.pointer x9)] h (fun v h1 => ∃ (t93 : Int), v = (.int .i64 t93) ∧
 let t95 : Bool := (t93 == xn2)
 SpecH PP F_disk_Disk_Down [(.pointer d7)] h1 (fun v_1 h2 => ∃ (t97 : Bool), v_1 = (.bool t97) ∧
 let t99 : Bool := (!(t97 == t95))
 br t99 (
 J4 d7 x9 t95 true Q h2) (
 SpecH PP F_disk_Disk_Steps [(.pointer d7)] h2 (fun v_2 h3 => ∃ (t102 : Int), v_2 = (.int .i64 t102) ∧
 SpecH PP F_disk_Disk_Steps [(.pointer x9)] h3 (fun v_3 h4 => ∃ (t104 : Int), v_3 = (.int .i64 t104) ∧
 let t105 : Bool := (t102 != t104)
 J4 d7 x9 t95 t105 Q h4)))))) : (K3 Q) (.exit 0) (X0 xn2 d7 x9) h := of_eq_txt (by kernel_rfl) H
theorem J3_of {script1 : OA} {script1n script1c : Nat} {xn2 : Int} {d7 x9 : OA} {i11 : Int} {K : EP} {h : Heap} (H :
 let t67 : Int := IntKind.i64.wrap (i11 + 1)
 L1 script1 script1n script1c xn2 d7 x9 t67 K h) : J3 script1 script1n script1c xn2 d7 x9 i11 K h := by unfold J3; exact Jn.of_txt (an 8147) (by kernel_rfl) H
theorem J4_of {d7 x9 : OA} {down13 t106 : Bool} {Q : VP} {h : Heap} (H :
 br t106 (
 Q (.bool false) h) (
 let t108 : Bool := (!down13)
 br t108 (
 SpecH PP F_law09_awake [] h (fun v h1 => ∃ (t109 : Bool), v = (.bool t109) ∧
 br t109 (
 SpecH PP F_disk_Disk_Names [(.pointer d7)] h1 (fun v_1 h2 => ∃ (t112 : OA) (t112n t112c : Nat), v_1 = (.slice t112 t112n t112c) ∧
 SpecH PP F_disk_Disk_Names [(.pointer x9)] h2 (fun v_2 h3 => ∃ (t114 : OA) (t114n t114c : Nat), v_2 = (.slice t114 t114n t114c) ∧
 SpecH PP F_keep_Texts [(.slice t112 t112n t112c), (.slice t114 t114n t114c)] h3 (fun v_3 h4 => ∃ (t115 : Bool), v_3 = (.bool t115) ∧
 Q (.bool t115) h4)))) (
 Q (.bool false) h1))) (
 SpecH PP F_disk_Disk_Create [(.pointer d7), (.string (⟨#[122]⟩ : ByteArray))] h (fun v_4 h5 => ∃ (t118 : Int), v_4 = (.int .i64 t118) ∧
 SpecH PP F_disk_Disk_SyncDir [(.pointer d7)] h5 (fun v_5 h6 => ∃ (t120 : Int), v_5 = (.int .i64 t120) ∧
 SpecH PP F_disk_Disk_Read [(.pointer d7), (.string (⟨#[97]⟩ : ByteArray))] h6 (fun v_6 h7 => ∃ (t123 : OA) (t123n t123c : Nat) (t123_1 : Int), v_6 = (.tuple #[(.slice t123 t123n t123c), (.int .i64 t123_1)]) ∧
 let t127 : Bool := (t118 != 94)
 br t127 (
 J5 d7 x9 true Q h7) (
 let t130 : Bool := (t120 != 94)
 br t130 (
 J5 d7 x9 true Q h7) (
 let t134 : Bool := (t123_1 != 94)
 br t134 (
 J5 d7 x9 true Q h7) (
 SpecH PP F_disk_Disk_Names [(.pointer d7)] h7 (fun v_7 h8 => ∃ (t138 : OA) (t138n t138c : Nat), v_7 = (.slice t138 t138n t138c) ∧
 let t140 : Bool := decide ((t138n : Int) > 0)
 br t140 (
 J5 d7 x9 true Q h8) (
 SpecH PP F_disk_Disk_Used [(.pointer d7)] h8 (fun v_8 h9 => ∃ (t144 : Int), v_8 = (.int .i64 t144) ∧
 let t145 : Bool := (t144 != 0)
 br t145 (
 J5 d7 x9 true Q h9) (
 SpecH PP F_disk_Disk_Stop [(.pointer d7), (.int .i64 1)] h9 (fun v_9 h10 => ∃ (t149 : Int), v_9 = (.int .i64 t149) ∧
 let t150 : Bool := (t149 != 94)
 J5 d7 x9 t150 Q h10)))))))))))))) : J4 d7 x9 down13 t106 Q h := by unfold J4; exact Jn.of_txt (an 2045) (by kernel_rfl) H
theorem J5_of {d7 x9 : OA} {t151 : Bool} {Q : VP} {h : Heap} (H :
 br t151 (
 Q (.bool false) h) (
 SpecH PP F_disk_Disk_Crash [(.pointer d7), (.slice none 0 0)] h (fun v h1 => ∃ (t153 : Int), v = (.int .i64 t153) ∧
 SpecH PP F_disk_Disk_Crash [(.pointer x9), (.slice none 0 0)] h1 (fun v_1 h2 => ∃ (t155 : Int), v_1 = (.int .i64 t155) ∧
 SpecH PP F_law09_awake [] h2 (fun v_2 h3 => ∃ (t156 : Bool), v_2 = (.bool t156) ∧
 br t156 (
 SpecH PP F_disk_Disk_Names [(.pointer d7)] h3 (fun v_3 h4 => ∃ (t159 : OA) (t159n t159c : Nat), v_3 = (.slice t159 t159n t159c) ∧
 SpecH PP F_disk_Disk_Names [(.pointer x9)] h4 (fun v_4 h5 => ∃ (t161 : OA) (t161n t161c : Nat), v_4 = (.slice t161 t161n t161c) ∧
 SpecH PP F_keep_Texts [(.slice t159 t159n t159c), (.slice t161 t161n t161c)] h5 (fun v_5 h6 => ∃ (t162 : Bool), v_5 = (.bool t162) ∧
 br t162 (
 SpecH PP F_disk_Disk_Used [(.pointer d7)] h6 (fun v_6 h7 => ∃ (t166 : Int), v_6 = (.int .i64 t166) ∧
 SpecH PP F_disk_Disk_Used [(.pointer x9)] h7 (fun v_7 h8 => ∃ (t168 : Int), v_7 = (.int .i64 t168) ∧
 let t169 : Bool := (t166 == t168)
 Q (.bool t169) h8))) (
 Q (.bool false) h6))))) (
 Q (.bool false) h3)))))) : J5 d7 x9 t151 Q h := by unfold J5; exact Jn.of_txt (an 65533) (by kernel_rfl) H
theorem door {room0 : Int} {script1 : OA} {script1n script1c : Nat} {xn2 : Int} {Q : VP} {h : Heap} (H :
 SpecH PP F_law09_large [(.slice script1 script1n script1c)] h (fun v h1 => ∃ (t19 : Bool), v = (.bool t19) ∧
 br t19 (
 J1 room0 script1 script1n script1c xn2 true Q h1) (
 let t22 : Bool := decide (xn2 < 0)
 J1 room0 script1 script1n script1c xn2 t22 Q h1))) : SpecH PP F_law09_DiskStops [(.int .i64 room0), (.slice script1 script1n script1c), (.int .i64 xn2)] h Q :=
   spec_of_txt (ann := ann) Try.func5 rfl rfl (by kernel_rfl) H
end law09_DiskStops
/-! ### haversack/disk.New: function 6 -/
namespace disk_New
def ann : Ann := (.seq 1 (.region [(List.range 2, 1)]) (.seq 1 (.seq 513 (.region [(List.range 6, 513)]) (.join (.cond (.seq 12 (.region [(List.range 2, 12)]) (.exit 12)) .leaf))) (.seq 12 (.region [(List.range 7, 12)]) (.exit 12))))
noncomputable abbrev cd (n : Nat) : Code := sub (bodyOf Try.f6) (pth n)
abbrev an (n : Nat) : Ann := subA ann (pth n)
@[irreducible] def K1 (Q : VP) : EP := seqK (fun fr h => ev PP true none (cd 7) (an 7) (fr.mask 1) (bodyK PP Try.f6 Q) h) (bodyK PP Try.f6 Q)
@[irreducible] def J1 (room0 : Int) (t9 : Bool) (Q : VP) (h : Heap) : Prop := Jn PP true (cd 13) (mkFr 0 15 [(0, (.int .i64 room0)), (9, (.bool t9))]) (K1 Q) h
theorem J1_of {room0 : Int} {t9 : Bool} {Q : VP} {h : Heap} (H :
 br t9 (
 Q (.tuple #[(.pointer none), (.int .i64 1)]) h) (
 let h1 : Heap := Array.push h (.map #[] 0)
 let h2 : Heap := Array.push h1 (.map #[] 0)
 let t14 : Addr := ⟨Array.size h2, 0, none⟩
 let h3 : Heap := Array.push h2 (.cells #[(.int .i64 room0), (.map (some (Array.size h))), (.map (some (Array.size h1))), (.slice none 0 0), (.int .i64 0), (.bool false), (.int .i64 0)] T_disk_Disk (0, 0))
 Q (.tuple #[(.pointer (some t14)), (.int .i64 0)]) h3)) : J1 room0 t9 Q h := by unfold J1; exact Jn.of_txt (an 13) (by kernel_rfl) H
theorem door {room0 : Int} {Q : VP} {h : Heap} (H :
 let t5 : Bool := decide (room0 < 1)
 br t5 (
 J1 room0 true Q h) (
 let t8 : Bool := decide (room0 > 4194304)
 J1 room0 t8 Q h)) : SpecH PP F_disk_New [(.int .i64 room0)] h Q :=
   spec_of_txt (ann := ann) Try.func6 rfl rfl (by kernel_rfl) H
end disk_New
/-! ### haversack/haversacklaw09.awake: function 7 -/
namespace law09_awake
def ann : Ann := (.seq 0 (.region [(List.range 1, 0)]) (.seq 6 (.region [(List.range 6, 6)]) (.seq 2 (.seq 67108866 (.region [(List.range 6, 67108866)]) (.join (.cond (.seq 1 (.region [(List.range 1, 1)]) (.exit 1)) .leaf))) (.seq 10 (.region [(List.range 3, 10)]) (.seq 26 (.region [(List.range 4, 26)]) (.seq 58 (.region [(List.range 4, 58)]) (.seq 122 (.region [(List.range 3, 122)]) (.seq 250 (.region [(List.range 4, 250)]) (.seq 506 (.region [(List.range 3, 506)]) (.seq 1018 (.region [(List.range 3, 1018)]) (.seq 1018 (.seq 35184372089850 (.region [(List.range 2, 35184372089850)]) (.cond (.seq 1 (.region [(List.range 1, 1)]) (.exit 1)) .leaf)) (.seq 2042 (.region [(List.range 4, 2042)]) (.seq 8186 (.region [(List.range 7, 8186)]) (.seq 16378 (.region [(List.range 4, 16378)]) (.seq 65018 (.region [(List.range 7, 65018)]) (.seq 83970 (.region [(List.range 39, 83970)]) (.join (.seq 1 (.region [(List.range 17, 1)]) (.exit 1)))))))))))))))))))
noncomputable abbrev cd (n : Nat) : Code := sub (bodyOf Try.f7) (pth n)
abbrev an (n : Nat) : Ann := subA ann (pth n)
@[irreducible] def K1 (Q : VP) : EP := seqK (fun fr h => ev PP true none (cd 15) (an 15) (fr.mask 2) (bodyK PP Try.f7 Q) h) (bodyK PP Try.f7 Q)
@[irreducible] def J1 (d1 : OA) (t26 : Bool) (Q : VP) (h : Heap) : Prop := Jn PP true (cd 29) (mkFr 0 116 [(1, (.pointer d1)), (26, (.bool t26))]) (K1 Q) h
@[irreducible] def J2 (d1 xl11 : OA) (xl11n xl11c : Nat) (m14 : OA) (m14n m14c : Nat) (ok16 : Bool) (Q : VP) (h : Heap) : Prop := Jn PP true (cd 131071) (mkFr 0 116 [(1, (.pointer d1)), (11, (.slice xl11 xl11n xl11c)), (14, (.slice m14 m14n m14c)), (16, (.bool ok16))]) (bodyK PP Try.f7 Q) h
theorem J1_of {d1 : OA} {t26 : Bool} {Q : VP} {h : Heap} (H :
 br t26 (
 Q (.bool false) h) (
 SpecH PP F_disk_Disk_Create [(.pointer d1), (.string (⟨#[97]⟩ : ByteArray))] h (fun v h1 => ∃ (t28 : Int), v = (.int .i64 t28) ∧
 let h2 : Heap := Array.push h1 (.cells #[(.int .u8 1), (.int .u8 2), (.int .u8 3)] T_uint8 (0, 0))
 SpecH PP F_disk_Disk_Append [(.pointer d1), (.string (⟨#[97]⟩ : ByteArray)), (.slice (some ⟨Array.size h1, 0, none⟩) 3 3)] h2 (fun v_1 h3 => ∃ (t31 : Int), v_1 = (.int .i64 t31) ∧
 let h4 : Heap := Array.push h3 (.cells #[(.int .u8 4), (.int .u8 5)] T_uint8 (0, 0))
 SpecH PP F_disk_Disk_Append [(.pointer d1), (.string (⟨#[97]⟩ : ByteArray)), (.slice (some ⟨Array.size h3, 0, none⟩) 2 2)] h4 (fun v_2 h5 => ∃ (t34 : Int), v_2 = (.int .i64 t34) ∧
 SpecH PP F_disk_Disk_Sync [(.pointer d1), (.string (⟨#[97]⟩ : ByteArray))] h5 (fun v_3 h6 => ∃ (t36 : Int), v_3 = (.int .i64 t36) ∧
 let h7 : Heap := Array.push h6 (.cells #[(.int .u8 9)] T_uint8 (0, 0))
 SpecH PP F_disk_Disk_Append [(.pointer d1), (.string (⟨#[97]⟩ : ByteArray)), (.slice (some ⟨Array.size h6, 0, none⟩) 1 1)] h7 (fun v_4 h8 => ∃ (t39 : Int), v_4 = (.int .i64 t39) ∧
 SpecH PP F_disk_Disk_SyncDir [(.pointer d1)] h8 (fun v_5 h9 => ∃ (t41 : Int), v_5 = (.int .i64 t41) ∧
 SpecH PP F_disk_Disk_Clone [(.pointer d1)] h9 (fun v_6 h10 => ∃ (t43 : OA), v_6 = (.pointer t43) ∧
 let t45 : Bool := (Option.isNone t43)
 br t45 (
 Q (.bool false) h10) (
 let h11 : Heap := Array.push h10 (.cells #[(.int .i64 0), (.int .i64 (-2))] T_int (0, 0))
 SpecH PP F_disk_Disk_Crash [(.pointer d1), (.slice (some ⟨Array.size h10, 0, none⟩) 2 2)] h11 (fun v_7 h12 => ∃ (t48 : Int), v_7 = (.int .i64 t48) ∧
 SpecH PP F_disk_Disk_Read [(.pointer d1), (.string (⟨#[97]⟩ : ByteArray))] h12 (fun v_8 h13 => ∃ (t51 : OA) (t51n t51c : Nat) (t51_1 : Int), v_8 = (.tuple #[(.slice t51 t51n t51c), (.int .i64 t51_1)]) ∧
 let h14 : Heap := Array.push h13 (.cells #[(.int .i64 0), (.int .i64 1)] T_int (0, 0))
 SpecH PP F_disk_Disk_Crash [(.pointer t43), (.slice (some ⟨Array.size h13, 0, none⟩) 2 2)] h14 (fun v_9 h15 => ∃ (t56 : Int), v_9 = (.int .i64 t56) ∧
 SpecH PP F_disk_Disk_Read [(.pointer t43), (.string (⟨#[97]⟩ : ByteArray))] h15 (fun v_10 h16 => ∃ (t59 : OA) (t59n t59c : Nat) (t59_1 : Int), v_10 = (.tuple #[(.slice t59 t59n t59c), (.int .i64 t59_1)]) ∧
 let t63 : Bool := (t28 == 0)
 br t63 (
 let t66 : Bool := (t31 == 0)
 br t66 (
 let t70 : Bool := (t34 == 93)
 br t70 (
 let t74 : Bool := (t36 == 0)
 br t74 (
 let t78 : Bool := (t39 == 0)
 br t78 (
 let t82 : Bool := (t41 == 0)
 br t82 (
 let t86 : Bool := (t48 == 0)
 br t86 (
 let t90 : Bool := (t51_1 == 0)
 br t90 (
 let t94 : Bool := (t56 == 0)
 br t94 (
 let t98 : Bool := (t59_1 == 0)
 J2 d1 t51 t51n t51c t59 t59n t59c t98 Q h16) (
 J2 d1 t51 t51n t51c t59 t59n t59c false Q h16)) (
 J2 d1 t51 t51n t51c t59 t59n t59c false Q h16)) (
 J2 d1 t51 t51n t51c t59 t59n t59c false Q h16)) (
 J2 d1 t51 t51n t51c t59 t59n t59c false Q h16)) (
 J2 d1 t51 t51n t51c t59 t59n t59c false Q h16)) (
 J2 d1 t51 t51n t51c t59 t59n t59c false Q h16)) (
 J2 d1 t51 t51n t51c t59 t59n t59c false Q h16)) (
 J2 d1 t51 t51n t51c t59 t59n t59c false Q h16)) (
 J2 d1 t51 t51n t51c t59 t59n t59c false Q h16))))))))))))))) : J1 d1 t26 Q h := by unfold J1; exact Jn.of_txt (an 29) (by kernel_rfl) H
theorem J2_of {d1 xl11 : OA} {xl11n xl11c : Nat} {m14 : OA} {m14n m14c : Nat} {ok16 : Bool} {Q : VP} {h : Heap} (H :
 br ok16 (
 let h1 : Heap := Array.push h (.cells #[(.int .u8 1), (.int .u8 2), (.int .u8 3), (.int .u8 0)] T_uint8 (0, 0))
 SpecH PP F_keep_Bytes [(.slice xl11 xl11n xl11c), (.slice (some ⟨Array.size h, 0, none⟩) 4 4)] h1 (fun v h2 => ∃ (t104 : Bool), v = (.bool t104) ∧
 br t104 (
 let h3 : Heap := Array.push h2 (.cells #[(.int .u8 1), (.int .u8 2), (.int .u8 3), (.int .u8 9)] T_uint8 (0, 0))
 SpecH PP F_keep_Bytes [(.slice m14 m14n m14c), (.slice (some ⟨Array.size h2, 0, none⟩) 4 4)] h3 (fun v_1 h4 => ∃ (t109 : Bool), v_1 = (.bool t109) ∧
 br t109 (
 SpecH PP F_disk_Disk_Steps [(.pointer d1)] h4 (fun v_2 h5 => ∃ (t113 : Int), v_2 = (.int .i64 t113) ∧
 let t114 : Bool := (t113 == 5)
 Q (.bool t114) h5)) (
 Q (.bool false) h4))) (
 Q (.bool false) h2))) (
 Q (.bool false) h)) : J2 d1 xl11 xl11n xl11c m14 m14n m14c ok16 Q h := by unfold J2; exact Jn.of_txt (an 131071) (by kernel_rfl) H
theorem door  {Q : VP} {h : Heap} (H :
 SpecH PP F_disk_New [(.int .i64 4)] h (fun v h1 => ∃ (t18 : OA) (t18_1 : Int), v = (.tuple #[(.pointer t18), (.int .i64 t18_1)]) ∧
 let t22 : Bool := (Option.isNone t18)
 br t22 (
 J1 t18 true Q h1) (
 let t25 : Bool := (t18_1 != 0)
 J1 t18 t25 Q h1))) : SpecH PP F_law09_awake [] h Q :=
   spec_of_txt (ann := ann) Try.func7 rfl rfl (by kernel_rfl) H
end law09_awake
/-! ### haversack/haversacklaw09.same: function 8 -/
namespace law09_same
def ann : Ann := (.seq 3 (.region [(List.range 1, 3)]) (.seq 35 (.region [(List.range 3, 35)]) (.seq 99 (.region [(List.range 3, 99)]) (.seq 67 (.seq 4398046511171 (.tree (.run [0, 1, 2, 3, 4, 5, 6, 7, 8, 9, 10, 11, 12, 14, 15, 16] (.alt 13 (.run [17, 18, 19, 20, 21, 22, 23, 24, 25, 26] .done) (.alt 17 (.run [13, 18, 19, 20, 21, 22, 23, 24, 25, 26] .done) .nil))) 4398046511171) (.join (.cond (.seq 16 (.region [(List.range 1, 16)]) (.exit 16)) .leaf))) (.seq 0 (.seq 195 (.region [(List.range 1, 195)]) (.block (.loop 195 (.seq 195 (.seq 70368744177859 (.region [(List.range 4, 70368744177859)]) (.cond .leaf (.exit 0))) (.seq 195 (.block (.seq 963 (.region [(List.range 11, 963)]) (.seq 4035 (.region [(List.range 11, 4035)]) (.seq 451 (.seq 37778931862957161710019 (.region [(List.range 9, 37778931862957161710019)]) (.join (.cond (.seq 16 (.region [(List.range 1, 16)]) (.exit 16)) .leaf))) (.region [(List.range 2, 195)]))))) (.region [(List.range 3, 195)])))))) (.seq 16 (.region [(List.range 1, 16)]) (.exit 16)))))))
noncomputable abbrev cd (n : Nat) : Code := sub (bodyOf Try.f8) (pth n)
abbrev an (n : Nat) : Ann := subA ann (pth n)
@[irreducible] def X0  : Fr := (mkFr 0 78 [])
@[irreducible] def Xret (t4 : Bool) : Fr := (mkFr 0 78 [(4, (.bool t4))])
@[irreducible] def K1 (Q : VP) : EP := seqK (fun fr h => ev PP true none (cd 31) (an 31) (fr.mask 67) (bodyK PP Try.f8 Q) h) (bodyK PP Try.f8 Q)
@[irreducible] def J1 (d0 r1 want6 : OA) (want6n want6c : Nat) (t42 : Bool) (Q : VP) (h : Heap) : Prop := Jn PP true (cd 61) (mkFr 0 78 [(0, (.pointer d0)), (1, (.pointer r1)), (6, (.slice want6 want6n want6c)), (42, (.bool t42))]) (K1 Q) h
@[irreducible] def K3 (Q : VP) : EP := seqK (fun fr h => ev PP true none (cd 63) (an 63) (fr.mask 0) (bodyK PP Try.f8 Q) h) (bodyK PP Try.f8 Q)
@[irreducible] def K2 (Q : VP) : EP := blockK 0 (K3 Q)
@[irreducible] def L1 (d0 r1 want6 : OA) (want6n want6c : Nat) (i7 : Int) (K : EP) (h : Heap) : Prop := Lp PP true (cd 500) (mkFr 0 78 [(0, (.pointer d0)), (1, (.pointer r1)), (6, (.slice want6 want6n want6c)), (7, (.int .i64 i7))]) K h
@[irreducible] def B1 (K : EP) : EP := seqK (fun fr h => Lp PP true (cd 500) (fr.mask 195) K h) K
@[irreducible] def K6 (K : EP) : EP := seqK (fun fr h => ev PP true none (cd 2003) (an 2003) (fr.mask 195) (B1 K) h) (B1 K)
@[irreducible] def K5 (K : EP) : EP := blockK 1 (K6 K)
@[irreducible] def K4 (K : EP) : EP := seqK (fun fr h => ev PP true none (cd 32039) (an 32039) (fr.mask 451) (K5 K) h) (K5 K)
@[irreducible] def J2 (d0 r1 want6 : OA) (want6n want6c : Nat) (i7 : Int) (b8 : OA) (b8n b8c : Nat) (t75 : Bool) (K : EP) (h : Heap) : Prop := Jn PP true (cd 64077) (mkFr 0 78 [(0, (.pointer d0)), (1, (.pointer r1)), (6, (.slice want6 want6n want6c)), (7, (.int .i64 i7)), (8, (.slice b8 b8n b8c)), (75, (.bool t75))]) (K4 K) h
theorem J1_of {d0 r1 want6 : OA} {want6n want6c : Nat} {t42 : Bool} {Q : VP} {h : Heap} (H :
 br t42 (
 Q (.bool false) h) (
 L1 d0 r1 want6 want6n want6c 0 (K2 Q) h)) : J1 d0 r1 want6 want6n want6c t42 Q h := by unfold J1; exact Jn.of_txt (an 61) (by kernel_rfl) H
theorem L1_of {d0 r1 want6 : OA} {want6n want6c : Nat} {i7 : Int} {K : EP} {h : Heap} (H :
 let t46 : Bool := decide (i7 < (want6n : Int))
 br t46 (
 hwp PP (Instr.indexAt T_sl_string (.slice want6 want6n want6c) (.int .i64 i7)) (fun v h1 => ∃ (t53 : Addr), v = (.pointer (some t53)) ∧
 ∃ (t54 : ByteArray), cellH h1 t53 = some (.string t54) ∧
 SpecH PP F_disk_Disk_Read [(.pointer d0), (.string t54)] h1 (fun v_1 h2 => ∃ (t55 : OA) (t55n t55c : Nat) (t55_1 : Int), v_1 = (.tuple #[(.slice t55 t55n t55c), (.int .i64 t55_1)]) ∧
 hwp PP (Instr.indexAt T_sl_string (.slice want6 want6n want6c) (.int .i64 i7)) (fun v_2 h3 => ∃ (t62 : Addr), v_2 = (.pointer (some t62)) ∧
 ∃ (t63 : ByteArray), cellH h3 t62 = some (.string t63) ∧
 SpecH PP F_ref09_Disk_Read [(.pointer r1), (.string t63)] h3 (fun v_3 h4 => ∃ (t64 : OA) (t64n t64c : Nat) (t64_1 : Int), v_3 = (.tuple #[(.slice t64 t64n t64c), (.int .i64 t64_1)]) ∧
 let t69 : Bool := (t55_1 != t64_1)
 br t69 (
 J2 d0 r1 want6 want6n want6c i7 t55 t55n t55c true K h4) (
 SpecH PP F_keep_Bytes [(.slice t55 t55n t55c), (.slice t64 t64n t64c)] h4 (fun v_4 h5 => ∃ (t73 : Bool), v_4 = (.bool t73) ∧
 let t74 : Bool := (!t73)
 J2 d0 r1 want6 want6n want6c i7 t55 t55n t55c t74 K h5)))) h2)) h) (
 K (.exit 0) (X0) h)) : L1 d0 r1 want6 want6n want6c i7 K h := by unfold L1; exact Lp.of_txt (an 500) 195 (by kernel_rfl) H
theorem L1_X0 {Q : VP}  {h : Heap} (H :
 Q (.bool true) h) : (K2 Q) (.exit 0) (X0 ) h := of_eq_txt (by kernel_rfl) H
theorem J2_of {d0 r1 want6 : OA} {want6n want6c : Nat} {i7 : Int} {b8 : OA} {b8n b8c : Nat} {t75 : Bool} {K : EP} {h : Heap} (H :
 br t75 (
 K .ret (Xret false) h) (
 SpecH PP F_keep_Spoil [(.slice b8 b8n b8c)] h (fun v h1 => v = (.tuple #[]) ∧
 let t48 : Int := IntKind.i64.wrap (i7 + 1)
 L1 d0 r1 want6 want6n want6c t48 K h1))) : J2 d0 r1 want6 want6n want6c i7 b8 b8n b8c t75 K h := by unfold J2; exact Jn.of_txt (an 64077) (by kernel_rfl) H
theorem L1_Xret {Q : VP} {t4 : Bool} {h : Heap} (H :
 Q (.bool t4) h) : (K2 Q) .ret (Xret t4) h := of_eq_txt (by kernel_rfl) H
theorem door {d0 r1 : OA} {Q : VP} {h : Heap} (H :
 SpecH PP F_disk_Disk_Names [(.pointer d0)] h (fun v h1 => ∃ (t13 : OA) (t13n t13c : Nat), v = (.slice t13 t13n t13c) ∧
 SpecH PP F_ref09_Disk_Names [(.pointer r1)] h1 (fun v_1 h2 => ∃ (t15 : OA) (t15n t15c : Nat), v_1 = (.slice t15 t15n t15c) ∧
 SpecH PP F_keep_Texts [(.slice t13 t13n t13c), (.slice t15 t15n t15c)] h2 (fun v_2 h3 => ∃ (t18 : Bool), v_2 = (.bool t18) ∧
 let t19 : Bool := (!t18)
 br t19 (
 (
 J1 d0 r1 t15 t15n t15c true Q h3) ∧
 (
 J1 d0 r1 t15 t15n t15c true Q h3) ∧
 True) (
 SpecH PP F_disk_Disk_Used [(.pointer d0)] h3 (fun v_3 h4 => ∃ (t22 : Int), v_3 = (.int .i64 t22) ∧
 SpecH PP F_ref09_Disk_Used [(.pointer r1)] h4 (fun v_4 h5 => ∃ (t24 : Int), v_4 = (.int .i64 t24) ∧
 let t25 : Bool := (t22 != t24)
 br t25 (
 (
 J1 d0 r1 t15 t15n t15c true Q h5) ∧
 (
 J1 d0 r1 t15 t15n t15c true Q h5) ∧
 True) (
 nilc r1 (fun t31 =>
 (
 SpecH PP F_disk_Disk_Steps [(.pointer d0)] h5 (fun v_8 h9 => ∃ (t29_1 : Int), v_8 = (.int .i64 t29_1) ∧
 ∃ (t33_1 : Int), cellH h9 (Addr.add t31 5) = some (.int .i64 t33_1) ∧
 let t34_1 : Bool := (t29_1 != t33_1)
 br t34_1 (
 J1 d0 r1 t15 t15n t15c true Q h9) (
 SpecH PP F_disk_Disk_Down [(.pointer d0)] h9 (fun v_9 h10 => ∃ (t38_1 : Bool), v_9 = (.bool t38_1) ∧
 SpecH PP F_ref09_Disk_Down [(.pointer r1)] h10 (fun v_10 h11 => ∃ (t40_1 : Bool), v_10 = (.bool t40_1) ∧
 let t41_1 : Bool := (!(t38_1 == t40_1))
 J1 d0 r1 t15 t15n t15c t41_1 Q h11))))) ∧
 (
 ∃ (t33 : Int), cellH h5 (Addr.add t31 5) = some (.int .i64 t33) ∧
 SpecH PP F_disk_Disk_Steps [(.pointer d0)] h5 (fun v_5 h6 => ∃ (t29 : Int), v_5 = (.int .i64 t29) ∧
 let t34 : Bool := (t29 != t33)
 br t34 (
 J1 d0 r1 t15 t15n t15c true Q h6) (
 SpecH PP F_disk_Disk_Down [(.pointer d0)] h6 (fun v_6 h7 => ∃ (t38 : Bool), v_6 = (.bool t38) ∧
 SpecH PP F_ref09_Disk_Down [(.pointer r1)] h7 (fun v_7 h8 => ∃ (t40 : Bool), v_7 = (.bool t40) ∧
 let t41 : Bool := (!(t38 == t40))
 J1 d0 r1 t15 t15n t15c t41 Q h8))))) ∧
 True))))))))) : SpecH PP F_law09_same [(.pointer d0), (.pointer r1)] h Q :=
   spec_of_txt (ann := ann) Try.func8 rfl rfl (by kernel_rfl) H
end law09_same
/-! ### haversack/haversackref09.New: function 9 -/
namespace ref09_New
def ann : Ann := (.seq 1 (.region [(List.range 1, 1)]) (.seq 4 (.region [(List.range 4, 4)]) (.exit 4)))
noncomputable abbrev cd (n : Nat) : Code := sub (bodyOf Try.f9) (pth n)
abbrev an (n : Nat) : Ann := subA ann (pth n)
theorem door {room0 : Int} {Q : VP} {h : Heap} (H :
 let t5 : Addr := ⟨Array.size h, 0, none⟩
 let h1 : Heap := Array.push h (.cells #[(.int .i64 room0), (.slice none 0 0), (.slice none 0 0), (.slice none 0 0), (.slice none 0 0), (.int .i64 0), (.int .i64 (-1))] T_haversackref09_Disk (0, 0))
 Q (.pointer (some t5)) h1) : SpecH PP F_ref09_New [(.int .i64 room0)] h Q :=
   spec_of_txt (ann := ann) Try.func9 rfl rfl (by kernel_rfl) H
end ref09_New
/-! ### haversack/haversacklaw09.large: function 10 -/
namespace law09_large
def ann : Ann := (.seq 1 (.region [(List.range 1, 1)]) (.seq 1 (.seq 129 (.region [(List.range 3, 129)]) (.cond (.seq 4 (.region [(List.range 1, 4)]) (.exit 4)) .leaf)) (.seq 0 (.seq 9 (.region [(List.range 1, 9)]) (.block (.loop 9 (.seq 9 (.seq 2057 (.region [(List.range 4, 2057)]) (.cond .leaf (.exit 0))) (.seq 9 (.block (.seq 25 (.region [(List.range 6, 25)]) (.seq 549755813897 (.region [(List.range 22, 549755813897)]) (.join (.cond (.seq 4 (.region [(List.range 1, 4)]) (.exit 4)) .leaf))))) (.region [(List.range 3, 9)])))))) (.seq 4 (.region [(List.range 1, 4)]) (.exit 4)))))
noncomputable abbrev cd (n : Nat) : Code := sub (bodyOf Try.f10) (pth n)
abbrev an (n : Nat) : Ann := subA ann (pth n)
@[irreducible] def X0  : Fr := (mkFr 0 40 [])
@[irreducible] def Xret (t2 : Bool) : Fr := (mkFr 0 40 [(2, (.bool t2))])
@[irreducible] def L1 (script0 : OA) (script0n script0c : Nat) (i3 : Int) (K : EP) (h : Heap) : Prop := Lp PP true (cd 116) (mkFr 0 40 [(0, (.slice script0 script0n script0c)), (3, (.int .i64 i3))]) K h
@[irreducible] def B1 (K : EP) : EP := seqK (fun fr h => Lp PP true (cd 116) (fr.mask 9) K h) K
@[irreducible] def K4 (K : EP) : EP := seqK (fun fr h => ev PP true none (cd 467) (an 467) (fr.mask 9) (B1 K) h) (B1 K)
@[irreducible] def K2 (K : EP) : EP := blockK 1 (K4 K)
@[irreducible] def J1 (script0 : OA) (script0n script0c : Nat) (i3 : Int) (t39 : Bool) (K : EP) (h : Heap) : Prop := Jn PP true (cd 3731) (mkFr 0 40 [(0, (.slice script0 script0n script0c)), (3, (.int .i64 i3)), (39, (.bool t39))]) (K2 K) h
@[irreducible] def K3 (Q : VP) : EP := seqK (fun fr h => ev PP true none (cd 15) (an 15) (fr.mask 0) (bodyK PP Try.f10 Q) h) (bodyK PP Try.f10 Q)
@[irreducible] def K1 (Q : VP) : EP := blockK 0 (K3 Q)
theorem L1_of {script0 : OA} {script0n script0c : Nat} {i3 : Int} {K : EP} {h : Heap} (H :
 let t11 : Bool := decide (i3 < (script0n : Int))
 br t11 (
 hwp PP (Instr.indexAt T_sl_haversacklaw09_Op (.slice script0 script0n script0c) (.int .i64 i3)) (fun v h1 => ∃ (t16 : Addr), v = (.pointer (some t16)) ∧
 ∃ (t17f0 : Int) (t17f1 t17f2 : ByteArray) (t17f3 : OA) (t17f3n t17f3c : Nat) (t17f4 : Int) (t17f5 : OA) (t17f5n t17f5c : Nat), rdCells h1 t16 0 [(.int .i64 t17f0), (.string t17f1), (.string t17f2), (.slice t17f3 t17f3n t17f3c), (.int .i64 t17f4), (.slice t17f5 t17f5n t17f5c)] ∧
 let o4 : Addr := ⟨Array.size h1, 0, none⟩
 let h2 : Heap := Array.push h1 (.cells #[(.int .i64 0), (.string (⟨#[]⟩ : ByteArray)), (.string (⟨#[]⟩ : ByteArray)), (.slice none 0 0), (.int .i64 0), (.slice none 0 0)] T_haversacklaw09_Op (0, 0))
 wrCells o4 0 [(.int .i64 t17f0), (.string t17f1), (.string t17f2), (.slice t17f3 t17f3n t17f3c), (.int .i64 t17f4), (.slice t17f5 t17f5n t17f5c)] (fun h3 =>
 ∃ (t19 : OA) (t19n t19c : Nat), cellH h3 (Addr.add o4 3) = some (.slice t19 t19n t19c) ∧
 let t21 : Bool := decide ((t19n : Int) > 65536)
 br t21 (
 J1 script0 script0n script0c i3 true K h3) (
 ∃ (t24 : OA) (t24n t24c : Nat), cellH h3 (Addr.add o4 5) = some (.slice t24 t24n t24c) ∧
 let t26 : Bool := decide ((t24n : Int) > 1000)
 br t26 (
 J1 script0 script0n script0c i3 true K h3) (
 ∃ (t30 : ByteArray), cellH h3 (Addr.add o4 1) = some (.string t30) ∧
 let t31 : Int := (ByteArray.size t30 : Int)
 let t32 : Bool := decide (t31 > 65536)
 br t32 (
 J1 script0 script0n script0c i3 true K h3) (
 ∃ (t36 : ByteArray), cellH h3 (Addr.add o4 2) = some (.string t36) ∧
 let t37 : Int := (ByteArray.size t36 : Int)
 let t38 : Bool := decide (t37 > 65536)
 J1 script0 script0n script0c i3 t38 K h3)))) h2) h) (
 K (.exit 0) (X0) h)) : L1 script0 script0n script0c i3 K h := by unfold L1; exact Lp.of_txt (an 116) 9 (by kernel_rfl) H
theorem L1_X0 {Q : VP}  {h : Heap} (H :
 Q (.bool false) h) : (K1 Q) (.exit 0) (X0 ) h := of_eq_txt (by kernel_rfl) H
theorem J1_of {script0 : OA} {script0n script0c : Nat} {i3 : Int} {t39 : Bool} {K : EP} {h : Heap} (H :
 br t39 (
 K .ret (Xret true) h) (
 let t13 : Int := IntKind.i64.wrap (i3 + 1)
 L1 script0 script0n script0c t13 K h)) : J1 script0 script0n script0c i3 t39 K h := by unfold J1; exact Jn.of_txt (an 3731) (by kernel_rfl) H
theorem L1_Xret {Q : VP} {t2 : Bool} {h : Heap} (H :
 Q (.bool t2) h) : (K1 Q) .ret (Xret t2) h := of_eq_txt (by kernel_rfl) H
theorem door {script0 : OA} {script0n script0c : Nat} {Q : VP} {h : Heap} (H :
 let t7 : Bool := decide ((script0n : Int) > 1000)
 br t7 (
 Q (.bool true) h) (
 L1 script0 script0n script0c 0 (K1 Q) h)) : SpecH PP F_law09_large [(.slice script0 script0n script0c)] h Q :=
   spec_of_txt (ann := ann) Try.func10 rfl rfl (by kernel_rfl) H
end law09_large
/-! ### (*haversack/disk.Disk).Clone: function 11 -/
namespace disk_Disk_Clone
def ann : Ann := (.seq 1 (.region [(List.range 1, 1)]) (.seq 1 (.seq 8193 (.region [(List.range 2, 8193)]) (.cond (.seq 4 (.region [(List.range 1, 4)]) (.exit 4)) .leaf)) (.seq 9 (.region [(List.range 5, 9)]) (.seq 25 (.region [(List.range 3, 25)]) (.seq 41 (.region [(List.range 2, 41)]) (.seq 41 (.region [(List.range 8, 41)]) (.seq 41 (.seq 268435497 (.region [(List.range 5, 268435497)]) (.block (.loop 268435497 (.seq 1342177321 (.region [(List.range 2, 1342177321)]) (.seq 268435497 (.cond .leaf (.exit 41)) (.block (.seq 268435689 (.region [(List.range 5, 268435689)]) (.tree (.run [0, 2, 3, 4] (.alt 1 (.run [5, 6] .done) (.alt 5 (.run [1, 6] .done) .nil))) 268435497)))))))) (.seq 41 (.seq 17592186044457 (.region [(List.range 5, 17592186044457)]) (.block (.loop 17592186044457 (.seq 87960930222121 (.region [(List.range 2, 87960930222121)]) (.seq 17592186044457 (.cond .leaf (.exit 41)) (.block (.seq 17592186045225 (.region [(List.range 5, 17592186045225)]) (.tree (.run [0, 2, 3, 4] (.alt 1 (.run [5, 6] .done) (.alt 5 (.run [1, 6] .done) .nil))) 17592186044457)))))))) (.seq 8 (.seq 4035225266123964456 (.region [(List.range 6, 4035225266123964456)]) (.block (.loop 4035225266123964456 (.seq 8646911284551352360 (.region [(List.range 1, 8646911284551352360)]) (.seq 4035225266123964456 (.cond .leaf (.exit 8)) (.seq 4035225266123964456 (.block (.seq 4035225266123966504 (.region [(List.range 4, 4035225266123966504)]) (.tree (.run [0, 2, 4, 6, 7, 8] (.alt 1 (.alt 3 (.alt 5 (.run [9, 10, 11, 12, 13, 14] .done) (.alt 9 (.run [5, 10, 11, 12, 13, 14] .done) .nil)) (.alt 5 (.alt 3 (.run [9, 10, 11, 12, 13, 14] .done) (.alt 9 (.run [3, 10, 11, 12, 13, 14] .done) .nil)) (.alt 9 (.run [3, 5, 10, 11, 12, 13, 14] .done) .nil))) (.alt 3 (.alt 1 (.alt 5 (.run [9, 10, 11, 12, 13, 14] .done) (.alt 9 (.run [5, 10, 11, 12, 13, 14] .done) .nil)) (.alt 5 (.alt 1 (.run [9, 10, 11, 12, 13, 14] .done) (.alt 9 (.run [1, 10, 11, 12, 13, 14] .done) .nil)) (.alt 9 (.run [1, 5, 10, 11, 12, 13, 14] .done) .nil))) (.alt 5 (.alt 1 (.alt 3 (.run [9, 10, 11, 12, 13, 14] .done) (.alt 9 (.run [3, 10, 11, 12, 13, 14] .done) .nil)) (.alt 3 (.alt 1 (.run [9, 10, 11, 12, 13, 14] .done) (.alt 9 (.run [1, 10, 11, 12, 13, 14] .done) .nil)) (.alt 9 (.run [1, 3, 10, 11, 12, 13, 14] .done) .nil))) (.alt 9 (.run [1, 3, 5, 10, 11, 12, 13, 14] .done) .nil))))) 4035225266123964456))) (.join (.region [(List.range 2, 4035225266123964456)])))))))) (.seq 4 (.region [(List.range 1, 4)]) (.exit 4)))))))))))
noncomputable abbrev cd (n : Nat) : Code := sub (bodyOf Try.f11) (pth n)
abbrev an (n : Nat) : Ann := subA ann (pth n)
@[irreducible] def X0 (d0 : OA) (x3 : Addr) (copied5 : Value) : Fr := (mkFr 0 80 [(0, (.pointer d0)), (3, (.pointer (some x3))), (5, copied5)])
@[irreducible] def X2 (d0 : OA) (x3 : Addr) (copied5 : Value) : Fr := (mkFr 0 80 [(0, (.pointer d0)), (3, (.pointer (some x3))), (5, copied5)])
@[irreducible] def X4 (x3 : Addr) : Fr := (mkFr 0 80 [(3, (.pointer (some x3)))])
@[irreducible] def L1 (d0 : OA) (x3 : Addr) (copied5 t28 : Value) (K : EP) (h : Heap) : Prop := Lp PP true (cd 2036) (mkFr 0 80 [(0, (.pointer d0)), (3, (.pointer (some x3))), (5, copied5), (28, t28)]) K h
@[irreducible] def B1 (K : EP) : EP := seqK (fun fr h => Lp PP true (cd 2036) (fr.mask 268435497) K h) K
@[irreducible] def K3 (Q : VP) : EP := seqK (fun fr h => ev PP true none (cd 255) (an 255) (fr.mask 41) (bodyK PP Try.f11 Q) h) (bodyK PP Try.f11 Q)
@[irreducible] def K1 (Q : VP) : EP := blockK 0 (K3 Q)
@[irreducible] def K4 (Q : VP) : EP := seqK (fun fr h => ev PP true none (cd 511) (an 511) (fr.mask 41) (bodyK PP Try.f11 Q) h) (bodyK PP Try.f11 Q)
@[irreducible] def K2 (Q : VP) : EP := blockK 2 (K4 Q)
@[irreducible] def L2 (d0 : OA) (x3 : Addr) (copied5 t44 : Value) (K : EP) (h : Heap) : Prop := Lp PP true (cd 4084) (mkFr 0 80 [(0, (.pointer d0)), (3, (.pointer (some x3))), (5, copied5), (44, t44)]) K h
@[irreducible] def B2 (K : EP) : EP := seqK (fun fr h => Lp PP true (cd 4084) (fr.mask 17592186044457) K h) K
@[irreducible] def K6 (Q : VP) : EP := seqK (fun fr h => ev PP true none (cd 1023) (an 1023) (fr.mask 8) (bodyK PP Try.f11 Q) h) (bodyK PP Try.f11 Q)
@[irreducible] def K5 (Q : VP) : EP := blockK 4 (K6 Q)
@[irreducible] def L3 (x3 : Addr) (copied5 : Value) (t59 : OA) (t59n t59c : Nat) (t60 t61 : Int) (K : EP) (h : Heap) : Prop := Lp PP true (cd 8180) (mkFr 0 80 [(3, (.pointer (some x3))), (5, copied5), (59, (.slice t59 t59n t59c)), (60, (.int .i64 t60)), (61, (.int .i64 t61))]) K h
@[irreducible] def B3 (K : EP) : EP := seqK (fun fr h => Lp PP true (cd 8180) (fr.mask 4035225266123964456) K h) K
@[irreducible] def J1 (x3 : Addr) (copied5 : Value) (t59 : OA) (t59n t59c : Nat) (t60 t61 : Int) (K : EP) (h : Heap) : Prop := Jn PP true (cd 65447) (mkFr 0 80 [(3, (.pointer (some x3))), (5, copied5), (59, (.slice t59 t59n t59c)), (60, (.int .i64 t60)), (61, (.int .i64 t61))]) (B3 K) h
theorem L1_of {d0 : OA} {x3 : Addr} {copied5 t28 : Value} {K : EP} {h : Heap} (H :
 hwp PP (Instr.next t28 false T_) (fun v h1 => ∃ (b : Bool) (r : List Value), v = .tuple ((.bool b :: r).toArray) ∧
 br b (
 hwp PP (Instr.entry t28) (fun v_1 h2 => ∃ (t31 t31_1 : Value), v_1 = (.tuple #[t31, t31_1]) ∧
 ∃ (t32 : ByteArray), t31 = (.string t32) ∧
 ∃ (t33 : OA), t31_1 = (.pointer t33) ∧
 (
 ∃ (t35_1 : ON), cellH h2 (Addr.add x3 1) = some (.map t35_1) ∧
 callV PP copied5 [(.pointer t33)] (fun v_3 h5 => ∃ (t39_1 : OA), v_3 = (.pointer t39_1) ∧
 hwp PP (Instr.mapUpdate T_disk_names (.map t35_1) (.string t32) (.pointer t39_1)) (fun _ h6 =>
 L1 d0 x3 copied5 t28 K h6) h5) h2) ∧
 (
 callV PP copied5 [(.pointer t33)] (fun v_2 h3 => ∃ (t39 : OA), v_2 = (.pointer t39) ∧
 ∃ (t35 : ON), cellH h3 (Addr.add x3 1) = some (.map t35) ∧
 hwp PP (Instr.mapUpdate T_disk_names (.map t35) (.string t32) (.pointer t39)) (fun _ h4 =>
 L1 d0 x3 copied5 t28 K h4) h3) h2) ∧
 True) h1) (
 K (.exit 0) (X0 d0 x3 copied5) h1)) h) : L1 d0 x3 copied5 t28 K h := by unfold L1; exact Lp.of_txt (an 2036) 268435497 (by kernel_rfl) H
theorem L1_X0 {Q : VP} {d0 : OA} {x3 : Addr} {copied5 : Value} {h : Heap} (H :
 nilc d0 (fun t41 =>
 ∃ (t43 : ON), cellH h (Addr.add t41 2) = some (.map t43) ∧
 hwp PP (Instr.range T_disk_names (.map t43)) (fun v h1 => ∃ (t44 : Value), v = t44 ∧
 L2 d0 x3 copied5 t44 (K2 Q) h1) h)) : (K1 Q) (.exit 0) (X0 d0 x3 copied5) h := of_eq_txt (by kernel_rfl) H
theorem L2_of {d0 : OA} {x3 : Addr} {copied5 t44 : Value} {K : EP} {h : Heap} (H :
 hwp PP (Instr.next t44 false T_) (fun v h1 => ∃ (b : Bool) (r : List Value), v = .tuple ((.bool b :: r).toArray) ∧
 br b (
 hwp PP (Instr.entry t44) (fun v_1 h2 => ∃ (t47 t47_1 : Value), v_1 = (.tuple #[t47, t47_1]) ∧
 ∃ (t48 : ByteArray), t47 = (.string t48) ∧
 ∃ (t49 : OA), t47_1 = (.pointer t49) ∧
 (
 ∃ (t51_1 : ON), cellH h2 (Addr.add x3 2) = some (.map t51_1) ∧
 callV PP copied5 [(.pointer t49)] (fun v_3 h5 => ∃ (t55_1 : OA), v_3 = (.pointer t55_1) ∧
 hwp PP (Instr.mapUpdate T_disk_names (.map t51_1) (.string t48) (.pointer t55_1)) (fun _ h6 =>
 L2 d0 x3 copied5 t44 K h6) h5) h2) ∧
 (
 callV PP copied5 [(.pointer t49)] (fun v_2 h3 => ∃ (t55 : OA), v_2 = (.pointer t55) ∧
 ∃ (t51 : ON), cellH h3 (Addr.add x3 2) = some (.map t51) ∧
 hwp PP (Instr.mapUpdate T_disk_names (.map t51) (.string t48) (.pointer t55)) (fun _ h4 =>
 L2 d0 x3 copied5 t44 K h4) h3) h2) ∧
 True) h1) (
 K (.exit 2) (X2 d0 x3 copied5) h1)) h) : L2 d0 x3 copied5 t44 K h := by unfold L2; exact Lp.of_txt (an 4084) 17592186044457 (by kernel_rfl) H
theorem L2_X2 {Q : VP} {d0 : OA} {x3 : Addr} {copied5 : Value} {h : Heap} (H :
 nilc d0 (fun t57 =>
 ∃ (t59 : OA) (t59n t59c : Nat), cellH h (Addr.add t57 3) = some (.slice t59 t59n t59c) ∧
 L3 x3 copied5 t59 t59n t59c (t59n : Int) 0 (K5 Q) h)) : (K2 Q) (.exit 2) (X2 d0 x3 copied5) h := of_eq_txt (by kernel_rfl) H
theorem L3_of {x3 : Addr} {copied5 : Value} {t59 : OA} {t59n t59c : Nat} {t60 t61 : Int} {K : EP} {h : Heap} (H :
 let t62 : Bool := decide (t61 < t60)
 br t62 (
 hwp PP (Instr.indexAt T_sl_disk_change (.slice t59 t59n t59c) (.int .i64 t61)) (fun v h1 => ∃ (t63 : Addr), v = (.pointer (some t63)) ∧
 ∃ (t64f0 t64f1 : ByteArray) (t64f2 : OA), rdCells h1 t63 0 [(.string t64f0), (.string t64f1), (.pointer t64f2)] ∧
 let c11 : Addr := ⟨Array.size h1, 0, none⟩
 let h2 : Heap := Array.push h1 (.cells #[(.string (⟨#[]⟩ : ByteArray)), (.string (⟨#[]⟩ : ByteArray)), (.pointer none)] T_disk_change (0, 0))
 wrCells c11 0 [(.string t64f0), (.string t64f1), (.pointer t64f2)] (fun h3 =>
 ∃ (t73 : OA), cellH h3 (Addr.add c11 2) = some (.pointer t73) ∧
 (
 ∃ (t66_9 : OA) (t66_9n t66_9c : Nat), cellH h3 (Addr.add x3 3) = some (.slice t66_9 t66_9n t66_9c) ∧
 (
 ∃ (t68_9 : ByteArray), cellH h3 c11 = some (.string t68_9) ∧
 (
 ∃ (t70_9 : ByteArray), cellH h3 (Addr.add c11 1) = some (.string t70_9) ∧
 callV PP copied5 [(.pointer t73)] (fun v_31 h64 => ∃ (t74_15 : OA), v_31 = (.pointer t74_15) ∧
 let h65 : Heap := Array.push h64 (.cells #[(.string t68_9), (.string t70_9), (.pointer t74_15)] T_disk_change (0, 0))
 hwp PP (Builtin.append_ #[T_sl_disk_change, T_sl_disk_change] T_sl_disk_change #[(.slice t66_9 t66_9n t66_9c), (.slice (some ⟨Array.size h64, 0, none⟩) 1 1)]) (fun v_32 h66 => ∃ (t77_15 : OA) (t77_15n t77_15c : Nat), v_32 = (.slice t77_15 t77_15n t77_15c) ∧
 wr (Addr.add x3 3) (.slice t77_15 t77_15n t77_15c) (fun h67 =>
 J1 x3 copied5 t59 t59n t59c t60 t61 K h67) h66) h65) h3) ∧
 (
 callV PP copied5 [(.pointer t73)] (fun v_29 h60 => ∃ (t74_14 : OA), v_29 = (.pointer t74_14) ∧
 ∃ (t70_8 : ByteArray), cellH h60 (Addr.add c11 1) = some (.string t70_8) ∧
 let h61 : Heap := Array.push h60 (.cells #[(.string t68_9), (.string t70_8), (.pointer t74_14)] T_disk_change (0, 0))
 hwp PP (Builtin.append_ #[T_sl_disk_change, T_sl_disk_change] T_sl_disk_change #[(.slice t66_9 t66_9n t66_9c), (.slice (some ⟨Array.size h60, 0, none⟩) 1 1)]) (fun v_30 h62 => ∃ (t77_14 : OA) (t77_14n t77_14c : Nat), v_30 = (.slice t77_14 t77_14n t77_14c) ∧
 wr (Addr.add x3 3) (.slice t77_14 t77_14n t77_14c) (fun h63 =>
 J1 x3 copied5 t59 t59n t59c t60 t61 K h63) h62) h61) h3) ∧
 True) ∧
 (
 ∃ (t70_7 : ByteArray), cellH h3 (Addr.add c11 1) = some (.string t70_7) ∧
 (
 ∃ (t68_8 : ByteArray), cellH h3 c11 = some (.string t68_8) ∧
 callV PP copied5 [(.pointer t73)] (fun v_27 h56 => ∃ (t74_13 : OA), v_27 = (.pointer t74_13) ∧
 let h57 : Heap := Array.push h56 (.cells #[(.string t68_8), (.string t70_7), (.pointer t74_13)] T_disk_change (0, 0))
 hwp PP (Builtin.append_ #[T_sl_disk_change, T_sl_disk_change] T_sl_disk_change #[(.slice t66_9 t66_9n t66_9c), (.slice (some ⟨Array.size h56, 0, none⟩) 1 1)]) (fun v_28 h58 => ∃ (t77_13 : OA) (t77_13n t77_13c : Nat), v_28 = (.slice t77_13 t77_13n t77_13c) ∧
 wr (Addr.add x3 3) (.slice t77_13 t77_13n t77_13c) (fun h59 =>
 J1 x3 copied5 t59 t59n t59c t60 t61 K h59) h58) h57) h3) ∧
 (
 callV PP copied5 [(.pointer t73)] (fun v_25 h52 => ∃ (t74_12 : OA), v_25 = (.pointer t74_12) ∧
 ∃ (t68_7 : ByteArray), cellH h52 c11 = some (.string t68_7) ∧
 let h53 : Heap := Array.push h52 (.cells #[(.string t68_7), (.string t70_7), (.pointer t74_12)] T_disk_change (0, 0))
 hwp PP (Builtin.append_ #[T_sl_disk_change, T_sl_disk_change] T_sl_disk_change #[(.slice t66_9 t66_9n t66_9c), (.slice (some ⟨Array.size h52, 0, none⟩) 1 1)]) (fun v_26 h54 => ∃ (t77_12 : OA) (t77_12n t77_12c : Nat), v_26 = (.slice t77_12 t77_12n t77_12c) ∧
 wr (Addr.add x3 3) (.slice t77_12 t77_12n t77_12c) (fun h55 =>
 J1 x3 copied5 t59 t59n t59c t60 t61 K h55) h54) h53) h3) ∧
 True) ∧
 (
 callV PP copied5 [(.pointer t73)] (fun v_23 h48 => ∃ (t74_11 : OA), v_23 = (.pointer t74_11) ∧
 ∃ (t68_6 : ByteArray), cellH h48 c11 = some (.string t68_6) ∧
 ∃ (t70_6 : ByteArray), cellH h48 (Addr.add c11 1) = some (.string t70_6) ∧
 let h49 : Heap := Array.push h48 (.cells #[(.string t68_6), (.string t70_6), (.pointer t74_11)] T_disk_change (0, 0))
 hwp PP (Builtin.append_ #[T_sl_disk_change, T_sl_disk_change] T_sl_disk_change #[(.slice t66_9 t66_9n t66_9c), (.slice (some ⟨Array.size h48, 0, none⟩) 1 1)]) (fun v_24 h50 => ∃ (t77_11 : OA) (t77_11n t77_11c : Nat), v_24 = (.slice t77_11 t77_11n t77_11c) ∧
 wr (Addr.add x3 3) (.slice t77_11 t77_11n t77_11c) (fun h51 =>
 J1 x3 copied5 t59 t59n t59c t60 t61 K h51) h50) h49) h3) ∧
 True) ∧
 (
 ∃ (t68_5 : ByteArray), cellH h3 c11 = some (.string t68_5) ∧
 (
 ∃ (t66_8 : OA) (t66_8n t66_8c : Nat), cellH h3 (Addr.add x3 3) = some (.slice t66_8 t66_8n t66_8c) ∧
 (
 ∃ (t70_5 : ByteArray), cellH h3 (Addr.add c11 1) = some (.string t70_5) ∧
 callV PP copied5 [(.pointer t73)] (fun v_21 h44 => ∃ (t74_10 : OA), v_21 = (.pointer t74_10) ∧
 let h45 : Heap := Array.push h44 (.cells #[(.string t68_5), (.string t70_5), (.pointer t74_10)] T_disk_change (0, 0))
 hwp PP (Builtin.append_ #[T_sl_disk_change, T_sl_disk_change] T_sl_disk_change #[(.slice t66_8 t66_8n t66_8c), (.slice (some ⟨Array.size h44, 0, none⟩) 1 1)]) (fun v_22 h46 => ∃ (t77_10 : OA) (t77_10n t77_10c : Nat), v_22 = (.slice t77_10 t77_10n t77_10c) ∧
 wr (Addr.add x3 3) (.slice t77_10 t77_10n t77_10c) (fun h47 =>
 J1 x3 copied5 t59 t59n t59c t60 t61 K h47) h46) h45) h3) ∧
 (
 callV PP copied5 [(.pointer t73)] (fun v_19 h40 => ∃ (t74_9 : OA), v_19 = (.pointer t74_9) ∧
 ∃ (t70_4 : ByteArray), cellH h40 (Addr.add c11 1) = some (.string t70_4) ∧
 let h41 : Heap := Array.push h40 (.cells #[(.string t68_5), (.string t70_4), (.pointer t74_9)] T_disk_change (0, 0))
 hwp PP (Builtin.append_ #[T_sl_disk_change, T_sl_disk_change] T_sl_disk_change #[(.slice t66_8 t66_8n t66_8c), (.slice (some ⟨Array.size h40, 0, none⟩) 1 1)]) (fun v_20 h42 => ∃ (t77_9 : OA) (t77_9n t77_9c : Nat), v_20 = (.slice t77_9 t77_9n t77_9c) ∧
 wr (Addr.add x3 3) (.slice t77_9 t77_9n t77_9c) (fun h43 =>
 J1 x3 copied5 t59 t59n t59c t60 t61 K h43) h42) h41) h3) ∧
 True) ∧
 (
 ∃ (t70_3 : ByteArray), cellH h3 (Addr.add c11 1) = some (.string t70_3) ∧
 (
 ∃ (t66_7 : OA) (t66_7n t66_7c : Nat), cellH h3 (Addr.add x3 3) = some (.slice t66_7 t66_7n t66_7c) ∧
 callV PP copied5 [(.pointer t73)] (fun v_17 h36 => ∃ (t74_8 : OA), v_17 = (.pointer t74_8) ∧
 let h37 : Heap := Array.push h36 (.cells #[(.string t68_5), (.string t70_3), (.pointer t74_8)] T_disk_change (0, 0))
 hwp PP (Builtin.append_ #[T_sl_disk_change, T_sl_disk_change] T_sl_disk_change #[(.slice t66_7 t66_7n t66_7c), (.slice (some ⟨Array.size h36, 0, none⟩) 1 1)]) (fun v_18 h38 => ∃ (t77_8 : OA) (t77_8n t77_8c : Nat), v_18 = (.slice t77_8 t77_8n t77_8c) ∧
 wr (Addr.add x3 3) (.slice t77_8 t77_8n t77_8c) (fun h39 =>
 J1 x3 copied5 t59 t59n t59c t60 t61 K h39) h38) h37) h3) ∧
 (
 callV PP copied5 [(.pointer t73)] (fun v_15 h32 => ∃ (t74_7 : OA), v_15 = (.pointer t74_7) ∧
 ∃ (t66_6 : OA) (t66_6n t66_6c : Nat), cellH h32 (Addr.add x3 3) = some (.slice t66_6 t66_6n t66_6c) ∧
 let h33 : Heap := Array.push h32 (.cells #[(.string t68_5), (.string t70_3), (.pointer t74_7)] T_disk_change (0, 0))
 hwp PP (Builtin.append_ #[T_sl_disk_change, T_sl_disk_change] T_sl_disk_change #[(.slice t66_6 t66_6n t66_6c), (.slice (some ⟨Array.size h32, 0, none⟩) 1 1)]) (fun v_16 h34 => ∃ (t77_7 : OA) (t77_7n t77_7c : Nat), v_16 = (.slice t77_7 t77_7n t77_7c) ∧
 wr (Addr.add x3 3) (.slice t77_7 t77_7n t77_7c) (fun h35 =>
 J1 x3 copied5 t59 t59n t59c t60 t61 K h35) h34) h33) h3) ∧
 True) ∧
 (
 callV PP copied5 [(.pointer t73)] (fun v_13 h28 => ∃ (t74_6 : OA), v_13 = (.pointer t74_6) ∧
 ∃ (t66_5 : OA) (t66_5n t66_5c : Nat), cellH h28 (Addr.add x3 3) = some (.slice t66_5 t66_5n t66_5c) ∧
 ∃ (t70_2 : ByteArray), cellH h28 (Addr.add c11 1) = some (.string t70_2) ∧
 let h29 : Heap := Array.push h28 (.cells #[(.string t68_5), (.string t70_2), (.pointer t74_6)] T_disk_change (0, 0))
 hwp PP (Builtin.append_ #[T_sl_disk_change, T_sl_disk_change] T_sl_disk_change #[(.slice t66_5 t66_5n t66_5c), (.slice (some ⟨Array.size h28, 0, none⟩) 1 1)]) (fun v_14 h30 => ∃ (t77_6 : OA) (t77_6n t77_6c : Nat), v_14 = (.slice t77_6 t77_6n t77_6c) ∧
 wr (Addr.add x3 3) (.slice t77_6 t77_6n t77_6c) (fun h31 =>
 J1 x3 copied5 t59 t59n t59c t60 t61 K h31) h30) h29) h3) ∧
 True) ∧
 (
 ∃ (t70_1 : ByteArray), cellH h3 (Addr.add c11 1) = some (.string t70_1) ∧
 (
 ∃ (t66_4 : OA) (t66_4n t66_4c : Nat), cellH h3 (Addr.add x3 3) = some (.slice t66_4 t66_4n t66_4c) ∧
 (
 ∃ (t68_4 : ByteArray), cellH h3 c11 = some (.string t68_4) ∧
 callV PP copied5 [(.pointer t73)] (fun v_11 h24 => ∃ (t74_5 : OA), v_11 = (.pointer t74_5) ∧
 let h25 : Heap := Array.push h24 (.cells #[(.string t68_4), (.string t70_1), (.pointer t74_5)] T_disk_change (0, 0))
 hwp PP (Builtin.append_ #[T_sl_disk_change, T_sl_disk_change] T_sl_disk_change #[(.slice t66_4 t66_4n t66_4c), (.slice (some ⟨Array.size h24, 0, none⟩) 1 1)]) (fun v_12 h26 => ∃ (t77_5 : OA) (t77_5n t77_5c : Nat), v_12 = (.slice t77_5 t77_5n t77_5c) ∧
 wr (Addr.add x3 3) (.slice t77_5 t77_5n t77_5c) (fun h27 =>
 J1 x3 copied5 t59 t59n t59c t60 t61 K h27) h26) h25) h3) ∧
 (
 callV PP copied5 [(.pointer t73)] (fun v_9 h20 => ∃ (t74_4 : OA), v_9 = (.pointer t74_4) ∧
 ∃ (t68_3 : ByteArray), cellH h20 c11 = some (.string t68_3) ∧
 let h21 : Heap := Array.push h20 (.cells #[(.string t68_3), (.string t70_1), (.pointer t74_4)] T_disk_change (0, 0))
 hwp PP (Builtin.append_ #[T_sl_disk_change, T_sl_disk_change] T_sl_disk_change #[(.slice t66_4 t66_4n t66_4c), (.slice (some ⟨Array.size h20, 0, none⟩) 1 1)]) (fun v_10 h22 => ∃ (t77_4 : OA) (t77_4n t77_4c : Nat), v_10 = (.slice t77_4 t77_4n t77_4c) ∧
 wr (Addr.add x3 3) (.slice t77_4 t77_4n t77_4c) (fun h23 =>
 J1 x3 copied5 t59 t59n t59c t60 t61 K h23) h22) h21) h3) ∧
 True) ∧
 (
 ∃ (t68_2 : ByteArray), cellH h3 c11 = some (.string t68_2) ∧
 (
 ∃ (t66_3 : OA) (t66_3n t66_3c : Nat), cellH h3 (Addr.add x3 3) = some (.slice t66_3 t66_3n t66_3c) ∧
 callV PP copied5 [(.pointer t73)] (fun v_7 h16 => ∃ (t74_3 : OA), v_7 = (.pointer t74_3) ∧
 let h17 : Heap := Array.push h16 (.cells #[(.string t68_2), (.string t70_1), (.pointer t74_3)] T_disk_change (0, 0))
 hwp PP (Builtin.append_ #[T_sl_disk_change, T_sl_disk_change] T_sl_disk_change #[(.slice t66_3 t66_3n t66_3c), (.slice (some ⟨Array.size h16, 0, none⟩) 1 1)]) (fun v_8 h18 => ∃ (t77_3 : OA) (t77_3n t77_3c : Nat), v_8 = (.slice t77_3 t77_3n t77_3c) ∧
 wr (Addr.add x3 3) (.slice t77_3 t77_3n t77_3c) (fun h19 =>
 J1 x3 copied5 t59 t59n t59c t60 t61 K h19) h18) h17) h3) ∧
 (
 callV PP copied5 [(.pointer t73)] (fun v_5 h12 => ∃ (t74_2 : OA), v_5 = (.pointer t74_2) ∧
 ∃ (t66_2 : OA) (t66_2n t66_2c : Nat), cellH h12 (Addr.add x3 3) = some (.slice t66_2 t66_2n t66_2c) ∧
 let h13 : Heap := Array.push h12 (.cells #[(.string t68_2), (.string t70_1), (.pointer t74_2)] T_disk_change (0, 0))
 hwp PP (Builtin.append_ #[T_sl_disk_change, T_sl_disk_change] T_sl_disk_change #[(.slice t66_2 t66_2n t66_2c), (.slice (some ⟨Array.size h12, 0, none⟩) 1 1)]) (fun v_6 h14 => ∃ (t77_2 : OA) (t77_2n t77_2c : Nat), v_6 = (.slice t77_2 t77_2n t77_2c) ∧
 wr (Addr.add x3 3) (.slice t77_2 t77_2n t77_2c) (fun h15 =>
 J1 x3 copied5 t59 t59n t59c t60 t61 K h15) h14) h13) h3) ∧
 True) ∧
 (
 callV PP copied5 [(.pointer t73)] (fun v_3 h8 => ∃ (t74_1 : OA), v_3 = (.pointer t74_1) ∧
 ∃ (t66_1 : OA) (t66_1n t66_1c : Nat), cellH h8 (Addr.add x3 3) = some (.slice t66_1 t66_1n t66_1c) ∧
 ∃ (t68_1 : ByteArray), cellH h8 c11 = some (.string t68_1) ∧
 let h9 : Heap := Array.push h8 (.cells #[(.string t68_1), (.string t70_1), (.pointer t74_1)] T_disk_change (0, 0))
 hwp PP (Builtin.append_ #[T_sl_disk_change, T_sl_disk_change] T_sl_disk_change #[(.slice t66_1 t66_1n t66_1c), (.slice (some ⟨Array.size h8, 0, none⟩) 1 1)]) (fun v_4 h10 => ∃ (t77_1 : OA) (t77_1n t77_1c : Nat), v_4 = (.slice t77_1 t77_1n t77_1c) ∧
 wr (Addr.add x3 3) (.slice t77_1 t77_1n t77_1c) (fun h11 =>
 J1 x3 copied5 t59 t59n t59c t60 t61 K h11) h10) h9) h3) ∧
 True) ∧
 (
 callV PP copied5 [(.pointer t73)] (fun v_1 h4 => ∃ (t74 : OA), v_1 = (.pointer t74) ∧
 ∃ (t66 : OA) (t66n t66c : Nat), cellH h4 (Addr.add x3 3) = some (.slice t66 t66n t66c) ∧
 ∃ (t68 : ByteArray), cellH h4 c11 = some (.string t68) ∧
 ∃ (t70 : ByteArray), cellH h4 (Addr.add c11 1) = some (.string t70) ∧
 let h5 : Heap := Array.push h4 (.cells #[(.string t68), (.string t70), (.pointer t74)] T_disk_change (0, 0))
 hwp PP (Builtin.append_ #[T_sl_disk_change, T_sl_disk_change] T_sl_disk_change #[(.slice t66 t66n t66c), (.slice (some ⟨Array.size h4, 0, none⟩) 1 1)]) (fun v_2 h6 => ∃ (t77 : OA) (t77n t77c : Nat), v_2 = (.slice t77 t77n t77c) ∧
 wr (Addr.add x3 3) (.slice t77 t77n t77c) (fun h7 =>
 J1 x3 copied5 t59 t59n t59c t60 t61 K h7) h6) h5) h3) ∧
 True) h2) h) (
 K (.exit 4) (X4 x3) h)) : L3 x3 copied5 t59 t59n t59c t60 t61 K h := by unfold L3; exact Lp.of_txt (an 8180) 4035225266123964456 (by kernel_rfl) H
theorem L3_X4 {Q : VP} {x3 : Addr} {h : Heap} (H :
 Q (.pointer (some x3)) h) : (K5 Q) (.exit 4) (X4 x3) h := of_eq_txt (by kernel_rfl) H
theorem J1_of {x3 : Addr} {copied5 : Value} {t59 : OA} {t59n t59c : Nat} {t60 t61 : Int} {K : EP} {h : Heap} (H :
 let t79 : Int := IntKind.i64.wrap (t61 + 1)
 L3 x3 copied5 t59 t59n t59c t60 t79 K h) : J1 x3 copied5 t59 t59n t59c t60 t61 K h := by unfold J1; exact Jn.of_txt (an 65447) (by kernel_rfl) H
theorem door {d0 : OA} {Q : VP} {h : Heap} (H :
 let t13 : Bool := (Option.isNone d0)
 br t13 (
 Q (.pointer none) h) (
 nilc d0 (fun t15 =>
 ∃ (t16f0 : Int) (t16f1 t16f2 : ON) (t16f3 : OA) (t16f3n t16f3c : Nat) (t16f4 : Int) (t16f5 : Bool) (t16f6 : Int), rdCells h t15 0 [(.int .i64 t16f0), (.map t16f1), (.map t16f2), (.slice t16f3 t16f3n t16f3c), (.int .i64 t16f4), (.bool t16f5), (.int .i64 t16f6)] ∧
 let x3 : Addr := ⟨Array.size h, 0, none⟩
 let h1 : Heap := Array.push h (.cells #[(.int .i64 0), (.map none), (.map none), (.slice none 0 0), (.int .i64 0), (.bool false), (.int .i64 0)] T_disk_Disk (0, 0))
 wrCells x3 0 [(.int .i64 t16f0), (.map t16f1), (.map t16f2), (.slice t16f3 t16f3n t16f3c), (.int .i64 t16f4), (.bool t16f5), (.int .i64 t16f6)] (fun h2 =>
 let h3 : Heap := Array.push h2 (.map #[] 0)
 let own4 : Addr := ⟨Array.size h3, 0, none⟩
 let h4 : Heap := Array.push h3 (.cells #[(.map none)] T_map_p_disk_file_p_disk_file (0, 0))
 wr own4 (.map (some (Array.size h2))) (fun h5 =>
 let h6 : Heap := Array.push h5 (.map #[] 0)
 let h7 : Heap := Array.push h6 (.map #[] 0)
 wr (Addr.add x3 1) (.map (some (Array.size h5))) (fun h8 =>
 wr (Addr.add x3 2) (.map (some (Array.size h6))) (fun h9 =>
 wr (Addr.add x3 3) (.slice none 0 0) (fun h10 =>
 nilc d0 (fun t25 =>
 ∃ (t27 : ON), cellH h10 (Addr.add t25 1) = some (.map t27) ∧
 hwp PP (Instr.range T_disk_names (.map t27)) (fun v h11 => ∃ (t28 : Value), v = t28 ∧
 L1 d0 x3 (.func (.func F_disk_Disk_Clone_1) #[] #[(.pointer (some own4))]) t28 (K1 Q) h11) h10)) h9) h8) h7) h4) h1))) : SpecH PP F_disk_Disk_Clone [(.pointer d0)] h Q :=
   spec_of_txt (ann := ann) Try.func11 rfl rfl (by kernel_rfl) H
end disk_Disk_Clone
/-! ### (*haversack/haversackref09.Disk).Clone: function 12 -/
namespace ref09_Disk_Clone
def ann : Ann := (.seq 1 (.region [(List.range 1, 1)]) (.seq 9 (.region [(List.range 5, 9)]) (.seq 9 (.region [(List.range 2, 9)]) (.seq 9 (.seq 25 (.region [(List.range 1, 25)]) (.block (.loop 25 (.seq 25 (.seq 65561 (.region [(List.range 7, 65561)]) (.cond .leaf (.exit 9))) (.seq 25 (.block (.region [(List.range 13, 25)])) (.region [(List.range 3, 25)])))))) (.seq 9 (.region [(List.range 7, 9)]) (.seq 9 (.region [(List.range 7, 9)]) (.seq 9 (.region [(List.range 2, 9)]) (.seq 8 (.seq 41 (.region [(List.range 1, 41)]) (.block (.loop 41 (.seq 41 (.seq 1125899906842665 (.region [(List.range 7, 1125899906842665)]) (.cond .leaf (.exit 8))) (.seq 41 (.block (.region [(List.range 13, 41)])) (.region [(List.range 3, 41)])))))) (.seq 4 (.region [(List.range 1, 4)]) (.exit 4))))))))))
noncomputable abbrev cd (n : Nat) : Code := sub (bodyOf Try.f12) (pth n)
abbrev an (n : Nat) : Ann := subA ann (pth n)
@[irreducible] def X0 (d0 : OA) (x3 : Addr) : Fr := (mkFr 0 65 [(0, (.pointer d0)), (3, (.pointer (some x3)))])
@[irreducible] def X2 (x3 : Addr) : Fr := (mkFr 0 65 [(3, (.pointer (some x3)))])
@[irreducible] def L1 (d0 : OA) (x3 : Addr) (i4 : Int) (K : EP) (h : Heap) : Prop := Lp PP true (cd 244) (mkFr 0 65 [(0, (.pointer d0)), (3, (.pointer (some x3))), (4, (.int .i64 i4))]) K h
@[irreducible] def B1 (K : EP) : EP := seqK (fun fr h => Lp PP true (cd 244) (fr.mask 25) K h) K
@[irreducible] def K3 (Q : VP) : EP := seqK (fun fr h => ev PP true none (cd 31) (an 31) (fr.mask 9) (bodyK PP Try.f12 Q) h) (bodyK PP Try.f12 Q)
@[irreducible] def K1 (Q : VP) : EP := blockK 0 (K3 Q)
@[irreducible] def K4 (Q : VP) : EP := seqK (fun fr h => ev PP true none (cd 511) (an 511) (fr.mask 8) (bodyK PP Try.f12 Q) h) (bodyK PP Try.f12 Q)
@[irreducible] def K2 (Q : VP) : EP := blockK 2 (K4 Q)
@[irreducible] def L2 (d0 : OA) (x3 : Addr) (i5 : Int) (K : EP) (h : Heap) : Prop := Lp PP true (cd 4084) (mkFr 0 65 [(0, (.pointer d0)), (3, (.pointer (some x3))), (5, (.int .i64 i5))]) K h
@[irreducible] def B2 (K : EP) : EP := seqK (fun fr h => Lp PP true (cd 4084) (fr.mask 41) K h) K
theorem L1_of {d0 : OA} {x3 : Addr} {i4 : Int} {K : EP} {h : Heap} (H :
 nilc d0 (fun t12 =>
 ∃ (t14 : OA) (t14n t14c : Nat), cellH h (Addr.add t12 1) = some (.slice t14 t14n t14c) ∧
 let t16 : Bool := decide (i4 < (t14n : Int))
 br t16 (
 ∃ (t20 : OA) (t20n t20c : Nat), cellH h (Addr.add x3 1) = some (.slice t20 t20n t20c) ∧
 nilc d0 (fun t22 =>
 ∃ (t24 : OA) (t24n t24c : Nat), cellH h (Addr.add t22 1) = some (.slice t24 t24n t24c) ∧
 hwp PP (Instr.indexAt T_sl_haversackref09_File (.slice t24 t24n t24c) (.int .i64 i4)) (fun v h1 => ∃ (t26 : Addr), v = (.pointer (some t26)) ∧
 ∃ (t27f0 : OA) (t27f0n t27f0c : Nat) (t27f1 : Int), rdCells h1 t26 0 [(.slice t27f0 t27f0n t27f0c), (.int .i64 t27f1)] ∧
 let h2 : Heap := Array.push h1 (.cells #[(.slice t27f0 t27f0n t27f0c), (.int .i64 t27f1)] T_haversackref09_File (0, 0))
 hwp PP (Builtin.append_ #[T_sl_haversackref09_File, T_sl_haversackref09_File] T_sl_haversackref09_File #[(.slice t20 t20n t20c), (.slice (some ⟨Array.size h1, 0, none⟩) 1 1)]) (fun v_1 h3 => ∃ (t29 : OA) (t29n t29c : Nat), v_1 = (.slice t29 t29n t29c) ∧
 wr (Addr.add x3 1) (.slice t29 t29n t29c) (fun h4 =>
 let t18 : Int := IntKind.i64.wrap (i4 + 1)
 L1 d0 x3 t18 K h4) h3) h2) h)) (
 K (.exit 0) (X0 d0 x3) h))) : L1 d0 x3 i4 K h := by unfold L1; exact Lp.of_txt (an 244) 25 (by kernel_rfl) H
theorem L1_X0 {Q : VP} {d0 : OA} {x3 : Addr} {h : Heap} (H :
 nilc d0 (fun t32 =>
 ∃ (t34 : OA) (t34n t34c : Nat), cellH h (Addr.add t32 2) = some (.slice t34 t34n t34c) ∧
 SpecH PP F_ref09_without [(.slice t34 t34n t34c), (.string (⟨#[]⟩ : ByteArray))] h (fun v h1 => ∃ (t35 : OA) (t35n t35c : Nat), v = (.slice t35 t35n t35c) ∧
 wr (Addr.add x3 2) (.slice t35 t35n t35c) (fun h2 =>
 nilc d0 (fun t38 =>
 ∃ (t40 : OA) (t40n t40c : Nat), cellH h2 (Addr.add t38 3) = some (.slice t40 t40n t40c) ∧
 SpecH PP F_ref09_without [(.slice t40 t40n t40c), (.string (⟨#[]⟩ : ByteArray))] h2 (fun v_1 h3 => ∃ (t41 : OA) (t41n t41c : Nat), v_1 = (.slice t41 t41n t41c) ∧
 wr (Addr.add x3 3) (.slice t41 t41n t41c) (fun h4 =>
 wr (Addr.add x3 4) (.slice none 0 0) (fun h5 =>
 L2 d0 x3 0 (K2 Q) h5) h4) h3))) h1))) : (K1 Q) (.exit 0) (X0 d0 x3) h := of_eq_txt (by kernel_rfl) H
theorem L2_of {d0 : OA} {x3 : Addr} {i5 : Int} {K : EP} {h : Heap} (H :
 nilc d0 (fun t46 =>
 ∃ (t48 : OA) (t48n t48c : Nat), cellH h (Addr.add t46 4) = some (.slice t48 t48n t48c) ∧
 let t50 : Bool := decide (i5 < (t48n : Int))
 br t50 (
 ∃ (t54 : OA) (t54n t54c : Nat), cellH h (Addr.add x3 4) = some (.slice t54 t54n t54c) ∧
 nilc d0 (fun t56 =>
 ∃ (t58 : OA) (t58n t58c : Nat), cellH h (Addr.add t56 4) = some (.slice t58 t58n t58c) ∧
 hwp PP (Instr.indexAt T_sl_haversackref09_Change (.slice t58 t58n t58c) (.int .i64 i5)) (fun v h1 => ∃ (t60 : Addr), v = (.pointer (some t60)) ∧
 ∃ (t61f0 : Int) (t61f1 t61f2 : ByteArray) (t61f3 : Int), rdCells h1 t60 0 [(.int .i64 t61f0), (.string t61f1), (.string t61f2), (.int .i64 t61f3)] ∧
 let h2 : Heap := Array.push h1 (.cells #[(.int .i64 t61f0), (.string t61f1), (.string t61f2), (.int .i64 t61f3)] T_haversackref09_Change (0, 0))
 hwp PP (Builtin.append_ #[T_sl_haversackref09_Change, T_sl_haversackref09_Change] T_sl_haversackref09_Change #[(.slice t54 t54n t54c), (.slice (some ⟨Array.size h1, 0, none⟩) 1 1)]) (fun v_1 h3 => ∃ (t63 : OA) (t63n t63c : Nat), v_1 = (.slice t63 t63n t63c) ∧
 wr (Addr.add x3 4) (.slice t63 t63n t63c) (fun h4 =>
 let t52 : Int := IntKind.i64.wrap (i5 + 1)
 L2 d0 x3 t52 K h4) h3) h2) h)) (
 K (.exit 2) (X2 x3) h))) : L2 d0 x3 i5 K h := by unfold L2; exact Lp.of_txt (an 4084) 41 (by kernel_rfl) H
theorem L2_X2 {Q : VP} {x3 : Addr} {h : Heap} (H :
 Q (.pointer (some x3)) h) : (K2 Q) (.exit 2) (X2 x3) h := of_eq_txt (by kernel_rfl) H
theorem door {d0 : OA} {Q : VP} {h : Heap} (H :
 nilc d0 (fun t7 =>
 ∃ (t8f0 : Int) (t8f1 : OA) (t8f1n t8f1c : Nat) (t8f2 : OA) (t8f2n t8f2c : Nat) (t8f3 : OA) (t8f3n t8f3c : Nat) (t8f4 : OA) (t8f4n t8f4c : Nat) (t8f5 t8f6 : Int), rdCells h t7 0 [(.int .i64 t8f0), (.slice t8f1 t8f1n t8f1c), (.slice t8f2 t8f2n t8f2c), (.slice t8f3 t8f3n t8f3c), (.slice t8f4 t8f4n t8f4c), (.int .i64 t8f5), (.int .i64 t8f6)] ∧
 let x3 : Addr := ⟨Array.size h, 0, none⟩
 let h1 : Heap := Array.push h (.cells #[(.int .i64 0), (.slice none 0 0), (.slice none 0 0), (.slice none 0 0), (.slice none 0 0), (.int .i64 0), (.int .i64 0)] T_haversackref09_Disk (0, 0))
 wrCells x3 0 [(.int .i64 t8f0), (.slice t8f1 t8f1n t8f1c), (.slice t8f2 t8f2n t8f2c), (.slice t8f3 t8f3n t8f3c), (.slice t8f4 t8f4n t8f4c), (.int .i64 t8f5), (.int .i64 t8f6)] (fun h2 =>
 wr (Addr.add x3 1) (.slice none 0 0) (fun h3 =>
 L1 d0 x3 0 (K1 Q) h3) h2) h1)) : SpecH PP F_ref09_Disk_Clone [(.pointer d0)] h Q :=
   spec_of_txt (ann := ann) Try.func12 rfl rfl (by kernel_rfl) H
end ref09_Disk_Clone
/-! ### haversack/haversacklaw09.step: function 13 -/
namespace law09_step
def ann : Ann := (.seq 35 (.region [(List.range 2, 35)]) (.seq 0 (.seq 16419 (.region [(List.range 2, 16419)]) (.block (.seq 49187 (.region [(List.range 2, 49187)]) (.cond (.seq 64 (.tree (.run [0, 1, 2, 4, 5] (.alt 3 (.run [6, 7, 8, 9] .done) (.alt 6 (.run [3, 7, 8, 9] .done) .nil))) 64) (.exit 64)) (.seq 67125283 (.region [(List.range 2, 67125283)]) (.cond (.seq 163 (.region [(List.range 4, 163)]) (.seq 418 (.region [(List.range 6, 418)]) (.seq 64 (.region [(List.range 15, 64)]) (.exit 64)))) (.seq 1125899906859043 (.region [(List.range 2, 1125899906859043)]) (.cond (.seq 64 (.tree (.run [0, 1, 2, 4, 5] (.alt 3 (.run [6, 7, 8, 9] .done) (.alt 6 (.run [3, 7, 8, 9] .done) .nil))) 64) (.exit 64)) (.seq 2305843009213710371 (.region [(List.range 2, 2305843009213710371)]) (.cond (.seq 64 (.tree (.run [0, 1, 2, 3, 4, 6, 7, 9] (.alt 5 (.run [8, 10, 11, 12, 13] .done) (.alt 8 (.alt 5 (.run [10, 11, 12, 13] .done) (.alt 10 (.run [5, 11, 12, 13] .done) .nil)) (.alt 10 (.alt 5 (.run [8, 11, 12, 13] .done) (.alt 8 (.run [5, 11, 12, 13] .done) .nil)) .nil)))) 64) (.exit 64)) (.seq 75557863725914323435555 (.region [(List.range 2, 75557863725914323435555)]) (.cond (.seq 64 (.tree (.run [0, 1, 2, 4, 5] (.alt 3 (.run [6, 7, 8, 9] .done) (.alt 6 (.run [3, 7, 8, 9] .done) .nil))) 64) (.exit 64)) (.seq 154742504910672534362406947 (.region [(List.range 2, 154742504910672534362406947)]) (.cond (.seq 64 (.region [(List.range 6, 64)]) (.exit 64)) (.seq 19807040628566084398386004003 (.region [(List.range 2, 19807040628566084398386004003)]) (.cond (.seq 1570 (.region [(List.range 9, 1570)]) (.seq 7680 (.region [(List.range 9, 7680)]) (.seq 64 (.region [(List.range 9, 64)]) (.exit 64)))) (.seq 332306998946228968225951765070102563 (.region [(List.range 2, 332306998946228968225951765070102563)]) (.cond (.seq 64 (.tree (.run [0, 1, 2, 4, 5] (.alt 3 (.run [6, 7, 8, 9] .done) (.alt 6 (.run [3, 7, 8, 9] .done) .nil))) 64) (.exit 64)) (.seq 680564733841876926926749214863536422947 (.region [(List.range 2, 680564733841876926926749214863536422947)]) (.cond (.seq 33 (.region [(List.range 4, 33)]) (.seq 64 (.region [(List.range 6, 64)]) (.exit 64))) .leaf)))))))))))))))))))) (.seq 64 (.region [(List.range 1, 64)]) (.exit 64))))
noncomputable abbrev cd (n : Nat) : Code := sub (bodyOf Try.f13) (pth n)
abbrev an (n : Nat) : Ann := subA ann (pth n)
theorem door {d0 r1 : OA} {o2f0 : Int} {o2f1 o2f2 : ByteArray} {o2f3 : OA} {o2f3n o2f3c : Nat} {o2f4 : Int} {o2f5 : OA} {o2f5n o2f5c : Nat} {Q : VP} {h : Heap} (H :
 let o5 : Addr := ⟨Array.size h, 0, none⟩
 let h1 : Heap := Array.push h (.cells #[(.int .i64 o2f0), (.string o2f1), (.string o2f2), (.slice o2f3 o2f3n o2f3c), (.int .i64 o2f4), (.slice o2f5 o2f5n o2f5c)] T_haversacklaw09_Op (0, 0))
 ∃ (t14 : Int), cellH h1 o5 = some (.int .i64 t14) ∧
 let t16 : Bool := (t14 == 1)
 br t16 (
 ∃ (t19 : ByteArray), cellH h1 (Addr.add o5 1) = some (.string t19) ∧
 (
 SpecH PP F_disk_Disk_Create [(.pointer d0), (.string t19)] h1 (fun v_2 h4 => ∃ (t20_1 : Int), v_2 = (.int .i64 t20_1) ∧
 ∃ (t23_1 : ByteArray), cellH h4 (Addr.add o5 1) = some (.string t23_1) ∧
 SpecH PP F_ref09_Disk_Create [(.pointer r1), (.string t23_1)] h4 (fun v_3 h5 => ∃ (t24_1 : Int), v_3 = (.int .i64 t24_1) ∧
 let t25_1 : Bool := (t20_1 == t24_1)
 Q (.bool t25_1) h5))) ∧
 (
 ∃ (t23 : ByteArray), cellH h1 (Addr.add o5 1) = some (.string t23) ∧
 SpecH PP F_disk_Disk_Create [(.pointer d0), (.string t19)] h1 (fun v h2 => ∃ (t20 : Int), v = (.int .i64 t20) ∧
 SpecH PP F_ref09_Disk_Create [(.pointer r1), (.string t23)] h2 (fun v_1 h3 => ∃ (t24 : Int), v_1 = (.int .i64 t24) ∧
 let t25 : Bool := (t20 == t24)
 Q (.bool t25) h3))) ∧
 True) (
 let t27 : Bool := (t14 == 2)
 br t27 (
 ∃ (t29 : OA) (t29n t29c : Nat), cellH h1 (Addr.add o5 3) = some (.slice t29 t29n t29c) ∧
 SpecH PP F_keep_Lend [(.slice t29 t29n t29c)] h1 (fun v_4 h6 => ∃ (t30 : OA) (t30n t30c : Nat), v_4 = (.slice t30 t30n t30c) ∧
 ∃ (t33 : ByteArray), cellH h6 (Addr.add o5 1) = some (.string t33) ∧
 SpecH PP F_disk_Disk_Append [(.pointer d0), (.string t33), (.slice t30 t30n t30c)] h6 (fun v_5 h7 => ∃ (t35 : Int), v_5 = (.int .i64 t35) ∧
 ∃ (t38 : OA) (t38n t38c : Nat), cellH h7 (Addr.add o5 3) = some (.slice t38 t38n t38c) ∧
 SpecH PP F_keep_Back [(.slice t30 t30n t30c), (.slice t38 t38n t38c)] h7 (fun v_6 h8 => ∃ (t39 : Bool), v_6 = (.bool t39) ∧
 br t39 (
 ∃ (t44 : ByteArray), cellH h8 (Addr.add o5 1) = some (.string t44) ∧
 ∃ (t46 : OA) (t46n t46c : Nat), cellH h8 (Addr.add o5 3) = some (.slice t46 t46n t46c) ∧
 SpecH PP F_ref09_Disk_Append [(.pointer r1), (.string t44), (.slice t46 t46n t46c)] h8 (fun v_7 h9 => ∃ (t47 : Int), v_7 = (.int .i64 t47) ∧
 let t48 : Bool := (t35 == t47)
 Q (.bool t48) h9)) (
 Q (.bool false) h8))))) (
 let t51 : Bool := (t14 == 3)
 br t51 (
 ∃ (t54 : ByteArray), cellH h1 (Addr.add o5 1) = some (.string t54) ∧
 (
 SpecH PP F_disk_Disk_Sync [(.pointer d0), (.string t54)] h1 (fun v_10 h12 => ∃ (t55_1 : Int), v_10 = (.int .i64 t55_1) ∧
 ∃ (t58_1 : ByteArray), cellH h12 (Addr.add o5 1) = some (.string t58_1) ∧
 SpecH PP F_ref09_Disk_Sync [(.pointer r1), (.string t58_1)] h12 (fun v_11 h13 => ∃ (t59_1 : Int), v_11 = (.int .i64 t59_1) ∧
 let t60_1 : Bool := (t55_1 == t59_1)
 Q (.bool t60_1) h13))) ∧
 (
 ∃ (t58 : ByteArray), cellH h1 (Addr.add o5 1) = some (.string t58) ∧
 SpecH PP F_disk_Disk_Sync [(.pointer d0), (.string t54)] h1 (fun v_8 h10 => ∃ (t55 : Int), v_8 = (.int .i64 t55) ∧
 SpecH PP F_ref09_Disk_Sync [(.pointer r1), (.string t58)] h10 (fun v_9 h11 => ∃ (t59 : Int), v_9 = (.int .i64 t59) ∧
 let t60 : Bool := (t55 == t59)
 Q (.bool t60) h11))) ∧
 True) (
 let t62 : Bool := (t14 == 4)
 br t62 (
 ∃ (t65 : ByteArray), cellH h1 (Addr.add o5 1) = some (.string t65) ∧
 ∃ (t67 : ByteArray), cellH h1 (Addr.add o5 2) = some (.string t67) ∧
 (
 SpecH PP F_disk_Disk_Rename [(.pointer d0), (.string t65), (.string t67)] h1 (fun v_20 h22 => ∃ (t68_4 : Int), v_20 = (.int .i64 t68_4) ∧
 ∃ (t71_3 : ByteArray), cellH h22 (Addr.add o5 1) = some (.string t71_3) ∧
 ∃ (t73_3 : ByteArray), cellH h22 (Addr.add o5 2) = some (.string t73_3) ∧
 SpecH PP F_ref09_Disk_Rename [(.pointer r1), (.string t71_3), (.string t73_3)] h22 (fun v_21 h23 => ∃ (t74_4 : Int), v_21 = (.int .i64 t74_4) ∧
 let t75_4 : Bool := (t68_4 == t74_4)
 Q (.bool t75_4) h23))) ∧
 (
 ∃ (t71_2 : ByteArray), cellH h1 (Addr.add o5 1) = some (.string t71_2) ∧
 (
 SpecH PP F_disk_Disk_Rename [(.pointer d0), (.string t65), (.string t67)] h1 (fun v_18 h20 => ∃ (t68_3 : Int), v_18 = (.int .i64 t68_3) ∧
 ∃ (t73_2 : ByteArray), cellH h20 (Addr.add o5 2) = some (.string t73_2) ∧
 SpecH PP F_ref09_Disk_Rename [(.pointer r1), (.string t71_2), (.string t73_2)] h20 (fun v_19 h21 => ∃ (t74_3 : Int), v_19 = (.int .i64 t74_3) ∧
 let t75_3 : Bool := (t68_3 == t74_3)
 Q (.bool t75_3) h21))) ∧
 (
 ∃ (t73_1 : ByteArray), cellH h1 (Addr.add o5 2) = some (.string t73_1) ∧
 SpecH PP F_disk_Disk_Rename [(.pointer d0), (.string t65), (.string t67)] h1 (fun v_16 h18 => ∃ (t68_2 : Int), v_16 = (.int .i64 t68_2) ∧
 SpecH PP F_ref09_Disk_Rename [(.pointer r1), (.string t71_2), (.string t73_1)] h18 (fun v_17 h19 => ∃ (t74_2 : Int), v_17 = (.int .i64 t74_2) ∧
 let t75_2 : Bool := (t68_2 == t74_2)
 Q (.bool t75_2) h19))) ∧
 True) ∧
 (
 ∃ (t73 : ByteArray), cellH h1 (Addr.add o5 2) = some (.string t73) ∧
 (
 SpecH PP F_disk_Disk_Rename [(.pointer d0), (.string t65), (.string t67)] h1 (fun v_14 h16 => ∃ (t68_1 : Int), v_14 = (.int .i64 t68_1) ∧
 ∃ (t71_1 : ByteArray), cellH h16 (Addr.add o5 1) = some (.string t71_1) ∧
 SpecH PP F_ref09_Disk_Rename [(.pointer r1), (.string t71_1), (.string t73)] h16 (fun v_15 h17 => ∃ (t74_1 : Int), v_15 = (.int .i64 t74_1) ∧
 let t75_1 : Bool := (t68_1 == t74_1)
 Q (.bool t75_1) h17))) ∧
 (
 ∃ (t71 : ByteArray), cellH h1 (Addr.add o5 1) = some (.string t71) ∧
 SpecH PP F_disk_Disk_Rename [(.pointer d0), (.string t65), (.string t67)] h1 (fun v_12 h14 => ∃ (t68 : Int), v_12 = (.int .i64 t68) ∧
 SpecH PP F_ref09_Disk_Rename [(.pointer r1), (.string t71), (.string t73)] h14 (fun v_13 h15 => ∃ (t74 : Int), v_13 = (.int .i64 t74) ∧
 let t75 : Bool := (t68 == t74)
 Q (.bool t75) h15))) ∧
 True) ∧
 True) (
 let t77 : Bool := (t14 == 5)
 br t77 (
 ∃ (t80 : ByteArray), cellH h1 (Addr.add o5 1) = some (.string t80) ∧
 (
 SpecH PP F_disk_Disk_Remove [(.pointer d0), (.string t80)] h1 (fun v_24 h26 => ∃ (t81_1 : Int), v_24 = (.int .i64 t81_1) ∧
 ∃ (t84_1 : ByteArray), cellH h26 (Addr.add o5 1) = some (.string t84_1) ∧
 SpecH PP F_ref09_Disk_Remove [(.pointer r1), (.string t84_1)] h26 (fun v_25 h27 => ∃ (t85_1 : Int), v_25 = (.int .i64 t85_1) ∧
 let t86_1 : Bool := (t81_1 == t85_1)
 Q (.bool t86_1) h27))) ∧
 (
 ∃ (t84 : ByteArray), cellH h1 (Addr.add o5 1) = some (.string t84) ∧
 SpecH PP F_disk_Disk_Remove [(.pointer d0), (.string t80)] h1 (fun v_22 h24 => ∃ (t81 : Int), v_22 = (.int .i64 t81) ∧
 SpecH PP F_ref09_Disk_Remove [(.pointer r1), (.string t84)] h24 (fun v_23 h25 => ∃ (t85 : Int), v_23 = (.int .i64 t85) ∧
 let t86 : Bool := (t81 == t85)
 Q (.bool t86) h25))) ∧
 True) (
 let t88 : Bool := (t14 == 6)
 br t88 (
 SpecH PP F_disk_Disk_SyncDir [(.pointer d0)] h1 (fun v_26 h28 => ∃ (t90 : Int), v_26 = (.int .i64 t90) ∧
 SpecH PP F_ref09_Disk_SyncDir [(.pointer r1)] h28 (fun v_27 h29 => ∃ (t92 : Int), v_27 = (.int .i64 t92) ∧
 let t93 : Bool := (t90 == t92)
 Q (.bool t93) h29))) (
 let t95 : Bool := (t14 == 7)
 br t95 (
 ∃ (t99 : ByteArray), cellH h1 (Addr.add o5 1) = some (.string t99) ∧
 SpecH PP F_disk_Disk_Read [(.pointer d0), (.string t99)] h1 (fun v_28 h30 => ∃ (t100 : OA) (t100n t100c : Nat) (t100_1 : Int), v_28 = (.tuple #[(.slice t100 t100n t100c), (.int .i64 t100_1)]) ∧
 ∃ (t106 : ByteArray), cellH h30 (Addr.add o5 1) = some (.string t106) ∧
 SpecH PP F_ref09_Disk_Read [(.pointer r1), (.string t106)] h30 (fun v_29 h31 => ∃ (t107 : OA) (t107n t107c : Nat) (t107_1 : Int), v_29 = (.tuple #[(.slice t107 t107n t107c), (.int .i64 t107_1)]) ∧
 let t112 : Bool := (t100_1 == t107_1)
 br t112 (
 SpecH PP F_keep_Bytes [(.slice t100 t100n t100c), (.slice t107 t107n t107c)] h31 (fun v_30 h32 => ∃ (t116 : Bool), v_30 = (.bool t116) ∧
 Q (.bool t116) h32)) (
 Q (.bool false) h31)))) (
 let t119 : Bool := (t14 == 8)
 br t119 (
 ∃ (t122 : Int), cellH h1 (Addr.add o5 4) = some (.int .i64 t122) ∧
 (
 SpecH PP F_disk_Disk_Stop [(.pointer d0), (.int .i64 t122)] h1 (fun v_33 h35 => ∃ (t123_1 : Int), v_33 = (.int .i64 t123_1) ∧
 ∃ (t126_1 : Int), cellH h35 (Addr.add o5 4) = some (.int .i64 t126_1) ∧
 SpecH PP F_ref09_Disk_Stop [(.pointer r1), (.int .i64 t126_1)] h35 (fun v_34 h36 => ∃ (t127_1 : Int), v_34 = (.int .i64 t127_1) ∧
 let t128_1 : Bool := (t123_1 == t127_1)
 Q (.bool t128_1) h36))) ∧
 (
 ∃ (t126 : Int), cellH h1 (Addr.add o5 4) = some (.int .i64 t126) ∧
 SpecH PP F_disk_Disk_Stop [(.pointer d0), (.int .i64 t122)] h1 (fun v_31 h33 => ∃ (t123 : Int), v_31 = (.int .i64 t123) ∧
 SpecH PP F_ref09_Disk_Stop [(.pointer r1), (.int .i64 t126)] h33 (fun v_32 h34 => ∃ (t127 : Int), v_32 = (.int .i64 t127) ∧
 let t128 : Bool := (t123 == t127)
 Q (.bool t128) h34))) ∧
 True) (
 let t130 : Bool := (t14 == 9)
 br t130 (
 ∃ (t133 : OA) (t133n t133c : Nat), cellH h1 (Addr.add o5 5) = some (.slice t133 t133n t133c) ∧
 SpecH PP F_ref09_Disk_Crash [(.pointer r1), (.slice t133 t133n t133c)] h1 (fun v_35 h37 => v_35 = (.tuple #[]) ∧
 ∃ (t137 : OA) (t137n t137c : Nat), cellH h37 (Addr.add o5 5) = some (.slice t137 t137n t137c) ∧
 SpecH PP F_disk_Disk_Crash [(.pointer d0), (.slice t137 t137n t137c)] h37 (fun v_36 h38 => ∃ (t138 : Int), v_36 = (.int .i64 t138) ∧
 let t139 : Bool := (t138 == 0)
 Q (.bool t139) h38))) (
 Q (.bool true) h1)))))))))) : SpecH PP F_law09_step [(.pointer d0), (.pointer r1), (.agg #[(.int .i64 o2f0), (.string o2f1), (.string o2f2), (.slice o2f3 o2f3n o2f3c), (.int .i64 o2f4), (.slice o2f5 o2f5n o2f5c)])] h Q :=
   spec_of_txt (ann := ann) Try.func13 rfl rfl (by kernel_rfl) H
end law09_step
/-! ### (*haversack/disk.Disk).Stop: function 14 -/
namespace disk_Disk_Stop
def ann : Ann := (.seq 3 (.region [(List.range 1, 3)]) (.seq 3 (.seq 35 (.region [(List.range 3, 35)]) (.seq 547 (.region [(List.range 2, 547)]) (.cond (.seq 16 (.region [(List.range 2, 16)]) (.exit 16)) .leaf))) (.seq 3 (.seq 4099 (.region [(List.range 2, 4099)]) (.cond (.seq 16 (.region [(List.range 1, 16)]) (.exit 16)) .leaf)) (.seq 0 (.region [(List.range 9, 0)]) (.seq 16 (.region [(List.range 1, 16)]) (.exit 16))))))
noncomputable abbrev cd (n : Nat) : Code := sub (bodyOf Try.f14) (pth n)
abbrev an (n : Nat) : Ann := subA ann (pth n)
theorem door {d0 : OA} {steps1 : Int} {Q : VP} {h : Heap} (H :
 SpecH PP F_disk_Disk_ready [(.pointer d0)] h (fun v h1 => ∃ (t7 : Int), v = (.int .i64 t7) ∧
 let t9 : Bool := (t7 != 0)
 br t9 (
 Q (.int .i64 t7) h1) (
 let t12 : Bool := decide (steps1 < 0)
 br t12 (
 Q (.int .i64 1) h1) (
 nilc d0 (fun t16 =>
 wr (Addr.add t16 5) (.bool true) (fun h2 =>
 nilc d0 (fun t18 =>
 wr (Addr.add t18 6) (.int .i64 steps1) (fun h3 =>
 Q (.int .i64 0) h3) h2)) h1))))) : SpecH PP F_disk_Disk_Stop [(.pointer d0), (.int .i64 steps1)] h Q :=
   spec_of_txt (ann := ann) Try.func14 rfl rfl (by kernel_rfl) H
end disk_Disk_Stop
/-! ### (*haversack/disk.Disk).Steps: function 15 -/
namespace disk_Disk_Steps
def ann : Ann := (.seq 1 (.region [(List.range 1, 1)]) (.seq 1 (.seq 17 (.region [(List.range 2, 17)]) (.cond (.seq 4 (.region [(List.range 1, 4)]) (.exit 4)) .leaf)) (.seq 4 (.region [(List.range 5, 4)]) (.exit 4))))
noncomputable abbrev cd (n : Nat) : Code := sub (bodyOf Try.f15) (pth n)
abbrev an (n : Nat) : Ann := subA ann (pth n)
theorem door {d0 : OA} {Q : VP} {h : Heap} (H :
 let t4 : Bool := (Option.isNone d0)
 br t4 (
 Q (.int .i64 0) h) (
 nilc d0 (fun t6 =>
 ∃ (t8 : Int), cellH h (Addr.add t6 4) = some (.int .i64 t8) ∧
 Q (.int .i64 t8) h))) : SpecH PP F_disk_Disk_Steps [(.pointer d0)] h Q :=
   spec_of_txt (ann := ann) Try.func15 rfl rfl (by kernel_rfl) H
end disk_Disk_Steps
/-! ### haversack/haversacklaw09.play: function 16 -/
namespace law09_play
def ann : Ann := (.seq 19 (.region [(List.range 1, 19)]) (.block (.loop 19 (.seq 19 (.seq 531 (.region [(List.range 4, 531)]) (.cond .leaf (.exit 0))) (.seq 19 (.block (.seq 51 (.region [(List.range 6, 51)]) (.seq 131123 (.region [(List.range 2, 131123)]) (.block (.seq 393267 (.region [(List.range 2, 393267)]) (.cond (.region [(List.range 4, 19)]) (.seq 16908339 (.region [(List.range 2, 16908339)]) (.cond (.region [(List.range 6, 19)]) (.seq 4295098419 (.region [(List.range 2, 4295098419)]) (.cond (.region [(List.range 4, 19)]) (.seq 274878038067 (.region [(List.range 2, 274878038067)]) (.cond (.region [(List.range 6, 19)]) (.seq 70368744308787 (.region [(List.range 2, 70368744308787)]) (.cond (.region [(List.range 4, 19)]) (.seq 4503599627501619 (.region [(List.range 2, 4503599627501619)]) (.cond (.region [(List.range 2, 19)]) (.seq 72057594038059059 (.region [(List.range 2, 72057594038059059)]) (.cond (.region [(List.range 4, 19)]) (.seq 4611686018427387955 (.region [(List.range 2, 4611686018427387955)]) (.cond (.region [(List.range 4, 19)]) .leaf)))))))))))))))))))) (.join (.region [(List.range 3, 19)])))))))
noncomputable abbrev cd (n : Nat) : Code := sub (bodyOf Try.f16) (pth n)
abbrev an (n : Nat) : Ann := subA ann (pth n)
@[irreducible] def X0  : Fr := (mkFr 0 68 [])
@[irreducible] def L1 (d0 script1 : OA) (script1n script1c : Nat) (i4 : Int) (K : EP) (h : Heap) : Prop := Lp PP true (cd 12) (mkFr 0 68 [(0, (.pointer d0)), (1, (.slice script1 script1n script1c)), (4, (.int .i64 i4))]) K h
@[irreducible] def B1 (K : EP) : EP := seqK (fun fr h => Lp PP true (cd 12) (fr.mask 19) K h) K
@[irreducible] def J1 (d0 script1 : OA) (script1n script1c : Nat) (i4 : Int) (K : EP) (h : Heap) : Prop := Jn PP true (cd 51) (mkFr 0 68 [(0, (.pointer d0)), (1, (.slice script1 script1n script1c)), (4, (.int .i64 i4))]) (B1 K) h
@[irreducible] def K1 (Q : VP) : EP := blockK 0 (bodyK PP Try.f16 Q)
theorem L1_of {d0 script1 : OA} {script1n script1c : Nat} {i4 : Int} {K : EP} {h : Heap} (H :
 let t9 : Bool := decide (i4 < (script1n : Int))
 br t9 (
 hwp PP (Instr.indexAt T_sl_haversacklaw09_Op (.slice script1 script1n script1c) (.int .i64 i4)) (fun v h1 => ∃ (t14 : Addr), v = (.pointer (some t14)) ∧
 ∃ (t15f0 : Int) (t15f1 t15f2 : ByteArray) (t15f3 : OA) (t15f3n t15f3c : Nat) (t15f4 : Int) (t15f5 : OA) (t15f5n t15f5c : Nat), rdCells h1 t14 0 [(.int .i64 t15f0), (.string t15f1), (.string t15f2), (.slice t15f3 t15f3n t15f3c), (.int .i64 t15f4), (.slice t15f5 t15f5n t15f5c)] ∧
 let o5 : Addr := ⟨Array.size h1, 0, none⟩
 let h2 : Heap := Array.push h1 (.cells #[(.int .i64 0), (.string (⟨#[]⟩ : ByteArray)), (.string (⟨#[]⟩ : ByteArray)), (.slice none 0 0), (.int .i64 0), (.slice none 0 0)] T_haversacklaw09_Op (0, 0))
 wrCells o5 0 [(.int .i64 t15f0), (.string t15f1), (.string t15f2), (.slice t15f3 t15f3n t15f3c), (.int .i64 t15f4), (.slice t15f5 t15f5n t15f5c)] (fun h3 =>
 ∃ (t17 : Int), cellH h3 o5 = some (.int .i64 t17) ∧
 let t19 : Bool := (t17 == 1)
 br t19 (
 ∃ (t22 : ByteArray), cellH h3 (Addr.add o5 1) = some (.string t22) ∧
 SpecH PP F_disk_Disk_Create [(.pointer d0), (.string t22)] h3 (fun v_1 h4 => ∃ (t23 : Int), v_1 = (.int .i64 t23) ∧
 J1 d0 script1 script1n script1c i4 K h4)) (
 let t25 : Bool := (t17 == 2)
 br t25 (
 ∃ (t28 : ByteArray), cellH h3 (Addr.add o5 1) = some (.string t28) ∧
 ∃ (t30 : OA) (t30n t30c : Nat), cellH h3 (Addr.add o5 3) = some (.slice t30 t30n t30c) ∧
 SpecH PP F_disk_Disk_Append [(.pointer d0), (.string t28), (.slice t30 t30n t30c)] h3 (fun v_2 h5 => ∃ (t31 : Int), v_2 = (.int .i64 t31) ∧
 J1 d0 script1 script1n script1c i4 K h5)) (
 let t33 : Bool := (t17 == 3)
 br t33 (
 ∃ (t36 : ByteArray), cellH h3 (Addr.add o5 1) = some (.string t36) ∧
 SpecH PP F_disk_Disk_Sync [(.pointer d0), (.string t36)] h3 (fun v_3 h6 => ∃ (t37 : Int), v_3 = (.int .i64 t37) ∧
 J1 d0 script1 script1n script1c i4 K h6)) (
 let t39 : Bool := (t17 == 4)
 br t39 (
 ∃ (t42 : ByteArray), cellH h3 (Addr.add o5 1) = some (.string t42) ∧
 ∃ (t44 : ByteArray), cellH h3 (Addr.add o5 2) = some (.string t44) ∧
 SpecH PP F_disk_Disk_Rename [(.pointer d0), (.string t42), (.string t44)] h3 (fun v_4 h7 => ∃ (t45 : Int), v_4 = (.int .i64 t45) ∧
 J1 d0 script1 script1n script1c i4 K h7)) (
 let t47 : Bool := (t17 == 5)
 br t47 (
 ∃ (t50 : ByteArray), cellH h3 (Addr.add o5 1) = some (.string t50) ∧
 SpecH PP F_disk_Disk_Remove [(.pointer d0), (.string t50)] h3 (fun v_5 h8 => ∃ (t51 : Int), v_5 = (.int .i64 t51) ∧
 J1 d0 script1 script1n script1c i4 K h8)) (
 let t53 : Bool := (t17 == 6)
 br t53 (
 SpecH PP F_disk_Disk_SyncDir [(.pointer d0)] h3 (fun v_6 h9 => ∃ (t55 : Int), v_6 = (.int .i64 t55) ∧
 J1 d0 script1 script1n script1c i4 K h9)) (
 let t57 : Bool := (t17 == 8)
 br t57 (
 ∃ (t60 : Int), cellH h3 (Addr.add o5 4) = some (.int .i64 t60) ∧
 SpecH PP F_disk_Disk_Stop [(.pointer d0), (.int .i64 t60)] h3 (fun v_7 h10 => ∃ (t61 : Int), v_7 = (.int .i64 t61) ∧
 J1 d0 script1 script1n script1c i4 K h10)) (
 let t63 : Bool := (t17 == 9)
 br t63 (
 ∃ (t66 : OA) (t66n t66c : Nat), cellH h3 (Addr.add o5 5) = some (.slice t66 t66n t66c) ∧
 SpecH PP F_disk_Disk_Crash [(.pointer d0), (.slice t66 t66n t66c)] h3 (fun v_8 h11 => ∃ (t67 : Int), v_8 = (.int .i64 t67) ∧
 J1 d0 script1 script1n script1c i4 K h11)) (
 J1 d0 script1 script1n script1c i4 K h3))))))))) h2) h) (
 K (.exit 0) (X0) h)) : L1 d0 script1 script1n script1c i4 K h := by unfold L1; exact Lp.of_txt (an 12) 19 (by kernel_rfl) H
theorem L1_X0 {Q : VP}  {h : Heap} (H :
 Q (.tuple #[]) h) : (K1 Q) (.exit 0) (X0 ) h := of_eq_txt (by kernel_rfl) H
theorem J1_of {d0 script1 : OA} {script1n script1c : Nat} {i4 : Int} {K : EP} {h : Heap} (H :
 let t11 : Int := IntKind.i64.wrap (i4 + 1)
 L1 d0 script1 script1n script1c t11 K h) : J1 d0 script1 script1n script1c i4 K h := by unfold J1; exact Jn.of_txt (an 51) (by kernel_rfl) H
theorem door {d0 script1 : OA} {script1n script1c : Nat} {Q : VP} {h : Heap} (H :
 L1 d0 script1 script1n script1c 0 (K1 Q) h) : SpecH PP F_law09_play [(.pointer d0), (.slice script1 script1n script1c)] h Q :=
   spec_of_txt (ann := ann) Try.func16 rfl rfl (by kernel_rfl) H
end law09_play
/-! ### (*haversack/disk.Disk).Down: function 17 -/
namespace disk_Disk_Down
def ann : Ann := (.seq 1 (.region [(List.range 1, 1)]) (.seq 4 (.region [(List.range 16, 4)]) (.exit 4)))
noncomputable abbrev cd (n : Nat) : Code := sub (bodyOf Try.f17) (pth n)
abbrev an (n : Nat) : Ann := subA ann (pth n)
theorem door {d0 : OA} {Q : VP} {h : Heap} (H :
 let t4 : Bool := (!Option.isNone d0)
 br t4 (
 nilc d0 (fun t7 =>
 ∃ (t9 : Bool), cellH h (Addr.add t7 5) = some (.bool t9) ∧
 br t9 (
 nilc d0 (fun t13 =>
 ∃ (t15 : Int), cellH h (Addr.add t13 6) = some (.int .i64 t15) ∧
 let t16 : Bool := (t15 == 0)
 Q (.bool t16) h)) (
 Q (.bool false) h))) (
 Q (.bool false) h)) : SpecH PP F_disk_Disk_Down [(.pointer d0)] h Q :=
   spec_of_txt (ann := ann) Try.func17 rfl rfl (by kernel_rfl) H
end disk_Disk_Down
/-! ### haversack/haversackkeep.Texts: function 18 -/
namespace keep_Texts
def ann : Ann := (.seq 3 (.region [(List.range 1, 3)]) (.seq 3 (.seq 1027 (.region [(List.range 5, 1027)]) (.cond (.seq 16 (.region [(List.range 1, 16)]) (.exit 16)) .leaf)) (.seq 0 (.seq 35 (.region [(List.range 1, 35)]) (.block (.loop 35 (.seq 35 (.seq 16419 (.region [(List.range 4, 16419)]) (.cond .leaf (.exit 0))) (.seq 35 (.block (.seq 33554467 (.region [(List.range 9, 33554467)]) (.cond (.seq 16 (.region [(List.range 1, 16)]) (.exit 16)) .leaf))) (.region [(List.range 3, 35)])))))) (.seq 16 (.region [(List.range 1, 16)]) (.exit 16)))))
noncomputable abbrev cd (n : Nat) : Code := sub (bodyOf Try.f18) (pth n)
abbrev an (n : Nat) : Ann := subA ann (pth n)
@[irreducible] def Xret (t4 : Bool) : Fr := (mkFr 0 26 [(4, (.bool t4))])
@[irreducible] def X0  : Fr := (mkFr 0 26 [])
@[irreducible] def L1 (a0 : OA) (a0n a0c : Nat) (b1 : OA) (b1n b1c : Nat) (i5 : Int) (K : EP) (h : Heap) : Prop := Lp PP true (cd 116) (mkFr 0 26 [(0, (.slice a0 a0n a0c)), (1, (.slice b1 b1n b1c)), (5, (.int .i64 i5))]) K h
@[irreducible] def B1 (K : EP) : EP := seqK (fun fr h => Lp PP true (cd 116) (fr.mask 35) K h) K
@[irreducible] def K2 (Q : VP) : EP := seqK (fun fr h => ev PP true none (cd 15) (an 15) (fr.mask 0) (bodyK PP Try.f18 Q) h) (bodyK PP Try.f18 Q)
@[irreducible] def K1 (Q : VP) : EP := blockK 0 (K2 Q)
theorem L1_of {a0 : OA} {a0n a0c : Nat} {b1 : OA} {b1n b1c : Nat} {i5 : Int} {K : EP} {h : Heap} (H :
 let t14 : Bool := decide (i5 < (a0n : Int))
 br t14 (
 hwp PP (Instr.indexAt T_sl_string (.slice a0 a0n a0c) (.int .i64 i5)) (fun v h1 => ∃ (t19 : Addr), v = (.pointer (some t19)) ∧
 ∃ (t20 : ByteArray), cellH h1 t19 = some (.string t20) ∧
 hwp PP (Instr.indexAt T_sl_string (.slice b1 b1n b1c) (.int .i64 i5)) (fun v_1 h2 => ∃ (t23 : Addr), v_1 = (.pointer (some t23)) ∧
 ∃ (t24 : ByteArray), cellH h2 t23 = some (.string t24) ∧
 let t25 : Bool := (!decide (t20 = t24))
 br t25 (
 K .ret (Xret false) h2) (
 let t16 : Int := IntKind.i64.wrap (i5 + 1)
 L1 a0 a0n a0c b1 b1n b1c t16 K h2)) h1) h) (
 K (.exit 0) (X0) h)) : L1 a0 a0n a0c b1 b1n b1c i5 K h := by unfold L1; exact Lp.of_txt (an 116) 35 (by kernel_rfl) H
theorem L1_Xret {Q : VP} {t4 : Bool} {h : Heap} (H :
 Q (.bool t4) h) : (K1 Q) .ret (Xret t4) h := of_eq_txt (by kernel_rfl) H
theorem L1_X0 {Q : VP}  {h : Heap} (H :
 Q (.bool true) h) : (K1 Q) (.exit 0) (X0 ) h := of_eq_txt (by kernel_rfl) H
theorem door {a0 : OA} {a0n a0c : Nat} {b1 : OA} {b1n b1c : Nat} {Q : VP} {h : Heap} (H :
 let t10 : Bool := ((a0n : Int) != (b1n : Int))
 br t10 (
 Q (.bool false) h) (
 L1 a0 a0n a0c b1 b1n b1c 0 (K1 Q) h)) : SpecH PP F_keep_Texts [(.slice a0 a0n a0c), (.slice b1 b1n b1c)] h Q :=
   spec_of_txt (ann := ann) Try.func18 rfl rfl (by kernel_rfl) H
end keep_Texts
/-! ### (*haversack/disk.Disk).Names: function 19 -/
namespace disk_Disk_Names
def ann : Ann := (.seq 1 (.region [(List.range 1, 1)]) (.seq 1 (.seq 33 (.region [(List.range 3, 33)]) (.cond (.seq 4 (.region [(List.range 1, 4)]) (.exit 4)) .leaf)) (.seq 4 (.region [(List.range 7, 4)]) (.exit 4))))
noncomputable abbrev cd (n : Nat) : Code := sub (bodyOf Try.f19) (pth n)
abbrev an (n : Nat) : Ann := subA ann (pth n)
theorem door {d0 : OA} {Q : VP} {h : Heap} (H :
 SpecH PP F_disk_Disk_ready [(.pointer d0)] h (fun v h1 => ∃ (t4 : Int), v = (.int .i64 t4) ∧
 let t5 : Bool := (t4 != 0)
 br t5 (
 Q (.slice none 0 0) h1) (
 nilc d0 (fun t7 =>
 ∃ (t9 : ON), cellH h1 (Addr.add t7 1) = some (.map t9) ∧
 SpecH PP F_maps_Keys_disk_names_string_disk_file [(.map t9)] h1 (fun v_1 h2 => ∃ (t10 : Value), v_1 = t10 ∧
 SpecH PP F_slices_Sorted_string [t10] h2 (fun v_2 h3 => ∃ (t11 : OA) (t11n t11c : Nat), v_2 = (.slice t11 t11n t11c) ∧
 Q (.slice t11 t11n t11c) h3)))))) : SpecH PP F_disk_Disk_Names [(.pointer d0)] h Q :=
   spec_of_txt (ann := ann) Try.func19 rfl rfl (by kernel_rfl) H
end disk_Disk_Names
/-! ### (*haversack/disk.Disk).Create: function 20 -/
namespace disk_Disk_Create
def ann : Ann := (.seq 3 (.region [(List.range 1, 3)]) (.seq 3 (.seq 35 (.region [(List.range 3, 35)]) (.seq 2083 (.region [(List.range 2, 2083)]) (.cond (.seq 16 (.region [(List.range 2, 16)]) (.exit 16)) .leaf))) (.seq 131 (.region [(List.range 11, 131)]) (.seq 3 (.block (.seq 4194435 (.region [(List.range 4, 4194435)]) (.cond (.seq 16 (.region [(List.range 1, 16)]) (.exit 16)) (.seq 67108867 (.region [(List.range 2, 67108867)]) (.cond (.seq 16 (.region [(List.range 1, 16)]) (.exit 16)) (.seq 268435459 (.region [(List.range 7, 268435459)]) (.cond (.seq 16 (.region [(List.range 1, 16)]) (.exit 16)) .leaf))))))) (.seq 16 (.region [(List.range 7, 16)]) (.exit 16))))))
noncomputable abbrev cd (n : Nat) : Code := sub (bodyOf Try.f20) (pth n)
abbrev an (n : Nat) : Ann := subA ann (pth n)
theorem door {d0 : OA} {name1 : ByteArray} {Q : VP} {h : Heap} (H :
 SpecH PP F_disk_Disk_ready [(.pointer d0)] h (fun v h1 => ∃ (t9 : Int), v = (.int .i64 t9) ∧
 let t11 : Bool := (t9 != 0)
 br t11 (
 Q (.int .i64 t9) h1) (
 nilc d0 (fun t15 =>
 ∃ (t17 : ON), cellH h1 (Addr.add t15 1) = some (.map t17) ∧
 hwp PP (Instr.lookup T_disk_names (.map t17) (.string name1) true) (fun v_1 h2 => ∃ (t19 : OA) (t19_1 : Bool), v_1 = (.tuple #[(.pointer t19), (.bool t19_1)]) ∧
 SpecH PP F_disk_good [(.string name1)] h2 (fun v_2 h3 => ∃ (t24 : Bool), v_2 = (.bool t24) ∧
 let t25 : Bool := (!t24)
 br t25 (
 Q (.int .i64 90) h3) (
 br t19_1 (
 Q (.int .i64 91) h3) (
 nilc d0 (fun t30 =>
 ∃ (t32 : ON), cellH h3 (Addr.add t30 1) = some (.map t32) ∧
 hwp PP (Builtin.len_ #[T_disk_names] T_int #[(.map t32)]) (fun v_3 h4 => ∃ (t33 : Int), v_3 = (.int .i64 t33) ∧
 let t34 : Bool := decide (t33 ≥ 64)
 br t34 (
 Q (.int .i64 95) h4) (
 let t38 : Addr := ⟨Array.size h4, 0, none⟩
 let h5 : Heap := Array.push h4 (.cells #[(.slice none 0 0), (.int .i64 0)] T_disk_file (0, 0))
 SpecH PP F_disk_Disk_change [(.pointer d0), (.agg #[(.string (⟨#[]⟩ : ByteArray)), (.string name1), (.pointer (some t38))])] h5 (fun v_4 h6 => ∃ (t40 : Int), v_4 = (.int .i64 t40) ∧
 Q (.int .i64 t40) h6))) h3))))) h1)))) : SpecH PP F_disk_Disk_Create [(.pointer d0), (.string name1)] h Q :=
   spec_of_txt (ann := ann) Try.func20 rfl rfl (by kernel_rfl) H
end disk_Disk_Create
/-! ### (*haversack/disk.Disk).SyncDir: function 21 -/
namespace disk_Disk_SyncDir
def ann : Ann := (.seq 1 (.region [(List.range 1, 1)]) (.seq 1 (.seq 9 (.region [(List.range 3, 9)]) (.seq 137 (.region [(List.range 2, 137)]) (.cond (.seq 4 (.region [(List.range 2, 4)]) (.exit 4)) .leaf))) (.seq 1 (.region [(List.range 9, 1)]) (.seq 1 (.region [(List.range 4, 1)]) (.seq 4 (.region [(List.range 3, 4)]) (.exit 4))))))
noncomputable abbrev cd (n : Nat) : Code := sub (bodyOf Try.f21) (pth n)
abbrev an (n : Nat) : Ann := subA ann (pth n)
theorem door {d0 : OA} {Q : VP} {h : Heap} (H :
 SpecH PP F_disk_Disk_ready [(.pointer d0)] h (fun v h1 => ∃ (t5 : Int), v = (.int .i64 t5) ∧
 let t7 : Bool := (t5 != 0)
 br t7 (
 Q (.int .i64 t5) h1) (
 nilc d0 (fun t11 =>
 ∃ (t13 : ON), cellH h1 (Addr.add t11 1) = some (.map t13) ∧
 SpecH PP F_maps_Clone_disk_names_string_disk_file [(.map t13)] h1 (fun v_1 h2 => ∃ (t14 : ON), v_1 = (.map t14) ∧
 nilc d0 (fun t15 =>
 wr (Addr.add t15 2) (.map t14) (fun h3 =>
 nilc d0 (fun t18 =>
 wr (Addr.add t18 3) (.slice none 0 0) (fun h4 =>
 SpecH PP F_disk_Disk_done [(.pointer d0)] h4 (fun v_2 h5 => ∃ (t21 : Int), v_2 = (.int .i64 t21) ∧
 Q (.int .i64 t21) h5)) h3)) h2)))))) : SpecH PP F_disk_Disk_SyncDir [(.pointer d0)] h Q :=
   spec_of_txt (ann := ann) Try.func21 rfl rfl (by kernel_rfl) H
end disk_Disk_SyncDir
/-! ### (*haversack/disk.Disk).Read: function 22 -/
namespace disk_Disk_Read
def ann : Ann := (.seq 3 (.region [(List.range 2, 3)]) (.seq 192 (.region [(List.range 8, 192)]) (.seq 64 (.seq 32960 (.region [(List.range 2, 32960)]) (.cond (.seq 48 (.region [(List.range 3, 48)]) (.exit 48)) .leaf)) (.seq 48 (.region [(List.range 7, 48)]) (.exit 48)))))
noncomputable abbrev cd (n : Nat) : Code := sub (bodyOf Try.f22) (pth n)
abbrev an (n : Nat) : Ann := subA ann (pth n)
theorem door {d0 : OA} {name1 : ByteArray} {Q : VP} {h : Heap} (H :
 SpecH PP F_disk_Disk_find [(.pointer d0), (.string name1)] h (fun v h1 => ∃ (t11 : OA) (t11_1 : Int), v = (.tuple #[(.pointer t11), (.int .i64 t11_1)]) ∧
 let t15 : Bool := (t11_1 != 0)
 br t15 (
 Q (.tuple #[(.slice none 0 0), (.int .i64 t11_1)]) h1) (
 nilc t11 (fun t18 =>
 ∃ (t20 : OA) (t20n t20c : Nat), cellH h1 t18 = some (.slice t20 t20n t20c) ∧
 SpecH PP F_slices_Clone_byte_byte [(.slice t20 t20n t20c)] h1 (fun v_1 h2 => ∃ (t21 : OA) (t21n t21c : Nat), v_1 = (.slice t21 t21n t21c) ∧
 Q (.tuple #[(.slice t21 t21n t21c), (.int .i64 0)]) h2))))) : SpecH PP F_disk_Disk_Read [(.pointer d0), (.string name1)] h Q :=
   spec_of_txt (ann := ann) Try.func22 rfl rfl (by kernel_rfl) H
end disk_Disk_Read
/-! ### (*haversack/disk.Disk).Used: function 23 -/
namespace disk_Disk_Used
def ann : Ann := (.seq 1 (.region [(List.range 1, 1)]) (.seq 1 (.seq 257 (.region [(List.range 3, 257)]) (.cond (.seq 4 (.region [(List.range 1, 4)]) (.exit 4)) .leaf)) (.seq 9 (.region [(List.range 1, 9)]) (.seq 8 (.seq 8200 (.region [(List.range 5, 8200)]) (.block (.loop 8200 (.seq 40968 (.region [(List.range 2, 40968)]) (.seq 8200 (.cond .leaf (.exit 8)) (.block (.seq 8232 (.region [(List.range 3, 8232)]) (.region [(List.range 8, 8200)])))))))) (.seq 4 (.region [(List.range 2, 4)]) (.exit 4))))))
noncomputable abbrev cd (n : Nat) : Code := sub (bodyOf Try.f23) (pth n)
abbrev an (n : Nat) : Ann := subA ann (pth n)
@[irreducible] def X0 (xn3 : Int) : Fr := (mkFr 0 26 [(3, (.int .i64 xn3))])
@[irreducible] def L1 (xn3 : Int) (t13 : Value) (K : EP) (h : Heap) : Prop := Lp PP true (cd 244) (mkFr 0 26 [(3, (.int .i64 xn3)), (13, t13)]) K h
@[irreducible] def B1 (K : EP) : EP := seqK (fun fr h => Lp PP true (cd 244) (fr.mask 8200) K h) K
@[irreducible] def K2 (Q : VP) : EP := seqK (fun fr h => ev PP true none (cd 31) (an 31) (fr.mask 8) (bodyK PP Try.f23 Q) h) (bodyK PP Try.f23 Q)
@[irreducible] def K1 (Q : VP) : EP := blockK 0 (K2 Q)
theorem L1_of {xn3 : Int} {t13 : Value} {K : EP} {h : Heap} (H :
 hwp PP (Instr.next t13 false T_) (fun v h1 => ∃ (b : Bool) (r : List Value), v = .tuple ((.bool b :: r).toArray) ∧
 br b (
 hwp PP (Instr.entry t13) (fun v_1 h2 => ∃ (t16 t16_1 : Value), v_1 = (.tuple #[t16, t16_1]) ∧
 ∃ (t17 : OA), t16_1 = (.pointer t17) ∧
 nilc t17 (fun t20 =>
 ∃ (t22 : OA) (t22n t22c : Nat), cellH h2 t20 = some (.slice t22 t22n t22c) ∧
 let t24 : Int := IntKind.i64.wrap (xn3 + (t22n : Int))
 L1 t24 t13 K h2)) h1) (
 K (.exit 0) (X0 xn3) h1)) h) : L1 xn3 t13 K h := by unfold L1; exact Lp.of_txt (an 244) 8200 (by kernel_rfl) H
theorem L1_X0 {Q : VP} {xn3 : Int} {h : Heap} (H :
 Q (.int .i64 xn3) h) : (K1 Q) (.exit 0) (X0 xn3) h := of_eq_txt (by kernel_rfl) H
theorem door {d0 : OA} {Q : VP} {h : Heap} (H :
 SpecH PP F_disk_Disk_ready [(.pointer d0)] h (fun v h1 => ∃ (t7 : Int), v = (.int .i64 t7) ∧
 let t8 : Bool := (t7 != 0)
 br t8 (
 Q (.int .i64 0) h1) (
 nilc d0 (fun t10 =>
 ∃ (t12 : ON), cellH h1 (Addr.add t10 1) = some (.map t12) ∧
 hwp PP (Instr.range T_disk_names (.map t12)) (fun v_1 h2 => ∃ (t13 : Value), v_1 = t13 ∧
 L1 0 t13 (K1 Q) h2) h1)))) : SpecH PP F_disk_Disk_Used [(.pointer d0)] h Q :=
   spec_of_txt (ann := ann) Try.func23 rfl rfl (by kernel_rfl) H
end disk_Disk_Used
/-! ### (*haversack/disk.Disk).Crash: function 24 -/
namespace disk_Disk_Crash
def ann : Ann := (.seq 9 (.region [(List.range 2, 9)]) (.seq 9 (.seq 16393 (.region [(List.range 2, 16393)]) (.cond (.seq 16 (.region [(List.range 1, 16)]) (.exit 16)) .leaf)) (.seq 33 (.region [(List.range 2, 33)]) (.seq 33 (.region [(List.range 8, 33)]) (.seq 33 (.region [(List.range 9, 33)]) (.seq 33 (.seq 30786325577761 (.tree (.run [0, 1, 2, 4, 6, 7, 8, 14] (.alt 3 (.alt 5 (.run [9, 10, 11, 12, 13] .done) (.alt 9 (.run [5, 10, 11, 12, 13] .done) .nil)) (.alt 5 (.run [3, 9, 10, 11, 12, 13] .done) (.alt 9 (.run [10] (.alt 3 (.run [5, 11, 12, 13] .done) (.alt 5 (.run [3, 11, 12, 13] .done) .nil))) .nil)))) 30786325577761) (.block (.loop 30786325577761 (.seq 65970697666593 (.region [(List.range 1, 65970697666593)]) (.seq 30786325577761 (.cond .leaf (.exit 33)) (.seq 30786325577761 (.block (.seq 30786325577889 (.region [(List.range 4, 30786325577889)]) (.region [(List.range 6, 30786325577761)]))) (.region [(List.range 2, 30786325577761)]))))))) (.seq 1 (.seq 504403158265495585 (.region [(List.range 4, 504403158265495585)]) (.block (.loop 504403158265495585 (.seq 1080863910568919073 (.region [(List.range 1, 1080863910568919073)]) (.seq 504403158265495585 (.cond .leaf (.exit 1)) (.seq 504403158265495585 (.block (.seq 504403158265496097 (.region [(List.range 3, 504403158265496097)]) (.seq 504403158265497121 (.region [(List.range 7, 504403158265497121)]) (.seq 504403158265499169 (.region [(List.range 3, 504403158265499169)]) (.seq 504403158265503265 (.region [(List.range 24, 504403158265503265)]) (.seq 504403158265500193 (.seq 19807040629070487556651488801 (.region [(List.range 2, 19807040629070487556651488801)]) (.cond (.region [(List.range 7, 504403158265500193)]) .leaf)) (.join (.region [(List.range 11, 504403158265495585)])))))))) (.region [(List.range 2, 504403158265495585)]))))))) (.seq 1 (.region [(List.range 9, 1)]) (.seq 0 (.region [(List.range 4, 0)]) (.seq 16 (.region [(List.range 1, 16)]) (.exit 16)))))))))))
noncomputable abbrev cd (n : Nat) : Code := sub (bodyOf Try.f24) (pth n)
abbrev an (n : Nat) : Ann := subA ann (pth n)
@[irreducible] def X0 (d0 : OA) (choice5 : Value) : Fr := (mkFr 0 123 [(0, (.pointer d0)), (5, choice5)])
@[irreducible] def X2 (d0 : OA) : Fr := (mkFr 0 123 [(0, (.pointer d0))])
@[irreducible] def L1 (d0 : OA) (choice5 : Value) (t42 : OA) (t42n t42c : Nat) (t43 t44 : Int) (K : EP) (h : Heap) : Prop := Lp PP true (cd 1012) (mkFr 0 123 [(0, (.pointer d0)), (5, choice5), (42, (.slice t42 t42n t42c)), (43, (.int .i64 t43)), (44, (.int .i64 t44))]) K h
@[irreducible] def B1 (K : EP) : EP := seqK (fun fr h => Lp PP true (cd 1012) (fr.mask 30786325577761) K h) K
@[irreducible] def K3 (Q : VP) : EP := seqK (fun fr h => ev PP true none (cd 127) (an 127) (fr.mask 33) (bodyK PP Try.f24 Q) h) (bodyK PP Try.f24 Q)
@[irreducible] def K1 (Q : VP) : EP := blockK 0 (K3 Q)
@[irreducible] def K4 (Q : VP) : EP := seqK (fun fr h => ev PP true none (cd 255) (an 255) (fr.mask 1) (bodyK PP Try.f24 Q) h) (bodyK PP Try.f24 Q)
@[irreducible] def K2 (Q : VP) : EP := blockK 2 (K4 Q)
@[irreducible] def L2 (d0 : OA) (choice5 : Value) (t56 : OA) (t56n t56c : Nat) (t57 t58 : Int) (K : EP) (h : Heap) : Prop := Lp PP true (cd 2036) (mkFr 0 123 [(0, (.pointer d0)), (5, choice5), (56, (.slice t56 t56n t56c)), (57, (.int .i64 t57)), (58, (.int .i64 t58))]) K h
@[irreducible] def B2 (K : EP) : EP := seqK (fun fr h => Lp PP true (cd 2036) (fr.mask 504403158265495585) K h) K
@[irreducible] def K6 (K : EP) : EP := seqK (fun fr h => ev PP true none (cd 16295) (an 16295) (fr.mask 504403158265495585) (B2 K) h) (B2 K)
@[irreducible] def K5 (K : EP) : EP := blockK 3 (K6 K)
@[irreducible] def J1 (d0 : OA) (choice5 : Value) (name9 : ByteArray) (b12 : OA) (b12n b12c : Nat) (t56 : OA) (t56n t56c : Nat) (t57 t58 : Int) (K : EP) (h : Heap) : Prop := Jn PP true (cd 1042847) (mkFr 0 123 [(0, (.pointer d0)), (5, choice5), (9, (.string name9)), (12, (.slice b12 b12n b12c)), (56, (.slice t56 t56n t56c)), (57, (.int .i64 t57)), (58, (.int .i64 t58))]) (K5 K) h
theorem L1_of {d0 : OA} {choice5 : Value} {t42 : OA} {t42n t42c : Nat} {t43 t44 : Int} {K : EP} {h : Heap} (H :
 let t45 : Bool := decide (t44 < t43)
 br t45 (
 hwp PP (Instr.indexAt T_sl_disk_change (.slice t42 t42n t42c) (.int .i64 t44)) (fun v h1 => ∃ (t46 : Addr), v = (.pointer (some t46)) ∧
 ∃ (t47f0 t47f1 : ByteArray) (t47f2 : OA), rdCells h1 t46 0 [(.string t47f0), (.string t47f1), (.pointer t47f2)] ∧
 let c7 : Addr := ⟨Array.size h1, 0, none⟩
 let h2 : Heap := Array.push h1 (.cells #[(.string (⟨#[]⟩ : ByteArray)), (.string (⟨#[]⟩ : ByteArray)), (.pointer none)] T_disk_change (0, 0))
 wrCells c7 0 [(.string t47f0), (.string t47f1), (.pointer t47f2)] (fun h3 =>
 nilc d0 (fun t49 =>
 ∃ (t51 : ON), cellH h3 (Addr.add t49 1) = some (.map t51) ∧
 ∃ (t52f0 t52f1 : ByteArray) (t52f2 : OA), rdCells h3 c7 0 [(.string t52f0), (.string t52f1), (.pointer t52f2)] ∧
 SpecH PP F_disk_names_do [(.map t51), (.agg #[(.string t52f0), (.string t52f1), (.pointer t52f2)])] h3 (fun v_1 h4 => v_1 = (.tuple #[]) ∧
 let t54 : Int := IntKind.i64.wrap (t44 + 1)
 L1 d0 choice5 t42 t42n t42c t43 t54 K h4))) h2) h) (
 K (.exit 0) (X0 d0 choice5) h)) : L1 d0 choice5 t42 t42n t42c t43 t44 K h := by unfold L1; exact Lp.of_txt (an 1012) 30786325577761 (by kernel_rfl) H
theorem L1_X0 {Q : VP} {d0 : OA} {choice5 : Value} {h : Heap} (H :
 SpecH PP F_disk_Disk_Names [(.pointer d0)] h (fun v h1 => ∃ (t56 : OA) (t56n t56c : Nat), v = (.slice t56 t56n t56c) ∧
 L2 d0 choice5 t56 t56n t56c (t56n : Int) 0 (K2 Q) h1)) : (K1 Q) (.exit 0) (X0 d0 choice5) h := of_eq_txt (by kernel_rfl) H
theorem L2_of {d0 : OA} {choice5 : Value} {t56 : OA} {t56n t56c : Nat} {t57 t58 : Int} {K : EP} {h : Heap} (H :
 let t59 : Bool := decide (t58 < t57)
 br t59 (
 hwp PP (Instr.indexAt T_sl_string (.slice t56 t56n t56c) (.int .i64 t58)) (fun v h1 => ∃ (t60 : Addr), v = (.pointer (some t60)) ∧
 ∃ (t61 : ByteArray), cellH h1 t60 = some (.string t61) ∧
 nilc d0 (fun t63 =>
 ∃ (t65 : ON), cellH h1 (Addr.add t63 1) = some (.map t65) ∧
 hwp PP (Instr.lookup T_disk_names (.map t65) (.string t61) false) (fun v_1 h2 => ∃ (t67 : OA), v_1 = (.pointer t67) ∧
 callV PP choice5 [] (fun v_2 h3 => ∃ (t69 : Int), v_2 = (.int .i64 t69) ∧
 nilc t67 (fun t71 =>
 ∃ (t73 : OA) (t73n t73c : Nat), cellH h3 t71 = some (.slice t73 t73n t73c) ∧
 nilc t67 (fun t75 =>
 ∃ (t77 : Int), cellH h3 (Addr.add t75 1) = some (.int .i64 t77) ∧
 nilc t67 (fun t80 =>
 ∃ (t82 : OA) (t82n t82c : Nat), cellH h3 t80 = some (.slice t82 t82n t82c) ∧
 nilc t67 (fun t85 =>
 ∃ (t87 : Int), cellH h3 (Addr.add t85 1) = some (.int .i64 t87) ∧
 let t88 : Int := IntKind.i64.wrap ((t82n : Int) - t87)
 ∃ v_3, PureAt PP F_disk_says [(.int .i64 t69), (.int .i64 t88)] v_3 ∧
 ∃ (t89 : Int), v_3 = (.int .i64 t89) ∧
 let t90 : Int := IntKind.i64.wrap (t77 + t89)
 hwp PP (Instr.sliceAt T_sl_uint8 (.slice t73 t73n t73c) none (some (.int .i64 t90)) none) (fun v_4 h4 => ∃ (t91 : OA) (t91n t91c : Nat), v_4 = (.slice t91 t91n t91c) ∧
 SpecH PP F_slices_Clone_byte_byte [(.slice t91 t91n t91c)] h4 (fun v_5 h5 => ∃ (t92 : OA) (t92n t92c : Nat), v_5 = (.slice t92 t92n t92c) ∧
 let t94 : Bool := decide (t69 < 0)
 br t94 (
 nilc t67 (fun t97 =>
 ∃ (t99 : Int), cellH h5 (Addr.add t97 1) = some (.int .i64 t99) ∧
 hwp PP (Instr.sliceAt T_sl_uint8 (.slice t92 t92n t92c) (some (.int .i64 t99)) none none) (fun v_6 h6 => ∃ (t100 : OA) (t100n t100c : Nat), v_6 = (.slice t100 t100n t100c) ∧
 hwp PP (Builtin.clear_ #[T_sl_uint8] T_ #[(.slice t100 t100n t100c)]) (fun v_7 h7 => v_7 = (.tuple #[]) ∧
 J1 d0 choice5 t61 t92 t92n t92c t56 t56n t56c t57 t58 K h7) h6) h5)) (
 J1 d0 choice5 t61 t92 t92n t92c t56 t56n t56c t57 t58 K h5))) h3))))) h2) h1)) h) (
 K (.exit 2) (X2 d0) h)) : L2 d0 choice5 t56 t56n t56c t57 t58 K h := by unfold L2; exact Lp.of_txt (an 2036) 504403158265495585 (by kernel_rfl) H
theorem L2_X2 {Q : VP} {d0 : OA} {h : Heap} (H :
 nilc d0 (fun t114 =>
 ∃ (t116 : ON), cellH h (Addr.add t114 1) = some (.map t116) ∧
 SpecH PP F_maps_Clone_disk_names_string_disk_file [(.map t116)] h (fun v h1 => ∃ (t117 : ON), v = (.map t117) ∧
 nilc d0 (fun t118 =>
 wr (Addr.add t118 2) (.map t117) (fun h2 =>
 nilc d0 (fun t121 =>
 wr (Addr.add t121 3) (.slice none 0 0) (fun h3 =>
 Q (.int .i64 0) h3) h2)) h1)))) : (K2 Q) (.exit 2) (X2 d0) h := of_eq_txt (by kernel_rfl) H
theorem J1_of {d0 : OA} {choice5 : Value} {name9 : ByteArray} {b12 : OA} {b12n b12c : Nat} {t56 : OA} {t56n t56c : Nat} {t57 t58 : Int} {K : EP} {h : Heap} (H :
 nilc d0 (fun t102 =>
 ∃ (t104 : ON), cellH h (Addr.add t102 1) = some (.map t104) ∧
 let t110 : Addr := ⟨Array.size h, 0, none⟩
 let h1 : Heap := Array.push h (.cells #[(.slice b12 b12n b12c), (.int .i64 (b12n : Int))] T_disk_file (0, 0))
 hwp PP (Instr.mapUpdate T_disk_names (.map t104) (.string name9) (.pointer (some t110))) (fun _ h2 =>
 let t111 : Int := IntKind.i64.wrap (t58 + 1)
 L2 d0 choice5 t56 t56n t56c t57 t111 K h2) h1)) : J1 d0 choice5 name9 b12 b12n b12c t56 t56n t56c t57 t58 K h := by unfold J1; exact Jn.of_txt (an 1042847) (by kernel_rfl) H
theorem door {d0 choices1 : OA} {choices1n choices1c : Nat} {Q : VP} {h : Heap} (H :
 let choices3 : Addr := ⟨Array.size h, 0, none⟩
 let h1 : Heap := Array.push h (.cells #[(.slice choices1 choices1n choices1c)] T_sl_int (0, 0))
 let t14 : Bool := (Option.isNone d0)
 br t14 (
 Q (.int .i64 3) h1) (
 nilc d0 (fun t18 =>
 wr (Addr.add t18 5) (.bool false) (fun h2 =>
 nilc d0 (fun t20 =>
 wr (Addr.add t20 6) (.int .i64 0) (fun h3 =>
 nilc d0 (fun t24 =>
 ∃ (t26 : ON), cellH h3 (Addr.add t24 2) = some (.map t26) ∧
 SpecH PP F_maps_Clone_disk_names_string_disk_file [(.map t26)] h3 (fun v h4 => ∃ (t27 : ON), v = (.map t27) ∧
 nilc d0 (fun t28 =>
 wr (Addr.add t28 1) (.map t27) (fun h5 =>
 nilc d0 (fun t31 =>
 nilc d0 (fun t37 =>
 (
 ∃ (t33_3 : OA) (t33_3n t33_3c : Nat), cellH h5 (Addr.add t31 3) = some (.slice t33_3 t33_3n t33_3c) ∧
 (
 callV PP (.func (.func F_disk_Disk_Crash_1) #[] #[(.pointer (some choices3))]) [] (fun v_13 h14 => ∃ (t35_4 : Int), v_13 = (.int .i64 t35_4) ∧
 ∃ (t39_3 : OA) (t39_3n t39_3c : Nat), cellH h14 (Addr.add t37 3) = some (.slice t39_3 t39_3n t39_3c) ∧
 ∃ v_14, PureAt PP F_disk_says [(.int .i64 t35_4), (.int .i64 (t39_3n : Int))] v_14 ∧
 ∃ (t41_4 : Int), v_14 = (.int .i64 t41_4) ∧
 hwp PP (Instr.sliceAt T_sl_disk_change (.slice t33_3 t33_3n t33_3c) none (some (.int .i64 t41_4)) none) (fun v_15 h15 => ∃ (t42_4 : OA) (t42_4n t42_4c : Nat), v_15 = (.slice t42_4 t42_4n t42_4c) ∧
 L1 d0 (.func (.func F_disk_Disk_Crash_1) #[] #[(.pointer (some choices3))]) t42_4 t42_4n t42_4c (t42_4n : Int) 0 (K1 Q) h15) h14) h5) ∧
 (
 ∃ (t39_2 : OA) (t39_2n t39_2c : Nat), cellH h5 (Addr.add t37 3) = some (.slice t39_2 t39_2n t39_2c) ∧
 callV PP (.func (.func F_disk_Disk_Crash_1) #[] #[(.pointer (some choices3))]) [] (fun v_10 h12 => ∃ (t35_3 : Int), v_10 = (.int .i64 t35_3) ∧
 ∃ v_11, PureAt PP F_disk_says [(.int .i64 t35_3), (.int .i64 (t39_2n : Int))] v_11 ∧
 ∃ (t41_3 : Int), v_11 = (.int .i64 t41_3) ∧
 hwp PP (Instr.sliceAt T_sl_disk_change (.slice t33_3 t33_3n t33_3c) none (some (.int .i64 t41_3)) none) (fun v_12 h13 => ∃ (t42_3 : OA) (t42_3n t42_3c : Nat), v_12 = (.slice t42_3 t42_3n t42_3c) ∧
 L1 d0 (.func (.func F_disk_Disk_Crash_1) #[] #[(.pointer (some choices3))]) t42_3 t42_3n t42_3c (t42_3n : Int) 0 (K1 Q) h13) h12) h5) ∧
 True) ∧
 (
 callV PP (.func (.func F_disk_Disk_Crash_1) #[] #[(.pointer (some choices3))]) [] (fun v_7 h10 => ∃ (t35_2 : Int), v_7 = (.int .i64 t35_2) ∧
 ∃ (t33_2 : OA) (t33_2n t33_2c : Nat), cellH h10 (Addr.add t31 3) = some (.slice t33_2 t33_2n t33_2c) ∧
 ∃ (t39_1 : OA) (t39_1n t39_1c : Nat), cellH h10 (Addr.add t37 3) = some (.slice t39_1 t39_1n t39_1c) ∧
 ∃ v_8, PureAt PP F_disk_says [(.int .i64 t35_2), (.int .i64 (t39_1n : Int))] v_8 ∧
 ∃ (t41_2 : Int), v_8 = (.int .i64 t41_2) ∧
 hwp PP (Instr.sliceAt T_sl_disk_change (.slice t33_2 t33_2n t33_2c) none (some (.int .i64 t41_2)) none) (fun v_9 h11 => ∃ (t42_2 : OA) (t42_2n t42_2c : Nat), v_9 = (.slice t42_2 t42_2n t42_2c) ∧
 L1 d0 (.func (.func F_disk_Disk_Crash_1) #[] #[(.pointer (some choices3))]) t42_2 t42_2n t42_2c (t42_2n : Int) 0 (K1 Q) h11) h10) h5) ∧
 (
 ∃ (t39 : OA) (t39n t39c : Nat), cellH h5 (Addr.add t37 3) = some (.slice t39 t39n t39c) ∧
 (
 ∃ (t33_1 : OA) (t33_1n t33_1c : Nat), cellH h5 (Addr.add t31 3) = some (.slice t33_1 t33_1n t33_1c) ∧
 callV PP (.func (.func F_disk_Disk_Crash_1) #[] #[(.pointer (some choices3))]) [] (fun v_4 h8 => ∃ (t35_1 : Int), v_4 = (.int .i64 t35_1) ∧
 ∃ v_5, PureAt PP F_disk_says [(.int .i64 t35_1), (.int .i64 (t39n : Int))] v_5 ∧
 ∃ (t41_1 : Int), v_5 = (.int .i64 t41_1) ∧
 hwp PP (Instr.sliceAt T_sl_disk_change (.slice t33_1 t33_1n t33_1c) none (some (.int .i64 t41_1)) none) (fun v_6 h9 => ∃ (t42_1 : OA) (t42_1n t42_1c : Nat), v_6 = (.slice t42_1 t42_1n t42_1c) ∧
 L1 d0 (.func (.func F_disk_Disk_Crash_1) #[] #[(.pointer (some choices3))]) t42_1 t42_1n t42_1c (t42_1n : Int) 0 (K1 Q) h9) h8) h5) ∧
 (
 callV PP (.func (.func F_disk_Disk_Crash_1) #[] #[(.pointer (some choices3))]) [] (fun v_1 h6 => ∃ (t35 : Int), v_1 = (.int .i64 t35) ∧
 ∃ (t33 : OA) (t33n t33c : Nat), cellH h6 (Addr.add t31 3) = some (.slice t33 t33n t33c) ∧
 ∃ v_2, PureAt PP F_disk_says [(.int .i64 t35), (.int .i64 (t39n : Int))] v_2 ∧
 ∃ (t41 : Int), v_2 = (.int .i64 t41) ∧
 hwp PP (Instr.sliceAt T_sl_disk_change (.slice t33 t33n t33c) none (some (.int .i64 t41)) none) (fun v_3 h7 => ∃ (t42 : OA) (t42n t42c : Nat), v_3 = (.slice t42 t42n t42c) ∧
 L1 d0 (.func (.func F_disk_Disk_Crash_1) #[] #[(.pointer (some choices3))]) t42 t42n t42c (t42n : Int) 0 (K1 Q) h7) h6) h5) ∧
 True) ∧
 True))) h4)))) h2)) h1))) : SpecH PP F_disk_Disk_Crash [(.pointer d0), (.slice choices1 choices1n choices1c)] h Q :=
   spec_of_txt (ann := ann) Try.func24 rfl rfl (by kernel_rfl) H
end disk_Disk_Crash
/-! ### (*haversack/disk.Disk).Append: function 25 -/
namespace disk_Disk_Append
def ann : Ann := (.seq 7 (.region [(List.range 1, 7)]) (.seq 389 (.region [(List.range 8, 389)]) (.seq 133 (.block (.seq 33157 (.region [(List.range 3, 33157)]) (.cond (.seq 64 (.region [(List.range 2, 64)]) (.exit 64)) (.seq 524421 (.tree (.run [0, 1, 2, 3, 4, 6] (.alt 5 (.run [7, 8, 9, 10] .done) (.alt 7 (.run [5, 8, 9, 10] .done) .nil))) 524421) (.join (.cond (.seq 64 (.region [(List.range 1, 64)]) (.exit 64)) .leaf)))))) (.seq 1 (.region [(List.range 21, 1)]) (.seq 64 (.region [(List.range 3, 64)]) (.exit 64))))))
noncomputable abbrev cd (n : Nat) : Code := sub (bodyOf Try.f25) (pth n)
abbrev an (n : Nat) : Ann := subA ann (pth n)
@[irreducible] def K2 (Q : VP) : EP := seqK (fun fr h => ev PP true none (cd 15) (an 15) (fr.mask 133) (bodyK PP Try.f25 Q) h) (bodyK PP Try.f25 Q)
@[irreducible] def K1 (Q : VP) : EP := blockK 0 (K2 Q)
@[irreducible] def J1 (d0 b2 : OA) (b2n b2c : Nat) (f7 : OA) (t19 : Bool) (Q : VP) (h : Heap) : Prop := Jn PP true (cd 231) (mkFr 0 52 [(0, (.pointer d0)), (2, (.slice b2 b2n b2c)), (7, (.pointer f7)), (19, (.bool t19))]) (K1 Q) h
theorem J1_of {d0 b2 : OA} {b2n b2c : Nat} {f7 : OA} {t19 : Bool} {Q : VP} {h : Heap} (H :
 br t19 (
 Q (.int .i64 93) h) (
 nilc f7 (fun t32 =>
 ∃ (t34 : OA) (t34n t34c : Nat), cellH h t32 = some (.slice t34 t34n t34c) ∧
 nilc f7 (fun t36 =>
 ∃ (t38 : OA) (t38n t38c : Nat), cellH h t36 = some (.slice t38 t38n t38c) ∧
 nilc f7 (fun t41 =>
 ∃ (t43 : OA) (t43n t43c : Nat), cellH h t41 = some (.slice t43 t43n t43c) ∧
 hwp PP (Instr.sliceAt T_sl_uint8 (.slice t34 t34n t34c) none (some (.int .i64 (t38n : Int))) (some (.int .i64 (t43n : Int)))) (fun v h1 => ∃ (t45 : OA) (t45n t45c : Nat), v = (.slice t45 t45n t45c) ∧
 hwp PP (Builtin.append_ #[T_sl_uint8, T_sl_uint8] T_sl_uint8 #[(.slice t45 t45n t45c), (.slice b2 b2n b2c)]) (fun v_1 h2 => ∃ (t47 : OA) (t47n t47c : Nat), v_1 = (.slice t47 t47n t47c) ∧
 nilc f7 (fun t48 =>
 wr t48 (.slice t47 t47n t47c) (fun h3 =>
 SpecH PP F_disk_Disk_done [(.pointer d0)] h3 (fun v_2 h4 => ∃ (t51 : Int), v_2 = (.int .i64 t51) ∧
 Q (.int .i64 t51) h4)) h2)) h1) h))))) : J1 d0 b2 b2n b2c f7 t19 Q h := by unfold J1; exact Jn.of_txt (an 231) (by kernel_rfl) H
theorem door {d0 : OA} {name1 : ByteArray} {b2 : OA} {b2n b2c : Nat} {Q : VP} {h : Heap} (H :
 SpecH PP F_disk_Disk_find [(.pointer d0), (.string name1)] h (fun v h1 => ∃ (t12 : OA) (t12_1 : Int), v = (.tuple #[(.pointer t12), (.int .i64 t12_1)]) ∧
 let t17 : Bool := (t12_1 != 0)
 br t17 (
 Q (.int .i64 t12_1) h1) (
 nilc d0 (fun t23 =>
 (
 ∃ (t25_1 : Int), cellH h1 t23 = some (.int .i64 t25_1) ∧
 SpecH PP F_disk_Disk_Used [(.pointer d0)] h1 (fun v_2 h3 => ∃ (t27_1 : Int), v_2 = (.int .i64 t27_1) ∧
 let t28_1 : Int := IntKind.i64.wrap (t25_1 - t27_1)
 let t29_1 : Bool := decide ((b2n : Int) > t28_1)
 J1 d0 b2 b2n b2c t12 t29_1 Q h3)) ∧
 (
 SpecH PP F_disk_Disk_Used [(.pointer d0)] h1 (fun v_1 h2 => ∃ (t27 : Int), v_1 = (.int .i64 t27) ∧
 ∃ (t25 : Int), cellH h2 t23 = some (.int .i64 t25) ∧
 let t28 : Int := IntKind.i64.wrap (t25 - t27)
 let t29 : Bool := decide ((b2n : Int) > t28)
 J1 d0 b2 b2n b2c t12 t29 Q h2)) ∧
 True)))) : SpecH PP F_disk_Disk_Append [(.pointer d0), (.string name1), (.slice b2 b2n b2c)] h Q :=
   spec_of_txt (ann := ann) Try.func25 rfl rfl (by kernel_rfl) H
end disk_Disk_Append
/-! ### (*haversack/disk.Disk).Sync: function 26 -/
namespace disk_Disk_Sync
def ann : Ann := (.seq 3 (.region [(List.range 1, 3)]) (.seq 97 (.region [(List.range 8, 97)]) (.seq 33 (.seq 16481 (.region [(List.range 2, 16481)]) (.cond (.seq 16 (.region [(List.range 2, 16)]) (.exit 16)) .leaf)) (.seq 1 (.region [(List.range 9, 1)]) (.seq 16 (.region [(List.range 3, 16)]) (.exit 16))))))
noncomputable abbrev cd (n : Nat) : Code := sub (bodyOf Try.f26) (pth n)
abbrev an (n : Nat) : Ann := subA ann (pth n)
theorem door {d0 : OA} {name1 : ByteArray} {Q : VP} {h : Heap} (H :
 SpecH PP F_disk_Disk_find [(.pointer d0), (.string name1)] h (fun v h1 => ∃ (t10 : OA) (t10_1 : Int), v = (.tuple #[(.pointer t10), (.int .i64 t10_1)]) ∧
 let t14 : Bool := (t10_1 != 0)
 br t14 (
 Q (.int .i64 t10_1) h1) (
 nilc t10 (fun t18 =>
 ∃ (t20 : OA) (t20n t20c : Nat), cellH h1 t18 = some (.slice t20 t20n t20c) ∧
 nilc t10 (fun t22 =>
 wr (Addr.add t22 1) (.int .i64 (t20n : Int)) (fun h2 =>
 SpecH PP F_disk_Disk_done [(.pointer d0)] h2 (fun v_1 h3 => ∃ (t25 : Int), v_1 = (.int .i64 t25) ∧
 Q (.int .i64 t25) h3)) h1))))) : SpecH PP F_disk_Disk_Sync [(.pointer d0), (.string name1)] h Q :=
   spec_of_txt (ann := ann) Try.func26 rfl rfl (by kernel_rfl) H
end disk_Disk_Sync
/-! ### haversack/haversackkeep.Bytes: function 27 -/
namespace keep_Bytes
def ann : Ann := (.seq 3 (.region [(List.range 1, 3)]) (.seq 3 (.seq 1027 (.region [(List.range 5, 1027)]) (.cond (.seq 16 (.region [(List.range 1, 16)]) (.exit 16)) .leaf)) (.seq 0 (.seq 35 (.region [(List.range 1, 35)]) (.block (.loop 35 (.seq 35 (.seq 16419 (.region [(List.range 4, 16419)]) (.cond .leaf (.exit 0))) (.seq 35 (.block (.seq 33554467 (.region [(List.range 9, 33554467)]) (.cond (.seq 16 (.region [(List.range 1, 16)]) (.exit 16)) .leaf))) (.region [(List.range 3, 35)])))))) (.seq 16 (.region [(List.range 1, 16)]) (.exit 16)))))
noncomputable abbrev cd (n : Nat) : Code := sub (bodyOf Try.f27) (pth n)
abbrev an (n : Nat) : Ann := subA ann (pth n)
@[irreducible] def Xret (t4 : Bool) : Fr := (mkFr 0 26 [(4, (.bool t4))])
@[irreducible] def X0  : Fr := (mkFr 0 26 [])
@[irreducible] def L1 (a0 : OA) (a0n a0c : Nat) (b1 : OA) (b1n b1c : Nat) (i5 : Int) (K : EP) (h : Heap) : Prop := Lp PP true (cd 116) (mkFr 0 26 [(0, (.slice a0 a0n a0c)), (1, (.slice b1 b1n b1c)), (5, (.int .i64 i5))]) K h
@[irreducible] def B1 (K : EP) : EP := seqK (fun fr h => Lp PP true (cd 116) (fr.mask 35) K h) K
@[irreducible] def K2 (Q : VP) : EP := seqK (fun fr h => ev PP true none (cd 15) (an 15) (fr.mask 0) (bodyK PP Try.f27 Q) h) (bodyK PP Try.f27 Q)
@[irreducible] def K1 (Q : VP) : EP := blockK 0 (K2 Q)
theorem L1_of {a0 : OA} {a0n a0c : Nat} {b1 : OA} {b1n b1c : Nat} {i5 : Int} {K : EP} {h : Heap} (H :
 let t14 : Bool := decide (i5 < (a0n : Int))
 br t14 (
 hwp PP (Instr.indexAt T_sl_uint8 (.slice a0 a0n a0c) (.int .i64 i5)) (fun v h1 => ∃ (t19 : Addr), v = (.pointer (some t19)) ∧
 ∃ (t20 : Int), cellH h1 t19 = some (.int .u8 t20) ∧
 hwp PP (Instr.indexAt T_sl_uint8 (.slice b1 b1n b1c) (.int .i64 i5)) (fun v_1 h2 => ∃ (t23 : Addr), v_1 = (.pointer (some t23)) ∧
 ∃ (t24 : Int), cellH h2 t23 = some (.int .u8 t24) ∧
 let t25 : Bool := (t20 != t24)
 br t25 (
 K .ret (Xret false) h2) (
 let t16 : Int := IntKind.i64.wrap (i5 + 1)
 L1 a0 a0n a0c b1 b1n b1c t16 K h2)) h1) h) (
 K (.exit 0) (X0) h)) : L1 a0 a0n a0c b1 b1n b1c i5 K h := by unfold L1; exact Lp.of_txt (an 116) 35 (by kernel_rfl) H
theorem L1_Xret {Q : VP} {t4 : Bool} {h : Heap} (H :
 Q (.bool t4) h) : (K1 Q) .ret (Xret t4) h := of_eq_txt (by kernel_rfl) H
theorem L1_X0 {Q : VP}  {h : Heap} (H :
 Q (.bool true) h) : (K1 Q) (.exit 0) (X0 ) h := of_eq_txt (by kernel_rfl) H
theorem door {a0 : OA} {a0n a0c : Nat} {b1 : OA} {b1n b1c : Nat} {Q : VP} {h : Heap} (H :
 let t10 : Bool := ((a0n : Int) != (b1n : Int))
 br t10 (
 Q (.bool false) h) (
 L1 a0 a0n a0c b1 b1n b1c 0 (K1 Q) h)) : SpecH PP F_keep_Bytes [(.slice a0 a0n a0c), (.slice b1 b1n b1c)] h Q :=
   spec_of_txt (ann := ann) Try.func27 rfl rfl (by kernel_rfl) H
end keep_Bytes
/-! ### (*haversack/haversackref09.Disk).Names: function 28 -/
namespace ref09_Disk_Names
def ann : Ann := (.seq 1 (.region [(List.range 1, 1)]) (.seq 9 (.region [(List.range 1, 9)]) (.seq 8 (.seq 25 (.region [(List.range 1, 25)]) (.block (.loop 25 (.seq 25 (.seq 65561 (.region [(List.range 12, 65561)]) (.cond .leaf (.exit 8))) (.seq 25 (.block (.region [(List.range 12, 25)])) (.region [(List.range 3, 25)])))))) (.seq 4 (.region [(List.range 2, 4)]) (.exit 4)))))
noncomputable abbrev cd (n : Nat) : Code := sub (bodyOf Try.f28) (pth n)
abbrev an (n : Nat) : Ann := subA ann (pth n)
@[irreducible] def X0 (out3 : OA) (out3n out3c : Nat) : Fr := (mkFr 0 31 [(3, (.slice out3 out3n out3c))])
@[irreducible] def L1 (d0 out3 : OA) (out3n out3c : Nat) (i4 : Int) (K : EP) (h : Heap) : Prop := Lp PP true (cd 116) (mkFr 0 31 [(0, (.pointer d0)), (3, (.slice out3 out3n out3c)), (4, (.int .i64 i4))]) K h
@[irreducible] def B1 (K : EP) : EP := seqK (fun fr h => Lp PP true (cd 116) (fr.mask 25) K h) K
@[irreducible] def K2 (Q : VP) : EP := seqK (fun fr h => ev PP true none (cd 15) (an 15) (fr.mask 8) (bodyK PP Try.f28 Q) h) (bodyK PP Try.f28 Q)
@[irreducible] def K1 (Q : VP) : EP := blockK 0 (K2 Q)
theorem L1_of {d0 out3 : OA} {out3n out3c : Nat} {i4 : Int} {K : EP} {h : Heap} (H :
 nilc d0 (fun t7 =>
 ∃ (t9 : OA) (t9n t9c : Nat), cellH h (Addr.add t7 2) = some (.slice t9 t9n t9c) ∧
 let t11 : Bool := decide (i4 < (t9n : Int))
 br t11 (
 SpecH PP F_ref09_Disk_Down [(.pointer d0)] h (fun v h1 => ∃ (t14 : Bool), v = (.bool t14) ∧
 let t15 : Bool := (!t14)
 br t15 (
 nilc d0 (fun t21 =>
 ∃ (t23 : OA) (t23n t23c : Nat), cellH h1 (Addr.add t21 2) = some (.slice t23 t23n t23c) ∧
 hwp PP (Instr.indexAt T_sl_haversackref09_Named (.slice t23 t23n t23c) (.int .i64 i4)) (fun v_1 h2 => ∃ (t25 : Addr), v_1 = (.pointer (some t25)) ∧
 ∃ (t27 : ByteArray), cellH h2 t25 = some (.string t27) ∧
 let h3 : Heap := Array.push h2 (.cells #[(.string t27)] T_string (0, 0))
 hwp PP (Builtin.append_ #[T_sl_string, T_sl_string] T_sl_string #[(.slice out3 out3n out3c), (.slice (some ⟨Array.size h2, 0, none⟩) 1 1)]) (fun v_2 h4 => ∃ (t29 : OA) (t29n t29c : Nat), v_2 = (.slice t29 t29n t29c) ∧
 let t18 : Int := IntKind.i64.wrap (i4 + 1)
 L1 d0 t29 t29n t29c t18 K h4) h3) h1)) (
 K (.exit 0) (X0 out3 out3n out3c) h1))) (
 K (.exit 0) (X0 out3 out3n out3c) h))) : L1 d0 out3 out3n out3c i4 K h := by unfold L1; exact Lp.of_txt (an 116) 25 (by kernel_rfl) H
theorem L1_X0 {Q : VP} {out3 : OA} {out3n out3c : Nat} {h : Heap} (H :
 Q (.slice out3 out3n out3c) h) : (K1 Q) (.exit 0) (X0 out3 out3n out3c) h := of_eq_txt (by kernel_rfl) H
theorem door {d0 : OA} {Q : VP} {h : Heap} (H :
 L1 d0 none 0 0 0 (K1 Q) h) : SpecH PP F_ref09_Disk_Names [(.pointer d0)] h Q :=
   spec_of_txt (ann := ann) Try.func28 rfl rfl (by kernel_rfl) H
end ref09_Disk_Names
/-! ### (*haversack/haversackref09.Disk).Used: function 29 -/
namespace ref09_Disk_Used
def ann : Ann := (.seq 1 (.region [(List.range 1, 1)]) (.seq 9 (.region [(List.range 1, 9)]) (.seq 8 (.seq 25 (.region [(List.range 1, 25)]) (.block (.loop 25 (.seq 25 (.seq 65561 (.region [(List.range 12, 65561)]) (.cond .leaf (.exit 8))) (.seq 25 (.block (.region [(List.range 19, 25)])) (.region [(List.range 3, 25)])))))) (.seq 4 (.region [(List.range 2, 4)]) (.exit 4)))))
noncomputable abbrev cd (n : Nat) : Code := sub (bodyOf Try.f29) (pth n)
abbrev an (n : Nat) : Ann := subA ann (pth n)
@[irreducible] def X0 (xn3 : Int) : Fr := (mkFr 0 38 [(3, (.int .i64 xn3))])
@[irreducible] def L1 (d0 : OA) (xn3 i4 : Int) (K : EP) (h : Heap) : Prop := Lp PP true (cd 116) (mkFr 0 38 [(0, (.pointer d0)), (3, (.int .i64 xn3)), (4, (.int .i64 i4))]) K h
@[irreducible] def B1 (K : EP) : EP := seqK (fun fr h => Lp PP true (cd 116) (fr.mask 25) K h) K
@[irreducible] def K2 (Q : VP) : EP := seqK (fun fr h => ev PP true none (cd 15) (an 15) (fr.mask 8) (bodyK PP Try.f29 Q) h) (bodyK PP Try.f29 Q)
@[irreducible] def K1 (Q : VP) : EP := blockK 0 (K2 Q)
theorem L1_of {d0 : OA} {xn3 i4 : Int} {K : EP} {h : Heap} (H :
 nilc d0 (fun t7 =>
 ∃ (t9 : OA) (t9n t9c : Nat), cellH h (Addr.add t7 2) = some (.slice t9 t9n t9c) ∧
 let t11 : Bool := decide (i4 < (t9n : Int))
 br t11 (
 SpecH PP F_ref09_Disk_Down [(.pointer d0)] h (fun v h1 => ∃ (t14 : Bool), v = (.bool t14) ∧
 let t15 : Bool := (!t14)
 br t15 (
 nilc d0 (fun t21 =>
 ∃ (t23 : OA) (t23n t23c : Nat), cellH h1 (Addr.add t21 1) = some (.slice t23 t23n t23c) ∧
 nilc d0 (fun t25 =>
 ∃ (t27 : OA) (t27n t27c : Nat), cellH h1 (Addr.add t25 2) = some (.slice t27 t27n t27c) ∧
 hwp PP (Instr.indexAt T_sl_haversackref09_Named (.slice t27 t27n t27c) (.int .i64 i4)) (fun v_1 h2 => ∃ (t29 : Addr), v_1 = (.pointer (some t29)) ∧
 ∃ (t31 : Int), cellH h2 (Addr.add t29 1) = some (.int .i64 t31) ∧
 hwp PP (Instr.indexAt T_sl_haversackref09_File (.slice t23 t23n t23c) (.int .i64 t31)) (fun v_2 h3 => ∃ (t32 : Addr), v_2 = (.pointer (some t32)) ∧
 ∃ (t34 : OA) (t34n t34c : Nat), cellH h3 t32 = some (.slice t34 t34n t34c) ∧
 let t36 : Int := IntKind.i64.wrap (xn3 + (t34n : Int))
 let t18 : Int := IntKind.i64.wrap (i4 + 1)
 L1 d0 t36 t18 K h3) h2) h1))) (
 K (.exit 0) (X0 xn3) h1))) (
 K (.exit 0) (X0 xn3) h))) : L1 d0 xn3 i4 K h := by unfold L1; exact Lp.of_txt (an 116) 25 (by kernel_rfl) H
theorem L1_X0 {Q : VP} {xn3 : Int} {h : Heap} (H :
 Q (.int .i64 xn3) h) : (K1 Q) (.exit 0) (X0 xn3) h := of_eq_txt (by kernel_rfl) H
theorem door {d0 : OA} {Q : VP} {h : Heap} (H :
 L1 d0 0 0 (K1 Q) h) : SpecH PP F_ref09_Disk_Used [(.pointer d0)] h Q :=
   spec_of_txt (ann := ann) Try.func29 rfl rfl (by kernel_rfl) H
end ref09_Disk_Used
/-! ### (*haversack/haversackref09.Disk).Down: function 30 -/
namespace ref09_Disk_Down
def ann : Ann := (.seq 1 (.region [(List.range 1, 1)]) (.seq 4 (.region [(List.range 6, 4)]) (.exit 4)))
noncomputable abbrev cd (n : Nat) : Code := sub (bodyOf Try.f30) (pth n)
abbrev an (n : Nat) : Ann := subA ann (pth n)
theorem door {d0 : OA} {Q : VP} {h : Heap} (H :
 nilc d0 (fun t4 =>
 ∃ (t6 : Int), cellH h (Addr.add t4 6) = some (.int .i64 t6) ∧
 let t7 : Bool := (t6 == 0)
 Q (.bool t7) h)) : SpecH PP F_ref09_Disk_Down [(.pointer d0)] h Q :=
   spec_of_txt (ann := ann) Try.func30 rfl rfl (by kernel_rfl) H
end ref09_Disk_Down
/-! ### (*haversack/haversackref09.Disk).Read: function 31 -/
namespace ref09_Disk_Read
def ann : Ann := (.seq 3 (.region [(List.range 2, 3)]) (.seq 3 (.seq 259 (.region [(List.range 2, 259)]) (.cond (.seq 48 (.region [(List.range 2, 48)]) (.exit 48)) .leaf)) (.seq 65 (.region [(List.range 4, 65)]) (.seq 65 (.seq 8257 (.region [(List.range 2, 8257)]) (.cond (.seq 48 (.region [(List.range 2, 48)]) (.exit 48)) .leaf)) (.seq 48 (.region [(List.range 10, 48)]) (.exit 48))))))
noncomputable abbrev cd (n : Nat) : Code := sub (bodyOf Try.f31) (pth n)
abbrev an (n : Nat) : Ann := subA ann (pth n)
theorem door {d0 : OA} {name1 : ByteArray} {Q : VP} {h : Heap} (H :
 SpecH PP F_ref09_Disk_Down [(.pointer d0)] h (fun v h1 => ∃ (t8 : Bool), v = (.bool t8) ∧
 br t8 (
 Q (.tuple #[(.slice none 0 0), (.int .i64 94)]) h1) (
 SpecH PP F_ref09_Disk_file [(.pointer d0), (.string name1)] h1 (fun v_1 h2 => ∃ (t11 : Int), v_1 = (.int .i64 t11) ∧
 let t13 : Bool := decide (t11 < 0)
 br t13 (
 Q (.tuple #[(.slice none 0 0), (.int .i64 92)]) h2) (
 nilc d0 (fun t15 =>
 ∃ (t17 : OA) (t17n t17c : Nat), cellH h2 (Addr.add t15 1) = some (.slice t17 t17n t17c) ∧
 hwp PP (Instr.indexAt T_sl_haversackref09_File (.slice t17 t17n t17c) (.int .i64 t11)) (fun v_2 h3 => ∃ (t19 : Addr), v_2 = (.pointer (some t19)) ∧
 ∃ (t21 : OA) (t21n t21c : Nat), cellH h3 t19 = some (.slice t21 t21n t21c) ∧
 Q (.tuple #[(.slice t21 t21n t21c), (.int .i64 0)]) h3) h2)))))) : SpecH PP F_ref09_Disk_Read [(.pointer d0), (.string name1)] h Q :=
   spec_of_txt (ann := ann) Try.func31 rfl rfl (by kernel_rfl) H
end ref09_Disk_Read
/-! ### haversack/haversackkeep.Spoil: function 32 -/
namespace keep_Spoil
def ann : Ann := (.seq 1 (.region [(List.range 5, 1)]) (.seq 5 (.region [(List.range 1, 5)]) (.block (.loop 5 (.seq 5 (.seq 1029 (.region [(List.range 4, 1029)]) (.cond .leaf (.exit 0))) (.seq 5 (.block (.region [(List.range 9, 5)])) (.region [(List.range 3, 5)])))))))
noncomputable abbrev cd (n : Nat) : Code := sub (bodyOf Try.f32) (pth n)
abbrev an (n : Nat) : Ann := subA ann (pth n)
@[irreducible] def X0  : Fr := (mkFr 0 21 [])
@[irreducible] def L1 (b0 : OA) (b0n b0c : Nat) (i2 : Int) (K : EP) (h : Heap) : Prop := Lp PP true (cd 28) (mkFr 0 21 [(0, (.slice b0 b0n b0c)), (2, (.int .i64 i2))]) K h
@[irreducible] def B1 (K : EP) : EP := seqK (fun fr h => Lp PP true (cd 28) (fr.mask 5) K h) K
@[irreducible] def K1 (Q : VP) : EP := blockK 0 (bodyK PP Try.f32 Q)
theorem L1_of {b0 : OA} {b0n b0c : Nat} {i2 : Int} {K : EP} {h : Heap} (H :
 let t10 : Bool := decide (i2 < (b0n : Int))
 br t10 (
 hwp PP (Instr.indexAt T_sl_uint8 (.slice b0 b0n b0c) (.int .i64 i2)) (fun v h1 => ∃ (t17 : Addr), v = (.pointer (some t17)) ∧
 ∃ (t18 : Int), cellH h1 t17 = some (.int .u8 t18) ∧
 let t19 : Int := IntKind.u8.wrap (t18 + 99)
 hwp PP (Instr.indexAt T_sl_uint8 (.slice b0 b0n b0c) (.int .i64 i2)) (fun v_1 h2 => ∃ (t20 : Addr), v_1 = (.pointer (some t20)) ∧
 wr t20 (.int .u8 t19) (fun h3 =>
 let t12 : Int := IntKind.i64.wrap (i2 + 1)
 L1 b0 b0n b0c t12 K h3) h2) h1) h) (
 K (.exit 0) (X0) h)) : L1 b0 b0n b0c i2 K h := by unfold L1; exact Lp.of_txt (an 28) 5 (by kernel_rfl) H
theorem L1_X0 {Q : VP}  {h : Heap} (H :
 Q (.tuple #[]) h) : (K1 Q) (.exit 0) (X0 ) h := of_eq_txt (by kernel_rfl) H
theorem door {b0 : OA} {b0n b0c : Nat} {Q : VP} {h : Heap} (H :
 hwp PP (Instr.sliceAt T_sl_uint8 (.slice b0 b0n b0c) none (some (.int .i64 (b0c : Int))) none) (fun v h1 => ∃ (t6 : OA) (t6n t6c : Nat), v = (.slice t6 t6n t6c) ∧
 L1 t6 t6n t6c 0 (K1 Q) h1) h) : SpecH PP F_keep_Spoil [(.slice b0 b0n b0c)] h Q :=
   spec_of_txt (ann := ann) Try.func32 rfl rfl (by kernel_rfl) H
end keep_Spoil
/-! ### (*haversack/disk.Disk).Clone$1: function 33 -/
namespace disk_Disk_Clone_1
def ann : Ann := (.seq 3 (.region [(List.range 1, 3)]) (.seq 3 (.seq 35 (.region [(List.range 2, 35)]) (.cond (.seq 8 (.region [(List.range 1, 8)]) (.exit 8)) .leaf)) (.seq 3 (.seq 515 (.region [(List.range 4, 515)]) (.cond (.tree (.run [1, 2, 3, 4, 5, 7, 8, 9] (.alt 0 (.alt 6 (.run [10, 11, 12, 13] .done) (.alt 10 (.run [6, 11, 12, 13] .done) .nil)) (.alt 6 (.run [0, 10, 11, 12, 13] .done) (.alt 10 (.alt 0 (.run [6, 11, 12, 13] .done) (.alt 6 (.run [0, 11, 12, 13] .done) .nil)) .nil)))) 3) .leaf)) (.join (.seq 8 (.region [(List.range 4, 8)]) (.exit 8))))))
noncomputable abbrev cd (n : Nat) : Code := sub (bodyOf Try.f33) (pth n)
abbrev an (n : Nat) : Ann := subA ann (pth n)
@[irreducible] def J1 (f0 : OA) (t1 : Addr) (Q : VP) (h : Heap) : Prop := Jn PP true (cd 15) (mkFr 0 26 [(0, (.pointer f0)), (1, (.pointer (some t1)))]) (bodyK PP Try.f33 Q) h
theorem J1_of {f0 : OA} {t1 : Addr} {Q : VP} {h : Heap} (H :
 ∃ (t23 : ON), cellH h t1 = some (.map t23) ∧
 hwp PP (Instr.lookup T_map_p_disk_file_p_disk_file (.map t23) (.pointer f0) false) (fun v h1 => ∃ (t25 : OA), v = (.pointer t25) ∧
 Q (.pointer t25) h1) h) : J1 f0 t1 Q h := by unfold J1; exact Jn.of_txt (an 15) (by kernel_rfl) H
theorem door {f0 : OA} {t1 : Addr} {Q : VP} {h : Heap} (H :
 let t5 : Bool := (Option.isNone f0)
 br t5 (
 Q (.pointer none) h) (
 ∃ (t6 : ON), cellH h t1 = some (.map t6) ∧
 hwp PP (Instr.lookup T_map_p_disk_file_p_disk_file (.map t6) (.pointer f0) false) (fun v h1 => ∃ (t8 : OA), v = (.pointer t8) ∧
 let t9 : Bool := (Option.isNone t8)
 br t9 (
 nilc f0 (fun t13 =>
 ∃ (t15 : OA) (t15n t15c : Nat), cellH h1 t13 = some (.slice t15 t15n t15c) ∧
 nilc f0 (fun t18 =>
 (
 ∃ (t10_3 : ON), cellH h1 t1 = some (.map t10_3) ∧
 (
 SpecH PP F_slices_Clone_byte_byte [(.slice t15 t15n t15c)] h1 (fun v_5 h14 => ∃ (t16_4 : OA) (t16_4n t16_4c : Nat), v_5 = (.slice t16_4 t16_4n t16_4c) ∧
 ∃ (t20_3 : Int), cellH h14 (Addr.add t18 1) = some (.int .i64 t20_3) ∧
 let t22_4 : Addr := ⟨Array.size h14, 0, none⟩
 let h15 : Heap := Array.push h14 (.cells #[(.slice t16_4 t16_4n t16_4c), (.int .i64 t20_3)] T_disk_file (0, 0))
 hwp PP (Instr.mapUpdate T_map_p_disk_file_p_disk_file (.map t10_3) (.pointer f0) (.pointer (some t22_4))) (fun _ h16 =>
 J1 f0 t1 Q h16) h15)) ∧
 (
 ∃ (t20_2 : Int), cellH h1 (Addr.add t18 1) = some (.int .i64 t20_2) ∧
 SpecH PP F_slices_Clone_byte_byte [(.slice t15 t15n t15c)] h1 (fun v_4 h11 => ∃ (t16_3 : OA) (t16_3n t16_3c : Nat), v_4 = (.slice t16_3 t16_3n t16_3c) ∧
 let t22_3 : Addr := ⟨Array.size h11, 0, none⟩
 let h12 : Heap := Array.push h11 (.cells #[(.slice t16_3 t16_3n t16_3c), (.int .i64 t20_2)] T_disk_file (0, 0))
 hwp PP (Instr.mapUpdate T_map_p_disk_file_p_disk_file (.map t10_3) (.pointer f0) (.pointer (some t22_3))) (fun _ h13 =>
 J1 f0 t1 Q h13) h12)) ∧
 True) ∧
 (
 SpecH PP F_slices_Clone_byte_byte [(.slice t15 t15n t15c)] h1 (fun v_3 h8 => ∃ (t16_2 : OA) (t16_2n t16_2c : Nat), v_3 = (.slice t16_2 t16_2n t16_2c) ∧
 ∃ (t10_2 : ON), cellH h8 t1 = some (.map t10_2) ∧
 ∃ (t20_1 : Int), cellH h8 (Addr.add t18 1) = some (.int .i64 t20_1) ∧
 let t22_2 : Addr := ⟨Array.size h8, 0, none⟩
 let h9 : Heap := Array.push h8 (.cells #[(.slice t16_2 t16_2n t16_2c), (.int .i64 t20_1)] T_disk_file (0, 0))
 hwp PP (Instr.mapUpdate T_map_p_disk_file_p_disk_file (.map t10_2) (.pointer f0) (.pointer (some t22_2))) (fun _ h10 =>
 J1 f0 t1 Q h10) h9)) ∧
 (
 ∃ (t20 : Int), cellH h1 (Addr.add t18 1) = some (.int .i64 t20) ∧
 (
 ∃ (t10_1 : ON), cellH h1 t1 = some (.map t10_1) ∧
 SpecH PP F_slices_Clone_byte_byte [(.slice t15 t15n t15c)] h1 (fun v_2 h5 => ∃ (t16_1 : OA) (t16_1n t16_1c : Nat), v_2 = (.slice t16_1 t16_1n t16_1c) ∧
 let t22_1 : Addr := ⟨Array.size h5, 0, none⟩
 let h6 : Heap := Array.push h5 (.cells #[(.slice t16_1 t16_1n t16_1c), (.int .i64 t20)] T_disk_file (0, 0))
 hwp PP (Instr.mapUpdate T_map_p_disk_file_p_disk_file (.map t10_1) (.pointer f0) (.pointer (some t22_1))) (fun _ h7 =>
 J1 f0 t1 Q h7) h6)) ∧
 (
 SpecH PP F_slices_Clone_byte_byte [(.slice t15 t15n t15c)] h1 (fun v_1 h2 => ∃ (t16 : OA) (t16n t16c : Nat), v_1 = (.slice t16 t16n t16c) ∧
 ∃ (t10 : ON), cellH h2 t1 = some (.map t10) ∧
 let t22 : Addr := ⟨Array.size h2, 0, none⟩
 let h3 : Heap := Array.push h2 (.cells #[(.slice t16 t16n t16c), (.int .i64 t20)] T_disk_file (0, 0))
 hwp PP (Instr.mapUpdate T_map_p_disk_file_p_disk_file (.map t10) (.pointer f0) (.pointer (some t22))) (fun _ h4 =>
 J1 f0 t1 Q h4) h3)) ∧
 True) ∧
 True))) (
 J1 f0 t1 Q h1)) h)) : SpecH PP F_disk_Disk_Clone_1 [(.pointer f0), (.pointer (some t1))] h Q :=
   spec_of_txt (ann := ann) Try.func33 rfl rfl (by kernel_rfl) H
end disk_Disk_Clone_1
/-! ### slices.Clone[[]byte,byte]: function 34 -/
namespace slices_Clone_byte_byte
def ann : Ann := (.seq 1 (.region [(List.range 1, 1)]) (.seq 1 (.seq 17 (.region [(List.range 2, 17)]) (.cond (.seq 4 (.region [(List.range 1, 4)]) (.exit 4)) .leaf)) (.seq 4 (.region [(List.range 4, 4)]) (.exit 4))))
noncomputable abbrev cd (n : Nat) : Code := sub (bodyOf Try.f34) (pth n)
abbrev an (n : Nat) : Ann := subA ann (pth n)
theorem door {s0 : OA} {s0n s0c : Nat} {Q : VP} {h : Heap} (H :
 let t4 : Bool := (Option.isNone s0)
 br t4 (
 Q (.slice none 0 0) h) (
 let h1 : Heap := Array.push h (.cells #[] T_uint8 (0, 0))
 hwp PP (Builtin.append_ #[T_sl_uint8, T_sl_uint8] T_sl_uint8 #[(.slice (some ⟨Array.size h, 0, none⟩) 0 0), (.slice s0 s0n s0c)]) (fun v h2 => ∃ (t7 : OA) (t7n t7c : Nat), v = (.slice t7 t7n t7c) ∧
 Q (.slice t7 t7n t7c) h2) h1)) : SpecH PP F_slices_Clone_byte_byte [(.slice s0 s0n s0c)] h Q :=
   spec_of_txt (ann := ann) Try.func34 rfl rfl (by kernel_rfl) H
end slices_Clone_byte_byte
/-! ### haversack/haversackref09.without: function 35 -/
namespace ref09_without
def ann : Ann := (.seq 3 (.region [(List.range 1, 3)]) (.seq 35 (.region [(List.range 1, 35)]) (.seq 32 (.seq 99 (.region [(List.range 1, 99)]) (.block (.loop 99 (.seq 99 (.seq 1123 (.region [(List.range 4, 1123)]) (.cond .leaf (.exit 32))) (.seq 99 (.block (.seq 524387 (.region [(List.range 7, 524387)]) (.cond (.region [(List.range 8, 99)]) .leaf))) (.join (.region [(List.range 3, 99)]))))))) (.seq 16 (.region [(List.range 2, 16)]) (.exit 16)))))
noncomputable abbrev cd (n : Nat) : Code := sub (bodyOf Try.f35) (pth n)
abbrev an (n : Nat) : Ann := subA ann (pth n)
@[irreducible] def X0 (out5 : OA) (out5n out5c : Nat) : Fr := (mkFr 0 28 [(5, (.slice out5 out5n out5c))])
@[irreducible] def L1 (xl0 : OA) (xl0n xl0c : Nat) (name1 : ByteArray) (out5 : OA) (out5n out5c : Nat) (i6 : Int) (K : EP) (h : Heap) : Prop := Lp PP true (cd 116) (mkFr 0 28 [(0, (.slice xl0 xl0n xl0c)), (1, (.string name1)), (5, (.slice out5 out5n out5c)), (6, (.int .i64 i6))]) K h
@[irreducible] def B1 (K : EP) : EP := seqK (fun fr h => Lp PP true (cd 116) (fr.mask 99) K h) K
@[irreducible] def J1 (xl0 : OA) (xl0n xl0c : Nat) (name1 : ByteArray) (out5 : OA) (out5n out5c : Nat) (i6 : Int) (K : EP) (h : Heap) : Prop := Jn PP true (cd 467) (mkFr 0 28 [(0, (.slice xl0 xl0n xl0c)), (1, (.string name1)), (5, (.slice out5 out5n out5c)), (6, (.int .i64 i6))]) (B1 K) h
@[irreducible] def K2 (Q : VP) : EP := seqK (fun fr h => ev PP true none (cd 15) (an 15) (fr.mask 32) (bodyK PP Try.f35 Q) h) (bodyK PP Try.f35 Q)
@[irreducible] def K1 (Q : VP) : EP := blockK 0 (K2 Q)
theorem L1_of {xl0 : OA} {xl0n xl0c : Nat} {name1 : ByteArray} {out5 : OA} {out5n out5c : Nat} {i6 : Int} {K : EP} {h : Heap} (H :
 let t10 : Bool := decide (i6 < (xl0n : Int))
 br t10 (
 hwp PP (Instr.indexAt T_sl_haversackref09_Named (.slice xl0 xl0n xl0c) (.int .i64 i6)) (fun v h1 => ∃ (t15 : Addr), v = (.pointer (some t15)) ∧
 ∃ (t17 : ByteArray), cellH h1 t15 = some (.string t17) ∧
 let t19 : Bool := (!decide (t17 = name1))
 br t19 (
 hwp PP (Instr.indexAt T_sl_haversackref09_Named (.slice xl0 xl0n xl0c) (.int .i64 i6)) (fun v_1 h2 => ∃ (t23 : Addr), v_1 = (.pointer (some t23)) ∧
 ∃ (t24f0 : ByteArray) (t24f1 : Int), rdCells h2 t23 0 [(.string t24f0), (.int .i64 t24f1)] ∧
 let h3 : Heap := Array.push h2 (.cells #[(.string t24f0), (.int .i64 t24f1)] T_haversackref09_Named (0, 0))
 hwp PP (Builtin.append_ #[T_sl_haversackref09_Named, T_sl_haversackref09_Named] T_sl_haversackref09_Named #[(.slice out5 out5n out5c), (.slice (some ⟨Array.size h2, 0, none⟩) 1 1)]) (fun v_2 h4 => ∃ (t26 : OA) (t26n t26c : Nat), v_2 = (.slice t26 t26n t26c) ∧
 J1 xl0 xl0n xl0c name1 t26 t26n t26c i6 K h4) h3) h1) (
 J1 xl0 xl0n xl0c name1 out5 out5n out5c i6 K h1)) h) (
 K (.exit 0) (X0 out5 out5n out5c) h)) : L1 xl0 xl0n xl0c name1 out5 out5n out5c i6 K h := by unfold L1; exact Lp.of_txt (an 116) 99 (by kernel_rfl) H
theorem L1_X0 {Q : VP} {out5 : OA} {out5n out5c : Nat} {h : Heap} (H :
 Q (.slice out5 out5n out5c) h) : (K1 Q) (.exit 0) (X0 out5 out5n out5c) h := of_eq_txt (by kernel_rfl) H
theorem J1_of {xl0 : OA} {xl0n xl0c : Nat} {name1 : ByteArray} {out5 : OA} {out5n out5c : Nat} {i6 : Int} {K : EP} {h : Heap} (H :
 let t12 : Int := IntKind.i64.wrap (i6 + 1)
 L1 xl0 xl0n xl0c name1 out5 out5n out5c t12 K h) : J1 xl0 xl0n xl0c name1 out5 out5n out5c i6 K h := by unfold J1; exact Jn.of_txt (an 467) (by kernel_rfl) H
theorem door {xl0 : OA} {xl0n xl0c : Nat} {name1 : ByteArray} {Q : VP} {h : Heap} (H :
 L1 xl0 xl0n xl0c name1 none 0 0 0 (K1 Q) h) : SpecH PP F_ref09_without [(.slice xl0 xl0n xl0c), (.string name1)] h Q :=
   spec_of_txt (ann := ann) Try.func35 rfl rfl (by kernel_rfl) H
end ref09_without
/-! ### (*haversack/haversackref09.Disk).Create: function 36 -/
namespace ref09_Disk_Create
def ann : Ann := (.seq 3 (.region [(List.range 1, 3)]) (.seq 3 (.block (.seq 35 (.region [(List.range 3, 35)]) (.cond (.seq 16 (.region [(List.range 1, 16)]) (.exit 16)) (.seq 259 (.region [(List.range 4, 259)]) (.cond (.seq 16 (.region [(List.range 1, 16)]) (.exit 16)) (.seq 4099 (.region [(List.range 8, 4099)]) (.cond (.seq 16 (.region [(List.range 1, 16)]) (.exit 16)) (.seq 1048579 (.region [(List.range 7, 1048579)]) (.cond (.seq 16 (.region [(List.range 1, 16)]) (.exit 16)) .leaf))))))))) (.seq 3 (.region [(List.range 11, 3)]) (.seq 16 (.region [(List.range 11, 16)]) (.exit 16)))))
noncomputable abbrev cd (n : Nat) : Code := sub (bodyOf Try.f36) (pth n)
abbrev an (n : Nat) : Ann := subA ann (pth n)
theorem door {d0 : OA} {name1 : ByteArray} {Q : VP} {h : Heap} (H :
 SpecH PP F_ref09_Disk_Down [(.pointer d0)] h (fun v h1 => ∃ (t7 : Bool), v = (.bool t7) ∧
 br t7 (
 Q (.int .i64 94) h1) (
 SpecH PP F_ref09_Name [(.string name1)] h1 (fun v_1 h2 => ∃ (t10 : Bool), v_1 = (.bool t10) ∧
 let t11 : Bool := (!t10)
 br t11 (
 Q (.int .i64 90) h2) (
 nilc d0 (fun t14 =>
 ∃ (t16 : OA) (t16n t16c : Nat), cellH h2 (Addr.add t14 2) = some (.slice t16 t16n t16c) ∧
 SpecH PP F_ref09_find [(.slice t16 t16n t16c), (.string name1)] h2 (fun v_2 h3 => ∃ (t18 : Int), v_2 = (.int .i64 t18) ∧
 let t19 : Bool := decide (t18 ≥ 0)
 br t19 (
 Q (.int .i64 91) h3) (
 nilc d0 (fun t22 =>
 ∃ (t24 : OA) (t24n t24c : Nat), cellH h3 (Addr.add t22 2) = some (.slice t24 t24n t24c) ∧
 let t26 : Bool := decide ((t24n : Int) ≥ 64)
 br t26 (
 Q (.int .i64 95) h3) (
 nilc d0 (fun t29 =>
 ∃ (t31 : OA) (t31n t31c : Nat), cellH h3 (Addr.add t29 1) = some (.slice t31 t31n t31c) ∧
 let h4 : Heap := Array.push h3 (.cells #[(.slice none 0 0), (.int .i64 0)] T_haversackref09_File (0, 0))
 hwp PP (Builtin.append_ #[T_sl_haversackref09_File, T_sl_haversackref09_File] T_sl_haversackref09_File #[(.slice t31 t31n t31c), (.slice (some ⟨Array.size h3, 0, none⟩) 1 1)]) (fun v_3 h5 => ∃ (t34 : OA) (t34n t34c : Nat), v_3 = (.slice t34 t34n t34c) ∧
 nilc d0 (fun t35 =>
 wr (Addr.add t35 1) (.slice t34 t34n t34c) (fun h6 =>
 nilc d0 (fun t40 =>
 ∃ (t42 : OA) (t42n t42c : Nat), cellH h6 (Addr.add t40 1) = some (.slice t42 t42n t42c) ∧
 let t44 : Int := IntKind.i64.wrap ((t42n : Int) - 1)
 SpecH PP F_ref09_Disk_change [(.pointer d0), (.agg #[(.int .i64 1), (.string (⟨#[]⟩ : ByteArray)), (.string name1), (.int .i64 t44)])] h6 (fun v_4 h7 => ∃ (t46 : Int), v_4 = (.int .i64 t46) ∧
 Q (.int .i64 t46) h7))) h5)) h4))))))))))) : SpecH PP F_ref09_Disk_Create [(.pointer d0), (.string name1)] h Q :=
   spec_of_txt (ann := ann) Try.func36 rfl rfl (by kernel_rfl) H
end ref09_Disk_Create
/-! ### haversack/haversackkeep.Lend: function 37 -/
namespace keep_Lend
def ann : Ann := (.seq 1 (.region [(List.range 1, 1)]) (.seq 9 (.region [(List.range 5, 9)]) (.seq 9 (.region [(List.range 3, 9)]) (.seq 9 (.region [(List.range 5, 9)]) (.seq 9 (.region [(List.range 6, 9)]) (.seq 4 (.region [(List.range 5, 4)]) (.exit 4)))))))
noncomputable abbrev cd (n : Nat) : Code := sub (bodyOf Try.f37) (pth n)
abbrev an (n : Nat) : Ann := subA ann (pth n)
theorem door {b0 : OA} {b0n b0c : Nat} {Q : VP} {h : Heap} (H :
 let t6 : Int := IntKind.i64.wrap ((b0n : Int) + 2)
 hwp PP (Instr.makeSlice T_sl_uint8 (.int .i64 t6) (.int .i64 t6)) (fun v h1 => ∃ (t7 : OA) (t7n t7c : Nat), v = (.slice t7 t7n t7c) ∧
 hwp PP (Builtin.copy_ #[T_sl_uint8, T_sl_uint8] T_int #[(.slice t7 t7n t7c), (.slice b0 b0n b0c)]) (fun v_1 h2 => ∃ (t10 : Int), v_1 = (.int .i64 t10) ∧
 hwp PP (Instr.indexAt T_sl_uint8 (.slice t7 t7n t7c) (.int .i64 (b0n : Int))) (fun v_2 h3 => ∃ (t14 : Addr), v_2 = (.pointer (some t14)) ∧
 wr t14 (.int .u8 165) (fun h4 =>
 let t18 : Int := IntKind.i64.wrap ((b0n : Int) + 1)
 hwp PP (Instr.indexAt T_sl_uint8 (.slice t7 t7n t7c) (.int .i64 t18)) (fun v_3 h5 => ∃ (t19 : Addr), v_3 = (.pointer (some t19)) ∧
 wr t19 (.int .u8 90) (fun h6 =>
 hwp PP (Instr.sliceAt T_sl_uint8 (.slice t7 t7n t7c) none (some (.int .i64 (b0n : Int))) none) (fun v_4 h7 => ∃ (t23 : OA) (t23n t23c : Nat), v_4 = (.slice t23 t23n t23c) ∧
 Q (.slice t23 t23n t23c) h7) h6) h5) h4) h3) h2) h1) h) : SpecH PP F_keep_Lend [(.slice b0 b0n b0c)] h Q :=
   spec_of_txt (ann := ann) Try.func37 rfl rfl (by kernel_rfl) H
end keep_Lend
/-! ### haversack/haversackkeep.Back: function 38 -/
namespace keep_Back
def ann : Ann := (.seq 3 (.region [(List.range 1, 3)]) (.seq 35 (.region [(List.range 6, 35)]) (.seq 99 (.region [(List.range 16, 99)]) (.join (.seq 96 (.seq 227 (.region [(List.range 1, 227)]) (.block (.loop 227 (.seq 227 (.seq 4294967523 (.region [(List.range 4, 4294967523)]) (.cond .leaf (.exit 96))) (.seq 227 (.block (.region [(List.range 13, 227)])) (.join (.region [(List.range 3, 227)]))))))) (.seq 64 (.seq 352 (.region [(List.range 1, 352)]) (.block (.loop 352 (.seq 352 (.seq 1125899906842976 (.region [(List.range 4, 1125899906842976)]) (.cond .leaf (.exit 64))) (.seq 352 (.block (.region [(List.range 9, 352)])) (.region [(List.range 3, 352)])))))) (.seq 16 (.region [(List.range 2, 16)]) (.exit 16))))))))
noncomputable abbrev cd (n : Nat) : Code := sub (bodyOf Try.f38) (pth n)
abbrev an (n : Nat) : Ann := subA ann (pth n)
@[irreducible] def X0 (all5 : OA) (all5n all5c : Nat) (ok6 : Bool) : Fr := (mkFr 0 62 [(5, (.slice all5 all5n all5c)), (6, (.bool ok6))])
@[irreducible] def X2 (ok6 : Bool) : Fr := (mkFr 0 62 [(6, (.bool ok6))])
@[irreducible] def J1 (x0 : OA) (x0n x0c : Nat) (b1 : OA) (b1n b1c : Nat) (all5 : OA) (all5n all5c : Nat) (ok6 : Bool) (Q : VP) (h : Heap) : Prop := Jn PP true (cd 15) (mkFr 0 62 [(0, (.slice x0 x0n x0c)), (1, (.slice b1 b1n b1c)), (5, (.slice all5 all5n all5c)), (6, (.bool ok6))]) (bodyK PP Try.f38 Q) h
@[irreducible] def K2 (Q : VP) : EP := seqK (fun fr h => ev PP true none (cd 31) (an 31) (fr.mask 96) (bodyK PP Try.f38 Q) h) (bodyK PP Try.f38 Q)
@[irreducible] def K1 (Q : VP) : EP := blockK 0 (K2 Q)
@[irreducible] def L1 (x0 : OA) (x0n x0c : Nat) (b1 : OA) (b1n b1c : Nat) (all5 : OA) (all5n all5c : Nat) (ok6 : Bool) (i7 : Int) (K : EP) (h : Heap) : Prop := Lp PP true (cd 244) (mkFr 0 62 [(0, (.slice x0 x0n x0c)), (1, (.slice b1 b1n b1c)), (5, (.slice all5 all5n all5c)), (6, (.bool ok6)), (7, (.int .i64 i7))]) K h
@[irreducible] def B1 (K : EP) : EP := seqK (fun fr h => Lp PP true (cd 244) (fr.mask 227) K h) K
@[irreducible] def J2 (x0 : OA) (x0n x0c : Nat) (b1 : OA) (b1n b1c : Nat) (all5 : OA) (all5n all5c : Nat) (ok6 : Bool) (i7 : Int) (K : EP) (h : Heap) : Prop := Jn PP true (cd 979) (mkFr 0 62 [(0, (.slice x0 x0n x0c)), (1, (.slice b1 b1n b1c)), (5, (.slice all5 all5n all5c)), (6, (.bool ok6)), (7, (.int .i64 i7))]) (B1 K) h
@[irreducible] def K4 (Q : VP) : EP := seqK (fun fr h => ev PP true none (cd 63) (an 63) (fr.mask 64) (bodyK PP Try.f38 Q) h) (bodyK PP Try.f38 Q)
@[irreducible] def K3 (Q : VP) : EP := blockK 2 (K4 Q)
@[irreducible] def L2 (all5 : OA) (all5n all5c : Nat) (ok6 : Bool) (i8 : Int) (K : EP) (h : Heap) : Prop := Lp PP true (cd 500) (mkFr 0 62 [(5, (.slice all5 all5n all5c)), (6, (.bool ok6)), (8, (.int .i64 i8))]) K h
@[irreducible] def B2 (K : EP) : EP := seqK (fun fr h => Lp PP true (cd 500) (fr.mask 352) K h) K
theorem J1_of {x0 : OA} {x0n x0c : Nat} {b1 : OA} {b1n b1c : Nat} {all5 : OA} {all5n all5c : Nat} {ok6 : Bool} {Q : VP} {h : Heap} (H :
 L1 x0 x0n x0c b1 b1n b1c all5 all5n all5c ok6 0 (K1 Q) h) : J1 x0 x0n x0c b1 b1n b1c all5 all5n all5c ok6 Q h := by unfold J1; exact Jn.of_txt (an 15) (by kernel_rfl) H
theorem L1_of {x0 : OA} {x0n x0c : Nat} {b1 : OA} {b1n b1c : Nat} {all5 : OA} {all5n all5c : Nat} {ok6 : Bool} {i7 : Int} {K : EP} {h : Heap} (H :
 let t32 : Bool := decide (i7 < (b1n : Int))
 br t32 (
 br ok6 (
 hwp PP (Instr.indexAt T_sl_uint8 (.slice x0 x0n x0c) (.int .i64 i7)) (fun v h1 => ∃ (t39 : Addr), v = (.pointer (some t39)) ∧
 ∃ (t40 : Int), cellH h1 t39 = some (.int .u8 t40) ∧
 hwp PP (Instr.indexAt T_sl_uint8 (.slice b1 b1n b1c) (.int .i64 i7)) (fun v_1 h2 => ∃ (t43 : Addr), v_1 = (.pointer (some t43)) ∧
 ∃ (t44 : Int), cellH h2 t43 = some (.int .u8 t44) ∧
 let t45 : Bool := (t40 == t44)
 J2 x0 x0n x0c b1 b1n b1c all5 all5n all5c t45 i7 K h2) h1) h) (
 J2 x0 x0n x0c b1 b1n b1c all5 all5n all5c false i7 K h)) (
 K (.exit 0) (X0 all5 all5n all5c ok6) h)) : L1 x0 x0n x0c b1 b1n b1c all5 all5n all5c ok6 i7 K h := by unfold L1; exact Lp.of_txt (an 244) 227 (by kernel_rfl) H
theorem L1_X0 {Q : VP} {all5 : OA} {all5n all5c : Nat} {ok6 : Bool} {h : Heap} (H :
 L2 all5 all5n all5c ok6 0 (K3 Q) h) : (K1 Q) (.exit 0) (X0 all5 all5n all5c ok6) h := of_eq_txt (by kernel_rfl) H
theorem J2_of {x0 : OA} {x0n x0c : Nat} {b1 : OA} {b1n b1c : Nat} {all5 : OA} {all5n all5c : Nat} {ok6 : Bool} {i7 : Int} {K : EP} {h : Heap} (H :
 let t34 : Int := IntKind.i64.wrap (i7 + 1)
 L1 x0 x0n x0c b1 b1n b1c all5 all5n all5c ok6 t34 K h) : J2 x0 x0n x0c b1 b1n b1c all5 all5n all5c ok6 i7 K h := by unfold J2; exact Jn.of_txt (an 979) (by kernel_rfl) H
theorem L2_of {all5 : OA} {all5n all5c : Nat} {ok6 : Bool} {i8 : Int} {K : EP} {h : Heap} (H :
 let t50 : Bool := decide (i8 < (all5n : Int))
 br t50 (
 hwp PP (Instr.indexAt T_sl_uint8 (.slice all5 all5n all5c) (.int .i64 i8)) (fun v h1 => ∃ (t57 : Addr), v = (.pointer (some t57)) ∧
 ∃ (t58 : Int), cellH h1 t57 = some (.int .u8 t58) ∧
 let t59 : Int := IntKind.u8.wrap (t58 + 77)
 hwp PP (Instr.indexAt T_sl_uint8 (.slice all5 all5n all5c) (.int .i64 i8)) (fun v_1 h2 => ∃ (t60 : Addr), v_1 = (.pointer (some t60)) ∧
 wr t60 (.int .u8 t59) (fun h3 =>
 let t52 : Int := IntKind.i64.wrap (i8 + 1)
 L2 all5 all5n all5c ok6 t52 K h3) h2) h1) h) (
 K (.exit 2) (X2 ok6) h)) : L2 all5 all5n all5c ok6 i8 K h := by unfold L2; exact Lp.of_txt (an 500) 352 (by kernel_rfl) H
theorem L2_X2 {Q : VP} {ok6 : Bool} {h : Heap} (H :
 Q (.bool ok6) h) : (K3 Q) (.exit 2) (X2 ok6) h := of_eq_txt (by kernel_rfl) H
theorem door {x0 : OA} {x0n x0c : Nat} {b1 : OA} {b1n b1c : Nat} {Q : VP} {h : Heap} (H :
 let t12 : Int := IntKind.i64.wrap ((b1n : Int) + 2)
 hwp PP (Instr.sliceAt T_sl_uint8 (.slice x0 x0n x0c) none (some (.int .i64 t12)) none) (fun v h1 => ∃ (t13 : OA) (t13n t13c : Nat), v = (.slice t13 t13n t13c) ∧
 hwp PP (Instr.indexAt T_sl_uint8 (.slice t13 t13n t13c) (.int .i64 (b1n : Int))) (fun v_1 h2 => ∃ (t17 : Addr), v_1 = (.pointer (some t17)) ∧
 ∃ (t18 : Int), cellH h2 t17 = some (.int .u8 t18) ∧
 let t19 : Bool := (t18 == 165)
 br t19 (
 let t24 : Int := IntKind.i64.wrap ((b1n : Int) + 1)
 hwp PP (Instr.indexAt T_sl_uint8 (.slice t13 t13n t13c) (.int .i64 t24)) (fun v_2 h3 => ∃ (t25 : Addr), v_2 = (.pointer (some t25)) ∧
 ∃ (t26 : Int), cellH h3 t25 = some (.int .u8 t26) ∧
 let t27 : Bool := (t26 == 90)
 J1 x0 x0n x0c b1 b1n b1c t13 t13n t13c t27 Q h3) h2) (
 J1 x0 x0n x0c b1 b1n b1c t13 t13n t13c false Q h2)) h1) h) : SpecH PP F_keep_Back [(.slice x0 x0n x0c), (.slice b1 b1n b1c)] h Q :=
   spec_of_txt (ann := ann) Try.func38 rfl rfl (by kernel_rfl) H
end keep_Back
/-! ### (*haversack/haversackref09.Disk).Append: function 39 -/
namespace ref09_Disk_Append
def ann : Ann := (.seq 7 (.region [(List.range 1, 7)]) (.seq 7 (.seq 1031 (.region [(List.range 2, 1031)]) (.cond (.seq 64 (.region [(List.range 1, 64)]) (.exit 64)) .leaf)) (.seq 133 (.region [(List.range 4, 133)]) (.seq 133 (.seq 32901 (.region [(List.range 2, 32901)]) (.cond (.seq 64 (.region [(List.range 1, 64)]) (.exit 64)) .leaf)) (.seq 133 (.seq 33554565 (.tree (.run [0, 1, 2, 3, 4, 6] (.alt 5 (.run [7, 8, 9] .done) (.alt 7 (.run [5, 8, 9] .done) .nil))) 33554565) (.join (.cond (.seq 64 (.region [(List.range 1, 64)]) (.exit 64)) .leaf))) (.seq 389 (.region [(List.range 1, 389)]) (.seq 389 (.region [(List.range 11, 389)]) (.seq 1 (.tree (.run [0, 1, 2, 4, 5, 6] (.alt 3 (.run [7, 8, 9, 10] .done) (.alt 7 (.run [3, 8, 9, 10] .done) .nil))) 1) (.join (.seq 64 (.region [(List.range 3, 64)]) (.exit 64)))))))))))
noncomputable abbrev cd (n : Nat) : Code := sub (bodyOf Try.f39) (pth n)
abbrev an (n : Nat) : Ann := subA ann (pth n)
@[irreducible] def K1 (Q : VP) : EP := seqK (fun fr h => ev PP true none (cd 63) (an 63) (fr.mask 133) (bodyK PP Try.f39 Q) h) (bodyK PP Try.f39 Q)
@[irreducible] def J1 (d0 b2 : OA) (b2n b2c : Nat) (k7 : Int) (t25 : Bool) (Q : VP) (h : Heap) : Prop := Jn PP true (cd 125) (mkFr 0 48 [(0, (.pointer d0)), (2, (.slice b2 b2n b2c)), (7, (.int .i64 k7)), (25, (.bool t25))]) (K1 Q) h
@[irreducible] def J2 (d0 : OA) (Q : VP) (h : Heap) : Prop := Jn PP true (cd 511) (mkFr 0 48 [(0, (.pointer d0))]) (bodyK PP Try.f39 Q) h
theorem J1_of {d0 b2 : OA} {b2n b2c : Nat} {k7 : Int} {t25 : Bool} {Q : VP} {h : Heap} (H :
 br t25 (
 Q (.int .i64 93) h) (
 nilc d0 (fun t28 =>
 ∃ (t30 : OA) (t30n t30c : Nat), cellH h (Addr.add t28 1) = some (.slice t30 t30n t30c) ∧
 hwp PP (Instr.indexAt T_sl_haversackref09_File (.slice t30 t30n t30c) (.int .i64 k7)) (fun v h1 => ∃ (t32 : Addr), v = (.pointer (some t32)) ∧
 ∃ (t34 : OA) (t34n t34c : Nat), cellH h1 t32 = some (.slice t34 t34n t34c) ∧
 hwp PP (Builtin.append_ #[T_sl_uint8, T_sl_uint8] T_sl_uint8 #[(.slice none 0 0), (.slice t34 t34n t34c)]) (fun v_1 h2 => ∃ (t35 : OA) (t35n t35c : Nat), v_1 = (.slice t35 t35n t35c) ∧
 nilc d0 (fun t37 =>
 (
 ∃ (t39_1 : OA) (t39_1n t39_1c : Nat), cellH h2 (Addr.add t37 1) = some (.slice t39_1 t39_1n t39_1c) ∧
 hwp PP (Builtin.append_ #[T_sl_uint8, T_sl_uint8] T_sl_uint8 #[(.slice t35 t35n t35c), (.slice b2 b2n b2c)]) (fun v_4 h6 => ∃ (t43_1 : OA) (t43_1n t43_1c : Nat), v_4 = (.slice t43_1 t43_1n t43_1c) ∧
 hwp PP (Instr.indexAt T_sl_haversackref09_File (.slice t39_1 t39_1n t39_1c) (.int .i64 k7)) (fun v_5 h7 => ∃ (t44_1 : Addr), v_5 = (.pointer (some t44_1)) ∧
 wr t44_1 (.slice t43_1 t43_1n t43_1c) (fun h8 =>
 J2 d0 Q h8) h7) h6) h2) ∧
 (
 hwp PP (Builtin.append_ #[T_sl_uint8, T_sl_uint8] T_sl_uint8 #[(.slice t35 t35n t35c), (.slice b2 b2n b2c)]) (fun v_2 h3 => ∃ (t43 : OA) (t43n t43c : Nat), v_2 = (.slice t43 t43n t43c) ∧
 ∃ (t39 : OA) (t39n t39c : Nat), cellH h3 (Addr.add t37 1) = some (.slice t39 t39n t39c) ∧
 hwp PP (Instr.indexAt T_sl_haversackref09_File (.slice t39 t39n t39c) (.int .i64 k7)) (fun v_3 h4 => ∃ (t44 : Addr), v_3 = (.pointer (some t44)) ∧
 wr t44 (.slice t43 t43n t43c) (fun h5 =>
 J2 d0 Q h5) h4) h3) h2) ∧
 True)) h1) h))) : J1 d0 b2 b2n b2c k7 t25 Q h := by unfold J1; exact Jn.of_txt (an 125) (by kernel_rfl) H
theorem J2_of {d0 : OA} {Q : VP} {h : Heap} (H :
 SpecH PP F_ref09_Disk_step [(.pointer d0)] h (fun v h1 => ∃ (t47 : Int), v = (.int .i64 t47) ∧
 Q (.int .i64 t47) h1)) : J2 d0 Q h := by unfold J2; exact Jn.of_txt (an 511) (by kernel_rfl) H
theorem door {d0 : OA} {name1 : ByteArray} {b2 : OA} {b2n b2c : Nat} {Q : VP} {h : Heap} (H :
 SpecH PP F_ref09_Disk_Down [(.pointer d0)] h (fun v h1 => ∃ (t10 : Bool), v = (.bool t10) ∧
 br t10 (
 Q (.int .i64 94) h1) (
 SpecH PP F_ref09_Disk_file [(.pointer d0), (.string name1)] h1 (fun v_1 h2 => ∃ (t13 : Int), v_1 = (.int .i64 t13) ∧
 let t15 : Bool := decide (t13 < 0)
 br t15 (
 Q (.int .i64 92) h2) (
 nilc d0 (fun t19 =>
 (
 ∃ (t21_1 : Int), cellH h2 t19 = some (.int .i64 t21_1) ∧
 SpecH PP F_ref09_Disk_Used [(.pointer d0)] h2 (fun v_3 h4 => ∃ (t23_1 : Int), v_3 = (.int .i64 t23_1) ∧
 let t24_1 : Int := IntKind.i64.wrap (t21_1 - t23_1)
 let t25_1 : Bool := decide ((b2n : Int) > t24_1)
 J1 d0 b2 b2n b2c t13 t25_1 Q h4)) ∧
 (
 SpecH PP F_ref09_Disk_Used [(.pointer d0)] h2 (fun v_2 h3 => ∃ (t23 : Int), v_2 = (.int .i64 t23) ∧
 ∃ (t21 : Int), cellH h3 t19 = some (.int .i64 t21) ∧
 let t24 : Int := IntKind.i64.wrap (t21 - t23)
 let t25 : Bool := decide ((b2n : Int) > t24)
 J1 d0 b2 b2n b2c t13 t25 Q h3)) ∧
 True)))))) : SpecH PP F_ref09_Disk_Append [(.pointer d0), (.string name1), (.slice b2 b2n b2c)] h Q :=
   spec_of_txt (ann := ann) Try.func39 rfl rfl (by kernel_rfl) H
end ref09_Disk_Append
/-! ### (*haversack/haversackref09.Disk).Sync: function 40 -/
namespace ref09_Disk_Sync
def ann : Ann := (.seq 3 (.region [(List.range 1, 3)]) (.seq 3 (.seq 131 (.region [(List.range 2, 131)]) (.cond (.seq 16 (.region [(List.range 1, 16)]) (.exit 16)) .leaf)) (.seq 33 (.region [(List.range 4, 33)]) (.seq 33 (.seq 4129 (.region [(List.range 2, 4129)]) (.cond (.seq 16 (.region [(List.range 1, 16)]) (.exit 16)) .leaf)) (.seq 1 (.region [(List.range 17, 1)]) (.seq 16 (.region [(List.range 3, 16)]) (.exit 16)))))))
noncomputable abbrev cd (n : Nat) : Code := sub (bodyOf Try.f40) (pth n)
abbrev an (n : Nat) : Ann := subA ann (pth n)
theorem door {d0 : OA} {name1 : ByteArray} {Q : VP} {h : Heap} (H :
 SpecH PP F_ref09_Disk_Down [(.pointer d0)] h (fun v h1 => ∃ (t7 : Bool), v = (.bool t7) ∧
 br t7 (
 Q (.int .i64 94) h1) (
 SpecH PP F_ref09_Disk_file [(.pointer d0), (.string name1)] h1 (fun v_1 h2 => ∃ (t10 : Int), v_1 = (.int .i64 t10) ∧
 let t12 : Bool := decide (t10 < 0)
 br t12 (
 Q (.int .i64 92) h2) (
 nilc d0 (fun t14 =>
 ∃ (t16 : OA) (t16n t16c : Nat), cellH h2 (Addr.add t14 1) = some (.slice t16 t16n t16c) ∧
 nilc d0 (fun t19 =>
 ∃ (t21 : OA) (t21n t21c : Nat), cellH h2 (Addr.add t19 1) = some (.slice t21 t21n t21c) ∧
 hwp PP (Instr.indexAt T_sl_haversackref09_File (.slice t21 t21n t21c) (.int .i64 t10)) (fun v_2 h3 => ∃ (t23 : Addr), v_2 = (.pointer (some t23)) ∧
 ∃ (t25 : OA) (t25n t25c : Nat), cellH h3 t23 = some (.slice t25 t25n t25c) ∧
 hwp PP (Instr.indexAt T_sl_haversackref09_File (.slice t16 t16n t16c) (.int .i64 t10)) (fun v_3 h4 => ∃ (t27 : Addr), v_3 = (.pointer (some t27)) ∧
 wr (Addr.add t27 1) (.int .i64 (t25n : Int)) (fun h5 =>
 SpecH PP F_ref09_Disk_step [(.pointer d0)] h5 (fun v_4 h6 => ∃ (t30 : Int), v_4 = (.int .i64 t30) ∧
 Q (.int .i64 t30) h6)) h4) h3) h2))))))) : SpecH PP F_ref09_Disk_Sync [(.pointer d0), (.string name1)] h Q :=
   spec_of_txt (ann := ann) Try.func40 rfl rfl (by kernel_rfl) H
end ref09_Disk_Sync
/-! ### (*haversack/disk.Disk).Rename: function 41 -/
namespace disk_Disk_Rename
def ann : Ann := (.seq 7 (.region [(List.range 1, 7)]) (.seq 391 (.region [(List.range 8, 391)]) (.seq 135 (.block (.seq 33159 (.region [(List.range 3, 33159)]) (.cond (.seq 64 (.region [(List.range 2, 64)]) (.exit 64)) (.seq 524423 (.region [(List.range 4, 524423)]) (.cond (.seq 64 (.region [(List.range 1, 64)]) (.exit 64)) .leaf))))) (.seq 64 (.region [(List.range 7, 64)]) (.exit 64)))))
noncomputable abbrev cd (n : Nat) : Code := sub (bodyOf Try.f41) (pth n)
abbrev an (n : Nat) : Ann := subA ann (pth n)
theorem door {d0 : OA} {from1 to2 : ByteArray} {Q : VP} {h : Heap} (H :
 SpecH PP F_disk_Disk_find [(.pointer d0), (.string from1)] h (fun v h1 => ∃ (t12 : OA) (t12_1 : Int), v = (.tuple #[(.pointer t12), (.int .i64 t12_1)]) ∧
 let t17 : Bool := (t12_1 != 0)
 br t17 (
 Q (.int .i64 t12_1) h1) (
 SpecH PP F_disk_good [(.string to2)] h1 (fun v_1 h2 => ∃ (t21 : Bool), v_1 = (.bool t21) ∧
 let t22 : Bool := (!t21)
 br t22 (
 Q (.int .i64 90) h2) (
 SpecH PP F_disk_Disk_change [(.pointer d0), (.agg #[(.string from1), (.string to2), (.pointer t12)])] h2 (fun v_2 h3 => ∃ (t28 : Int), v_2 = (.int .i64 t28) ∧
 Q (.int .i64 t28) h3)))))) : SpecH PP F_disk_Disk_Rename [(.pointer d0), (.string from1), (.string to2)] h Q :=
   spec_of_txt (ann := ann) Try.func41 rfl rfl (by kernel_rfl) H
end disk_Disk_Rename
/-! ### (*haversack/haversackref09.Disk).Rename: function 42 -/
namespace ref09_Disk_Rename
def ann : Ann := (.seq 7 (.region [(List.range 1, 7)]) (.seq 7 (.seq 519 (.region [(List.range 2, 519)]) (.cond (.seq 64 (.region [(List.range 1, 64)]) (.exit 64)) .leaf)) (.seq 135 (.region [(List.range 4, 135)]) (.seq 135 (.seq 16519 (.region [(List.range 2, 16519)]) (.cond (.seq 64 (.region [(List.range 1, 64)]) (.exit 64)) .leaf)) (.seq 135 (.seq 131207 (.region [(List.range 3, 131207)]) (.cond (.seq 64 (.region [(List.range 1, 64)]) (.exit 64)) .leaf)) (.seq 64 (.region [(List.range 7, 64)]) (.exit 64)))))))
noncomputable abbrev cd (n : Nat) : Code := sub (bodyOf Try.f42) (pth n)
abbrev an (n : Nat) : Ann := subA ann (pth n)
theorem door {d0 : OA} {from1 to2 : ByteArray} {Q : VP} {h : Heap} (H :
 SpecH PP F_ref09_Disk_Down [(.pointer d0)] h (fun v h1 => ∃ (t9 : Bool), v = (.bool t9) ∧
 br t9 (
 Q (.int .i64 94) h1) (
 SpecH PP F_ref09_Disk_file [(.pointer d0), (.string from1)] h1 (fun v_1 h2 => ∃ (t12 : Int), v_1 = (.int .i64 t12) ∧
 let t14 : Bool := decide (t12 < 0)
 br t14 (
 Q (.int .i64 92) h2) (
 SpecH PP F_ref09_Name [(.string to2)] h2 (fun v_2 h3 => ∃ (t16 : Bool), v_2 = (.bool t16) ∧
 let t17 : Bool := (!t16)
 br t17 (
 Q (.int .i64 90) h3) (
 SpecH PP F_ref09_Disk_change [(.pointer d0), (.agg #[(.int .i64 2), (.string from1), (.string to2), (.int .i64 t12)])] h3 (fun v_3 h4 => ∃ (t23 : Int), v_3 = (.int .i64 t23) ∧
 Q (.int .i64 t23) h4)))))))) : SpecH PP F_ref09_Disk_Rename [(.pointer d0), (.string from1), (.string to2)] h Q :=
   spec_of_txt (ann := ann) Try.func42 rfl rfl (by kernel_rfl) H
end ref09_Disk_Rename
/-! ### (*haversack/disk.Disk).Remove: function 43 -/
namespace disk_Disk_Remove
def ann : Ann := (.seq 3 (.region [(List.range 1, 3)]) (.seq 3 (.seq 67 (.region [(List.range 8, 67)]) (.seq 16451 (.region [(List.range 2, 16451)]) (.cond (.seq 16 (.region [(List.range 2, 16)]) (.exit 16)) .leaf))) (.seq 16 (.region [(List.range 5, 16)]) (.exit 16))))
noncomputable abbrev cd (n : Nat) : Code := sub (bodyOf Try.f43) (pth n)
abbrev an (n : Nat) : Ann := subA ann (pth n)
theorem door {d0 : OA} {name1 : ByteArray} {Q : VP} {h : Heap} (H :
 SpecH PP F_disk_Disk_find [(.pointer d0), (.string name1)] h (fun v h1 => ∃ (t10 : OA) (t10_1 : Int), v = (.tuple #[(.pointer t10), (.int .i64 t10_1)]) ∧
 let t14 : Bool := (t10_1 != 0)
 br t14 (
 Q (.int .i64 t10_1) h1) (
 SpecH PP F_disk_Disk_change [(.pointer d0), (.agg #[(.string name1), (.string (⟨#[]⟩ : ByteArray)), (.pointer none)])] h1 (fun v_1 h2 => ∃ (t19 : Int), v_1 = (.int .i64 t19) ∧
 Q (.int .i64 t19) h2)))) : SpecH PP F_disk_Disk_Remove [(.pointer d0), (.string name1)] h Q :=
   spec_of_txt (ann := ann) Try.func43 rfl rfl (by kernel_rfl) H
end disk_Disk_Remove
/-! ### (*haversack/haversackref09.Disk).Remove: function 44 -/
namespace ref09_Disk_Remove
def ann : Ann := (.seq 3 (.region [(List.range 1, 3)]) (.seq 3 (.seq 67 (.region [(List.range 2, 67)]) (.cond (.seq 16 (.region [(List.range 1, 16)]) (.exit 16)) .leaf)) (.seq 3 (.seq 1027 (.region [(List.range 4, 1027)]) (.cond (.seq 16 (.region [(List.range 1, 16)]) (.exit 16)) .leaf)) (.seq 16 (.region [(List.range 5, 16)]) (.exit 16)))))
noncomputable abbrev cd (n : Nat) : Code := sub (bodyOf Try.f44) (pth n)
abbrev an (n : Nat) : Ann := subA ann (pth n)
theorem door {d0 : OA} {name1 : ByteArray} {Q : VP} {h : Heap} (H :
 SpecH PP F_ref09_Disk_Down [(.pointer d0)] h (fun v h1 => ∃ (t6 : Bool), v = (.bool t6) ∧
 br t6 (
 Q (.int .i64 94) h1) (
 SpecH PP F_ref09_Disk_file [(.pointer d0), (.string name1)] h1 (fun v_1 h2 => ∃ (t9 : Int), v_1 = (.int .i64 t9) ∧
 let t10 : Bool := decide (t9 < 0)
 br t10 (
 Q (.int .i64 92) h2) (
 SpecH PP F_ref09_Disk_change [(.pointer d0), (.agg #[(.int .i64 3), (.string name1), (.string (⟨#[]⟩ : ByteArray)), (.int .i64 0)])] h2 (fun v_2 h3 => ∃ (t14 : Int), v_2 = (.int .i64 t14) ∧
 Q (.int .i64 t14) h3)))))) : SpecH PP F_ref09_Disk_Remove [(.pointer d0), (.string name1)] h Q :=
   spec_of_txt (ann := ann) Try.func44 rfl rfl (by kernel_rfl) H
end ref09_Disk_Remove
/-! ### (*haversack/haversackref09.Disk).SyncDir: function 45 -/
namespace ref09_Disk_SyncDir
def ann : Ann := (.seq 1 (.region [(List.range 1, 1)]) (.seq 1 (.seq 17 (.region [(List.range 2, 17)]) (.cond (.seq 4 (.region [(List.range 1, 4)]) (.exit 4)) .leaf)) (.seq 1 (.region [(List.range 9, 1)]) (.seq 1 (.region [(List.range 4, 1)]) (.seq 4 (.region [(List.range 3, 4)]) (.exit 4))))))
noncomputable abbrev cd (n : Nat) : Code := sub (bodyOf Try.f45) (pth n)
abbrev an (n : Nat) : Ann := subA ann (pth n)
theorem door {d0 : OA} {Q : VP} {h : Heap} (H :
 SpecH PP F_ref09_Disk_Down [(.pointer d0)] h (fun v h1 => ∃ (t4 : Bool), v = (.bool t4) ∧
 br t4 (
 Q (.int .i64 94) h1) (
 nilc d0 (fun t7 =>
 ∃ (t9 : OA) (t9n t9c : Nat), cellH h1 (Addr.add t7 2) = some (.slice t9 t9n t9c) ∧
 SpecH PP F_ref09_without [(.slice t9 t9n t9c), (.string (⟨#[]⟩ : ByteArray))] h1 (fun v_1 h2 => ∃ (t10 : OA) (t10n t10c : Nat), v_1 = (.slice t10 t10n t10c) ∧
 nilc d0 (fun t11 =>
 wr (Addr.add t11 3) (.slice t10 t10n t10c) (fun h3 =>
 nilc d0 (fun t14 =>
 wr (Addr.add t14 4) (.slice none 0 0) (fun h4 =>
 SpecH PP F_ref09_Disk_step [(.pointer d0)] h4 (fun v_2 h5 => ∃ (t17 : Int), v_2 = (.int .i64 t17) ∧
 Q (.int .i64 t17) h5)) h3)) h2)))))) : SpecH PP F_ref09_Disk_SyncDir [(.pointer d0)] h Q :=
   spec_of_txt (ann := ann) Try.func45 rfl rfl (by kernel_rfl) H
end ref09_Disk_SyncDir
/-! ### (*haversack/haversackref09.Disk).Stop: function 46 -/
namespace ref09_Disk_Stop
def ann : Ann := (.seq 3 (.region [(List.range 1, 3)]) (.seq 3 (.seq 67 (.region [(List.range 2, 67)]) (.cond (.seq 16 (.region [(List.range 1, 16)]) (.exit 16)) .leaf)) (.seq 3 (.seq 259 (.region [(List.range 2, 259)]) (.cond (.seq 16 (.region [(List.range 1, 16)]) (.exit 16)) .leaf)) (.seq 0 (.region [(List.range 5, 0)]) (.seq 16 (.region [(List.range 1, 16)]) (.exit 16))))))
noncomputable abbrev cd (n : Nat) : Code := sub (bodyOf Try.f46) (pth n)
abbrev an (n : Nat) : Ann := subA ann (pth n)
theorem door {d0 : OA} {steps1 : Int} {Q : VP} {h : Heap} (H :
 SpecH PP F_ref09_Disk_Down [(.pointer d0)] h (fun v h1 => ∃ (t6 : Bool), v = (.bool t6) ∧
 br t6 (
 Q (.int .i64 94) h1) (
 let t8 : Bool := decide (steps1 < 0)
 br t8 (
 Q (.int .i64 1) h1) (
 nilc d0 (fun t11 =>
 wr (Addr.add t11 6) (.int .i64 steps1) (fun h2 =>
 Q (.int .i64 0) h2) h1))))) : SpecH PP F_ref09_Disk_Stop [(.pointer d0), (.int .i64 steps1)] h Q :=
   spec_of_txt (ann := ann) Try.func46 rfl rfl (by kernel_rfl) H
end ref09_Disk_Stop
/-! ### (*haversack/haversackref09.Disk).Crash: function 47 -/
namespace ref09_Disk_Crash
def ann : Ann := (.seq 3 (.region [(List.range 4, 3)]) (.seq 19 (.region [(List.range 5, 19)]) (.seq 51 (.tree (.run [0, 2, 3, 4] (.alt 1 (.run [5, 6, 7, 8] .done) (.alt 5 (.run [1, 6, 7, 8] .done) .nil))) 51) (.join (.seq 19 (.seq 115 (.region [(List.range 1, 115)]) (.block (.loop 115 (.seq 115 (.seq 1073741939 (.region [(List.range 3, 1073741939)]) (.cond .leaf (.exit 19))) (.seq 115 (.block (.region [(List.range 10, 115)])) (.region [(List.range 3, 115)])))))) (.seq 3 (.region [(List.range 6, 3)]) (.seq 1 (.seq 131 (.region [(List.range 1, 131)]) (.block (.loop 131 (.seq 131 (.seq 9007199254741123 (.region [(List.range 7, 9007199254741123)]) (.cond .leaf (.exit 1))) (.seq 131 (.block (.seq 387 (.region [(List.range 16, 387)]) (.seq 899 (.region [(List.range 5, 899)]) (.seq 1923 (.region [(List.range 9, 1923)]) (.seq 3971 (.region [(List.range 1, 3971)]) (.seq 2947 (.region [(List.range 10, 2947)]) (.seq 2179 (.seq 6787 (.region [(List.range 3, 6787)]) (.block (.loop 6787 (.seq 6787 (.seq 1267650600228229401496703212163 (.region [(List.range 8, 1267650600228229401496703212163)]) (.cond .leaf (.exit 2179))) (.seq 6787 (.block (.region [(List.range 4, 6787)])) (.region [(List.range 3, 6787)])))))) (.region [(List.range 18, 131)])))))))) (.region [(List.range 3, 131)])))))) (.seq 1 (.region [(List.range 9, 1)]) (.region [(List.range 4, 0)])))))))))
noncomputable abbrev cd (n : Nat) : Code := sub (bodyOf Try.f47) (pth n)
abbrev an (n : Nat) : Ann := subA ann (pth n)
@[irreducible] def X0 (d0 choices1 : OA) (choices1n choices1c : Nat) (names4 : OA) (names4n names4c : Nat) : Fr := (mkFr 0 134 [(0, (.pointer d0)), (1, (.slice choices1 choices1n choices1c)), (4, (.slice names4 names4n names4c))])
@[irreducible] def X2 (d0 : OA) : Fr := (mkFr 0 134 [(0, (.pointer d0))])
@[irreducible] def X4 (d0 choices1 : OA) (choices1n choices1c : Nat) (i7 : Int) (b11 : OA) (b11n b11c : Nat) : Fr := (mkFr 0 134 [(0, (.pointer d0)), (1, (.slice choices1 choices1n choices1c)), (7, (.int .i64 i7)), (11, (.slice b11 b11n b11c))])
@[irreducible] def J1 (d0 choices1 : OA) (choices1n choices1c : Nat) (names4 : OA) (names4n names4c : Nat) (many5 : Int) (Q : VP) (h : Heap) : Prop := Jn PP true (cd 15) (mkFr 0 134 [(0, (.pointer d0)), (1, (.slice choices1 choices1n choices1c)), (4, (.slice names4 names4n names4c)), (5, (.int .i64 many5))]) (bodyK PP Try.f47 Q) h
@[irreducible] def K2 (Q : VP) : EP := seqK (fun fr h => ev PP true none (cd 31) (an 31) (fr.mask 19) (bodyK PP Try.f47 Q) h) (bodyK PP Try.f47 Q)
@[irreducible] def K1 (Q : VP) : EP := blockK 0 (K2 Q)
@[irreducible] def L1 (d0 choices1 : OA) (choices1n choices1c : Nat) (names4 : OA) (names4n names4c : Nat) (many5 i6 : Int) (K : EP) (h : Heap) : Prop := Lp PP true (cd 244) (mkFr 0 134 [(0, (.pointer d0)), (1, (.slice choices1 choices1n choices1c)), (4, (.slice names4 names4n names4c)), (5, (.int .i64 many5)), (6, (.int .i64 i6))]) K h
@[irreducible] def B1 (K : EP) : EP := seqK (fun fr h => Lp PP true (cd 244) (fr.mask 115) K h) K
@[irreducible] def K4 (Q : VP) : EP := seqK (fun fr h => ev PP true none (cd 127) (an 127) (fr.mask 1) (bodyK PP Try.f47 Q) h) (bodyK PP Try.f47 Q)
@[irreducible] def K3 (Q : VP) : EP := blockK 2 (K4 Q)
@[irreducible] def L2 (d0 choices1 : OA) (choices1n choices1c : Nat) (i7 : Int) (K : EP) (h : Heap) : Prop := Lp PP true (cd 1012) (mkFr 0 134 [(0, (.pointer d0)), (1, (.slice choices1 choices1n choices1c)), (7, (.int .i64 i7))]) K h
@[irreducible] def B2 (K : EP) : EP := seqK (fun fr h => Lp PP true (cd 1012) (fr.mask 131) K h) K
@[irreducible] def K8 (K : EP) : EP := seqK (fun fr h => ev PP true none (cd 4051) (an 4051) (fr.mask 131) (B2 K) h) (B2 K)
@[irreducible] def K7 (K : EP) : EP := blockK 3 (K8 K)
@[irreducible] def K6 (K : EP) : EP := seqK (fun fr h => ev PP true none (cd 518463) (an 518463) (fr.mask 2179) (K7 K) h) (K7 K)
@[irreducible] def K5 (K : EP) : EP := blockK 4 (K6 K)
@[irreducible] def L3 (d0 choices1 : OA) (choices1n choices1c : Nat) (i7 c9 : Int) (b11 : OA) (b11n b11c : Nat) (k12 : Int) (K : EP) (h : Heap) : Prop := Lp PP true (cd 4147700) (mkFr 0 134 [(0, (.pointer d0)), (1, (.slice choices1 choices1n choices1c)), (7, (.int .i64 i7)), (9, (.int .i64 c9)), (11, (.slice b11 b11n b11c)), (12, (.int .i64 k12))]) K h
@[irreducible] def B3 (K : EP) : EP := seqK (fun fr h => Lp PP true (cd 4147700) (fr.mask 6787) K h) K
theorem J1_of {d0 choices1 : OA} {choices1n choices1c : Nat} {names4 : OA} {names4n names4c : Nat} {many5 : Int} {Q : VP} {h : Heap} (H :
 L1 d0 choices1 choices1n choices1c names4 names4n names4c many5 0 (K1 Q) h) : J1 d0 choices1 choices1n choices1c names4 names4n names4c many5 Q h := by unfold J1; exact Jn.of_txt (an 15) (by kernel_rfl) H
theorem L1_of {d0 choices1 : OA} {choices1n choices1c : Nat} {names4 : OA} {names4n names4c : Nat} {many5 i6 : Int} {K : EP} {h : Heap} (H :
 let t30 : Bool := decide (i6 < many5)
 br t30 (
 nilc d0 (fun t35 =>
 ∃ (t37 : OA) (t37n t37c : Nat), cellH h (Addr.add t35 4) = some (.slice t37 t37n t37c) ∧
 hwp PP (Instr.indexAt T_sl_haversackref09_Change (.slice t37 t37n t37c) (.int .i64 i6)) (fun v h1 => ∃ (t39 : Addr), v = (.pointer (some t39)) ∧
 ∃ (t40f0 : Int) (t40f1 t40f2 : ByteArray) (t40f3 : Int), rdCells h1 t39 0 [(.int .i64 t40f0), (.string t40f1), (.string t40f2), (.int .i64 t40f3)] ∧
 SpecH PP F_ref09_apply [(.slice names4 names4n names4c), (.agg #[(.int .i64 t40f0), (.string t40f1), (.string t40f2), (.int .i64 t40f3)])] h1 (fun v_1 h2 => ∃ (t41 : OA) (t41n t41c : Nat), v_1 = (.slice t41 t41n t41c) ∧
 let t32 : Int := IntKind.i64.wrap (i6 + 1)
 L1 d0 choices1 choices1n choices1c t41 t41n t41c many5 t32 K h2)) h)) (
 K (.exit 0) (X0 d0 choices1 choices1n choices1c names4 names4n names4c) h)) : L1 d0 choices1 choices1n choices1c names4 names4n names4c many5 i6 K h := by unfold L1; exact Lp.of_txt (an 244) 115 (by kernel_rfl) H
theorem L1_X0 {Q : VP} {d0 choices1 : OA} {choices1n choices1c : Nat} {names4 : OA} {names4n names4c : Nat} {h : Heap} (H :
 SpecH PP F_ref09_without [(.slice names4 names4n names4c), (.string (⟨#[]⟩ : ByteArray))] h (fun v h1 => ∃ (t44 : OA) (t44n t44c : Nat), v = (.slice t44 t44n t44c) ∧
 nilc d0 (fun t45 =>
 wr (Addr.add t45 2) (.slice t44 t44n t44c) (fun h2 =>
 L2 d0 choices1 choices1n choices1c 0 (K3 Q) h2) h1))) : (K1 Q) (.exit 0) (X0 d0 choices1 choices1n choices1c names4 names4n names4c) h := of_eq_txt (by kernel_rfl) H
theorem L2_of {d0 choices1 : OA} {choices1n choices1c : Nat} {i7 : Int} {K : EP} {h : Heap} (H :
 nilc d0 (fun t49 =>
 ∃ (t51 : OA) (t51n t51c : Nat), cellH h (Addr.add t49 2) = some (.slice t51 t51n t51c) ∧
 let t53 : Bool := decide (i7 < (t51n : Int))
 br t53 (
 nilc d0 (fun t57 =>
 ∃ (t59 : OA) (t59n t59c : Nat), cellH h (Addr.add t57 1) = some (.slice t59 t59n t59c) ∧
 nilc d0 (fun t61 =>
 ∃ (t63 : OA) (t63n t63c : Nat), cellH h (Addr.add t61 2) = some (.slice t63 t63n t63c) ∧
 hwp PP (Instr.indexAt T_sl_haversackref09_Named (.slice t63 t63n t63c) (.int .i64 i7)) (fun v h1 => ∃ (t65 : Addr), v = (.pointer (some t65)) ∧
 ∃ (t67 : Int), cellH h1 (Addr.add t65 1) = some (.int .i64 t67) ∧
 hwp PP (Instr.indexAt T_sl_haversackref09_File (.slice t59 t59n t59c) (.int .i64 t67)) (fun v_1 h2 => ∃ (t68 : Addr), v_1 = (.pointer (some t68)) ∧
 ∃ (t69f0 : OA) (t69f0n t69f0c : Nat) (t69f1 : Int), rdCells h2 t68 0 [(.slice t69f0 t69f0n t69f0c), (.int .i64 t69f1)] ∧
 let f8 : Addr := ⟨Array.size h2, 0, none⟩
 let h3 : Heap := Array.push h2 (.cells #[(.slice none 0 0), (.int .i64 0)] T_haversackref09_File (0, 0))
 wrCells f8 0 [(.slice t69f0 t69f0n t69f0c), (.int .i64 t69f1)] (fun h4 =>
 let t72 : Int := IntKind.i64.wrap (i7 + 1)
 SpecH PP F_ref09_choice [(.slice choices1 choices1n choices1c), (.int .i64 t72)] h4 (fun v_2 h5 => ∃ (t73 : Int), v_2 = (.int .i64 t73) ∧
 ∃ (t76 : OA) (t76n t76c : Nat), cellH h5 f8 = some (.slice t76 t76n t76c) ∧
 ∃ (t79 : Int), cellH h5 (Addr.add f8 1) = some (.int .i64 t79) ∧
 let t80 : Int := IntKind.i64.wrap ((t76n : Int) - t79)
 ∃ v_3, PureAt PP F_ref09_says [(.int .i64 t73), (.int .i64 t80)] v_3 ∧
 ∃ (t81 : Int), v_3 = (.int .i64 t81) ∧
 ∃ (t84 : OA) (t84n t84c : Nat), cellH h5 f8 = some (.slice t84 t84n t84c) ∧
 ∃ (t86 : Int), cellH h5 (Addr.add f8 1) = some (.int .i64 t86) ∧
 let t88 : Int := IntKind.i64.wrap (t86 + t81)
 hwp PP (Instr.sliceAt T_sl_uint8 (.slice t84 t84n t84c) none (some (.int .i64 t88)) none) (fun v_4 h6 => ∃ (t89 : OA) (t89n t89c : Nat), v_4 = (.slice t89 t89n t89c) ∧
 hwp PP (Builtin.append_ #[T_sl_uint8, T_sl_uint8] T_sl_uint8 #[(.slice none 0 0), (.slice t89 t89n t89c)]) (fun v_5 h7 => ∃ (t90 : OA) (t90n t90c : Nat), v_5 = (.slice t90 t90n t90c) ∧
 ∃ (t92 : Int), cellH h7 (Addr.add f8 1) = some (.int .i64 t92) ∧
 L3 d0 choices1 choices1n choices1c i7 t73 t90 t90n t90c t92 (K5 K) h7) h6) h5)) h3) h1) h))) (
 K (.exit 2) (X2 d0) h))) : L2 d0 choices1 choices1n choices1c i7 K h := by unfold L2; exact Lp.of_txt (an 1012) 131 (by kernel_rfl) H
theorem L2_X2 {Q : VP} {d0 : OA} {h : Heap} (H :
 nilc d0 (fun t125 =>
 ∃ (t127 : OA) (t127n t127c : Nat), cellH h (Addr.add t125 2) = some (.slice t127 t127n t127c) ∧
 SpecH PP F_ref09_without [(.slice t127 t127n t127c), (.string (⟨#[]⟩ : ByteArray))] h (fun v h1 => ∃ (t128 : OA) (t128n t128c : Nat), v = (.slice t128 t128n t128c) ∧
 nilc d0 (fun t129 =>
 wr (Addr.add t129 3) (.slice t128 t128n t128c) (fun h2 =>
 nilc d0 (fun t132 =>
 wr (Addr.add t132 4) (.slice none 0 0) (fun h3 =>
 Q (.tuple #[]) h3) h2)) h1)))) : (K3 Q) (.exit 2) (X2 d0) h := of_eq_txt (by kernel_rfl) H
theorem L3_of {d0 choices1 : OA} {choices1n choices1c : Nat} {i7 c9 : Int} {b11 : OA} {b11n b11c : Nat} {k12 : Int} {K : EP} {h : Heap} (H :
 let t96 : Bool := decide (k12 < (b11n : Int))
 br t96 (
 let t99 : Bool := decide (c9 < 0)
 br t99 (
 hwp PP (Instr.indexAt T_sl_uint8 (.slice b11 b11n b11c) (.int .i64 k12)) (fun v h1 => ∃ (t105 : Addr), v = (.pointer (some t105)) ∧
 wr t105 (.int .u8 0) (fun h2 =>
 let t102 : Int := IntKind.i64.wrap (k12 + 1)
 L3 d0 choices1 choices1n choices1c i7 c9 b11 b11n b11c t102 K h2) h1) h) (
 K (.exit 4) (X4 d0 choices1 choices1n choices1c i7 b11 b11n b11c) h)) (
 K (.exit 4) (X4 d0 choices1 choices1n choices1c i7 b11 b11n b11c) h)) : L3 d0 choices1 choices1n choices1c i7 c9 b11 b11n b11c k12 K h := by unfold L3; exact Lp.of_txt (an 4147700) 6787 (by kernel_rfl) H
theorem L3_X4 {K : EP} {d0 choices1 : OA} {choices1n choices1c : Nat} {i7 : Int} {b11 : OA} {b11n b11c : Nat} {h : Heap} (H :
 nilc d0 (fun t107 =>
 ∃ (t109 : OA) (t109n t109c : Nat), cellH h (Addr.add t107 1) = some (.slice t109 t109n t109c) ∧
 nilc d0 (fun t111 =>
 ∃ (t113 : OA) (t113n t113c : Nat), cellH h (Addr.add t111 2) = some (.slice t113 t113n t113c) ∧
 hwp PP (Instr.indexAt T_sl_haversackref09_Named (.slice t113 t113n t113c) (.int .i64 i7)) (fun v h1 => ∃ (t115 : Addr), v = (.pointer (some t115)) ∧
 ∃ (t117 : Int), cellH h1 (Addr.add t115 1) = some (.int .i64 t117) ∧
 hwp PP (Instr.indexAt T_sl_haversackref09_File (.slice t109 t109n t109c) (.int .i64 t117)) (fun v_1 h2 => ∃ (t122 : Addr), v_1 = (.pointer (some t122)) ∧
 wrCells t122 0 [(.slice b11 b11n b11c), (.int .i64 (b11n : Int))] (fun h3 =>
 let t55 : Int := IntKind.i64.wrap (i7 + 1)
 L2 d0 choices1 choices1n choices1c t55 K h3) h2) h1) h))) : (K5 K) (.exit 4) (X4 d0 choices1 choices1n choices1c i7 b11 b11n b11c) h := of_eq_txt (by kernel_rfl) H
theorem door {d0 choices1 : OA} {choices1n choices1c : Nat} {Q : VP} {h : Heap} (H :
 nilc d0 (fun t14 =>
 wr (Addr.add t14 6) (.int .i64 (-1)) (fun h1 =>
 nilc d0 (fun t17 =>
 ∃ (t19 : OA) (t19n t19c : Nat), cellH h1 (Addr.add t17 3) = some (.slice t19 t19n t19c) ∧
 nilc d0 (fun t23 =>
 (
 SpecH PP F_ref09_choice [(.slice choices1 choices1n choices1c), (.int .i64 0)] h1 (fun v_2 h3 => ∃ (t21_1 : Int), v_2 = (.int .i64 t21_1) ∧
 ∃ (t25_1 : OA) (t25_1n t25_1c : Nat), cellH h3 (Addr.add t23 4) = some (.slice t25_1 t25_1n t25_1c) ∧
 ∃ v_3, PureAt PP F_ref09_says [(.int .i64 t21_1), (.int .i64 (t25_1n : Int))] v_3 ∧
 ∃ (t27_1 : Int), v_3 = (.int .i64 t27_1) ∧
 J1 d0 choices1 choices1n choices1c t19 t19n t19c t27_1 Q h3)) ∧
 (
 ∃ (t25 : OA) (t25n t25c : Nat), cellH h1 (Addr.add t23 4) = some (.slice t25 t25n t25c) ∧
 SpecH PP F_ref09_choice [(.slice choices1 choices1n choices1c), (.int .i64 0)] h1 (fun v h2 => ∃ (t21 : Int), v = (.int .i64 t21) ∧
 ∃ v_1, PureAt PP F_ref09_says [(.int .i64 t21), (.int .i64 (t25n : Int))] v_1 ∧
 ∃ (t27 : Int), v_1 = (.int .i64 t27) ∧
 J1 d0 choices1 choices1n choices1c t19 t19n t19c t27 Q h2)) ∧
 True))) h)) : SpecH PP F_ref09_Disk_Crash [(.pointer d0), (.slice choices1 choices1n choices1c)] h Q :=
   spec_of_txt (ann := ann) Try.func47 rfl rfl (by kernel_rfl) H
end ref09_Disk_Crash
/-! ### (*haversack/disk.Disk).ready: function 48 -/
namespace disk_Disk_ready
def ann : Ann := (.seq 1 (.region [(List.range 1, 1)]) (.seq 0 (.block (.seq 9 (.region [(List.range 3, 9)]) (.cond (.seq 4 (.region [(List.range 1, 4)]) (.exit 4)) (.seq 64 (.region [(List.range 3, 64)]) (.cond (.seq 4 (.region [(List.range 1, 4)]) (.exit 4)) .leaf))))) (.seq 4 (.region [(List.range 1, 4)]) (.exit 4))))
noncomputable abbrev cd (n : Nat) : Code := sub (bodyOf Try.f48) (pth n)
abbrev an (n : Nat) : Ann := subA ann (pth n)
theorem door {d0 : OA} {Q : VP} {h : Heap} (H :
 let t5 : Bool := (Option.isNone d0)
 br t5 (
 Q (.int .i64 3) h) (
 SpecH PP F_disk_Disk_Down [(.pointer d0)] h (fun v h1 => ∃ (t8 : Bool), v = (.bool t8) ∧
 br t8 (
 Q (.int .i64 94) h1) (
 Q (.int .i64 0) h1)))) : SpecH PP F_disk_Disk_ready [(.pointer d0)] h Q :=
   spec_of_txt (ann := ann) Try.func48 rfl rfl (by kernel_rfl) H
end disk_Disk_ready
/-! ### slices.Sorted[string]: function 49 -/
namespace slices_Sorted_string
def ann : Ann := (.seq 1 (.region [(List.range 1, 1)]) (.seq 8 (.region [(List.range 3, 8)]) (.seq 8 (.region [(List.range 2, 8)]) (.seq 4 (.region [(List.range 2, 4)]) (.exit 4)))))
noncomputable abbrev cd (n : Nat) : Code := sub (bodyOf Try.f49) (pth n)
abbrev an (n : Nat) : Ann := subA ann (pth n)
theorem door {seq0 : Value} {Q : VP} {h : Heap} (H :
 SpecH PP F_slices_Collect_string [seq0] h (fun v h1 => ∃ (t5 : OA) (t5n t5c : Nat), v = (.slice t5 t5n t5c) ∧
 SpecH PP F_slices_Sort_string_string [(.slice t5 t5n t5c)] h1 (fun v_1 h2 => v_1 = (.tuple #[]) ∧
 Q (.slice t5 t5n t5c) h2))) : SpecH PP F_slices_Sorted_string [seq0] h Q :=
   spec_of_txt (ann := ann) Try.func49 rfl rfl (by kernel_rfl) H
end slices_Sorted_string
/-! ### maps.Keys[haversack/disk.names,string,*haversack/disk.file]: function 50 -/
namespace maps_Keys_disk_names_string_disk_file
def ann : Ann := (.seq 2 (.region [(List.range 2, 2)]) (.seq 4 (.region [(List.range 2, 4)]) (.exit 4)))
noncomputable abbrev cd (n : Nat) : Code := sub (bodyOf Try.f50) (pth n)
abbrev an (n : Nat) : Ann := subA ann (pth n)
theorem door {m0 : ON} {Q : VP} {h : Heap} (H :
 let m1 : Addr := ⟨Array.size h, 0, none⟩
 let h1 : Heap := Array.push h (.cells #[(.map m0)] T_disk_names (0, 0))
 Q (.func (.func F_maps_Keys_disk_names_string_disk_file_1) #[] #[(.pointer (some m1))]) h1) : SpecH PP F_maps_Keys_disk_names_string_disk_file [(.map m0)] h Q :=
   spec_of_txt (ann := ann) Try.func50 rfl rfl (by kernel_rfl) H
end maps_Keys_disk_names_string_disk_file
/-! ### haversack/disk.good: function 51 -/
namespace disk_good
def ann : Ann := (.seq 1 (.region [(List.range 1, 1)]) (.seq 1 (.seq 449 (.region [(List.range 4, 449)]) (.block (.loop 449 (.seq 961 (.region [(List.range 1, 961)]) (.seq 449 (.cond .leaf (.exit 1)) (.seq 449 (.block (.seq 465 (.region [(List.range 3, 465)]) (.seq 8589935041 (.region [(List.range 22, 8589935041)]) (.join (.cond (.seq 4 (.region [(List.range 1, 4)]) (.exit 4)) .leaf))))) (.region [(List.range 2, 449)]))))))) (.seq 4 (.region [(List.range 8, 4)]) (.exit 4))))
noncomputable abbrev cd (n : Nat) : Code := sub (bodyOf Try.f51) (pth n)
abbrev an (n : Nat) : Ann := subA ann (pth n)
@[irreducible] def X0 (name0 : ByteArray) : Fr := (mkFr 0 42 [(0, (.string name0))])
@[irreducible] def Xret (t2 : Bool) : Fr := (mkFr 0 42 [(2, (.bool t2))])
@[irreducible] def L1 (name0 : ByteArray) (t6 : OA) (t6n t6c : Nat) (t7 t8 : Int) (K : EP) (h : Heap) : Prop := Lp PP true (cd 52) (mkFr 0 42 [(0, (.string name0)), (6, (.slice t6 t6n t6c)), (7, (.int .i64 t7)), (8, (.int .i64 t8))]) K h
@[irreducible] def B1 (K : EP) : EP := seqK (fun fr h => Lp PP true (cd 52) (fr.mask 449) K h) K
@[irreducible] def K4 (K : EP) : EP := seqK (fun fr h => ev PP true none (cd 423) (an 423) (fr.mask 449) (B1 K) h) (B1 K)
@[irreducible] def K2 (K : EP) : EP := blockK 1 (K4 K)
@[irreducible] def J1 (name0 : ByteArray) (t6 : OA) (t6n t6c : Nat) (t7 t8 : Int) (t33 : Bool) (K : EP) (h : Heap) : Prop := Jn PP true (cd 3379) (mkFr 0 42 [(0, (.string name0)), (6, (.slice t6 t6n t6c)), (7, (.int .i64 t7)), (8, (.int .i64 t8)), (33, (.bool t33))]) (K2 K) h
@[irreducible] def K3 (Q : VP) : EP := seqK (fun fr h => ev PP true none (cd 7) (an 7) (fr.mask 1) (bodyK PP Try.f51 Q) h) (bodyK PP Try.f51 Q)
@[irreducible] def K1 (Q : VP) : EP := blockK 0 (K3 Q)
theorem L1_of {name0 : ByteArray} {t6 : OA} {t6n t6c : Nat} {t7 t8 : Int} {K : EP} {h : Heap} (H :
 let t9 : Bool := decide (t8 < t7)
 br t9 (
 hwp PP (Instr.indexAt T_sl_uint8 (.slice t6 t6n t6c) (.int .i64 t8)) (fun v h1 => ∃ (t10 : Addr), v = (.pointer (some t10)) ∧
 ∃ (t11 : Int), cellH h1 t10 = some (.int .u8 t11) ∧
 let t13 : Bool := decide (t11 < 97)
 br t13 (
 let t20 : Bool := decide (t11 < 48)
 br t20 (
 let t28 : Bool := (t11 != 46)
 br t28 (
 let t32 : Bool := (t11 != 45)
 J1 name0 t6 t6n t6c t7 t8 t32 K h1) (
 J1 name0 t6 t6n t6c t7 t8 false K h1)) (
 let t23 : Bool := decide (t11 > 57)
 br t23 (
 let t28_1 : Bool := (t11 != 46)
 br t28_1 (
 let t32_1 : Bool := (t11 != 45)
 J1 name0 t6 t6n t6c t7 t8 t32_1 K h1) (
 J1 name0 t6 t6n t6c t7 t8 false K h1)) (
 J1 name0 t6 t6n t6c t7 t8 false K h1))) (
 let t16 : Bool := decide (t11 > 122)
 br t16 (
 let t20_1 : Bool := decide (t11 < 48)
 br t20_1 (
 let t28_2 : Bool := (t11 != 46)
 br t28_2 (
 let t32_2 : Bool := (t11 != 45)
 J1 name0 t6 t6n t6c t7 t8 t32_2 K h1) (
 J1 name0 t6 t6n t6c t7 t8 false K h1)) (
 let t23_1 : Bool := decide (t11 > 57)
 br t23_1 (
 let t28_3 : Bool := (t11 != 46)
 br t28_3 (
 let t32_3 : Bool := (t11 != 45)
 J1 name0 t6 t6n t6c t7 t8 t32_3 K h1) (
 J1 name0 t6 t6n t6c t7 t8 false K h1)) (
 J1 name0 t6 t6n t6c t7 t8 false K h1))) (
 J1 name0 t6 t6n t6c t7 t8 false K h1))) h) (
 K (.exit 0) (X0 name0) h)) : L1 name0 t6 t6n t6c t7 t8 K h := by unfold L1; exact Lp.of_txt (an 52) 449 (by kernel_rfl) H
theorem L1_X0 {Q : VP} {name0 : ByteArray} {h : Heap} (H :
 let t36 : Bool := (!decide (name0 = (⟨#[]⟩ : ByteArray)))
 br t36 (
 let t39 : Int := (ByteArray.size name0 : Int)
 let t40 : Bool := decide (t39 ≤ 32)
 Q (.bool t40) h) (
 Q (.bool false) h)) : (K1 Q) (.exit 0) (X0 name0) h := of_eq_txt (by kernel_rfl) H
theorem J1_of {name0 : ByteArray} {t6 : OA} {t6n t6c : Nat} {t7 t8 : Int} {t33 : Bool} {K : EP} {h : Heap} (H :
 br t33 (
 K .ret (Xret false) h) (
 let t34 : Int := IntKind.i64.wrap (t8 + 1)
 L1 name0 t6 t6n t6c t7 t34 K h)) : J1 name0 t6 t6n t6c t7 t8 t33 K h := by unfold J1; exact Jn.of_txt (an 3379) (by kernel_rfl) H
theorem L1_Xret {Q : VP} {t2 : Bool} {h : Heap} (H :
 Q (.bool t2) h) : (K1 Q) .ret (Xret t2) h := of_eq_txt (by kernel_rfl) H
theorem door {name0 : ByteArray} {Q : VP} {h : Heap} (H :
 hwp PP (Go.convert T_string T_sl_uint8 (.string name0)) (fun v h1 => ∃ (t6 : OA) (t6n t6c : Nat), v = (.slice t6 t6n t6c) ∧
 L1 name0 t6 t6n t6c (t6n : Int) 0 (K1 Q) h1) h) : SpecH PP F_disk_good [(.string name0)] h Q :=
   spec_of_txt (ann := ann) Try.func51 rfl rfl (by kernel_rfl) H
end disk_good
/-! ### (*haversack/disk.Disk).change: function 52 -/
namespace disk_Disk_change
def ann : Ann := (.seq 9 (.region [(List.range 2, 9)]) (.seq 9 (.region [(List.range 6, 9)]) (.seq 1 (.region [(List.range 11, 1)]) (.seq 16 (.region [(List.range 3, 16)]) (.exit 16)))))
noncomputable abbrev cd (n : Nat) : Code := sub (bodyOf Try.f52) (pth n)
abbrev an (n : Nat) : Ann := subA ann (pth n)
theorem door {d0 : OA} {c1f0 c1f1 : ByteArray} {c1f2 : OA} {Q : VP} {h : Heap} (H :
 let c3 : Addr := ⟨Array.size h, 0, none⟩
 let h1 : Heap := Array.push h (.cells #[(.string c1f0), (.string c1f1), (.pointer c1f2)] T_disk_change (0, 0))
 nilc d0 (fun t6 =>
 ∃ (t8 : ON), cellH h1 (Addr.add t6 1) = some (.map t8) ∧
 ∃ (t9f0 t9f1 : ByteArray) (t9f2 : OA), rdCells h1 c3 0 [(.string t9f0), (.string t9f1), (.pointer t9f2)] ∧
 SpecH PP F_disk_names_do [(.map t8), (.agg #[(.string t9f0), (.string t9f1), (.pointer t9f2)])] h1 (fun v h2 => v = (.tuple #[]) ∧
 nilc d0 (fun t13 =>
 ∃ (t15 : OA) (t15n t15c : Nat), cellH h2 (Addr.add t13 3) = some (.slice t15 t15n t15c) ∧
 ∃ (t16f0 t16f1 : ByteArray) (t16f2 : OA), rdCells h2 c3 0 [(.string t16f0), (.string t16f1), (.pointer t16f2)] ∧
 let h3 : Heap := Array.push h2 (.cells #[(.string t16f0), (.string t16f1), (.pointer t16f2)] T_disk_change (0, 0))
 hwp PP (Builtin.append_ #[T_sl_disk_change, T_sl_disk_change] T_sl_disk_change #[(.slice t15 t15n t15c), (.slice (some ⟨Array.size h2, 0, none⟩) 1 1)]) (fun v_1 h4 => ∃ (t18 : OA) (t18n t18c : Nat), v_1 = (.slice t18 t18n t18c) ∧
 nilc d0 (fun t19 =>
 wr (Addr.add t19 3) (.slice t18 t18n t18c) (fun h5 =>
 SpecH PP F_disk_Disk_done [(.pointer d0)] h5 (fun v_2 h6 => ∃ (t22 : Int), v_2 = (.int .i64 t22) ∧
 Q (.int .i64 t22) h6)) h4)) h3)))) : SpecH PP F_disk_Disk_change [(.pointer d0), (.agg #[(.string c1f0), (.string c1f1), (.pointer c1f2)])] h Q :=
   spec_of_txt (ann := ann) Try.func52 rfl rfl (by kernel_rfl) H
end disk_Disk_change
/-! ### maps.Clone[haversack/disk.names,string,*haversack/disk.file]: function 53 -/
namespace maps_Clone_disk_names_string_disk_file
def ann : Ann := (.seq 1 (.region [(List.range 1, 1)]) (.seq 1 (.seq 17 (.region [(List.range 2, 17)]) (.cond (.seq 4 (.region [(List.range 1, 4)]) (.exit 4)) .leaf)) (.seq 4 (.region [(List.range 5, 4)]) (.exit 4))))
noncomputable abbrev cd (n : Nat) : Code := sub (bodyOf Try.f53) (pth n)
abbrev an (n : Nat) : Ann := subA ann (pth n)
theorem door {m0 : ON} {Q : VP} {h : Heap} (H :
 let t4 : Bool := (Option.isNone m0)
 br t4 (
 Q (.map none) h) (
 callV PP (.func (.func F_maps_clone) #[] #[]) [(.iface T_disk_names (.map m0))] (fun v h1 => ∃ (t7 : Value), v = t7 ∧
 hwp PP (Instr.typeAssert t7 T_any T_disk_names false) (fun v_1 h2 => ∃ (t8 : ON), v_1 = (.map t8) ∧
 Q (.map t8) h2) h1) h)) : SpecH PP F_maps_Clone_disk_names_string_disk_file [(.map m0)] h Q :=
   spec_of_txt (ann := ann) Try.func53 rfl rfl (by kernel_rfl) H
end maps_Clone_disk_names_string_disk_file
/-! ### (*haversack/disk.Disk).done: function 54 -/
namespace disk_Disk_done
def ann : Ann := (.seq 1 (.region [(List.range 1, 1)]) (.seq 1 (.region [(List.range 8, 1)]) (.seq 0 (.seq 8193 (.region [(List.range 4, 8193)]) (.cond (.region [(List.range 8, 0)]) .leaf)) (.seq 4 (.region [(List.range 1, 4)]) (.exit 4)))))
noncomputable abbrev cd (n : Nat) : Code := sub (bodyOf Try.f54) (pth n)
abbrev an (n : Nat) : Ann := subA ann (pth n)
theorem door {d0 : OA} {Q : VP} {h : Heap} (H :
 nilc d0 (fun t4 =>
 ∃ (t6 : Int), cellH h (Addr.add t4 4) = some (.int .i64 t6) ∧
 let t7 : Int := IntKind.i64.wrap (t6 + 1)
 nilc d0 (fun t8 =>
 wr (Addr.add t8 4) (.int .i64 t7) (fun h1 =>
 nilc d0 (fun t11 =>
 ∃ (t13 : Bool), cellH h1 (Addr.add t11 5) = some (.bool t13) ∧
 br t13 (
 nilc d0 (fun t15 =>
 ∃ (t17 : Int), cellH h1 (Addr.add t15 6) = some (.int .i64 t17) ∧
 let t18 : Int := IntKind.i64.wrap (t17 - 1)
 nilc d0 (fun t19 =>
 wr (Addr.add t19 6) (.int .i64 t18) (fun h2 =>
 Q (.int .i64 0) h2) h1))) (
 Q (.int .i64 0) h1))) h))) : SpecH PP F_disk_Disk_done [(.pointer d0)] h Q :=
   spec_of_txt (ann := ann) Try.func54 rfl rfl (by kernel_rfl) H
end disk_Disk_done
/-! ### (*haversack/disk.Disk).find: function 55 -/
namespace disk_Disk_find
def ann : Ann := (.seq 3 (.region [(List.range 2, 3)]) (.seq 3 (.seq 67 (.region [(List.range 3, 67)]) (.seq 4163 (.region [(List.range 2, 4163)]) (.cond (.seq 48 (.region [(List.range 3, 48)]) (.exit 48)) .leaf))) (.seq 384 (.region [(List.range 11, 384)]) (.seq 128 (.seq 16777344 (.region [(List.range 2, 16777344)]) (.cond (.seq 48 (.region [(List.range 2, 48)]) (.exit 48)) .leaf)) (.seq 48 (.region [(List.range 3, 48)]) (.exit 48))))))
noncomputable abbrev cd (n : Nat) : Code := sub (bodyOf Try.f55) (pth n)
abbrev an (n : Nat) : Ann := subA ann (pth n)
theorem door {d0 : OA} {name1 : ByteArray} {Q : VP} {h : Heap} (H :
 SpecH PP F_disk_Disk_ready [(.pointer d0)] h (fun v h1 => ∃ (t10 : Int), v = (.int .i64 t10) ∧
 let t12 : Bool := (t10 != 0)
 br t12 (
 Q (.tuple #[(.pointer none), (.int .i64 t10)]) h1) (
 nilc d0 (fun t16 =>
 ∃ (t18 : ON), cellH h1 (Addr.add t16 1) = some (.map t18) ∧
 hwp PP (Instr.lookup T_disk_names (.map t18) (.string name1) true) (fun v_1 h2 => ∃ (t20 : OA) (t20_1 : Bool), v_1 = (.tuple #[(.pointer t20), (.bool t20_1)]) ∧
 let t24 : Bool := (!t20_1)
 br t24 (
 Q (.tuple #[(.pointer none), (.int .i64 92)]) h2) (
 Q (.tuple #[(.pointer t20), (.int .i64 0)]) h2)) h1)))) : SpecH PP F_disk_Disk_find [(.pointer d0), (.string name1)] h Q :=
   spec_of_txt (ann := ann) Try.func55 rfl rfl (by kernel_rfl) H
end disk_Disk_find
/-! ### (*haversack/disk.Disk).Crash$1: function 56 -/
namespace disk_Disk_Crash_1
def ann : Ann := (.seq 1 (.region [(List.range 1, 1)]) (.seq 1 (.seq 33 (.region [(List.range 3, 33)]) (.cond (.seq 2 (.region [(List.range 1, 2)]) (.exit 2)) .leaf)) (.seq 5 (.region [(List.range 4, 5)]) (.seq 4 (.region [(List.range 3, 4)]) (.seq 2 (.region [(List.range 2, 2)]) (.exit 2))))))
noncomputable abbrev cd (n : Nat) : Code := sub (bodyOf Try.f56) (pth n)
abbrev an (n : Nat) : Ann := subA ann (pth n)
theorem door {t0 : Addr} {Q : VP} {h : Heap} (H :
 ∃ (t3 : OA) (t3n t3c : Nat), cellH h t0 = some (.slice t3 t3n t3c) ∧
 let t5 : Bool := ((t3n : Int) == 0)
 br t5 (
 Q (.int .i64 0) h) (
 ∃ (t6 : OA) (t6n t6c : Nat), cellH h t0 = some (.slice t6 t6n t6c) ∧
 hwp PP (Instr.indexAt T_sl_int (.slice t6 t6n t6c) (.int .i64 0)) (fun v h1 => ∃ (t7 : Addr), v = (.pointer (some t7)) ∧
 ∃ (t8 : Int), cellH h1 t7 = some (.int .i64 t8) ∧
 ∃ (t9 : OA) (t9n t9c : Nat), cellH h1 t0 = some (.slice t9 t9n t9c) ∧
 hwp PP (Instr.sliceAt T_sl_int (.slice t9 t9n t9c) (some (.int .i64 1)) none none) (fun v_1 h2 => ∃ (t10 : OA) (t10n t10c : Nat), v_1 = (.slice t10 t10n t10c) ∧
 wr t0 (.slice t10 t10n t10c) (fun h3 =>
 Q (.int .i64 t8) h3) h2) h1) h)) : SpecH PP F_disk_Disk_Crash_1 [(.pointer (some t0))] h Q :=
   spec_of_txt (ann := ann) Try.func56 rfl rfl (by kernel_rfl) H
end disk_Disk_Crash_1
/-! ### haversack/disk.says: function 57 -/
namespace disk_says
def ann : Ann := (.seq 3 (.region [(List.range 1, 3)]) (.seq 3 (.seq 67 (.region [(List.range 2, 67)]) (.cond (.region [(List.range 4, 3)]) .leaf)) (.join (.seq 16 (.region [(List.range 5, 16)]) (.exit 16)))))
noncomputable abbrev cd (n : Nat) : Code := sub (bodyOf Try.f57) (pth n)
abbrev an (n : Nat) : Ann := subA ann (pth n)
@[irreducible] def J1 (c0 xn1 : Int) (Q : VP) (h : Heap) : Prop := Jn PP true (cd 7) (mkFr 0 14 [(0, (.int .i64 c0)), (1, (.int .i64 xn1))]) (bodyK PP Try.f57 Q) h
theorem J1_of {c0 xn1 : Int} {Q : VP} {h : Heap} (H :
 let t12 : Int := IntKind.i64.wrap (xn1 + 1)
 br (!decide (t12 = 0)) (
 let t13 : Int := Int.tmod c0 t12
 Q (.int .i64 t13) h) False) : J1 c0 xn1 Q h := by unfold J1; exact Jn.of_txt (an 7) (by kernel_rfl) H
theorem door {c0 xn1 : Int} {Q : VP} {h : Heap} (H :
 let t6 : Bool := decide (c0 < 0)
 br t6 (
 let t8 : Int := IntKind.i64.wrap (c0 + 1)
 let t9 : Int := IntKind.i64.wrap (0 - t8)
 J1 t9 xn1 Q h) (
 J1 c0 xn1 Q h)) : SpecH PP F_disk_says [(.int .i64 c0), (.int .i64 xn1)] h Q :=
   spec_of_txt (ann := ann) Try.func57 rfl rfl (by kernel_rfl) H
end disk_says
/-! ### (haversack/disk.names).do: function 58 -/
namespace disk_names_do
def ann : Ann := (.seq 9 (.region [(List.range 1, 9)]) (.seq 9 (.seq 73 (.region [(List.range 3, 73)]) (.cond (.region [(List.range 4, 9)]) .leaf)) (.join (.seq 4105 (.region [(List.range 3, 4105)]) (.cond (.region [(List.range 6, 0)]) .leaf)))))
noncomputable abbrev cd (n : Nat) : Code := sub (bodyOf Try.f58) (pth n)
abbrev an (n : Nat) : Ann := subA ann (pth n)
@[irreducible] def J1 (xn0 : ON) (c3 : Addr) (Q : VP) (h : Heap) : Prop := Jn PP true (cd 7) (mkFr 0 18 [(0, (.map xn0)), (3, (.pointer (some c3)))]) (bodyK PP Try.f58 Q) h
theorem J1_of {xn0 : ON} {c3 : Addr} {Q : VP} {h : Heap} (H :
 ∃ (t11 : ByteArray), cellH h (Addr.add c3 1) = some (.string t11) ∧
 let t12 : Bool := (!decide (t11 = (⟨#[]⟩ : ByteArray)))
 br t12 (
 ∃ (t15 : ByteArray), cellH h (Addr.add c3 1) = some (.string t15) ∧
 ∃ (t17 : OA), cellH h (Addr.add c3 2) = some (.pointer t17) ∧
 hwp PP (Instr.mapUpdate T_disk_names (.map xn0) (.string t15) (.pointer t17)) (fun _ h1 =>
 Q (.tuple #[]) h1) h) (
 Q (.tuple #[]) h)) : J1 xn0 c3 Q h := by unfold J1; exact Jn.of_txt (an 7) (by kernel_rfl) H
theorem door {xn0 : ON} {c1f0 c1f1 : ByteArray} {c1f2 : OA} {Q : VP} {h : Heap} (H :
 let c3 : Addr := ⟨Array.size h, 0, none⟩
 let h1 : Heap := Array.push h (.cells #[(.string c1f0), (.string c1f1), (.pointer c1f2)] T_disk_change (0, 0))
 ∃ (t5 : ByteArray), cellH h1 c3 = some (.string t5) ∧
 let t6 : Bool := (!decide (t5 = (⟨#[]⟩ : ByteArray)))
 br t6 (
 ∃ (t9 : ByteArray), cellH h1 c3 = some (.string t9) ∧
 hwp PP (Builtin.delete_ #[T_disk_names, T_string] T_ #[(.map xn0), (.string t9)]) (fun v h2 => v = (.tuple #[]) ∧
 J1 xn0 c3 Q h2) h1) (
 J1 xn0 c3 Q h1)) : SpecH PP F_disk_names_do [(.map xn0), (.agg #[(.string c1f0), (.string c1f1), (.pointer c1f2)])] h Q :=
   spec_of_txt (ann := ann) Try.func58 rfl rfl (by kernel_rfl) H
end disk_names_do
/-! ### (*haversack/haversackref09.Disk).file: function 59 -/
namespace ref09_Disk_file
def ann : Ann := (.seq 3 (.region [(List.range 1, 3)]) (.seq 33 (.region [(List.range 7, 33)]) (.seq 33 (.seq 8225 (.region [(List.range 2, 8225)]) (.cond (.seq 16 (.region [(List.range 1, 16)]) (.exit 16)) .leaf)) (.seq 16 (.region [(List.range 9, 16)]) (.exit 16)))))
noncomputable abbrev cd (n : Nat) : Code := sub (bodyOf Try.f59) (pth n)
abbrev an (n : Nat) : Ann := subA ann (pth n)
theorem door {d0 : OA} {name1 : ByteArray} {Q : VP} {h : Heap} (H :
 nilc d0 (fun t7 =>
 ∃ (t9 : OA) (t9n t9c : Nat), cellH h (Addr.add t7 2) = some (.slice t9 t9n t9c) ∧
 SpecH PP F_ref09_find [(.slice t9 t9n t9c), (.string name1)] h (fun v h1 => ∃ (t11 : Int), v = (.int .i64 t11) ∧
 let t13 : Bool := decide (t11 < 0)
 br t13 (
 Q (.int .i64 (-1)) h1) (
 nilc d0 (fun t15 =>
 ∃ (t17 : OA) (t17n t17c : Nat), cellH h1 (Addr.add t15 2) = some (.slice t17 t17n t17c) ∧
 hwp PP (Instr.indexAt T_sl_haversackref09_Named (.slice t17 t17n t17c) (.int .i64 t11)) (fun v_1 h2 => ∃ (t19 : Addr), v_1 = (.pointer (some t19)) ∧
 ∃ (t21 : Int), cellH h2 (Addr.add t19 1) = some (.int .i64 t21) ∧
 Q (.int .i64 t21) h2) h1))))) : SpecH PP F_ref09_Disk_file [(.pointer d0), (.string name1)] h Q :=
   spec_of_txt (ann := ann) Try.func59 rfl rfl (by kernel_rfl) H
end ref09_Disk_file
/-! ### haversack/haversackref09.Name: function 60 -/
namespace ref09_Name
def ann : Ann := (.seq 1 (.region [(List.range 1, 1)]) (.seq 1 (.seq 4097 (.region [(List.range 8, 4097)]) (.join (.cond (.seq 4 (.region [(List.range 1, 4)]) (.exit 4)) .leaf))) (.seq 0 (.seq 9 (.region [(List.range 1, 9)]) (.block (.loop 9 (.seq 9 (.seq 65545 (.region [(List.range 4, 65545)]) (.cond .leaf (.exit 0))) (.seq 9 (.block (.seq 25 (.region [(List.range 4, 25)]) (.seq 8796093022217 (.region [(List.range 22, 8796093022217)]) (.join (.cond (.seq 4 (.region [(List.range 1, 4)]) (.exit 4)) .leaf))))) (.region [(List.range 3, 9)])))))) (.seq 4 (.region [(List.range 1, 4)]) (.exit 4)))))
noncomputable abbrev cd (n : Nat) : Code := sub (bodyOf Try.f60) (pth n)
abbrev an (n : Nat) : Ann := subA ann (pth n)
@[irreducible] def X0  : Fr := (mkFr 0 44 [])
@[irreducible] def Xret (t2 : Bool) : Fr := (mkFr 0 44 [(2, (.bool t2))])
@[irreducible] def K1 (Q : VP) : EP := seqK (fun fr h => ev PP true none (cd 7) (an 7) (fr.mask 1) (bodyK PP Try.f60 Q) h) (bodyK PP Try.f60 Q)
@[irreducible] def J1 (s0 : ByteArray) (t12 : Bool) (Q : VP) (h : Heap) : Prop := Jn PP true (cd 13) (mkFr 0 44 [(0, (.string s0)), (12, (.bool t12))]) (K1 Q) h
@[irreducible] def K3 (Q : VP) : EP := seqK (fun fr h => ev PP true none (cd 15) (an 15) (fr.mask 0) (bodyK PP Try.f60 Q) h) (bodyK PP Try.f60 Q)
@[irreducible] def K2 (Q : VP) : EP := blockK 0 (K3 Q)
@[irreducible] def L1 (s0 : ByteArray) (i3 : Int) (K : EP) (h : Heap) : Prop := Lp PP true (cd 116) (mkFr 0 44 [(0, (.string s0)), (3, (.int .i64 i3))]) K h
@[irreducible] def B1 (K : EP) : EP := seqK (fun fr h => Lp PP true (cd 116) (fr.mask 9) K h) K
@[irreducible] def K5 (K : EP) : EP := seqK (fun fr h => ev PP true none (cd 467) (an 467) (fr.mask 9) (B1 K) h) (B1 K)
@[irreducible] def K4 (K : EP) : EP := blockK 1 (K5 K)
@[irreducible] def J2 (s0 : ByteArray) (i3 : Int) (t43 : Bool) (K : EP) (h : Heap) : Prop := Jn PP true (cd 3731) (mkFr 0 44 [(0, (.string s0)), (3, (.int .i64 i3)), (43, (.bool t43))]) (K4 K) h
theorem J1_of {s0 : ByteArray} {t12 : Bool} {Q : VP} {h : Heap} (H :
 br t12 (
 Q (.bool false) h) (
 L1 s0 0 (K2 Q) h)) : J1 s0 t12 Q h := by unfold J1; exact Jn.of_txt (an 13) (by kernel_rfl) H
theorem L1_of {s0 : ByteArray} {i3 : Int} {K : EP} {h : Heap} (H :
 let t15 : Int := (ByteArray.size s0 : Int)
 let t16 : Bool := decide (i3 < t15)
 br t16 (
 hwp PP (Instr.index T_string (.string s0) (.int .i64 i3)) (fun v h1 => ∃ (t21 : Int), v = (.int .u8 t21) ∧
 let t23 : Bool := decide (t21 < 97)
 br t23 (
 let t30 : Bool := decide (t21 < 48)
 br t30 (
 let t38 : Bool := (t21 != 46)
 br t38 (
 let t42 : Bool := (t21 != 45)
 J2 s0 i3 t42 K h1) (
 J2 s0 i3 false K h1)) (
 let t33 : Bool := decide (t21 > 57)
 br t33 (
 let t38_1 : Bool := (t21 != 46)
 br t38_1 (
 let t42_1 : Bool := (t21 != 45)
 J2 s0 i3 t42_1 K h1) (
 J2 s0 i3 false K h1)) (
 J2 s0 i3 false K h1))) (
 let t26 : Bool := decide (t21 > 122)
 br t26 (
 let t30_1 : Bool := decide (t21 < 48)
 br t30_1 (
 let t38_2 : Bool := (t21 != 46)
 br t38_2 (
 let t42_2 : Bool := (t21 != 45)
 J2 s0 i3 t42_2 K h1) (
 J2 s0 i3 false K h1)) (
 let t33_1 : Bool := decide (t21 > 57)
 br t33_1 (
 let t38_3 : Bool := (t21 != 46)
 br t38_3 (
 let t42_3 : Bool := (t21 != 45)
 J2 s0 i3 t42_3 K h1) (
 J2 s0 i3 false K h1)) (
 J2 s0 i3 false K h1))) (
 J2 s0 i3 false K h1))) h) (
 K (.exit 0) (X0) h)) : L1 s0 i3 K h := by unfold L1; exact Lp.of_txt (an 116) 9 (by kernel_rfl) H
theorem L1_X0 {Q : VP}  {h : Heap} (H :
 Q (.bool true) h) : (K2 Q) (.exit 0) (X0 ) h := of_eq_txt (by kernel_rfl) H
theorem J2_of {s0 : ByteArray} {i3 : Int} {t43 : Bool} {K : EP} {h : Heap} (H :
 br t43 (
 K .ret (Xret false) h) (
 let t18 : Int := IntKind.i64.wrap (i3 + 1)
 L1 s0 t18 K h)) : J2 s0 i3 t43 K h := by unfold J2; exact Jn.of_txt (an 3731) (by kernel_rfl) H
theorem L1_Xret {Q : VP} {t2 : Bool} {h : Heap} (H :
 Q (.bool t2) h) : (K2 Q) .ret (Xret t2) h := of_eq_txt (by kernel_rfl) H
theorem door {s0 : ByteArray} {Q : VP} {h : Heap} (H :
 let t6 : Int := (ByteArray.size s0 : Int)
 let t7 : Bool := decide (t6 < 1)
 br t7 (
 J1 s0 true Q h) (
 let t10 : Int := (ByteArray.size s0 : Int)
 let t11 : Bool := decide (t10 > 32)
 J1 s0 t11 Q h)) : SpecH PP F_ref09_Name [(.string s0)] h Q :=
   spec_of_txt (ann := ann) Try.func60 rfl rfl (by kernel_rfl) H
end ref09_Name
/-! ### haversack/haversackref09.find: function 61 -/
namespace ref09_find
def ann : Ann := (.seq 3 (.region [(List.range 1, 3)]) (.seq 0 (.seq 35 (.region [(List.range 1, 35)]) (.block (.loop 35 (.seq 35 (.seq 547 (.region [(List.range 4, 547)]) (.cond .leaf (.exit 0))) (.seq 35 (.block (.seq 262179 (.region [(List.range 7, 262179)]) (.cond (.seq 16 (.region [(List.range 2, 16)]) (.exit 16)) .leaf))) (.region [(List.range 3, 35)])))))) (.seq 16 (.region [(List.range 1, 16)]) (.exit 16))))
noncomputable abbrev cd (n : Nat) : Code := sub (bodyOf Try.f61) (pth n)
abbrev an (n : Nat) : Ann := subA ann (pth n)
@[irreducible] def Xret (t4 : Int) : Fr := (mkFr 0 20 [(4, (.int .i64 t4))])
@[irreducible] def X0  : Fr := (mkFr 0 20 [])
@[irreducible] def L1 (xl0 : OA) (xl0n xl0c : Nat) (name1 : ByteArray) (i5 : Int) (K : EP) (h : Heap) : Prop := Lp PP true (cd 52) (mkFr 0 20 [(0, (.slice xl0 xl0n xl0c)), (1, (.string name1)), (5, (.int .i64 i5))]) K h
@[irreducible] def B1 (K : EP) : EP := seqK (fun fr h => Lp PP true (cd 52) (fr.mask 35) K h) K
@[irreducible] def K2 (Q : VP) : EP := seqK (fun fr h => ev PP true none (cd 7) (an 7) (fr.mask 0) (bodyK PP Try.f61 Q) h) (bodyK PP Try.f61 Q)
@[irreducible] def K1 (Q : VP) : EP := blockK 0 (K2 Q)
theorem L1_of {xl0 : OA} {xl0n xl0c : Nat} {name1 : ByteArray} {i5 : Int} {K : EP} {h : Heap} (H :
 let t9 : Bool := decide (i5 < (xl0n : Int))
 br t9 (
 hwp PP (Instr.indexAt T_sl_haversackref09_Named (.slice xl0 xl0n xl0c) (.int .i64 i5)) (fun v h1 => ∃ (t14 : Addr), v = (.pointer (some t14)) ∧
 ∃ (t16 : ByteArray), cellH h1 t14 = some (.string t16) ∧
 let t18 : Bool := decide (t16 = name1)
 br t18 (
 K .ret (Xret i5) h1) (
 let t11 : Int := IntKind.i64.wrap (i5 + 1)
 L1 xl0 xl0n xl0c name1 t11 K h1)) h) (
 K (.exit 0) (X0) h)) : L1 xl0 xl0n xl0c name1 i5 K h := by unfold L1; exact Lp.of_txt (an 52) 35 (by kernel_rfl) H
theorem L1_Xret {Q : VP} {t4 : Int} {h : Heap} (H :
 Q (.int .i64 t4) h) : (K1 Q) .ret (Xret t4) h := of_eq_txt (by kernel_rfl) H
theorem L1_X0 {Q : VP}  {h : Heap} (H :
 Q (.int .i64 (-1)) h) : (K1 Q) (.exit 0) (X0 ) h := of_eq_txt (by kernel_rfl) H
theorem door {xl0 : OA} {xl0n xl0c : Nat} {name1 : ByteArray} {Q : VP} {h : Heap} (H :
 L1 xl0 xl0n xl0c name1 0 (K1 Q) h) : SpecH PP F_ref09_find [(.slice xl0 xl0n xl0c), (.string name1)] h Q :=
   spec_of_txt (ann := ann) Try.func61 rfl rfl (by kernel_rfl) H
end ref09_find
/-! ### (*haversack/haversackref09.Disk).change: function 62 -/
namespace ref09_Disk_change
def ann : Ann := (.seq 9 (.region [(List.range 2, 9)]) (.seq 9 (.region [(List.range 10, 9)]) (.seq 1 (.region [(List.range 11, 1)]) (.seq 16 (.region [(List.range 3, 16)]) (.exit 16)))))
noncomputable abbrev cd (n : Nat) : Code := sub (bodyOf Try.f62) (pth n)
abbrev an (n : Nat) : Ann := subA ann (pth n)
theorem door {d0 : OA} {c1f0 : Int} {c1f1 c1f2 : ByteArray} {c1f3 : Int} {Q : VP} {h : Heap} (H :
 let c3 : Addr := ⟨Array.size h, 0, none⟩
 let h1 : Heap := Array.push h (.cells #[(.int .i64 c1f0), (.string c1f1), (.string c1f2), (.int .i64 c1f3)] T_haversackref09_Change (0, 0))
 nilc d0 (fun t7 =>
 ∃ (t9 : OA) (t9n t9c : Nat), cellH h1 (Addr.add t7 2) = some (.slice t9 t9n t9c) ∧
 ∃ (t10f0 : Int) (t10f1 t10f2 : ByteArray) (t10f3 : Int), rdCells h1 c3 0 [(.int .i64 t10f0), (.string t10f1), (.string t10f2), (.int .i64 t10f3)] ∧
 SpecH PP F_ref09_apply [(.slice t9 t9n t9c), (.agg #[(.int .i64 t10f0), (.string t10f1), (.string t10f2), (.int .i64 t10f3)])] h1 (fun v h2 => ∃ (t11 : OA) (t11n t11c : Nat), v = (.slice t11 t11n t11c) ∧
 nilc d0 (fun t12 =>
 wr (Addr.add t12 2) (.slice t11 t11n t11c) (fun h3 =>
 nilc d0 (fun t16 =>
 ∃ (t18 : OA) (t18n t18c : Nat), cellH h3 (Addr.add t16 4) = some (.slice t18 t18n t18c) ∧
 ∃ (t19f0 : Int) (t19f1 t19f2 : ByteArray) (t19f3 : Int), rdCells h3 c3 0 [(.int .i64 t19f0), (.string t19f1), (.string t19f2), (.int .i64 t19f3)] ∧
 let h4 : Heap := Array.push h3 (.cells #[(.int .i64 t19f0), (.string t19f1), (.string t19f2), (.int .i64 t19f3)] T_haversackref09_Change (0, 0))
 hwp PP (Builtin.append_ #[T_sl_haversackref09_Change, T_sl_haversackref09_Change] T_sl_haversackref09_Change #[(.slice t18 t18n t18c), (.slice (some ⟨Array.size h3, 0, none⟩) 1 1)]) (fun v_1 h5 => ∃ (t21 : OA) (t21n t21c : Nat), v_1 = (.slice t21 t21n t21c) ∧
 nilc d0 (fun t22 =>
 wr (Addr.add t22 4) (.slice t21 t21n t21c) (fun h6 =>
 SpecH PP F_ref09_Disk_step [(.pointer d0)] h6 (fun v_2 h7 => ∃ (t25 : Int), v_2 = (.int .i64 t25) ∧
 Q (.int .i64 t25) h7)) h5)) h4)) h2)))) : SpecH PP F_ref09_Disk_change [(.pointer d0), (.agg #[(.int .i64 c1f0), (.string c1f1), (.string c1f2), (.int .i64 c1f3)])] h Q :=
   spec_of_txt (ann := ann) Try.func62 rfl rfl (by kernel_rfl) H
end ref09_Disk_change
/-! ### (*haversack/haversackref09.Disk).step: function 63 -/
namespace ref09_Disk_step
def ann : Ann := (.seq 1 (.region [(List.range 1, 1)]) (.seq 1 (.region [(List.range 8, 1)]) (.seq 0 (.seq 16385 (.region [(List.range 5, 16385)]) (.cond (.region [(List.range 8, 0)]) .leaf)) (.seq 4 (.region [(List.range 1, 4)]) (.exit 4)))))
noncomputable abbrev cd (n : Nat) : Code := sub (bodyOf Try.f63) (pth n)
abbrev an (n : Nat) : Ann := subA ann (pth n)
theorem door {d0 : OA} {Q : VP} {h : Heap} (H :
 nilc d0 (fun t4 =>
 ∃ (t6 : Int), cellH h (Addr.add t4 5) = some (.int .i64 t6) ∧
 let t7 : Int := IntKind.i64.wrap (t6 + 1)
 nilc d0 (fun t8 =>
 wr (Addr.add t8 5) (.int .i64 t7) (fun h1 =>
 nilc d0 (fun t11 =>
 ∃ (t13 : Int), cellH h1 (Addr.add t11 6) = some (.int .i64 t13) ∧
 let t14 : Bool := decide (t13 > 0)
 br t14 (
 nilc d0 (fun t16 =>
 ∃ (t18 : Int), cellH h1 (Addr.add t16 6) = some (.int .i64 t18) ∧
 let t19 : Int := IntKind.i64.wrap (t18 - 1)
 nilc d0 (fun t20 =>
 wr (Addr.add t20 6) (.int .i64 t19) (fun h2 =>
 Q (.int .i64 0) h2) h1))) (
 Q (.int .i64 0) h1))) h))) : SpecH PP F_ref09_Disk_step [(.pointer d0)] h Q :=
   spec_of_txt (ann := ann) Try.func63 rfl rfl (by kernel_rfl) H
end ref09_Disk_step
/-! ### haversack/haversackref09.says: function 64 -/
namespace ref09_says
def ann : Ann := (.seq 3 (.region [(List.range 1, 3)]) (.seq 3 (.seq 67 (.region [(List.range 2, 67)]) (.cond (.region [(List.range 4, 3)]) .leaf)) (.join (.seq 16 (.region [(List.range 5, 16)]) (.exit 16)))))
noncomputable abbrev cd (n : Nat) : Code := sub (bodyOf Try.f64) (pth n)
abbrev an (n : Nat) : Ann := subA ann (pth n)
@[irreducible] def J1 (c0 xn1 : Int) (Q : VP) (h : Heap) : Prop := Jn PP true (cd 7) (mkFr 0 14 [(0, (.int .i64 c0)), (1, (.int .i64 xn1))]) (bodyK PP Try.f64 Q) h
theorem J1_of {c0 xn1 : Int} {Q : VP} {h : Heap} (H :
 let t12 : Int := IntKind.i64.wrap (xn1 + 1)
 br (!decide (t12 = 0)) (
 let t13 : Int := Int.tmod c0 t12
 Q (.int .i64 t13) h) False) : J1 c0 xn1 Q h := by unfold J1; exact Jn.of_txt (an 7) (by kernel_rfl) H
theorem door {c0 xn1 : Int} {Q : VP} {h : Heap} (H :
 let t6 : Bool := decide (c0 < 0)
 br t6 (
 let t8 : Int := IntKind.i64.wrap (c0 + 1)
 let t9 : Int := IntKind.i64.wrap (0 - t8)
 J1 t9 xn1 Q h) (
 J1 c0 xn1 Q h)) : SpecH PP F_ref09_says [(.int .i64 c0), (.int .i64 xn1)] h Q :=
   spec_of_txt (ann := ann) Try.func64 rfl rfl (by kernel_rfl) H
end ref09_says
/-! ### haversack/haversackref09.choice: function 65 -/
namespace ref09_choice
def ann : Ann := (.seq 3 (.region [(List.range 1, 3)]) (.seq 0 (.seq 259 (.region [(List.range 4, 259)]) (.cond (.seq 16 (.region [(List.range 5, 16)]) (.exit 16)) .leaf)) (.seq 16 (.region [(List.range 1, 16)]) (.exit 16))))
noncomputable abbrev cd (n : Nat) : Code := sub (bodyOf Try.f65) (pth n)
abbrev an (n : Nat) : Ann := subA ann (pth n)
theorem door {xl0 : OA} {xl0n xl0c : Nat} {i1 : Int} {Q : VP} {h : Heap} (H :
 let t8 : Bool := decide (i1 < (xl0n : Int))
 br t8 (
 hwp PP (Instr.indexAt T_sl_int (.slice xl0 xl0n xl0c) (.int .i64 i1)) (fun v h1 => ∃ (t11 : Addr), v = (.pointer (some t11)) ∧
 ∃ (t12 : Int), cellH h1 t11 = some (.int .i64 t12) ∧
 Q (.int .i64 t12) h1) h) (
 Q (.int .i64 0) h)) : SpecH PP F_ref09_choice [(.slice xl0 xl0n xl0c), (.int .i64 i1)] h Q :=
   spec_of_txt (ann := ann) Try.func65 rfl rfl (by kernel_rfl) H
end ref09_choice
/-! ### haversack/haversackref09.apply: function 66 -/
namespace ref09_apply
def ann : Ann := (.seq 9 (.region [(List.range 2, 9)]) (.seq 9 (.seq 73 (.region [(List.range 2, 73)]) (.block (.seq 201 (.region [(List.range 2, 201)]) (.cond (.seq 16 (.tree (.run [0, 1, 2, 4, 6] (.alt 3 (.run [5, 7, 8, 9, 10] .done) (.alt 5 (.alt 3 (.run [7, 8, 9, 10] .done) (.alt 7 (.run [3, 8, 9, 10] .done) .nil)) (.alt 7 (.alt 3 (.run [5, 8, 9, 10] .done) (.alt 5 (.run [3, 8, 9, 10] .done) .nil)) .nil)))) 16) (.exit 16)) (.seq 524297 (.region [(List.range 2, 524297)]) (.cond (.seq 16 (.tree (.run [0, 1, 2, 4, 7, 9] (.alt 3 (.run [5] (.alt 6 (.run [8, 10, 11, 12, 13] .done) (.alt 8 (.alt 6 (.run [10, 11, 12, 13] .done) (.alt 10 (.run [6, 11, 12, 13] .done) .nil)) (.alt 10 (.alt 6 (.run [8, 11, 12, 13] .done) (.alt 8 (.run [6, 11, 12, 13] .done) .nil)) .nil)))) (.alt 5 (.alt 3 (.alt 6 (.run [8, 10, 11, 12, 13] .done) (.alt 8 (.alt 6 (.run [10, 11, 12, 13] .done) (.alt 10 (.run [6, 11, 12, 13] .done) .nil)) (.alt 10 (.alt 6 (.run [8, 11, 12, 13] .done) (.alt 8 (.run [6, 11, 12, 13] .done) .nil)) .nil))) (.alt 8 (.alt 3 (.alt 6 (.run [10, 11, 12, 13] .done) (.alt 10 (.run [6, 11, 12, 13] .done) .nil)) (.alt 10 (.run [3, 6, 11, 12, 13] .done) .nil)) (.alt 10 (.alt 3 (.alt 6 (.run [8, 11, 12, 13] .done) (.alt 8 (.run [6, 11, 12, 13] .done) .nil)) (.alt 8 (.run [3, 6, 11, 12, 13] .done) .nil)) .nil))) (.alt 8 (.alt 3 (.run [5] (.alt 6 (.run [10, 11, 12, 13] .done) (.alt 10 (.run [6, 11, 12, 13] .done) .nil))) (.alt 5 (.alt 3 (.alt 6 (.run [10, 11, 12, 13] .done) (.alt 10 (.run [6, 11, 12, 13] .done) .nil)) (.alt 10 (.run [3, 6, 11, 12, 13] .done) .nil)) (.alt 10 (.run [11] (.alt 3 (.run [5, 6, 12, 13] .done) (.alt 5 (.run [3, 6, 12, 13] .done) .nil))) .nil))) (.alt 10 (.alt 3 (.run [5] (.alt 6 (.run [8, 11, 12, 13] .done) (.alt 8 (.run [6, 11, 12, 13] .done) .nil))) (.alt 5 (.alt 3 (.alt 6 (.run [8, 11, 12, 13] .done) (.alt 8 (.run [6, 11, 12, 13] .done) .nil)) (.alt 8 (.run [3, 6, 11, 12, 13] .done) .nil)) (.alt 8 (.run [11] (.alt 3 (.run [5, 6, 12, 13] .done) (.alt 5 (.run [3, 6, 12, 13] .done) .nil))) .nil))) .nil))))) 16) (.exit 16)) .leaf)))))) (.seq 16 (.region [(List.range 5, 16)]) (.exit 16))))
noncomputable abbrev cd (n : Nat) : Code := sub (bodyOf Try.f66) (pth n)
abbrev an (n : Nat) : Ann := subA ann (pth n)
theorem door {xl0 : OA} {xl0n xl0c : Nat} {c1f0 : Int} {c1f1 c1f2 : ByteArray} {c1f3 : Int} {Q : VP} {h : Heap} (H :
 let c3 : Addr := ⟨Array.size h, 0, none⟩
 let h1 : Heap := Array.push h (.cells #[(.int .i64 c1f0), (.string c1f1), (.string c1f2), (.int .i64 c1f3)] T_haversackref09_Change (0, 0))
 ∃ (t6 : Int), cellH h1 c3 = some (.int .i64 t6) ∧
 let t8 : Bool := (t6 == 1)
 br t8 (
 ∃ (t11 : ByteArray), cellH h1 (Addr.add c3 2) = some (.string t11) ∧
 (
 SpecH PP F_ref09_without [(.slice xl0 xl0n xl0c), (.string t11)] h1 (fun v_8 h10 => ∃ (t12_4 : OA) (t12_4n t12_4c : Nat), v_8 = (.slice t12_4 t12_4n t12_4c) ∧
 ∃ (t14_3 : ByteArray), cellH h10 (Addr.add c3 2) = some (.string t14_3) ∧
 ∃ (t16_3 : Int), cellH h10 (Addr.add c3 3) = some (.int .i64 t16_3) ∧
 SpecH PP F_ref09_with [(.slice t12_4 t12_4n t12_4c), (.agg #[(.string t14_3), (.int .i64 t16_3)])] h10 (fun v_9 h11 => ∃ (t18_4 : OA) (t18_4n t18_4c : Nat), v_9 = (.slice t18_4 t18_4n t18_4c) ∧
 Q (.slice t18_4 t18_4n t18_4c) h11))) ∧
 (
 ∃ (t14_2 : ByteArray), cellH h1 (Addr.add c3 2) = some (.string t14_2) ∧
 (
 SpecH PP F_ref09_without [(.slice xl0 xl0n xl0c), (.string t11)] h1 (fun v_6 h8 => ∃ (t12_3 : OA) (t12_3n t12_3c : Nat), v_6 = (.slice t12_3 t12_3n t12_3c) ∧
 ∃ (t16_2 : Int), cellH h8 (Addr.add c3 3) = some (.int .i64 t16_2) ∧
 SpecH PP F_ref09_with [(.slice t12_3 t12_3n t12_3c), (.agg #[(.string t14_2), (.int .i64 t16_2)])] h8 (fun v_7 h9 => ∃ (t18_3 : OA) (t18_3n t18_3c : Nat), v_7 = (.slice t18_3 t18_3n t18_3c) ∧
 Q (.slice t18_3 t18_3n t18_3c) h9))) ∧
 (
 ∃ (t16_1 : Int), cellH h1 (Addr.add c3 3) = some (.int .i64 t16_1) ∧
 SpecH PP F_ref09_without [(.slice xl0 xl0n xl0c), (.string t11)] h1 (fun v_4 h6 => ∃ (t12_2 : OA) (t12_2n t12_2c : Nat), v_4 = (.slice t12_2 t12_2n t12_2c) ∧
 SpecH PP F_ref09_with [(.slice t12_2 t12_2n t12_2c), (.agg #[(.string t14_2), (.int .i64 t16_1)])] h6 (fun v_5 h7 => ∃ (t18_2 : OA) (t18_2n t18_2c : Nat), v_5 = (.slice t18_2 t18_2n t18_2c) ∧
 Q (.slice t18_2 t18_2n t18_2c) h7))) ∧
 True) ∧
 (
 ∃ (t16 : Int), cellH h1 (Addr.add c3 3) = some (.int .i64 t16) ∧
 (
 SpecH PP F_ref09_without [(.slice xl0 xl0n xl0c), (.string t11)] h1 (fun v_2 h4 => ∃ (t12_1 : OA) (t12_1n t12_1c : Nat), v_2 = (.slice t12_1 t12_1n t12_1c) ∧
 ∃ (t14_1 : ByteArray), cellH h4 (Addr.add c3 2) = some (.string t14_1) ∧
 SpecH PP F_ref09_with [(.slice t12_1 t12_1n t12_1c), (.agg #[(.string t14_1), (.int .i64 t16)])] h4 (fun v_3 h5 => ∃ (t18_1 : OA) (t18_1n t18_1c : Nat), v_3 = (.slice t18_1 t18_1n t18_1c) ∧
 Q (.slice t18_1 t18_1n t18_1c) h5))) ∧
 (
 ∃ (t14 : ByteArray), cellH h1 (Addr.add c3 2) = some (.string t14) ∧
 SpecH PP F_ref09_without [(.slice xl0 xl0n xl0c), (.string t11)] h1 (fun v h2 => ∃ (t12 : OA) (t12n t12c : Nat), v = (.slice t12 t12n t12c) ∧
 SpecH PP F_ref09_with [(.slice t12 t12n t12c), (.agg #[(.string t14), (.int .i64 t16)])] h2 (fun v_1 h3 => ∃ (t18 : OA) (t18n t18c : Nat), v_1 = (.slice t18 t18n t18c) ∧
 Q (.slice t18 t18n t18c) h3))) ∧
 True) ∧
 True) (
 let t20 : Bool := (t6 == 2)
 br t20 (
 ∃ (t23 : ByteArray), cellH h1 (Addr.add c3 1) = some (.string t23) ∧
 (
 SpecH PP F_ref09_without [(.slice xl0 xl0n xl0c), (.string t23)] h1 (fun v_75 h77 => ∃ (t24_15 : OA) (t24_15n t24_15c : Nat), v_75 = (.slice t24_15 t24_15n t24_15c) ∧
 ∃ (t26_9 : ByteArray), cellH h77 (Addr.add c3 2) = some (.string t26_9) ∧
 (
 SpecH PP F_ref09_without [(.slice t24_15 t24_15n t24_15c), (.string t26_9)] h77 (fun v_84 h86 => ∃ (t27_29 : OA) (t27_29n t27_29c : Nat), v_84 = (.slice t27_29 t27_29n t27_29c) ∧
 ∃ (t29_18 : ByteArray), cellH h86 (Addr.add c3 2) = some (.string t29_18) ∧
 ∃ (t31_18 : Int), cellH h86 (Addr.add c3 3) = some (.int .i64 t31_18) ∧
 SpecH PP F_ref09_with [(.slice t27_29 t27_29n t27_29c), (.agg #[(.string t29_18), (.int .i64 t31_18)])] h86 (fun v_85 h87 => ∃ (t33_29 : OA) (t33_29n t33_29c : Nat), v_85 = (.slice t33_29 t33_29n t33_29c) ∧
 Q (.slice t33_29 t33_29n t33_29c) h87))) ∧
 (
 ∃ (t29_17 : ByteArray), cellH h77 (Addr.add c3 2) = some (.string t29_17) ∧
 (
 SpecH PP F_ref09_without [(.slice t24_15 t24_15n t24_15c), (.string t26_9)] h77 (fun v_82 h84 => ∃ (t27_28 : OA) (t27_28n t27_28c : Nat), v_82 = (.slice t27_28 t27_28n t27_28c) ∧
 ∃ (t31_17 : Int), cellH h84 (Addr.add c3 3) = some (.int .i64 t31_17) ∧
 SpecH PP F_ref09_with [(.slice t27_28 t27_28n t27_28c), (.agg #[(.string t29_17), (.int .i64 t31_17)])] h84 (fun v_83 h85 => ∃ (t33_28 : OA) (t33_28n t33_28c : Nat), v_83 = (.slice t33_28 t33_28n t33_28c) ∧
 Q (.slice t33_28 t33_28n t33_28c) h85))) ∧
 (
 ∃ (t31_16 : Int), cellH h77 (Addr.add c3 3) = some (.int .i64 t31_16) ∧
 SpecH PP F_ref09_without [(.slice t24_15 t24_15n t24_15c), (.string t26_9)] h77 (fun v_80 h82 => ∃ (t27_27 : OA) (t27_27n t27_27c : Nat), v_80 = (.slice t27_27 t27_27n t27_27c) ∧
 SpecH PP F_ref09_with [(.slice t27_27 t27_27n t27_27c), (.agg #[(.string t29_17), (.int .i64 t31_16)])] h82 (fun v_81 h83 => ∃ (t33_27 : OA) (t33_27n t33_27c : Nat), v_81 = (.slice t33_27 t33_27n t33_27c) ∧
 Q (.slice t33_27 t33_27n t33_27c) h83))) ∧
 True) ∧
 (
 ∃ (t31_15 : Int), cellH h77 (Addr.add c3 3) = some (.int .i64 t31_15) ∧
 (
 SpecH PP F_ref09_without [(.slice t24_15 t24_15n t24_15c), (.string t26_9)] h77 (fun v_78 h80 => ∃ (t27_26 : OA) (t27_26n t27_26c : Nat), v_78 = (.slice t27_26 t27_26n t27_26c) ∧
 ∃ (t29_16 : ByteArray), cellH h80 (Addr.add c3 2) = some (.string t29_16) ∧
 SpecH PP F_ref09_with [(.slice t27_26 t27_26n t27_26c), (.agg #[(.string t29_16), (.int .i64 t31_15)])] h80 (fun v_79 h81 => ∃ (t33_26 : OA) (t33_26n t33_26c : Nat), v_79 = (.slice t33_26 t33_26n t33_26c) ∧
 Q (.slice t33_26 t33_26n t33_26c) h81))) ∧
 (
 ∃ (t29_15 : ByteArray), cellH h77 (Addr.add c3 2) = some (.string t29_15) ∧
 SpecH PP F_ref09_without [(.slice t24_15 t24_15n t24_15c), (.string t26_9)] h77 (fun v_76 h78 => ∃ (t27_25 : OA) (t27_25n t27_25c : Nat), v_76 = (.slice t27_25 t27_25n t27_25c) ∧
 SpecH PP F_ref09_with [(.slice t27_25 t27_25n t27_25c), (.agg #[(.string t29_15), (.int .i64 t31_15)])] h78 (fun v_77 h79 => ∃ (t33_25 : OA) (t33_25n t33_25c : Nat), v_77 = (.slice t33_25 t33_25n t33_25c) ∧
 Q (.slice t33_25 t33_25n t33_25c) h79))) ∧
 True) ∧
 True)) ∧
 (
 ∃ (t26_8 : ByteArray), cellH h1 (Addr.add c3 2) = some (.string t26_8) ∧
 (
 SpecH PP F_ref09_without [(.slice xl0 xl0n xl0c), (.string t23)] h1 (fun v_64 h66 => ∃ (t24_14 : OA) (t24_14n t24_14c : Nat), v_64 = (.slice t24_14 t24_14n t24_14c) ∧
 (
 SpecH PP F_ref09_without [(.slice t24_14 t24_14n t24_14c), (.string t26_8)] h66 (fun v_73 h75 => ∃ (t27_24 : OA) (t27_24n t27_24c : Nat), v_73 = (.slice t27_24 t27_24n t27_24c) ∧
 ∃ (t29_14 : ByteArray), cellH h75 (Addr.add c3 2) = some (.string t29_14) ∧
 ∃ (t31_14 : Int), cellH h75 (Addr.add c3 3) = some (.int .i64 t31_14) ∧
 SpecH PP F_ref09_with [(.slice t27_24 t27_24n t27_24c), (.agg #[(.string t29_14), (.int .i64 t31_14)])] h75 (fun v_74 h76 => ∃ (t33_24 : OA) (t33_24n t33_24c : Nat), v_74 = (.slice t33_24 t33_24n t33_24c) ∧
 Q (.slice t33_24 t33_24n t33_24c) h76))) ∧
 (
 ∃ (t29_13 : ByteArray), cellH h66 (Addr.add c3 2) = some (.string t29_13) ∧
 (
 SpecH PP F_ref09_without [(.slice t24_14 t24_14n t24_14c), (.string t26_8)] h66 (fun v_71 h73 => ∃ (t27_23 : OA) (t27_23n t27_23c : Nat), v_71 = (.slice t27_23 t27_23n t27_23c) ∧
 ∃ (t31_13 : Int), cellH h73 (Addr.add c3 3) = some (.int .i64 t31_13) ∧
 SpecH PP F_ref09_with [(.slice t27_23 t27_23n t27_23c), (.agg #[(.string t29_13), (.int .i64 t31_13)])] h73 (fun v_72 h74 => ∃ (t33_23 : OA) (t33_23n t33_23c : Nat), v_72 = (.slice t33_23 t33_23n t33_23c) ∧
 Q (.slice t33_23 t33_23n t33_23c) h74))) ∧
 (
 ∃ (t31_12 : Int), cellH h66 (Addr.add c3 3) = some (.int .i64 t31_12) ∧
 SpecH PP F_ref09_without [(.slice t24_14 t24_14n t24_14c), (.string t26_8)] h66 (fun v_69 h71 => ∃ (t27_22 : OA) (t27_22n t27_22c : Nat), v_69 = (.slice t27_22 t27_22n t27_22c) ∧
 SpecH PP F_ref09_with [(.slice t27_22 t27_22n t27_22c), (.agg #[(.string t29_13), (.int .i64 t31_12)])] h71 (fun v_70 h72 => ∃ (t33_22 : OA) (t33_22n t33_22c : Nat), v_70 = (.slice t33_22 t33_22n t33_22c) ∧
 Q (.slice t33_22 t33_22n t33_22c) h72))) ∧
 True) ∧
 (
 ∃ (t31_11 : Int), cellH h66 (Addr.add c3 3) = some (.int .i64 t31_11) ∧
 (
 SpecH PP F_ref09_without [(.slice t24_14 t24_14n t24_14c), (.string t26_8)] h66 (fun v_67 h69 => ∃ (t27_21 : OA) (t27_21n t27_21c : Nat), v_67 = (.slice t27_21 t27_21n t27_21c) ∧
 ∃ (t29_12 : ByteArray), cellH h69 (Addr.add c3 2) = some (.string t29_12) ∧
 SpecH PP F_ref09_with [(.slice t27_21 t27_21n t27_21c), (.agg #[(.string t29_12), (.int .i64 t31_11)])] h69 (fun v_68 h70 => ∃ (t33_21 : OA) (t33_21n t33_21c : Nat), v_68 = (.slice t33_21 t33_21n t33_21c) ∧
 Q (.slice t33_21 t33_21n t33_21c) h70))) ∧
 (
 ∃ (t29_11 : ByteArray), cellH h66 (Addr.add c3 2) = some (.string t29_11) ∧
 SpecH PP F_ref09_without [(.slice t24_14 t24_14n t24_14c), (.string t26_8)] h66 (fun v_65 h67 => ∃ (t27_20 : OA) (t27_20n t27_20c : Nat), v_65 = (.slice t27_20 t27_20n t27_20c) ∧
 SpecH PP F_ref09_with [(.slice t27_20 t27_20n t27_20c), (.agg #[(.string t29_11), (.int .i64 t31_11)])] h67 (fun v_66 h68 => ∃ (t33_20 : OA) (t33_20n t33_20c : Nat), v_66 = (.slice t33_20 t33_20n t33_20c) ∧
 Q (.slice t33_20 t33_20n t33_20c) h68))) ∧
 True) ∧
 True)) ∧
 (
 ∃ (t29_10 : ByteArray), cellH h1 (Addr.add c3 2) = some (.string t29_10) ∧
 (
 SpecH PP F_ref09_without [(.slice xl0 xl0n xl0c), (.string t23)] h1 (fun v_59 h61 => ∃ (t24_13 : OA) (t24_13n t24_13c : Nat), v_59 = (.slice t24_13 t24_13n t24_13c) ∧
 (
 SpecH PP F_ref09_without [(.slice t24_13 t24_13n t24_13c), (.string t26_8)] h61 (fun v_62 h64 => ∃ (t27_19 : OA) (t27_19n t27_19c : Nat), v_62 = (.slice t27_19 t27_19n t27_19c) ∧
 ∃ (t31_10 : Int), cellH h64 (Addr.add c3 3) = some (.int .i64 t31_10) ∧
 SpecH PP F_ref09_with [(.slice t27_19 t27_19n t27_19c), (.agg #[(.string t29_10), (.int .i64 t31_10)])] h64 (fun v_63 h65 => ∃ (t33_19 : OA) (t33_19n t33_19c : Nat), v_63 = (.slice t33_19 t33_19n t33_19c) ∧
 Q (.slice t33_19 t33_19n t33_19c) h65))) ∧
 (
 ∃ (t31_9 : Int), cellH h61 (Addr.add c3 3) = some (.int .i64 t31_9) ∧
 SpecH PP F_ref09_without [(.slice t24_13 t24_13n t24_13c), (.string t26_8)] h61 (fun v_60 h62 => ∃ (t27_18 : OA) (t27_18n t27_18c : Nat), v_60 = (.slice t27_18 t27_18n t27_18c) ∧
 SpecH PP F_ref09_with [(.slice t27_18 t27_18n t27_18c), (.agg #[(.string t29_10), (.int .i64 t31_9)])] h62 (fun v_61 h63 => ∃ (t33_18 : OA) (t33_18n t33_18c : Nat), v_61 = (.slice t33_18 t33_18n t33_18c) ∧
 Q (.slice t33_18 t33_18n t33_18c) h63))) ∧
 True)) ∧
 (
 ∃ (t31_8 : Int), cellH h1 (Addr.add c3 3) = some (.int .i64 t31_8) ∧
 SpecH PP F_ref09_without [(.slice xl0 xl0n xl0c), (.string t23)] h1 (fun v_56 h58 => ∃ (t24_12 : OA) (t24_12n t24_12c : Nat), v_56 = (.slice t24_12 t24_12n t24_12c) ∧
 SpecH PP F_ref09_without [(.slice t24_12 t24_12n t24_12c), (.string t26_8)] h58 (fun v_57 h59 => ∃ (t27_17 : OA) (t27_17n t27_17c : Nat), v_57 = (.slice t27_17 t27_17n t27_17c) ∧
 SpecH PP F_ref09_with [(.slice t27_17 t27_17n t27_17c), (.agg #[(.string t29_10), (.int .i64 t31_8)])] h59 (fun v_58 h60 => ∃ (t33_17 : OA) (t33_17n t33_17c : Nat), v_58 = (.slice t33_17 t33_17n t33_17c) ∧
 Q (.slice t33_17 t33_17n t33_17c) h60)))) ∧
 True) ∧
 (
 ∃ (t31_7 : Int), cellH h1 (Addr.add c3 3) = some (.int .i64 t31_7) ∧
 (
 SpecH PP F_ref09_without [(.slice xl0 xl0n xl0c), (.string t23)] h1 (fun v_51 h53 => ∃ (t24_11 : OA) (t24_11n t24_11c : Nat), v_51 = (.slice t24_11 t24_11n t24_11c) ∧
 (
 SpecH PP F_ref09_without [(.slice t24_11 t24_11n t24_11c), (.string t26_8)] h53 (fun v_54 h56 => ∃ (t27_16 : OA) (t27_16n t27_16c : Nat), v_54 = (.slice t27_16 t27_16n t27_16c) ∧
 ∃ (t29_9 : ByteArray), cellH h56 (Addr.add c3 2) = some (.string t29_9) ∧
 SpecH PP F_ref09_with [(.slice t27_16 t27_16n t27_16c), (.agg #[(.string t29_9), (.int .i64 t31_7)])] h56 (fun v_55 h57 => ∃ (t33_16 : OA) (t33_16n t33_16c : Nat), v_55 = (.slice t33_16 t33_16n t33_16c) ∧
 Q (.slice t33_16 t33_16n t33_16c) h57))) ∧
 (
 ∃ (t29_8 : ByteArray), cellH h53 (Addr.add c3 2) = some (.string t29_8) ∧
 SpecH PP F_ref09_without [(.slice t24_11 t24_11n t24_11c), (.string t26_8)] h53 (fun v_52 h54 => ∃ (t27_15 : OA) (t27_15n t27_15c : Nat), v_52 = (.slice t27_15 t27_15n t27_15c) ∧
 SpecH PP F_ref09_with [(.slice t27_15 t27_15n t27_15c), (.agg #[(.string t29_8), (.int .i64 t31_7)])] h54 (fun v_53 h55 => ∃ (t33_15 : OA) (t33_15n t33_15c : Nat), v_53 = (.slice t33_15 t33_15n t33_15c) ∧
 Q (.slice t33_15 t33_15n t33_15c) h55))) ∧
 True)) ∧
 (
 ∃ (t29_7 : ByteArray), cellH h1 (Addr.add c3 2) = some (.string t29_7) ∧
 SpecH PP F_ref09_without [(.slice xl0 xl0n xl0c), (.string t23)] h1 (fun v_48 h50 => ∃ (t24_10 : OA) (t24_10n t24_10c : Nat), v_48 = (.slice t24_10 t24_10n t24_10c) ∧
 SpecH PP F_ref09_without [(.slice t24_10 t24_10n t24_10c), (.string t26_8)] h50 (fun v_49 h51 => ∃ (t27_14 : OA) (t27_14n t27_14c : Nat), v_49 = (.slice t27_14 t27_14n t27_14c) ∧
 SpecH PP F_ref09_with [(.slice t27_14 t27_14n t27_14c), (.agg #[(.string t29_7), (.int .i64 t31_7)])] h51 (fun v_50 h52 => ∃ (t33_14 : OA) (t33_14n t33_14c : Nat), v_50 = (.slice t33_14 t33_14n t33_14c) ∧
 Q (.slice t33_14 t33_14n t33_14c) h52)))) ∧
 True) ∧
 True) ∧
 (
 ∃ (t29_6 : ByteArray), cellH h1 (Addr.add c3 2) = some (.string t29_6) ∧
 (
 SpecH PP F_ref09_without [(.slice xl0 xl0n xl0c), (.string t23)] h1 (fun v_43 h45 => ∃ (t24_9 : OA) (t24_9n t24_9c : Nat), v_43 = (.slice t24_9 t24_9n t24_9c) ∧
 ∃ (t26_7 : ByteArray), cellH h45 (Addr.add c3 2) = some (.string t26_7) ∧
 (
 SpecH PP F_ref09_without [(.slice t24_9 t24_9n t24_9c), (.string t26_7)] h45 (fun v_46 h48 => ∃ (t27_13 : OA) (t27_13n t27_13c : Nat), v_46 = (.slice t27_13 t27_13n t27_13c) ∧
 ∃ (t31_6 : Int), cellH h48 (Addr.add c3 3) = some (.int .i64 t31_6) ∧
 SpecH PP F_ref09_with [(.slice t27_13 t27_13n t27_13c), (.agg #[(.string t29_6), (.int .i64 t31_6)])] h48 (fun v_47 h49 => ∃ (t33_13 : OA) (t33_13n t33_13c : Nat), v_47 = (.slice t33_13 t33_13n t33_13c) ∧
 Q (.slice t33_13 t33_13n t33_13c) h49))) ∧
 (
 ∃ (t31_5 : Int), cellH h45 (Addr.add c3 3) = some (.int .i64 t31_5) ∧
 SpecH PP F_ref09_without [(.slice t24_9 t24_9n t24_9c), (.string t26_7)] h45 (fun v_44 h46 => ∃ (t27_12 : OA) (t27_12n t27_12c : Nat), v_44 = (.slice t27_12 t27_12n t27_12c) ∧
 SpecH PP F_ref09_with [(.slice t27_12 t27_12n t27_12c), (.agg #[(.string t29_6), (.int .i64 t31_5)])] h46 (fun v_45 h47 => ∃ (t33_12 : OA) (t33_12n t33_12c : Nat), v_45 = (.slice t33_12 t33_12n t33_12c) ∧
 Q (.slice t33_12 t33_12n t33_12c) h47))) ∧
 True)) ∧
 (
 ∃ (t26_6 : ByteArray), cellH h1 (Addr.add c3 2) = some (.string t26_6) ∧
 (
 SpecH PP F_ref09_without [(.slice xl0 xl0n xl0c), (.string t23)] h1 (fun v_38 h40 => ∃ (t24_8 : OA) (t24_8n t24_8c : Nat), v_38 = (.slice t24_8 t24_8n t24_8c) ∧
 (
 SpecH PP F_ref09_without [(.slice t24_8 t24_8n t24_8c), (.string t26_6)] h40 (fun v_41 h43 => ∃ (t27_11 : OA) (t27_11n t27_11c : Nat), v_41 = (.slice t27_11 t27_11n t27_11c) ∧
 ∃ (t31_4 : Int), cellH h43 (Addr.add c3 3) = some (.int .i64 t31_4) ∧
 SpecH PP F_ref09_with [(.slice t27_11 t27_11n t27_11c), (.agg #[(.string t29_6), (.int .i64 t31_4)])] h43 (fun v_42 h44 => ∃ (t33_11 : OA) (t33_11n t33_11c : Nat), v_42 = (.slice t33_11 t33_11n t33_11c) ∧
 Q (.slice t33_11 t33_11n t33_11c) h44))) ∧
 (
 ∃ (t31_3 : Int), cellH h40 (Addr.add c3 3) = some (.int .i64 t31_3) ∧
 SpecH PP F_ref09_without [(.slice t24_8 t24_8n t24_8c), (.string t26_6)] h40 (fun v_39 h41 => ∃ (t27_10 : OA) (t27_10n t27_10c : Nat), v_39 = (.slice t27_10 t27_10n t27_10c) ∧
 SpecH PP F_ref09_with [(.slice t27_10 t27_10n t27_10c), (.agg #[(.string t29_6), (.int .i64 t31_3)])] h41 (fun v_40 h42 => ∃ (t33_10 : OA) (t33_10n t33_10c : Nat), v_40 = (.slice t33_10 t33_10n t33_10c) ∧
 Q (.slice t33_10 t33_10n t33_10c) h42))) ∧
 True)) ∧
 (
 ∃ (t31_2 : Int), cellH h1 (Addr.add c3 3) = some (.int .i64 t31_2) ∧
 SpecH PP F_ref09_without [(.slice xl0 xl0n xl0c), (.string t23)] h1 (fun v_35 h37 => ∃ (t24_7 : OA) (t24_7n t24_7c : Nat), v_35 = (.slice t24_7 t24_7n t24_7c) ∧
 SpecH PP F_ref09_without [(.slice t24_7 t24_7n t24_7c), (.string t26_6)] h37 (fun v_36 h38 => ∃ (t27_9 : OA) (t27_9n t27_9c : Nat), v_36 = (.slice t27_9 t27_9n t27_9c) ∧
 SpecH PP F_ref09_with [(.slice t27_9 t27_9n t27_9c), (.agg #[(.string t29_6), (.int .i64 t31_2)])] h38 (fun v_37 h39 => ∃ (t33_9 : OA) (t33_9n t33_9c : Nat), v_37 = (.slice t33_9 t33_9n t33_9c) ∧
 Q (.slice t33_9 t33_9n t33_9c) h39)))) ∧
 True) ∧
 (
 ∃ (t31_1 : Int), cellH h1 (Addr.add c3 3) = some (.int .i64 t31_1) ∧
 (
 SpecH PP F_ref09_without [(.slice xl0 xl0n xl0c), (.string t23)] h1 (fun v_32 h34 => ∃ (t24_6 : OA) (t24_6n t24_6c : Nat), v_32 = (.slice t24_6 t24_6n t24_6c) ∧
 ∃ (t26_5 : ByteArray), cellH h34 (Addr.add c3 2) = some (.string t26_5) ∧
 SpecH PP F_ref09_without [(.slice t24_6 t24_6n t24_6c), (.string t26_5)] h34 (fun v_33 h35 => ∃ (t27_8 : OA) (t27_8n t27_8c : Nat), v_33 = (.slice t27_8 t27_8n t27_8c) ∧
 SpecH PP F_ref09_with [(.slice t27_8 t27_8n t27_8c), (.agg #[(.string t29_6), (.int .i64 t31_1)])] h35 (fun v_34 h36 => ∃ (t33_8 : OA) (t33_8n t33_8c : Nat), v_34 = (.slice t33_8 t33_8n t33_8c) ∧
 Q (.slice t33_8 t33_8n t33_8c) h36)))) ∧
 (
 ∃ (t26_4 : ByteArray), cellH h1 (Addr.add c3 2) = some (.string t26_4) ∧
 SpecH PP F_ref09_without [(.slice xl0 xl0n xl0c), (.string t23)] h1 (fun v_29 h31 => ∃ (t24_5 : OA) (t24_5n t24_5c : Nat), v_29 = (.slice t24_5 t24_5n t24_5c) ∧
 SpecH PP F_ref09_without [(.slice t24_5 t24_5n t24_5c), (.string t26_4)] h31 (fun v_30 h32 => ∃ (t27_7 : OA) (t27_7n t27_7c : Nat), v_30 = (.slice t27_7 t27_7n t27_7c) ∧
 SpecH PP F_ref09_with [(.slice t27_7 t27_7n t27_7c), (.agg #[(.string t29_6), (.int .i64 t31_1)])] h32 (fun v_31 h33 => ∃ (t33_7 : OA) (t33_7n t33_7c : Nat), v_31 = (.slice t33_7 t33_7n t33_7c) ∧
 Q (.slice t33_7 t33_7n t33_7c) h33)))) ∧
 True) ∧
 True) ∧
 (
 ∃ (t31 : Int), cellH h1 (Addr.add c3 3) = some (.int .i64 t31) ∧
 (
 SpecH PP F_ref09_without [(.slice xl0 xl0n xl0c), (.string t23)] h1 (fun v_24 h26 => ∃ (t24_4 : OA) (t24_4n t24_4c : Nat), v_24 = (.slice t24_4 t24_4n t24_4c) ∧
 ∃ (t26_3 : ByteArray), cellH h26 (Addr.add c3 2) = some (.string t26_3) ∧
 (
 SpecH PP F_ref09_without [(.slice t24_4 t24_4n t24_4c), (.string t26_3)] h26 (fun v_27 h29 => ∃ (t27_6 : OA) (t27_6n t27_6c : Nat), v_27 = (.slice t27_6 t27_6n t27_6c) ∧
 ∃ (t29_5 : ByteArray), cellH h29 (Addr.add c3 2) = some (.string t29_5) ∧
 SpecH PP F_ref09_with [(.slice t27_6 t27_6n t27_6c), (.agg #[(.string t29_5), (.int .i64 t31)])] h29 (fun v_28 h30 => ∃ (t33_6 : OA) (t33_6n t33_6c : Nat), v_28 = (.slice t33_6 t33_6n t33_6c) ∧
 Q (.slice t33_6 t33_6n t33_6c) h30))) ∧
 (
 ∃ (t29_4 : ByteArray), cellH h26 (Addr.add c3 2) = some (.string t29_4) ∧
 SpecH PP F_ref09_without [(.slice t24_4 t24_4n t24_4c), (.string t26_3)] h26 (fun v_25 h27 => ∃ (t27_5 : OA) (t27_5n t27_5c : Nat), v_25 = (.slice t27_5 t27_5n t27_5c) ∧
 SpecH PP F_ref09_with [(.slice t27_5 t27_5n t27_5c), (.agg #[(.string t29_4), (.int .i64 t31)])] h27 (fun v_26 h28 => ∃ (t33_5 : OA) (t33_5n t33_5c : Nat), v_26 = (.slice t33_5 t33_5n t33_5c) ∧
 Q (.slice t33_5 t33_5n t33_5c) h28))) ∧
 True)) ∧
 (
 ∃ (t26_2 : ByteArray), cellH h1 (Addr.add c3 2) = some (.string t26_2) ∧
 (
 SpecH PP F_ref09_without [(.slice xl0 xl0n xl0c), (.string t23)] h1 (fun v_19 h21 => ∃ (t24_3 : OA) (t24_3n t24_3c : Nat), v_19 = (.slice t24_3 t24_3n t24_3c) ∧
 (
 SpecH PP F_ref09_without [(.slice t24_3 t24_3n t24_3c), (.string t26_2)] h21 (fun v_22 h24 => ∃ (t27_4 : OA) (t27_4n t27_4c : Nat), v_22 = (.slice t27_4 t27_4n t27_4c) ∧
 ∃ (t29_3 : ByteArray), cellH h24 (Addr.add c3 2) = some (.string t29_3) ∧
 SpecH PP F_ref09_with [(.slice t27_4 t27_4n t27_4c), (.agg #[(.string t29_3), (.int .i64 t31)])] h24 (fun v_23 h25 => ∃ (t33_4 : OA) (t33_4n t33_4c : Nat), v_23 = (.slice t33_4 t33_4n t33_4c) ∧
 Q (.slice t33_4 t33_4n t33_4c) h25))) ∧
 (
 ∃ (t29_2 : ByteArray), cellH h21 (Addr.add c3 2) = some (.string t29_2) ∧
 SpecH PP F_ref09_without [(.slice t24_3 t24_3n t24_3c), (.string t26_2)] h21 (fun v_20 h22 => ∃ (t27_3 : OA) (t27_3n t27_3c : Nat), v_20 = (.slice t27_3 t27_3n t27_3c) ∧
 SpecH PP F_ref09_with [(.slice t27_3 t27_3n t27_3c), (.agg #[(.string t29_2), (.int .i64 t31)])] h22 (fun v_21 h23 => ∃ (t33_3 : OA) (t33_3n t33_3c : Nat), v_21 = (.slice t33_3 t33_3n t33_3c) ∧
 Q (.slice t33_3 t33_3n t33_3c) h23))) ∧
 True)) ∧
 (
 ∃ (t29_1 : ByteArray), cellH h1 (Addr.add c3 2) = some (.string t29_1) ∧
 SpecH PP F_ref09_without [(.slice xl0 xl0n xl0c), (.string t23)] h1 (fun v_16 h18 => ∃ (t24_2 : OA) (t24_2n t24_2c : Nat), v_16 = (.slice t24_2 t24_2n t24_2c) ∧
 SpecH PP F_ref09_without [(.slice t24_2 t24_2n t24_2c), (.string t26_2)] h18 (fun v_17 h19 => ∃ (t27_2 : OA) (t27_2n t27_2c : Nat), v_17 = (.slice t27_2 t27_2n t27_2c) ∧
 SpecH PP F_ref09_with [(.slice t27_2 t27_2n t27_2c), (.agg #[(.string t29_1), (.int .i64 t31)])] h19 (fun v_18 h20 => ∃ (t33_2 : OA) (t33_2n t33_2c : Nat), v_18 = (.slice t33_2 t33_2n t33_2c) ∧
 Q (.slice t33_2 t33_2n t33_2c) h20)))) ∧
 True) ∧
 (
 ∃ (t29 : ByteArray), cellH h1 (Addr.add c3 2) = some (.string t29) ∧
 (
 SpecH PP F_ref09_without [(.slice xl0 xl0n xl0c), (.string t23)] h1 (fun v_13 h15 => ∃ (t24_1 : OA) (t24_1n t24_1c : Nat), v_13 = (.slice t24_1 t24_1n t24_1c) ∧
 ∃ (t26_1 : ByteArray), cellH h15 (Addr.add c3 2) = some (.string t26_1) ∧
 SpecH PP F_ref09_without [(.slice t24_1 t24_1n t24_1c), (.string t26_1)] h15 (fun v_14 h16 => ∃ (t27_1 : OA) (t27_1n t27_1c : Nat), v_14 = (.slice t27_1 t27_1n t27_1c) ∧
 SpecH PP F_ref09_with [(.slice t27_1 t27_1n t27_1c), (.agg #[(.string t29), (.int .i64 t31)])] h16 (fun v_15 h17 => ∃ (t33_1 : OA) (t33_1n t33_1c : Nat), v_15 = (.slice t33_1 t33_1n t33_1c) ∧
 Q (.slice t33_1 t33_1n t33_1c) h17)))) ∧
 (
 ∃ (t26 : ByteArray), cellH h1 (Addr.add c3 2) = some (.string t26) ∧
 SpecH PP F_ref09_without [(.slice xl0 xl0n xl0c), (.string t23)] h1 (fun v_10 h12 => ∃ (t24 : OA) (t24n t24c : Nat), v_10 = (.slice t24 t24n t24c) ∧
 SpecH PP F_ref09_without [(.slice t24 t24n t24c), (.string t26)] h12 (fun v_11 h13 => ∃ (t27 : OA) (t27n t27c : Nat), v_11 = (.slice t27 t27n t27c) ∧
 SpecH PP F_ref09_with [(.slice t27 t27n t27c), (.agg #[(.string t29), (.int .i64 t31)])] h13 (fun v_12 h14 => ∃ (t33 : OA) (t33n t33c : Nat), v_12 = (.slice t33 t33n t33c) ∧
 Q (.slice t33 t33n t33c) h14)))) ∧
 True) ∧
 True) ∧
 True) (
 ∃ (t36 : ByteArray), cellH h1 (Addr.add c3 1) = some (.string t36) ∧
 SpecH PP F_ref09_without [(.slice xl0 xl0n xl0c), (.string t36)] h1 (fun v_86 h88 => ∃ (t37 : OA) (t37n t37c : Nat), v_86 = (.slice t37 t37n t37c) ∧
 Q (.slice t37 t37n t37c) h88)))) : SpecH PP F_ref09_apply [(.slice xl0 xl0n xl0c), (.agg #[(.int .i64 c1f0), (.string c1f1), (.string c1f2), (.int .i64 c1f3)])] h Q :=
   spec_of_txt (ann := ann) Try.func66 rfl rfl (by kernel_rfl) H
end ref09_apply
/-! ### slices.Collect[string]: function 67 -/
namespace slices_Collect_string
def ann : Ann := (.seq 1 (.region [(List.range 1, 1)]) (.seq 4 (.region [(List.range 3, 4)]) (.exit 4)))
noncomputable abbrev cd (n : Nat) : Code := sub (bodyOf Try.f67) (pth n)
abbrev an (n : Nat) : Ann := subA ann (pth n)
theorem door {seq0 : Value} {Q : VP} {h : Heap} (H :
 SpecH PP F_slices_AppendSeq_string_string [(.slice none 0 0), seq0] h (fun v h1 => ∃ (t4 : OA) (t4n t4c : Nat), v = (.slice t4 t4n t4c) ∧
 Q (.slice t4 t4n t4c) h1)) : SpecH PP F_slices_Collect_string [seq0] h Q :=
   spec_of_txt (ann := ann) Try.func67 rfl rfl (by kernel_rfl) H
end slices_Collect_string
/-! ### maps.Keys[haversack/disk.names,string,*haversack/disk.file]$1: function 69 -/
namespace maps_Keys_disk_names_string_disk_file_1
def ann : Ann := (.seq 33 (.region [(List.range 2, 33)]) (.block (.loop 33 (.seq 161 (.region [(List.range 2, 161)]) (.seq 33 (.cond .leaf (.exit 0)) (.block (.seq 41 (.region [(List.range 3, 41)]) (.seq 8225 (.region [(List.range 4, 8225)]) (.cond (.exit 0) .leaf)))))))))
noncomputable abbrev cd (n : Nat) : Code := sub (bodyOf Try.f69) (pth n)
abbrev an (n : Nat) : Ann := subA ann (pth n)
@[irreducible] def Xret  : Fr := (mkFr 0 14 [])
@[irreducible] def X0  : Fr := (mkFr 0 14 [])
@[irreducible] def L1 (yield0 t5 : Value) (K : EP) (h : Heap) : Prop := Lp PP true (cd 12) (mkFr 0 14 [(0, yield0), (5, t5)]) K h
@[irreducible] def B1 (K : EP) : EP := seqK (fun fr h => Lp PP true (cd 12) (fr.mask 33) K h) K
@[irreducible] def K1 (Q : VP) : EP := blockK 0 (bodyK PP Try.f69 Q)
theorem L1_of {yield0 t5 : Value} {K : EP} {h : Heap} (H :
 hwp PP (Instr.next t5 false T_) (fun v h1 => ∃ (b : Bool) (r : List Value), v = .tuple ((.bool b :: r).toArray) ∧
 br b (
 hwp PP (Instr.entry t5) (fun v_1 h2 => ∃ (t8 t8_1 : Value), v_1 = (.tuple #[t8, t8_1]) ∧
 ∃ (t9 : ByteArray), t8 = (.string t9) ∧
 callV PP yield0 [(.string t9)] (fun v_2 h3 => ∃ (t12 : Bool), v_2 = (.bool t12) ∧
 let t13 : Bool := (!t12)
 br t13 (
 K .ret (Xret) h3) (
 L1 yield0 t5 K h3)) h2) h1) (
 K (.exit 0) (X0) h1)) h) : L1 yield0 t5 K h := by unfold L1; exact Lp.of_txt (an 12) 33 (by kernel_rfl) H
theorem L1_Xret {Q : VP}  {h : Heap} (H :
 Q (.tuple #[]) h) : (K1 Q) .ret (Xret ) h := of_eq_txt (by kernel_rfl) H
theorem L1_X0 {Q : VP}  {h : Heap} (H :
 Q (.tuple #[]) h) : (K1 Q) (.exit 0) (X0 ) h := of_eq_txt (by kernel_rfl) H
theorem door {yield0 : Value} {t1 : Addr} {Q : VP} {h : Heap} (H :
 ∃ (t4 : ON), cellH h t1 = some (.map t4) ∧
 hwp PP (Instr.range T_disk_names (.map t4)) (fun v h1 => ∃ (t5 : Value), v = t5 ∧
 L1 yield0 t5 (K1 Q) h1) h) : SpecH PP F_maps_Keys_disk_names_string_disk_file_1 [yield0, (.pointer (some t1))] h Q :=
   spec_of_txt (ann := ann) Try.func69 rfl rfl (by kernel_rfl) H
end maps_Keys_disk_names_string_disk_file_1
/-! ### haversack/haversackref09.with: function 71 -/
namespace ref09_with
def ann : Ann := (.seq 9 (.region [(List.range 2, 9)]) (.seq 41 (.region [(List.range 1, 41)]) (.seq 41 (.block (.loop 41 (.seq 41 (.seq 1048617 (.region [(List.range 14, 1048617)]) (.cond .leaf (.exit 41))) (.block (.region [(List.range 3, 41)]))))) (.seq 105 (.region [(List.range 1, 105)]) (.seq 105 (.region [(List.range 6, 105)]) (.seq 97 (.region [(List.range 5, 97)]) (.seq 16 (.region [(List.range 6, 16)]) (.exit 16))))))))
noncomputable abbrev cd (n : Nat) : Code := sub (bodyOf Try.f71) (pth n)
abbrev an (n : Nat) : Ann := subA ann (pth n)
@[irreducible] def X0 (xl0 : OA) (xl0n xl0c : Nat) (xn3 : Addr) (k5 : Int) : Fr := (mkFr 0 37 [(0, (.slice xl0 xl0n xl0c)), (3, (.pointer (some xn3))), (5, (.int .i64 k5))])
@[irreducible] def L1 (xl0 : OA) (xl0n xl0c : Nat) (xn3 : Addr) (k5 : Int) (K : EP) (h : Heap) : Prop := Lp PP true (cd 56) (mkFr 0 37 [(0, (.slice xl0 xl0n xl0c)), (3, (.pointer (some xn3))), (5, (.int .i64 k5))]) K h
@[irreducible] def B1 (K : EP) : EP := seqK (fun fr h => Lp PP true (cd 56) (fr.mask 41) K h) K
@[irreducible] def K2 (Q : VP) : EP := seqK (fun fr h => ev PP true none (cd 15) (an 15) (fr.mask 41) (bodyK PP Try.f71 Q) h) (bodyK PP Try.f71 Q)
@[irreducible] def K1 (Q : VP) : EP := blockK 0 (K2 Q)
theorem L1_of {xl0 : OA} {xl0n xl0c : Nat} {xn3 : Addr} {k5 : Int} {K : EP} {h : Heap} (H :
 let t10 : Bool := decide (k5 < (xl0n : Int))
 br t10 (
 hwp PP (Instr.indexAt T_sl_haversackref09_Named (.slice xl0 xl0n xl0c) (.int .i64 k5)) (fun v h1 => ∃ (t14 : Addr), v = (.pointer (some t14)) ∧
 ∃ (t16 : ByteArray), cellH h1 t14 = some (.string t16) ∧
 ∃ (t18 : ByteArray), cellH h1 xn3 = some (.string t18) ∧
 let t19 : Bool := strLt t16 t18
 br t19 (
 let t22 : Int := IntKind.i64.wrap (k5 + 1)
 L1 xl0 xl0n xl0c xn3 t22 K h1) (
 K (.exit 0) (X0 xl0 xl0n xl0c xn3 k5) h1)) h) (
 K (.exit 0) (X0 xl0 xl0n xl0c xn3 k5) h)) : L1 xl0 xl0n xl0c xn3 k5 K h := by unfold L1; exact Lp.of_txt (an 56) 41 (by kernel_rfl) H
theorem L1_X0 {Q : VP} {xl0 : OA} {xl0n xl0c : Nat} {xn3 : Addr} {k5 : Int} {h : Heap} (H :
 hwp PP (Instr.sliceAt T_sl_haversackref09_Named (.slice xl0 xl0n xl0c) none (some (.int .i64 k5)) none) (fun v h1 => ∃ (t26 : OA) (t26n t26c : Nat), v = (.slice t26 t26n t26c) ∧
 hwp PP (Builtin.append_ #[T_sl_haversackref09_Named, T_sl_haversackref09_Named] T_sl_haversackref09_Named #[(.slice none 0 0), (.slice t26 t26n t26c)]) (fun v_1 h2 => ∃ (t27 : OA) (t27n t27c : Nat), v_1 = (.slice t27 t27n t27c) ∧
 ∃ (t29f0 : ByteArray) (t29f1 : Int), rdCells h2 xn3 0 [(.string t29f0), (.int .i64 t29f1)] ∧
 let h3 : Heap := Array.push h2 (.cells #[(.string t29f0), (.int .i64 t29f1)] T_haversackref09_Named (0, 0))
 hwp PP (Builtin.append_ #[T_sl_haversackref09_Named, T_sl_haversackref09_Named] T_sl_haversackref09_Named #[(.slice t27 t27n t27c), (.slice (some ⟨Array.size h2, 0, none⟩) 1 1)]) (fun v_2 h4 => ∃ (t31 : OA) (t31n t31c : Nat), v_2 = (.slice t31 t31n t31c) ∧
 hwp PP (Instr.sliceAt T_sl_haversackref09_Named (.slice xl0 xl0n xl0c) (some (.int .i64 k5)) none none) (fun v_3 h5 => ∃ (t35 : OA) (t35n t35c : Nat), v_3 = (.slice t35 t35n t35c) ∧
 hwp PP (Builtin.append_ #[T_sl_haversackref09_Named, T_sl_haversackref09_Named] T_sl_haversackref09_Named #[(.slice t31 t31n t31c), (.slice t35 t35n t35c)]) (fun v_4 h6 => ∃ (t36 : OA) (t36n t36c : Nat), v_4 = (.slice t36 t36n t36c) ∧
 Q (.slice t36 t36n t36c) h6) h5) h4) h3) h1) h) : (K1 Q) (.exit 0) (X0 xl0 xl0n xl0c xn3 k5) h := of_eq_txt (by kernel_rfl) H
theorem door {xl0 : OA} {xl0n xl0c : Nat} {xn1f0 : ByteArray} {xn1f1 : Int} {Q : VP} {h : Heap} (H :
 let xn3 : Addr := ⟨Array.size h, 0, none⟩
 let h1 : Heap := Array.push h (.cells #[(.string xn1f0), (.int .i64 xn1f1)] T_haversackref09_Named (0, 0))
 L1 xl0 xl0n xl0c xn3 0 (K1 Q) h1) : SpecH PP F_ref09_with [(.slice xl0 xl0n xl0c), (.agg #[(.string xn1f0), (.int .i64 xn1f1)])] h Q :=
   spec_of_txt (ann := ann) Try.func71 rfl rfl (by kernel_rfl) H
end ref09_with
/-! ### slices.AppendSeq[[]string,string]: function 72 -/
namespace slices_AppendSeq_string_string
def ann : Ann := (.seq 22 (.region [(List.range 2, 22)]) (.seq 4 (.seq 84 (.region [(List.range 1, 84)]) (.block (.range 20 (.region [(List.range 1, 36)]) (.block (.region [(List.range 5, 0)]))))) (.seq 16 (.region [(List.range 2, 16)]) (.exit 16))))
noncomputable abbrev cd (n : Nat) : Code := sub (bodyOf Try.f72) (pth n)
abbrev an (n : Nat) : Ann := subA ann (pth n)
@[irreducible] def R1 (s2 : Addr) (t4 : OA) (t4n t4c : Nat) (t7 : ByteArray) (l : Nat) (K : VP) (h : Heap) : Prop := ev PP false none (cd 52) (an 52) (setAll (mkFr 0 13 [(2, (.pointer (some s2))), (4, (.slice t4 t4n t4c))]) [(7, (.string t7))]) (roundK PP l (cd 53) (an 53) 36 K) h
@[irreducible] def K2 (Q : VP) : EP := seqK (fun fr h => ev PP true none (cd 7) (an 7) (fr.mask 4) (bodyKR PP Try.f72 Q) h) (bodyKR PP Try.f72 Q)
@[irreducible] def K1 (Q : VP) : EP := blockK 0 (K2 Q)
theorem R1_of {s2 : Addr} {t4 : OA} {t4n t4c : Nat} {t7 : ByteArray} {l : Nat} {K : VP} {h : Heap} (H :
 ∃ xL : Loop, h[l]? = some (.loop xL) ∧ xL.state = .ready ∧
 let h1 : Heap := h.setIfInBounds l (.loop { xL with state := .busy })
 ∃ (t8 : OA) (t8n t8c : Nat), cellH h1 s2 = some (.slice t8 t8n t8c) ∧
 let h2 : Heap := Array.push h1 (.cells #[(.string t7)] T_string (0, 0))
 hwp PP (Builtin.append_ #[T_sl_string, T_sl_string] T_sl_string #[(.slice t8 t8n t8c), (.slice (some ⟨Array.size h1, 0, none⟩) 1 1)]) (fun v h3 => ∃ (t11 : OA) (t11n t11c : Nat), v = (.slice t11 t11n t11c) ∧
 wr s2 (.slice t11 t11n t11c) (fun h4 =>
 ∃ xL_1, h4[l]? = some (.loop xL_1) ∧ K (.bool true) (h4.setIfInBounds l (endL xL_1 none))) h3) h2) : R1 s2 t4 t4n t4c t7 l K h := of_eq_txt (by kernel_rfl) H
theorem R1_yield {s2 : Addr} {t4 : OA} {t4n t4c : Nat} {t7 : ByteArray} {l : Nat} {K : VP} {h : Heap} {L : Loop} (hl : h[l]? = some (.loop L)) (hp : L.params = #[7]) (ha : L.assign = (cd 52)) (hb : L.body = (cd 53)) (hf : FrRel (mkFr 0 13 [(2, (.pointer (some s2))), (4, (.slice t4 t4n t4c))]) L.tmps) (H : R1 s2 t4 t4n t4c t7 l K h) : callV PP (.func (.yield l) #[] #[]) [(.string t7)] K h := by
   unfold R1 at H
   refine yield_ok (ann := an 52) (annB := an 53) (m := 36) hl (by rw [hp]; rfl) hf ?_
   rw [ha, hb, hp]; exact H
theorem R1_outn0 {Q : VP} {s2 : Addr} {t4 : OA} {t4n t4c : Nat} {h : Heap} (H :
 ∃ (t12 : OA) (t12n t12c : Nat), cellH h s2 = some (.slice t12 t12n t12c) ∧
 ∀ h1, Takes h h1 → Q (.slice t12 t12n t12c) h1) : (K1 Q) .normal (mkFr 0 13 [(2, (.pointer (some s2))), (4, (.slice t4 t4n t4c))]) h := of_eq_txt (by kernel_rfl) H
theorem door {s0 : OA} {s0n s0c : Nat} {seq1 : Value} {Q : VP} {h : Heap} (H :
 let s2 : Addr := ⟨Array.size h, 0, none⟩
 let h1 : Heap := Array.push h (.cells #[(.slice s0 s0n s0c)] T_sl_string (0, 0))
 rangeK PP seq1 #[7] (cd 52) (cd 53) (mkFr 0 13 [(2, (.pointer (some s2))), (4, (.slice none 0 0))]) (K1 Q) h1) : SpecH PP F_slices_AppendSeq_string_string [(.slice s0 s0n s0c), seq1] h Q :=
   spec_of_txtR (ann := ann) Try.func72 rfl (by kernel_rfl) H
end slices_AppendSeq_string_string
end Go.Proofs.Ytkogmkajhjmkeaa
