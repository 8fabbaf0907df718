/- Texts of the proof, laid together: What the functions of this text come to, as predicates on heaps (printed by my own program out of the dump), each with its proof against the program. -/
import Derived.Test.YtnidhafhgclakaaP1
import Derived.Test.YtnidhafhgclakaaP2
import Derived.Test.YtnidhafhgclakaaProg
set_option linter.unusedVariables false
set_option maxRecDepth 100000
namespace Go.Proofs.Ytnidhafhgclakaa
open Go Go.HW
noncomputable abbrev PP : Program := Try.prog
abbrev T_func : TypeId := 1
abbrev T_int : TypeId := 3
abbrev T_bool : TypeId := 4
abbrev T_uint8 : TypeId := 5
abbrev T_string : TypeId := 9
abbrev T_any : TypeId := 20
abbrev T_api_ReqKind : TypeId := 22
abbrev T_struct_Kind_api_ReqKind_Txn_int_Archive_string_Entry_string_ : TypeId := 23
abbrev T_api_Request : TypeId := 24
abbrev T_sl_uint8 : TypeId := 26
abbrev T_api_Errno : TypeId := 27
abbrev T_sl_string : TypeId := 36
abbrev T_struct_Bytes_int_Entries_int : TypeId := 37
abbrev T_api_Use : TypeId := 38
abbrev T_struct_Code_api_Errno_Txn_int_At_int_Size_int_Data_string_Na : TypeId := 39
abbrev T_api_Response : TypeId := 40
abbrev T_sl_int : TypeId := 51
abbrev T_p_wire_port : TypeId := 52
abbrev T_struct_b_sl_uint8_put_bool : TypeId := 53
abbrev T_wire_port : TypeId := 54
abbrev T_p_api_Request : TypeId := 56
abbrev T_7_bool : TypeId := 57
abbrev T_struct_B_sl_uint8_Bad_bool : TypeId := 64
abbrev T_haversackref19_Cut : TypeId := 65
abbrev T_struct_e_api_Errno : TypeId := 72
abbrev T_wire_end : TypeId := 73
abbrev T_p_int : TypeId := 75
abbrev T_sl_func : TypeId := 78
abbrev T_sl_p_int : TypeId := 80
abbrev T_uint64 : TypeId := 90
abbrev F_law19_WirePutRequests : FuncId := 3
abbrev F_law19_WireGetRequests : FuncId := 4
abbrev F_law19_WirePutResponses : FuncId := 5
abbrev F_law19_WireGetResponses : FuncId := 6
abbrev F_law19_WireRound : FuncId := 7
abbrev F_law19_WireOne : FuncId := 8
abbrev F_law19_big : FuncId := 9
abbrev F_wire_PutRequest : FuncId := 10
abbrev F_ref19_PutRequest : FuncId := 11
abbrev F_law19_awake : FuncId := 12
abbrev F_keep_Bytes : FuncId := 13
abbrev F_keep_Lend : FuncId := 14
abbrev F_wire_GetRequest : FuncId := 15
abbrev F_keep_Back : FuncId := 16
abbrev F_ref19_GetRequest : FuncId := 17
abbrev F_law19_bigger : FuncId := 18
abbrev F_wire_PutResponse : FuncId := 19
abbrev F_ref19_PutResponse : FuncId := 20
abbrev F_ref19_Same : FuncId := 21
abbrev F_wire_GetResponse : FuncId := 22
abbrev F_ref19_GetResponse : FuncId := 23
abbrev F_wire_caught : FuncId := 24
abbrev F_wire_is : FuncId := 25
abbrev F_wire_kind : FuncId := 26
abbrev F_wire_port_request : FuncId := 27
abbrev F_ref19_fields : FuncId := 28
abbrev F_ref19_within : FuncId := 29
abbrev F_ref19_number : FuncId := 30
abbrev F_ref19_text : FuncId := 31
abbrev F_wire_GetRequest_1 : FuncId := 32
abbrev F_ref19_Cut_number : FuncId := 33
abbrev F_ref19_Cut_text : FuncId := 34
abbrev F_wire_port_response : FuncId := 35
abbrev F_wire_GetResponse_1 : FuncId := 36
abbrev F_ref19_Cut_small : FuncId := 37
abbrev F_ref19_Cut_take : FuncId := 38
abbrev F_wire_port_request_1 : FuncId := 39
abbrev F_wire_port_number : FuncId := 40
abbrev F_wire_port_request_2 : FuncId := 41
abbrev F_wire_port_text : FuncId := 42
abbrev F_wire_port_request_3 : FuncId := 43
abbrev F_wire_port_request_4 : FuncId := 44
abbrev F_wire_port_request_5 : FuncId := 45
abbrev F_wire_port_request_6 : FuncId := 46
abbrev F_wire_port_short : FuncId := 47
abbrev F_wire_port_small : FuncId := 48
abbrev F_wire_port_bytes : FuncId := 49
abbrev F_little_Put32 : FuncId := 50
abbrev F_little_Get32 : FuncId := 51
abbrev F_little_Put16 : FuncId := 52
abbrev F_little_Get16 : FuncId := 53
abbrev F_little_put : FuncId := 54
abbrev F_little_get : FuncId := 55
abbrev F_slices_Backward_byte_byte : FuncId := 56
abbrev F_slices_Backward_byte_byte_1 : FuncId := 57
theorem C_func : PP.cellsOf T_func = 1 := by kernel_rfl
theorem C_int : PP.cellsOf T_int = 1 := by kernel_rfl
theorem U_int : PP.underlying T_int = some (.int .i64) := by kernel_rfl
theorem C_bool : PP.cellsOf T_bool = 1 := by kernel_rfl
theorem U_bool : PP.underlying T_bool = some .bool := by kernel_rfl
theorem C_uint8 : PP.cellsOf T_uint8 = 1 := by kernel_rfl
theorem U_uint8 : PP.underlying T_uint8 = some (.int .u8) := by kernel_rfl
theorem C_string : PP.cellsOf T_string = 1 := by kernel_rfl
theorem U_string : PP.underlying T_string = some .string := by kernel_rfl
theorem C_any : PP.cellsOf T_any = 1 := by kernel_rfl
theorem C_api_ReqKind : PP.cellsOf T_api_ReqKind = 1 := by kernel_rfl
theorem U_api_ReqKind : PP.underlying T_api_ReqKind = some (.int .i64) := by kernel_rfl
theorem FL_struct_Kind_api_ReqKind_Txn_int_Archive_string_Entry_string_ : fieldsOf PP T_struct_Kind_api_ReqKind_Txn_int_Archive_string_Entry_string_ = [(T_api_ReqKind, 0, 1), (T_int, 1, 1), (T_string, 2, 1), (T_string, 3, 1), (T_string, 4, 1), (T_int, 5, 1), (T_int, 6, 1), (T_string, 7, 1)] := by kernel_rfl
theorem C_struct_Kind_api_ReqKind_Txn_int_Archive_string_Entry_string_ : PP.cellsOf T_struct_Kind_api_ReqKind_Txn_int_Archive_string_Entry_string_ = 8 := by kernel_rfl
theorem FL_api_Request : fieldsOf PP T_api_Request = [(T_api_ReqKind, 0, 1), (T_int, 1, 1), (T_string, 2, 1), (T_string, 3, 1), (T_string, 4, 1), (T_int, 5, 1), (T_int, 6, 1), (T_string, 7, 1)] := by kernel_rfl
theorem C_api_Request : PP.cellsOf T_api_Request = 8 := by kernel_rfl
theorem C_sl_uint8 : PP.cellsOf T_sl_uint8 = 1 := by kernel_rfl
theorem E_sl_uint8 : Elem PP T_sl_uint8 T_uint8 1 1 (.int .u8 0) := Elem.of (by kernel_rfl) (by kernel_rfl)
theorem U_sl_uint8 : PP.underlying T_sl_uint8 = some (.slice T_uint8) := by kernel_rfl
theorem C_api_Errno : PP.cellsOf T_api_Errno = 1 := by kernel_rfl
theorem U_api_Errno : PP.underlying T_api_Errno = some (.int .i64) := by kernel_rfl
theorem C_sl_string : PP.cellsOf T_sl_string = 1 := by kernel_rfl
theorem E_sl_string : Elem PP T_sl_string T_string 1 16 (.string (⟨#[]⟩ : ByteArray)) := Elem.of (by kernel_rfl) (by kernel_rfl)
theorem U_sl_string : PP.underlying T_sl_string = some (.slice T_string) := by kernel_rfl
theorem FL_struct_Bytes_int_Entries_int : fieldsOf PP T_struct_Bytes_int_Entries_int = [(T_int, 0, 1), (T_int, 1, 1)] := by kernel_rfl
theorem C_struct_Bytes_int_Entries_int : PP.cellsOf T_struct_Bytes_int_Entries_int = 2 := by kernel_rfl
theorem FL_api_Use : fieldsOf PP T_api_Use = [(T_int, 0, 1), (T_int, 1, 1)] := by kernel_rfl
theorem C_api_Use : PP.cellsOf T_api_Use = 2 := by kernel_rfl
theorem FL_struct_Code_api_Errno_Txn_int_At_int_Size_int_Data_string_Na : fieldsOf PP T_struct_Code_api_Errno_Txn_int_At_int_Size_int_Data_string_Na = [(T_api_Errno, 0, 1), (T_int, 1, 1), (T_int, 2, 1), (T_int, 3, 1), (T_string, 4, 1), (T_sl_string, 5, 1), (T_api_Use, 6, 2)] := by kernel_rfl
theorem C_struct_Code_api_Errno_Txn_int_At_int_Size_int_Data_string_Na : PP.cellsOf T_struct_Code_api_Errno_Txn_int_At_int_Size_int_Data_string_Na = 8 := by kernel_rfl
theorem FL_api_Response : fieldsOf PP T_api_Response = [(T_api_Errno, 0, 1), (T_int, 1, 1), (T_int, 2, 1), (T_int, 3, 1), (T_string, 4, 1), (T_sl_string, 5, 1), (T_api_Use, 6, 2)] := by kernel_rfl
theorem C_api_Response : PP.cellsOf T_api_Response = 8 := by kernel_rfl
theorem C_sl_int : PP.cellsOf T_sl_int = 1 := by kernel_rfl
theorem E_sl_int : Elem PP T_sl_int T_int 1 8 (.int .i64 0) := Elem.of (by kernel_rfl) (by kernel_rfl)
theorem U_sl_int : PP.underlying T_sl_int = some (.slice T_int) := by kernel_rfl
theorem C_p_wire_port : PP.cellsOf T_p_wire_port = 1 := by kernel_rfl
theorem FL_struct_b_sl_uint8_put_bool : fieldsOf PP T_struct_b_sl_uint8_put_bool = [(T_sl_uint8, 0, 1), (T_bool, 1, 1)] := by kernel_rfl
theorem C_struct_b_sl_uint8_put_bool : PP.cellsOf T_struct_b_sl_uint8_put_bool = 2 := by kernel_rfl
theorem FL_wire_port : fieldsOf PP T_wire_port = [(T_sl_uint8, 0, 1), (T_bool, 1, 1)] := by kernel_rfl
theorem C_wire_port : PP.cellsOf T_wire_port = 2 := by kernel_rfl
theorem C_p_api_Request : PP.cellsOf T_p_api_Request = 1 := by kernel_rfl
theorem C_7_bool : PP.cellsOf T_7_bool = 7 := by kernel_rfl
theorem A_7_bool : Arr PP T_7_bool T_bool 7 1 := Arr.of (by kernel_rfl) (by kernel_rfl)
theorem U_7_bool : PP.underlying T_7_bool = some (.array 7 T_bool) := by kernel_rfl
theorem FL_struct_B_sl_uint8_Bad_bool : fieldsOf PP T_struct_B_sl_uint8_Bad_bool = [(T_sl_uint8, 0, 1), (T_bool, 1, 1)] := by kernel_rfl
theorem C_struct_B_sl_uint8_Bad_bool : PP.cellsOf T_struct_B_sl_uint8_Bad_bool = 2 := by kernel_rfl
theorem FL_haversackref19_Cut : fieldsOf PP T_haversackref19_Cut = [(T_sl_uint8, 0, 1), (T_bool, 1, 1)] := by kernel_rfl
theorem C_haversackref19_Cut : PP.cellsOf T_haversackref19_Cut = 2 := by kernel_rfl
theorem FL_struct_e_api_Errno : fieldsOf PP T_struct_e_api_Errno = [(T_api_Errno, 0, 1)] := by kernel_rfl
theorem C_struct_e_api_Errno : PP.cellsOf T_struct_e_api_Errno = 1 := by kernel_rfl
theorem FL_wire_end : fieldsOf PP T_wire_end = [(T_api_Errno, 0, 1)] := by kernel_rfl
theorem C_wire_end : PP.cellsOf T_wire_end = 1 := by kernel_rfl
theorem C_p_int : PP.cellsOf T_p_int = 1 := by kernel_rfl
theorem C_sl_func : PP.cellsOf T_sl_func = 1 := by kernel_rfl
theorem E_sl_func : Elem PP T_sl_func T_func 1 8 .nilFunc := Elem.of (by kernel_rfl) (by kernel_rfl)
theorem U_sl_func : PP.underlying T_sl_func = some (.slice T_func) := by kernel_rfl
theorem C_sl_p_int : PP.cellsOf T_sl_p_int = 1 := by kernel_rfl
theorem E_sl_p_int : Elem PP T_sl_p_int T_p_int 1 8 (.pointer none) := Elem.of (by kernel_rfl) (by kernel_rfl)
theorem U_sl_p_int : PP.underlying T_sl_p_int = some (.slice T_p_int) := by kernel_rfl
theorem C_uint64 : PP.cellsOf T_uint64 = 1 := by kernel_rfl
theorem U_uint64 : PP.underlying T_uint64 = some (.int .u64) := by kernel_rfl
/-! ### haversack/haversacklaw19.WirePutRequests: function 3 -/
namespace law19_WirePutRequests
def ann : Ann := (.seq 2 (.region [(List.range 2, 2)]) (.seq 2 (.seq 258 (.region [(List.range 2, 258)]) (.cond (.seq 4 (.region [(List.range 1, 4)]) (.exit 4)) .leaf)) (.seq 26 (.region [(List.range 7, 26)]) (.seq 120 (.region [(List.range 7, 120)]) (.seq 4 (.region [(List.range 12, 4)]) (.exit 4))))))
noncomputable abbrev cd (n : Nat) : Code := sub (bodyOf Try.f3) (pth n)
abbrev an (n : Nat) : Ann := subA ann (pth n)
theorem door {r0f0 r0f1 : Int} {r0f2 r0f3 r0f4 : ByteArray} {r0f5 r0f6 : Int} {r0f7 : ByteArray} {Q : VP} {h : Heap} (H :
 let r1 : Addr := ⟨Array.size h, 0, none⟩
 let h1 : Heap := Array.push h (.cells #[(.int .i64 r0f0), (.int .i64 r0f1), (.string r0f2), (.string r0f3), (.string r0f4), (.int .i64 r0f5), (.int .i64 r0f6), (.string r0f7)] T_api_Request (0, 0))
 ∃ (t7f0 t7f1 : Int) (t7f2 t7f3 t7f4 : ByteArray) (t7f5 t7f6 : Int) (t7f7 : ByteArray), rdCells h1 r1 0 [(.int .i64 t7f0), (.int .i64 t7f1), (.string t7f2), (.string t7f3), (.string t7f4), (.int .i64 t7f5), (.int .i64 t7f6), (.string t7f7)] ∧
 SpecH PP F_law19_big [(.agg #[(.int .i64 t7f0), (.int .i64 t7f1), (.string t7f2), (.string t7f3), (.string t7f4), (.int .i64 t7f5), (.int .i64 t7f6), (.string t7f7)])] h1 (fun v h2 => ∃ (t8 : Bool), v = (.bool t8) ∧
 br t8 (
 Q (.bool true) h2) (
 ∃ (t10f0 t10f1 : Int) (t10f2 t10f3 t10f4 : ByteArray) (t10f5 t10f6 : Int) (t10f7 : ByteArray), rdCells h2 r1 0 [(.int .i64 t10f0), (.int .i64 t10f1), (.string t10f2), (.string t10f3), (.string t10f4), (.int .i64 t10f5), (.int .i64 t10f6), (.string t10f7)] ∧
 SpecH PP F_wire_PutRequest [(.agg #[(.int .i64 t10f0), (.int .i64 t10f1), (.string t10f2), (.string t10f3), (.string t10f4), (.int .i64 t10f5), (.int .i64 t10f6), (.string t10f7)])] h2 (fun v_1 h3 => ∃ (t11 : OA) (t11n t11c : Nat) (t11_1 : Int), v_1 = (.tuple #[(.slice t11 t11n t11c), (.int .i64 t11_1)]) ∧
 ∃ (t15f0 t15f1 : Int) (t15f2 t15f3 t15f4 : ByteArray) (t15f5 t15f6 : Int) (t15f7 : ByteArray), rdCells h3 r1 0 [(.int .i64 t15f0), (.int .i64 t15f1), (.string t15f2), (.string t15f3), (.string t15f4), (.int .i64 t15f5), (.int .i64 t15f6), (.string t15f7)] ∧
 SpecH PP F_ref19_PutRequest [(.agg #[(.int .i64 t15f0), (.int .i64 t15f1), (.string t15f2), (.string t15f3), (.string t15f4), (.int .i64 t15f5), (.int .i64 t15f6), (.string t15f7)])] h3 (fun v_2 h4 => ∃ (t16 : OA) (t16n t16c : Nat) (t16_1 : Int), v_2 = (.tuple #[(.slice t16 t16n t16c), (.int .i64 t16_1)]) ∧
 SpecH PP F_law19_awake [] h4 (fun v_3 h5 => ∃ (t19 : Bool), v_3 = (.bool t19) ∧
 br t19 (
 let t23 : Bool := (t11_1 == t16_1)
 br t23 (
 SpecH PP F_keep_Bytes [(.slice t11 t11n t11c), (.slice t16 t16n t16c)] h5 (fun v_4 h6 => ∃ (t28 : Bool), v_4 = (.bool t28) ∧
 Q (.bool t28) h6)) (
 Q (.bool false) h5)) (
 Q (.bool false) h5))))))) : SpecH PP F_law19_WirePutRequests [(.agg #[(.int .i64 r0f0), (.int .i64 r0f1), (.string r0f2), (.string r0f3), (.string r0f4), (.int .i64 r0f5), (.int .i64 r0f6), (.string r0f7)])] h Q :=
   spec_of_txt (ann := ann) Try.func3 rfl rfl (by kernel_rfl) H
end law19_WirePutRequests
/-! ### haversack/haversacklaw19.WireGetRequests: function 4 -/
namespace law19_WireGetRequests
def ann : Ann := (.seq 1 (.region [(List.range 1, 1)]) (.seq 1 (.seq 2049 (.region [(List.range 3, 2049)]) (.cond (.seq 4 (.region [(List.range 1, 4)]) (.exit 4)) .leaf)) (.seq 9 (.region [(List.range 3, 9)]) (.seq 57 (.region [(List.range 8, 57)]) (.seq 113 (.region [(List.range 4, 113)]) (.seq 496 (.region [(List.range 8, 496)]) (.seq 4 (.region [(List.range 15, 4)]) (.exit 4))))))))
noncomputable abbrev cd (n : Nat) : Code := sub (bodyOf Try.f4) (pth n)
abbrev an (n : Nat) : Ann := subA ann (pth n)
theorem door {b0 : OA} {b0n b0c : Nat} {Q : VP} {h : Heap} (H :
 let t11 : Bool := decide ((b0n : Int) > 1048576)
 br t11 (
 Q (.bool true) h) (
 SpecH PP F_keep_Lend [(.slice b0 b0n b0c)] h (fun v h1 => ∃ (t13 : OA) (t13n t13c : Nat), v = (.slice t13 t13n t13c) ∧
 SpecH PP F_wire_GetRequest [(.slice t13 t13n t13c)] h1 (fun v_1 h2 => ∃ (t16f0 t16f1 : Int) (t16f2 t16f3 t16f4 : ByteArray) (t16f5 t16f6 : Int) (t16f7 : ByteArray) (t16_1 : Int), v_1 = (.tuple #[(.agg #[(.int .i64 t16f0), (.int .i64 t16f1), (.string t16f2), (.string t16f3), (.string t16f4), (.int .i64 t16f5), (.int .i64 t16f6), (.string t16f7)]), (.int .i64 t16_1)]) ∧
 let r4 : Addr := ⟨Array.size h2, 0, none⟩
 let h3 : Heap := Array.push h2 (.cells #[(.int .i64 0), (.int .i64 0), (.string (⟨#[]⟩ : ByteArray)), (.string (⟨#[]⟩ : ByteArray)), (.string (⟨#[]⟩ : ByteArray)), (.int .i64 0), (.int .i64 0), (.string (⟨#[]⟩ : ByteArray))] T_api_Request (0, 0))
 wrCells r4 0 [(.int .i64 t16f0), (.int .i64 t16f1), (.string t16f2), (.string t16f3), (.string t16f4), (.int .i64 t16f5), (.int .i64 t16f6), (.string t16f7)] (fun h4 =>
 SpecH PP F_keep_Back [(.slice t13 t13n t13c), (.slice b0 b0n b0c)] h4 (fun v_2 h5 => ∃ (t21 : Bool), v_2 = (.bool t21) ∧
 SpecH PP F_ref19_GetRequest [(.slice b0 b0n b0c)] h5 (fun v_3 h6 => ∃ (t24f0 t24f1 : Int) (t24f2 t24f3 t24f4 : ByteArray) (t24f5 t24f6 : Int) (t24f7 : ByteArray) (t24_1 : Int), v_3 = (.tuple #[(.agg #[(.int .i64 t24f0), (.int .i64 t24f1), (.string t24f2), (.string t24f3), (.string t24f4), (.int .i64 t24f5), (.int .i64 t24f6), (.string t24f7)]), (.int .i64 t24_1)]) ∧
 let want7 : Addr := ⟨Array.size h6, 0, none⟩
 let h7 : Heap := Array.push h6 (.cells #[(.int .i64 0), (.int .i64 0), (.string (⟨#[]⟩ : ByteArray)), (.string (⟨#[]⟩ : ByteArray)), (.string (⟨#[]⟩ : ByteArray)), (.int .i64 0), (.int .i64 0), (.string (⟨#[]⟩ : ByteArray))] T_api_Request (0, 0))
 wrCells want7 0 [(.int .i64 t24f0), (.int .i64 t24f1), (.string t24f2), (.string t24f3), (.string t24f4), (.int .i64 t24f5), (.int .i64 t24f6), (.string t24f7)] (fun h8 =>
 SpecH PP F_law19_awake [] h8 (fun v_4 h9 => ∃ (t27 : Bool), v_4 = (.bool t27) ∧
 br t27 (
 br t21 (
 ∃ (t32f0 t32f1 : Int) (t32f2 t32f3 t32f4 : ByteArray) (t32f5 t32f6 : Int) (t32f7 : ByteArray), rdCells h9 r4 0 [(.int .i64 t32f0), (.int .i64 t32f1), (.string t32f2), (.string t32f3), (.string t32f4), (.int .i64 t32f5), (.int .i64 t32f6), (.string t32f7)] ∧
 ∃ (t33f0 t33f1 : Int) (t33f2 t33f3 t33f4 : ByteArray) (t33f5 t33f6 : Int) (t33f7 : ByteArray), rdCells h9 want7 0 [(.int .i64 t33f0), (.int .i64 t33f1), (.string t33f2), (.string t33f3), (.string t33f4), (.int .i64 t33f5), (.int .i64 t33f6), (.string t33f7)] ∧
 let t34 : Bool := ((t32f0 == t33f0) && ((t32f1 == t33f1) && (decide (t32f2 = t33f2) && (decide (t32f3 = t33f3) && (decide (t32f4 = t33f4) && ((t32f5 == t33f5) && ((t32f6 == t33f6) && (decide (t32f7 = t33f7) && true))))))))
 br t34 (
 let t39 : Bool := (t16_1 == t24_1)
 Q (.bool t39) h9) (
 Q (.bool false) h9)) (
 Q (.bool false) h9)) (
 Q (.bool false) h9))) h7))) h3)))) : SpecH PP F_law19_WireGetRequests [(.slice b0 b0n b0c)] h Q :=
   spec_of_txt (ann := ann) Try.func4 rfl rfl (by kernel_rfl) H
end law19_WireGetRequests
/-! ### haversack/haversacklaw19.WirePutResponses: function 5 -/
namespace law19_WirePutResponses
def ann : Ann := (.seq 2 (.region [(List.range 2, 2)]) (.seq 2 (.seq 514 (.region [(List.range 2, 514)]) (.cond (.seq 4 (.region [(List.range 1, 4)]) (.exit 4)) .leaf)) (.seq 10 (.region [(List.range 3, 10)]) (.seq 10 (.region [(List.range 6, 10)]) (.seq 10 (.region [(List.range 5, 10)]) (.seq 58 (.region [(List.range 7, 58)]) (.seq 250 (.region [(List.range 7, 250)]) (.seq 4 (.region [(List.range 17, 4)]) (.exit 4)))))))))
noncomputable abbrev cd (n : Nat) : Code := sub (bodyOf Try.f5) (pth n)
abbrev an (n : Nat) : Ann := subA ann (pth n)
theorem door {r0f0 r0f1 r0f2 r0f3 : Int} {r0f4 : ByteArray} {r0f5 : OA} {r0f5n r0f5c : Nat} {r0f6 r0f7 : Int} {Q : VP} {h : Heap} (H :
 let r1 : Addr := ⟨Array.size h, 0, none⟩
 let h1 : Heap := Array.push h (.cells #[(.int .i64 r0f0), (.int .i64 r0f1), (.int .i64 r0f2), (.int .i64 r0f3), (.string r0f4), (.slice r0f5 r0f5n r0f5c), (.int .i64 r0f6), (.int .i64 r0f7)] T_api_Response (0, 0))
 ∃ (t8f0 t8f1 t8f2 t8f3 : Int) (t8f4 : ByteArray) (t8f5 : OA) (t8f5n t8f5c : Nat) (t8f6 t8f7 : Int), rdCells h1 r1 0 [(.int .i64 t8f0), (.int .i64 t8f1), (.int .i64 t8f2), (.int .i64 t8f3), (.string t8f4), (.slice t8f5 t8f5n t8f5c), (.int .i64 t8f6), (.int .i64 t8f7)] ∧
 SpecH PP F_law19_bigger [(.agg #[(.int .i64 t8f0), (.int .i64 t8f1), (.int .i64 t8f2), (.int .i64 t8f3), (.string t8f4), (.slice t8f5 t8f5n t8f5c), (.int .i64 t8f6), (.int .i64 t8f7)])] h1 (fun v h2 => ∃ (t9 : Bool), v = (.bool t9) ∧
 br t9 (
 Q (.bool true) h2) (
 ∃ (t10f0 t10f1 t10f2 t10f3 : Int) (t10f4 : ByteArray) (t10f5 : OA) (t10f5n t10f5c : Nat) (t10f6 t10f7 : Int), rdCells h2 r1 0 [(.int .i64 t10f0), (.int .i64 t10f1), (.int .i64 t10f2), (.int .i64 t10f3), (.string t10f4), (.slice t10f5 t10f5n t10f5c), (.int .i64 t10f6), (.int .i64 t10f7)] ∧
 let own3 : Addr := ⟨Array.size h2, 0, none⟩
 let h3 : Heap := Array.push h2 (.cells #[(.int .i64 0), (.int .i64 0), (.int .i64 0), (.int .i64 0), (.string (⟨#[]⟩ : ByteArray)), (.slice none 0 0), (.int .i64 0), (.int .i64 0)] T_api_Response (0, 0))
 wrCells own3 0 [(.int .i64 t10f0), (.int .i64 t10f1), (.int .i64 t10f2), (.int .i64 t10f3), (.string t10f4), (.slice t10f5 t10f5n t10f5c), (.int .i64 t10f6), (.int .i64 t10f7)] (fun h4 =>
 ∃ (t12 : OA) (t12n t12c : Nat), cellH h4 (Addr.add r1 5) = some (.slice t12 t12n t12c) ∧
 hwp PP (Instr.makeSlice T_sl_string (.int .i64 (t12n : Int)) (.int .i64 (t12n : Int))) (fun v_1 h5 => ∃ (t14 : OA) (t14n t14c : Nat), v_1 = (.slice t14 t14n t14c) ∧
 wr (Addr.add own3 5) (.slice t14 t14n t14c) (fun h6 =>
 ∃ (t17 : OA) (t17n t17c : Nat), cellH h6 (Addr.add own3 5) = some (.slice t17 t17n t17c) ∧
 ∃ (t19 : OA) (t19n t19c : Nat), cellH h6 (Addr.add r1 5) = some (.slice t19 t19n t19c) ∧
 hwp PP (Builtin.copy_ #[T_sl_string, T_sl_string] T_int #[(.slice t17 t17n t17c), (.slice t19 t19n t19c)]) (fun v_2 h7 => ∃ (t20 : Int), v_2 = (.int .i64 t20) ∧
 ∃ (t22f0 t22f1 t22f2 t22f3 : Int) (t22f4 : ByteArray) (t22f5 : OA) (t22f5n t22f5c : Nat) (t22f6 t22f7 : Int), rdCells h7 own3 0 [(.int .i64 t22f0), (.int .i64 t22f1), (.int .i64 t22f2), (.int .i64 t22f3), (.string t22f4), (.slice t22f5 t22f5n t22f5c), (.int .i64 t22f6), (.int .i64 t22f7)] ∧
 SpecH PP F_wire_PutResponse [(.agg #[(.int .i64 t22f0), (.int .i64 t22f1), (.int .i64 t22f2), (.int .i64 t22f3), (.string t22f4), (.slice t22f5 t22f5n t22f5c), (.int .i64 t22f6), (.int .i64 t22f7)])] h7 (fun v_3 h8 => ∃ (t23 : OA) (t23n t23c : Nat) (t23_1 : Int), v_3 = (.tuple #[(.slice t23 t23n t23c), (.int .i64 t23_1)]) ∧
 ∃ (t27f0 t27f1 t27f2 t27f3 : Int) (t27f4 : ByteArray) (t27f5 : OA) (t27f5n t27f5c : Nat) (t27f6 t27f7 : Int), rdCells h8 r1 0 [(.int .i64 t27f0), (.int .i64 t27f1), (.int .i64 t27f2), (.int .i64 t27f3), (.string t27f4), (.slice t27f5 t27f5n t27f5c), (.int .i64 t27f6), (.int .i64 t27f7)] ∧
 SpecH PP F_ref19_PutResponse [(.agg #[(.int .i64 t27f0), (.int .i64 t27f1), (.int .i64 t27f2), (.int .i64 t27f3), (.string t27f4), (.slice t27f5 t27f5n t27f5c), (.int .i64 t27f6), (.int .i64 t27f7)])] h8 (fun v_4 h9 => ∃ (t28 : OA) (t28n t28c : Nat) (t28_1 : Int), v_4 = (.tuple #[(.slice t28 t28n t28c), (.int .i64 t28_1)]) ∧
 SpecH PP F_law19_awake [] h9 (fun v_5 h10 => ∃ (t31 : Bool), v_5 = (.bool t31) ∧
 br t31 (
 let t35 : Bool := (t23_1 == t28_1)
 br t35 (
 SpecH PP F_keep_Bytes [(.slice t23 t23n t23c), (.slice t28 t28n t28c)] h10 (fun v_6 h11 => ∃ (t40 : Bool), v_6 = (.bool t40) ∧
 br t40 (
 ∃ (t43f0 t43f1 t43f2 t43f3 : Int) (t43f4 : ByteArray) (t43f5 : OA) (t43f5n t43f5c : Nat) (t43f6 t43f7 : Int), rdCells h11 own3 0 [(.int .i64 t43f0), (.int .i64 t43f1), (.int .i64 t43f2), (.int .i64 t43f3), (.string t43f4), (.slice t43f5 t43f5n t43f5c), (.int .i64 t43f6), (.int .i64 t43f7)] ∧
 ∃ (t44f0 t44f1 t44f2 t44f3 : Int) (t44f4 : ByteArray) (t44f5 : OA) (t44f5n t44f5c : Nat) (t44f6 t44f7 : Int), rdCells h11 r1 0 [(.int .i64 t44f0), (.int .i64 t44f1), (.int .i64 t44f2), (.int .i64 t44f3), (.string t44f4), (.slice t44f5 t44f5n t44f5c), (.int .i64 t44f6), (.int .i64 t44f7)] ∧
 SpecH PP F_ref19_Same [(.agg #[(.int .i64 t43f0), (.int .i64 t43f1), (.int .i64 t43f2), (.int .i64 t43f3), (.string t43f4), (.slice t43f5 t43f5n t43f5c), (.int .i64 t43f6), (.int .i64 t43f7)]), (.agg #[(.int .i64 t44f0), (.int .i64 t44f1), (.int .i64 t44f2), (.int .i64 t44f3), (.string t44f4), (.slice t44f5 t44f5n t44f5c), (.int .i64 t44f6), (.int .i64 t44f7)])] h11 (fun v_7 h12 => ∃ (t45 : Bool), v_7 = (.bool t45) ∧
 Q (.bool t45) h12)) (
 Q (.bool false) h11))) (
 Q (.bool false) h10)) (
 Q (.bool false) h10))))) h6) h5) h4) h3))) : SpecH PP F_law19_WirePutResponses [(.agg #[(.int .i64 r0f0), (.int .i64 r0f1), (.int .i64 r0f2), (.int .i64 r0f3), (.string r0f4), (.slice r0f5 r0f5n r0f5c), (.int .i64 r0f6), (.int .i64 r0f7)])] h Q :=
   spec_of_txt (ann := ann) Try.func5 rfl rfl (by kernel_rfl) H
end law19_WirePutResponses
/-! ### haversack/haversacklaw19.WireGetResponses: function 6 -/
namespace law19_WireGetResponses
def ann : Ann := (.seq 1 (.region [(List.range 1, 1)]) (.seq 1 (.seq 2049 (.region [(List.range 3, 2049)]) (.cond (.seq 4 (.region [(List.range 1, 4)]) (.exit 4)) .leaf)) (.seq 9 (.region [(List.range 3, 9)]) (.seq 57 (.region [(List.range 8, 57)]) (.seq 113 (.region [(List.range 4, 113)]) (.seq 496 (.region [(List.range 8, 496)]) (.seq 4 (.region [(List.range 15, 4)]) (.exit 4))))))))
noncomputable abbrev cd (n : Nat) : Code := sub (bodyOf Try.f6) (pth n)
abbrev an (n : Nat) : Ann := subA ann (pth n)
theorem door {b0 : OA} {b0n b0c : Nat} {Q : VP} {h : Heap} (H :
 let t11 : Bool := decide ((b0n : Int) > 1048576)
 br t11 (
 Q (.bool true) h) (
 SpecH PP F_keep_Lend [(.slice b0 b0n b0c)] h (fun v h1 => ∃ (t13 : OA) (t13n t13c : Nat), v = (.slice t13 t13n t13c) ∧
 SpecH PP F_wire_GetResponse [(.slice t13 t13n t13c)] h1 (fun v_1 h2 => ∃ (t16f0 t16f1 t16f2 t16f3 : Int) (t16f4 : ByteArray) (t16f5 : OA) (t16f5n t16f5c : Nat) (t16f6 t16f7 t16_1 : Int), v_1 = (.tuple #[(.agg #[(.int .i64 t16f0), (.int .i64 t16f1), (.int .i64 t16f2), (.int .i64 t16f3), (.string t16f4), (.slice t16f5 t16f5n t16f5c), (.int .i64 t16f6), (.int .i64 t16f7)]), (.int .i64 t16_1)]) ∧
 let r4 : Addr := ⟨Array.size h2, 0, none⟩
 let h3 : Heap := Array.push h2 (.cells #[(.int .i64 0), (.int .i64 0), (.int .i64 0), (.int .i64 0), (.string (⟨#[]⟩ : ByteArray)), (.slice none 0 0), (.int .i64 0), (.int .i64 0)] T_api_Response (0, 0))
 wrCells r4 0 [(.int .i64 t16f0), (.int .i64 t16f1), (.int .i64 t16f2), (.int .i64 t16f3), (.string t16f4), (.slice t16f5 t16f5n t16f5c), (.int .i64 t16f6), (.int .i64 t16f7)] (fun h4 =>
 SpecH PP F_keep_Back [(.slice t13 t13n t13c), (.slice b0 b0n b0c)] h4 (fun v_2 h5 => ∃ (t21 : Bool), v_2 = (.bool t21) ∧
 SpecH PP F_ref19_GetResponse [(.slice b0 b0n b0c)] h5 (fun v_3 h6 => ∃ (t24f0 t24f1 t24f2 t24f3 : Int) (t24f4 : ByteArray) (t24f5 : OA) (t24f5n t24f5c : Nat) (t24f6 t24f7 t24_1 : Int), v_3 = (.tuple #[(.agg #[(.int .i64 t24f0), (.int .i64 t24f1), (.int .i64 t24f2), (.int .i64 t24f3), (.string t24f4), (.slice t24f5 t24f5n t24f5c), (.int .i64 t24f6), (.int .i64 t24f7)]), (.int .i64 t24_1)]) ∧
 let want7 : Addr := ⟨Array.size h6, 0, none⟩
 let h7 : Heap := Array.push h6 (.cells #[(.int .i64 0), (.int .i64 0), (.int .i64 0), (.int .i64 0), (.string (⟨#[]⟩ : ByteArray)), (.slice none 0 0), (.int .i64 0), (.int .i64 0)] T_api_Response (0, 0))
 wrCells want7 0 [(.int .i64 t24f0), (.int .i64 t24f1), (.int .i64 t24f2), (.int .i64 t24f3), (.string t24f4), (.slice t24f5 t24f5n t24f5c), (.int .i64 t24f6), (.int .i64 t24f7)] (fun h8 =>
 SpecH PP F_law19_awake [] h8 (fun v_4 h9 => ∃ (t27 : Bool), v_4 = (.bool t27) ∧
 br t27 (
 br t21 (
 ∃ (t32f0 t32f1 t32f2 t32f3 : Int) (t32f4 : ByteArray) (t32f5 : OA) (t32f5n t32f5c : Nat) (t32f6 t32f7 : Int), rdCells h9 r4 0 [(.int .i64 t32f0), (.int .i64 t32f1), (.int .i64 t32f2), (.int .i64 t32f3), (.string t32f4), (.slice t32f5 t32f5n t32f5c), (.int .i64 t32f6), (.int .i64 t32f7)] ∧
 ∃ (t33f0 t33f1 t33f2 t33f3 : Int) (t33f4 : ByteArray) (t33f5 : OA) (t33f5n t33f5c : Nat) (t33f6 t33f7 : Int), rdCells h9 want7 0 [(.int .i64 t33f0), (.int .i64 t33f1), (.int .i64 t33f2), (.int .i64 t33f3), (.string t33f4), (.slice t33f5 t33f5n t33f5c), (.int .i64 t33f6), (.int .i64 t33f7)] ∧
 SpecH PP F_ref19_Same [(.agg #[(.int .i64 t32f0), (.int .i64 t32f1), (.int .i64 t32f2), (.int .i64 t32f3), (.string t32f4), (.slice t32f5 t32f5n t32f5c), (.int .i64 t32f6), (.int .i64 t32f7)]), (.agg #[(.int .i64 t33f0), (.int .i64 t33f1), (.int .i64 t33f2), (.int .i64 t33f3), (.string t33f4), (.slice t33f5 t33f5n t33f5c), (.int .i64 t33f6), (.int .i64 t33f7)])] h9 (fun v_5 h10 => ∃ (t34 : Bool), v_5 = (.bool t34) ∧
 br t34 (
 let t39 : Bool := (t16_1 == t24_1)
 Q (.bool t39) h10) (
 Q (.bool false) h10))) (
 Q (.bool false) h9)) (
 Q (.bool false) h9))) h7))) h3)))) : SpecH PP F_law19_WireGetResponses [(.slice b0 b0n b0c)] h Q :=
   spec_of_txt (ann := ann) Try.func6 rfl rfl (by kernel_rfl) H
end law19_WireGetResponses
/-! ### haversack/haversacklaw19.WireRound: function 7 -/
namespace law19_WireRound
def ann : Ann := (.seq 28 (.region [(List.range 3, 28)]) (.seq 28 (.seq 268435484 (.region [(List.range 6, 268435484)]) (.join (.cond (.seq 64 (.region [(List.range 1, 64)]) (.exit 64)) .leaf))) (.seq 412 (.region [(List.range 7, 412)]) (.seq 20 (.seq 34359738524 (.region [(List.range 2, 34359738524)]) (.cond (.seq 156 (.seq 274877907100 (.region [(List.range 3, 274877907100)]) (.cond (.seq 64 (.region [(List.range 1, 64)]) (.exit 64)) .leaf)) (.seq 1692 (.region [(List.range 8, 1692)]) (.seq 5788 (.region [(List.range 16, 5788)]) (.seq 22044 (.region [(List.range 12, 22044)]) (.seq 1208925819614629174706196 (.region [(List.range 15, 1208925819614629174706196)]) (.join (.cond (.seq 64 (.region [(List.range 1, 64)]) (.exit 64)) .leaf))))))) .leaf)) (.join (.seq 98324 (.region [(List.range 7, 98324)]) (.seq 0 (.seq 154742504910672534362423316 (.region [(List.range 2, 154742504910672534362423316)]) (.cond (.seq 32788 (.seq 1237940039285380274899157012 (.region [(List.range 3, 1237940039285380274899157012)]) (.cond (.seq 64 (.region [(List.range 1, 64)]) (.exit 64)) .leaf)) (.seq 426004 (.region [(List.range 8, 426004)]) (.seq 1474576 (.region [(List.range 16, 1474576)]) (.seq 5636112 (.region [(List.range 12, 5636112)]) (.seq 10889035741470030830827987437816582766592 (.region [(List.range 16, 10889035741470030830827987437816582766592)]) (.join (.cond (.seq 64 (.region [(List.range 1, 64)]) (.exit 64)) .leaf))))))) .leaf)) (.join (.seq 64 (.region [(List.range 2, 64)]) (.exit 64))))))))))
noncomputable abbrev cd (n : Nat) : Code := sub (bodyOf Try.f7) (pth n)
abbrev an (n : Nat) : Ann := subA ann (pth n)
@[irreducible] def K1 (Q : VP) : EP := seqK (fun fr h => ev PP true none (cd 7) (an 7) (fr.mask 28) (bodyK PP Try.f7 Q) h) (bodyK PP Try.f7 Q)
@[irreducible] def J1 (more2 : Int) (q3 r4 : Addr) (t28 : Bool) (Q : VP) (h : Heap) : Prop := Jn PP true (cd 13) (mkFr 0 135 [(2, (.int .u8 more2)), (3, (.pointer (some q3))), (4, (.pointer (some r4))), (28, (.bool t28))]) (K1 Q) h
@[irreducible] def K2 (Q : VP) : EP := seqK (fun fr h => Jn PP true (cd 31) (fr.mask 20) (bodyK PP Try.f7 Q) h) (bodyK PP Try.f7 Q)
@[irreducible] def J2 (more2 : Int) (r4 : Addr) (t80 : Bool) (Q : VP) (h : Heap) : Prop := Jn PP true (cd 3935) (mkFr 0 135 [(2, (.int .u8 more2)), (4, (.pointer (some r4))), (80, (.bool t80))]) (K2 Q) h
@[irreducible] def J3 (more2 : Int) (r4 : Addr) (Q : VP) (h : Heap) : Prop := Jn PP true (cd 31) (mkFr 0 135 [(2, (.int .u8 more2)), (4, (.pointer (some r4)))]) (bodyK PP Try.f7 Q) h
@[irreducible] def K3 (Q : VP) : EP := seqK (fun fr h => Jn PP true (cd 127) (fr.mask 0) (bodyK PP Try.f7 Q) h) (bodyK PP Try.f7 Q)
@[irreducible] def J4 (t133 : Bool) (Q : VP) (h : Heap) : Prop := Jn PP true (cd 16223) (mkFr 0 135 [(133, (.bool t133))]) (K3 Q) h
@[irreducible] def J5  (Q : VP) (h : Heap) : Prop := Jn PP true (cd 127) (mkFr 0 135 []) (bodyK PP Try.f7 Q) h
theorem J1_of {more2 : Int} {q3 r4 : Addr} {t28 : Bool} {Q : VP} {h : Heap} (H :
 br t28 (
 Q (.bool true) h) (
 ∃ (t30f0 t30f1 : Int) (t30f2 t30f3 t30f4 : ByteArray) (t30f5 t30f6 : Int) (t30f7 : ByteArray), rdCells h q3 0 [(.int .i64 t30f0), (.int .i64 t30f1), (.string t30f2), (.string t30f3), (.string t30f4), (.int .i64 t30f5), (.int .i64 t30f6), (.string t30f7)] ∧
 SpecH PP F_wire_PutRequest [(.agg #[(.int .i64 t30f0), (.int .i64 t30f1), (.string t30f2), (.string t30f3), (.string t30f4), (.int .i64 t30f5), (.int .i64 t30f6), (.string t30f7)])] h (fun v h1 => ∃ (t31 : OA) (t31n t31c : Nat) (t31_1 : Int), v = (.tuple #[(.slice t31 t31n t31c), (.int .i64 t31_1)]) ∧
 let t35 : Bool := (t31_1 == 0)
 br t35 (
 let t38 : Bool := decide ((t31n : Int) < 1)
 br t38 (
 Q (.bool false) h1) (
 SpecH PP F_wire_GetRequest [(.slice t31 t31n t31c)] h1 (fun v_1 h2 => ∃ (t41f0 t41f1 : Int) (t41f2 t41f3 t41f4 : ByteArray) (t41f5 t41f6 : Int) (t41f7 : ByteArray) (t41_1 : Int), v_1 = (.tuple #[(.agg #[(.int .i64 t41f0), (.int .i64 t41f1), (.string t41f2), (.string t41f3), (.string t41f4), (.int .i64 t41f5), (.int .i64 t41f6), (.string t41f7)]), (.int .i64 t41_1)]) ∧
 let x9 : Addr := ⟨Array.size h2, 0, none⟩
 let h3 : Heap := Array.push h2 (.cells #[(.int .i64 0), (.int .i64 0), (.string (⟨#[]⟩ : ByteArray)), (.string (⟨#[]⟩ : ByteArray)), (.string (⟨#[]⟩ : ByteArray)), (.int .i64 0), (.int .i64 0), (.string (⟨#[]⟩ : ByteArray))] T_api_Request (0, 0))
 wrCells x9 0 [(.int .i64 t41f0), (.int .i64 t41f1), (.string t41f2), (.string t41f3), (.string t41f4), (.int .i64 t41f5), (.int .i64 t41f6), (.string t41f7)] (fun h4 =>
 hwp PP (Instr.sliceAt T_sl_uint8 (.slice t31 t31n t31c) none (some (.int .i64 (t31n : Int))) (some (.int .i64 (t31n : Int)))) (fun v_2 h5 => ∃ (t50 : OA) (t50n t50c : Nat), v_2 = (.slice t50 t50n t50c) ∧
 let h6 : Heap := Array.push h5 (.cells #[(.int .u8 more2)] T_uint8 (0, 0))
 hwp PP (Builtin.append_ #[T_sl_uint8, T_sl_uint8] T_sl_uint8 #[(.slice t50 t50n t50c), (.slice (some ⟨Array.size h5, 0, none⟩) 1 1)]) (fun v_3 h7 => ∃ (t53 : OA) (t53n t53c : Nat), v_3 = (.slice t53 t53n t53c) ∧
 SpecH PP F_wire_GetRequest [(.slice t53 t53n t53c)] h7 (fun v_4 h8 => ∃ (t54f0 t54f1 : Int) (t54f2 t54f3 t54f4 : ByteArray) (t54f5 t54f6 : Int) (t54f7 : ByteArray) (t54_1 : Int), v_4 = (.tuple #[(.agg #[(.int .i64 t54f0), (.int .i64 t54f1), (.string t54f2), (.string t54f3), (.string t54f4), (.int .i64 t54f5), (.int .i64 t54f6), (.string t54f7)]), (.int .i64 t54_1)]) ∧
 let t11 : Addr := ⟨Array.size h8, 0, none⟩
 let h9 : Heap := Array.push h8 (.cells #[(.int .i64 0), (.int .i64 0), (.string (⟨#[]⟩ : ByteArray)), (.string (⟨#[]⟩ : ByteArray)), (.string (⟨#[]⟩ : ByteArray)), (.int .i64 0), (.int .i64 0), (.string (⟨#[]⟩ : ByteArray))] T_api_Request (0, 0))
 wrCells t11 0 [(.int .i64 t54f0), (.int .i64 t54f1), (.string t54f2), (.string t54f3), (.string t54f4), (.int .i64 t54f5), (.int .i64 t54f6), (.string t54f7)] (fun h10 =>
 let t61 : Int := IntKind.i64.wrap ((t31n : Int) - 1)
 hwp PP (Instr.sliceAt T_sl_uint8 (.slice t31 t31n t31c) none (some (.int .i64 t61)) none) (fun v_5 h11 => ∃ (t62 : OA) (t62n t62c : Nat), v_5 = (.slice t62 t62n t62c) ∧
 SpecH PP F_wire_GetRequest [(.slice t62 t62n t62c)] h11 (fun v_6 h12 => ∃ (t63f0 t63f1 : Int) (t63f2 t63f3 t63f4 : ByteArray) (t63f5 t63f6 : Int) (t63f7 : ByteArray) (t63_1 : Int), v_6 = (.tuple #[(.agg #[(.int .i64 t63f0), (.int .i64 t63f1), (.string t63f2), (.string t63f3), (.string t63f4), (.int .i64 t63f5), (.int .i64 t63f6), (.string t63f7)]), (.int .i64 t63_1)]) ∧
 let t13 : Addr := ⟨Array.size h12, 0, none⟩
 let h13 : Heap := Array.push h12 (.cells #[(.int .i64 0), (.int .i64 0), (.string (⟨#[]⟩ : ByteArray)), (.string (⟨#[]⟩ : ByteArray)), (.string (⟨#[]⟩ : ByteArray)), (.int .i64 0), (.int .i64 0), (.string (⟨#[]⟩ : ByteArray))] T_api_Request (0, 0))
 wrCells t13 0 [(.int .i64 t63f0), (.int .i64 t63f1), (.string t63f2), (.string t63f3), (.string t63f4), (.int .i64 t63f5), (.int .i64 t63f6), (.string t63f7)] (fun h14 =>
 let t67 : Bool := (t41_1 != 0)
 br t67 (
 J2 more2 r4 true Q h14) (
 ∃ (t69f0 t69f1 : Int) (t69f2 t69f3 t69f4 : ByteArray) (t69f5 t69f6 : Int) (t69f7 : ByteArray), rdCells h14 x9 0 [(.int .i64 t69f0), (.int .i64 t69f1), (.string t69f2), (.string t69f3), (.string t69f4), (.int .i64 t69f5), (.int .i64 t69f6), (.string t69f7)] ∧
 ∃ (t70f0 t70f1 : Int) (t70f2 t70f3 t70f4 : ByteArray) (t70f5 t70f6 : Int) (t70f7 : ByteArray), rdCells h14 q3 0 [(.int .i64 t70f0), (.int .i64 t70f1), (.string t70f2), (.string t70f3), (.string t70f4), (.int .i64 t70f5), (.int .i64 t70f6), (.string t70f7)] ∧
 let t71 : Bool := (!((t69f0 == t70f0) && ((t69f1 == t70f1) && (decide (t69f2 = t70f2) && (decide (t69f3 = t70f3) && (decide (t69f4 = t70f4) && ((t69f5 == t70f5) && ((t69f6 == t70f6) && (decide (t69f7 = t70f7) && true)))))))))
 br t71 (
 J2 more2 r4 true Q h14) (
 let t75 : Bool := (t54_1 != 190)
 br t75 (
 J2 more2 r4 true Q h14) (
 let t79 : Bool := (t63_1 != 190)
 J2 more2 r4 t79 Q h14)))) h13)) h10) h9)) h6) h4) h3))) (
 J3 more2 r4 Q h1)))) : J1 more2 q3 r4 t28 Q h := by unfold J1; exact Jn.of_txt (an 13) (by kernel_rfl) H
theorem J2_of {more2 : Int} {r4 : Addr} {t80 : Bool} {Q : VP} {h : Heap} (H :
 br t80 (
 Q (.bool false) h) (
 J3 more2 r4 Q h)) : J2 more2 r4 t80 Q h := by unfold J2; exact Jn.of_txt (an 3935) (by kernel_rfl) H
theorem J3_of {more2 : Int} {r4 : Addr} {Q : VP} {h : Heap} (H :
 ∃ (t82f0 t82f1 t82f2 t82f3 : Int) (t82f4 : ByteArray) (t82f5 : OA) (t82f5n t82f5c : Nat) (t82f6 t82f7 : Int), rdCells h r4 0 [(.int .i64 t82f0), (.int .i64 t82f1), (.int .i64 t82f2), (.int .i64 t82f3), (.string t82f4), (.slice t82f5 t82f5n t82f5c), (.int .i64 t82f6), (.int .i64 t82f7)] ∧
 SpecH PP F_wire_PutResponse [(.agg #[(.int .i64 t82f0), (.int .i64 t82f1), (.int .i64 t82f2), (.int .i64 t82f3), (.string t82f4), (.slice t82f5 t82f5n t82f5c), (.int .i64 t82f6), (.int .i64 t82f7)])] h (fun v h1 => ∃ (t83 : OA) (t83n t83c : Nat) (t83_1 : Int), v = (.tuple #[(.slice t83 t83n t83c), (.int .i64 t83_1)]) ∧
 let t87 : Bool := (t83_1 == 0)
 br t87 (
 let t90 : Bool := decide ((t83n : Int) < 1)
 br t90 (
 Q (.bool false) h1) (
 SpecH PP F_wire_GetResponse [(.slice t83 t83n t83c)] h1 (fun v_1 h2 => ∃ (t93f0 t93f1 t93f2 t93f3 : Int) (t93f4 : ByteArray) (t93f5 : OA) (t93f5n t93f5c : Nat) (t93f6 t93f7 t93_1 : Int), v_1 = (.tuple #[(.agg #[(.int .i64 t93f0), (.int .i64 t93f1), (.int .i64 t93f2), (.int .i64 t93f3), (.string t93f4), (.slice t93f5 t93f5n t93f5c), (.int .i64 t93f6), (.int .i64 t93f7)]), (.int .i64 t93_1)]) ∧
 let y17 : Addr := ⟨Array.size h2, 0, none⟩
 let h3 : Heap := Array.push h2 (.cells #[(.int .i64 0), (.int .i64 0), (.int .i64 0), (.int .i64 0), (.string (⟨#[]⟩ : ByteArray)), (.slice none 0 0), (.int .i64 0), (.int .i64 0)] T_api_Response (0, 0))
 wrCells y17 0 [(.int .i64 t93f0), (.int .i64 t93f1), (.int .i64 t93f2), (.int .i64 t93f3), (.string t93f4), (.slice t93f5 t93f5n t93f5c), (.int .i64 t93f6), (.int .i64 t93f7)] (fun h4 =>
 hwp PP (Instr.sliceAt T_sl_uint8 (.slice t83 t83n t83c) none (some (.int .i64 (t83n : Int))) (some (.int .i64 (t83n : Int)))) (fun v_2 h5 => ∃ (t102 : OA) (t102n t102c : Nat), v_2 = (.slice t102 t102n t102c) ∧
 let h6 : Heap := Array.push h5 (.cells #[(.int .u8 more2)] T_uint8 (0, 0))
 hwp PP (Builtin.append_ #[T_sl_uint8, T_sl_uint8] T_sl_uint8 #[(.slice t102 t102n t102c), (.slice (some ⟨Array.size h5, 0, none⟩) 1 1)]) (fun v_3 h7 => ∃ (t105 : OA) (t105n t105c : Nat), v_3 = (.slice t105 t105n t105c) ∧
 SpecH PP F_wire_GetResponse [(.slice t105 t105n t105c)] h7 (fun v_4 h8 => ∃ (t106f0 t106f1 t106f2 t106f3 : Int) (t106f4 : ByteArray) (t106f5 : OA) (t106f5n t106f5c : Nat) (t106f6 t106f7 t106_1 : Int), v_4 = (.tuple #[(.agg #[(.int .i64 t106f0), (.int .i64 t106f1), (.int .i64 t106f2), (.int .i64 t106f3), (.string t106f4), (.slice t106f5 t106f5n t106f5c), (.int .i64 t106f6), (.int .i64 t106f7)]), (.int .i64 t106_1)]) ∧
 let t19 : Addr := ⟨Array.size h8, 0, none⟩
 let h9 : Heap := Array.push h8 (.cells #[(.int .i64 0), (.int .i64 0), (.int .i64 0), (.int .i64 0), (.string (⟨#[]⟩ : ByteArray)), (.slice none 0 0), (.int .i64 0), (.int .i64 0)] T_api_Response (0, 0))
 wrCells t19 0 [(.int .i64 t106f0), (.int .i64 t106f1), (.int .i64 t106f2), (.int .i64 t106f3), (.string t106f4), (.slice t106f5 t106f5n t106f5c), (.int .i64 t106f6), (.int .i64 t106f7)] (fun h10 =>
 let t113 : Int := IntKind.i64.wrap ((t83n : Int) - 1)
 hwp PP (Instr.sliceAt T_sl_uint8 (.slice t83 t83n t83c) none (some (.int .i64 t113)) none) (fun v_5 h11 => ∃ (t114 : OA) (t114n t114c : Nat), v_5 = (.slice t114 t114n t114c) ∧
 SpecH PP F_wire_GetResponse [(.slice t114 t114n t114c)] h11 (fun v_6 h12 => ∃ (t115f0 t115f1 t115f2 t115f3 : Int) (t115f4 : ByteArray) (t115f5 : OA) (t115f5n t115f5c : Nat) (t115f6 t115f7 t115_1 : Int), v_6 = (.tuple #[(.agg #[(.int .i64 t115f0), (.int .i64 t115f1), (.int .i64 t115f2), (.int .i64 t115f3), (.string t115f4), (.slice t115f5 t115f5n t115f5c), (.int .i64 t115f6), (.int .i64 t115f7)]), (.int .i64 t115_1)]) ∧
 let t21 : Addr := ⟨Array.size h12, 0, none⟩
 let h13 : Heap := Array.push h12 (.cells #[(.int .i64 0), (.int .i64 0), (.int .i64 0), (.int .i64 0), (.string (⟨#[]⟩ : ByteArray)), (.slice none 0 0), (.int .i64 0), (.int .i64 0)] T_api_Response (0, 0))
 wrCells t21 0 [(.int .i64 t115f0), (.int .i64 t115f1), (.int .i64 t115f2), (.int .i64 t115f3), (.string t115f4), (.slice t115f5 t115f5n t115f5c), (.int .i64 t115f6), (.int .i64 t115f7)] (fun h14 =>
 let t119 : Bool := (t93_1 != 0)
 br t119 (
 J4 true Q h14) (
 ∃ (t121f0 t121f1 t121f2 t121f3 : Int) (t121f4 : ByteArray) (t121f5 : OA) (t121f5n t121f5c : Nat) (t121f6 t121f7 : Int), rdCells h14 y17 0 [(.int .i64 t121f0), (.int .i64 t121f1), (.int .i64 t121f2), (.int .i64 t121f3), (.string t121f4), (.slice t121f5 t121f5n t121f5c), (.int .i64 t121f6), (.int .i64 t121f7)] ∧
 ∃ (t122f0 t122f1 t122f2 t122f3 : Int) (t122f4 : ByteArray) (t122f5 : OA) (t122f5n t122f5c : Nat) (t122f6 t122f7 : Int), rdCells h14 r4 0 [(.int .i64 t122f0), (.int .i64 t122f1), (.int .i64 t122f2), (.int .i64 t122f3), (.string t122f4), (.slice t122f5 t122f5n t122f5c), (.int .i64 t122f6), (.int .i64 t122f7)] ∧
 SpecH PP F_ref19_Same [(.agg #[(.int .i64 t121f0), (.int .i64 t121f1), (.int .i64 t121f2), (.int .i64 t121f3), (.string t121f4), (.slice t121f5 t121f5n t121f5c), (.int .i64 t121f6), (.int .i64 t121f7)]), (.agg #[(.int .i64 t122f0), (.int .i64 t122f1), (.int .i64 t122f2), (.int .i64 t122f3), (.string t122f4), (.slice t122f5 t122f5n t122f5c), (.int .i64 t122f6), (.int .i64 t122f7)])] h14 (fun v_7 h15 => ∃ (t123 : Bool), v_7 = (.bool t123) ∧
 let t124 : Bool := (!t123)
 br t124 (
 J4 true Q h15) (
 let t128 : Bool := (t106_1 != 190)
 br t128 (
 J4 true Q h15) (
 let t132 : Bool := (t115_1 != 190)
 J4 t132 Q h15))))) h13)) h10) h9)) h6) h4) h3))) (
 J5  Q h1))) : J3 more2 r4 Q h := by unfold J3; exact Jn.of_txt (an 31) (by kernel_rfl) H
theorem J4_of {t133 : Bool} {Q : VP} {h : Heap} (H :
 br t133 (
 Q (.bool false) h) (
 J5  Q h)) : J4 t133 Q h := by unfold J4; exact Jn.of_txt (an 16223) (by kernel_rfl) H
theorem J5_of  {Q : VP} {h : Heap} (H :
 SpecH PP F_law19_awake [] h (fun v h1 => ∃ (t134 : Bool), v = (.bool t134) ∧
 Q (.bool t134) h1)) : J5  Q h := by unfold J5; exact Jn.of_txt (an 127) (by kernel_rfl) H
theorem door {q0f0 q0f1 : Int} {q0f2 q0f3 q0f4 : ByteArray} {q0f5 q0f6 : Int} {q0f7 : ByteArray} {r1f0 r1f1 r1f2 r1f3 : Int} {r1f4 : ByteArray} {r1f5 : OA} {r1f5n r1f5c : Nat} {r1f6 r1f7 more2 : Int} {Q : VP} {h : Heap} (H :
 let q3 : Addr := ⟨Array.size h, 0, none⟩
 let h1 : Heap := Array.push h (.cells #[(.int .i64 q0f0), (.int .i64 q0f1), (.string q0f2), (.string q0f3), (.string q0f4), (.int .i64 q0f5), (.int .i64 q0f6), (.string q0f7)] T_api_Request (0, 0))
 let r4 : Addr := ⟨Array.size h1, 0, none⟩
 let h2 : Heap := Array.push h1 (.cells #[(.int .i64 r1f0), (.int .i64 r1f1), (.int .i64 r1f2), (.int .i64 r1f3), (.string r1f4), (.slice r1f5 r1f5n r1f5c), (.int .i64 r1f6), (.int .i64 r1f7)] T_api_Response (0, 0))
 ∃ (t23f0 t23f1 : Int) (t23f2 t23f3 t23f4 : ByteArray) (t23f5 t23f6 : Int) (t23f7 : ByteArray), rdCells h2 q3 0 [(.int .i64 t23f0), (.int .i64 t23f1), (.string t23f2), (.string t23f3), (.string t23f4), (.int .i64 t23f5), (.int .i64 t23f6), (.string t23f7)] ∧
 SpecH PP F_law19_big [(.agg #[(.int .i64 t23f0), (.int .i64 t23f1), (.string t23f2), (.string t23f3), (.string t23f4), (.int .i64 t23f5), (.int .i64 t23f6), (.string t23f7)])] h2 (fun v h3 => ∃ (t24 : Bool), v = (.bool t24) ∧
 br t24 (
 J1 more2 q3 r4 true Q h3) (
 ∃ (t26f0 t26f1 t26f2 t26f3 : Int) (t26f4 : ByteArray) (t26f5 : OA) (t26f5n t26f5c : Nat) (t26f6 t26f7 : Int), rdCells h3 r4 0 [(.int .i64 t26f0), (.int .i64 t26f1), (.int .i64 t26f2), (.int .i64 t26f3), (.string t26f4), (.slice t26f5 t26f5n t26f5c), (.int .i64 t26f6), (.int .i64 t26f7)] ∧
 SpecH PP F_law19_bigger [(.agg #[(.int .i64 t26f0), (.int .i64 t26f1), (.int .i64 t26f2), (.int .i64 t26f3), (.string t26f4), (.slice t26f5 t26f5n t26f5c), (.int .i64 t26f6), (.int .i64 t26f7)])] h3 (fun v_1 h4 => ∃ (t27 : Bool), v_1 = (.bool t27) ∧
 J1 more2 q3 r4 t27 Q h4)))) : SpecH PP F_law19_WireRound [(.agg #[(.int .i64 q0f0), (.int .i64 q0f1), (.string q0f2), (.string q0f3), (.string q0f4), (.int .i64 q0f5), (.int .i64 q0f6), (.string q0f7)]), (.agg #[(.int .i64 r1f0), (.int .i64 r1f1), (.int .i64 r1f2), (.int .i64 r1f3), (.string r1f4), (.slice r1f5 r1f5n r1f5c), (.int .i64 r1f6), (.int .i64 r1f7)]), (.int .u8 more2)] h Q :=
   spec_of_txt (ann := ann) Try.func7 rfl rfl (by kernel_rfl) H
end law19_WireRound
/-! ### haversack/haversacklaw19.WireOne: function 8 -/
namespace law19_WireOne
def ann : Ann := (.seq 1 (.region [(List.range 1, 1)]) (.seq 1 (.seq 8193 (.region [(List.range 3, 8193)]) (.cond (.seq 4 (.region [(List.range 1, 4)]) (.exit 4)) .leaf)) (.seq 25 (.region [(List.range 8, 25)]) (.seq 1 (.seq 1048585 (.region [(List.range 2, 1048585)]) (.cond (.seq 97 (.region [(List.range 7, 97)]) (.seq 8589934593 (.region [(List.range 8, 8589934593)]) (.join (.cond (.seq 4 (.region [(List.range 1, 4)]) (.exit 4)) .leaf)))) .leaf)) (.join (.seq 385 (.region [(List.range 8, 385)]) (.seq 0 (.seq 1099511627905 (.region [(List.range 2, 1099511627905)]) (.cond (.seq 1537 (.region [(List.range 7, 1537)]) (.seq 9007199254740992 (.region [(List.range 8, 9007199254740992)]) (.join (.cond (.seq 4 (.region [(List.range 1, 4)]) (.exit 4)) .leaf)))) .leaf)) (.join (.seq 4 (.region [(List.range 2, 4)]) (.exit 4))))))))))
noncomputable abbrev cd (n : Nat) : Code := sub (bodyOf Try.f8) (pth n)
abbrev an (n : Nat) : Ann := subA ann (pth n)
@[irreducible] def K1 (Q : VP) : EP := seqK (fun fr h => Jn PP true (cd 31) (fr.mask 1) (bodyK PP Try.f8 Q) h) (bodyK PP Try.f8 Q)
@[irreducible] def J1 (b0 : OA) (b0n b0c : Nat) (t33 : Bool) (Q : VP) (h : Heap) : Prop := Jn PP true (cd 491) (mkFr 0 55 [(0, (.slice b0 b0n b0c)), (33, (.bool t33))]) (K1 Q) h
@[irreducible] def J2 (b0 : OA) (b0n b0c : Nat) (Q : VP) (h : Heap) : Prop := Jn PP true (cd 31) (mkFr 0 55 [(0, (.slice b0 b0n b0c))]) (bodyK PP Try.f8 Q) h
@[irreducible] def K2 (Q : VP) : EP := seqK (fun fr h => Jn PP true (cd 127) (fr.mask 0) (bodyK PP Try.f8 Q) h) (bodyK PP Try.f8 Q)
@[irreducible] def J3 (t53 : Bool) (Q : VP) (h : Heap) : Prop := Jn PP true (cd 2027) (mkFr 0 55 [(53, (.bool t53))]) (K2 Q) h
@[irreducible] def J4  (Q : VP) (h : Heap) : Prop := Jn PP true (cd 127) (mkFr 0 55 []) (bodyK PP Try.f8 Q) h
theorem J1_of {b0 : OA} {b0n b0c : Nat} {t33 : Bool} {Q : VP} {h : Heap} (H :
 br t33 (
 Q (.bool false) h) (
 J2 b0 b0n b0c Q h)) : J1 b0 b0n b0c t33 Q h := by unfold J1; exact Jn.of_txt (an 491) (by kernel_rfl) H
theorem J2_of {b0 : OA} {b0n b0c : Nat} {Q : VP} {h : Heap} (H :
 SpecH PP F_wire_GetResponse [(.slice b0 b0n b0c)] h (fun v h1 => ∃ (t36f0 t36f1 t36f2 t36f3 : Int) (t36f4 : ByteArray) (t36f5 : OA) (t36f5n t36f5c : Nat) (t36f6 t36f7 t36_1 : Int), v = (.tuple #[(.agg #[(.int .i64 t36f0), (.int .i64 t36f1), (.int .i64 t36f2), (.int .i64 t36f3), (.string t36f4), (.slice t36f5 t36f5n t36f5c), (.int .i64 t36f6), (.int .i64 t36f7)]), (.int .i64 t36_1)]) ∧
 let r7 : Addr := ⟨Array.size h1, 0, none⟩
 let h2 : Heap := Array.push h1 (.cells #[(.int .i64 0), (.int .i64 0), (.int .i64 0), (.int .i64 0), (.string (⟨#[]⟩ : ByteArray)), (.slice none 0 0), (.int .i64 0), (.int .i64 0)] T_api_Response (0, 0))
 wrCells r7 0 [(.int .i64 t36f0), (.int .i64 t36f1), (.int .i64 t36f2), (.int .i64 t36f3), (.string t36f4), (.slice t36f5 t36f5n t36f5c), (.int .i64 t36f6), (.int .i64 t36f7)] (fun h3 =>
 let t40 : Bool := (t36_1 == 0)
 br t40 (
 ∃ (t42f0 t42f1 t42f2 t42f3 : Int) (t42f4 : ByteArray) (t42f5 : OA) (t42f5n t42f5c : Nat) (t42f6 t42f7 : Int), rdCells h3 r7 0 [(.int .i64 t42f0), (.int .i64 t42f1), (.int .i64 t42f2), (.int .i64 t42f3), (.string t42f4), (.slice t42f5 t42f5n t42f5c), (.int .i64 t42f6), (.int .i64 t42f7)] ∧
 SpecH PP F_wire_PutResponse [(.agg #[(.int .i64 t42f0), (.int .i64 t42f1), (.int .i64 t42f2), (.int .i64 t42f3), (.string t42f4), (.slice t42f5 t42f5n t42f5c), (.int .i64 t42f6), (.int .i64 t42f7)])] h3 (fun v_1 h4 => ∃ (t43 : OA) (t43n t43c : Nat) (t43_1 : Int), v_1 = (.tuple #[(.slice t43 t43n t43c), (.int .i64 t43_1)]) ∧
 let t47 : Bool := (t43_1 != 0)
 br t47 (
 J3 true Q h4) (
 SpecH PP F_keep_Bytes [(.slice t43 t43n t43c), (.slice b0 b0n b0c)] h4 (fun v_2 h5 => ∃ (t51 : Bool), v_2 = (.bool t51) ∧
 let t52 : Bool := (!t51)
 J3 t52 Q h5)))) (
 J4  Q h3)) h2)) : J2 b0 b0n b0c Q h := by unfold J2; exact Jn.of_txt (an 31) (by kernel_rfl) H
theorem J3_of {t53 : Bool} {Q : VP} {h : Heap} (H :
 br t53 (
 Q (.bool false) h) (
 J4  Q h)) : J3 t53 Q h := by unfold J3; exact Jn.of_txt (an 2027) (by kernel_rfl) H
theorem J4_of  {Q : VP} {h : Heap} (H :
 SpecH PP F_law19_awake [] h (fun v h1 => ∃ (t54 : Bool), v = (.bool t54) ∧
 Q (.bool t54) h1)) : J4  Q h := by unfold J4; exact Jn.of_txt (an 127) (by kernel_rfl) H
theorem door {b0 : OA} {b0n b0c : Nat} {Q : VP} {h : Heap} (H :
 let t13 : Bool := decide ((b0n : Int) > 1048576)
 br t13 (
 Q (.bool true) h) (
 SpecH PP F_wire_GetRequest [(.slice b0 b0n b0c)] h (fun v h1 => ∃ (t16f0 t16f1 : Int) (t16f2 t16f3 t16f4 : ByteArray) (t16f5 t16f6 : Int) (t16f7 : ByteArray) (t16_1 : Int), v = (.tuple #[(.agg #[(.int .i64 t16f0), (.int .i64 t16f1), (.string t16f2), (.string t16f3), (.string t16f4), (.int .i64 t16f5), (.int .i64 t16f6), (.string t16f7)]), (.int .i64 t16_1)]) ∧
 let q3 : Addr := ⟨Array.size h1, 0, none⟩
 let h2 : Heap := Array.push h1 (.cells #[(.int .i64 0), (.int .i64 0), (.string (⟨#[]⟩ : ByteArray)), (.string (⟨#[]⟩ : ByteArray)), (.string (⟨#[]⟩ : ByteArray)), (.int .i64 0), (.int .i64 0), (.string (⟨#[]⟩ : ByteArray))] T_api_Request (0, 0))
 wrCells q3 0 [(.int .i64 t16f0), (.int .i64 t16f1), (.string t16f2), (.string t16f3), (.string t16f4), (.int .i64 t16f5), (.int .i64 t16f6), (.string t16f7)] (fun h3 =>
 let t20 : Bool := (t16_1 == 0)
 br t20 (
 ∃ (t22f0 t22f1 : Int) (t22f2 t22f3 t22f4 : ByteArray) (t22f5 t22f6 : Int) (t22f7 : ByteArray), rdCells h3 q3 0 [(.int .i64 t22f0), (.int .i64 t22f1), (.string t22f2), (.string t22f3), (.string t22f4), (.int .i64 t22f5), (.int .i64 t22f6), (.string t22f7)] ∧
 SpecH PP F_wire_PutRequest [(.agg #[(.int .i64 t22f0), (.int .i64 t22f1), (.string t22f2), (.string t22f3), (.string t22f4), (.int .i64 t22f5), (.int .i64 t22f6), (.string t22f7)])] h3 (fun v_1 h4 => ∃ (t23 : OA) (t23n t23c : Nat) (t23_1 : Int), v_1 = (.tuple #[(.slice t23 t23n t23c), (.int .i64 t23_1)]) ∧
 let t27 : Bool := (t23_1 != 0)
 br t27 (
 J1 b0 b0n b0c true Q h4) (
 SpecH PP F_keep_Bytes [(.slice t23 t23n t23c), (.slice b0 b0n b0c)] h4 (fun v_2 h5 => ∃ (t31 : Bool), v_2 = (.bool t31) ∧
 let t32 : Bool := (!t31)
 J1 b0 b0n b0c t32 Q h5)))) (
 J2 b0 b0n b0c Q h3)) h2))) : SpecH PP F_law19_WireOne [(.slice b0 b0n b0c)] h Q :=
   spec_of_txt (ann := ann) Try.func8 rfl rfl (by kernel_rfl) H
end law19_WireOne
/-! ### haversack/haversacklaw19.big: function 9 -/
namespace law19_big
def ann : Ann := (.seq 2 (.region [(List.range 2, 2)]) (.seq 4 (.region [(List.range 23, 4)]) (.exit 4)))
noncomputable abbrev cd (n : Nat) : Code := sub (bodyOf Try.f9) (pth n)
abbrev an (n : Nat) : Ann := subA ann (pth n)
theorem door {r0f0 r0f1 : Int} {r0f2 r0f3 r0f4 : ByteArray} {r0f5 r0f6 : Int} {r0f7 : ByteArray} {Q : VP} {h : Heap} (H :
 let r1 : Addr := ⟨Array.size h, 0, none⟩
 let h1 : Heap := Array.push h (.cells #[(.int .i64 r0f0), (.int .i64 r0f1), (.string r0f2), (.string r0f3), (.string r0f4), (.int .i64 r0f5), (.int .i64 r0f6), (.string r0f7)] T_api_Request (0, 0))
 ∃ (t4 : ByteArray), cellH h1 (Addr.add r1 2) = some (.string t4) ∧
 let t5 : Int := (ByteArray.size t4 : Int)
 let t6 : Bool := decide (t5 > 1048576)
 br t6 (
 Q (.bool true) h1) (
 ∃ (t9 : ByteArray), cellH h1 (Addr.add r1 3) = some (.string t9) ∧
 let t10 : Int := (ByteArray.size t9 : Int)
 let t11 : Bool := decide (t10 > 1048576)
 br t11 (
 Q (.bool true) h1) (
 ∃ (t15 : ByteArray), cellH h1 (Addr.add r1 4) = some (.string t15) ∧
 let t16 : Int := (ByteArray.size t15 : Int)
 let t17 : Bool := decide (t16 > 1048576)
 br t17 (
 Q (.bool true) h1) (
 ∃ (t21 : ByteArray), cellH h1 (Addr.add r1 7) = some (.string t21) ∧
 let t22 : Int := (ByteArray.size t21 : Int)
 let t23 : Bool := decide (t22 > 1048576)
 Q (.bool t23) h1)))) : SpecH PP F_law19_big [(.agg #[(.int .i64 r0f0), (.int .i64 r0f1), (.string r0f2), (.string r0f3), (.string r0f4), (.int .i64 r0f5), (.int .i64 r0f6), (.string r0f7)])] h Q :=
   spec_of_txt (ann := ann) Try.func9 rfl rfl (by kernel_rfl) H
end law19_big
/-! ### haversack/wire.PutRequest: function 10 -/
namespace wire_PutRequest
def ann : Ann := (.seq 14 (.region [(List.range 3, 14)]) (.seq 14 (.thr (List.range 0) 0 14 12) (.seq 14 (.thr (List.range 3) 3 14 12) (.seq 14 (.seq 3670030 (.region [(List.range 9, 3670030)]) (.block (.loop 3670030 (.seq 7864334 (.region [(List.range 1, 7864334)]) (.seq 3670030 (.cond .leaf (.exit 14)) (.seq 3670030 (.block (.seq 3670062 (.region [(List.range 3, 3670062)]) (.thr (List.range 6) 6 3670030 12))) (.join (.region [(List.range 2, 3670030)])))))))) (.seq 206 (.region [(List.range 6, 206)]) (.seq 206 (.region [(List.range 8, 206)]) (.seq 142 (.thr (List.range 2) 2 142 12) (.seq 142 (.thr (List.range 3) 3 142 12) (.seq 398 (.region [(List.range 7, 398)]) (.seq 264 (.thr (List.range 1) 1 268 12) (.seq 12 (.region [(List.range 6, 12)]) (.exit 12))))))))))))
noncomputable abbrev cd (n : Nat) : Code := sub (bodyOf Try.f10) (pth n)
abbrev an (n : Nat) : Ann := subA ann (pth n)
@[irreducible] def Xpan (b2 : OA) (b2n b2c : Nat) (e3 : Addr) : Fr := (mkFr 0 58 [(2, (.slice b2 b2n b2c)), (3, (.pointer (some e3)))])
@[irreducible] def X0 (r1 : Addr) (b2 : OA) (b2n b2c : Nat) (e3 : Addr) : Fr := (mkFr 0 58 [(1, (.pointer (some r1))), (2, (.slice b2 b2n b2c)), (3, (.pointer (some e3)))])
@[irreducible] def lv (b2 : OA) (b2n b2c : Nat) (e3 : Addr) (Q X : VP) (ds : List Dfr) (m : Option Value) (h : Heap) : Prop := leaveK PP (mkFr 0 58 [(2, (.slice b2 b2n b2c)), (3, (.pointer (some e3)))]) (Try.f10.results.toList) Q X ds m h
theorem lv_cons {b2 : OA} {b2n b2c : Nat} {e3 : Addr} {Q X : VP} {ds : List Dfr} {f : FuncId} {a b : List Value} {m : Option Value} {h : Heap} (H : callable PP f = true ∧ SpecD PP f (a ++ b) m h (fun m h => lv b2 b2n b2c e3 Q X ds m h)) : lv b2 b2n b2c e3 Q X ((f, a, b) :: ds) m h := by unfold lv at H ⊢; exact H
theorem lv_nil {b2 : OA} {b2n b2c : Nat} {e3 : Addr} {Q X : VP} {h : Heap} (H : ∃ (e3_1 : Int), cellH h e3 = some (.int .i64 e3_1) ∧
 Q (.tuple #[(.slice b2 b2n b2c), (.int .i64 e3_1)]) h) : lv b2 b2n b2c e3 Q X [] none h := by unfold lv; exact of_eq_txt (by kernel_rfl) H
theorem lv_x {b2 : OA} {b2n b2c : Nat} {e3 : Addr} {Q X : VP} {v : Value} {h : Heap} (H : X v h) : lv b2 b2n b2c e3 Q X [] (some v) h := by unfold lv; exact H
@[irreducible] def L1 (r1 : Addr) (b2 : OA) (b2n b2c : Nat) (e3 : Addr) (t19 : OA) (t19n t19c : Nat) (t20 t21 : Int) (K : EP) (h : Heap) : Prop := Lp PP true (cd 244) (mkFr 0 58 [(1, (.pointer (some r1))), (2, (.slice b2 b2n b2c)), (3, (.pointer (some e3))), (19, (.slice t19 t19n t19c)), (20, (.int .i64 t20)), (21, (.int .i64 t21))]) K h
@[irreducible] def B1 (K : EP) : EP := seqK (fun fr h => Lp PP true (cd 244) (fr.mask 3670030) K h) K
@[irreducible] def J1 (r1 : Addr) (b2 : OA) (b2n b2c : Nat) (e3 : Addr) (t19 : OA) (t19n t19c : Nat) (t20 t21 : Int) (K : EP) (h : Heap) : Prop := Jn PP true (cd 1959) (mkFr 0 58 [(1, (.pointer (some r1))), (2, (.slice b2 b2n b2c)), (3, (.pointer (some e3))), (19, (.slice t19 t19n t19c)), (20, (.int .i64 t20)), (21, (.int .i64 t21))]) (B1 K) h
@[irreducible] def K2 (Q X : VP) (ds : List Dfr) : EP := seqK (fun fr h => ev PP true none (cd 31) (an 31) (fr.mask 14) (bodyKD PP Try.f10 Q X ds) h) (bodyKD PP Try.f10 Q X ds)
@[irreducible] def K1 (Q X : VP) (ds : List Dfr) : EP := blockK 0 (K2 Q X ds)
theorem L1_of {r1 : Addr} {b2 : OA} {b2n b2c : Nat} {e3 : Addr} {t19 : OA} {t19n t19c : Nat} {t20 t21 : Int} {K : EP} {h : Heap} (H :
 let t22 : Bool := decide (t21 < t20)
 br t22 (
 hwp PP (Instr.indexAt T_sl_int (.slice t19 t19n t19c) (.int .i64 t21)) (fun v h1 => ∃ (t23 : Addr), v = (.pointer (some t23)) ∧
 ∃ (t24 : Int), cellH h1 t23 = some (.int .i64 t24) ∧
 let t26 : Bool := decide (t24 ≥ 0)
 br t26 (
 let t29 : Bool := decide (t24 ≤ 1000000000)
 SpecT PP F_wire_is [(.bool t29), (.int .i64 1)] h1 (fun v_1 h2 => v_1 = (.tuple #[]) ∧
 J1 r1 b2 b2n b2c e3 t19 t19n t19c t20 t21 K h2) (fun v_2 h3 => K (.pan v_2) (Xpan b2 b2n b2c e3) h3)) (
 SpecT PP F_wire_is [(.bool false), (.int .i64 1)] h1 (fun v_3 h4 => v_3 = (.tuple #[]) ∧
 J1 r1 b2 b2n b2c e3 t19 t19n t19c t20 t21 K h4) (fun v_4 h5 => K (.pan v_4) (Xpan b2 b2n b2c e3) h5))) h) (
 K (.exit 0) (X0 r1 b2 b2n b2c e3) h)) : L1 r1 b2 b2n b2c e3 t19 t19n t19c t20 t21 K h := by unfold L1; exact Lp.of_txt (an 244) 3670030 (by kernel_rfl) H
theorem L1_Xpan {Q X : VP} {ds : List Dfr} {b2 : OA} {b2n b2c : Nat} {e3 : Addr} {v : Value} {h : Heap} (H :
 lv b2 b2n b2c e3 Q X ds (some v) h) : (K1 Q X ds) (.pan v) (Xpan b2 b2n b2c e3) h := of_eq_txt (by kernel_rfl) H
theorem J1_of {r1 : Addr} {b2 : OA} {b2n b2c : Nat} {e3 : Addr} {t19 : OA} {t19n t19c : Nat} {t20 t21 : Int} {K : EP} {h : Heap} (H :
 let t32 : Int := IntKind.i64.wrap (t21 + 1)
 L1 r1 b2 b2n b2c e3 t19 t19n t19c t20 t32 K h) : J1 r1 b2 b2n b2c e3 t19 t19n t19c t20 t21 K h := by unfold J1; exact Jn.of_txt (an 1959) (by kernel_rfl) H
theorem L1_X0 {Q X : VP} {ds : List Dfr} {r1 : Addr} {b2 : OA} {b2n b2c : Nat} {e3 : Addr} {h : Heap} (H :
 ∃ (t33f0 t33f1 : Int) (t33f2 t33f3 t33f4 : ByteArray) (t33f5 t33f6 : Int) (t33f7 : ByteArray), rdCells h r1 0 [(.int .i64 t33f0), (.int .i64 t33f1), (.string t33f2), (.string t33f3), (.string t33f4), (.int .i64 t33f5), (.int .i64 t33f6), (.string t33f7)] ∧
 ∃ (t34f0 t34f1 : Int) (t34f2 t34f3 t34f4 : ByteArray) (t34f5 t34f6 : Int) (t34f7 : ByteArray), rdCells h r1 0 [(.int .i64 t34f0), (.int .i64 t34f1), (.string t34f2), (.string t34f3), (.string t34f4), (.int .i64 t34f5), (.int .i64 t34f6), (.string t34f7)] ∧
 let own6 : Addr := ⟨Array.size h, 0, none⟩
 let h1 : Heap := Array.push h (.cells #[(.int .i64 0), (.int .i64 0), (.string (⟨#[]⟩ : ByteArray)), (.string (⟨#[]⟩ : ByteArray)), (.string (⟨#[]⟩ : ByteArray)), (.int .i64 0), (.int .i64 0), (.string (⟨#[]⟩ : ByteArray))] T_api_Request (0, 0))
 let rest7 : Addr := ⟨Array.size h1, 0, none⟩
 let h2 : Heap := Array.push h1 (.cells #[(.int .i64 0), (.int .i64 0), (.string (⟨#[]⟩ : ByteArray)), (.string (⟨#[]⟩ : ByteArray)), (.string (⟨#[]⟩ : ByteArray)), (.int .i64 0), (.int .i64 0), (.string (⟨#[]⟩ : ByteArray))] T_api_Request (0, 0))
 wrCells own6 0 [(.int .i64 t33f0), (.int .i64 t33f1), (.string t33f2), (.string t33f3), (.string t33f4), (.int .i64 t33f5), (.int .i64 t33f6), (.string t33f7)] (fun h3 =>
 wrCells rest7 0 [(.int .i64 t34f0), (.int .i64 t34f1), (.string t34f2), (.string t34f3), (.string t34f4), (.int .i64 t34f5), (.int .i64 t34f6), (.string t34f7)] (fun h4 =>
 wr (Addr.add own6 2) (.string (⟨#[]⟩ : ByteArray)) (fun h5 =>
 wr (Addr.add own6 3) (.string (⟨#[]⟩ : ByteArray)) (fun h6 =>
 wr (Addr.add own6 4) (.string (⟨#[]⟩ : ByteArray)) (fun h7 =>
 wr (Addr.add own6 7) (.string (⟨#[]⟩ : ByteArray)) (fun h8 =>
 let t40 : Addr := ⟨Array.size h8, 0, none⟩
 let h9 : Heap := Array.push h8 (.cells #[(.slice none 0 0), (.bool true)] T_wire_port (0, 0))
 SpecT PP F_wire_port_request [(.pointer (some t40)), (.pointer (some own6)), (.pointer (some rest7))] h9 (fun v h10 => v = (.tuple #[]) ∧
 ∃ (t42f0 t42f1 : Int) (t42f2 t42f3 t42f4 : ByteArray) (t42f5 t42f6 : Int) (t42f7 : ByteArray), rdCells h10 rest7 0 [(.int .i64 t42f0), (.int .i64 t42f1), (.string t42f2), (.string t42f3), (.string t42f4), (.int .i64 t42f5), (.int .i64 t42f6), (.string t42f7)] ∧
 let t44 : Bool := ((t42f0 == 0) && ((t42f1 == 0) && (decide (t42f2 = (⟨#[]⟩ : ByteArray)) && (decide (t42f3 = (⟨#[]⟩ : ByteArray)) && (decide (t42f4 = (⟨#[]⟩ : ByteArray)) && ((t42f5 == 0) && ((t42f6 == 0) && (decide (t42f7 = (⟨#[]⟩ : ByteArray)) && true))))))))
 SpecT PP F_wire_is [(.bool t44), (.int .i64 1)] h10 (fun v_1 h11 => v_1 = (.tuple #[]) ∧
 ∃ (t47 : Int), cellH h11 r1 = some (.int .i64 t47) ∧
 let t48 : Int := IntKind.u8.wrap t47
 let h12 : Heap := Array.push h11 (.cells #[(.int .u8 t48)] T_uint8 (0, 0))
 let t51 : Addr := ⟨Array.size h12, 0, none⟩
 let h13 : Heap := Array.push h12 (.cells #[(.slice (some ⟨Array.size h11, 0, none⟩) 1 1), (.bool true)] T_wire_port (0, 0))
 SpecT PP F_wire_port_request [(.pointer (some t51)), (.pointer (some r1)), (.pointer (some rest7))] h13 (fun v_2 h14 => v_2 = (.tuple #[]) ∧
 ∃ (t57 : OA) (t57n t57c : Nat), cellH h14 t51 = some (.slice t57 t57n t57c) ∧
 wr e3 (.int .i64 0) (fun h15 =>
 lv t57 t57n t57c e3 Q X ds none h15) h14) (fun v_3 h16 => lv b2 b2n b2c e3 Q X ds (some v_3) h16)) (fun v_4 h17 => lv b2 b2n b2c e3 Q X ds (some v_4) h17)) (fun v_5 h18 => lv b2 b2n b2c e3 Q X ds (some v_5) h18)) h7) h6) h5) h4) h3) h2) : (K1 Q X ds) (.exit 0) (X0 r1 b2 b2n b2c e3) h := of_eq_txt (by kernel_rfl) H
theorem door {r0f0 r0f1 : Int} {r0f2 r0f3 r0f4 : ByteArray} {r0f5 r0f6 : Int} {r0f7 : ByteArray} {Q X : VP} {h : Heap} (H :
 let r1 : Addr := ⟨Array.size h, 0, none⟩
 let h1 : Heap := Array.push h (.cells #[(.int .i64 r0f0), (.int .i64 r0f1), (.string r0f2), (.string r0f3), (.string r0f4), (.int .i64 r0f5), (.int .i64 r0f6), (.string r0f7)] T_api_Request (0, 0))
 let e3 : Addr := ⟨Array.size h1, 0, none⟩
 let h2 : Heap := Array.push h1 (.cells #[(.int .i64 0)] T_api_Errno (0, 0))
 ∃ (t10 : Int), cellH h2 r1 = some (.int .i64 t10) ∧
 ∃ v, PureAt PP F_wire_kind [(.int .i64 t10)] v ∧
 ∃ (t11 : Bool), v = (.bool t11) ∧
 SpecT PP F_wire_is [(.bool t11), (.int .i64 191)] h2 (fun v_1 h3 => v_1 = (.tuple #[]) ∧
 ∃ (t14 : Int), cellH h3 (Addr.add r1 1) = some (.int .i64 t14) ∧
 ∃ (t16 : Int), cellH h3 (Addr.add r1 5) = some (.int .i64 t16) ∧
 ∃ (t18 : Int), cellH h3 (Addr.add r1 6) = some (.int .i64 t18) ∧
 let h4 : Heap := Array.push h3 (.cells #[(.int .i64 t14), (.int .i64 t16), (.int .i64 t18)] T_int (0, 0))
 L1 r1 none 0 0 e3 (some ⟨Array.size h3, 0, none⟩) 3 3 3 0 (K1 Q X [(F_wire_caught, [(.pointer (some e3))], [])]) h4) (fun v_2 h5 => lv none 0 0 e3 Q X [(F_wire_caught, [(.pointer (some e3))], [])] (some v_2) h5)) : SpecT PP F_wire_PutRequest [(.agg #[(.int .i64 r0f0), (.int .i64 r0f1), (.string r0f2), (.string r0f3), (.string r0f4), (.int .i64 r0f5), (.int .i64 r0f6), (.string r0f7)])] h Q X := specT_of_txtD (ann := ann) Try.func10 rfl rfl (by kernel_rfl) H
end wire_PutRequest
/-! ### haversack/haversackref19.PutRequest: function 11 -/
namespace ref19_PutRequest
def ann : Ann := (.seq 2 (.region [(List.range 3, 2)]) (.seq 50 (.region [(List.range 9, 50)]) (.seq 18 (.seq 32786 (.region [(List.range 2, 32786)]) (.cond (.seq 12 (.region [(List.range 2, 12)]) (.exit 12)) .leaf)) (.seq 82 (.region [(List.range 62, 82)]) (.join (.seq 18 (.seq 79228162514264337593543950354 (.region [(List.range 20, 79228162514264337593543950354)]) (.join (.cond (.seq 12 (.region [(List.range 2, 12)]) (.exit 12)) .leaf))) (.seq 18 (.seq 332306998946228968225951765070086162 (.region [(List.range 22, 332306998946228968225951765070086162)]) (.join (.cond (.seq 12 (.region [(List.range 2, 12)]) (.exit 12)) .leaf))) (.seq 146 (.region [(List.range 5, 146)]) (.seq 146 (.seq 21267647932558653966460912964485513362 (.region [(List.range 2, 21267647932558653966460912964485513362)]) (.cond (.region [(List.range 5, 146)]) .leaf)) (.join (.seq 146 (.seq 1361129467683753853853498429727072845970 (.region [(List.range 2, 1361129467683753853853498429727072845970)]) (.cond (.region [(List.range 5, 146)]) .leaf)) (.join (.seq 146 (.seq 87112285931760246646623899502532662132882 (.region [(List.range 2, 87112285931760246646623899502532662132882)]) (.cond (.region [(List.range 5, 146)]) .leaf)) (.join (.seq 146 (.seq 5575186299632655785383929568162090376495250 (.region [(List.range 2, 5575186299632655785383929568162090376495250)]) (.cond (.region [(List.range 5, 146)]) .leaf)) (.join (.seq 146 (.seq 356811923176489970264571492362373784095686802 (.region [(List.range 2, 356811923176489970264571492362373784095686802)]) (.cond (.seq 146 (.region [(List.range 5, 146)]) (.region [(List.range 5, 146)])) .leaf)) (.join (.seq 128 (.seq 365375409332725729550921208179070754913983135874 (.region [(List.range 2, 365375409332725729550921208179070754913983135874)]) (.cond (.region [(List.range 5, 128)]) .leaf)) (.join (.seq 12 (.region [(List.range 3, 12)]) (.exit 12))))))))))))))))))))))
noncomputable abbrev cd (n : Nat) : Code := sub (bodyOf Try.f11) (pth n)
abbrev an (n : Nat) : Ann := subA ann (pth n)
@[irreducible] def J1 (r1 f4 : Addr) (zero6 : Bool) (Q : VP) (h : Heap) : Prop := Jn PP true (cd 31) (mkFr 0 164 [(1, (.pointer (some r1))), (4, (.pointer (some f4))), (6, (.bool zero6))]) (bodyK PP Try.f11 Q) h
@[irreducible] def K1 (Q : VP) : EP := seqK (fun fr h => ev PP true none (cd 63) (an 63) (fr.mask 18) (bodyK PP Try.f11 Q) h) (bodyK PP Try.f11 Q)
@[irreducible] def J2 (r1 f4 : Addr) (t96 : Bool) (Q : VP) (h : Heap) : Prop := Jn PP true (cd 125) (mkFr 0 164 [(1, (.pointer (some r1))), (4, (.pointer (some f4))), (96, (.bool t96))]) (K1 Q) h
@[irreducible] def K2 (Q : VP) : EP := seqK (fun fr h => ev PP true none (cd 127) (an 127) (fr.mask 18) (bodyK PP Try.f11 Q) h) (bodyK PP Try.f11 Q)
@[irreducible] def J3 (r1 f4 : Addr) (t118 : Bool) (Q : VP) (h : Heap) : Prop := Jn PP true (cd 253) (mkFr 0 164 [(1, (.pointer (some r1))), (4, (.pointer (some f4))), (118, (.bool t118))]) (K2 Q) h
@[irreducible] def J4 (r1 f4 : Addr) (b7 : OA) (b7n b7c : Nat) (Q : VP) (h : Heap) : Prop := Jn PP true (cd 511) (mkFr 0 164 [(1, (.pointer (some r1))), (4, (.pointer (some f4))), (7, (.slice b7 b7n b7c))]) (bodyK PP Try.f11 Q) h
@[irreducible] def J5 (r1 f4 : Addr) (b7 : OA) (b7n b7c : Nat) (Q : VP) (h : Heap) : Prop := Jn PP true (cd 1023) (mkFr 0 164 [(1, (.pointer (some r1))), (4, (.pointer (some f4))), (7, (.slice b7 b7n b7c))]) (bodyK PP Try.f11 Q) h
@[irreducible] def J6 (r1 f4 : Addr) (b7 : OA) (b7n b7c : Nat) (Q : VP) (h : Heap) : Prop := Jn PP true (cd 2047) (mkFr 0 164 [(1, (.pointer (some r1))), (4, (.pointer (some f4))), (7, (.slice b7 b7n b7c))]) (bodyK PP Try.f11 Q) h
@[irreducible] def J7 (r1 f4 : Addr) (b7 : OA) (b7n b7c : Nat) (Q : VP) (h : Heap) : Prop := Jn PP true (cd 4095) (mkFr 0 164 [(1, (.pointer (some r1))), (4, (.pointer (some f4))), (7, (.slice b7 b7n b7c))]) (bodyK PP Try.f11 Q) h
@[irreducible] def J8 (r1 f4 : Addr) (b7 : OA) (b7n b7c : Nat) (Q : VP) (h : Heap) : Prop := Jn PP true (cd 8191) (mkFr 0 164 [(1, (.pointer (some r1))), (4, (.pointer (some f4))), (7, (.slice b7 b7n b7c))]) (bodyK PP Try.f11 Q) h
@[irreducible] def J9 (b7 : OA) (b7n b7c : Nat) (Q : VP) (h : Heap) : Prop := Jn PP true (cd 16383) (mkFr 0 164 [(7, (.slice b7 b7n b7c))]) (bodyK PP Try.f11 Q) h
theorem J1_of {r1 f4 : Addr} {zero6 : Bool} {Q : VP} {h : Heap} (H :
 let t78 : Bool := (!zero6)
 br t78 (
 J2 r1 f4 true Q h) (
 ∃ (t81 : Int), cellH h (Addr.add r1 1) = some (.int .i64 t81) ∧
 ∃ v, PureAt PP F_ref19_within [(.int .i64 t81)] v ∧
 ∃ (t82 : Bool), v = (.bool t82) ∧
 let t83 : Bool := (!t82)
 br t83 (
 J2 r1 f4 true Q h) (
 ∃ (t87 : Int), cellH h (Addr.add r1 5) = some (.int .i64 t87) ∧
 ∃ v_1, PureAt PP F_ref19_within [(.int .i64 t87)] v_1 ∧
 ∃ (t88 : Bool), v_1 = (.bool t88) ∧
 let t89 : Bool := (!t88)
 br t89 (
 J2 r1 f4 true Q h) (
 ∃ (t93 : Int), cellH h (Addr.add r1 6) = some (.int .i64 t93) ∧
 ∃ v_2, PureAt PP F_ref19_within [(.int .i64 t93)] v_2 ∧
 ∃ (t94 : Bool), v_2 = (.bool t94) ∧
 let t95 : Bool := (!t94)
 J2 r1 f4 t95 Q h)))) : J1 r1 f4 zero6 Q h := by unfold J1; exact Jn.of_txt (an 31) (by kernel_rfl) H
theorem J2_of {r1 f4 : Addr} {t96 : Bool} {Q : VP} {h : Heap} (H :
 br t96 (
 Q (.tuple #[(.slice none 0 0), (.int .i64 1)]) h) (
 ∃ (t98 : ByteArray), cellH h (Addr.add r1 2) = some (.string t98) ∧
 let t99 : Int := (ByteArray.size t98 : Int)
 let t100 : Bool := decide (t99 > 255)
 br t100 (
 J3 r1 f4 true Q h) (
 ∃ (t103 : ByteArray), cellH h (Addr.add r1 3) = some (.string t103) ∧
 let t104 : Int := (ByteArray.size t103 : Int)
 let t105 : Bool := decide (t104 > 255)
 br t105 (
 J3 r1 f4 true Q h) (
 ∃ (t109 : ByteArray), cellH h (Addr.add r1 7) = some (.string t109) ∧
 let t110 : Int := (ByteArray.size t109 : Int)
 let t111 : Bool := decide (t110 > 256)
 br t111 (
 J3 r1 f4 true Q h) (
 ∃ (t115 : ByteArray), cellH h (Addr.add r1 4) = some (.string t115) ∧
 let t116 : Int := (ByteArray.size t115 : Int)
 let t117 : Bool := decide (t116 > 16384)
 J3 r1 f4 t117 Q h))))) : J2 r1 f4 t96 Q h := by unfold J2; exact Jn.of_txt (an 125) (by kernel_rfl) H
theorem J3_of {r1 f4 : Addr} {t118 : Bool} {Q : VP} {h : Heap} (H :
 br t118 (
 Q (.tuple #[(.slice none 0 0), (.int .i64 2)]) h) (
 ∃ (t120 : Int), cellH h r1 = some (.int .i64 t120) ∧
 let t121 : Int := IntKind.u8.wrap t120
 let h1 : Heap := Array.push h (.cells #[(.int .u8 t121)] T_uint8 (0, 0))
 hwp PP (Instr.indexAt T_7_bool (.pointer (some f4)) (.int .i64 0)) (fun v h2 => ∃ (t123 : Addr), v = (.pointer (some t123)) ∧
 ∃ (t124 : Bool), cellH h2 t123 = some (.bool t124) ∧
 br t124 (
 ∃ (t127 : Int), cellH h2 (Addr.add r1 1) = some (.int .i64 t127) ∧
 SpecH PP F_ref19_number [(.slice (some ⟨Array.size h, 0, none⟩) 1 1), (.int .i64 t127)] h2 (fun v_1 h3 => ∃ (t128 : OA) (t128n t128c : Nat), v_1 = (.slice t128 t128n t128c) ∧
 J4 r1 f4 t128 t128n t128c Q h3)) (
 J4 r1 f4 (some ⟨Array.size h, 0, none⟩) 1 1 Q h2)) h1)) : J3 r1 f4 t118 Q h := by unfold J3; exact Jn.of_txt (an 253) (by kernel_rfl) H
theorem J4_of {r1 f4 : Addr} {b7 : OA} {b7n b7c : Nat} {Q : VP} {h : Heap} (H :
 hwp PP (Instr.indexAt T_7_bool (.pointer (some f4)) (.int .i64 1)) (fun v h1 => ∃ (t129 : Addr), v = (.pointer (some t129)) ∧
 ∃ (t130 : Bool), cellH h1 t129 = some (.bool t130) ∧
 br t130 (
 ∃ (t133 : ByteArray), cellH h1 (Addr.add r1 2) = some (.string t133) ∧
 SpecH PP F_ref19_text [(.slice b7 b7n b7c), (.string t133)] h1 (fun v_1 h2 => ∃ (t134 : OA) (t134n t134c : Nat), v_1 = (.slice t134 t134n t134c) ∧
 J5 r1 f4 t134 t134n t134c Q h2)) (
 J5 r1 f4 b7 b7n b7c Q h1)) h) : J4 r1 f4 b7 b7n b7c Q h := by unfold J4; exact Jn.of_txt (an 511) (by kernel_rfl) H
theorem J5_of {r1 f4 : Addr} {b7 : OA} {b7n b7c : Nat} {Q : VP} {h : Heap} (H :
 hwp PP (Instr.indexAt T_7_bool (.pointer (some f4)) (.int .i64 2)) (fun v h1 => ∃ (t135 : Addr), v = (.pointer (some t135)) ∧
 ∃ (t136 : Bool), cellH h1 t135 = some (.bool t136) ∧
 br t136 (
 ∃ (t139 : ByteArray), cellH h1 (Addr.add r1 3) = some (.string t139) ∧
 SpecH PP F_ref19_text [(.slice b7 b7n b7c), (.string t139)] h1 (fun v_1 h2 => ∃ (t140 : OA) (t140n t140c : Nat), v_1 = (.slice t140 t140n t140c) ∧
 J6 r1 f4 t140 t140n t140c Q h2)) (
 J6 r1 f4 b7 b7n b7c Q h1)) h) : J5 r1 f4 b7 b7n b7c Q h := by unfold J5; exact Jn.of_txt (an 1023) (by kernel_rfl) H
theorem J6_of {r1 f4 : Addr} {b7 : OA} {b7n b7c : Nat} {Q : VP} {h : Heap} (H :
 hwp PP (Instr.indexAt T_7_bool (.pointer (some f4)) (.int .i64 3)) (fun v h1 => ∃ (t141 : Addr), v = (.pointer (some t141)) ∧
 ∃ (t142 : Bool), cellH h1 t141 = some (.bool t142) ∧
 br t142 (
 ∃ (t145 : ByteArray), cellH h1 (Addr.add r1 4) = some (.string t145) ∧
 SpecH PP F_ref19_text [(.slice b7 b7n b7c), (.string t145)] h1 (fun v_1 h2 => ∃ (t146 : OA) (t146n t146c : Nat), v_1 = (.slice t146 t146n t146c) ∧
 J7 r1 f4 t146 t146n t146c Q h2)) (
 J7 r1 f4 b7 b7n b7c Q h1)) h) : J6 r1 f4 b7 b7n b7c Q h := by unfold J6; exact Jn.of_txt (an 2047) (by kernel_rfl) H
theorem J7_of {r1 f4 : Addr} {b7 : OA} {b7n b7c : Nat} {Q : VP} {h : Heap} (H :
 hwp PP (Instr.indexAt T_7_bool (.pointer (some f4)) (.int .i64 4)) (fun v h1 => ∃ (t147 : Addr), v = (.pointer (some t147)) ∧
 ∃ (t148 : Bool), cellH h1 t147 = some (.bool t148) ∧
 br t148 (
 ∃ (t151 : Int), cellH h1 (Addr.add r1 5) = some (.int .i64 t151) ∧
 SpecH PP F_ref19_number [(.slice b7 b7n b7c), (.int .i64 t151)] h1 (fun v_1 h2 => ∃ (t152 : OA) (t152n t152c : Nat), v_1 = (.slice t152 t152n t152c) ∧
 ∃ (t155 : Int), cellH h2 (Addr.add r1 6) = some (.int .i64 t155) ∧
 SpecH PP F_ref19_number [(.slice t152 t152n t152c), (.int .i64 t155)] h2 (fun v_2 h3 => ∃ (t156 : OA) (t156n t156c : Nat), v_2 = (.slice t156 t156n t156c) ∧
 J8 r1 f4 t156 t156n t156c Q h3))) (
 J8 r1 f4 b7 b7n b7c Q h1)) h) : J7 r1 f4 b7 b7n b7c Q h := by unfold J7; exact Jn.of_txt (an 4095) (by kernel_rfl) H
theorem J8_of {r1 f4 : Addr} {b7 : OA} {b7n b7c : Nat} {Q : VP} {h : Heap} (H :
 hwp PP (Instr.indexAt T_7_bool (.pointer (some f4)) (.int .i64 6)) (fun v h1 => ∃ (t157 : Addr), v = (.pointer (some t157)) ∧
 ∃ (t158 : Bool), cellH h1 t157 = some (.bool t158) ∧
 br t158 (
 ∃ (t161 : ByteArray), cellH h1 (Addr.add r1 7) = some (.string t161) ∧
 SpecH PP F_ref19_text [(.slice b7 b7n b7c), (.string t161)] h1 (fun v_1 h2 => ∃ (t162 : OA) (t162n t162c : Nat), v_1 = (.slice t162 t162n t162c) ∧
 J9 t162 t162n t162c Q h2)) (
 J9 b7 b7n b7c Q h1)) h) : J8 r1 f4 b7 b7n b7c Q h := by unfold J8; exact Jn.of_txt (an 8191) (by kernel_rfl) H
theorem J9_of {b7 : OA} {b7n b7c : Nat} {Q : VP} {h : Heap} (H :
 Q (.tuple #[(.slice b7 b7n b7c), (.int .i64 0)]) h) : J9 b7 b7n b7c Q h := by unfold J9; exact Jn.of_txt (an 16383) (by kernel_rfl) H
theorem door {r0f0 r0f1 : Int} {r0f2 r0f3 r0f4 : ByteArray} {r0f5 r0f6 : Int} {r0f7 : ByteArray} {Q : VP} {h : Heap} (H :
 let r1 : Addr := ⟨Array.size h, 0, none⟩
 let h1 : Heap := Array.push h (.cells #[(.int .i64 r0f0), (.int .i64 r0f1), (.string r0f2), (.string r0f3), (.string r0f4), (.int .i64 r0f5), (.int .i64 r0f6), (.string r0f7)] T_api_Request (0, 0))
 ∃ (t10 : Int), cellH h1 r1 = some (.int .i64 t10) ∧
 SpecH PP F_ref19_fields [(.int .i64 t10)] h1 (fun v h2 => ∃ (t11f0 t11f1 t11f2 t11f3 t11f4 t11f5 t11f6 t11_1 : Bool), v = (.tuple #[(.agg #[(.bool t11f0), (.bool t11f1), (.bool t11f2), (.bool t11f3), (.bool t11f4), (.bool t11f5), (.bool t11f6)]), (.bool t11_1)]) ∧
 let f4 : Addr := ⟨Array.size h2, 0, none⟩
 let h3 : Heap := Array.push h2 (.cells #[(.bool false), (.bool false), (.bool false), (.bool false), (.bool false), (.bool false), (.bool false)] T_7_bool (0, 0))
 wrCells f4 0 [(.bool t11f0), (.bool t11f1), (.bool t11f2), (.bool t11f3), (.bool t11f4), (.bool t11f5), (.bool t11f6)] (fun h4 =>
 let t15 : Bool := (!t11_1)
 br t15 (
 Q (.tuple #[(.slice none 0 0), (.int .i64 191)]) h4) (
 hwp PP (Instr.indexAt T_7_bool (.pointer (some f4)) (.int .i64 0)) (fun v_1 h5 => ∃ (t16 : Addr), v_1 = (.pointer (some t16)) ∧
 ∃ (t17 : Bool), cellH h5 t16 = some (.bool t17) ∧
 br t17 (
 hwp PP (Instr.indexAt T_7_bool (.pointer (some f4)) (.int .i64 1)) (fun v_2 h6 => ∃ (t24 : Addr), v_2 = (.pointer (some t24)) ∧
 ∃ (t25 : Bool), cellH h6 t24 = some (.bool t25) ∧
 br t25 (
 hwp PP (Instr.indexAt T_7_bool (.pointer (some f4)) (.int .i64 2)) (fun v_3 h7 => ∃ (t33 : Addr), v_3 = (.pointer (some t33)) ∧
 ∃ (t34 : Bool), cellH h7 t33 = some (.bool t34) ∧
 br t34 (
 hwp PP (Instr.indexAt T_7_bool (.pointer (some f4)) (.int .i64 3)) (fun v_4 h8 => ∃ (t42 : Addr), v_4 = (.pointer (some t42)) ∧
 ∃ (t43 : Bool), cellH h8 t42 = some (.bool t43) ∧
 br t43 (
 hwp PP (Instr.indexAt T_7_bool (.pointer (some f4)) (.int .i64 4)) (fun v_5 h9 => ∃ (t51 : Addr), v_5 = (.pointer (some t51)) ∧
 ∃ (t52 : Bool), cellH h9 t51 = some (.bool t52) ∧
 br t52 (
 hwp PP (Instr.indexAt T_7_bool (.pointer (some f4)) (.int .i64 5)) (fun v_6 h10 => ∃ (t60 : Addr), v_6 = (.pointer (some t60)) ∧
 ∃ (t61 : Bool), cellH h10 t60 = some (.bool t61) ∧
 br t61 (
 hwp PP (Instr.indexAt T_7_bool (.pointer (some f4)) (.int .i64 6)) (fun v_7 h11 => ∃ (t69 : Addr), v_7 = (.pointer (some t69)) ∧
 ∃ (t70 : Bool), cellH h11 t69 = some (.bool t70) ∧
 br t70 (
 J1 r1 f4 true Q h11) (
 ∃ (t73 : ByteArray), cellH h11 (Addr.add r1 7) = some (.string t73) ∧
 let t74 : Bool := decide (t73 = (⟨#[]⟩ : ByteArray))
 J1 r1 f4 t74 Q h11)) h10) (
 ∃ (t64 : Int), cellH h10 (Addr.add r1 6) = some (.int .i64 t64) ∧
 let t65 : Bool := (t64 == 0)
 br t65 (
 hwp PP (Instr.indexAt T_7_bool (.pointer (some f4)) (.int .i64 6)) (fun v_8 h12 => ∃ (t69_1 : Addr), v_8 = (.pointer (some t69_1)) ∧
 ∃ (t70_1 : Bool), cellH h12 t69_1 = some (.bool t70_1) ∧
 br t70_1 (
 J1 r1 f4 true Q h12) (
 ∃ (t73_1 : ByteArray), cellH h12 (Addr.add r1 7) = some (.string t73_1) ∧
 let t74_1 : Bool := decide (t73_1 = (⟨#[]⟩ : ByteArray))
 J1 r1 f4 t74_1 Q h12)) h10) (
 J1 r1 f4 false Q h10))) h9) (
 ∃ (t55 : Int), cellH h9 (Addr.add r1 5) = some (.int .i64 t55) ∧
 let t56 : Bool := (t55 == 0)
 br t56 (
 hwp PP (Instr.indexAt T_7_bool (.pointer (some f4)) (.int .i64 5)) (fun v_9 h13 => ∃ (t60_1 : Addr), v_9 = (.pointer (some t60_1)) ∧
 ∃ (t61_1 : Bool), cellH h13 t60_1 = some (.bool t61_1) ∧
 br t61_1 (
 hwp PP (Instr.indexAt T_7_bool (.pointer (some f4)) (.int .i64 6)) (fun v_10 h14 => ∃ (t69_2 : Addr), v_10 = (.pointer (some t69_2)) ∧
 ∃ (t70_2 : Bool), cellH h14 t69_2 = some (.bool t70_2) ∧
 br t70_2 (
 J1 r1 f4 true Q h14) (
 ∃ (t73_2 : ByteArray), cellH h14 (Addr.add r1 7) = some (.string t73_2) ∧
 let t74_2 : Bool := decide (t73_2 = (⟨#[]⟩ : ByteArray))
 J1 r1 f4 t74_2 Q h14)) h13) (
 ∃ (t64_1 : Int), cellH h13 (Addr.add r1 6) = some (.int .i64 t64_1) ∧
 let t65_1 : Bool := (t64_1 == 0)
 br t65_1 (
 hwp PP (Instr.indexAt T_7_bool (.pointer (some f4)) (.int .i64 6)) (fun v_11 h15 => ∃ (t69_3 : Addr), v_11 = (.pointer (some t69_3)) ∧
 ∃ (t70_3 : Bool), cellH h15 t69_3 = some (.bool t70_3) ∧
 br t70_3 (
 J1 r1 f4 true Q h15) (
 ∃ (t73_3 : ByteArray), cellH h15 (Addr.add r1 7) = some (.string t73_3) ∧
 let t74_3 : Bool := decide (t73_3 = (⟨#[]⟩ : ByteArray))
 J1 r1 f4 t74_3 Q h15)) h13) (
 J1 r1 f4 false Q h13))) h9) (
 J1 r1 f4 false Q h9))) h8) (
 ∃ (t46 : ByteArray), cellH h8 (Addr.add r1 4) = some (.string t46) ∧
 let t47 : Bool := decide (t46 = (⟨#[]⟩ : ByteArray))
 br t47 (
 hwp PP (Instr.indexAt T_7_bool (.pointer (some f4)) (.int .i64 4)) (fun v_12 h16 => ∃ (t51_1 : Addr), v_12 = (.pointer (some t51_1)) ∧
 ∃ (t52_1 : Bool), cellH h16 t51_1 = some (.bool t52_1) ∧
 br t52_1 (
 hwp PP (Instr.indexAt T_7_bool (.pointer (some f4)) (.int .i64 5)) (fun v_13 h17 => ∃ (t60_2 : Addr), v_13 = (.pointer (some t60_2)) ∧
 ∃ (t61_2 : Bool), cellH h17 t60_2 = some (.bool t61_2) ∧
 br t61_2 (
 hwp PP (Instr.indexAt T_7_bool (.pointer (some f4)) (.int .i64 6)) (fun v_14 h18 => ∃ (t69_4 : Addr), v_14 = (.pointer (some t69_4)) ∧
 ∃ (t70_4 : Bool), cellH h18 t69_4 = some (.bool t70_4) ∧
 br t70_4 (
 J1 r1 f4 true Q h18) (
 ∃ (t73_4 : ByteArray), cellH h18 (Addr.add r1 7) = some (.string t73_4) ∧
 let t74_4 : Bool := decide (t73_4 = (⟨#[]⟩ : ByteArray))
 J1 r1 f4 t74_4 Q h18)) h17) (
 ∃ (t64_2 : Int), cellH h17 (Addr.add r1 6) = some (.int .i64 t64_2) ∧
 let t65_2 : Bool := (t64_2 == 0)
 br t65_2 (
 hwp PP (Instr.indexAt T_7_bool (.pointer (some f4)) (.int .i64 6)) (fun v_15 h19 => ∃ (t69_5 : Addr), v_15 = (.pointer (some t69_5)) ∧
 ∃ (t70_5 : Bool), cellH h19 t69_5 = some (.bool t70_5) ∧
 br t70_5 (
 J1 r1 f4 true Q h19) (
 ∃ (t73_5 : ByteArray), cellH h19 (Addr.add r1 7) = some (.string t73_5) ∧
 let t74_5 : Bool := decide (t73_5 = (⟨#[]⟩ : ByteArray))
 J1 r1 f4 t74_5 Q h19)) h17) (
 J1 r1 f4 false Q h17))) h16) (
 ∃ (t55_1 : Int), cellH h16 (Addr.add r1 5) = some (.int .i64 t55_1) ∧
 let t56_1 : Bool := (t55_1 == 0)
 br t56_1 (
 hwp PP (Instr.indexAt T_7_bool (.pointer (some f4)) (.int .i64 5)) (fun v_16 h20 => ∃ (t60_3 : Addr), v_16 = (.pointer (some t60_3)) ∧
 ∃ (t61_3 : Bool), cellH h20 t60_3 = some (.bool t61_3) ∧
 br t61_3 (
 hwp PP (Instr.indexAt T_7_bool (.pointer (some f4)) (.int .i64 6)) (fun v_17 h21 => ∃ (t69_6 : Addr), v_17 = (.pointer (some t69_6)) ∧
 ∃ (t70_6 : Bool), cellH h21 t69_6 = some (.bool t70_6) ∧
 br t70_6 (
 J1 r1 f4 true Q h21) (
 ∃ (t73_6 : ByteArray), cellH h21 (Addr.add r1 7) = some (.string t73_6) ∧
 let t74_6 : Bool := decide (t73_6 = (⟨#[]⟩ : ByteArray))
 J1 r1 f4 t74_6 Q h21)) h20) (
 ∃ (t64_3 : Int), cellH h20 (Addr.add r1 6) = some (.int .i64 t64_3) ∧
 let t65_3 : Bool := (t64_3 == 0)
 br t65_3 (
 hwp PP (Instr.indexAt T_7_bool (.pointer (some f4)) (.int .i64 6)) (fun v_18 h22 => ∃ (t69_7 : Addr), v_18 = (.pointer (some t69_7)) ∧
 ∃ (t70_7 : Bool), cellH h22 t69_7 = some (.bool t70_7) ∧
 br t70_7 (
 J1 r1 f4 true Q h22) (
 ∃ (t73_7 : ByteArray), cellH h22 (Addr.add r1 7) = some (.string t73_7) ∧
 let t74_7 : Bool := decide (t73_7 = (⟨#[]⟩ : ByteArray))
 J1 r1 f4 t74_7 Q h22)) h20) (
 J1 r1 f4 false Q h20))) h16) (
 J1 r1 f4 false Q h16))) h8) (
 J1 r1 f4 false Q h8))) h7) (
 ∃ (t37 : ByteArray), cellH h7 (Addr.add r1 3) = some (.string t37) ∧
 let t38 : Bool := decide (t37 = (⟨#[]⟩ : ByteArray))
 br t38 (
 hwp PP (Instr.indexAt T_7_bool (.pointer (some f4)) (.int .i64 3)) (fun v_19 h23 => ∃ (t42_1 : Addr), v_19 = (.pointer (some t42_1)) ∧
 ∃ (t43_1 : Bool), cellH h23 t42_1 = some (.bool t43_1) ∧
 br t43_1 (
 hwp PP (Instr.indexAt T_7_bool (.pointer (some f4)) (.int .i64 4)) (fun v_20 h24 => ∃ (t51_2 : Addr), v_20 = (.pointer (some t51_2)) ∧
 ∃ (t52_2 : Bool), cellH h24 t51_2 = some (.bool t52_2) ∧
 br t52_2 (
 hwp PP (Instr.indexAt T_7_bool (.pointer (some f4)) (.int .i64 5)) (fun v_21 h25 => ∃ (t60_4 : Addr), v_21 = (.pointer (some t60_4)) ∧
 ∃ (t61_4 : Bool), cellH h25 t60_4 = some (.bool t61_4) ∧
 br t61_4 (
 hwp PP (Instr.indexAt T_7_bool (.pointer (some f4)) (.int .i64 6)) (fun v_22 h26 => ∃ (t69_8 : Addr), v_22 = (.pointer (some t69_8)) ∧
 ∃ (t70_8 : Bool), cellH h26 t69_8 = some (.bool t70_8) ∧
 br t70_8 (
 J1 r1 f4 true Q h26) (
 ∃ (t73_8 : ByteArray), cellH h26 (Addr.add r1 7) = some (.string t73_8) ∧
 let t74_8 : Bool := decide (t73_8 = (⟨#[]⟩ : ByteArray))
 J1 r1 f4 t74_8 Q h26)) h25) (
 ∃ (t64_4 : Int), cellH h25 (Addr.add r1 6) = some (.int .i64 t64_4) ∧
 let t65_4 : Bool := (t64_4 == 0)
 br t65_4 (
 hwp PP (Instr.indexAt T_7_bool (.pointer (some f4)) (.int .i64 6)) (fun v_23 h27 => ∃ (t69_9 : Addr), v_23 = (.pointer (some t69_9)) ∧
 ∃ (t70_9 : Bool), cellH h27 t69_9 = some (.bool t70_9) ∧
 br t70_9 (
 J1 r1 f4 true Q h27) (
 ∃ (t73_9 : ByteArray), cellH h27 (Addr.add r1 7) = some (.string t73_9) ∧
 let t74_9 : Bool := decide (t73_9 = (⟨#[]⟩ : ByteArray))
 J1 r1 f4 t74_9 Q h27)) h25) (
 J1 r1 f4 false Q h25))) h24) (
 ∃ (t55_2 : Int), cellH h24 (Addr.add r1 5) = some (.int .i64 t55_2) ∧
 let t56_2 : Bool := (t55_2 == 0)
 br t56_2 (
 hwp PP (Instr.indexAt T_7_bool (.pointer (some f4)) (.int .i64 5)) (fun v_24 h28 => ∃ (t60_5 : Addr), v_24 = (.pointer (some t60_5)) ∧
 ∃ (t61_5 : Bool), cellH h28 t60_5 = some (.bool t61_5) ∧
 br t61_5 (
 hwp PP (Instr.indexAt T_7_bool (.pointer (some f4)) (.int .i64 6)) (fun v_25 h29 => ∃ (t69_10 : Addr), v_25 = (.pointer (some t69_10)) ∧
 ∃ (t70_10 : Bool), cellH h29 t69_10 = some (.bool t70_10) ∧
 br t70_10 (
 J1 r1 f4 true Q h29) (
 ∃ (t73_10 : ByteArray), cellH h29 (Addr.add r1 7) = some (.string t73_10) ∧
 let t74_10 : Bool := decide (t73_10 = (⟨#[]⟩ : ByteArray))
 J1 r1 f4 t74_10 Q h29)) h28) (
 ∃ (t64_5 : Int), cellH h28 (Addr.add r1 6) = some (.int .i64 t64_5) ∧
 let t65_5 : Bool := (t64_5 == 0)
 br t65_5 (
 hwp PP (Instr.indexAt T_7_bool (.pointer (some f4)) (.int .i64 6)) (fun v_26 h30 => ∃ (t69_11 : Addr), v_26 = (.pointer (some t69_11)) ∧
 ∃ (t70_11 : Bool), cellH h30 t69_11 = some (.bool t70_11) ∧
 br t70_11 (
 J1 r1 f4 true Q h30) (
 ∃ (t73_11 : ByteArray), cellH h30 (Addr.add r1 7) = some (.string t73_11) ∧
 let t74_11 : Bool := decide (t73_11 = (⟨#[]⟩ : ByteArray))
 J1 r1 f4 t74_11 Q h30)) h28) (
 J1 r1 f4 false Q h28))) h24) (
 J1 r1 f4 false Q h24))) h23) (
 ∃ (t46_1 : ByteArray), cellH h23 (Addr.add r1 4) = some (.string t46_1) ∧
 let t47_1 : Bool := decide (t46_1 = (⟨#[]⟩ : ByteArray))
 br t47_1 (
 hwp PP (Instr.indexAt T_7_bool (.pointer (some f4)) (.int .i64 4)) (fun v_27 h31 => ∃ (t51_3 : Addr), v_27 = (.pointer (some t51_3)) ∧
 ∃ (t52_3 : Bool), cellH h31 t51_3 = some (.bool t52_3) ∧
 br t52_3 (
 hwp PP (Instr.indexAt T_7_bool (.pointer (some f4)) (.int .i64 5)) (fun v_28 h32 => ∃ (t60_6 : Addr), v_28 = (.pointer (some t60_6)) ∧
 ∃ (t61_6 : Bool), cellH h32 t60_6 = some (.bool t61_6) ∧
 br t61_6 (
 hwp PP (Instr.indexAt T_7_bool (.pointer (some f4)) (.int .i64 6)) (fun v_29 h33 => ∃ (t69_12 : Addr), v_29 = (.pointer (some t69_12)) ∧
 ∃ (t70_12 : Bool), cellH h33 t69_12 = some (.bool t70_12) ∧
 br t70_12 (
 J1 r1 f4 true Q h33) (
 ∃ (t73_12 : ByteArray), cellH h33 (Addr.add r1 7) = some (.string t73_12) ∧
 let t74_12 : Bool := decide (t73_12 = (⟨#[]⟩ : ByteArray))
 J1 r1 f4 t74_12 Q h33)) h32) (
 ∃ (t64_6 : Int), cellH h32 (Addr.add r1 6) = some (.int .i64 t64_6) ∧
 let t65_6 : Bool := (t64_6 == 0)
 br t65_6 (
 hwp PP (Instr.indexAt T_7_bool (.pointer (some f4)) (.int .i64 6)) (fun v_30 h34 => ∃ (t69_13 : Addr), v_30 = (.pointer (some t69_13)) ∧
 ∃ (t70_13 : Bool), cellH h34 t69_13 = some (.bool t70_13) ∧
 br t70_13 (
 J1 r1 f4 true Q h34) (
 ∃ (t73_13 : ByteArray), cellH h34 (Addr.add r1 7) = some (.string t73_13) ∧
 let t74_13 : Bool := decide (t73_13 = (⟨#[]⟩ : ByteArray))
 J1 r1 f4 t74_13 Q h34)) h32) (
 J1 r1 f4 false Q h32))) h31) (
 ∃ (t55_3 : Int), cellH h31 (Addr.add r1 5) = some (.int .i64 t55_3) ∧
 let t56_3 : Bool := (t55_3 == 0)
 br t56_3 (
 hwp PP (Instr.indexAt T_7_bool (.pointer (some f4)) (.int .i64 5)) (fun v_31 h35 => ∃ (t60_7 : Addr), v_31 = (.pointer (some t60_7)) ∧
 ∃ (t61_7 : Bool), cellH h35 t60_7 = some (.bool t61_7) ∧
 br t61_7 (
 hwp PP (Instr.indexAt T_7_bool (.pointer (some f4)) (.int .i64 6)) (fun v_32 h36 => ∃ (t69_14 : Addr), v_32 = (.pointer (some t69_14)) ∧
 ∃ (t70_14 : Bool), cellH h36 t69_14 = some (.bool t70_14) ∧
 br t70_14 (
 J1 r1 f4 true Q h36) (
 ∃ (t73_14 : ByteArray), cellH h36 (Addr.add r1 7) = some (.string t73_14) ∧
 let t74_14 : Bool := decide (t73_14 = (⟨#[]⟩ : ByteArray))
 J1 r1 f4 t74_14 Q h36)) h35) (
 ∃ (t64_7 : Int), cellH h35 (Addr.add r1 6) = some (.int .i64 t64_7) ∧
 let t65_7 : Bool := (t64_7 == 0)
 br t65_7 (
 hwp PP (Instr.indexAt T_7_bool (.pointer (some f4)) (.int .i64 6)) (fun v_33 h37 => ∃ (t69_15 : Addr), v_33 = (.pointer (some t69_15)) ∧
 ∃ (t70_15 : Bool), cellH h37 t69_15 = some (.bool t70_15) ∧
 br t70_15 (
 J1 r1 f4 true Q h37) (
 ∃ (t73_15 : ByteArray), cellH h37 (Addr.add r1 7) = some (.string t73_15) ∧
 let t74_15 : Bool := decide (t73_15 = (⟨#[]⟩ : ByteArray))
 J1 r1 f4 t74_15 Q h37)) h35) (
 J1 r1 f4 false Q h35))) h31) (
 J1 r1 f4 false Q h31))) h23) (
 J1 r1 f4 false Q h23))) h7) (
 J1 r1 f4 false Q h7))) h6) (
 ∃ (t28 : ByteArray), cellH h6 (Addr.add r1 2) = some (.string t28) ∧
 let t29 : Bool := decide (t28 = (⟨#[]⟩ : ByteArray))
 br t29 (
 hwp PP (Instr.indexAt T_7_bool (.pointer (some f4)) (.int .i64 2)) (fun v_34 h38 => ∃ (t33_1 : Addr), v_34 = (.pointer (some t33_1)) ∧
 ∃ (t34_1 : Bool), cellH h38 t33_1 = some (.bool t34_1) ∧
 br t34_1 (
 hwp PP (Instr.indexAt T_7_bool (.pointer (some f4)) (.int .i64 3)) (fun v_35 h39 => ∃ (t42_2 : Addr), v_35 = (.pointer (some t42_2)) ∧
 ∃ (t43_2 : Bool), cellH h39 t42_2 = some (.bool t43_2) ∧
 br t43_2 (
 hwp PP (Instr.indexAt T_7_bool (.pointer (some f4)) (.int .i64 4)) (fun v_36 h40 => ∃ (t51_4 : Addr), v_36 = (.pointer (some t51_4)) ∧
 ∃ (t52_4 : Bool), cellH h40 t51_4 = some (.bool t52_4) ∧
 br t52_4 (
 hwp PP (Instr.indexAt T_7_bool (.pointer (some f4)) (.int .i64 5)) (fun v_37 h41 => ∃ (t60_8 : Addr), v_37 = (.pointer (some t60_8)) ∧
 ∃ (t61_8 : Bool), cellH h41 t60_8 = some (.bool t61_8) ∧
 br t61_8 (
 hwp PP (Instr.indexAt T_7_bool (.pointer (some f4)) (.int .i64 6)) (fun v_38 h42 => ∃ (t69_16 : Addr), v_38 = (.pointer (some t69_16)) ∧
 ∃ (t70_16 : Bool), cellH h42 t69_16 = some (.bool t70_16) ∧
 br t70_16 (
 J1 r1 f4 true Q h42) (
 ∃ (t73_16 : ByteArray), cellH h42 (Addr.add r1 7) = some (.string t73_16) ∧
 let t74_16 : Bool := decide (t73_16 = (⟨#[]⟩ : ByteArray))
 J1 r1 f4 t74_16 Q h42)) h41) (
 ∃ (t64_8 : Int), cellH h41 (Addr.add r1 6) = some (.int .i64 t64_8) ∧
 let t65_8 : Bool := (t64_8 == 0)
 br t65_8 (
 hwp PP (Instr.indexAt T_7_bool (.pointer (some f4)) (.int .i64 6)) (fun v_39 h43 => ∃ (t69_17 : Addr), v_39 = (.pointer (some t69_17)) ∧
 ∃ (t70_17 : Bool), cellH h43 t69_17 = some (.bool t70_17) ∧
 br t70_17 (
 J1 r1 f4 true Q h43) (
 ∃ (t73_17 : ByteArray), cellH h43 (Addr.add r1 7) = some (.string t73_17) ∧
 let t74_17 : Bool := decide (t73_17 = (⟨#[]⟩ : ByteArray))
 J1 r1 f4 t74_17 Q h43)) h41) (
 J1 r1 f4 false Q h41))) h40) (
 ∃ (t55_4 : Int), cellH h40 (Addr.add r1 5) = some (.int .i64 t55_4) ∧
 let t56_4 : Bool := (t55_4 == 0)
 br t56_4 (
 hwp PP (Instr.indexAt T_7_bool (.pointer (some f4)) (.int .i64 5)) (fun v_40 h44 => ∃ (t60_9 : Addr), v_40 = (.pointer (some t60_9)) ∧
 ∃ (t61_9 : Bool), cellH h44 t60_9 = some (.bool t61_9) ∧
 br t61_9 (
 hwp PP (Instr.indexAt T_7_bool (.pointer (some f4)) (.int .i64 6)) (fun v_41 h45 => ∃ (t69_18 : Addr), v_41 = (.pointer (some t69_18)) ∧
 ∃ (t70_18 : Bool), cellH h45 t69_18 = some (.bool t70_18) ∧
 br t70_18 (
 J1 r1 f4 true Q h45) (
 ∃ (t73_18 : ByteArray), cellH h45 (Addr.add r1 7) = some (.string t73_18) ∧
 let t74_18 : Bool := decide (t73_18 = (⟨#[]⟩ : ByteArray))
 J1 r1 f4 t74_18 Q h45)) h44) (
 ∃ (t64_9 : Int), cellH h44 (Addr.add r1 6) = some (.int .i64 t64_9) ∧
 let t65_9 : Bool := (t64_9 == 0)
 br t65_9 (
 hwp PP (Instr.indexAt T_7_bool (.pointer (some f4)) (.int .i64 6)) (fun v_42 h46 => ∃ (t69_19 : Addr), v_42 = (.pointer (some t69_19)) ∧
 ∃ (t70_19 : Bool), cellH h46 t69_19 = some (.bool t70_19) ∧
 br t70_19 (
 J1 r1 f4 true Q h46) (
 ∃ (t73_19 : ByteArray), cellH h46 (Addr.add r1 7) = some (.string t73_19) ∧
 let t74_19 : Bool := decide (t73_19 = (⟨#[]⟩ : ByteArray))
 J1 r1 f4 t74_19 Q h46)) h44) (
 J1 r1 f4 false Q h44))) h40) (
 J1 r1 f4 false Q h40))) h39) (
 ∃ (t46_2 : ByteArray), cellH h39 (Addr.add r1 4) = some (.string t46_2) ∧
 let t47_2 : Bool := decide (t46_2 = (⟨#[]⟩ : ByteArray))
 br t47_2 (
 hwp PP (Instr.indexAt T_7_bool (.pointer (some f4)) (.int .i64 4)) (fun v_43 h47 => ∃ (t51_5 : Addr), v_43 = (.pointer (some t51_5)) ∧
 ∃ (t52_5 : Bool), cellH h47 t51_5 = some (.bool t52_5) ∧
 br t52_5 (
 hwp PP (Instr.indexAt T_7_bool (.pointer (some f4)) (.int .i64 5)) (fun v_44 h48 => ∃ (t60_10 : Addr), v_44 = (.pointer (some t60_10)) ∧
 ∃ (t61_10 : Bool), cellH h48 t60_10 = some (.bool t61_10) ∧
 br t61_10 (
 hwp PP (Instr.indexAt T_7_bool (.pointer (some f4)) (.int .i64 6)) (fun v_45 h49 => ∃ (t69_20 : Addr), v_45 = (.pointer (some t69_20)) ∧
 ∃ (t70_20 : Bool), cellH h49 t69_20 = some (.bool t70_20) ∧
 br t70_20 (
 J1 r1 f4 true Q h49) (
 ∃ (t73_20 : ByteArray), cellH h49 (Addr.add r1 7) = some (.string t73_20) ∧
 let t74_20 : Bool := decide (t73_20 = (⟨#[]⟩ : ByteArray))
 J1 r1 f4 t74_20 Q h49)) h48) (
 ∃ (t64_10 : Int), cellH h48 (Addr.add r1 6) = some (.int .i64 t64_10) ∧
 let t65_10 : Bool := (t64_10 == 0)
 br t65_10 (
 hwp PP (Instr.indexAt T_7_bool (.pointer (some f4)) (.int .i64 6)) (fun v_46 h50 => ∃ (t69_21 : Addr), v_46 = (.pointer (some t69_21)) ∧
 ∃ (t70_21 : Bool), cellH h50 t69_21 = some (.bool t70_21) ∧
 br t70_21 (
 J1 r1 f4 true Q h50) (
 ∃ (t73_21 : ByteArray), cellH h50 (Addr.add r1 7) = some (.string t73_21) ∧
 let t74_21 : Bool := decide (t73_21 = (⟨#[]⟩ : ByteArray))
 J1 r1 f4 t74_21 Q h50)) h48) (
 J1 r1 f4 false Q h48))) h47) (
 ∃ (t55_5 : Int), cellH h47 (Addr.add r1 5) = some (.int .i64 t55_5) ∧
 let t56_5 : Bool := (t55_5 == 0)
 br t56_5 (
 hwp PP (Instr.indexAt T_7_bool (.pointer (some f4)) (.int .i64 5)) (fun v_47 h51 => ∃ (t60_11 : Addr), v_47 = (.pointer (some t60_11)) ∧
 ∃ (t61_11 : Bool), cellH h51 t60_11 = some (.bool t61_11) ∧
 br t61_11 (
 hwp PP (Instr.indexAt T_7_bool (.pointer (some f4)) (.int .i64 6)) (fun v_48 h52 => ∃ (t69_22 : Addr), v_48 = (.pointer (some t69_22)) ∧
 ∃ (t70_22 : Bool), cellH h52 t69_22 = some (.bool t70_22) ∧
 br t70_22 (
 J1 r1 f4 true Q h52) (
 ∃ (t73_22 : ByteArray), cellH h52 (Addr.add r1 7) = some (.string t73_22) ∧
 let t74_22 : Bool := decide (t73_22 = (⟨#[]⟩ : ByteArray))
 J1 r1 f4 t74_22 Q h52)) h51) (
 ∃ (t64_11 : Int), cellH h51 (Addr.add r1 6) = some (.int .i64 t64_11) ∧
 let t65_11 : Bool := (t64_11 == 0)
 br t65_11 (
 hwp PP (Instr.indexAt T_7_bool (.pointer (some f4)) (.int .i64 6)) (fun v_49 h53 => ∃ (t69_23 : Addr), v_49 = (.pointer (some t69_23)) ∧
 ∃ (t70_23 : Bool), cellH h53 t69_23 = some (.bool t70_23) ∧
 br t70_23 (
 J1 r1 f4 true Q h53) (
 ∃ (t73_23 : ByteArray), cellH h53 (Addr.add r1 7) = some (.string t73_23) ∧
 let t74_23 : Bool := decide (t73_23 = (⟨#[]⟩ : ByteArray))
 J1 r1 f4 t74_23 Q h53)) h51) (
 J1 r1 f4 false Q h51))) h47) (
 J1 r1 f4 false Q h47))) h39) (
 J1 r1 f4 false Q h39))) h38) (
 ∃ (t37_1 : ByteArray), cellH h38 (Addr.add r1 3) = some (.string t37_1) ∧
 let t38_1 : Bool := decide (t37_1 = (⟨#[]⟩ : ByteArray))
 br t38_1 (
 hwp PP (Instr.indexAt T_7_bool (.pointer (some f4)) (.int .i64 3)) (fun v_50 h54 => ∃ (t42_3 : Addr), v_50 = (.pointer (some t42_3)) ∧
 ∃ (t43_3 : Bool), cellH h54 t42_3 = some (.bool t43_3) ∧
 br t43_3 (
 hwp PP (Instr.indexAt T_7_bool (.pointer (some f4)) (.int .i64 4)) (fun v_51 h55 => ∃ (t51_6 : Addr), v_51 = (.pointer (some t51_6)) ∧
 ∃ (t52_6 : Bool), cellH h55 t51_6 = some (.bool t52_6) ∧
 br t52_6 (
 hwp PP (Instr.indexAt T_7_bool (.pointer (some f4)) (.int .i64 5)) (fun v_52 h56 => ∃ (t60_12 : Addr), v_52 = (.pointer (some t60_12)) ∧
 ∃ (t61_12 : Bool), cellH h56 t60_12 = some (.bool t61_12) ∧
 br t61_12 (
 hwp PP (Instr.indexAt T_7_bool (.pointer (some f4)) (.int .i64 6)) (fun v_53 h57 => ∃ (t69_24 : Addr), v_53 = (.pointer (some t69_24)) ∧
 ∃ (t70_24 : Bool), cellH h57 t69_24 = some (.bool t70_24) ∧
 br t70_24 (
 J1 r1 f4 true Q h57) (
 ∃ (t73_24 : ByteArray), cellH h57 (Addr.add r1 7) = some (.string t73_24) ∧
 let t74_24 : Bool := decide (t73_24 = (⟨#[]⟩ : ByteArray))
 J1 r1 f4 t74_24 Q h57)) h56) (
 ∃ (t64_12 : Int), cellH h56 (Addr.add r1 6) = some (.int .i64 t64_12) ∧
 let t65_12 : Bool := (t64_12 == 0)
 br t65_12 (
 hwp PP (Instr.indexAt T_7_bool (.pointer (some f4)) (.int .i64 6)) (fun v_54 h58 => ∃ (t69_25 : Addr), v_54 = (.pointer (some t69_25)) ∧
 ∃ (t70_25 : Bool), cellH h58 t69_25 = some (.bool t70_25) ∧
 br t70_25 (
 J1 r1 f4 true Q h58) (
 ∃ (t73_25 : ByteArray), cellH h58 (Addr.add r1 7) = some (.string t73_25) ∧
 let t74_25 : Bool := decide (t73_25 = (⟨#[]⟩ : ByteArray))
 J1 r1 f4 t74_25 Q h58)) h56) (
 J1 r1 f4 false Q h56))) h55) (
 ∃ (t55_6 : Int), cellH h55 (Addr.add r1 5) = some (.int .i64 t55_6) ∧
 let t56_6 : Bool := (t55_6 == 0)
 br t56_6 (
 hwp PP (Instr.indexAt T_7_bool (.pointer (some f4)) (.int .i64 5)) (fun v_55 h59 => ∃ (t60_13 : Addr), v_55 = (.pointer (some t60_13)) ∧
 ∃ (t61_13 : Bool), cellH h59 t60_13 = some (.bool t61_13) ∧
 br t61_13 (
 hwp PP (Instr.indexAt T_7_bool (.pointer (some f4)) (.int .i64 6)) (fun v_56 h60 => ∃ (t69_26 : Addr), v_56 = (.pointer (some t69_26)) ∧
 ∃ (t70_26 : Bool), cellH h60 t69_26 = some (.bool t70_26) ∧
 br t70_26 (
 J1 r1 f4 true Q h60) (
 ∃ (t73_26 : ByteArray), cellH h60 (Addr.add r1 7) = some (.string t73_26) ∧
 let t74_26 : Bool := decide (t73_26 = (⟨#[]⟩ : ByteArray))
 J1 r1 f4 t74_26 Q h60)) h59) (
 ∃ (t64_13 : Int), cellH h59 (Addr.add r1 6) = some (.int .i64 t64_13) ∧
 let t65_13 : Bool := (t64_13 == 0)
 br t65_13 (
 hwp PP (Instr.indexAt T_7_bool (.pointer (some f4)) (.int .i64 6)) (fun v_57 h61 => ∃ (t69_27 : Addr), v_57 = (.pointer (some t69_27)) ∧
 ∃ (t70_27 : Bool), cellH h61 t69_27 = some (.bool t70_27) ∧
 br t70_27 (
 J1 r1 f4 true Q h61) (
 ∃ (t73_27 : ByteArray), cellH h61 (Addr.add r1 7) = some (.string t73_27) ∧
 let t74_27 : Bool := decide (t73_27 = (⟨#[]⟩ : ByteArray))
 J1 r1 f4 t74_27 Q h61)) h59) (
 J1 r1 f4 false Q h59))) h55) (
 J1 r1 f4 false Q h55))) h54) (
 ∃ (t46_3 : ByteArray), cellH h54 (Addr.add r1 4) = some (.string t46_3) ∧
 let t47_3 : Bool := decide (t46_3 = (⟨#[]⟩ : ByteArray))
 br t47_3 (
 hwp PP (Instr.indexAt T_7_bool (.pointer (some f4)) (.int .i64 4)) (fun v_58 h62 => ∃ (t51_7 : Addr), v_58 = (.pointer (some t51_7)) ∧
 ∃ (t52_7 : Bool), cellH h62 t51_7 = some (.bool t52_7) ∧
 br t52_7 (
 hwp PP (Instr.indexAt T_7_bool (.pointer (some f4)) (.int .i64 5)) (fun v_59 h63 => ∃ (t60_14 : Addr), v_59 = (.pointer (some t60_14)) ∧
 ∃ (t61_14 : Bool), cellH h63 t60_14 = some (.bool t61_14) ∧
 br t61_14 (
 hwp PP (Instr.indexAt T_7_bool (.pointer (some f4)) (.int .i64 6)) (fun v_60 h64 => ∃ (t69_28 : Addr), v_60 = (.pointer (some t69_28)) ∧
 ∃ (t70_28 : Bool), cellH h64 t69_28 = some (.bool t70_28) ∧
 br t70_28 (
 J1 r1 f4 true Q h64) (
 ∃ (t73_28 : ByteArray), cellH h64 (Addr.add r1 7) = some (.string t73_28) ∧
 let t74_28 : Bool := decide (t73_28 = (⟨#[]⟩ : ByteArray))
 J1 r1 f4 t74_28 Q h64)) h63) (
 ∃ (t64_14 : Int), cellH h63 (Addr.add r1 6) = some (.int .i64 t64_14) ∧
 let t65_14 : Bool := (t64_14 == 0)
 br t65_14 (
 hwp PP (Instr.indexAt T_7_bool (.pointer (some f4)) (.int .i64 6)) (fun v_61 h65 => ∃ (t69_29 : Addr), v_61 = (.pointer (some t69_29)) ∧
 ∃ (t70_29 : Bool), cellH h65 t69_29 = some (.bool t70_29) ∧
 br t70_29 (
 J1 r1 f4 true Q h65) (
 ∃ (t73_29 : ByteArray), cellH h65 (Addr.add r1 7) = some (.string t73_29) ∧
 let t74_29 : Bool := decide (t73_29 = (⟨#[]⟩ : ByteArray))
 J1 r1 f4 t74_29 Q h65)) h63) (
 J1 r1 f4 false Q h63))) h62) (
 ∃ (t55_7 : Int), cellH h62 (Addr.add r1 5) = some (.int .i64 t55_7) ∧
 let t56_7 : Bool := (t55_7 == 0)
 br t56_7 (
 hwp PP (Instr.indexAt T_7_bool (.pointer (some f4)) (.int .i64 5)) (fun v_62 h66 => ∃ (t60_15 : Addr), v_62 = (.pointer (some t60_15)) ∧
 ∃ (t61_15 : Bool), cellH h66 t60_15 = some (.bool t61_15) ∧
 br t61_15 (
 hwp PP (Instr.indexAt T_7_bool (.pointer (some f4)) (.int .i64 6)) (fun v_63 h67 => ∃ (t69_30 : Addr), v_63 = (.pointer (some t69_30)) ∧
 ∃ (t70_30 : Bool), cellH h67 t69_30 = some (.bool t70_30) ∧
 br t70_30 (
 J1 r1 f4 true Q h67) (
 ∃ (t73_30 : ByteArray), cellH h67 (Addr.add r1 7) = some (.string t73_30) ∧
 let t74_30 : Bool := decide (t73_30 = (⟨#[]⟩ : ByteArray))
 J1 r1 f4 t74_30 Q h67)) h66) (
 ∃ (t64_15 : Int), cellH h66 (Addr.add r1 6) = some (.int .i64 t64_15) ∧
 let t65_15 : Bool := (t64_15 == 0)
 br t65_15 (
 hwp PP (Instr.indexAt T_7_bool (.pointer (some f4)) (.int .i64 6)) (fun v_64 h68 => ∃ (t69_31 : Addr), v_64 = (.pointer (some t69_31)) ∧
 ∃ (t70_31 : Bool), cellH h68 t69_31 = some (.bool t70_31) ∧
 br t70_31 (
 J1 r1 f4 true Q h68) (
 ∃ (t73_31 : ByteArray), cellH h68 (Addr.add r1 7) = some (.string t73_31) ∧
 let t74_31 : Bool := decide (t73_31 = (⟨#[]⟩ : ByteArray))
 J1 r1 f4 t74_31 Q h68)) h66) (
 J1 r1 f4 false Q h66))) h62) (
 J1 r1 f4 false Q h62))) h54) (
 J1 r1 f4 false Q h54))) h38) (
 J1 r1 f4 false Q h38))) h6) (
 J1 r1 f4 false Q h6))) h5) (
 ∃ (t20 : Int), cellH h5 (Addr.add r1 1) = some (.int .i64 t20) ∧
 let t21 : Bool := (t20 == 0)
 br t21 (
 hwp PP (Instr.indexAt T_7_bool (.pointer (some f4)) (.int .i64 1)) (fun v_65 h69 => ∃ (t24_1 : Addr), v_65 = (.pointer (some t24_1)) ∧
 ∃ (t25_1 : Bool), cellH h69 t24_1 = some (.bool t25_1) ∧
 br t25_1 (
 hwp PP (Instr.indexAt T_7_bool (.pointer (some f4)) (.int .i64 2)) (fun v_66 h70 => ∃ (t33_2 : Addr), v_66 = (.pointer (some t33_2)) ∧
 ∃ (t34_2 : Bool), cellH h70 t33_2 = some (.bool t34_2) ∧
 br t34_2 (
 hwp PP (Instr.indexAt T_7_bool (.pointer (some f4)) (.int .i64 3)) (fun v_67 h71 => ∃ (t42_4 : Addr), v_67 = (.pointer (some t42_4)) ∧
 ∃ (t43_4 : Bool), cellH h71 t42_4 = some (.bool t43_4) ∧
 br t43_4 (
 hwp PP (Instr.indexAt T_7_bool (.pointer (some f4)) (.int .i64 4)) (fun v_68 h72 => ∃ (t51_8 : Addr), v_68 = (.pointer (some t51_8)) ∧
 ∃ (t52_8 : Bool), cellH h72 t51_8 = some (.bool t52_8) ∧
 br t52_8 (
 hwp PP (Instr.indexAt T_7_bool (.pointer (some f4)) (.int .i64 5)) (fun v_69 h73 => ∃ (t60_16 : Addr), v_69 = (.pointer (some t60_16)) ∧
 ∃ (t61_16 : Bool), cellH h73 t60_16 = some (.bool t61_16) ∧
 br t61_16 (
 hwp PP (Instr.indexAt T_7_bool (.pointer (some f4)) (.int .i64 6)) (fun v_70 h74 => ∃ (t69_32 : Addr), v_70 = (.pointer (some t69_32)) ∧
 ∃ (t70_32 : Bool), cellH h74 t69_32 = some (.bool t70_32) ∧
 br t70_32 (
 J1 r1 f4 true Q h74) (
 ∃ (t73_32 : ByteArray), cellH h74 (Addr.add r1 7) = some (.string t73_32) ∧
 let t74_32 : Bool := decide (t73_32 = (⟨#[]⟩ : ByteArray))
 J1 r1 f4 t74_32 Q h74)) h73) (
 ∃ (t64_16 : Int), cellH h73 (Addr.add r1 6) = some (.int .i64 t64_16) ∧
 let t65_16 : Bool := (t64_16 == 0)
 br t65_16 (
 hwp PP (Instr.indexAt T_7_bool (.pointer (some f4)) (.int .i64 6)) (fun v_71 h75 => ∃ (t69_33 : Addr), v_71 = (.pointer (some t69_33)) ∧
 ∃ (t70_33 : Bool), cellH h75 t69_33 = some (.bool t70_33) ∧
 br t70_33 (
 J1 r1 f4 true Q h75) (
 ∃ (t73_33 : ByteArray), cellH h75 (Addr.add r1 7) = some (.string t73_33) ∧
 let t74_33 : Bool := decide (t73_33 = (⟨#[]⟩ : ByteArray))
 J1 r1 f4 t74_33 Q h75)) h73) (
 J1 r1 f4 false Q h73))) h72) (
 ∃ (t55_8 : Int), cellH h72 (Addr.add r1 5) = some (.int .i64 t55_8) ∧
 let t56_8 : Bool := (t55_8 == 0)
 br t56_8 (
 hwp PP (Instr.indexAt T_7_bool (.pointer (some f4)) (.int .i64 5)) (fun v_72 h76 => ∃ (t60_17 : Addr), v_72 = (.pointer (some t60_17)) ∧
 ∃ (t61_17 : Bool), cellH h76 t60_17 = some (.bool t61_17) ∧
 br t61_17 (
 hwp PP (Instr.indexAt T_7_bool (.pointer (some f4)) (.int .i64 6)) (fun v_73 h77 => ∃ (t69_34 : Addr), v_73 = (.pointer (some t69_34)) ∧
 ∃ (t70_34 : Bool), cellH h77 t69_34 = some (.bool t70_34) ∧
 br t70_34 (
 J1 r1 f4 true Q h77) (
 ∃ (t73_34 : ByteArray), cellH h77 (Addr.add r1 7) = some (.string t73_34) ∧
 let t74_34 : Bool := decide (t73_34 = (⟨#[]⟩ : ByteArray))
 J1 r1 f4 t74_34 Q h77)) h76) (
 ∃ (t64_17 : Int), cellH h76 (Addr.add r1 6) = some (.int .i64 t64_17) ∧
 let t65_17 : Bool := (t64_17 == 0)
 br t65_17 (
 hwp PP (Instr.indexAt T_7_bool (.pointer (some f4)) (.int .i64 6)) (fun v_74 h78 => ∃ (t69_35 : Addr), v_74 = (.pointer (some t69_35)) ∧
 ∃ (t70_35 : Bool), cellH h78 t69_35 = some (.bool t70_35) ∧
 br t70_35 (
 J1 r1 f4 true Q h78) (
 ∃ (t73_35 : ByteArray), cellH h78 (Addr.add r1 7) = some (.string t73_35) ∧
 let t74_35 : Bool := decide (t73_35 = (⟨#[]⟩ : ByteArray))
 J1 r1 f4 t74_35 Q h78)) h76) (
 J1 r1 f4 false Q h76))) h72) (
 J1 r1 f4 false Q h72))) h71) (
 ∃ (t46_4 : ByteArray), cellH h71 (Addr.add r1 4) = some (.string t46_4) ∧
 let t47_4 : Bool := decide (t46_4 = (⟨#[]⟩ : ByteArray))
 br t47_4 (
 hwp PP (Instr.indexAt T_7_bool (.pointer (some f4)) (.int .i64 4)) (fun v_75 h79 => ∃ (t51_9 : Addr), v_75 = (.pointer (some t51_9)) ∧
 ∃ (t52_9 : Bool), cellH h79 t51_9 = some (.bool t52_9) ∧
 br t52_9 (
 hwp PP (Instr.indexAt T_7_bool (.pointer (some f4)) (.int .i64 5)) (fun v_76 h80 => ∃ (t60_18 : Addr), v_76 = (.pointer (some t60_18)) ∧
 ∃ (t61_18 : Bool), cellH h80 t60_18 = some (.bool t61_18) ∧
 br t61_18 (
 hwp PP (Instr.indexAt T_7_bool (.pointer (some f4)) (.int .i64 6)) (fun v_77 h81 => ∃ (t69_36 : Addr), v_77 = (.pointer (some t69_36)) ∧
 ∃ (t70_36 : Bool), cellH h81 t69_36 = some (.bool t70_36) ∧
 br t70_36 (
 J1 r1 f4 true Q h81) (
 ∃ (t73_36 : ByteArray), cellH h81 (Addr.add r1 7) = some (.string t73_36) ∧
 let t74_36 : Bool := decide (t73_36 = (⟨#[]⟩ : ByteArray))
 J1 r1 f4 t74_36 Q h81)) h80) (
 ∃ (t64_18 : Int), cellH h80 (Addr.add r1 6) = some (.int .i64 t64_18) ∧
 let t65_18 : Bool := (t64_18 == 0)
 br t65_18 (
 hwp PP (Instr.indexAt T_7_bool (.pointer (some f4)) (.int .i64 6)) (fun v_78 h82 => ∃ (t69_37 : Addr), v_78 = (.pointer (some t69_37)) ∧
 ∃ (t70_37 : Bool), cellH h82 t69_37 = some (.bool t70_37) ∧
 br t70_37 (
 J1 r1 f4 true Q h82) (
 ∃ (t73_37 : ByteArray), cellH h82 (Addr.add r1 7) = some (.string t73_37) ∧
 let t74_37 : Bool := decide (t73_37 = (⟨#[]⟩ : ByteArray))
 J1 r1 f4 t74_37 Q h82)) h80) (
 J1 r1 f4 false Q h80))) h79) (
 ∃ (t55_9 : Int), cellH h79 (Addr.add r1 5) = some (.int .i64 t55_9) ∧
 let t56_9 : Bool := (t55_9 == 0)
 br t56_9 (
 hwp PP (Instr.indexAt T_7_bool (.pointer (some f4)) (.int .i64 5)) (fun v_79 h83 => ∃ (t60_19 : Addr), v_79 = (.pointer (some t60_19)) ∧
 ∃ (t61_19 : Bool), cellH h83 t60_19 = some (.bool t61_19) ∧
 br t61_19 (
 hwp PP (Instr.indexAt T_7_bool (.pointer (some f4)) (.int .i64 6)) (fun v_80 h84 => ∃ (t69_38 : Addr), v_80 = (.pointer (some t69_38)) ∧
 ∃ (t70_38 : Bool), cellH h84 t69_38 = some (.bool t70_38) ∧
 br t70_38 (
 J1 r1 f4 true Q h84) (
 ∃ (t73_38 : ByteArray), cellH h84 (Addr.add r1 7) = some (.string t73_38) ∧
 let t74_38 : Bool := decide (t73_38 = (⟨#[]⟩ : ByteArray))
 J1 r1 f4 t74_38 Q h84)) h83) (
 ∃ (t64_19 : Int), cellH h83 (Addr.add r1 6) = some (.int .i64 t64_19) ∧
 let t65_19 : Bool := (t64_19 == 0)
 br t65_19 (
 hwp PP (Instr.indexAt T_7_bool (.pointer (some f4)) (.int .i64 6)) (fun v_81 h85 => ∃ (t69_39 : Addr), v_81 = (.pointer (some t69_39)) ∧
 ∃ (t70_39 : Bool), cellH h85 t69_39 = some (.bool t70_39) ∧
 br t70_39 (
 J1 r1 f4 true Q h85) (
 ∃ (t73_39 : ByteArray), cellH h85 (Addr.add r1 7) = some (.string t73_39) ∧
 let t74_39 : Bool := decide (t73_39 = (⟨#[]⟩ : ByteArray))
 J1 r1 f4 t74_39 Q h85)) h83) (
 J1 r1 f4 false Q h83))) h79) (
 J1 r1 f4 false Q h79))) h71) (
 J1 r1 f4 false Q h71))) h70) (
 ∃ (t37_2 : ByteArray), cellH h70 (Addr.add r1 3) = some (.string t37_2) ∧
 let t38_2 : Bool := decide (t37_2 = (⟨#[]⟩ : ByteArray))
 br t38_2 (
 hwp PP (Instr.indexAt T_7_bool (.pointer (some f4)) (.int .i64 3)) (fun v_82 h86 => ∃ (t42_5 : Addr), v_82 = (.pointer (some t42_5)) ∧
 ∃ (t43_5 : Bool), cellH h86 t42_5 = some (.bool t43_5) ∧
 br t43_5 (
 hwp PP (Instr.indexAt T_7_bool (.pointer (some f4)) (.int .i64 4)) (fun v_83 h87 => ∃ (t51_10 : Addr), v_83 = (.pointer (some t51_10)) ∧
 ∃ (t52_10 : Bool), cellH h87 t51_10 = some (.bool t52_10) ∧
 br t52_10 (
 hwp PP (Instr.indexAt T_7_bool (.pointer (some f4)) (.int .i64 5)) (fun v_84 h88 => ∃ (t60_20 : Addr), v_84 = (.pointer (some t60_20)) ∧
 ∃ (t61_20 : Bool), cellH h88 t60_20 = some (.bool t61_20) ∧
 br t61_20 (
 hwp PP (Instr.indexAt T_7_bool (.pointer (some f4)) (.int .i64 6)) (fun v_85 h89 => ∃ (t69_40 : Addr), v_85 = (.pointer (some t69_40)) ∧
 ∃ (t70_40 : Bool), cellH h89 t69_40 = some (.bool t70_40) ∧
 br t70_40 (
 J1 r1 f4 true Q h89) (
 ∃ (t73_40 : ByteArray), cellH h89 (Addr.add r1 7) = some (.string t73_40) ∧
 let t74_40 : Bool := decide (t73_40 = (⟨#[]⟩ : ByteArray))
 J1 r1 f4 t74_40 Q h89)) h88) (
 ∃ (t64_20 : Int), cellH h88 (Addr.add r1 6) = some (.int .i64 t64_20) ∧
 let t65_20 : Bool := (t64_20 == 0)
 br t65_20 (
 hwp PP (Instr.indexAt T_7_bool (.pointer (some f4)) (.int .i64 6)) (fun v_86 h90 => ∃ (t69_41 : Addr), v_86 = (.pointer (some t69_41)) ∧
 ∃ (t70_41 : Bool), cellH h90 t69_41 = some (.bool t70_41) ∧
 br t70_41 (
 J1 r1 f4 true Q h90) (
 ∃ (t73_41 : ByteArray), cellH h90 (Addr.add r1 7) = some (.string t73_41) ∧
 let t74_41 : Bool := decide (t73_41 = (⟨#[]⟩ : ByteArray))
 J1 r1 f4 t74_41 Q h90)) h88) (
 J1 r1 f4 false Q h88))) h87) (
 ∃ (t55_10 : Int), cellH h87 (Addr.add r1 5) = some (.int .i64 t55_10) ∧
 let t56_10 : Bool := (t55_10 == 0)
 br t56_10 (
 hwp PP (Instr.indexAt T_7_bool (.pointer (some f4)) (.int .i64 5)) (fun v_87 h91 => ∃ (t60_21 : Addr), v_87 = (.pointer (some t60_21)) ∧
 ∃ (t61_21 : Bool), cellH h91 t60_21 = some (.bool t61_21) ∧
 br t61_21 (
 hwp PP (Instr.indexAt T_7_bool (.pointer (some f4)) (.int .i64 6)) (fun v_88 h92 => ∃ (t69_42 : Addr), v_88 = (.pointer (some t69_42)) ∧
 ∃ (t70_42 : Bool), cellH h92 t69_42 = some (.bool t70_42) ∧
 br t70_42 (
 J1 r1 f4 true Q h92) (
 ∃ (t73_42 : ByteArray), cellH h92 (Addr.add r1 7) = some (.string t73_42) ∧
 let t74_42 : Bool := decide (t73_42 = (⟨#[]⟩ : ByteArray))
 J1 r1 f4 t74_42 Q h92)) h91) (
 ∃ (t64_21 : Int), cellH h91 (Addr.add r1 6) = some (.int .i64 t64_21) ∧
 let t65_21 : Bool := (t64_21 == 0)
 br t65_21 (
 hwp PP (Instr.indexAt T_7_bool (.pointer (some f4)) (.int .i64 6)) (fun v_89 h93 => ∃ (t69_43 : Addr), v_89 = (.pointer (some t69_43)) ∧
 ∃ (t70_43 : Bool), cellH h93 t69_43 = some (.bool t70_43) ∧
 br t70_43 (
 J1 r1 f4 true Q h93) (
 ∃ (t73_43 : ByteArray), cellH h93 (Addr.add r1 7) = some (.string t73_43) ∧
 let t74_43 : Bool := decide (t73_43 = (⟨#[]⟩ : ByteArray))
 J1 r1 f4 t74_43 Q h93)) h91) (
 J1 r1 f4 false Q h91))) h87) (
 J1 r1 f4 false Q h87))) h86) (
 ∃ (t46_5 : ByteArray), cellH h86 (Addr.add r1 4) = some (.string t46_5) ∧
 let t47_5 : Bool := decide (t46_5 = (⟨#[]⟩ : ByteArray))
 br t47_5 (
 hwp PP (Instr.indexAt T_7_bool (.pointer (some f4)) (.int .i64 4)) (fun v_90 h94 => ∃ (t51_11 : Addr), v_90 = (.pointer (some t51_11)) ∧
 ∃ (t52_11 : Bool), cellH h94 t51_11 = some (.bool t52_11) ∧
 br t52_11 (
 hwp PP (Instr.indexAt T_7_bool (.pointer (some f4)) (.int .i64 5)) (fun v_91 h95 => ∃ (t60_22 : Addr), v_91 = (.pointer (some t60_22)) ∧
 ∃ (t61_22 : Bool), cellH h95 t60_22 = some (.bool t61_22) ∧
 br t61_22 (
 hwp PP (Instr.indexAt T_7_bool (.pointer (some f4)) (.int .i64 6)) (fun v_92 h96 => ∃ (t69_44 : Addr), v_92 = (.pointer (some t69_44)) ∧
 ∃ (t70_44 : Bool), cellH h96 t69_44 = some (.bool t70_44) ∧
 br t70_44 (
 J1 r1 f4 true Q h96) (
 ∃ (t73_44 : ByteArray), cellH h96 (Addr.add r1 7) = some (.string t73_44) ∧
 let t74_44 : Bool := decide (t73_44 = (⟨#[]⟩ : ByteArray))
 J1 r1 f4 t74_44 Q h96)) h95) (
 ∃ (t64_22 : Int), cellH h95 (Addr.add r1 6) = some (.int .i64 t64_22) ∧
 let t65_22 : Bool := (t64_22 == 0)
 br t65_22 (
 hwp PP (Instr.indexAt T_7_bool (.pointer (some f4)) (.int .i64 6)) (fun v_93 h97 => ∃ (t69_45 : Addr), v_93 = (.pointer (some t69_45)) ∧
 ∃ (t70_45 : Bool), cellH h97 t69_45 = some (.bool t70_45) ∧
 br t70_45 (
 J1 r1 f4 true Q h97) (
 ∃ (t73_45 : ByteArray), cellH h97 (Addr.add r1 7) = some (.string t73_45) ∧
 let t74_45 : Bool := decide (t73_45 = (⟨#[]⟩ : ByteArray))
 J1 r1 f4 t74_45 Q h97)) h95) (
 J1 r1 f4 false Q h95))) h94) (
 ∃ (t55_11 : Int), cellH h94 (Addr.add r1 5) = some (.int .i64 t55_11) ∧
 let t56_11 : Bool := (t55_11 == 0)
 br t56_11 (
 hwp PP (Instr.indexAt T_7_bool (.pointer (some f4)) (.int .i64 5)) (fun v_94 h98 => ∃ (t60_23 : Addr), v_94 = (.pointer (some t60_23)) ∧
 ∃ (t61_23 : Bool), cellH h98 t60_23 = some (.bool t61_23) ∧
 br t61_23 (
 hwp PP (Instr.indexAt T_7_bool (.pointer (some f4)) (.int .i64 6)) (fun v_95 h99 => ∃ (t69_46 : Addr), v_95 = (.pointer (some t69_46)) ∧
 ∃ (t70_46 : Bool), cellH h99 t69_46 = some (.bool t70_46) ∧
 br t70_46 (
 J1 r1 f4 true Q h99) (
 ∃ (t73_46 : ByteArray), cellH h99 (Addr.add r1 7) = some (.string t73_46) ∧
 let t74_46 : Bool := decide (t73_46 = (⟨#[]⟩ : ByteArray))
 J1 r1 f4 t74_46 Q h99)) h98) (
 ∃ (t64_23 : Int), cellH h98 (Addr.add r1 6) = some (.int .i64 t64_23) ∧
 let t65_23 : Bool := (t64_23 == 0)
 br t65_23 (
 hwp PP (Instr.indexAt T_7_bool (.pointer (some f4)) (.int .i64 6)) (fun v_96 h100 => ∃ (t69_47 : Addr), v_96 = (.pointer (some t69_47)) ∧
 ∃ (t70_47 : Bool), cellH h100 t69_47 = some (.bool t70_47) ∧
 br t70_47 (
 J1 r1 f4 true Q h100) (
 ∃ (t73_47 : ByteArray), cellH h100 (Addr.add r1 7) = some (.string t73_47) ∧
 let t74_47 : Bool := decide (t73_47 = (⟨#[]⟩ : ByteArray))
 J1 r1 f4 t74_47 Q h100)) h98) (
 J1 r1 f4 false Q h98))) h94) (
 J1 r1 f4 false Q h94))) h86) (
 J1 r1 f4 false Q h86))) h70) (
 J1 r1 f4 false Q h70))) h69) (
 ∃ (t28_1 : ByteArray), cellH h69 (Addr.add r1 2) = some (.string t28_1) ∧
 let t29_1 : Bool := decide (t28_1 = (⟨#[]⟩ : ByteArray))
 br t29_1 (
 hwp PP (Instr.indexAt T_7_bool (.pointer (some f4)) (.int .i64 2)) (fun v_97 h101 => ∃ (t33_3 : Addr), v_97 = (.pointer (some t33_3)) ∧
 ∃ (t34_3 : Bool), cellH h101 t33_3 = some (.bool t34_3) ∧
 br t34_3 (
 hwp PP (Instr.indexAt T_7_bool (.pointer (some f4)) (.int .i64 3)) (fun v_98 h102 => ∃ (t42_6 : Addr), v_98 = (.pointer (some t42_6)) ∧
 ∃ (t43_6 : Bool), cellH h102 t42_6 = some (.bool t43_6) ∧
 br t43_6 (
 hwp PP (Instr.indexAt T_7_bool (.pointer (some f4)) (.int .i64 4)) (fun v_99 h103 => ∃ (t51_12 : Addr), v_99 = (.pointer (some t51_12)) ∧
 ∃ (t52_12 : Bool), cellH h103 t51_12 = some (.bool t52_12) ∧
 br t52_12 (
 hwp PP (Instr.indexAt T_7_bool (.pointer (some f4)) (.int .i64 5)) (fun v_100 h104 => ∃ (t60_24 : Addr), v_100 = (.pointer (some t60_24)) ∧
 ∃ (t61_24 : Bool), cellH h104 t60_24 = some (.bool t61_24) ∧
 br t61_24 (
 hwp PP (Instr.indexAt T_7_bool (.pointer (some f4)) (.int .i64 6)) (fun v_101 h105 => ∃ (t69_48 : Addr), v_101 = (.pointer (some t69_48)) ∧
 ∃ (t70_48 : Bool), cellH h105 t69_48 = some (.bool t70_48) ∧
 br t70_48 (
 J1 r1 f4 true Q h105) (
 ∃ (t73_48 : ByteArray), cellH h105 (Addr.add r1 7) = some (.string t73_48) ∧
 let t74_48 : Bool := decide (t73_48 = (⟨#[]⟩ : ByteArray))
 J1 r1 f4 t74_48 Q h105)) h104) (
 ∃ (t64_24 : Int), cellH h104 (Addr.add r1 6) = some (.int .i64 t64_24) ∧
 let t65_24 : Bool := (t64_24 == 0)
 br t65_24 (
 hwp PP (Instr.indexAt T_7_bool (.pointer (some f4)) (.int .i64 6)) (fun v_102 h106 => ∃ (t69_49 : Addr), v_102 = (.pointer (some t69_49)) ∧
 ∃ (t70_49 : Bool), cellH h106 t69_49 = some (.bool t70_49) ∧
 br t70_49 (
 J1 r1 f4 true Q h106) (
 ∃ (t73_49 : ByteArray), cellH h106 (Addr.add r1 7) = some (.string t73_49) ∧
 let t74_49 : Bool := decide (t73_49 = (⟨#[]⟩ : ByteArray))
 J1 r1 f4 t74_49 Q h106)) h104) (
 J1 r1 f4 false Q h104))) h103) (
 ∃ (t55_12 : Int), cellH h103 (Addr.add r1 5) = some (.int .i64 t55_12) ∧
 let t56_12 : Bool := (t55_12 == 0)
 br t56_12 (
 hwp PP (Instr.indexAt T_7_bool (.pointer (some f4)) (.int .i64 5)) (fun v_103 h107 => ∃ (t60_25 : Addr), v_103 = (.pointer (some t60_25)) ∧
 ∃ (t61_25 : Bool), cellH h107 t60_25 = some (.bool t61_25) ∧
 br t61_25 (
 hwp PP (Instr.indexAt T_7_bool (.pointer (some f4)) (.int .i64 6)) (fun v_104 h108 => ∃ (t69_50 : Addr), v_104 = (.pointer (some t69_50)) ∧
 ∃ (t70_50 : Bool), cellH h108 t69_50 = some (.bool t70_50) ∧
 br t70_50 (
 J1 r1 f4 true Q h108) (
 ∃ (t73_50 : ByteArray), cellH h108 (Addr.add r1 7) = some (.string t73_50) ∧
 let t74_50 : Bool := decide (t73_50 = (⟨#[]⟩ : ByteArray))
 J1 r1 f4 t74_50 Q h108)) h107) (
 ∃ (t64_25 : Int), cellH h107 (Addr.add r1 6) = some (.int .i64 t64_25) ∧
 let t65_25 : Bool := (t64_25 == 0)
 br t65_25 (
 hwp PP (Instr.indexAt T_7_bool (.pointer (some f4)) (.int .i64 6)) (fun v_105 h109 => ∃ (t69_51 : Addr), v_105 = (.pointer (some t69_51)) ∧
 ∃ (t70_51 : Bool), cellH h109 t69_51 = some (.bool t70_51) ∧
 br t70_51 (
 J1 r1 f4 true Q h109) (
 ∃ (t73_51 : ByteArray), cellH h109 (Addr.add r1 7) = some (.string t73_51) ∧
 let t74_51 : Bool := decide (t73_51 = (⟨#[]⟩ : ByteArray))
 J1 r1 f4 t74_51 Q h109)) h107) (
 J1 r1 f4 false Q h107))) h103) (
 J1 r1 f4 false Q h103))) h102) (
 ∃ (t46_6 : ByteArray), cellH h102 (Addr.add r1 4) = some (.string t46_6) ∧
 let t47_6 : Bool := decide (t46_6 = (⟨#[]⟩ : ByteArray))
 br t47_6 (
 hwp PP (Instr.indexAt T_7_bool (.pointer (some f4)) (.int .i64 4)) (fun v_106 h110 => ∃ (t51_13 : Addr), v_106 = (.pointer (some t51_13)) ∧
 ∃ (t52_13 : Bool), cellH h110 t51_13 = some (.bool t52_13) ∧
 br t52_13 (
 hwp PP (Instr.indexAt T_7_bool (.pointer (some f4)) (.int .i64 5)) (fun v_107 h111 => ∃ (t60_26 : Addr), v_107 = (.pointer (some t60_26)) ∧
 ∃ (t61_26 : Bool), cellH h111 t60_26 = some (.bool t61_26) ∧
 br t61_26 (
 hwp PP (Instr.indexAt T_7_bool (.pointer (some f4)) (.int .i64 6)) (fun v_108 h112 => ∃ (t69_52 : Addr), v_108 = (.pointer (some t69_52)) ∧
 ∃ (t70_52 : Bool), cellH h112 t69_52 = some (.bool t70_52) ∧
 br t70_52 (
 J1 r1 f4 true Q h112) (
 ∃ (t73_52 : ByteArray), cellH h112 (Addr.add r1 7) = some (.string t73_52) ∧
 let t74_52 : Bool := decide (t73_52 = (⟨#[]⟩ : ByteArray))
 J1 r1 f4 t74_52 Q h112)) h111) (
 ∃ (t64_26 : Int), cellH h111 (Addr.add r1 6) = some (.int .i64 t64_26) ∧
 let t65_26 : Bool := (t64_26 == 0)
 br t65_26 (
 hwp PP (Instr.indexAt T_7_bool (.pointer (some f4)) (.int .i64 6)) (fun v_109 h113 => ∃ (t69_53 : Addr), v_109 = (.pointer (some t69_53)) ∧
 ∃ (t70_53 : Bool), cellH h113 t69_53 = some (.bool t70_53) ∧
 br t70_53 (
 J1 r1 f4 true Q h113) (
 ∃ (t73_53 : ByteArray), cellH h113 (Addr.add r1 7) = some (.string t73_53) ∧
 let t74_53 : Bool := decide (t73_53 = (⟨#[]⟩ : ByteArray))
 J1 r1 f4 t74_53 Q h113)) h111) (
 J1 r1 f4 false Q h111))) h110) (
 ∃ (t55_13 : Int), cellH h110 (Addr.add r1 5) = some (.int .i64 t55_13) ∧
 let t56_13 : Bool := (t55_13 == 0)
 br t56_13 (
 hwp PP (Instr.indexAt T_7_bool (.pointer (some f4)) (.int .i64 5)) (fun v_110 h114 => ∃ (t60_27 : Addr), v_110 = (.pointer (some t60_27)) ∧
 ∃ (t61_27 : Bool), cellH h114 t60_27 = some (.bool t61_27) ∧
 br t61_27 (
 hwp PP (Instr.indexAt T_7_bool (.pointer (some f4)) (.int .i64 6)) (fun v_111 h115 => ∃ (t69_54 : Addr), v_111 = (.pointer (some t69_54)) ∧
 ∃ (t70_54 : Bool), cellH h115 t69_54 = some (.bool t70_54) ∧
 br t70_54 (
 J1 r1 f4 true Q h115) (
 ∃ (t73_54 : ByteArray), cellH h115 (Addr.add r1 7) = some (.string t73_54) ∧
 let t74_54 : Bool := decide (t73_54 = (⟨#[]⟩ : ByteArray))
 J1 r1 f4 t74_54 Q h115)) h114) (
 ∃ (t64_27 : Int), cellH h114 (Addr.add r1 6) = some (.int .i64 t64_27) ∧
 let t65_27 : Bool := (t64_27 == 0)
 br t65_27 (
 hwp PP (Instr.indexAt T_7_bool (.pointer (some f4)) (.int .i64 6)) (fun v_112 h116 => ∃ (t69_55 : Addr), v_112 = (.pointer (some t69_55)) ∧
 ∃ (t70_55 : Bool), cellH h116 t69_55 = some (.bool t70_55) ∧
 br t70_55 (
 J1 r1 f4 true Q h116) (
 ∃ (t73_55 : ByteArray), cellH h116 (Addr.add r1 7) = some (.string t73_55) ∧
 let t74_55 : Bool := decide (t73_55 = (⟨#[]⟩ : ByteArray))
 J1 r1 f4 t74_55 Q h116)) h114) (
 J1 r1 f4 false Q h114))) h110) (
 J1 r1 f4 false Q h110))) h102) (
 J1 r1 f4 false Q h102))) h101) (
 ∃ (t37_3 : ByteArray), cellH h101 (Addr.add r1 3) = some (.string t37_3) ∧
 let t38_3 : Bool := decide (t37_3 = (⟨#[]⟩ : ByteArray))
 br t38_3 (
 hwp PP (Instr.indexAt T_7_bool (.pointer (some f4)) (.int .i64 3)) (fun v_113 h117 => ∃ (t42_7 : Addr), v_113 = (.pointer (some t42_7)) ∧
 ∃ (t43_7 : Bool), cellH h117 t42_7 = some (.bool t43_7) ∧
 br t43_7 (
 hwp PP (Instr.indexAt T_7_bool (.pointer (some f4)) (.int .i64 4)) (fun v_114 h118 => ∃ (t51_14 : Addr), v_114 = (.pointer (some t51_14)) ∧
 ∃ (t52_14 : Bool), cellH h118 t51_14 = some (.bool t52_14) ∧
 br t52_14 (
 hwp PP (Instr.indexAt T_7_bool (.pointer (some f4)) (.int .i64 5)) (fun v_115 h119 => ∃ (t60_28 : Addr), v_115 = (.pointer (some t60_28)) ∧
 ∃ (t61_28 : Bool), cellH h119 t60_28 = some (.bool t61_28) ∧
 br t61_28 (
 hwp PP (Instr.indexAt T_7_bool (.pointer (some f4)) (.int .i64 6)) (fun v_116 h120 => ∃ (t69_56 : Addr), v_116 = (.pointer (some t69_56)) ∧
 ∃ (t70_56 : Bool), cellH h120 t69_56 = some (.bool t70_56) ∧
 br t70_56 (
 J1 r1 f4 true Q h120) (
 ∃ (t73_56 : ByteArray), cellH h120 (Addr.add r1 7) = some (.string t73_56) ∧
 let t74_56 : Bool := decide (t73_56 = (⟨#[]⟩ : ByteArray))
 J1 r1 f4 t74_56 Q h120)) h119) (
 ∃ (t64_28 : Int), cellH h119 (Addr.add r1 6) = some (.int .i64 t64_28) ∧
 let t65_28 : Bool := (t64_28 == 0)
 br t65_28 (
 hwp PP (Instr.indexAt T_7_bool (.pointer (some f4)) (.int .i64 6)) (fun v_117 h121 => ∃ (t69_57 : Addr), v_117 = (.pointer (some t69_57)) ∧
 ∃ (t70_57 : Bool), cellH h121 t69_57 = some (.bool t70_57) ∧
 br t70_57 (
 J1 r1 f4 true Q h121) (
 ∃ (t73_57 : ByteArray), cellH h121 (Addr.add r1 7) = some (.string t73_57) ∧
 let t74_57 : Bool := decide (t73_57 = (⟨#[]⟩ : ByteArray))
 J1 r1 f4 t74_57 Q h121)) h119) (
 J1 r1 f4 false Q h119))) h118) (
 ∃ (t55_14 : Int), cellH h118 (Addr.add r1 5) = some (.int .i64 t55_14) ∧
 let t56_14 : Bool := (t55_14 == 0)
 br t56_14 (
 hwp PP (Instr.indexAt T_7_bool (.pointer (some f4)) (.int .i64 5)) (fun v_118 h122 => ∃ (t60_29 : Addr), v_118 = (.pointer (some t60_29)) ∧
 ∃ (t61_29 : Bool), cellH h122 t60_29 = some (.bool t61_29) ∧
 br t61_29 (
 hwp PP (Instr.indexAt T_7_bool (.pointer (some f4)) (.int .i64 6)) (fun v_119 h123 => ∃ (t69_58 : Addr), v_119 = (.pointer (some t69_58)) ∧
 ∃ (t70_58 : Bool), cellH h123 t69_58 = some (.bool t70_58) ∧
 br t70_58 (
 J1 r1 f4 true Q h123) (
 ∃ (t73_58 : ByteArray), cellH h123 (Addr.add r1 7) = some (.string t73_58) ∧
 let t74_58 : Bool := decide (t73_58 = (⟨#[]⟩ : ByteArray))
 J1 r1 f4 t74_58 Q h123)) h122) (
 ∃ (t64_29 : Int), cellH h122 (Addr.add r1 6) = some (.int .i64 t64_29) ∧
 let t65_29 : Bool := (t64_29 == 0)
 br t65_29 (
 hwp PP (Instr.indexAt T_7_bool (.pointer (some f4)) (.int .i64 6)) (fun v_120 h124 => ∃ (t69_59 : Addr), v_120 = (.pointer (some t69_59)) ∧
 ∃ (t70_59 : Bool), cellH h124 t69_59 = some (.bool t70_59) ∧
 br t70_59 (
 J1 r1 f4 true Q h124) (
 ∃ (t73_59 : ByteArray), cellH h124 (Addr.add r1 7) = some (.string t73_59) ∧
 let t74_59 : Bool := decide (t73_59 = (⟨#[]⟩ : ByteArray))
 J1 r1 f4 t74_59 Q h124)) h122) (
 J1 r1 f4 false Q h122))) h118) (
 J1 r1 f4 false Q h118))) h117) (
 ∃ (t46_7 : ByteArray), cellH h117 (Addr.add r1 4) = some (.string t46_7) ∧
 let t47_7 : Bool := decide (t46_7 = (⟨#[]⟩ : ByteArray))
 br t47_7 (
 hwp PP (Instr.indexAt T_7_bool (.pointer (some f4)) (.int .i64 4)) (fun v_121 h125 => ∃ (t51_15 : Addr), v_121 = (.pointer (some t51_15)) ∧
 ∃ (t52_15 : Bool), cellH h125 t51_15 = some (.bool t52_15) ∧
 br t52_15 (
 hwp PP (Instr.indexAt T_7_bool (.pointer (some f4)) (.int .i64 5)) (fun v_122 h126 => ∃ (t60_30 : Addr), v_122 = (.pointer (some t60_30)) ∧
 ∃ (t61_30 : Bool), cellH h126 t60_30 = some (.bool t61_30) ∧
 br t61_30 (
 hwp PP (Instr.indexAt T_7_bool (.pointer (some f4)) (.int .i64 6)) (fun v_123 h127 => ∃ (t69_60 : Addr), v_123 = (.pointer (some t69_60)) ∧
 ∃ (t70_60 : Bool), cellH h127 t69_60 = some (.bool t70_60) ∧
 br t70_60 (
 J1 r1 f4 true Q h127) (
 ∃ (t73_60 : ByteArray), cellH h127 (Addr.add r1 7) = some (.string t73_60) ∧
 let t74_60 : Bool := decide (t73_60 = (⟨#[]⟩ : ByteArray))
 J1 r1 f4 t74_60 Q h127)) h126) (
 ∃ (t64_30 : Int), cellH h126 (Addr.add r1 6) = some (.int .i64 t64_30) ∧
 let t65_30 : Bool := (t64_30 == 0)
 br t65_30 (
 hwp PP (Instr.indexAt T_7_bool (.pointer (some f4)) (.int .i64 6)) (fun v_124 h128 => ∃ (t69_61 : Addr), v_124 = (.pointer (some t69_61)) ∧
 ∃ (t70_61 : Bool), cellH h128 t69_61 = some (.bool t70_61) ∧
 br t70_61 (
 J1 r1 f4 true Q h128) (
 ∃ (t73_61 : ByteArray), cellH h128 (Addr.add r1 7) = some (.string t73_61) ∧
 let t74_61 : Bool := decide (t73_61 = (⟨#[]⟩ : ByteArray))
 J1 r1 f4 t74_61 Q h128)) h126) (
 J1 r1 f4 false Q h126))) h125) (
 ∃ (t55_15 : Int), cellH h125 (Addr.add r1 5) = some (.int .i64 t55_15) ∧
 let t56_15 : Bool := (t55_15 == 0)
 br t56_15 (
 hwp PP (Instr.indexAt T_7_bool (.pointer (some f4)) (.int .i64 5)) (fun v_125 h129 => ∃ (t60_31 : Addr), v_125 = (.pointer (some t60_31)) ∧
 ∃ (t61_31 : Bool), cellH h129 t60_31 = some (.bool t61_31) ∧
 br t61_31 (
 hwp PP (Instr.indexAt T_7_bool (.pointer (some f4)) (.int .i64 6)) (fun v_126 h130 => ∃ (t69_62 : Addr), v_126 = (.pointer (some t69_62)) ∧
 ∃ (t70_62 : Bool), cellH h130 t69_62 = some (.bool t70_62) ∧
 br t70_62 (
 J1 r1 f4 true Q h130) (
 ∃ (t73_62 : ByteArray), cellH h130 (Addr.add r1 7) = some (.string t73_62) ∧
 let t74_62 : Bool := decide (t73_62 = (⟨#[]⟩ : ByteArray))
 J1 r1 f4 t74_62 Q h130)) h129) (
 ∃ (t64_31 : Int), cellH h129 (Addr.add r1 6) = some (.int .i64 t64_31) ∧
 let t65_31 : Bool := (t64_31 == 0)
 br t65_31 (
 hwp PP (Instr.indexAt T_7_bool (.pointer (some f4)) (.int .i64 6)) (fun v_127 h131 => ∃ (t69_63 : Addr), v_127 = (.pointer (some t69_63)) ∧
 ∃ (t70_63 : Bool), cellH h131 t69_63 = some (.bool t70_63) ∧
 br t70_63 (
 J1 r1 f4 true Q h131) (
 ∃ (t73_63 : ByteArray), cellH h131 (Addr.add r1 7) = some (.string t73_63) ∧
 let t74_63 : Bool := decide (t73_63 = (⟨#[]⟩ : ByteArray))
 J1 r1 f4 t74_63 Q h131)) h129) (
 J1 r1 f4 false Q h129))) h125) (
 J1 r1 f4 false Q h125))) h117) (
 J1 r1 f4 false Q h117))) h101) (
 J1 r1 f4 false Q h101))) h69) (
 J1 r1 f4 false Q h69))) h5) (
 J1 r1 f4 false Q h5))) h4)) h3)) : SpecH PP F_ref19_PutRequest [(.agg #[(.int .i64 r0f0), (.int .i64 r0f1), (.string r0f2), (.string r0f3), (.string r0f4), (.int .i64 r0f5), (.int .i64 r0f6), (.string r0f7)])] h Q :=
   spec_of_txt (ann := ann) Try.func11 rfl rfl (by kernel_rfl) H
end ref19_PutRequest
/-! ### haversack/haversacklaw19.awake: function 12 -/
namespace law19_awake
def ann : Ann := (.seq 0 (.region [(List.range 1, 0)]) (.seq 6 (.region [(List.range 7, 6)]) (.seq 30 (.region [(List.range 8, 30)]) (.seq 94 (.region [(List.range 8, 94)]) (.seq 350 (.region [(List.range 7, 350)]) (.seq 1886 (.region [(List.range 8, 1886)]) (.seq 8030 (.region [(List.range 8, 8030)]) (.seq 10762 (.region [(List.range 23, 10762)]) (.join (.seq 1 (.region [(List.range 35, 1)]) (.exit 1)))))))))))
noncomputable abbrev cd (n : Nat) : Code := sub (bodyOf Try.f12) (pth n)
abbrev an (n : Nat) : Ann := subA ann (pth n)
@[irreducible] def J1 (a1 : OA) (a1n a1c : Nat) (b3 : Addr) (c9 : OA) (c9n c9c : Nat) (d11 : Addr) (ok13 : Bool) (Q : VP) (h : Heap) : Prop := Jn PP true (cd 511) (mkFr 0 101 [(1, (.slice a1 a1n a1c)), (3, (.pointer (some b3))), (9, (.slice c9 c9n c9c)), (11, (.pointer (some d11))), (13, (.bool ok13))]) (bodyK PP Try.f12 Q) h
theorem J1_of {a1 : OA} {a1n a1c : Nat} {b3 : Addr} {c9 : OA} {c9n c9c : Nat} {d11 : Addr} {ok13 : Bool} {Q : VP} {h : Heap} (H :
 br ok13 (
 let h1 : Heap := Array.push h (.cells #[(.int .u8 4), (.int .u8 7), (.int .u8 0), (.int .u8 0), (.int .u8 0), (.int .u8 1), (.int .u8 0), (.int .u8 97)] T_uint8 (0, 0))
 SpecH PP F_keep_Bytes [(.slice a1 a1n a1c), (.slice (some ⟨Array.size h, 0, none⟩) 8 8)] h1 (fun v h2 => ∃ (t71 : Bool), v = (.bool t71) ∧
 br t71 (
 ∃ (t74f0 t74f1 : Int) (t74f2 t74f3 t74f4 : ByteArray) (t74f5 t74f6 : Int) (t74f7 : ByteArray), rdCells h2 b3 0 [(.int .i64 t74f0), (.int .i64 t74f1), (.string t74f2), (.string t74f3), (.string t74f4), (.int .i64 t74f5), (.int .i64 t74f6), (.string t74f7)] ∧
 let t76 : Bool := ((t74f0 == 4) && ((t74f1 == 7) && (decide (t74f2 = (⟨#[97]⟩ : ByteArray)) && (decide (t74f3 = (⟨#[]⟩ : ByteArray)) && (decide (t74f4 = (⟨#[]⟩ : ByteArray)) && ((t74f5 == 0) && ((t74f6 == 0) && (decide (t74f7 = (⟨#[]⟩ : ByteArray)) && true))))))))
 br t76 (
 let t81 : Bool := ((c9n : Int) == 27)
 br t81 (
 ∃ (t85 : Int), cellH h2 d11 = some (.int .i64 t85) ∧
 let t86 : Bool := (t85 == 140)
 br t86 (
 ∃ (t90 : OA) (t90n t90c : Nat), cellH h2 (Addr.add d11 5) = some (.slice t90 t90n t90c) ∧
 let t92 : Bool := ((t90n : Int) == 1)
 br t92 (
 ∃ (t96 : OA) (t96n t96c : Nat), cellH h2 (Addr.add d11 5) = some (.slice t96 t96n t96c) ∧
 hwp PP (Instr.indexAt T_sl_string (.slice t96 t96n t96c) (.int .i64 0)) (fun v_1 h3 => ∃ (t97 : Addr), v_1 = (.pointer (some t97)) ∧
 ∃ (t98 : ByteArray), cellH h3 t97 = some (.string t98) ∧
 let t99 : Bool := decide (t98 = (⟨#[120]⟩ : ByteArray))
 Q (.bool t99) h3) h2) (
 Q (.bool false) h2)) (
 Q (.bool false) h2)) (
 Q (.bool false) h2)) (
 Q (.bool false) h2)) (
 Q (.bool false) h2))) (
 Q (.bool false) h)) : J1 a1 a1n a1c b3 c9 c9n c9c d11 ok13 Q h := by unfold J1; exact Jn.of_txt (an 511) (by kernel_rfl) H
theorem door  {Q : VP} {h : Heap} (H :
 SpecH PP F_wire_PutRequest [(.agg #[(.int .i64 4), (.int .i64 7), (.string (⟨#[97]⟩ : ByteArray)), (.string (⟨#[]⟩ : ByteArray)), (.string (⟨#[]⟩ : ByteArray)), (.int .i64 0), (.int .i64 0), (.string (⟨#[]⟩ : ByteArray))])] h (fun v h1 => ∃ (t16 : OA) (t16n t16c : Nat) (t16_1 : Int), v = (.tuple #[(.slice t16 t16n t16c), (.int .i64 t16_1)]) ∧
 SpecH PP F_wire_GetRequest [(.slice t16 t16n t16c)] h1 (fun v_1 h2 => ∃ (t21f0 t21f1 : Int) (t21f2 t21f3 t21f4 : ByteArray) (t21f5 t21f6 : Int) (t21f7 : ByteArray) (t21_1 : Int), v_1 = (.tuple #[(.agg #[(.int .i64 t21f0), (.int .i64 t21f1), (.string t21f2), (.string t21f3), (.string t21f4), (.int .i64 t21f5), (.int .i64 t21f6), (.string t21f7)]), (.int .i64 t21_1)]) ∧
 let b3 : Addr := ⟨Array.size h2, 0, none⟩
 let h3 : Heap := Array.push h2 (.cells #[(.int .i64 0), (.int .i64 0), (.string (⟨#[]⟩ : ByteArray)), (.string (⟨#[]⟩ : ByteArray)), (.string (⟨#[]⟩ : ByteArray)), (.int .i64 0), (.int .i64 0), (.string (⟨#[]⟩ : ByteArray))] T_api_Request (0, 0))
 wrCells b3 0 [(.int .i64 t21f0), (.int .i64 t21f1), (.string t21f2), (.string t21f3), (.string t21f4), (.int .i64 t21f5), (.int .i64 t21f6), (.string t21f7)] (fun h4 =>
 let h5 : Heap := Array.push h4 (.cells #[(.int .u8 14)] T_uint8 (0, 0))
 SpecH PP F_wire_GetRequest [(.slice (some ⟨Array.size h4, 0, none⟩) 1 1)] h5 (fun v_2 h6 => ∃ (t26f0 t26f1 : Int) (t26f2 t26f3 t26f4 : ByteArray) (t26f5 t26f6 : Int) (t26f7 : ByteArray) (t26_1 : Int), v_2 = (.tuple #[(.agg #[(.int .i64 t26f0), (.int .i64 t26f1), (.string t26f2), (.string t26f3), (.string t26f4), (.int .i64 t26f5), (.int .i64 t26f6), (.string t26f7)]), (.int .i64 t26_1)]) ∧
 let t5 : Addr := ⟨Array.size h6, 0, none⟩
 let h7 : Heap := Array.push h6 (.cells #[(.int .i64 0), (.int .i64 0), (.string (⟨#[]⟩ : ByteArray)), (.string (⟨#[]⟩ : ByteArray)), (.string (⟨#[]⟩ : ByteArray)), (.int .i64 0), (.int .i64 0), (.string (⟨#[]⟩ : ByteArray))] T_api_Request (0, 0))
 wrCells t5 0 [(.int .i64 t26f0), (.int .i64 t26f1), (.string t26f2), (.string t26f3), (.string t26f4), (.int .i64 t26f5), (.int .i64 t26f6), (.string t26f7)] (fun h8 =>
 SpecH PP F_wire_PutRequest [(.agg #[(.int .i64 2), (.int .i64 1), (.string (⟨#[]⟩ : ByteArray)), (.string (⟨#[]⟩ : ByteArray)), (.string (⟨#[]⟩ : ByteArray)), (.int .i64 0), (.int .i64 0), (.string (⟨#[]⟩ : ByteArray))])] h8 (fun v_3 h9 => ∃ (t31 : OA) (t31n t31c : Nat) (t31_1 : Int), v_3 = (.tuple #[(.slice t31 t31n t31c), (.int .i64 t31_1)]) ∧
 let h10 : Heap := Array.push h9 (.cells #[(.string (⟨#[120]⟩ : ByteArray))] T_string (0, 0))
 SpecH PP F_wire_PutResponse [(.agg #[(.int .i64 140), (.int .i64 0), (.int .i64 0), (.int .i64 0), (.string (⟨#[]⟩ : ByteArray)), (.slice (some ⟨Array.size h9, 0, none⟩) 1 1), (.int .i64 0), (.int .i64 0)])] h10 (fun v_4 h11 => ∃ (t37 : OA) (t37n t37c : Nat) (t37_1 : Int), v_4 = (.tuple #[(.slice t37 t37n t37c), (.int .i64 t37_1)]) ∧
 SpecH PP F_wire_GetResponse [(.slice t37 t37n t37c)] h11 (fun v_5 h12 => ∃ (t42f0 t42f1 t42f2 t42f3 : Int) (t42f4 : ByteArray) (t42f5 : OA) (t42f5n t42f5c : Nat) (t42f6 t42f7 t42_1 : Int), v_5 = (.tuple #[(.agg #[(.int .i64 t42f0), (.int .i64 t42f1), (.int .i64 t42f2), (.int .i64 t42f3), (.string t42f4), (.slice t42f5 t42f5n t42f5c), (.int .i64 t42f6), (.int .i64 t42f7)]), (.int .i64 t42_1)]) ∧
 let d11 : Addr := ⟨Array.size h12, 0, none⟩
 let h13 : Heap := Array.push h12 (.cells #[(.int .i64 0), (.int .i64 0), (.int .i64 0), (.int .i64 0), (.string (⟨#[]⟩ : ByteArray)), (.slice none 0 0), (.int .i64 0), (.int .i64 0)] T_api_Response (0, 0))
 wrCells d11 0 [(.int .i64 t42f0), (.int .i64 t42f1), (.int .i64 t42f2), (.int .i64 t42f3), (.string t42f4), (.slice t42f5 t42f5n t42f5c), (.int .i64 t42f6), (.int .i64 t42f7)] (fun h14 =>
 let t46 : Bool := (t16_1 == 0)
 br t46 (
 let t49 : Bool := (t21_1 == 0)
 br t49 (
 let t53 : Bool := (t26_1 == 191)
 br t53 (
 let t57 : Bool := (t31_1 == 1)
 br t57 (
 let t61 : Bool := (t37_1 == 0)
 br t61 (
 let t65 : Bool := (t42_1 == 0)
 J1 t16 t16n t16c b3 t37 t37n t37c d11 t65 Q h14) (
 J1 t16 t16n t16c b3 t37 t37n t37c d11 false Q h14)) (
 J1 t16 t16n t16c b3 t37 t37n t37c d11 false Q h14)) (
 J1 t16 t16n t16c b3 t37 t37n t37c d11 false Q h14)) (
 J1 t16 t16n t16c b3 t37 t37n t37c d11 false Q h14)) (
 J1 t16 t16n t16c b3 t37 t37n t37c d11 false Q h14)) h13)))) h7)) h3))) : SpecH PP F_law19_awake [] h Q :=
   spec_of_txt (ann := ann) Try.func12 rfl rfl (by kernel_rfl) H
end law19_awake
/-! ### haversack/haversackkeep.Bytes: function 13 -/
namespace keep_Bytes
def ann : Ann := (.seq 3 (.region [(List.range 1, 3)]) (.seq 3 (.seq 1027 (.region [(List.range 5, 1027)]) (.cond (.seq 16 (.region [(List.range 1, 16)]) (.exit 16)) .leaf)) (.seq 0 (.seq 35 (.region [(List.range 1, 35)]) (.block (.loop 35 (.seq 35 (.seq 16419 (.region [(List.range 4, 16419)]) (.cond .leaf (.exit 0))) (.seq 35 (.block (.seq 33554467 (.region [(List.range 9, 33554467)]) (.cond (.seq 16 (.region [(List.range 1, 16)]) (.exit 16)) .leaf))) (.region [(List.range 3, 35)])))))) (.seq 16 (.region [(List.range 1, 16)]) (.exit 16)))))
noncomputable abbrev cd (n : Nat) : Code := sub (bodyOf Try.f13) (pth n)
abbrev an (n : Nat) : Ann := subA ann (pth n)
@[irreducible] def Xret (t4 : Bool) : Fr := (mkFr 0 26 [(4, (.bool t4))])
@[irreducible] def X0  : Fr := (mkFr 0 26 [])
@[irreducible] def L1 (a0 : OA) (a0n a0c : Nat) (b1 : OA) (b1n b1c : Nat) (i5 : Int) (K : EP) (h : Heap) : Prop := Lp PP true (cd 116) (mkFr 0 26 [(0, (.slice a0 a0n a0c)), (1, (.slice b1 b1n b1c)), (5, (.int .i64 i5))]) K h
@[irreducible] def B1 (K : EP) : EP := seqK (fun fr h => Lp PP true (cd 116) (fr.mask 35) K h) K
@[irreducible] def K2 (Q : VP) : EP := seqK (fun fr h => ev PP true none (cd 15) (an 15) (fr.mask 0) (bodyK PP Try.f13 Q) h) (bodyK PP Try.f13 Q)
@[irreducible] def K1 (Q : VP) : EP := blockK 0 (K2 Q)
theorem L1_of {a0 : OA} {a0n a0c : Nat} {b1 : OA} {b1n b1c : Nat} {i5 : Int} {K : EP} {h : Heap} (H :
 let t14 : Bool := decide (i5 < (a0n : Int))
 br t14 (
 hwp PP (Instr.indexAt T_sl_uint8 (.slice a0 a0n a0c) (.int .i64 i5)) (fun v h1 => ∃ (t19 : Addr), v = (.pointer (some t19)) ∧
 ∃ (t20 : Int), cellH h1 t19 = some (.int .u8 t20) ∧
 hwp PP (Instr.indexAt T_sl_uint8 (.slice b1 b1n b1c) (.int .i64 i5)) (fun v_1 h2 => ∃ (t23 : Addr), v_1 = (.pointer (some t23)) ∧
 ∃ (t24 : Int), cellH h2 t23 = some (.int .u8 t24) ∧
 let t25 : Bool := (t20 != t24)
 br t25 (
 K .ret (Xret false) h2) (
 let t16 : Int := IntKind.i64.wrap (i5 + 1)
 L1 a0 a0n a0c b1 b1n b1c t16 K h2)) h1) h) (
 K (.exit 0) (X0) h)) : L1 a0 a0n a0c b1 b1n b1c i5 K h := by unfold L1; exact Lp.of_txt (an 116) 35 (by kernel_rfl) H
theorem L1_Xret {Q : VP} {t4 : Bool} {h : Heap} (H :
 Q (.bool t4) h) : (K1 Q) .ret (Xret t4) h := of_eq_txt (by kernel_rfl) H
theorem L1_X0 {Q : VP}  {h : Heap} (H :
 Q (.bool true) h) : (K1 Q) (.exit 0) (X0 ) h := of_eq_txt (by kernel_rfl) H
theorem door {a0 : OA} {a0n a0c : Nat} {b1 : OA} {b1n b1c : Nat} {Q : VP} {h : Heap} (H :
 let t10 : Bool := ((a0n : Int) != (b1n : Int))
 br t10 (
 Q (.bool false) h) (
 L1 a0 a0n a0c b1 b1n b1c 0 (K1 Q) h)) : SpecH PP F_keep_Bytes [(.slice a0 a0n a0c), (.slice b1 b1n b1c)] h Q :=
   spec_of_txt (ann := ann) Try.func13 rfl rfl (by kernel_rfl) H
end keep_Bytes
/-! ### haversack/haversackkeep.Lend: function 14 -/
namespace keep_Lend
def ann : Ann := (.seq 1 (.region [(List.range 1, 1)]) (.seq 9 (.region [(List.range 5, 9)]) (.seq 9 (.region [(List.range 3, 9)]) (.seq 9 (.region [(List.range 5, 9)]) (.seq 9 (.region [(List.range 6, 9)]) (.seq 4 (.region [(List.range 5, 4)]) (.exit 4)))))))
noncomputable abbrev cd (n : Nat) : Code := sub (bodyOf Try.f14) (pth n)
abbrev an (n : Nat) : Ann := subA ann (pth n)
theorem door {b0 : OA} {b0n b0c : Nat} {Q : VP} {h : Heap} (H :
 let t6 : Int := IntKind.i64.wrap ((b0n : Int) + 2)
 hwp PP (Instr.makeSlice T_sl_uint8 (.int .i64 t6) (.int .i64 t6)) (fun v h1 => ∃ (t7 : OA) (t7n t7c : Nat), v = (.slice t7 t7n t7c) ∧
 hwp PP (Builtin.copy_ #[T_sl_uint8, T_sl_uint8] T_int #[(.slice t7 t7n t7c), (.slice b0 b0n b0c)]) (fun v_1 h2 => ∃ (t10 : Int), v_1 = (.int .i64 t10) ∧
 hwp PP (Instr.indexAt T_sl_uint8 (.slice t7 t7n t7c) (.int .i64 (b0n : Int))) (fun v_2 h3 => ∃ (t14 : Addr), v_2 = (.pointer (some t14)) ∧
 wr t14 (.int .u8 165) (fun h4 =>
 let t18 : Int := IntKind.i64.wrap ((b0n : Int) + 1)
 hwp PP (Instr.indexAt T_sl_uint8 (.slice t7 t7n t7c) (.int .i64 t18)) (fun v_3 h5 => ∃ (t19 : Addr), v_3 = (.pointer (some t19)) ∧
 wr t19 (.int .u8 90) (fun h6 =>
 hwp PP (Instr.sliceAt T_sl_uint8 (.slice t7 t7n t7c) none (some (.int .i64 (b0n : Int))) none) (fun v_4 h7 => ∃ (t23 : OA) (t23n t23c : Nat), v_4 = (.slice t23 t23n t23c) ∧
 Q (.slice t23 t23n t23c) h7) h6) h5) h4) h3) h2) h1) h) : SpecH PP F_keep_Lend [(.slice b0 b0n b0c)] h Q :=
   spec_of_txt (ann := ann) Try.func14 rfl rfl (by kernel_rfl) H
end keep_Lend
/-! ### haversack/wire.GetRequest: function 15 -/
namespace wire_GetRequest
def ann : Ann := (.seq 13 (.region [(List.range 2, 13)]) (.seq 13 (.thr (List.range 1) 1 13 12) (.seq 13 (.thr (List.range 0) 0 13 12) (.seq 13 (.thr (List.range 3) 3 13 12) (.seq 13 (.region [(List.range 6, 13)]) (.seq 13 (.thr (List.range 3) 3 13 12) (.seq 28 (.region [(List.range 5, 28)]) (.seq 60 (.region [(List.range 1, 60)]) (.seq 28 (.thr (List.range 1) 1 28 12) (.seq 12 (.thr (List.range 6) 6 12 12) (.seq 12 (.region [(List.range 3, 12)]) (.exit 12))))))))))))
noncomputable abbrev cd (n : Nat) : Code := sub (bodyOf Try.f15) (pth n)
abbrev an (n : Nat) : Ann := subA ann (pth n)
@[irreducible] def lv (r2 e3 : Addr) (Q X : VP) (ds : List Dfr) (m : Option Value) (h : Heap) : Prop := leaveK PP (mkFr 0 34 [(2, (.pointer (some r2))), (3, (.pointer (some e3)))]) (Try.f15.results.toList) Q X ds m h
theorem lv_cons {r2 e3 : Addr} {Q X : VP} {ds : List Dfr} {f : FuncId} {a b : List Value} {m : Option Value} {h : Heap} (H : callable PP f = true ∧ SpecD PP f (a ++ b) m h (fun m h => lv r2 e3 Q X ds m h)) : lv r2 e3 Q X ((f, a, b) :: ds) m h := by unfold lv at H ⊢; exact H
theorem lv_nil {r2 e3 : Addr} {Q X : VP} {h : Heap} (H : ∃ (r2_1f0 r2_1f1 : Int) (r2_1f2 r2_1f3 r2_1f4 : ByteArray) (r2_1f5 r2_1f6 : Int) (r2_1f7 : ByteArray), rdCells h r2 0 [(.int .i64 r2_1f0), (.int .i64 r2_1f1), (.string r2_1f2), (.string r2_1f3), (.string r2_1f4), (.int .i64 r2_1f5), (.int .i64 r2_1f6), (.string r2_1f7)] ∧
 ∃ (e3_1 : Int), cellH h e3 = some (.int .i64 e3_1) ∧
 Q (.tuple #[(.agg #[(.int .i64 r2_1f0), (.int .i64 r2_1f1), (.string r2_1f2), (.string r2_1f3), (.string r2_1f4), (.int .i64 r2_1f5), (.int .i64 r2_1f6), (.string r2_1f7)]), (.int .i64 e3_1)]) h) : lv r2 e3 Q X [] none h := by unfold lv; exact of_eq_txt (by kernel_rfl) H
theorem lv_x {r2 e3 : Addr} {Q X : VP} {v : Value} {h : Heap} (H : X v h) : lv r2 e3 Q X [] (some v) h := by unfold lv; exact H
theorem door {b0 : OA} {b0n b0c : Nat} {Q X : VP} {h : Heap} (H :
 let r2 : Addr := ⟨Array.size h, 0, none⟩
 let h1 : Heap := Array.push h (.cells #[(.int .i64 0), (.int .i64 0), (.string (⟨#[]⟩ : ByteArray)), (.string (⟨#[]⟩ : ByteArray)), (.string (⟨#[]⟩ : ByteArray)), (.int .i64 0), (.int .i64 0), (.string (⟨#[]⟩ : ByteArray))] T_api_Request (0, 0))
 let e3 : Addr := ⟨Array.size h1, 0, none⟩
 let h2 : Heap := Array.push h1 (.cells #[(.int .i64 0)] T_api_Errno (0, 0))
 let t9 : Bool := decide ((b0n : Int) > 0)
 SpecT PP F_wire_is [(.bool t9), (.int .i64 190)] h2 (fun v h3 => v = (.tuple #[]) ∧
 hwp PP (Instr.indexAt T_sl_uint8 (.slice b0 b0n b0c) (.int .i64 0)) (fun v_1 h4 => ∃ (t12 : Addr), v_1 = (.pointer (some t12)) ∧
 ∃ (t13 : Int), cellH h4 t12 = some (.int .u8 t13) ∧
 let t14 : Int := IntKind.i64.wrap t13
 wr r2 (.int .i64 t14) (fun h5 =>
 ∃ (t17 : Int), cellH h5 r2 = some (.int .i64 t17) ∧
 ∃ v_2, PureAt PP F_wire_kind [(.int .i64 t17)] v_2 ∧
 ∃ (t18 : Bool), v_2 = (.bool t18) ∧
 SpecT PP F_wire_is [(.bool t18), (.int .i64 191)] h5 (fun v_3 h6 => v_3 = (.tuple #[]) ∧
 hwp PP (Instr.sliceAt T_sl_uint8 (.slice b0 b0n b0c) (some (.int .i64 1)) none none) (fun v_4 h7 => ∃ (t21 : OA) (t21n t21c : Nat), v_4 = (.slice t21 t21n t21c) ∧
 let t23 : Addr := ⟨Array.size h7, 0, none⟩
 let h8 : Heap := Array.push h7 (.cells #[(.slice t21 t21n t21c), (.bool false)] T_wire_port (0, 0))
 let rest5 : Addr := ⟨Array.size h8, 0, none⟩
 let h9 : Heap := Array.push h8 (.cells #[(.int .i64 0), (.int .i64 0), (.string (⟨#[]⟩ : ByteArray)), (.string (⟨#[]⟩ : ByteArray)), (.string (⟨#[]⟩ : ByteArray)), (.int .i64 0), (.int .i64 0), (.string (⟨#[]⟩ : ByteArray))] T_api_Request (0, 0))
 SpecT PP F_wire_port_request [(.pointer (some t23)), (.pointer (some r2)), (.pointer (some rest5))] h9 (fun v_5 h10 => v_5 = (.tuple #[]) ∧
 ∃ (t29 : OA) (t29n t29c : Nat), cellH h10 t23 = some (.slice t29 t29n t29c) ∧
 let t31 : Bool := ((t29n : Int) == 0)
 SpecT PP F_wire_is [(.bool t31), (.int .i64 190)] h10 (fun v_6 h11 => v_6 = (.tuple #[]) ∧
 ∃ (t33f0 t33f1 : Int) (t33f2 t33f3 t33f4 : ByteArray) (t33f5 t33f6 : Int) (t33f7 : ByteArray), rdCells h11 r2 0 [(.int .i64 t33f0), (.int .i64 t33f1), (.string t33f2), (.string t33f3), (.string t33f4), (.int .i64 t33f5), (.int .i64 t33f6), (.string t33f7)] ∧
 wrCells r2 0 [(.int .i64 t33f0), (.int .i64 t33f1), (.string t33f2), (.string t33f3), (.string t33f4), (.int .i64 t33f5), (.int .i64 t33f6), (.string t33f7)] (fun h12 =>
 wr e3 (.int .i64 0) (fun h13 =>
 lv r2 e3 Q X [(F_wire_caught, [(.pointer (some e3))], []), (F_wire_GetRequest_1, [], [(.pointer (some e3)), (.pointer (some r2))])] none h13) h12) h11) (fun v_7 h14 => lv r2 e3 Q X [(F_wire_caught, [(.pointer (some e3))], []), (F_wire_GetRequest_1, [], [(.pointer (some e3)), (.pointer (some r2))])] (some v_7) h14)) (fun v_8 h15 => lv r2 e3 Q X [(F_wire_caught, [(.pointer (some e3))], []), (F_wire_GetRequest_1, [], [(.pointer (some e3)), (.pointer (some r2))])] (some v_8) h15)) h6) (fun v_9 h16 => lv r2 e3 Q X [(F_wire_caught, [(.pointer (some e3))], []), (F_wire_GetRequest_1, [], [(.pointer (some e3)), (.pointer (some r2))])] (some v_9) h16)) h4) h3) (fun v_10 h17 => lv r2 e3 Q X [(F_wire_caught, [(.pointer (some e3))], []), (F_wire_GetRequest_1, [], [(.pointer (some e3)), (.pointer (some r2))])] (some v_10) h17)) : SpecT PP F_wire_GetRequest [(.slice b0 b0n b0c)] h Q X := specT_of_txtD (ann := ann) Try.func15 rfl rfl (by kernel_rfl) H
end wire_GetRequest
/-! ### haversack/haversackkeep.Back: function 16 -/
namespace keep_Back
def ann : Ann := (.seq 3 (.region [(List.range 1, 3)]) (.seq 35 (.region [(List.range 6, 35)]) (.seq 99 (.region [(List.range 16, 99)]) (.join (.seq 96 (.seq 227 (.region [(List.range 1, 227)]) (.block (.loop 227 (.seq 227 (.seq 4294967523 (.region [(List.range 4, 4294967523)]) (.cond .leaf (.exit 96))) (.seq 227 (.block (.region [(List.range 13, 227)])) (.join (.region [(List.range 3, 227)]))))))) (.seq 64 (.seq 352 (.region [(List.range 1, 352)]) (.block (.loop 352 (.seq 352 (.seq 1125899906842976 (.region [(List.range 4, 1125899906842976)]) (.cond .leaf (.exit 64))) (.seq 352 (.block (.region [(List.range 9, 352)])) (.region [(List.range 3, 352)])))))) (.seq 16 (.region [(List.range 2, 16)]) (.exit 16))))))))
noncomputable abbrev cd (n : Nat) : Code := sub (bodyOf Try.f16) (pth n)
abbrev an (n : Nat) : Ann := subA ann (pth n)
@[irreducible] def X0 (all5 : OA) (all5n all5c : Nat) (ok6 : Bool) : Fr := (mkFr 0 62 [(5, (.slice all5 all5n all5c)), (6, (.bool ok6))])
@[irreducible] def X2 (ok6 : Bool) : Fr := (mkFr 0 62 [(6, (.bool ok6))])
@[irreducible] def J1 (x0 : OA) (x0n x0c : Nat) (b1 : OA) (b1n b1c : Nat) (all5 : OA) (all5n all5c : Nat) (ok6 : Bool) (Q : VP) (h : Heap) : Prop := Jn PP true (cd 15) (mkFr 0 62 [(0, (.slice x0 x0n x0c)), (1, (.slice b1 b1n b1c)), (5, (.slice all5 all5n all5c)), (6, (.bool ok6))]) (bodyK PP Try.f16 Q) h
@[irreducible] def K2 (Q : VP) : EP := seqK (fun fr h => ev PP true none (cd 31) (an 31) (fr.mask 96) (bodyK PP Try.f16 Q) h) (bodyK PP Try.f16 Q)
@[irreducible] def K1 (Q : VP) : EP := blockK 0 (K2 Q)
@[irreducible] def L1 (x0 : OA) (x0n x0c : Nat) (b1 : OA) (b1n b1c : Nat) (all5 : OA) (all5n all5c : Nat) (ok6 : Bool) (i7 : Int) (K : EP) (h : Heap) : Prop := Lp PP true (cd 244) (mkFr 0 62 [(0, (.slice x0 x0n x0c)), (1, (.slice b1 b1n b1c)), (5, (.slice all5 all5n all5c)), (6, (.bool ok6)), (7, (.int .i64 i7))]) K h
@[irreducible] def B1 (K : EP) : EP := seqK (fun fr h => Lp PP true (cd 244) (fr.mask 227) K h) K
@[irreducible] def J2 (x0 : OA) (x0n x0c : Nat) (b1 : OA) (b1n b1c : Nat) (all5 : OA) (all5n all5c : Nat) (ok6 : Bool) (i7 : Int) (K : EP) (h : Heap) : Prop := Jn PP true (cd 979) (mkFr 0 62 [(0, (.slice x0 x0n x0c)), (1, (.slice b1 b1n b1c)), (5, (.slice all5 all5n all5c)), (6, (.bool ok6)), (7, (.int .i64 i7))]) (B1 K) h
@[irreducible] def K4 (Q : VP) : EP := seqK (fun fr h => ev PP true none (cd 63) (an 63) (fr.mask 64) (bodyK PP Try.f16 Q) h) (bodyK PP Try.f16 Q)
@[irreducible] def K3 (Q : VP) : EP := blockK 2 (K4 Q)
@[irreducible] def L2 (all5 : OA) (all5n all5c : Nat) (ok6 : Bool) (i8 : Int) (K : EP) (h : Heap) : Prop := Lp PP true (cd 500) (mkFr 0 62 [(5, (.slice all5 all5n all5c)), (6, (.bool ok6)), (8, (.int .i64 i8))]) K h
@[irreducible] def B2 (K : EP) : EP := seqK (fun fr h => Lp PP true (cd 500) (fr.mask 352) K h) K
theorem J1_of {x0 : OA} {x0n x0c : Nat} {b1 : OA} {b1n b1c : Nat} {all5 : OA} {all5n all5c : Nat} {ok6 : Bool} {Q : VP} {h : Heap} (H :
 L1 x0 x0n x0c b1 b1n b1c all5 all5n all5c ok6 0 (K1 Q) h) : J1 x0 x0n x0c b1 b1n b1c all5 all5n all5c ok6 Q h := by unfold J1; exact Jn.of_txt (an 15) (by kernel_rfl) H
theorem L1_of {x0 : OA} {x0n x0c : Nat} {b1 : OA} {b1n b1c : Nat} {all5 : OA} {all5n all5c : Nat} {ok6 : Bool} {i7 : Int} {K : EP} {h : Heap} (H :
 let t32 : Bool := decide (i7 < (b1n : Int))
 br t32 (
 br ok6 (
 hwp PP (Instr.indexAt T_sl_uint8 (.slice x0 x0n x0c) (.int .i64 i7)) (fun v h1 => ∃ (t39 : Addr), v = (.pointer (some t39)) ∧
 ∃ (t40 : Int), cellH h1 t39 = some (.int .u8 t40) ∧
 hwp PP (Instr.indexAt T_sl_uint8 (.slice b1 b1n b1c) (.int .i64 i7)) (fun v_1 h2 => ∃ (t43 : Addr), v_1 = (.pointer (some t43)) ∧
 ∃ (t44 : Int), cellH h2 t43 = some (.int .u8 t44) ∧
 let t45 : Bool := (t40 == t44)
 J2 x0 x0n x0c b1 b1n b1c all5 all5n all5c t45 i7 K h2) h1) h) (
 J2 x0 x0n x0c b1 b1n b1c all5 all5n all5c false i7 K h)) (
 K (.exit 0) (X0 all5 all5n all5c ok6) h)) : L1 x0 x0n x0c b1 b1n b1c all5 all5n all5c ok6 i7 K h := by unfold L1; exact Lp.of_txt (an 244) 227 (by kernel_rfl) H
theorem L1_X0 {Q : VP} {all5 : OA} {all5n all5c : Nat} {ok6 : Bool} {h : Heap} (H :
 L2 all5 all5n all5c ok6 0 (K3 Q) h) : (K1 Q) (.exit 0) (X0 all5 all5n all5c ok6) h := of_eq_txt (by kernel_rfl) H
theorem J2_of {x0 : OA} {x0n x0c : Nat} {b1 : OA} {b1n b1c : Nat} {all5 : OA} {all5n all5c : Nat} {ok6 : Bool} {i7 : Int} {K : EP} {h : Heap} (H :
 let t34 : Int := IntKind.i64.wrap (i7 + 1)
 L1 x0 x0n x0c b1 b1n b1c all5 all5n all5c ok6 t34 K h) : J2 x0 x0n x0c b1 b1n b1c all5 all5n all5c ok6 i7 K h := by unfold J2; exact Jn.of_txt (an 979) (by kernel_rfl) H
theorem L2_of {all5 : OA} {all5n all5c : Nat} {ok6 : Bool} {i8 : Int} {K : EP} {h : Heap} (H :
 let t50 : Bool := decide (i8 < (all5n : Int))
 br t50 (
 hwp PP (Instr.indexAt T_sl_uint8 (.slice all5 all5n all5c) (.int .i64 i8)) (fun v h1 => ∃ (t57 : Addr), v = (.pointer (some t57)) ∧
 ∃ (t58 : Int), cellH h1 t57 = some (.int .u8 t58) ∧
 let t59 : Int := IntKind.u8.wrap (t58 + 77)
 hwp PP (Instr.indexAt T_sl_uint8 (.slice all5 all5n all5c) (.int .i64 i8)) (fun v_1 h2 => ∃ (t60 : Addr), v_1 = (.pointer (some t60)) ∧
 wr t60 (.int .u8 t59) (fun h3 =>
 let t52 : Int := IntKind.i64.wrap (i8 + 1)
 L2 all5 all5n all5c ok6 t52 K h3) h2) h1) h) (
 K (.exit 2) (X2 ok6) h)) : L2 all5 all5n all5c ok6 i8 K h := by unfold L2; exact Lp.of_txt (an 500) 352 (by kernel_rfl) H
theorem L2_X2 {Q : VP} {ok6 : Bool} {h : Heap} (H :
 Q (.bool ok6) h) : (K3 Q) (.exit 2) (X2 ok6) h := of_eq_txt (by kernel_rfl) H
theorem door {x0 : OA} {x0n x0c : Nat} {b1 : OA} {b1n b1c : Nat} {Q : VP} {h : Heap} (H :
 let t12 : Int := IntKind.i64.wrap ((b1n : Int) + 2)
 hwp PP (Instr.sliceAt T_sl_uint8 (.slice x0 x0n x0c) none (some (.int .i64 t12)) none) (fun v h1 => ∃ (t13 : OA) (t13n t13c : Nat), v = (.slice t13 t13n t13c) ∧
 hwp PP (Instr.indexAt T_sl_uint8 (.slice t13 t13n t13c) (.int .i64 (b1n : Int))) (fun v_1 h2 => ∃ (t17 : Addr), v_1 = (.pointer (some t17)) ∧
 ∃ (t18 : Int), cellH h2 t17 = some (.int .u8 t18) ∧
 let t19 : Bool := (t18 == 165)
 br t19 (
 let t24 : Int := IntKind.i64.wrap ((b1n : Int) + 1)
 hwp PP (Instr.indexAt T_sl_uint8 (.slice t13 t13n t13c) (.int .i64 t24)) (fun v_2 h3 => ∃ (t25 : Addr), v_2 = (.pointer (some t25)) ∧
 ∃ (t26 : Int), cellH h3 t25 = some (.int .u8 t26) ∧
 let t27 : Bool := (t26 == 90)
 J1 x0 x0n x0c b1 b1n b1c t13 t13n t13c t27 Q h3) h2) (
 J1 x0 x0n x0c b1 b1n b1c t13 t13n t13c false Q h2)) h1) h) : SpecH PP F_keep_Back [(.slice x0 x0n x0c), (.slice b1 b1n b1c)] h Q :=
   spec_of_txt (ann := ann) Try.func16 rfl rfl (by kernel_rfl) H
end keep_Back
/-! ### haversack/haversackref19.GetRequest: function 17 -/
namespace ref19_GetRequest
def ann : Ann := (.seq 5 (.region [(List.range 2, 5)]) (.seq 5 (.seq 1029 (.region [(List.range 3, 1029)]) (.cond (.seq 12 (.region [(List.range 3, 12)]) (.exit 12)) .leaf)) (.seq 21 (.region [(List.range 7, 21)]) (.seq 117 (.region [(List.range 9, 117)]) (.seq 53 (.seq 16777269 (.region [(List.range 2, 16777269)]) (.cond (.seq 12 (.region [(List.range 3, 12)]) (.exit 12)) .leaf)) (.seq 180 (.region [(List.range 5, 180)]) (.seq 180 (.seq 2147483828 (.region [(List.range 2, 2147483828)]) (.cond (.region [(List.range 4, 180)]) .leaf)) (.join (.seq 180 (.seq 68719476916 (.region [(List.range 2, 68719476916)]) (.cond (.region [(List.range 4, 180)]) .leaf)) (.join (.seq 180 (.seq 2199023255732 (.region [(List.range 2, 2199023255732)]) (.cond (.region [(List.range 4, 180)]) .leaf)) (.join (.seq 180 (.seq 70368744177844 (.region [(List.range 2, 70368744177844)]) (.cond (.region [(List.range 4, 180)]) .leaf)) (.join (.seq 180 (.seq 2251799813685428 (.region [(List.range 2, 2251799813685428)]) (.cond (.seq 180 (.region [(List.range 4, 180)]) (.region [(List.range 4, 180)])) .leaf)) (.join (.seq 148 (.seq 576460752303423636 (.region [(List.range 2, 576460752303423636)]) (.cond (.region [(List.range 4, 148)]) .leaf)) (.join (.seq 20 (.seq 18889465931478580854804 (.region [(List.range 12, 18889465931478580854804)]) (.join (.cond (.seq 12 (.region [(List.range 3, 12)]) (.exit 12)) .leaf))) (.seq 12 (.region [(List.range 3, 12)]) (.exit 12)))))))))))))))))))))
noncomputable abbrev cd (n : Nat) : Code := sub (bodyOf Try.f17) (pth n)
abbrev an (n : Nat) : Ann := subA ann (pth n)
@[irreducible] def J1 (t2 r4 f5 c7 : Addr) (Q : VP) (h : Heap) : Prop := Jn PP true (cd 255) (mkFr 0 77 [(2, (.pointer (some t2))), (4, (.pointer (some r4))), (5, (.pointer (some f5))), (7, (.pointer (some c7)))]) (bodyK PP Try.f17 Q) h
@[irreducible] def J2 (t2 r4 f5 c7 : Addr) (Q : VP) (h : Heap) : Prop := Jn PP true (cd 511) (mkFr 0 77 [(2, (.pointer (some t2))), (4, (.pointer (some r4))), (5, (.pointer (some f5))), (7, (.pointer (some c7)))]) (bodyK PP Try.f17 Q) h
@[irreducible] def J3 (t2 r4 f5 c7 : Addr) (Q : VP) (h : Heap) : Prop := Jn PP true (cd 1023) (mkFr 0 77 [(2, (.pointer (some t2))), (4, (.pointer (some r4))), (5, (.pointer (some f5))), (7, (.pointer (some c7)))]) (bodyK PP Try.f17 Q) h
@[irreducible] def J4 (t2 r4 f5 c7 : Addr) (Q : VP) (h : Heap) : Prop := Jn PP true (cd 2047) (mkFr 0 77 [(2, (.pointer (some t2))), (4, (.pointer (some r4))), (5, (.pointer (some f5))), (7, (.pointer (some c7)))]) (bodyK PP Try.f17 Q) h
@[irreducible] def J5 (t2 r4 f5 c7 : Addr) (Q : VP) (h : Heap) : Prop := Jn PP true (cd 4095) (mkFr 0 77 [(2, (.pointer (some t2))), (4, (.pointer (some r4))), (5, (.pointer (some f5))), (7, (.pointer (some c7)))]) (bodyK PP Try.f17 Q) h
@[irreducible] def J6 (t2 r4 c7 : Addr) (Q : VP) (h : Heap) : Prop := Jn PP true (cd 8191) (mkFr 0 77 [(2, (.pointer (some t2))), (4, (.pointer (some r4))), (7, (.pointer (some c7)))]) (bodyK PP Try.f17 Q) h
@[irreducible] def K1 (Q : VP) : EP := seqK (fun fr h => ev PP true none (cd 16383) (an 16383) (fr.mask 20) (bodyK PP Try.f17 Q) h) (bodyK PP Try.f17 Q)
@[irreducible] def J7 (t2 r4 : Addr) (t74 : Bool) (Q : VP) (h : Heap) : Prop := Jn PP true (cd 32765) (mkFr 0 77 [(2, (.pointer (some t2))), (4, (.pointer (some r4))), (74, (.bool t74))]) (K1 Q) h
theorem J1_of {t2 r4 f5 c7 : Addr} {Q : VP} {h : Heap} (H :
 hwp PP (Instr.indexAt T_7_bool (.pointer (some f5)) (.int .i64 1)) (fun v h1 => ∃ (t35 : Addr), v = (.pointer (some t35)) ∧
 ∃ (t36 : Bool), cellH h1 t35 = some (.bool t36) ∧
 br t36 (
 SpecH PP F_ref19_Cut_text [(.pointer (some c7)), (.int .i64 255)] h1 (fun v_1 h2 => ∃ (t38 : ByteArray), v_1 = (.string t38) ∧
 wr (Addr.add r4 2) (.string t38) (fun h3 =>
 J2 t2 r4 f5 c7 Q h3) h2)) (
 J2 t2 r4 f5 c7 Q h1)) h) : J1 t2 r4 f5 c7 Q h := by unfold J1; exact Jn.of_txt (an 255) (by kernel_rfl) H
theorem J2_of {t2 r4 f5 c7 : Addr} {Q : VP} {h : Heap} (H :
 hwp PP (Instr.indexAt T_7_bool (.pointer (some f5)) (.int .i64 2)) (fun v h1 => ∃ (t40 : Addr), v = (.pointer (some t40)) ∧
 ∃ (t41 : Bool), cellH h1 t40 = some (.bool t41) ∧
 br t41 (
 SpecH PP F_ref19_Cut_text [(.pointer (some c7)), (.int .i64 255)] h1 (fun v_1 h2 => ∃ (t43 : ByteArray), v_1 = (.string t43) ∧
 wr (Addr.add r4 3) (.string t43) (fun h3 =>
 J3 t2 r4 f5 c7 Q h3) h2)) (
 J3 t2 r4 f5 c7 Q h1)) h) : J2 t2 r4 f5 c7 Q h := by unfold J2; exact Jn.of_txt (an 511) (by kernel_rfl) H
theorem J3_of {t2 r4 f5 c7 : Addr} {Q : VP} {h : Heap} (H :
 hwp PP (Instr.indexAt T_7_bool (.pointer (some f5)) (.int .i64 3)) (fun v h1 => ∃ (t45 : Addr), v = (.pointer (some t45)) ∧
 ∃ (t46 : Bool), cellH h1 t45 = some (.bool t46) ∧
 br t46 (
 SpecH PP F_ref19_Cut_text [(.pointer (some c7)), (.int .i64 16384)] h1 (fun v_1 h2 => ∃ (t48 : ByteArray), v_1 = (.string t48) ∧
 wr (Addr.add r4 4) (.string t48) (fun h3 =>
 J4 t2 r4 f5 c7 Q h3) h2)) (
 J4 t2 r4 f5 c7 Q h1)) h) : J3 t2 r4 f5 c7 Q h := by unfold J3; exact Jn.of_txt (an 1023) (by kernel_rfl) H
theorem J4_of {t2 r4 f5 c7 : Addr} {Q : VP} {h : Heap} (H :
 hwp PP (Instr.indexAt T_7_bool (.pointer (some f5)) (.int .i64 4)) (fun v h1 => ∃ (t50 : Addr), v = (.pointer (some t50)) ∧
 ∃ (t51 : Bool), cellH h1 t50 = some (.bool t51) ∧
 br t51 (
 SpecH PP F_ref19_Cut_number [(.pointer (some c7))] h1 (fun v_1 h2 => ∃ (t53 : Int), v_1 = (.int .i64 t53) ∧
 wr (Addr.add r4 5) (.int .i64 t53) (fun h3 =>
 SpecH PP F_ref19_Cut_number [(.pointer (some c7))] h3 (fun v_2 h4 => ∃ (t56 : Int), v_2 = (.int .i64 t56) ∧
 wr (Addr.add r4 6) (.int .i64 t56) (fun h5 =>
 J5 t2 r4 f5 c7 Q h5) h4)) h2)) (
 J5 t2 r4 f5 c7 Q h1)) h) : J4 t2 r4 f5 c7 Q h := by unfold J4; exact Jn.of_txt (an 2047) (by kernel_rfl) H
theorem J5_of {t2 r4 f5 c7 : Addr} {Q : VP} {h : Heap} (H :
 hwp PP (Instr.indexAt T_7_bool (.pointer (some f5)) (.int .i64 6)) (fun v h1 => ∃ (t58 : Addr), v = (.pointer (some t58)) ∧
 ∃ (t59 : Bool), cellH h1 t58 = some (.bool t59) ∧
 br t59 (
 SpecH PP F_ref19_Cut_text [(.pointer (some c7)), (.int .i64 256)] h1 (fun v_1 h2 => ∃ (t61 : ByteArray), v_1 = (.string t61) ∧
 wr (Addr.add r4 7) (.string t61) (fun h3 =>
 J6 t2 r4 c7 Q h3) h2)) (
 J6 t2 r4 c7 Q h1)) h) : J5 t2 r4 f5 c7 Q h := by unfold J5; exact Jn.of_txt (an 4095) (by kernel_rfl) H
theorem J6_of {t2 r4 c7 : Addr} {Q : VP} {h : Heap} (H :
 ∃ (t66 : Bool), cellH h (Addr.add c7 1) = some (.bool t66) ∧
 br t66 (
 J7 t2 r4 true Q h) (
 ∃ (t71 : OA) (t71n t71c : Nat), cellH h c7 = some (.slice t71 t71n t71c) ∧
 let t73 : Bool := decide ((t71n : Int) > 0)
 J7 t2 r4 t73 Q h)) : J6 t2 r4 c7 Q h := by unfold J6; exact Jn.of_txt (an 8191) (by kernel_rfl) H
theorem J7_of {t2 r4 : Addr} {t74 : Bool} {Q : VP} {h : Heap} (H :
 br t74 (
 wrCells t2 0 [(.int .i64 0), (.int .i64 0), (.string (⟨#[]⟩ : ByteArray)), (.string (⟨#[]⟩ : ByteArray)), (.string (⟨#[]⟩ : ByteArray)), (.int .i64 0), (.int .i64 0), (.string (⟨#[]⟩ : ByteArray))] (fun h1 =>
 ∃ (t2_1f0 t2_1f1 : Int) (t2_1f2 t2_1f3 t2_1f4 : ByteArray) (t2_1f5 t2_1f6 : Int) (t2_1f7 : ByteArray), rdCells h1 t2 0 [(.int .i64 t2_1f0), (.int .i64 t2_1f1), (.string t2_1f2), (.string t2_1f3), (.string t2_1f4), (.int .i64 t2_1f5), (.int .i64 t2_1f6), (.string t2_1f7)] ∧
 Q (.tuple #[(.agg #[(.int .i64 t2_1f0), (.int .i64 t2_1f1), (.string t2_1f2), (.string t2_1f3), (.string t2_1f4), (.int .i64 t2_1f5), (.int .i64 t2_1f6), (.string t2_1f7)]), (.int .i64 190)]) h1) h) (
 ∃ (t76f0 t76f1 : Int) (t76f2 t76f3 t76f4 : ByteArray) (t76f5 t76f6 : Int) (t76f7 : ByteArray), rdCells h r4 0 [(.int .i64 t76f0), (.int .i64 t76f1), (.string t76f2), (.string t76f3), (.string t76f4), (.int .i64 t76f5), (.int .i64 t76f6), (.string t76f7)] ∧
 wrCells t2 0 [(.int .i64 t76f0), (.int .i64 t76f1), (.string t76f2), (.string t76f3), (.string t76f4), (.int .i64 t76f5), (.int .i64 t76f6), (.string t76f7)] (fun h2 =>
 ∃ (t2_2f0 t2_2f1 : Int) (t2_2f2 t2_2f3 t2_2f4 : ByteArray) (t2_2f5 t2_2f6 : Int) (t2_2f7 : ByteArray), rdCells h2 t2 0 [(.int .i64 t2_2f0), (.int .i64 t2_2f1), (.string t2_2f2), (.string t2_2f3), (.string t2_2f4), (.int .i64 t2_2f5), (.int .i64 t2_2f6), (.string t2_2f7)] ∧
 Q (.tuple #[(.agg #[(.int .i64 t2_2f0), (.int .i64 t2_2f1), (.string t2_2f2), (.string t2_2f3), (.string t2_2f4), (.int .i64 t2_2f5), (.int .i64 t2_2f6), (.string t2_2f7)]), (.int .i64 0)]) h2) h)) : J7 t2 r4 t74 Q h := by unfold J7; exact Jn.of_txt (an 32765) (by kernel_rfl) H
theorem door {b0 : OA} {b0n b0c : Nat} {Q : VP} {h : Heap} (H :
 let t2 : Addr := ⟨Array.size h, 0, none⟩
 let h1 : Heap := Array.push h (.cells #[(.int .i64 0), (.int .i64 0), (.string (⟨#[]⟩ : ByteArray)), (.string (⟨#[]⟩ : ByteArray)), (.string (⟨#[]⟩ : ByteArray)), (.int .i64 0), (.int .i64 0), (.string (⟨#[]⟩ : ByteArray))] T_api_Request (0, 0))
 let t10 : Bool := ((b0n : Int) == 0)
 br t10 (
 wrCells t2 0 [(.int .i64 0), (.int .i64 0), (.string (⟨#[]⟩ : ByteArray)), (.string (⟨#[]⟩ : ByteArray)), (.string (⟨#[]⟩ : ByteArray)), (.int .i64 0), (.int .i64 0), (.string (⟨#[]⟩ : ByteArray))] (fun h2 =>
 ∃ (t2_1f0 t2_1f1 : Int) (t2_1f2 t2_1f3 t2_1f4 : ByteArray) (t2_1f5 t2_1f6 : Int) (t2_1f7 : ByteArray), rdCells h2 t2 0 [(.int .i64 t2_1f0), (.int .i64 t2_1f1), (.string t2_1f2), (.string t2_1f3), (.string t2_1f4), (.int .i64 t2_1f5), (.int .i64 t2_1f6), (.string t2_1f7)] ∧
 Q (.tuple #[(.agg #[(.int .i64 t2_1f0), (.int .i64 t2_1f1), (.string t2_1f2), (.string t2_1f3), (.string t2_1f4), (.int .i64 t2_1f5), (.int .i64 t2_1f6), (.string t2_1f7)]), (.int .i64 190)]) h2) h1) (
 hwp PP (Instr.indexAt T_sl_uint8 (.slice b0 b0n b0c) (.int .i64 0)) (fun v h3 => ∃ (t13 : Addr), v = (.pointer (some t13)) ∧
 ∃ (t14 : Int), cellH h3 t13 = some (.int .u8 t14) ∧
 let t15 : Int := IntKind.i64.wrap t14
 let r4 : Addr := ⟨Array.size h3, 0, none⟩
 let h4 : Heap := Array.push h3 (.cells #[(.int .i64 0), (.int .i64 0), (.string (⟨#[]⟩ : ByteArray)), (.string (⟨#[]⟩ : ByteArray)), (.string (⟨#[]⟩ : ByteArray)), (.int .i64 0), (.int .i64 0), (.string (⟨#[]⟩ : ByteArray))] T_api_Request (0, 0))
 wrCells r4 0 [(.int .i64 t15), (.int .i64 0), (.string (⟨#[]⟩ : ByteArray)), (.string (⟨#[]⟩ : ByteArray)), (.string (⟨#[]⟩ : ByteArray)), (.int .i64 0), (.int .i64 0), (.string (⟨#[]⟩ : ByteArray))] (fun h5 =>
 ∃ (t19 : Int), cellH h5 r4 = some (.int .i64 t19) ∧
 SpecH PP F_ref19_fields [(.int .i64 t19)] h5 (fun v_1 h6 => ∃ (t20f0 t20f1 t20f2 t20f3 t20f4 t20f5 t20f6 t20_1 : Bool), v_1 = (.tuple #[(.agg #[(.bool t20f0), (.bool t20f1), (.bool t20f2), (.bool t20f3), (.bool t20f4), (.bool t20f5), (.bool t20f6)]), (.bool t20_1)]) ∧
 let f5 : Addr := ⟨Array.size h6, 0, none⟩
 let h7 : Heap := Array.push h6 (.cells #[(.bool false), (.bool false), (.bool false), (.bool false), (.bool false), (.bool false), (.bool false)] T_7_bool (0, 0))
 wrCells f5 0 [(.bool t20f0), (.bool t20f1), (.bool t20f2), (.bool t20f3), (.bool t20f4), (.bool t20f5), (.bool t20f6)] (fun h8 =>
 let t24 : Bool := (!t20_1)
 br t24 (
 wrCells t2 0 [(.int .i64 0), (.int .i64 0), (.string (⟨#[]⟩ : ByteArray)), (.string (⟨#[]⟩ : ByteArray)), (.string (⟨#[]⟩ : ByteArray)), (.int .i64 0), (.int .i64 0), (.string (⟨#[]⟩ : ByteArray))] (fun h9 =>
 ∃ (t2_2f0 t2_2f1 : Int) (t2_2f2 t2_2f3 t2_2f4 : ByteArray) (t2_2f5 t2_2f6 : Int) (t2_2f7 : ByteArray), rdCells h9 t2 0 [(.int .i64 t2_2f0), (.int .i64 t2_2f1), (.string t2_2f2), (.string t2_2f3), (.string t2_2f4), (.int .i64 t2_2f5), (.int .i64 t2_2f6), (.string t2_2f7)] ∧
 Q (.tuple #[(.agg #[(.int .i64 t2_2f0), (.int .i64 t2_2f1), (.string t2_2f2), (.string t2_2f3), (.string t2_2f4), (.int .i64 t2_2f5), (.int .i64 t2_2f6), (.string t2_2f7)]), (.int .i64 191)]) h9) h8) (
 hwp PP (Instr.sliceAt T_sl_uint8 (.slice b0 b0n b0c) (some (.int .i64 1)) none none) (fun v_2 h10 => ∃ (t27 : OA) (t27n t27c : Nat), v_2 = (.slice t27 t27n t27c) ∧
 let t29 : Addr := ⟨Array.size h10, 0, none⟩
 let h11 : Heap := Array.push h10 (.cells #[(.slice t27 t27n t27c), (.bool false)] T_haversackref19_Cut (0, 0))
 hwp PP (Instr.indexAt T_7_bool (.pointer (some f5)) (.int .i64 0)) (fun v_3 h12 => ∃ (t30 : Addr), v_3 = (.pointer (some t30)) ∧
 ∃ (t31 : Bool), cellH h12 t30 = some (.bool t31) ∧
 br t31 (
 SpecH PP F_ref19_Cut_number [(.pointer (some t29))] h12 (fun v_4 h13 => ∃ (t33 : Int), v_4 = (.int .i64 t33) ∧
 wr (Addr.add r4 1) (.int .i64 t33) (fun h14 =>
 J1 t2 r4 f5 t29 Q h14) h13)) (
 J1 t2 r4 f5 t29 Q h12)) h11) h8)) h7)) h4) h1)) : SpecH PP F_ref19_GetRequest [(.slice b0 b0n b0c)] h Q :=
   spec_of_txt (ann := ann) Try.func17 rfl rfl (by kernel_rfl) H
end ref19_GetRequest
/-! ### haversack/haversacklaw19.bigger: function 18 -/
namespace law19_bigger
def ann : Ann := (.seq 2 (.region [(List.range 2, 2)]) (.seq 10 (.region [(List.range 8, 10)]) (.seq 8 (.seq 26 (.region [(List.range 1, 26)]) (.block (.loop 26 (.seq 26 (.seq 1048602 (.region [(List.range 9, 1048602)]) (.cond .leaf (.exit 8))) (.seq 26 (.block (.region [(List.range 9, 26)])) (.region [(List.range 3, 26)])))))) (.seq 4 (.region [(List.range 3, 4)]) (.exit 4)))))
noncomputable abbrev cd (n : Nat) : Code := sub (bodyOf Try.f18) (pth n)
abbrev an (n : Nat) : Ann := subA ann (pth n)
@[irreducible] def X0 (xn3 : Int) : Fr := (mkFr 0 33 [(3, (.int .i64 xn3))])
@[irreducible] def L1 (r1 : Addr) (xn3 i4 : Int) (K : EP) (h : Heap) : Prop := Lp PP true (cd 116) (mkFr 0 33 [(1, (.pointer (some r1))), (3, (.int .i64 xn3)), (4, (.int .i64 i4))]) K h
@[irreducible] def B1 (K : EP) : EP := seqK (fun fr h => Lp PP true (cd 116) (fr.mask 26) K h) K
@[irreducible] def K2 (Q : VP) : EP := seqK (fun fr h => ev PP true none (cd 15) (an 15) (fr.mask 8) (bodyK PP Try.f18 Q) h) (bodyK PP Try.f18 Q)
@[irreducible] def K1 (Q : VP) : EP := blockK 0 (K2 Q)
theorem L1_of {r1 : Addr} {xn3 i4 : Int} {K : EP} {h : Heap} (H :
 ∃ (t14 : OA) (t14n t14c : Nat), cellH h (Addr.add r1 5) = some (.slice t14 t14n t14c) ∧
 let t16 : Bool := decide (i4 < (t14n : Int))
 br t16 (
 let t19 : Bool := decide (xn3 ≤ 1048576)
 br t19 (
 ∃ (t25 : OA) (t25n t25c : Nat), cellH h (Addr.add r1 5) = some (.slice t25 t25n t25c) ∧
 hwp PP (Instr.indexAt T_sl_string (.slice t25 t25n t25c) (.int .i64 i4)) (fun v h1 => ∃ (t27 : Addr), v = (.pointer (some t27)) ∧
 ∃ (t28 : ByteArray), cellH h1 t27 = some (.string t28) ∧
 let t29 : Int := (ByteArray.size t28 : Int)
 let t30 : Int := IntKind.i64.wrap (xn3 + t29)
 let t22 : Int := IntKind.i64.wrap (i4 + 1)
 L1 r1 t30 t22 K h1) h) (
 K (.exit 0) (X0 xn3) h)) (
 K (.exit 0) (X0 xn3) h)) : L1 r1 xn3 i4 K h := by unfold L1; exact Lp.of_txt (an 116) 26 (by kernel_rfl) H
theorem L1_X0 {Q : VP} {xn3 : Int} {h : Heap} (H :
 let t32 : Bool := decide (xn3 > 1048576)
 Q (.bool t32) h) : (K1 Q) (.exit 0) (X0 xn3) h := of_eq_txt (by kernel_rfl) H
theorem door {r0f0 r0f1 r0f2 r0f3 : Int} {r0f4 : ByteArray} {r0f5 : OA} {r0f5n r0f5c : Nat} {r0f6 r0f7 : Int} {Q : VP} {h : Heap} (H :
 let r1 : Addr := ⟨Array.size h, 0, none⟩
 let h1 : Heap := Array.push h (.cells #[(.int .i64 r0f0), (.int .i64 r0f1), (.int .i64 r0f2), (.int .i64 r0f3), (.string r0f4), (.slice r0f5 r0f5n r0f5c), (.int .i64 r0f6), (.int .i64 r0f7)] T_api_Response (0, 0))
 ∃ (t6 : ByteArray), cellH h1 (Addr.add r1 4) = some (.string t6) ∧
 let t7 : Int := (ByteArray.size t6 : Int)
 ∃ (t9 : OA) (t9n t9c : Nat), cellH h1 (Addr.add r1 5) = some (.slice t9 t9n t9c) ∧
 let t11 : Int := IntKind.i64.wrap (t7 + (t9n : Int))
 L1 r1 t11 0 (K1 Q) h1) : SpecH PP F_law19_bigger [(.agg #[(.int .i64 r0f0), (.int .i64 r0f1), (.int .i64 r0f2), (.int .i64 r0f3), (.string r0f4), (.slice r0f5 r0f5n r0f5c), (.int .i64 r0f6), (.int .i64 r0f7)])] h Q :=
   spec_of_txt (ann := ann) Try.func18 rfl rfl (by kernel_rfl) H
end law19_bigger
/-! ### haversack/wire.PutResponse: function 19 -/
namespace wire_PutResponse
def ann : Ann := (.seq 14 (.region [(List.range 3, 14)]) (.seq 14 (.thr (List.range 0) 0 14 12) (.seq 14 (.seq 3670030 (.region [(List.range 15, 3670030)]) (.block (.loop 3670030 (.seq 7864334 (.region [(List.range 1, 7864334)]) (.seq 3670030 (.cond .leaf (.exit 14)) (.seq 3670030 (.block (.seq 3670062 (.region [(List.range 3, 3670062)]) (.thr (List.range 6) 6 3670030 12))) (.join (.region [(List.range 2, 3670030)])))))))) (.seq 14 (.thr (List.range 8) 8 14 12) (.join (.seq 14 (.thr (List.range 4) 4 14 12) (.seq 78 (.region [(List.range 3, 78)]) (.seq 76 (.thr (List.range 1) 1 76 12) (.seq 72 (.thr (List.range 6) 6 76 12) (.seq 12 (.region [(List.range 6, 12)]) (.exit 12)))))))))))
noncomputable abbrev cd (n : Nat) : Code := sub (bodyOf Try.f19) (pth n)
abbrev an (n : Nat) : Ann := subA ann (pth n)
@[irreducible] def Xpan (b2 : OA) (b2n b2c : Nat) (e3 : Addr) : Fr := (mkFr 0 62 [(2, (.slice b2 b2n b2c)), (3, (.pointer (some e3)))])
@[irreducible] def X0 (r1 : Addr) (b2 : OA) (b2n b2c : Nat) (e3 : Addr) : Fr := (mkFr 0 62 [(1, (.pointer (some r1))), (2, (.slice b2 b2n b2c)), (3, (.pointer (some e3)))])
@[irreducible] def lv (b2 : OA) (b2n b2c : Nat) (e3 : Addr) (Q X : VP) (ds : List Dfr) (m : Option Value) (h : Heap) : Prop := leaveK PP (mkFr 0 62 [(2, (.slice b2 b2n b2c)), (3, (.pointer (some e3)))]) (Try.f19.results.toList) Q X ds m h
theorem lv_cons {b2 : OA} {b2n b2c : Nat} {e3 : Addr} {Q X : VP} {ds : List Dfr} {f : FuncId} {a b : List Value} {m : Option Value} {h : Heap} (H : callable PP f = true ∧ SpecD PP f (a ++ b) m h (fun m h => lv b2 b2n b2c e3 Q X ds m h)) : lv b2 b2n b2c e3 Q X ((f, a, b) :: ds) m h := by unfold lv at H ⊢; exact H
theorem lv_nil {b2 : OA} {b2n b2c : Nat} {e3 : Addr} {Q X : VP} {h : Heap} (H : ∃ (e3_1 : Int), cellH h e3 = some (.int .i64 e3_1) ∧
 Q (.tuple #[(.slice b2 b2n b2c), (.int .i64 e3_1)]) h) : lv b2 b2n b2c e3 Q X [] none h := by unfold lv; exact of_eq_txt (by kernel_rfl) H
theorem lv_x {b2 : OA} {b2n b2c : Nat} {e3 : Addr} {Q X : VP} {v : Value} {h : Heap} (H : X v h) : lv b2 b2n b2c e3 Q X [] (some v) h := by unfold lv; exact H
@[irreducible] def L1 (r1 : Addr) (b2 : OA) (b2n b2c : Nat) (e3 : Addr) (t19 : OA) (t19n t19c : Nat) (t20 t21 : Int) (K : EP) (h : Heap) : Prop := Lp PP true (cd 116) (mkFr 0 62 [(1, (.pointer (some r1))), (2, (.slice b2 b2n b2c)), (3, (.pointer (some e3))), (19, (.slice t19 t19n t19c)), (20, (.int .i64 t20)), (21, (.int .i64 t21))]) K h
@[irreducible] def B1 (K : EP) : EP := seqK (fun fr h => Lp PP true (cd 116) (fr.mask 3670030) K h) K
@[irreducible] def J1 (r1 : Addr) (b2 : OA) (b2n b2c : Nat) (e3 : Addr) (t19 : OA) (t19n t19c : Nat) (t20 t21 : Int) (K : EP) (h : Heap) : Prop := Jn PP true (cd 935) (mkFr 0 62 [(1, (.pointer (some r1))), (2, (.slice b2 b2n b2c)), (3, (.pointer (some e3))), (19, (.slice t19 t19n t19c)), (20, (.int .i64 t20)), (21, (.int .i64 t21))]) (B1 K) h
@[irreducible] def K2 (Q X : VP) (ds : List Dfr) : EP := seqK (fun fr h => ev PP true none (cd 15) (an 15) (fr.mask 14) (bodyKD PP Try.f19 Q X ds) h) (bodyKD PP Try.f19 Q X ds)
@[irreducible] def K1 (Q X : VP) (ds : List Dfr) : EP := blockK 0 (K2 Q X ds)
@[irreducible] def J2 (r1 : Addr) (b2 : OA) (b2n b2c : Nat) (e3 : Addr) (Q X : VP) (ds : List Dfr) (h : Heap) : Prop := Jn PP true (cd 31) (mkFr 0 62 [(1, (.pointer (some r1))), (2, (.slice b2 b2n b2c)), (3, (.pointer (some e3)))]) (bodyKD PP Try.f19 Q X ds) h
theorem L1_of {r1 : Addr} {b2 : OA} {b2n b2c : Nat} {e3 : Addr} {t19 : OA} {t19n t19c : Nat} {t20 t21 : Int} {K : EP} {h : Heap} (H :
 let t22 : Bool := decide (t21 < t20)
 br t22 (
 hwp PP (Instr.indexAt T_sl_int (.slice t19 t19n t19c) (.int .i64 t21)) (fun v h1 => ∃ (t23 : Addr), v = (.pointer (some t23)) ∧
 ∃ (t24 : Int), cellH h1 t23 = some (.int .i64 t24) ∧
 let t26 : Bool := decide (t24 ≥ 0)
 br t26 (
 let t29 : Bool := decide (t24 ≤ 1000000000)
 SpecT PP F_wire_is [(.bool t29), (.int .i64 1)] h1 (fun v_1 h2 => v_1 = (.tuple #[]) ∧
 J1 r1 b2 b2n b2c e3 t19 t19n t19c t20 t21 K h2) (fun v_2 h3 => K (.pan v_2) (Xpan b2 b2n b2c e3) h3)) (
 SpecT PP F_wire_is [(.bool false), (.int .i64 1)] h1 (fun v_3 h4 => v_3 = (.tuple #[]) ∧
 J1 r1 b2 b2n b2c e3 t19 t19n t19c t20 t21 K h4) (fun v_4 h5 => K (.pan v_4) (Xpan b2 b2n b2c e3) h5))) h) (
 K (.exit 0) (X0 r1 b2 b2n b2c e3) h)) : L1 r1 b2 b2n b2c e3 t19 t19n t19c t20 t21 K h := by unfold L1; exact Lp.of_txt (an 116) 3670030 (by kernel_rfl) H
theorem L1_Xpan {Q X : VP} {ds : List Dfr} {b2 : OA} {b2n b2c : Nat} {e3 : Addr} {v : Value} {h : Heap} (H :
 lv b2 b2n b2c e3 Q X ds (some v) h) : (K1 Q X ds) (.pan v) (Xpan b2 b2n b2c e3) h := of_eq_txt (by kernel_rfl) H
theorem J1_of {r1 : Addr} {b2 : OA} {b2n b2c : Nat} {e3 : Addr} {t19 : OA} {t19n t19c : Nat} {t20 t21 : Int} {K : EP} {h : Heap} (H :
 let t32 : Int := IntKind.i64.wrap (t21 + 1)
 L1 r1 b2 b2n b2c e3 t19 t19n t19c t20 t32 K h) : J1 r1 b2 b2n b2c e3 t19 t19n t19c t20 t21 K h := by unfold J1; exact Jn.of_txt (an 935) (by kernel_rfl) H
theorem L1_X0 {Q X : VP} {ds : List Dfr} {r1 : Addr} {b2 : OA} {b2n b2c : Nat} {e3 : Addr} {h : Heap} (H :
 ∃ (t34 : Int), cellH h r1 = some (.int .i64 t34) ∧
 let t35 : Bool := decide (t34 ≥ 0)
 br t35 (
 ∃ (t38 : Int), cellH h r1 = some (.int .i64 t38) ∧
 let t39 : Bool := decide (t38 ≤ 65535)
 SpecT PP F_wire_is [(.bool t39), (.int .i64 1)] h (fun v h1 => v = (.tuple #[]) ∧
 J2 r1 b2 b2n b2c e3 Q X ds h1) (fun v_1 h2 => lv b2 b2n b2c e3 Q X ds (some v_1) h2)) (
 SpecT PP F_wire_is [(.bool false), (.int .i64 1)] h (fun v_2 h3 => v_2 = (.tuple #[]) ∧
 J2 r1 b2 b2n b2c e3 Q X ds h3) (fun v_3 h4 => lv b2 b2n b2c e3 Q X ds (some v_3) h4))) : (K1 Q X ds) (.exit 0) (X0 r1 b2 b2n b2c e3) h := of_eq_txt (by kernel_rfl) H
theorem J2_of {r1 : Addr} {b2 : OA} {b2n b2c : Nat} {e3 : Addr} {Q X : VP} {ds : List Dfr} {h : Heap} (H :
 ∃ (t43 : OA) (t43n t43c : Nat), cellH h (Addr.add r1 5) = some (.slice t43 t43n t43c) ∧
 let t45 : Bool := decide ((t43n : Int) ≤ 64)
 SpecT PP F_wire_is [(.bool t45), (.int .i64 2)] h (fun v h1 => v = (.tuple #[]) ∧
 let t48 : Addr := ⟨Array.size h1, 0, none⟩
 let h2 : Heap := Array.push h1 (.cells #[(.slice none 0 0), (.bool true)] T_wire_port (0, 0))
 SpecT PP F_wire_port_response [(.pointer (some t48)), (.pointer (some r1))] h2 (fun v_1 h3 => v_1 = (.tuple #[]) ∧
 ∃ (t54 : OA) (t54n t54c : Nat), cellH h3 t48 = some (.slice t54 t54n t54c) ∧
 let t56 : Bool := decide ((t54n : Int) ≤ 20000)
 SpecT PP F_wire_is [(.bool t56), (.int .i64 2)] h3 (fun v_2 h4 => v_2 = (.tuple #[]) ∧
 ∃ (t61 : OA) (t61n t61c : Nat), cellH h4 t48 = some (.slice t61 t61n t61c) ∧
 wr e3 (.int .i64 0) (fun h5 =>
 lv t61 t61n t61c e3 Q X ds none h5) h4) (fun v_3 h6 => lv b2 b2n b2c e3 Q X ds (some v_3) h6)) (fun v_4 h7 => lv b2 b2n b2c e3 Q X ds (some v_4) h7)) (fun v_5 h8 => lv b2 b2n b2c e3 Q X ds (some v_5) h8)) : J2 r1 b2 b2n b2c e3 Q X ds h := by unfold J2; exact Jn.of_txt (an 31) (by kernel_rfl) H
theorem door {r0f0 r0f1 r0f2 r0f3 : Int} {r0f4 : ByteArray} {r0f5 : OA} {r0f5n r0f5c : Nat} {r0f6 r0f7 : Int} {Q X : VP} {h : Heap} (H :
 let r1 : Addr := ⟨Array.size h, 0, none⟩
 let h1 : Heap := Array.push h (.cells #[(.int .i64 r0f0), (.int .i64 r0f1), (.int .i64 r0f2), (.int .i64 r0f3), (.string r0f4), (.slice r0f5 r0f5n r0f5c), (.int .i64 r0f6), (.int .i64 r0f7)] T_api_Response (0, 0))
 let e3 : Addr := ⟨Array.size h1, 0, none⟩
 let h2 : Heap := Array.push h1 (.cells #[(.int .i64 0)] T_api_Errno (0, 0))
 ∃ (t8 : Int), cellH h2 (Addr.add r1 1) = some (.int .i64 t8) ∧
 ∃ (t10 : Int), cellH h2 (Addr.add r1 2) = some (.int .i64 t10) ∧
 ∃ (t12 : Int), cellH h2 (Addr.add r1 3) = some (.int .i64 t12) ∧
 ∃ (t15 : Int), cellH h2 (Addr.add r1 6) = some (.int .i64 t15) ∧
 ∃ (t18 : Int), cellH h2 (Addr.add (Addr.add r1 6) 1) = some (.int .i64 t18) ∧
 let h3 : Heap := Array.push h2 (.cells #[(.int .i64 t8), (.int .i64 t10), (.int .i64 t12), (.int .i64 t15), (.int .i64 t18)] T_int (0, 0))
 L1 r1 none 0 0 e3 (some ⟨Array.size h2, 0, none⟩) 5 5 5 0 (K1 Q X [(F_wire_caught, [(.pointer (some e3))], [])]) h3) : SpecT PP F_wire_PutResponse [(.agg #[(.int .i64 r0f0), (.int .i64 r0f1), (.int .i64 r0f2), (.int .i64 r0f3), (.string r0f4), (.slice r0f5 r0f5n r0f5c), (.int .i64 r0f6), (.int .i64 r0f7)])] h Q X := specT_of_txtD (ann := ann) Try.func19 rfl rfl (by kernel_rfl) H
end wire_PutResponse
/-! ### haversack/haversackref19.PutResponse: function 20 -/
namespace ref19_PutResponse
def ann : Ann := (.seq 2 (.region [(List.range 3, 2)]) (.seq 2 (.seq 35184372088834 (.region [(List.range 40, 35184372088834)]) (.join (.cond (.seq 12 (.region [(List.range 2, 12)]) (.exit 12)) .leaf))) (.seq 2 (.seq 36028797018963970 (.region [(List.range 10, 36028797018963970)]) (.join (.cond (.seq 12 (.region [(List.range 2, 12)]) (.exit 12)) .leaf))) (.seq 18 (.region [(List.range 10, 18)]) (.seq 18 (.region [(List.range 5, 18)]) (.seq 18 (.region [(List.range 5, 18)]) (.seq 18 (.region [(List.range 5, 18)]) (.seq 18 (.region [(List.range 6, 18)]) (.seq 18 (.region [(List.range 6, 18)]) (.seq 18 (.region [(List.range 5, 18)]) (.seq 18 (.region [(List.range 8, 18)]) (.seq 16 (.seq 50 (.region [(List.range 1, 50)]) (.block (.loop 50 (.seq 50 (.seq 5070602400912917605986812821554 (.region [(List.range 5, 5070602400912917605986812821554)]) (.cond .leaf (.exit 16))) (.seq 50 (.block (.seq 50 (.seq 2596148429267413814265248164610098 (.region [(List.range 7, 2596148429267413814265248164610098)]) (.cond (.seq 12 (.region [(List.range 2, 12)]) (.exit 12)) .leaf)) (.seq 50 (.region [(List.range 11, 50)]) (.region [(List.range 8, 50)])))) (.region [(List.range 3, 50)])))))) (.seq 16 (.seq 2722258935367507707706996859454145691664 (.region [(List.range 3, 2722258935367507707706996859454145691664)]) (.cond (.seq 12 (.region [(List.range 2, 12)]) (.exit 12)) .leaf)) (.seq 12 (.region [(List.range 3, 12)]) (.exit 12)))))))))))))))
noncomputable abbrev cd (n : Nat) : Code := sub (bodyOf Try.f20) (pth n)
abbrev an (n : Nat) : Ann := subA ann (pth n)
@[irreducible] def Xret (t2 : OA) (t2n t2c : Nat) (t3 : Int) : Fr := (mkFr 0 133 [(2, (.slice t2 t2n t2c)), (3, (.int .i64 t3))])
@[irreducible] def X0 (b4 : OA) (b4n b4c : Nat) : Fr := (mkFr 0 133 [(4, (.slice b4 b4n b4c))])
@[irreducible] def K1 (Q : VP) : EP := seqK (fun fr h => ev PP true none (cd 7) (an 7) (fr.mask 2) (bodyK PP Try.f20 Q) h) (bodyK PP Try.f20 Q)
@[irreducible] def J1 (r1 : Addr) (t45 : Bool) (Q : VP) (h : Heap) : Prop := Jn PP true (cd 13) (mkFr 0 133 [(1, (.pointer (some r1))), (45, (.bool t45))]) (K1 Q) h
@[irreducible] def K2 (Q : VP) : EP := seqK (fun fr h => ev PP true none (cd 15) (an 15) (fr.mask 2) (bodyK PP Try.f20 Q) h) (bodyK PP Try.f20 Q)
@[irreducible] def J2 (r1 : Addr) (t55 : Bool) (Q : VP) (h : Heap) : Prop := Jn PP true (cd 29) (mkFr 0 133 [(1, (.pointer (some r1))), (55, (.bool t55))]) (K2 Q) h
@[irreducible] def K4 (Q : VP) : EP := seqK (fun fr h => ev PP true none (cd 8191) (an 8191) (fr.mask 16) (bodyK PP Try.f20 Q) h) (bodyK PP Try.f20 Q)
@[irreducible] def K3 (Q : VP) : EP := blockK 0 (K4 Q)
@[irreducible] def L1 (r1 : Addr) (b4 : OA) (b4n b4c : Nat) (i5 : Int) (K : EP) (h : Heap) : Prop := Lp PP true (cd 65524) (mkFr 0 133 [(1, (.pointer (some r1))), (4, (.slice b4 b4n b4c)), (5, (.int .i64 i5))]) K h
@[irreducible] def B1 (K : EP) : EP := seqK (fun fr h => Lp PP true (cd 65524) (fr.mask 50) K h) K
theorem J1_of {r1 : Addr} {t45 : Bool} {Q : VP} {h : Heap} (H :
 br t45 (
 Q (.tuple #[(.slice none 0 0), (.int .i64 1)]) h) (
 ∃ (t47 : ByteArray), cellH h (Addr.add r1 4) = some (.string t47) ∧
 let t48 : Int := (ByteArray.size t47 : Int)
 let t49 : Bool := decide (t48 > 16384)
 br t49 (
 J2 r1 true Q h) (
 ∃ (t52 : OA) (t52n t52c : Nat), cellH h (Addr.add r1 5) = some (.slice t52 t52n t52c) ∧
 let t54 : Bool := decide ((t52n : Int) > 64)
 J2 r1 t54 Q h))) : J1 r1 t45 Q h := by unfold J1; exact Jn.of_txt (an 13) (by kernel_rfl) H
theorem J2_of {r1 : Addr} {t55 : Bool} {Q : VP} {h : Heap} (H :
 br t55 (
 Q (.tuple #[(.slice none 0 0), (.int .i64 2)]) h) (
 ∃ (t57 : Int), cellH h r1 = some (.int .i64 t57) ∧
 let t58 : Int := Int.tmod t57 256
 let t59 : Int := IntKind.u8.wrap t58
 ∃ (t61 : Int), cellH h r1 = some (.int .i64 t61) ∧
 let t62 : Int := IntKind.i64.wrap (Int.tdiv t61 256)
 let t63 : Int := IntKind.u8.wrap t62
 let h1 : Heap := Array.push h (.cells #[(.int .u8 t59), (.int .u8 t63)] T_uint8 (0, 0))
 ∃ (t67 : Int), cellH h1 (Addr.add r1 1) = some (.int .i64 t67) ∧
 SpecH PP F_ref19_number [(.slice (some ⟨Array.size h, 0, none⟩) 2 2), (.int .i64 t67)] h1 (fun v h2 => ∃ (t68 : OA) (t68n t68c : Nat), v = (.slice t68 t68n t68c) ∧
 ∃ (t71 : Int), cellH h2 (Addr.add r1 2) = some (.int .i64 t71) ∧
 SpecH PP F_ref19_number [(.slice t68 t68n t68c), (.int .i64 t71)] h2 (fun v_1 h3 => ∃ (t72 : OA) (t72n t72c : Nat), v_1 = (.slice t72 t72n t72c) ∧
 ∃ (t75 : Int), cellH h3 (Addr.add r1 3) = some (.int .i64 t75) ∧
 SpecH PP F_ref19_number [(.slice t72 t72n t72c), (.int .i64 t75)] h3 (fun v_2 h4 => ∃ (t76 : OA) (t76n t76c : Nat), v_2 = (.slice t76 t76n t76c) ∧
 ∃ (t80 : Int), cellH h4 (Addr.add r1 6) = some (.int .i64 t80) ∧
 SpecH PP F_ref19_number [(.slice t76 t76n t76c), (.int .i64 t80)] h4 (fun v_3 h5 => ∃ (t81 : OA) (t81n t81c : Nat), v_3 = (.slice t81 t81n t81c) ∧
 ∃ (t85 : Int), cellH h5 (Addr.add (Addr.add r1 6) 1) = some (.int .i64 t85) ∧
 SpecH PP F_ref19_number [(.slice t81 t81n t81c), (.int .i64 t85)] h5 (fun v_4 h6 => ∃ (t86 : OA) (t86n t86c : Nat), v_4 = (.slice t86 t86n t86c) ∧
 ∃ (t89 : ByteArray), cellH h6 (Addr.add r1 4) = some (.string t89) ∧
 SpecH PP F_ref19_text [(.slice t86 t86n t86c), (.string t89)] h6 (fun v_5 h7 => ∃ (t90 : OA) (t90n t90c : Nat), v_5 = (.slice t90 t90n t90c) ∧
 ∃ (t93 : OA) (t93n t93c : Nat), cellH h7 (Addr.add r1 5) = some (.slice t93 t93n t93c) ∧
 let t95 : Int := IntKind.u8.wrap (t93n : Int)
 let h8 : Heap := Array.push h7 (.cells #[(.int .u8 t95)] T_uint8 (0, 0))
 hwp PP (Builtin.append_ #[T_sl_uint8, T_sl_uint8] T_sl_uint8 #[(.slice t90 t90n t90c), (.slice (some ⟨Array.size h7, 0, none⟩) 1 1)]) (fun v_6 h9 => ∃ (t97 : OA) (t97n t97c : Nat), v_6 = (.slice t97 t97n t97c) ∧
 L1 r1 t97 t97n t97c 0 (K3 Q) h9) h8)))))))) : J2 r1 t55 Q h := by unfold J2; exact Jn.of_txt (an 29) (by kernel_rfl) H
theorem L1_of {r1 : Addr} {b4 : OA} {b4n b4c : Nat} {i5 : Int} {K : EP} {h : Heap} (H :
 ∃ (t100 : OA) (t100n t100c : Nat), cellH h (Addr.add r1 5) = some (.slice t100 t100n t100c) ∧
 let t102 : Bool := decide (i5 < (t100n : Int))
 br t102 (
 ∃ (t106 : OA) (t106n t106c : Nat), cellH h (Addr.add r1 5) = some (.slice t106 t106n t106c) ∧
 hwp PP (Instr.indexAt T_sl_string (.slice t106 t106n t106c) (.int .i64 i5)) (fun v h1 => ∃ (t108 : Addr), v = (.pointer (some t108)) ∧
 ∃ (t109 : ByteArray), cellH h1 t108 = some (.string t109) ∧
 let t110 : Int := (ByteArray.size t109 : Int)
 let t111 : Bool := decide (t110 > 255)
 br t111 (
 K .ret (Xret none 0 0 2) h1) (
 ∃ (t114 : OA) (t114n t114c : Nat), cellH h1 (Addr.add r1 5) = some (.slice t114 t114n t114c) ∧
 hwp PP (Instr.indexAt T_sl_string (.slice t114 t114n t114c) (.int .i64 i5)) (fun v_1 h2 => ∃ (t116 : Addr), v_1 = (.pointer (some t116)) ∧
 ∃ (t117 : ByteArray), cellH h2 t116 = some (.string t117) ∧
 let t118 : Int := (ByteArray.size t117 : Int)
 let t119 : Int := IntKind.u8.wrap t118
 let h3 : Heap := Array.push h2 (.cells #[(.int .u8 t119)] T_uint8 (0, 0))
 hwp PP (Builtin.append_ #[T_sl_uint8, T_sl_uint8] T_sl_uint8 #[(.slice b4 b4n b4c), (.slice (some ⟨Array.size h2, 0, none⟩) 1 1)]) (fun v_2 h4 => ∃ (t121 : OA) (t121n t121c : Nat), v_2 = (.slice t121 t121n t121c) ∧
 ∃ (t124 : OA) (t124n t124c : Nat), cellH h4 (Addr.add r1 5) = some (.slice t124 t124n t124c) ∧
 hwp PP (Instr.indexAt T_sl_string (.slice t124 t124n t124c) (.int .i64 i5)) (fun v_3 h5 => ∃ (t126 : Addr), v_3 = (.pointer (some t126)) ∧
 ∃ (t127 : ByteArray), cellH h5 t126 = some (.string t127) ∧
 hwp PP (Builtin.append_ #[T_sl_uint8, T_string] T_sl_uint8 #[(.slice t121 t121n t121c), (.string t127)]) (fun v_4 h6 => ∃ (t128 : OA) (t128n t128c : Nat), v_4 = (.slice t128 t128n t128c) ∧
 let t104 : Int := IntKind.i64.wrap (i5 + 1)
 L1 r1 t128 t128n t128c t104 K h6) h5) h4) h3) h1)) h) (
 K (.exit 0) (X0 b4 b4n b4c) h)) : L1 r1 b4 b4n b4c i5 K h := by unfold L1; exact Lp.of_txt (an 65524) 50 (by kernel_rfl) H
theorem L1_Xret {Q : VP} {t2 : OA} {t2n t2c : Nat} {t3 : Int} {h : Heap} (H :
 Q (.tuple #[(.slice t2 t2n t2c), (.int .i64 t3)]) h) : (K3 Q) .ret (Xret t2 t2n t2c t3) h := of_eq_txt (by kernel_rfl) H
theorem L1_X0 {Q : VP} {b4 : OA} {b4n b4c : Nat} {h : Heap} (H :
 let t131 : Bool := decide ((b4n : Int) > 20000)
 br t131 (
 Q (.tuple #[(.slice none 0 0), (.int .i64 2)]) h) (
 Q (.tuple #[(.slice b4 b4n b4c), (.int .i64 0)]) h)) : (K3 Q) (.exit 0) (X0 b4 b4n b4c) h := of_eq_txt (by kernel_rfl) H
theorem door {r0f0 r0f1 r0f2 r0f3 : Int} {r0f4 : ByteArray} {r0f5 : OA} {r0f5n r0f5c : Nat} {r0f6 r0f7 : Int} {Q : VP} {h : Heap} (H :
 let r1 : Addr := ⟨Array.size h, 0, none⟩
 let h1 : Heap := Array.push h (.cells #[(.int .i64 r0f0), (.int .i64 r0f1), (.int .i64 r0f2), (.int .i64 r0f3), (.string r0f4), (.slice r0f5 r0f5n r0f5c), (.int .i64 r0f6), (.int .i64 r0f7)] T_api_Response (0, 0))
 ∃ (t7 : Int), cellH h1 r1 = some (.int .i64 t7) ∧
 let t8 : Bool := decide (t7 < 0)
 br t8 (
 J1 r1 true Q h1) (
 ∃ (t11 : Int), cellH h1 r1 = some (.int .i64 t11) ∧
 let t12 : Bool := decide (t11 > 65535)
 br t12 (
 J1 r1 true Q h1) (
 ∃ (t16 : Int), cellH h1 (Addr.add r1 1) = some (.int .i64 t16) ∧
 ∃ v, PureAt PP F_ref19_within [(.int .i64 t16)] v ∧
 ∃ (t17 : Bool), v = (.bool t17) ∧
 let t18 : Bool := (!t17)
 br t18 (
 J1 r1 true Q h1) (
 ∃ (t22 : Int), cellH h1 (Addr.add r1 2) = some (.int .i64 t22) ∧
 ∃ v_1, PureAt PP F_ref19_within [(.int .i64 t22)] v_1 ∧
 ∃ (t23 : Bool), v_1 = (.bool t23) ∧
 let t24 : Bool := (!t23)
 br t24 (
 J1 r1 true Q h1) (
 ∃ (t28 : Int), cellH h1 (Addr.add r1 3) = some (.int .i64 t28) ∧
 ∃ v_2, PureAt PP F_ref19_within [(.int .i64 t28)] v_2 ∧
 ∃ (t29 : Bool), v_2 = (.bool t29) ∧
 let t30 : Bool := (!t29)
 br t30 (
 J1 r1 true Q h1) (
 ∃ (t35 : Int), cellH h1 (Addr.add r1 6) = some (.int .i64 t35) ∧
 ∃ v_3, PureAt PP F_ref19_within [(.int .i64 t35)] v_3 ∧
 ∃ (t36 : Bool), v_3 = (.bool t36) ∧
 let t37 : Bool := (!t36)
 br t37 (
 J1 r1 true Q h1) (
 ∃ (t42 : Int), cellH h1 (Addr.add (Addr.add r1 6) 1) = some (.int .i64 t42) ∧
 ∃ v_4, PureAt PP F_ref19_within [(.int .i64 t42)] v_4 ∧
 ∃ (t43 : Bool), v_4 = (.bool t43) ∧
 let t44 : Bool := (!t43)
 J1 r1 t44 Q h1))))))) : SpecH PP F_ref19_PutResponse [(.agg #[(.int .i64 r0f0), (.int .i64 r0f1), (.int .i64 r0f2), (.int .i64 r0f3), (.string r0f4), (.slice r0f5 r0f5n r0f5c), (.int .i64 r0f6), (.int .i64 r0f7)])] h Q :=
   spec_of_txt (ann := ann) Try.func20 rfl rfl (by kernel_rfl) H
end ref19_PutResponse
/-! ### haversack/haversackref19.Same: function 21 -/
namespace ref19_Same
def ann : Ann := (.seq 12 (.region [(List.range 3, 12)]) (.seq 12 (.seq 18014398509481996 (.region [(List.range 49, 18014398509481996)]) (.join (.cond (.seq 16 (.region [(List.range 1, 16)]) (.exit 16)) .leaf))) (.seq 0 (.seq 44 (.region [(List.range 1, 44)]) (.block (.loop 44 (.seq 44 (.seq 576460752303423532 (.region [(List.range 5, 576460752303423532)]) (.cond .leaf (.exit 0))) (.seq 44 (.block (.seq 4722366482869645213740 (.region [(List.range 11, 4722366482869645213740)]) (.cond (.seq 16 (.region [(List.range 1, 16)]) (.exit 16)) .leaf))) (.region [(List.range 3, 44)])))))) (.seq 16 (.region [(List.range 1, 16)]) (.exit 16)))))
noncomputable abbrev cd (n : Nat) : Code := sub (bodyOf Try.f21) (pth n)
abbrev an (n : Nat) : Ann := subA ann (pth n)
@[irreducible] def Xret (t4 : Bool) : Fr := (mkFr 0 73 [(4, (.bool t4))])
@[irreducible] def X0  : Fr := (mkFr 0 73 [])
@[irreducible] def K1 (Q : VP) : EP := seqK (fun fr h => ev PP true none (cd 7) (an 7) (fr.mask 12) (bodyK PP Try.f21 Q) h) (bodyK PP Try.f21 Q)
@[irreducible] def J1 (a2 b3 : Addr) (t54 : Bool) (Q : VP) (h : Heap) : Prop := Jn PP true (cd 13) (mkFr 0 73 [(2, (.pointer (some a2))), (3, (.pointer (some b3))), (54, (.bool t54))]) (K1 Q) h
@[irreducible] def K3 (Q : VP) : EP := seqK (fun fr h => ev PP true none (cd 15) (an 15) (fr.mask 0) (bodyK PP Try.f21 Q) h) (bodyK PP Try.f21 Q)
@[irreducible] def K2 (Q : VP) : EP := blockK 0 (K3 Q)
@[irreducible] def L1 (a2 b3 : Addr) (i5 : Int) (K : EP) (h : Heap) : Prop := Lp PP true (cd 116) (mkFr 0 73 [(2, (.pointer (some a2))), (3, (.pointer (some b3))), (5, (.int .i64 i5))]) K h
@[irreducible] def B1 (K : EP) : EP := seqK (fun fr h => Lp PP true (cd 116) (fr.mask 44) K h) K
theorem J1_of {a2 b3 : Addr} {t54 : Bool} {Q : VP} {h : Heap} (H :
 br t54 (
 Q (.bool false) h) (
 L1 a2 b3 0 (K2 Q) h)) : J1 a2 b3 t54 Q h := by unfold J1; exact Jn.of_txt (an 13) (by kernel_rfl) H
theorem L1_of {a2 b3 : Addr} {i5 : Int} {K : EP} {h : Heap} (H :
 ∃ (t57 : OA) (t57n t57c : Nat), cellH h (Addr.add a2 5) = some (.slice t57 t57n t57c) ∧
 let t59 : Bool := decide (i5 < (t57n : Int))
 br t59 (
 ∃ (t63 : OA) (t63n t63c : Nat), cellH h (Addr.add a2 5) = some (.slice t63 t63n t63c) ∧
 hwp PP (Instr.indexAt T_sl_string (.slice t63 t63n t63c) (.int .i64 i5)) (fun v h1 => ∃ (t65 : Addr), v = (.pointer (some t65)) ∧
 ∃ (t66 : ByteArray), cellH h1 t65 = some (.string t66) ∧
 ∃ (t68 : OA) (t68n t68c : Nat), cellH h1 (Addr.add b3 5) = some (.slice t68 t68n t68c) ∧
 hwp PP (Instr.indexAt T_sl_string (.slice t68 t68n t68c) (.int .i64 i5)) (fun v_1 h2 => ∃ (t70 : Addr), v_1 = (.pointer (some t70)) ∧
 ∃ (t71 : ByteArray), cellH h2 t70 = some (.string t71) ∧
 let t72 : Bool := (!decide (t66 = t71))
 br t72 (
 K .ret (Xret false) h2) (
 let t61 : Int := IntKind.i64.wrap (i5 + 1)
 L1 a2 b3 t61 K h2)) h1) h) (
 K (.exit 0) (X0) h)) : L1 a2 b3 i5 K h := by unfold L1; exact Lp.of_txt (an 116) 44 (by kernel_rfl) H
theorem L1_Xret {Q : VP} {t4 : Bool} {h : Heap} (H :
 Q (.bool t4) h) : (K2 Q) .ret (Xret t4) h := of_eq_txt (by kernel_rfl) H
theorem L1_X0 {Q : VP}  {h : Heap} (H :
 Q (.bool true) h) : (K2 Q) (.exit 0) (X0 ) h := of_eq_txt (by kernel_rfl) H
theorem door {a0f0 a0f1 a0f2 a0f3 : Int} {a0f4 : ByteArray} {a0f5 : OA} {a0f5n a0f5c : Nat} {a0f6 a0f7 b1f0 b1f1 b1f2 b1f3 : Int} {b1f4 : ByteArray} {b1f5 : OA} {b1f5n b1f5c : Nat} {b1f6 b1f7 : Int} {Q : VP} {h : Heap} (H :
 let a2 : Addr := ⟨Array.size h, 0, none⟩
 let h1 : Heap := Array.push h (.cells #[(.int .i64 a0f0), (.int .i64 a0f1), (.int .i64 a0f2), (.int .i64 a0f3), (.string a0f4), (.slice a0f5 a0f5n a0f5c), (.int .i64 a0f6), (.int .i64 a0f7)] T_api_Response (0, 0))
 let b3 : Addr := ⟨Array.size h1, 0, none⟩
 let h2 : Heap := Array.push h1 (.cells #[(.int .i64 b1f0), (.int .i64 b1f1), (.int .i64 b1f2), (.int .i64 b1f3), (.string b1f4), (.slice b1f5 b1f5n b1f5c), (.int .i64 b1f6), (.int .i64 b1f7)] T_api_Response (0, 0))
 ∃ (t7 : Int), cellH h2 a2 = some (.int .i64 t7) ∧
 ∃ (t9 : Int), cellH h2 b3 = some (.int .i64 t9) ∧
 let t10 : Bool := (t7 != t9)
 br t10 (
 J1 a2 b3 true Q h2) (
 ∃ (t13 : Int), cellH h2 (Addr.add a2 1) = some (.int .i64 t13) ∧
 ∃ (t15 : Int), cellH h2 (Addr.add b3 1) = some (.int .i64 t15) ∧
 let t16 : Bool := (t13 != t15)
 br t16 (
 J1 a2 b3 true Q h2) (
 ∃ (t20 : Int), cellH h2 (Addr.add a2 2) = some (.int .i64 t20) ∧
 ∃ (t22 : Int), cellH h2 (Addr.add b3 2) = some (.int .i64 t22) ∧
 let t23 : Bool := (t20 != t22)
 br t23 (
 J1 a2 b3 true Q h2) (
 ∃ (t27 : Int), cellH h2 (Addr.add a2 3) = some (.int .i64 t27) ∧
 ∃ (t29 : Int), cellH h2 (Addr.add b3 3) = some (.int .i64 t29) ∧
 let t30 : Bool := (t27 != t29)
 br t30 (
 J1 a2 b3 true Q h2) (
 ∃ (t34 : ByteArray), cellH h2 (Addr.add a2 4) = some (.string t34) ∧
 ∃ (t36 : ByteArray), cellH h2 (Addr.add b3 4) = some (.string t36) ∧
 let t37 : Bool := (!decide (t34 = t36))
 br t37 (
 J1 a2 b3 true Q h2) (
 ∃ (t41f0 t41f1 : Int), rdCells h2 (Addr.add a2 6) 0 [(.int .i64 t41f0), (.int .i64 t41f1)] ∧
 ∃ (t43f0 t43f1 : Int), rdCells h2 (Addr.add b3 6) 0 [(.int .i64 t43f0), (.int .i64 t43f1)] ∧
 let t44 : Bool := (!((t41f0 == t43f0) && ((t41f1 == t43f1) && true)))
 br t44 (
 J1 a2 b3 true Q h2) (
 ∃ (t48 : OA) (t48n t48c : Nat), cellH h2 (Addr.add a2 5) = some (.slice t48 t48n t48c) ∧
 ∃ (t51 : OA) (t51n t51c : Nat), cellH h2 (Addr.add b3 5) = some (.slice t51 t51n t51c) ∧
 let t53 : Bool := ((t48n : Int) != (t51n : Int))
 J1 a2 b3 t53 Q h2))))))) : SpecH PP F_ref19_Same [(.agg #[(.int .i64 a0f0), (.int .i64 a0f1), (.int .i64 a0f2), (.int .i64 a0f3), (.string a0f4), (.slice a0f5 a0f5n a0f5c), (.int .i64 a0f6), (.int .i64 a0f7)]), (.agg #[(.int .i64 b1f0), (.int .i64 b1f1), (.int .i64 b1f2), (.int .i64 b1f3), (.string b1f4), (.slice b1f5 b1f5n b1f5c), (.int .i64 b1f6), (.int .i64 b1f7)])] h Q :=
   spec_of_txt (ann := ann) Try.func21 rfl rfl (by kernel_rfl) H
end ref19_Same
/-! ### haversack/wire.GetResponse: function 22 -/
namespace wire_GetResponse
def ann : Ann := (.seq 13 (.region [(List.range 2, 13)]) (.seq 13 (.thr (List.range 1) 1 13 12) (.seq 13 (.thr (List.range 0) 0 13 12) (.seq 13 (.thr (List.range 3) 3 13 12) (.seq 28 (.region [(List.range 4, 28)]) (.seq 28 (.thr (List.range 1) 1 28 12) (.seq 12 (.thr (List.range 6) 6 12 12) (.seq 12 (.region [(List.range 3, 12)]) (.exit 12)))))))))
noncomputable abbrev cd (n : Nat) : Code := sub (bodyOf Try.f22) (pth n)
abbrev an (n : Nat) : Ann := subA ann (pth n)
@[irreducible] def lv (r2 e3 : Addr) (Q X : VP) (ds : List Dfr) (m : Option Value) (h : Heap) : Prop := leaveK PP (mkFr 0 23 [(2, (.pointer (some r2))), (3, (.pointer (some e3)))]) (Try.f22.results.toList) Q X ds m h
theorem lv_cons {r2 e3 : Addr} {Q X : VP} {ds : List Dfr} {f : FuncId} {a b : List Value} {m : Option Value} {h : Heap} (H : callable PP f = true ∧ SpecD PP f (a ++ b) m h (fun m h => lv r2 e3 Q X ds m h)) : lv r2 e3 Q X ((f, a, b) :: ds) m h := by unfold lv at H ⊢; exact H
theorem lv_nil {r2 e3 : Addr} {Q X : VP} {h : Heap} (H : ∃ (r2_1f0 r2_1f1 r2_1f2 r2_1f3 : Int) (r2_1f4 : ByteArray) (r2_1f5 : OA) (r2_1f5n r2_1f5c : Nat) (r2_1f6 r2_1f7 : Int), rdCells h r2 0 [(.int .i64 r2_1f0), (.int .i64 r2_1f1), (.int .i64 r2_1f2), (.int .i64 r2_1f3), (.string r2_1f4), (.slice r2_1f5 r2_1f5n r2_1f5c), (.int .i64 r2_1f6), (.int .i64 r2_1f7)] ∧
 ∃ (e3_1 : Int), cellH h e3 = some (.int .i64 e3_1) ∧
 Q (.tuple #[(.agg #[(.int .i64 r2_1f0), (.int .i64 r2_1f1), (.int .i64 r2_1f2), (.int .i64 r2_1f3), (.string r2_1f4), (.slice r2_1f5 r2_1f5n r2_1f5c), (.int .i64 r2_1f6), (.int .i64 r2_1f7)]), (.int .i64 e3_1)]) h) : lv r2 e3 Q X [] none h := by unfold lv; exact of_eq_txt (by kernel_rfl) H
theorem lv_x {r2 e3 : Addr} {Q X : VP} {v : Value} {h : Heap} (H : X v h) : lv r2 e3 Q X [] (some v) h := by unfold lv; exact H
theorem door {b0 : OA} {b0n b0c : Nat} {Q X : VP} {h : Heap} (H :
 let r2 : Addr := ⟨Array.size h, 0, none⟩
 let h1 : Heap := Array.push h (.cells #[(.int .i64 0), (.int .i64 0), (.int .i64 0), (.int .i64 0), (.string (⟨#[]⟩ : ByteArray)), (.slice none 0 0), (.int .i64 0), (.int .i64 0)] T_api_Response (0, 0))
 let e3 : Addr := ⟨Array.size h1, 0, none⟩
 let h2 : Heap := Array.push h1 (.cells #[(.int .i64 0)] T_api_Errno (0, 0))
 let t8 : Bool := decide ((b0n : Int) ≤ 20000)
 SpecT PP F_wire_is [(.bool t8), (.int .i64 190)] h2 (fun v h3 => v = (.tuple #[]) ∧
 let t12 : Addr := ⟨Array.size h3, 0, none⟩
 let h4 : Heap := Array.push h3 (.cells #[(.slice b0 b0n b0c), (.bool false)] T_wire_port (0, 0))
 SpecT PP F_wire_port_response [(.pointer (some t12)), (.pointer (some r2))] h4 (fun v_1 h5 => v_1 = (.tuple #[]) ∧
 ∃ (t18 : OA) (t18n t18c : Nat), cellH h5 t12 = some (.slice t18 t18n t18c) ∧
 let t20 : Bool := ((t18n : Int) == 0)
 SpecT PP F_wire_is [(.bool t20), (.int .i64 190)] h5 (fun v_2 h6 => v_2 = (.tuple #[]) ∧
 ∃ (t22f0 t22f1 t22f2 t22f3 : Int) (t22f4 : ByteArray) (t22f5 : OA) (t22f5n t22f5c : Nat) (t22f6 t22f7 : Int), rdCells h6 r2 0 [(.int .i64 t22f0), (.int .i64 t22f1), (.int .i64 t22f2), (.int .i64 t22f3), (.string t22f4), (.slice t22f5 t22f5n t22f5c), (.int .i64 t22f6), (.int .i64 t22f7)] ∧
 wrCells r2 0 [(.int .i64 t22f0), (.int .i64 t22f1), (.int .i64 t22f2), (.int .i64 t22f3), (.string t22f4), (.slice t22f5 t22f5n t22f5c), (.int .i64 t22f6), (.int .i64 t22f7)] (fun h7 =>
 wr e3 (.int .i64 0) (fun h8 =>
 lv r2 e3 Q X [(F_wire_caught, [(.pointer (some e3))], []), (F_wire_GetResponse_1, [], [(.pointer (some e3)), (.pointer (some r2))])] none h8) h7) h6) (fun v_3 h9 => lv r2 e3 Q X [(F_wire_caught, [(.pointer (some e3))], []), (F_wire_GetResponse_1, [], [(.pointer (some e3)), (.pointer (some r2))])] (some v_3) h9)) (fun v_4 h10 => lv r2 e3 Q X [(F_wire_caught, [(.pointer (some e3))], []), (F_wire_GetResponse_1, [], [(.pointer (some e3)), (.pointer (some r2))])] (some v_4) h10)) (fun v_5 h11 => lv r2 e3 Q X [(F_wire_caught, [(.pointer (some e3))], []), (F_wire_GetResponse_1, [], [(.pointer (some e3)), (.pointer (some r2))])] (some v_5) h11)) : SpecT PP F_wire_GetResponse [(.slice b0 b0n b0c)] h Q X := specT_of_txtD (ann := ann) Try.func22 rfl rfl (by kernel_rfl) H
end wire_GetResponse
/-! ### haversack/haversackref19.GetResponse: function 23 -/
namespace ref19_GetResponse
def ann : Ann := (.seq 5 (.region [(List.range 2, 5)]) (.seq 21 (.region [(List.range 4, 21)]) (.seq 53 (.region [(List.range 5, 53)]) (.seq 53 (.region [(List.range 4, 53)]) (.seq 53 (.region [(List.range 4, 53)]) (.seq 53 (.region [(List.range 4, 53)]) (.seq 53 (.region [(List.range 5, 53)]) (.seq 53 (.region [(List.range 5, 53)]) (.seq 53 (.region [(List.range 4, 53)]) (.seq 117 (.region [(List.range 3, 117)]) (.seq 117 (.region [(List.range 12, 117)]) (.join (.seq 53 (.seq 245 (.region [(List.range 1, 245)]) (.block (.loop 245 (.seq 245 (.seq 288230376151711989 (.region [(List.range 10, 288230376151711989)]) (.cond .leaf (.exit 53))) (.seq 245 (.block (.seq 501 (.region [(List.range 3, 501)]) (.seq 757 (.region [(List.range 4, 757)]) (.region [(List.range 8, 245)])))) (.region [(List.range 3, 245)])))))) (.seq 36 (.seq 618970019642690137449562148 (.region [(List.range 17, 618970019642690137449562148)]) (.join (.cond (.seq 12 (.region [(List.range 3, 12)]) (.exit 12)) .leaf))) (.seq 12 (.region [(List.range 3, 12)]) (.exit 12))))))))))))))))
noncomputable abbrev cd (n : Nat) : Code := sub (bodyOf Try.f23) (pth n)
abbrev an (n : Nat) : Ann := subA ann (pth n)
@[irreducible] def X0 (b0 : OA) (b0n b0c : Nat) (t2 c4 r5 : Addr) : Fr := (mkFr 0 92 [(0, (.slice b0 b0n b0c)), (2, (.pointer (some t2))), (4, (.pointer (some c4))), (5, (.pointer (some r5)))])
@[irreducible] def J1 (b0 : OA) (b0n b0c : Nat) (t2 c4 r5 : Addr) (xn6 : Int) (Q : VP) (h : Heap) : Prop := Jn PP true (cd 4095) (mkFr 0 92 [(0, (.slice b0 b0n b0c)), (2, (.pointer (some t2))), (4, (.pointer (some c4))), (5, (.pointer (some r5))), (6, (.int .i64 xn6))]) (bodyK PP Try.f23 Q) h
@[irreducible] def K2 (Q : VP) : EP := seqK (fun fr h => ev PP true none (cd 8191) (an 8191) (fr.mask 53) (bodyK PP Try.f23 Q) h) (bodyK PP Try.f23 Q)
@[irreducible] def K1 (Q : VP) : EP := blockK 0 (K2 Q)
@[irreducible] def L1 (b0 : OA) (b0n b0c : Nat) (t2 c4 r5 : Addr) (xn6 i7 : Int) (K : EP) (h : Heap) : Prop := Lp PP true (cd 65524) (mkFr 0 92 [(0, (.slice b0 b0n b0c)), (2, (.pointer (some t2))), (4, (.pointer (some c4))), (5, (.pointer (some r5))), (6, (.int .i64 xn6)), (7, (.int .i64 i7))]) K h
@[irreducible] def B1 (K : EP) : EP := seqK (fun fr h => Lp PP true (cd 65524) (fr.mask 245) K h) K
@[irreducible] def K3 (Q : VP) : EP := seqK (fun fr h => ev PP true none (cd 16383) (an 16383) (fr.mask 36) (bodyK PP Try.f23 Q) h) (bodyK PP Try.f23 Q)
@[irreducible] def J2 (t2 r5 : Addr) (t89 : Bool) (Q : VP) (h : Heap) : Prop := Jn PP true (cd 32765) (mkFr 0 92 [(2, (.pointer (some t2))), (5, (.pointer (some r5))), (89, (.bool t89))]) (K3 Q) h
theorem J1_of {b0 : OA} {b0n b0c : Nat} {t2 c4 r5 : Addr} {xn6 : Int} {Q : VP} {h : Heap} (H :
 L1 b0 b0n b0c t2 c4 r5 xn6 0 (K1 Q) h) : J1 b0 b0n b0c t2 c4 r5 xn6 Q h := by unfold J1; exact Jn.of_txt (an 4095) (by kernel_rfl) H
theorem L1_of {b0 : OA} {b0n b0c : Nat} {t2 c4 r5 : Addr} {xn6 i7 : Int} {K : EP} {h : Heap} (H :
 let t51 : Bool := decide (i7 < xn6)
 br t51 (
 ∃ (t56 : Bool), cellH h (Addr.add c4 1) = some (.bool t56) ∧
 let t57 : Bool := (!t56)
 br t57 (
 SpecH PP F_ref19_Cut_small [(.pointer (some c4)), (.int .i64 1)] h (fun v h1 => ∃ (t62 : Int), v = (.int .i64 t62) ∧
 SpecH PP F_ref19_Cut_take [(.pointer (some c4)), (.int .i64 t62)] h1 (fun v_1 h2 => ∃ (t65 : OA) (t65n t65c : Nat), v_1 = (.slice t65 t65n t65c) ∧
 ∃ (t67 : OA) (t67n t67c : Nat), cellH h2 (Addr.add r5 5) = some (.slice t67 t67n t67c) ∧
 hwp PP (Go.convert T_sl_uint8 T_string (.slice t65 t65n t65c)) (fun v_2 h3 => ∃ (t69 : ByteArray), v_2 = (.string t69) ∧
 let h4 : Heap := Array.push h3 (.cells #[(.string t69)] T_string (0, 0))
 hwp PP (Builtin.append_ #[T_sl_string, T_sl_string] T_sl_string #[(.slice t67 t67n t67c), (.slice (some ⟨Array.size h3, 0, none⟩) 1 1)]) (fun v_3 h5 => ∃ (t71 : OA) (t71n t71c : Nat), v_3 = (.slice t71 t71n t71c) ∧
 wr (Addr.add r5 5) (.slice t71 t71n t71c) (fun h6 =>
 let t60 : Int := IntKind.i64.wrap (i7 + 1)
 L1 b0 b0n b0c t2 c4 r5 xn6 t60 K h6) h5) h4) h2))) (
 K (.exit 0) (X0 b0 b0n b0c t2 c4 r5) h)) (
 K (.exit 0) (X0 b0 b0n b0c t2 c4 r5) h)) : L1 b0 b0n b0c t2 c4 r5 xn6 i7 K h := by unfold L1; exact Lp.of_txt (an 65524) 245 (by kernel_rfl) H
theorem L1_X0 {Q : VP} {b0 : OA} {b0n b0c : Nat} {t2 c4 r5 : Addr} {h : Heap} (H :
 ∃ (t76 : Bool), cellH h (Addr.add c4 1) = some (.bool t76) ∧
 br t76 (
 J2 t2 r5 true Q h) (
 ∃ (t81 : OA) (t81n t81c : Nat), cellH h c4 = some (.slice t81 t81n t81c) ∧
 let t83 : Bool := decide ((t81n : Int) > 0)
 br t83 (
 J2 t2 r5 true Q h) (
 let t88 : Bool := decide ((b0n : Int) > 20000)
 J2 t2 r5 t88 Q h))) : (K1 Q) (.exit 0) (X0 b0 b0n b0c t2 c4 r5) h := of_eq_txt (by kernel_rfl) H
theorem J2_of {t2 r5 : Addr} {t89 : Bool} {Q : VP} {h : Heap} (H :
 br t89 (
 wrCells t2 0 [(.int .i64 0), (.int .i64 0), (.int .i64 0), (.int .i64 0), (.string (⟨#[]⟩ : ByteArray)), (.slice none 0 0), (.int .i64 0), (.int .i64 0)] (fun h1 =>
 ∃ (t2_1f0 t2_1f1 t2_1f2 t2_1f3 : Int) (t2_1f4 : ByteArray) (t2_1f5 : OA) (t2_1f5n t2_1f5c : Nat) (t2_1f6 t2_1f7 : Int), rdCells h1 t2 0 [(.int .i64 t2_1f0), (.int .i64 t2_1f1), (.int .i64 t2_1f2), (.int .i64 t2_1f3), (.string t2_1f4), (.slice t2_1f5 t2_1f5n t2_1f5c), (.int .i64 t2_1f6), (.int .i64 t2_1f7)] ∧
 Q (.tuple #[(.agg #[(.int .i64 t2_1f0), (.int .i64 t2_1f1), (.int .i64 t2_1f2), (.int .i64 t2_1f3), (.string t2_1f4), (.slice t2_1f5 t2_1f5n t2_1f5c), (.int .i64 t2_1f6), (.int .i64 t2_1f7)]), (.int .i64 190)]) h1) h) (
 ∃ (t91f0 t91f1 t91f2 t91f3 : Int) (t91f4 : ByteArray) (t91f5 : OA) (t91f5n t91f5c : Nat) (t91f6 t91f7 : Int), rdCells h r5 0 [(.int .i64 t91f0), (.int .i64 t91f1), (.int .i64 t91f2), (.int .i64 t91f3), (.string t91f4), (.slice t91f5 t91f5n t91f5c), (.int .i64 t91f6), (.int .i64 t91f7)] ∧
 wrCells t2 0 [(.int .i64 t91f0), (.int .i64 t91f1), (.int .i64 t91f2), (.int .i64 t91f3), (.string t91f4), (.slice t91f5 t91f5n t91f5c), (.int .i64 t91f6), (.int .i64 t91f7)] (fun h2 =>
 ∃ (t2_2f0 t2_2f1 t2_2f2 t2_2f3 : Int) (t2_2f4 : ByteArray) (t2_2f5 : OA) (t2_2f5n t2_2f5c : Nat) (t2_2f6 t2_2f7 : Int), rdCells h2 t2 0 [(.int .i64 t2_2f0), (.int .i64 t2_2f1), (.int .i64 t2_2f2), (.int .i64 t2_2f3), (.string t2_2f4), (.slice t2_2f5 t2_2f5n t2_2f5c), (.int .i64 t2_2f6), (.int .i64 t2_2f7)] ∧
 Q (.tuple #[(.agg #[(.int .i64 t2_2f0), (.int .i64 t2_2f1), (.int .i64 t2_2f2), (.int .i64 t2_2f3), (.string t2_2f4), (.slice t2_2f5 t2_2f5n t2_2f5c), (.int .i64 t2_2f6), (.int .i64 t2_2f7)]), (.int .i64 0)]) h2) h)) : J2 t2 r5 t89 Q h := by unfold J2; exact Jn.of_txt (an 32765) (by kernel_rfl) H
theorem door {b0 : OA} {b0n b0c : Nat} {Q : VP} {h : Heap} (H :
 let t2 : Addr := ⟨Array.size h, 0, none⟩
 let h1 : Heap := Array.push h (.cells #[(.int .i64 0), (.int .i64 0), (.int .i64 0), (.int .i64 0), (.string (⟨#[]⟩ : ByteArray)), (.slice none 0 0), (.int .i64 0), (.int .i64 0)] T_api_Response (0, 0))
 let t12 : Addr := ⟨Array.size h1, 0, none⟩
 let h2 : Heap := Array.push h1 (.cells #[(.slice b0 b0n b0c), (.bool false)] T_haversackref19_Cut (0, 0))
 SpecH PP F_ref19_Cut_small [(.pointer (some t12)), (.int .i64 2)] h2 (fun v h3 => ∃ (t14 : Int), v = (.int .i64 t14) ∧
 let r5 : Addr := ⟨Array.size h3, 0, none⟩
 let h4 : Heap := Array.push h3 (.cells #[(.int .i64 0), (.int .i64 0), (.int .i64 0), (.int .i64 0), (.string (⟨#[]⟩ : ByteArray)), (.slice none 0 0), (.int .i64 0), (.int .i64 0)] T_api_Response (0, 0))
 wrCells r5 0 [(.int .i64 t14), (.int .i64 0), (.int .i64 0), (.int .i64 0), (.string (⟨#[]⟩ : ByteArray)), (.slice none 0 0), (.int .i64 0), (.int .i64 0)] (fun h5 =>
 SpecH PP F_ref19_Cut_number [(.pointer (some t12))] h5 (fun v_1 h6 => ∃ (t17 : Int), v_1 = (.int .i64 t17) ∧
 wr (Addr.add r5 1) (.int .i64 t17) (fun h7 =>
 SpecH PP F_ref19_Cut_number [(.pointer (some t12))] h7 (fun v_2 h8 => ∃ (t20 : Int), v_2 = (.int .i64 t20) ∧
 wr (Addr.add r5 2) (.int .i64 t20) (fun h9 =>
 SpecH PP F_ref19_Cut_number [(.pointer (some t12))] h9 (fun v_3 h10 => ∃ (t23 : Int), v_3 = (.int .i64 t23) ∧
 wr (Addr.add r5 3) (.int .i64 t23) (fun h11 =>
 SpecH PP F_ref19_Cut_number [(.pointer (some t12))] h11 (fun v_4 h12 => ∃ (t26 : Int), v_4 = (.int .i64 t26) ∧
 wr (Addr.add r5 6) (.int .i64 t26) (fun h13 =>
 SpecH PP F_ref19_Cut_number [(.pointer (some t12))] h13 (fun v_5 h14 => ∃ (t30 : Int), v_5 = (.int .i64 t30) ∧
 wr (Addr.add (Addr.add r5 6) 1) (.int .i64 t30) (fun h15 =>
 SpecH PP F_ref19_Cut_text [(.pointer (some t12)), (.int .i64 16384)] h15 (fun v_6 h16 => ∃ (t34 : ByteArray), v_6 = (.string t34) ∧
 wr (Addr.add r5 4) (.string t34) (fun h17 =>
 SpecH PP F_ref19_Cut_small [(.pointer (some t12)), (.int .i64 1)] h17 (fun v_7 h18 => ∃ (t37 : Int), v_7 = (.int .i64 t37) ∧
 ∃ (t42 : Bool), cellH h18 (Addr.add t12 1) = some (.bool t42) ∧
 br t42 (
 wr (Addr.add t12 1) (.bool true) (fun h19 =>
 J1 b0 b0n b0c t2 t12 r5 t37 Q h19) h18) (
 let t45 : Bool := decide (t37 > 64)
 wr (Addr.add t12 1) (.bool t45) (fun h20 =>
 J1 b0 b0n b0c t2 t12 r5 t37 Q h20) h18))) h16)) h14)) h12)) h10)) h8)) h6)) h4)) : SpecH PP F_ref19_GetResponse [(.slice b0 b0n b0c)] h Q :=
   spec_of_txt (ann := ann) Try.func23 rfl rfl (by kernel_rfl) H
end ref19_GetResponse
/-! ### haversack/wire.caught: function 24 -/
namespace wire_caught
def ann : Ann := (.seq 5 (.region [(List.range 2, 5)]) (.seq 37 (.region [(List.range 2, 37)]) (.cond (.region [(List.range 6, 0)]) .leaf)))
noncomputable abbrev cd (n : Nat) : Code := sub (bodyOf Try.f24) (pth n)
abbrev an (n : Nat) : Ann := subA ann (pth n)
theorem doorD {e0 : OA} {m : Option Value} {Q0 : MP} {h : Heap} (H : (fun (Q : VP) =>
 hwp PP (do eqGuard .neq T_any (.tmp 4) (.const .nilIface) (recV m) .nilIface; Go.binOp .neq T_any (recV m) .nilIface) (fun v h1 => ∃ (t5 : Bool), v = (.bool t5) ∧
 br t5 (
 hwp PP (Instr.typeAssert (recV m) T_any T_wire_end false) (fun v_1 h2 => ∃ (t8f0 : Int), v_1 = (.agg #[(.int .i64 t8f0)]) ∧
 nilc e0 (fun t10 =>
 wr t10 (.int .i64 t8f0) (fun h3 =>
 Q (.tuple #[]) h3) h2)) h1) (
 Q (.tuple #[]) h1)) h) (fun _ h => Q0 none h)) : SpecD PP F_wire_caught [(.pointer e0)] m h Q0 := specD_of_txtRec (ann := an 3) (keep := 5) Try.func24 rfl (d1 := 3) (d2 := 2) (by kernel_rfl) (by decide) rfl (by kernel_rfl) H
end wire_caught
/-! ### haversack/wire.is: function 25 -/
namespace wire_is
def ann : Ann := (.seq 34 (.region [(List.range 2, 34)]) (.cond (.thr (List.range 3) 3 0 0) .leaf))
noncomputable abbrev cd (n : Nat) : Code := sub (bodyOf Try.f25) (pth n)
abbrev an (n : Nat) : Ann := subA ann (pth n)
theorem door {ok0 : Bool} {e1 : Int} {Q X : VP} {h : Heap} (H :
 let t5 : Bool := (!ok0)
 br t5 (
 X (.iface T_wire_end (.agg #[(.int .i64 e1)])) h) (
 Q (.tuple #[]) h)) : SpecT PP F_wire_is [(.bool ok0), (.int .i64 e1)] h Q X := specT_of_txt (ann := ann) Try.func25 rfl rfl (by kernel_rfl) H
end wire_is
/-! ### haversack/wire.kind: function 26 -/
namespace wire_kind
def ann : Ann := (.seq 1 (.region [(List.range 1, 1)]) (.seq 4 (.region [(List.range 7, 4)]) (.exit 4)))
noncomputable abbrev cd (n : Nat) : Code := sub (bodyOf Try.f26) (pth n)
abbrev an (n : Nat) : Ann := subA ann (pth n)
theorem door {k0 : Int} {Q : VP} {h : Heap} (H :
 let t4 : Bool := decide (k0 ≥ 1)
 br t4 (
 let t7 : Bool := decide (k0 ≤ 13)
 Q (.bool t7) h) (
 Q (.bool false) h)) : SpecH PP F_wire_kind [(.int .i64 k0)] h Q :=
   spec_of_txt (ann := ann) Try.func26 rfl rfl (by kernel_rfl) H
end wire_kind
/-! ### (*haversack/wire.port).request: function 27 -/
namespace wire_port_request
def ann : Ann := (.seq 56 (.region [(List.range 3, 56)]) (.seq 120 (.region [(List.range 2, 120)]) (.seq 248 (.region [(List.range 2, 248)]) (.seq 504 (.region [(List.range 2, 504)]) (.seq 1016 (.region [(List.range 2, 1016)]) (.seq 2040 (.region [(List.range 2, 2040)]) (.seq 4088 (.region [(List.range 1, 4088)]) (.seq 32 (.seq 1052664 (.region [(List.range 4, 1052664)]) (.block (.seq 3149816 (.region [(List.range 2, 3149816)]) (.cond (.seq 32 (.thr (List.range 4) 4 32 0) (.region [(List.range 4, 32)])) (.seq 2148536288 (.region [(List.range 2, 2148536288)]) (.cond (.thr (List.range 6) 6 32 0) (.seq 1099512680416 (.region [(List.range 2, 1099512680416)]) (.cond (.thr (List.range 4) 4 32 0) (.seq 140737489407968 (.seq 140737489407968 (.region [(List.range 2, 140737489407968)]) (.cond .leaf (.region [(List.range 2, 140737489407968)]))) (.cond (.thr (List.range 6) 6 32 0) (.seq 144115188076908512 (.region [(List.range 2, 144115188076908512)]) (.cond (.thr (List.range 5) 5 32 0) (.seq 36893488147420155616 (.seq 36893488147420155616 (.region [(List.range 2, 36893488147420155616)]) (.cond .leaf (.region [(List.range 2, 36893488147420155616)]))) (.cond (.thr (List.range 3) 3 32 0) (.seq 4722366482869646266080 (.region [(List.range 2, 4722366482869646266080)]) (.cond (.thr (List.range 5) 5 32 0) (.seq 1208925819614629174708960 (.region [(List.range 2, 1208925819614629174708960)]) (.cond (.thr (List.range 5) 5 32 0) .leaf)))))))))))))))))) (.join (.region [(List.range 4, 0)]))))))))))
noncomputable abbrev cd (n : Nat) : Code := sub (bodyOf Try.f27) (pth n)
abbrev an (n : Nat) : Ann := subA ann (pth n)
@[irreducible] def J1 (rest5 : Addr) (Q X : VP) (h : Heap) : Prop := Jn PP true (cd 511) (mkFr 0 91 [(5, (.pointer (some rest5)))]) (bodyKT PP Try.f27 Q X) h
theorem J1_of {rest5 : Addr} {Q X : VP} {h : Heap} (H :
 ∃ (t88 : OA), cellH h rest5 = some (.pointer t88) ∧
 nilc t88 (fun t89 =>
 wr t89 (.int .i64 0) (fun h1 =>
 Q (.tuple #[]) h1) h)) : J1 rest5 Q X h := by unfold J1; exact Jn.of_txt (an 511) (by kernel_rfl) H
theorem door {p0 r1 rest2 : OA} {Q X : VP} {h : Heap} (H :
 let p3 : Addr := ⟨Array.size h, 0, none⟩
 let h1 : Heap := Array.push h (.cells #[(.pointer p0)] T_p_wire_port (0, 0))
 let r4 : Addr := ⟨Array.size h1, 0, none⟩
 let h2 : Heap := Array.push h1 (.cells #[(.pointer r1)] T_p_api_Request (0, 0))
 let rest5 : Addr := ⟨Array.size h2, 0, none⟩
 let h3 : Heap := Array.push h2 (.cells #[(.pointer rest2)] T_p_api_Request (0, 0))
 ∃ (t17 : OA), cellH h3 r4 = some (.pointer t17) ∧
 nilc t17 (fun t18 =>
 ∃ (t20 : Int), cellH h3 t18 = some (.int .i64 t20) ∧
 let t22 : Bool := (t20 == 1)
 br t22 (
 ∃ (t23 : OA), cellH h3 p3 = some (.pointer t23) ∧
 ∃ (t24 : OA), cellH h3 r4 = some (.pointer t24) ∧
 nilc t24 (fun t25 =>
 SpecT PP F_wire_port_text [(.pointer t23), (.pointer (some (Addr.add t25 7))), (.int .i64 256)] h3 (fun v h4 => v = (.tuple #[]) ∧
 ∃ (t28 : OA), cellH h4 rest5 = some (.pointer t28) ∧
 nilc t28 (fun t29 =>
 wr (Addr.add t29 7) (.string (⟨#[]⟩ : ByteArray)) (fun h5 =>
 J1 rest5 Q X h5) h4)) (fun v_1 h6 => X v_1 h6))) (
 let t32 : Bool := (t20 == 3)
 br t32 (
 let h7 : Heap := Array.push h3 (.cells #[(.func (.func F_wire_port_request_1) #[] #[(.pointer (some p3)), (.pointer (some r4)), (.pointer (some rest5))]), (.func (.func F_wire_port_request_2) #[] #[(.pointer (some p3)), (.pointer (some r4)), (.pointer (some rest5))]), (.func (.func F_wire_port_request_3) #[] #[(.pointer (some p3)), (.pointer (some r4)), (.pointer (some rest5))]), (.func (.func F_wire_port_request_5) #[] #[(.pointer (some p3)), (.pointer (some r4)), (.pointer (some rest5))])] T_func (0, 0))
 callT PP (.func (.func F_wire_port_request_6) #[] #[]) [(.slice (some ⟨Array.size h3, 0, none⟩) 4 4)] (fun v_2 h8 => v_2 = (.tuple #[]) ∧
 J1 rest5 Q X h8) (fun v_3 h9 => X v_3 h9) h7) (
 let t41 : Bool := (t20 == 4)
 br t41 (
 let h10 : Heap := Array.push h3 (.cells #[(.func (.func F_wire_port_request_1) #[] #[(.pointer (some p3)), (.pointer (some r4)), (.pointer (some rest5))]), (.func (.func F_wire_port_request_2) #[] #[(.pointer (some p3)), (.pointer (some r4)), (.pointer (some rest5))])] T_func (0, 0))
 callT PP (.func (.func F_wire_port_request_6) #[] #[]) [(.slice (some ⟨Array.size h3, 0, none⟩) 2 2)] (fun v_4 h11 => v_4 = (.tuple #[]) ∧
 J1 rest5 Q X h11) (fun v_5 h12 => X v_5 h12) h10) (
 let t48 : Bool := (t20 == 5)
 br t48 (
 br t48 (
 let h13 : Heap := Array.push h3 (.cells #[(.func (.func F_wire_port_request_1) #[] #[(.pointer (some p3)), (.pointer (some r4)), (.pointer (some rest5))]), (.func (.func F_wire_port_request_2) #[] #[(.pointer (some p3)), (.pointer (some r4)), (.pointer (some rest5))]), (.func (.func F_wire_port_request_3) #[] #[(.pointer (some p3)), (.pointer (some r4)), (.pointer (some rest5))]), (.func (.func F_wire_port_request_4) #[] #[(.pointer (some p3)), (.pointer (some r4)), (.pointer (some rest5))])] T_func (0, 0))
 callT PP (.func (.func F_wire_port_request_6) #[] #[]) [(.slice (some ⟨Array.size h3, 0, none⟩) 4 4)] (fun v_6 h14 => v_6 = (.tuple #[]) ∧
 J1 rest5 Q X h14) (fun v_7 h15 => X v_7 h15) h13) (
 let t58 : Bool := (t20 == 7)
 br t58 (
 let h16 : Heap := Array.push h3 (.cells #[(.func (.func F_wire_port_request_1) #[] #[(.pointer (some p3)), (.pointer (some r4)), (.pointer (some rest5))]), (.func (.func F_wire_port_request_2) #[] #[(.pointer (some p3)), (.pointer (some r4)), (.pointer (some rest5))]), (.func (.func F_wire_port_request_3) #[] #[(.pointer (some p3)), (.pointer (some r4)), (.pointer (some rest5))])] T_func (0, 0))
 callT PP (.func (.func F_wire_port_request_6) #[] #[]) [(.slice (some ⟨Array.size h3, 0, none⟩) 3 3)] (fun v_8 h17 => v_8 = (.tuple #[]) ∧
 J1 rest5 Q X h17) (fun v_9 h18 => X v_9 h18) h16) (
 let t66 : Bool := (t20 == 8)
 br t66 (
 br t66 (
 let h19 : Heap := Array.push h3 (.cells #[(.func (.func F_wire_port_request_1) #[] #[(.pointer (some p3)), (.pointer (some r4)), (.pointer (some rest5))])] T_func (0, 0))
 callT PP (.func (.func F_wire_port_request_6) #[] #[]) [(.slice (some ⟨Array.size h3, 0, none⟩) 1 1)] (fun v_10 h20 => v_10 = (.tuple #[]) ∧
 J1 rest5 Q X h20) (fun v_11 h21 => X v_11 h21) h19) (
 let t73 : Bool := (t20 == 10)
 br t73 (
 let h22 : Heap := Array.push h3 (.cells #[(.func (.func F_wire_port_request_1) #[] #[(.pointer (some p3)), (.pointer (some r4)), (.pointer (some rest5))]), (.func (.func F_wire_port_request_2) #[] #[(.pointer (some p3)), (.pointer (some r4)), (.pointer (some rest5))]), (.func (.func F_wire_port_request_5) #[] #[(.pointer (some p3)), (.pointer (some r4)), (.pointer (some rest5))])] T_func (0, 0))
 callT PP (.func (.func F_wire_port_request_6) #[] #[]) [(.slice (some ⟨Array.size h3, 0, none⟩) 3 3)] (fun v_12 h23 => v_12 = (.tuple #[]) ∧
 J1 rest5 Q X h23) (fun v_13 h24 => X v_13 h24) h22) (
 let t81 : Bool := (t20 == 11)
 br t81 (
 let h25 : Heap := Array.push h3 (.cells #[(.func (.func F_wire_port_request_1) #[] #[(.pointer (some p3)), (.pointer (some r4)), (.pointer (some rest5))]), (.func (.func F_wire_port_request_2) #[] #[(.pointer (some p3)), (.pointer (some r4)), (.pointer (some rest5))]), (.func (.func F_wire_port_request_4) #[] #[(.pointer (some p3)), (.pointer (some r4)), (.pointer (some rest5))])] T_func (0, 0))
 callT PP (.func (.func F_wire_port_request_6) #[] #[]) [(.slice (some ⟨Array.size h3, 0, none⟩) 3 3)] (fun v_14 h26 => v_14 = (.tuple #[]) ∧
 J1 rest5 Q X h26) (fun v_15 h27 => X v_15 h27) h25) (
 J1 rest5 Q X h3)))) (
 let t67 : Bool := (t20 == 9)
 br t67 (
 let h28 : Heap := Array.push h3 (.cells #[(.func (.func F_wire_port_request_1) #[] #[(.pointer (some p3)), (.pointer (some r4)), (.pointer (some rest5))])] T_func (0, 0))
 callT PP (.func (.func F_wire_port_request_6) #[] #[]) [(.slice (some ⟨Array.size h3, 0, none⟩) 1 1)] (fun v_16 h29 => v_16 = (.tuple #[]) ∧
 J1 rest5 Q X h29) (fun v_17 h30 => X v_17 h30) h28) (
 let t73_1 : Bool := (t20 == 10)
 br t73_1 (
 let h31 : Heap := Array.push h3 (.cells #[(.func (.func F_wire_port_request_1) #[] #[(.pointer (some p3)), (.pointer (some r4)), (.pointer (some rest5))]), (.func (.func F_wire_port_request_2) #[] #[(.pointer (some p3)), (.pointer (some r4)), (.pointer (some rest5))]), (.func (.func F_wire_port_request_5) #[] #[(.pointer (some p3)), (.pointer (some r4)), (.pointer (some rest5))])] T_func (0, 0))
 callT PP (.func (.func F_wire_port_request_6) #[] #[]) [(.slice (some ⟨Array.size h3, 0, none⟩) 3 3)] (fun v_18 h32 => v_18 = (.tuple #[]) ∧
 J1 rest5 Q X h32) (fun v_19 h33 => X v_19 h33) h31) (
 let t81_1 : Bool := (t20 == 11)
 br t81_1 (
 let h34 : Heap := Array.push h3 (.cells #[(.func (.func F_wire_port_request_1) #[] #[(.pointer (some p3)), (.pointer (some r4)), (.pointer (some rest5))]), (.func (.func F_wire_port_request_2) #[] #[(.pointer (some p3)), (.pointer (some r4)), (.pointer (some rest5))]), (.func (.func F_wire_port_request_4) #[] #[(.pointer (some p3)), (.pointer (some r4)), (.pointer (some rest5))])] T_func (0, 0))
 callT PP (.func (.func F_wire_port_request_6) #[] #[]) [(.slice (some ⟨Array.size h3, 0, none⟩) 3 3)] (fun v_20 h35 => v_20 = (.tuple #[]) ∧
 J1 rest5 Q X h35) (fun v_21 h36 => X v_21 h36) h34) (
 J1 rest5 Q X h3))))))) (
 let t49 : Bool := (t20 == 6)
 br t49 (
 let h37 : Heap := Array.push h3 (.cells #[(.func (.func F_wire_port_request_1) #[] #[(.pointer (some p3)), (.pointer (some r4)), (.pointer (some rest5))]), (.func (.func F_wire_port_request_2) #[] #[(.pointer (some p3)), (.pointer (some r4)), (.pointer (some rest5))]), (.func (.func F_wire_port_request_3) #[] #[(.pointer (some p3)), (.pointer (some r4)), (.pointer (some rest5))]), (.func (.func F_wire_port_request_4) #[] #[(.pointer (some p3)), (.pointer (some r4)), (.pointer (some rest5))])] T_func (0, 0))
 callT PP (.func (.func F_wire_port_request_6) #[] #[]) [(.slice (some ⟨Array.size h3, 0, none⟩) 4 4)] (fun v_22 h38 => v_22 = (.tuple #[]) ∧
 J1 rest5 Q X h38) (fun v_23 h39 => X v_23 h39) h37) (
 let t58_1 : Bool := (t20 == 7)
 br t58_1 (
 let h40 : Heap := Array.push h3 (.cells #[(.func (.func F_wire_port_request_1) #[] #[(.pointer (some p3)), (.pointer (some r4)), (.pointer (some rest5))]), (.func (.func F_wire_port_request_2) #[] #[(.pointer (some p3)), (.pointer (some r4)), (.pointer (some rest5))]), (.func (.func F_wire_port_request_3) #[] #[(.pointer (some p3)), (.pointer (some r4)), (.pointer (some rest5))])] T_func (0, 0))
 callT PP (.func (.func F_wire_port_request_6) #[] #[]) [(.slice (some ⟨Array.size h3, 0, none⟩) 3 3)] (fun v_24 h41 => v_24 = (.tuple #[]) ∧
 J1 rest5 Q X h41) (fun v_25 h42 => X v_25 h42) h40) (
 let t66_1 : Bool := (t20 == 8)
 br t66_1 (
 br t66_1 (
 let h43 : Heap := Array.push h3 (.cells #[(.func (.func F_wire_port_request_1) #[] #[(.pointer (some p3)), (.pointer (some r4)), (.pointer (some rest5))])] T_func (0, 0))
 callT PP (.func (.func F_wire_port_request_6) #[] #[]) [(.slice (some ⟨Array.size h3, 0, none⟩) 1 1)] (fun v_26 h44 => v_26 = (.tuple #[]) ∧
 J1 rest5 Q X h44) (fun v_27 h45 => X v_27 h45) h43) (
 let t73_2 : Bool := (t20 == 10)
 br t73_2 (
 let h46 : Heap := Array.push h3 (.cells #[(.func (.func F_wire_port_request_1) #[] #[(.pointer (some p3)), (.pointer (some r4)), (.pointer (some rest5))]), (.func (.func F_wire_port_request_2) #[] #[(.pointer (some p3)), (.pointer (some r4)), (.pointer (some rest5))]), (.func (.func F_wire_port_request_5) #[] #[(.pointer (some p3)), (.pointer (some r4)), (.pointer (some rest5))])] T_func (0, 0))
 callT PP (.func (.func F_wire_port_request_6) #[] #[]) [(.slice (some ⟨Array.size h3, 0, none⟩) 3 3)] (fun v_28 h47 => v_28 = (.tuple #[]) ∧
 J1 rest5 Q X h47) (fun v_29 h48 => X v_29 h48) h46) (
 let t81_2 : Bool := (t20 == 11)
 br t81_2 (
 let h49 : Heap := Array.push h3 (.cells #[(.func (.func F_wire_port_request_1) #[] #[(.pointer (some p3)), (.pointer (some r4)), (.pointer (some rest5))]), (.func (.func F_wire_port_request_2) #[] #[(.pointer (some p3)), (.pointer (some r4)), (.pointer (some rest5))]), (.func (.func F_wire_port_request_4) #[] #[(.pointer (some p3)), (.pointer (some r4)), (.pointer (some rest5))])] T_func (0, 0))
 callT PP (.func (.func F_wire_port_request_6) #[] #[]) [(.slice (some ⟨Array.size h3, 0, none⟩) 3 3)] (fun v_30 h50 => v_30 = (.tuple #[]) ∧
 J1 rest5 Q X h50) (fun v_31 h51 => X v_31 h51) h49) (
 J1 rest5 Q X h3)))) (
 let t67_1 : Bool := (t20 == 9)
 br t67_1 (
 let h52 : Heap := Array.push h3 (.cells #[(.func (.func F_wire_port_request_1) #[] #[(.pointer (some p3)), (.pointer (some r4)), (.pointer (some rest5))])] T_func (0, 0))
 callT PP (.func (.func F_wire_port_request_6) #[] #[]) [(.slice (some ⟨Array.size h3, 0, none⟩) 1 1)] (fun v_32 h53 => v_32 = (.tuple #[]) ∧
 J1 rest5 Q X h53) (fun v_33 h54 => X v_33 h54) h52) (
 let t73_3 : Bool := (t20 == 10)
 br t73_3 (
 let h55 : Heap := Array.push h3 (.cells #[(.func (.func F_wire_port_request_1) #[] #[(.pointer (some p3)), (.pointer (some r4)), (.pointer (some rest5))]), (.func (.func F_wire_port_request_2) #[] #[(.pointer (some p3)), (.pointer (some r4)), (.pointer (some rest5))]), (.func (.func F_wire_port_request_5) #[] #[(.pointer (some p3)), (.pointer (some r4)), (.pointer (some rest5))])] T_func (0, 0))
 callT PP (.func (.func F_wire_port_request_6) #[] #[]) [(.slice (some ⟨Array.size h3, 0, none⟩) 3 3)] (fun v_34 h56 => v_34 = (.tuple #[]) ∧
 J1 rest5 Q X h56) (fun v_35 h57 => X v_35 h57) h55) (
 let t81_3 : Bool := (t20 == 11)
 br t81_3 (
 let h58 : Heap := Array.push h3 (.cells #[(.func (.func F_wire_port_request_1) #[] #[(.pointer (some p3)), (.pointer (some r4)), (.pointer (some rest5))]), (.func (.func F_wire_port_request_2) #[] #[(.pointer (some p3)), (.pointer (some r4)), (.pointer (some rest5))]), (.func (.func F_wire_port_request_4) #[] #[(.pointer (some p3)), (.pointer (some r4)), (.pointer (some rest5))])] T_func (0, 0))
 callT PP (.func (.func F_wire_port_request_6) #[] #[]) [(.slice (some ⟨Array.size h3, 0, none⟩) 3 3)] (fun v_36 h59 => v_36 = (.tuple #[]) ∧
 J1 rest5 Q X h59) (fun v_37 h60 => X v_37 h60) h58) (
 J1 rest5 Q X h3)))))))))))) : SpecT PP F_wire_port_request [(.pointer p0), (.pointer r1), (.pointer rest2)] h Q X := specT_of_txt (ann := ann) Try.func27 rfl rfl (by kernel_rfl) H
end wire_port_request
/-! ### haversack/haversackref19.fields: function 28 -/
namespace ref19_fields
def ann : Ann := (.seq 5 (.region [(List.range 2, 5)]) (.seq 4 (.seq 20 (.region [(List.range 1, 20)]) (.block (.seq 52 (.region [(List.range 2, 52)]) (.cond (.seq 12 (.region [(List.range 3, 12)]) (.exit 12)) (.seq 276 (.seq 276 (.region [(List.range 2, 276)]) (.cond .leaf (.seq 276 (.region [(List.range 2, 276)]) (.cond .leaf (.region [(List.range 2, 276)]))))) (.join (.cond (.seq 12 (.region [(List.range 3, 12)]) (.exit 12)) (.seq 8212 (.region [(List.range 2, 8212)]) (.cond (.seq 12 (.region [(List.range 3, 12)]) (.exit 12)) (.seq 65556 (.region [(List.range 2, 65556)]) (.cond (.seq 12 (.region [(List.range 3, 12)]) (.exit 12)) (.seq 524308 (.seq 524308 (.region [(List.range 2, 524308)]) (.cond .leaf (.region [(List.range 2, 524308)]))) (.join (.cond (.seq 12 (.region [(List.range 3, 12)]) (.exit 12)) (.seq 8388628 (.region [(List.range 2, 8388628)]) (.cond (.seq 12 (.region [(List.range 3, 12)]) (.exit 12)) (.seq 67108884 (.seq 67108884 (.region [(List.range 2, 67108884)]) (.cond .leaf (.region [(List.range 2, 67108884)]))) (.join (.cond (.seq 12 (.region [(List.range 3, 12)]) (.exit 12)) (.seq 1073741844 (.region [(List.range 2, 1073741844)]) (.cond (.seq 12 (.region [(List.range 3, 12)]) (.exit 12)) (.seq 8589934596 (.region [(List.range 2, 8589934596)]) (.cond (.seq 12 (.region [(List.range 3, 12)]) (.exit 12)) .leaf))))))))))))))))))))))) (.seq 12 (.region [(List.range 3, 12)]) (.exit 12))))
noncomputable abbrev cd (n : Nat) : Code := sub (bodyOf Try.f28) (pth n)
abbrev an (n : Nat) : Ann := subA ann (pth n)
@[irreducible] def K2 (Q : VP) : EP := seqK (fun fr h => ev PP true none (cd 7) (an 7) (fr.mask 4) (bodyK PP Try.f28 Q) h) (bodyK PP Try.f28 Q)
@[irreducible] def K1 (Q : VP) : EP := blockK 0 (K2 Q)
@[irreducible] def J1 (t2 : Addr) (t4 : Int) (t8 : Bool) (Q : VP) (h : Heap) : Prop := Jn PP true (cd 215) (mkFr 0 37 [(2, (.pointer (some t2))), (4, (.int .i64 t4)), (8, (.bool t8))]) (K1 Q) h
@[irreducible] def J2 (t2 : Addr) (t4 : Int) (t19 : Bool) (Q : VP) (h : Heap) : Prop := Jn PP true (cd 13823) (mkFr 0 37 [(2, (.pointer (some t2))), (4, (.int .i64 t4)), (19, (.bool t19))]) (K1 Q) h
@[irreducible] def J3 (t2 : Addr) (t4 : Int) (t26 : Bool) (Q : VP) (h : Heap) : Prop := Jn PP true (cd 221183) (mkFr 0 37 [(2, (.pointer (some t2))), (4, (.int .i64 t4)), (26, (.bool t26))]) (K1 Q) h
theorem J1_of {t2 : Addr} {t4 : Int} {t8 : Bool} {Q : VP} {h : Heap} (H :
 br t8 (
 wrCells t2 0 [(.bool false), (.bool false), (.bool false), (.bool false), (.bool false), (.bool false), (.bool false)] (fun h1 =>
 ∃ (t2_1f0 t2_1f1 t2_1f2 t2_1f3 t2_1f4 t2_1f5 t2_1f6 : Bool), rdCells h1 t2 0 [(.bool t2_1f0), (.bool t2_1f1), (.bool t2_1f2), (.bool t2_1f3), (.bool t2_1f4), (.bool t2_1f5), (.bool t2_1f6)] ∧
 Q (.tuple #[(.agg #[(.bool t2_1f0), (.bool t2_1f1), (.bool t2_1f2), (.bool t2_1f3), (.bool t2_1f4), (.bool t2_1f5), (.bool t2_1f6)]), (.bool true)]) h1) h) (
 let t14 : Bool := (t4 == 3)
 br t14 (
 wrCells t2 0 [(.bool true), (.bool true), (.bool true), (.bool false), (.bool true), (.bool true), (.bool false)] (fun h2 =>
 ∃ (t2_2f0 t2_2f1 t2_2f2 t2_2f3 t2_2f4 t2_2f5 t2_2f6 : Bool), rdCells h2 t2 0 [(.bool t2_2f0), (.bool t2_2f1), (.bool t2_2f2), (.bool t2_2f3), (.bool t2_2f4), (.bool t2_2f5), (.bool t2_2f6)] ∧
 Q (.tuple #[(.agg #[(.bool t2_2f0), (.bool t2_2f1), (.bool t2_2f2), (.bool t2_2f3), (.bool t2_2f4), (.bool t2_2f5), (.bool t2_2f6)]), (.bool true)]) h2) h) (
 let t17 : Bool := (t4 == 4)
 br t17 (
 wrCells t2 0 [(.bool true), (.bool true), (.bool false), (.bool false), (.bool false), (.bool false), (.bool false)] (fun h3 =>
 ∃ (t2_3f0 t2_3f1 t2_3f2 t2_3f3 t2_3f4 t2_3f5 t2_3f6 : Bool), rdCells h3 t2 0 [(.bool t2_3f0), (.bool t2_3f1), (.bool t2_3f2), (.bool t2_3f3), (.bool t2_3f4), (.bool t2_3f5), (.bool t2_3f6)] ∧
 Q (.tuple #[(.agg #[(.bool t2_3f0), (.bool t2_3f1), (.bool t2_3f2), (.bool t2_3f3), (.bool t2_3f4), (.bool t2_3f5), (.bool t2_3f6)]), (.bool true)]) h3) h) (
 let t20 : Bool := (t4 == 5)
 br t20 (
 J2 t2 t4 t20 Q h) (
 let t21 : Bool := (t4 == 6)
 J2 t2 t4 t21 Q h))))) : J1 t2 t4 t8 Q h := by unfold J1; exact Jn.of_txt (an 215) (by kernel_rfl) H
theorem J2_of {t2 : Addr} {t4 : Int} {t19 : Bool} {Q : VP} {h : Heap} (H :
 br t19 (
 wrCells t2 0 [(.bool true), (.bool true), (.bool true), (.bool true), (.bool false), (.bool false), (.bool false)] (fun h1 =>
 ∃ (t2_1f0 t2_1f1 t2_1f2 t2_1f3 t2_1f4 t2_1f5 t2_1f6 : Bool), rdCells h1 t2 0 [(.bool t2_1f0), (.bool t2_1f1), (.bool t2_1f2), (.bool t2_1f3), (.bool t2_1f4), (.bool t2_1f5), (.bool t2_1f6)] ∧
 Q (.tuple #[(.agg #[(.bool t2_1f0), (.bool t2_1f1), (.bool t2_1f2), (.bool t2_1f3), (.bool t2_1f4), (.bool t2_1f5), (.bool t2_1f6)]), (.bool true)]) h1) h) (
 let t24 : Bool := (t4 == 7)
 br t24 (
 wrCells t2 0 [(.bool true), (.bool true), (.bool true), (.bool false), (.bool false), (.bool false), (.bool false)] (fun h2 =>
 ∃ (t2_2f0 t2_2f1 t2_2f2 t2_2f3 t2_2f4 t2_2f5 t2_2f6 : Bool), rdCells h2 t2 0 [(.bool t2_2f0), (.bool t2_2f1), (.bool t2_2f2), (.bool t2_2f3), (.bool t2_2f4), (.bool t2_2f5), (.bool t2_2f6)] ∧
 Q (.tuple #[(.agg #[(.bool t2_2f0), (.bool t2_2f1), (.bool t2_2f2), (.bool t2_2f3), (.bool t2_2f4), (.bool t2_2f5), (.bool t2_2f6)]), (.bool true)]) h2) h) (
 let t27 : Bool := (t4 == 8)
 br t27 (
 J3 t2 t4 t27 Q h) (
 let t28 : Bool := (t4 == 9)
 J3 t2 t4 t28 Q h)))) : J2 t2 t4 t19 Q h := by unfold J2; exact Jn.of_txt (an 13823) (by kernel_rfl) H
theorem J3_of {t2 : Addr} {t4 : Int} {t26 : Bool} {Q : VP} {h : Heap} (H :
 br t26 (
 wrCells t2 0 [(.bool true), (.bool false), (.bool false), (.bool false), (.bool false), (.bool false), (.bool false)] (fun h1 =>
 ∃ (t2_1f0 t2_1f1 t2_1f2 t2_1f3 t2_1f4 t2_1f5 t2_1f6 : Bool), rdCells h1 t2 0 [(.bool t2_1f0), (.bool t2_1f1), (.bool t2_1f2), (.bool t2_1f3), (.bool t2_1f4), (.bool t2_1f5), (.bool t2_1f6)] ∧
 Q (.tuple #[(.agg #[(.bool t2_1f0), (.bool t2_1f1), (.bool t2_1f2), (.bool t2_1f3), (.bool t2_1f4), (.bool t2_1f5), (.bool t2_1f6)]), (.bool true)]) h1) h) (
 let t31 : Bool := (t4 == 10)
 br t31 (
 wrCells t2 0 [(.bool true), (.bool true), (.bool false), (.bool false), (.bool true), (.bool true), (.bool false)] (fun h2 =>
 ∃ (t2_2f0 t2_2f1 t2_2f2 t2_2f3 t2_2f4 t2_2f5 t2_2f6 : Bool), rdCells h2 t2 0 [(.bool t2_2f0), (.bool t2_2f1), (.bool t2_2f2), (.bool t2_2f3), (.bool t2_2f4), (.bool t2_2f5), (.bool t2_2f6)] ∧
 Q (.tuple #[(.agg #[(.bool t2_2f0), (.bool t2_2f1), (.bool t2_2f2), (.bool t2_2f3), (.bool t2_2f4), (.bool t2_2f5), (.bool t2_2f6)]), (.bool true)]) h2) h) (
 let t34 : Bool := (t4 == 11)
 br t34 (
 wrCells t2 0 [(.bool true), (.bool true), (.bool false), (.bool true), (.bool false), (.bool false), (.bool false)] (fun h3 =>
 ∃ (t2_3f0 t2_3f1 t2_3f2 t2_3f3 t2_3f4 t2_3f5 t2_3f6 : Bool), rdCells h3 t2 0 [(.bool t2_3f0), (.bool t2_3f1), (.bool t2_3f2), (.bool t2_3f3), (.bool t2_3f4), (.bool t2_3f5), (.bool t2_3f6)] ∧
 Q (.tuple #[(.agg #[(.bool t2_3f0), (.bool t2_3f1), (.bool t2_3f2), (.bool t2_3f3), (.bool t2_3f4), (.bool t2_3f5), (.bool t2_3f6)]), (.bool true)]) h3) h) (
 wrCells t2 0 [(.bool false), (.bool false), (.bool false), (.bool false), (.bool false), (.bool false), (.bool false)] (fun h4 =>
 ∃ (t2_4f0 t2_4f1 t2_4f2 t2_4f3 t2_4f4 t2_4f5 t2_4f6 : Bool), rdCells h4 t2 0 [(.bool t2_4f0), (.bool t2_4f1), (.bool t2_4f2), (.bool t2_4f3), (.bool t2_4f4), (.bool t2_4f5), (.bool t2_4f6)] ∧
 Q (.tuple #[(.agg #[(.bool t2_4f0), (.bool t2_4f1), (.bool t2_4f2), (.bool t2_4f3), (.bool t2_4f4), (.bool t2_4f5), (.bool t2_4f6)]), (.bool false)]) h4) h)))) : J3 t2 t4 t26 Q h := by unfold J3; exact Jn.of_txt (an 221183) (by kernel_rfl) H
theorem door {k0 : Int} {Q : VP} {h : Heap} (H :
 let t2 : Addr := ⟨Array.size h, 0, none⟩
 let h1 : Heap := Array.push h (.cells #[(.bool false), (.bool false), (.bool false), (.bool false), (.bool false), (.bool false), (.bool false)] T_7_bool (0, 0))
 let t6 : Bool := (k0 == 1)
 br t6 (
 wrCells t2 0 [(.bool false), (.bool false), (.bool false), (.bool false), (.bool false), (.bool false), (.bool true)] (fun h2 =>
 ∃ (t2_1f0 t2_1f1 t2_1f2 t2_1f3 t2_1f4 t2_1f5 t2_1f6 : Bool), rdCells h2 t2 0 [(.bool t2_1f0), (.bool t2_1f1), (.bool t2_1f2), (.bool t2_1f3), (.bool t2_1f4), (.bool t2_1f5), (.bool t2_1f6)] ∧
 Q (.tuple #[(.agg #[(.bool t2_1f0), (.bool t2_1f1), (.bool t2_1f2), (.bool t2_1f3), (.bool t2_1f4), (.bool t2_1f5), (.bool t2_1f6)]), (.bool true)]) h2) h1) (
 let t9 : Bool := (k0 == 2)
 br t9 (
 J1 t2 k0 t9 Q h1) (
 let t10 : Bool := (k0 == 12)
 br t10 (
 J1 t2 k0 t10 Q h1) (
 let t11 : Bool := (k0 == 13)
 J1 t2 k0 t11 Q h1)))) : SpecH PP F_ref19_fields [(.int .i64 k0)] h Q :=
   spec_of_txt (ann := ann) Try.func28 rfl rfl (by kernel_rfl) H
end ref19_fields
/-! ### haversack/haversackref19.within: function 29 -/
namespace ref19_within
def ann : Ann := (.seq 1 (.region [(List.range 1, 1)]) (.seq 4 (.region [(List.range 7, 4)]) (.exit 4)))
noncomputable abbrev cd (n : Nat) : Code := sub (bodyOf Try.f29) (pth n)
abbrev an (n : Nat) : Ann := subA ann (pth n)
theorem door {xn0 : Int} {Q : VP} {h : Heap} (H :
 let t4 : Bool := decide (xn0 ≥ 0)
 br t4 (
 let t7 : Bool := decide (xn0 ≤ 1000000000)
 Q (.bool t7) h) (
 Q (.bool false) h)) : SpecH PP F_ref19_within [(.int .i64 xn0)] h Q :=
   spec_of_txt (ann := ann) Try.func29 rfl rfl (by kernel_rfl) H
end ref19_within
/-! ### haversack/haversackref19.number: function 30 -/
namespace ref19_number
def ann : Ann := (.seq 3 (.region [(List.range 1, 3)]) (.seq 1 (.seq 35 (.region [(List.range 1, 35)]) (.block (.loop 35 (.seq 35 (.seq 163 (.region [(List.range 2, 163)]) (.cond .leaf (.exit 1))) (.seq 35 (.block (.seq 35 (.region [(List.range 7, 35)]) (.region [(List.range 3, 35)]))) (.region [(List.range 3, 35)])))))) (.seq 16 (.region [(List.range 2, 16)]) (.exit 16))))
noncomputable abbrev cd (n : Nat) : Code := sub (bodyOf Try.f30) (pth n)
abbrev an (n : Nat) : Ann := subA ann (pth n)
@[irreducible] def X0 (b0 : OA) (b0n b0c : Nat) : Fr := (mkFr 0 19 [(0, (.slice b0 b0n b0c))])
@[irreducible] def L1 (b0 : OA) (b0n b0c : Nat) (xn1 i5 : Int) (K : EP) (h : Heap) : Prop := Lp PP true (cd 52) (mkFr 0 19 [(0, (.slice b0 b0n b0c)), (1, (.int .i64 xn1)), (5, (.int .i64 i5))]) K h
@[irreducible] def B1 (K : EP) : EP := seqK (fun fr h => Lp PP true (cd 52) (fr.mask 35) K h) K
@[irreducible] def K2 (Q : VP) : EP := seqK (fun fr h => ev PP true none (cd 7) (an 7) (fr.mask 1) (bodyK PP Try.f30 Q) h) (bodyK PP Try.f30 Q)
@[irreducible] def K1 (Q : VP) : EP := blockK 0 (K2 Q)
theorem L1_of {b0 : OA} {b0n b0c : Nat} {xn1 i5 : Int} {K : EP} {h : Heap} (H :
 let t7 : Bool := decide (i5 < 4)
 br t7 (
 let t12 : Int := Int.tmod xn1 256
 let t13 : Int := IntKind.u8.wrap t12
 let h1 : Heap := Array.push h (.cells #[(.int .u8 t13)] T_uint8 (0, 0))
 hwp PP (Builtin.append_ #[T_sl_uint8, T_sl_uint8] T_sl_uint8 #[(.slice b0 b0n b0c), (.slice (some ⟨Array.size h, 0, none⟩) 1 1)]) (fun v h2 => ∃ (t15 : OA) (t15n t15c : Nat), v = (.slice t15 t15n t15c) ∧
 let t17 : Int := IntKind.i64.wrap (Int.tdiv xn1 256)
 let t9 : Int := IntKind.i64.wrap (i5 + 1)
 L1 t15 t15n t15c t17 t9 K h2) h1) (
 K (.exit 0) (X0 b0 b0n b0c) h)) : L1 b0 b0n b0c xn1 i5 K h := by unfold L1; exact Lp.of_txt (an 52) 35 (by kernel_rfl) H
theorem L1_X0 {Q : VP} {b0 : OA} {b0n b0c : Nat} {h : Heap} (H :
 Q (.slice b0 b0n b0c) h) : (K1 Q) (.exit 0) (X0 b0 b0n b0c) h := of_eq_txt (by kernel_rfl) H
theorem door {b0 : OA} {b0n b0c : Nat} {xn1 : Int} {Q : VP} {h : Heap} (H :
 L1 b0 b0n b0c xn1 0 (K1 Q) h) : SpecH PP F_ref19_number [(.slice b0 b0n b0c), (.int .i64 xn1)] h Q :=
   spec_of_txt (ann := ann) Try.func30 rfl rfl (by kernel_rfl) H
end ref19_number
/-! ### haversack/haversackref19.text: function 31 -/
namespace ref19_text
def ann : Ann := (.seq 3 (.region [(List.range 1, 3)]) (.seq 3 (.region [(List.range 12, 3)]) (.seq 16 (.region [(List.range 4, 16)]) (.exit 16))))
noncomputable abbrev cd (n : Nat) : Code := sub (bodyOf Try.f31) (pth n)
abbrev an (n : Nat) : Ann := subA ann (pth n)
theorem door {b0 : OA} {b0n b0c : Nat} {s1 : ByteArray} {Q : VP} {h : Heap} (H :
 let t7 : Int := (ByteArray.size s1 : Int)
 let t8 : Int := Int.tmod t7 256
 let t9 : Int := IntKind.u8.wrap t8
 let t11 : Int := (ByteArray.size s1 : Int)
 let t12 : Int := IntKind.i64.wrap (Int.tdiv t11 256)
 let t13 : Int := IntKind.u8.wrap t12
 let h1 : Heap := Array.push h (.cells #[(.int .u8 t9), (.int .u8 t13)] T_uint8 (0, 0))
 hwp PP (Builtin.append_ #[T_sl_uint8, T_sl_uint8] T_sl_uint8 #[(.slice b0 b0n b0c), (.slice (some ⟨Array.size h, 0, none⟩) 2 2)]) (fun v h2 => ∃ (t15 : OA) (t15n t15c : Nat), v = (.slice t15 t15n t15c) ∧
 hwp PP (Builtin.append_ #[T_sl_uint8, T_string] T_sl_uint8 #[(.slice t15 t15n t15c), (.string s1)]) (fun v_1 h3 => ∃ (t18 : OA) (t18n t18c : Nat), v_1 = (.slice t18 t18n t18c) ∧
 Q (.slice t18 t18n t18c) h3) h2) h1) : SpecH PP F_ref19_text [(.slice b0 b0n b0c), (.string s1)] h Q :=
   spec_of_txt (ann := ann) Try.func31 rfl rfl (by kernel_rfl) H
end ref19_text
/-! ### haversack/wire.GetRequest$1: function 32 -/
namespace wire_GetRequest_1
def ann : Ann := (.seq 10 (.region [(List.range 2, 10)]) (.cond (.region [(List.range 2, 0)]) .leaf))
noncomputable abbrev cd (n : Nat) : Code := sub (bodyOf Try.f32) (pth n)
abbrev an (n : Nat) : Ann := subA ann (pth n)
theorem doorD {t0 t1 : Addr} {m : Option Value} {Q0 : MP} {h : Heap} (H : (fun (Q : VP) =>
 ∃ (t2 : Int), cellH h t0 = some (.int .i64 t2) ∧
 let t3 : Bool := (t2 != 0)
 br t3 (
 wrCells t1 0 [(.int .i64 0), (.int .i64 0), (.string (⟨#[]⟩ : ByteArray)), (.string (⟨#[]⟩ : ByteArray)), (.string (⟨#[]⟩ : ByteArray)), (.int .i64 0), (.int .i64 0), (.string (⟨#[]⟩ : ByteArray))] (fun h1 =>
 Q (.tuple #[]) h1) h) (
 Q (.tuple #[]) h)) (fun _ h => Q0 m h)) : SpecD PP F_wire_GetRequest_1 [(.pointer (some t0)), (.pointer (some t1))] m h Q0 := specD_of_txt (ann := ann) Try.func32 rfl rfl (by kernel_rfl) H
theorem door {t0 t1 : Addr} {Q : VP} {h : Heap} (H :
 ∃ (t2 : Int), cellH h t0 = some (.int .i64 t2) ∧
 let t3 : Bool := (t2 != 0)
 br t3 (
 wrCells t1 0 [(.int .i64 0), (.int .i64 0), (.string (⟨#[]⟩ : ByteArray)), (.string (⟨#[]⟩ : ByteArray)), (.string (⟨#[]⟩ : ByteArray)), (.int .i64 0), (.int .i64 0), (.string (⟨#[]⟩ : ByteArray))] (fun h1 =>
 Q (.tuple #[]) h1) h) (
 Q (.tuple #[]) h)) : SpecH PP F_wire_GetRequest_1 [(.pointer (some t0)), (.pointer (some t1))] h Q :=
   spec_of_txt (ann := ann) Try.func32 rfl rfl (by kernel_rfl) H
end wire_GetRequest_1
/-! ### (*haversack/haversackref19.Cut).number: function 33 -/
namespace ref19_Cut_number
def ann : Ann := (.seq 1 (.region [(List.range 1, 1)]) (.seq 9 (.region [(List.range 3, 9)]) (.seq 8 (.region [(List.range 13, 8)]) (.join (.seq 4 (.region [(List.range 2, 4)]) (.exit 4))))))
noncomputable abbrev cd (n : Nat) : Code := sub (bodyOf Try.f33) (pth n)
abbrev an (n : Nat) : Ann := subA ann (pth n)
@[irreducible] def J1 (xn3 : Int) (Q : VP) (h : Heap) : Prop := Jn PP true (cd 15) (mkFr 0 19 [(3, (.int .i64 xn3))]) (bodyK PP Try.f33 Q) h
theorem J1_of {xn3 : Int} {Q : VP} {h : Heap} (H :
 Q (.int .i64 xn3) h) : J1 xn3 Q h := by unfold J1; exact Jn.of_txt (an 15) (by kernel_rfl) H
theorem door {c0 : OA} {Q : VP} {h : Heap} (H :
 SpecH PP F_ref19_Cut_small [(.pointer c0), (.int .i64 4)] h (fun v h1 => ∃ (t5 : Int), v = (.int .i64 t5) ∧
 nilc c0 (fun t8 =>
 ∃ (t10 : Bool), cellH h1 (Addr.add t8 1) = some (.bool t10) ∧
 br t10 (
 nilc c0 (fun t16 =>
 wr (Addr.add t16 1) (.bool true) (fun h2 =>
 J1 t5 Q h2) h1)) (
 ∃ v_1, PureAt PP F_ref19_within [(.int .i64 t5)] v_1 ∧
 ∃ (t13 : Bool), v_1 = (.bool t13) ∧
 let t14 : Bool := (!t13)
 nilc c0 (fun t16_1 =>
 wr (Addr.add t16_1 1) (.bool t14) (fun h3 =>
 J1 t5 Q h3) h1))))) : SpecH PP F_ref19_Cut_number [(.pointer c0)] h Q :=
   spec_of_txt (ann := ann) Try.func33 rfl rfl (by kernel_rfl) H
end ref19_Cut_number
/-! ### (*haversack/haversackref19.Cut).text: function 34 -/
namespace ref19_Cut_text
def ann : Ann := (.seq 3 (.region [(List.range 1, 3)]) (.seq 35 (.region [(List.range 3, 35)]) (.seq 33 (.seq 1057 (.region [(List.range 3, 1057)]) (.cond (.seq 0 (.region [(List.range 4, 0)]) (.seq 16 (.region [(List.range 1, 16)]) (.exit 16))) .leaf)) (.seq 16 (.region [(List.range 5, 16)]) (.exit 16)))))
noncomputable abbrev cd (n : Nat) : Code := sub (bodyOf Try.f34) (pth n)
abbrev an (n : Nat) : Ann := subA ann (pth n)
theorem door {c0 : OA} {most1 : Int} {Q : VP} {h : Heap} (H :
 SpecH PP F_ref19_Cut_small [(.pointer c0), (.int .i64 2)] h (fun v h1 => ∃ (t7 : Int), v = (.int .i64 t7) ∧
 let t10 : Bool := decide (t7 > most1)
 br t10 (
 nilc c0 (fun t12 =>
 wr (Addr.add t12 1) (.bool true) (fun h2 =>
 Q (.string (⟨#[]⟩ : ByteArray)) h2) h1)) (
 SpecH PP F_ref19_Cut_take [(.pointer c0), (.int .i64 t7)] h1 (fun v_1 h3 => ∃ (t16 : OA) (t16n t16c : Nat), v_1 = (.slice t16 t16n t16c) ∧
 hwp PP (Go.convert T_sl_uint8 T_string (.slice t16 t16n t16c)) (fun v_2 h4 => ∃ (t17 : ByteArray), v_2 = (.string t17) ∧
 Q (.string t17) h4) h3)))) : SpecH PP F_ref19_Cut_text [(.pointer c0), (.int .i64 most1)] h Q :=
   spec_of_txt (ann := ann) Try.func34 rfl rfl (by kernel_rfl) H
end ref19_Cut_text
/-! ### (*haversack/wire.port).response: function 35 -/
namespace wire_port_response
def ann : Ann := (.seq 19 (.region [(List.range 6, 19)]) (.seq 19 (.thr (List.range 1) 1 19 0) (.seq 3 (.region [(List.range 5, 3)]) (.seq 3 (.seq 1924145348611 (.region [(List.range 20, 1924145348611)]) (.block (.loop 1924145348611 (.seq 4123168604163 (.region [(List.range 1, 4123168604163)]) (.seq 1924145348611 (.cond .leaf (.exit 3)) (.seq 1924145348611 (.block (.seq 1924145348675 (.region [(List.range 3, 1924145348675)]) (.thr (List.range 2) 2 1924145348611 0))) (.region [(List.range 2, 1924145348611)]))))))) (.seq 3 (.thr (List.range 4) 4 3 0) (.seq 131 (.region [(List.range 7, 131)]) (.seq 131 (.thr (List.range 1) 1 131 0) (.seq 131 (.thr (List.range 2) 2 131 0) (.seq 27670116110564327427 (.region [(List.range 2, 27670116110564327427)]) (.block (.loop 27670116110564327427 (.seq 64563604257983430659 (.region [(List.range 1, 64563604257983430659)]) (.seq 27670116110564327427 (.cond .leaf (.exit 0)) (.seq 27670116110564327427 (.block (.seq 27670116110564327683 (.region [(List.range 2, 27670116110564327683)]) (.seq 27670116110564328195 (.region [(List.range 2, 27670116110564328195)]) (.seq 27670116110564327939 (.seq 1208261736827975631619 (.region [(List.range 4, 1208261736827975631619)]) (.cond (.seq 27670116110564327939 (.region [(List.range 8, 27670116110564327939)]) (.thr (List.range 3) 3 27670116110564327939 0)) .leaf)) (.join (.seq 27670116110564328963 (.region [(List.range 4, 27670116110564328963)]) (.seq 27670116110564328963 (.thr (List.range 1) 1 27670116110564328963 0) (.seq 27670116110564327939 (.thr (List.range 2) 2 27670116110564327939 0) (.seq 9903520341953158309757321731 (.region [(List.range 5, 9903520341953158309757321731)]) (.cond (.region [(List.range 11, 27670116110564327427)]) .leaf)))))))))) (.join (.region [(List.range 2, 27670116110564327427)]))))))))))))))))
noncomputable abbrev cd (n : Nat) : Code := sub (bodyOf Try.f35) (pth n)
abbrev an (n : Nat) : Ann := subA ann (pth n)
@[irreducible] def Xpan  : Fr := (mkFr 0 105 [])
@[irreducible] def X0 (p0 r1 : OA) : Fr := (mkFr 0 105 [(0, (.pointer p0)), (1, (.pointer r1))])
@[irreducible] def X2  : Fr := (mkFr 0 105 [])
@[irreducible] def L1 (p0 r1 t38 : OA) (t38n t38c : Nat) (t39 t40 : Int) (K : EP) (h : Heap) : Prop := Lp PP true (cd 244) (mkFr 0 105 [(0, (.pointer p0)), (1, (.pointer r1)), (38, (.slice t38 t38n t38c)), (39, (.int .i64 t39)), (40, (.int .i64 t40))]) K h
@[irreducible] def B1 (K : EP) : EP := seqK (fun fr h => Lp PP true (cd 244) (fr.mask 1924145348611) K h) K
@[irreducible] def K2 (Q X : VP) : EP := seqK (fun fr h => ev PP true none (cd 31) (an 31) (fr.mask 3) (bodyKT PP Try.f35 Q X) h) (bodyKT PP Try.f35 Q X)
@[irreducible] def K1 (Q X : VP) : EP := blockK 0 (K2 Q X)
@[irreducible] def K3 (Q X : VP) : EP := blockK 2 (bodyKT PP Try.f35 Q X)
@[irreducible] def L2 (p0 r1 : OA) (t63 t64 : Int) (K : EP) (h : Heap) : Prop := Lp PP true (cd 4092) (mkFr 0 105 [(0, (.pointer p0)), (1, (.pointer r1)), (63, (.int .i64 t63)), (64, (.int .i64 t64))]) K h
@[irreducible] def B2 (K : EP) : EP := seqK (fun fr h => Lp PP true (cd 4092) (fr.mask 27670116110564327427) K h) K
@[irreducible] def K5 (K : EP) : EP := seqK (fun fr h => Jn PP true (cd 32743) (fr.mask 27670116110564327427) (B2 K) h) (B2 K)
@[irreducible] def K4 (K : EP) : EP := blockK 3 (K5 K)
@[irreducible] def J1 (p0 r1 : OA) (s9 : Addr) (t63 t64 : Int) (K : EP) (h : Heap) : Prop := Jn PP true (cd 523879) (mkFr 0 105 [(0, (.pointer p0)), (1, (.pointer r1)), (9, (.pointer (some s9))), (63, (.int .i64 t63)), (64, (.int .i64 t64))]) (K4 K) h
@[irreducible] def J2 (p0 r1 : OA) (t63 t64 : Int) (K : EP) (h : Heap) : Prop := Jn PP true (cd 32743) (mkFr 0 105 [(0, (.pointer p0)), (1, (.pointer r1)), (63, (.int .i64 t63)), (64, (.int .i64 t64))]) (B2 K) h
theorem L1_of {p0 r1 t38 : OA} {t38n t38c : Nat} {t39 t40 : Int} {K : EP} {h : Heap} (H :
 let t41 : Bool := decide (t40 < t39)
 br t41 (
 hwp PP (Instr.indexAt T_sl_p_int (.slice t38 t38n t38c) (.int .i64 t40)) (fun v h1 => ∃ (t42 : Addr), v = (.pointer (some t42)) ∧
 ∃ (t43 : OA), cellH h1 t42 = some (.pointer t43) ∧
 SpecT PP F_wire_port_number [(.pointer p0), (.pointer t43)] h1 (fun v_1 h2 => v_1 = (.tuple #[]) ∧
 let t47 : Int := IntKind.i64.wrap (t40 + 1)
 L1 p0 r1 t38 t38n t38c t39 t47 K h2) (fun v_2 h3 => K (.pan v_2) (Xpan) h3)) h) (
 K (.exit 0) (X0 p0 r1) h)) : L1 p0 r1 t38 t38n t38c t39 t40 K h := by unfold L1; exact Lp.of_txt (an 244) 1924145348611 (by kernel_rfl) H
theorem L1_Xpan {Q X : VP} {v : Value} {h : Heap} (H :
 X v h) : (K1 Q X) (.pan v) (Xpan ) h := of_eq_txt (by kernel_rfl) H
theorem L1_X0 {Q X : VP} {p0 r1 : OA} {h : Heap} (H :
 nilc r1 (fun t50 =>
 SpecT PP F_wire_port_text [(.pointer p0), (.pointer (some (Addr.add t50 4))), (.int .i64 16384)] h (fun v h1 => v = (.tuple #[]) ∧
 nilc r1 (fun t54 =>
 ∃ (t56 : OA) (t56n t56c : Nat), cellH h1 (Addr.add t54 5) = some (.slice t56 t56n t56c) ∧
 let many7 : Addr := ⟨Array.size h1, 0, none⟩
 let h2 : Heap := Array.push h1 (.cells #[(.int .i64 0)] T_int (0, 0))
 wr many7 (.int .i64 (t56n : Int)) (fun h3 =>
 SpecT PP F_wire_port_small [(.pointer p0), (.pointer (some many7))] h3 (fun v_1 h4 => v_1 = (.tuple #[]) ∧
 ∃ (t60 : Int), cellH h4 many7 = some (.int .i64 t60) ∧
 let t61 : Bool := decide (t60 ≤ 64)
 SpecT PP F_wire_is [(.bool t61), (.int .i64 190)] h4 (fun v_2 h5 => v_2 = (.tuple #[]) ∧
 ∃ (t63 : Int), cellH h5 many7 = some (.int .i64 t63) ∧
 L2 p0 r1 t63 0 (K3 Q X) h5) (fun v_3 h6 => X v_3 h6)) (fun v_4 h7 => X v_4 h7)) h2)) (fun v_5 h8 => X v_5 h8))) : (K1 Q X) (.exit 0) (X0 p0 r1) h := of_eq_txt (by kernel_rfl) H
theorem L2_of {p0 r1 : OA} {t63 t64 : Int} {K : EP} {h : Heap} (H :
 let t65 : Bool := decide (t64 < t63)
 br t65 (
 let s9 : Addr := ⟨Array.size h, 0, none⟩
 let h1 : Heap := Array.push h (.cells #[(.string (⟨#[]⟩ : ByteArray))] T_string (0, 0))
 wr s9 (.string (⟨#[]⟩ : ByteArray)) (fun h2 =>
 nilc p0 (fun t68 =>
 ∃ (t70 : Bool), cellH h2 (Addr.add t68 1) = some (.bool t70) ∧
 br t70 (
 nilc r1 (fun t72 =>
 ∃ (t74 : OA) (t74n t74c : Nat), cellH h2 (Addr.add t72 5) = some (.slice t74 t74n t74c) ∧
 hwp PP (Instr.indexAt T_sl_string (.slice t74 t74n t74c) (.int .i64 t64)) (fun v h3 => ∃ (t76 : Addr), v = (.pointer (some t76)) ∧
 ∃ (t77 : ByteArray), cellH h3 t76 = some (.string t77) ∧
 wr s9 (.string t77) (fun h4 =>
 ∃ (t78 : ByteArray), cellH h4 s9 = some (.string t78) ∧
 let t79 : Int := (ByteArray.size t78 : Int)
 let t80 : Bool := decide (t79 ≤ 255)
 SpecT PP F_wire_is [(.bool t80), (.int .i64 2)] h4 (fun v_1 h5 => v_1 = (.tuple #[]) ∧
 J1 p0 r1 s9 t63 t64 K h5) (fun v_2 h6 => K (.pan v_2) (Xpan) h6)) h3) h2)) (
 J1 p0 r1 s9 t63 t64 K h2))) h1) (
 K (.exit 2) (X2) h)) : L2 p0 r1 t63 t64 K h := by unfold L2; exact Lp.of_txt (an 4092) 27670116110564327427 (by kernel_rfl) H
theorem L2_Xpan {Q X : VP} {v : Value} {h : Heap} (H :
 X v h) : (K3 Q X) (.pan v) (Xpan ) h := of_eq_txt (by kernel_rfl) H
theorem J1_of {p0 r1 : OA} {s9 : Addr} {t63 t64 : Int} {K : EP} {h : Heap} (H :
 ∃ (t82 : ByteArray), cellH h s9 = some (.string t82) ∧
 let t83 : Int := (ByteArray.size t82 : Int)
 let xn10 : Addr := ⟨Array.size h, 0, none⟩
 let h1 : Heap := Array.push h (.cells #[(.int .i64 0)] T_int (0, 0))
 wr xn10 (.int .i64 t83) (fun h2 =>
 SpecT PP F_wire_port_small [(.pointer p0), (.pointer (some xn10))] h2 (fun v h3 => v = (.tuple #[]) ∧
 ∃ (t87 : Int), cellH h3 xn10 = some (.int .i64 t87) ∧
 SpecT PP F_wire_port_bytes [(.pointer p0), (.pointer (some s9)), (.int .i64 t87)] h3 (fun v_1 h4 => v_1 = (.tuple #[]) ∧
 nilc p0 (fun t90 =>
 ∃ (t92 : Bool), cellH h4 (Addr.add t90 1) = some (.bool t92) ∧
 let t93 : Bool := (!t92)
 br t93 (
 nilc r1 (fun t96 =>
 ∃ (t98 : OA) (t98n t98c : Nat), cellH h4 (Addr.add t96 5) = some (.slice t98 t98n t98c) ∧
 ∃ (t99 : ByteArray), cellH h4 s9 = some (.string t99) ∧
 let h5 : Heap := Array.push h4 (.cells #[(.string t99)] T_string (0, 0))
 hwp PP (Builtin.append_ #[T_sl_string, T_sl_string] T_sl_string #[(.slice t98 t98n t98c), (.slice (some ⟨Array.size h4, 0, none⟩) 1 1)]) (fun v_2 h6 => ∃ (t101 : OA) (t101n t101c : Nat), v_2 = (.slice t101 t101n t101c) ∧
 nilc r1 (fun t102 =>
 wr (Addr.add t102 5) (.slice t101 t101n t101c) (fun h7 =>
 J2 p0 r1 t63 t64 K h7) h6)) h5)) (
 J2 p0 r1 t63 t64 K h4))) (fun v_3 h8 => K (.pan v_3) (Xpan) h8)) (fun v_4 h9 => K (.pan v_4) (Xpan) h9)) h1) : J1 p0 r1 s9 t63 t64 K h := by unfold J1; exact Jn.of_txt (an 523879) (by kernel_rfl) H
theorem L2_X2 {Q X : VP}  {h : Heap} (H :
 Q (.tuple #[]) h) : (K3 Q X) (.exit 2) (X2 ) h := of_eq_txt (by kernel_rfl) H
theorem J2_of {p0 r1 : OA} {t63 t64 : Int} {K : EP} {h : Heap} (H :
 let t104 : Int := IntKind.i64.wrap (t64 + 1)
 L2 p0 r1 t63 t104 K h) : J2 p0 r1 t63 t64 K h := by unfold J2; exact Jn.of_txt (an 32743) (by kernel_rfl) H
theorem door {p0 r1 : OA} {Q X : VP} {h : Heap} (H :
 nilc r1 (fun t12 =>
 ∃ (t14 : Int), cellH h t12 = some (.int .i64 t14) ∧
 let code4 : Addr := ⟨Array.size h, 0, none⟩
 let h1 : Heap := Array.push h (.cells #[(.int .i64 0)] T_int (0, 0))
 wr code4 (.int .i64 t14) (fun h2 =>
 SpecT PP F_wire_port_short [(.pointer p0), (.pointer (some code4))] h2 (fun v h3 => v = (.tuple #[]) ∧
 ∃ (t18 : Int), cellH h3 code4 = some (.int .i64 t18) ∧
 nilc r1 (fun t19 =>
 wr t19 (.int .i64 t18) (fun h4 =>
 nilc r1 (fun t22 =>
 nilc r1 (fun t25 =>
 nilc r1 (fun t28 =>
 nilc r1 (fun t31 =>
 nilc r1 (fun t35 =>
 let h5 : Heap := Array.push h4 (.cells #[(.pointer (some (Addr.add t22 1))), (.pointer (some (Addr.add t25 2))), (.pointer (some (Addr.add t28 3))), (.pointer (some (Addr.add t31 6))), (.pointer (some (Addr.add (Addr.add t35 6) 1)))] T_p_int (0, 0))
 L1 p0 r1 (some ⟨Array.size h4, 0, none⟩) 5 5 5 0 (K1 Q X) h5)))))) h3)) (fun v_1 h6 => X v_1 h6)) h1)) : SpecT PP F_wire_port_response [(.pointer p0), (.pointer r1)] h Q X := specT_of_txt (ann := ann) Try.func35 rfl rfl (by kernel_rfl) H
end wire_port_response
/-! ### haversack/wire.GetResponse$1: function 36 -/
namespace wire_GetResponse_1
def ann : Ann := (.seq 10 (.region [(List.range 2, 10)]) (.cond (.region [(List.range 2, 0)]) .leaf))
noncomputable abbrev cd (n : Nat) : Code := sub (bodyOf Try.f36) (pth n)
abbrev an (n : Nat) : Ann := subA ann (pth n)
theorem doorD {t0 t1 : Addr} {m : Option Value} {Q0 : MP} {h : Heap} (H : (fun (Q : VP) =>
 ∃ (t2 : Int), cellH h t0 = some (.int .i64 t2) ∧
 let t3 : Bool := (t2 != 0)
 br t3 (
 wrCells t1 0 [(.int .i64 0), (.int .i64 0), (.int .i64 0), (.int .i64 0), (.string (⟨#[]⟩ : ByteArray)), (.slice none 0 0), (.int .i64 0), (.int .i64 0)] (fun h1 =>
 Q (.tuple #[]) h1) h) (
 Q (.tuple #[]) h)) (fun _ h => Q0 m h)) : SpecD PP F_wire_GetResponse_1 [(.pointer (some t0)), (.pointer (some t1))] m h Q0 := specD_of_txt (ann := ann) Try.func36 rfl rfl (by kernel_rfl) H
theorem door {t0 t1 : Addr} {Q : VP} {h : Heap} (H :
 ∃ (t2 : Int), cellH h t0 = some (.int .i64 t2) ∧
 let t3 : Bool := (t2 != 0)
 br t3 (
 wrCells t1 0 [(.int .i64 0), (.int .i64 0), (.int .i64 0), (.int .i64 0), (.string (⟨#[]⟩ : ByteArray)), (.slice none 0 0), (.int .i64 0), (.int .i64 0)] (fun h1 =>
 Q (.tuple #[]) h1) h) (
 Q (.tuple #[]) h)) : SpecH PP F_wire_GetResponse_1 [(.pointer (some t0)), (.pointer (some t1))] h Q :=
   spec_of_txt (ann := ann) Try.func36 rfl rfl (by kernel_rfl) H
end wire_GetResponse_1
/-! ### (*haversack/haversackref19.Cut).small: function 37 -/
namespace ref19_Cut_small
def ann : Ann := (.seq 3 (.region [(List.range 1, 3)]) (.seq 34 (.region [(List.range 4, 34)]) (.seq 98 (.region [(List.range 1, 98)]) (.seq 64 (.seq 224 (.region [(List.range 3, 224)]) (.block (.loop 224 (.seq 224 (.seq 16608 (.region [(List.range 2, 16608)]) (.cond .leaf (.exit 64))) (.seq 224 (.block (.region [(List.range 9, 224)])) (.region [(List.range 3, 224)])))))) (.seq 16 (.region [(List.range 2, 16)]) (.exit 16))))))
noncomputable abbrev cd (n : Nat) : Code := sub (bodyOf Try.f37) (pth n)
abbrev an (n : Nat) : Ann := subA ann (pth n)
@[irreducible] def X0 (xn6 : Int) : Fr := (mkFr 0 26 [(6, (.int .i64 xn6))])
@[irreducible] def L1 (b5 : OA) (b5n b5c : Nat) (xn6 i7 : Int) (K : EP) (h : Heap) : Prop := Lp PP true (cd 244) (mkFr 0 26 [(5, (.slice b5 b5n b5c)), (6, (.int .i64 xn6)), (7, (.int .i64 i7))]) K h
@[irreducible] def B1 (K : EP) : EP := seqK (fun fr h => Lp PP true (cd 244) (fr.mask 224) K h) K
@[irreducible] def K2 (Q : VP) : EP := seqK (fun fr h => ev PP true none (cd 31) (an 31) (fr.mask 64) (bodyK PP Try.f37 Q) h) (bodyK PP Try.f37 Q)
@[irreducible] def K1 (Q : VP) : EP := blockK 0 (K2 Q)
theorem L1_of {b5 : OA} {b5n b5c : Nat} {xn6 i7 : Int} {K : EP} {h : Heap} (H :
 let t14 : Bool := decide (i7 ≥ 0)
 br t14 (
 let t18 : Int := IntKind.i64.wrap (256 * xn6)
 hwp PP (Instr.indexAt T_sl_uint8 (.slice b5 b5n b5c) (.int .i64 i7)) (fun v h1 => ∃ (t21 : Addr), v = (.pointer (some t21)) ∧
 ∃ (t22 : Int), cellH h1 t21 = some (.int .u8 t22) ∧
 let t23 : Int := IntKind.i64.wrap t22
 let t24 : Int := IntKind.i64.wrap (t18 + t23)
 let t16 : Int := IntKind.i64.wrap (i7 - 1)
 L1 b5 b5n b5c t24 t16 K h1) h) (
 K (.exit 0) (X0 xn6) h)) : L1 b5 b5n b5c xn6 i7 K h := by unfold L1; exact Lp.of_txt (an 244) 224 (by kernel_rfl) H
theorem L1_X0 {Q : VP} {xn6 : Int} {h : Heap} (H :
 Q (.int .i64 xn6) h) : (K1 Q) (.exit 0) (X0 xn6) h := of_eq_txt (by kernel_rfl) H
theorem door {c0 : OA} {bytes1 : Int} {Q : VP} {h : Heap} (H :
 SpecH PP F_ref19_Cut_take [(.pointer c0), (.int .i64 bytes1)] h (fun v h1 => ∃ (t10 : OA) (t10n t10c : Nat), v = (.slice t10 t10n t10c) ∧
 let t12 : Int := IntKind.i64.wrap (bytes1 - 1)
 L1 t10 t10n t10c 0 t12 (K1 Q) h1)) : SpecH PP F_ref19_Cut_small [(.pointer c0), (.int .i64 bytes1)] h Q :=
   spec_of_txt (ann := ann) Try.func37 rfl rfl (by kernel_rfl) H
end ref19_Cut_small
/-! ### (*haversack/haversackref19.Cut).take: function 38 -/
namespace ref19_Cut_take
def ann : Ann := (.seq 3 (.region [(List.range 1, 3)]) (.seq 3 (.seq 4099 (.region [(List.range 7, 4099)]) (.cond (.seq 2 (.region [(List.range 4, 2)]) (.seq 16 (.region [(List.range 3, 16)]) (.exit 16))) .leaf)) (.seq 35 (.region [(List.range 7, 35)]) (.seq 32 (.region [(List.range 10, 32)]) (.seq 16 (.region [(List.range 2, 16)]) (.exit 16))))))
noncomputable abbrev cd (n : Nat) : Code := sub (bodyOf Try.f38) (pth n)
abbrev an (n : Nat) : Ann := subA ann (pth n)
theorem door {c0 : OA} {xn1 : Int} {Q : VP} {h : Heap} (H :
 nilc c0 (fun t8 =>
 ∃ (t10 : OA) (t10n t10c : Nat), cellH h t8 = some (.slice t10 t10n t10c) ∧
 let t12 : Bool := decide (xn1 > (t10n : Int))
 br t12 (
 nilc c0 (fun t14 =>
 wr (Addr.add t14 1) (.bool true) (fun h1 =>
 hwp PP (Instr.makeSlice T_sl_uint8 (.int .i64 xn1) (.int .i64 xn1)) (fun v h2 => ∃ (t17 : OA) (t17n t17c : Nat), v = (.slice t17 t17n t17c) ∧
 Q (.slice t17 t17n t17c) h2) h1) h)) (
 nilc c0 (fun t19 =>
 ∃ (t21 : OA) (t21n t21c : Nat), cellH h t19 = some (.slice t21 t21n t21c) ∧
 hwp PP (Instr.sliceAt T_sl_uint8 (.slice t21 t21n t21c) none (some (.int .i64 xn1)) none) (fun v_1 h3 => ∃ (t23 : OA) (t23n t23c : Nat), v_1 = (.slice t23 t23n t23c) ∧
 nilc c0 (fun t26 =>
 ∃ (t28 : OA) (t28n t28c : Nat), cellH h3 t26 = some (.slice t28 t28n t28c) ∧
 hwp PP (Instr.sliceAt T_sl_uint8 (.slice t28 t28n t28c) (some (.int .i64 xn1)) none none) (fun v_2 h4 => ∃ (t30 : OA) (t30n t30c : Nat), v_2 = (.slice t30 t30n t30c) ∧
 nilc c0 (fun t31 =>
 wr t31 (.slice t30 t30n t30c) (fun h5 =>
 Q (.slice t23 t23n t23c) h5) h4)) h3)) h)))) : SpecH PP F_ref19_Cut_take [(.pointer c0), (.int .i64 xn1)] h Q :=
   spec_of_txt (ann := ann) Try.func38 rfl rfl (by kernel_rfl) H
end ref19_Cut_take
/-! ### (*haversack/wire.port).request$1: function 39 -/
namespace wire_port_request_1
def ann : Ann := (.seq 4 (.thr (List.range 4) 4 4 0) (.region [(List.range 4, 0)]))
noncomputable abbrev cd (n : Nat) : Code := sub (bodyOf Try.f39) (pth n)
abbrev an (n : Nat) : Ann := subA ann (pth n)
theorem door {t0 t1 t2 : Addr} {Q X : VP} {h : Heap} (H :
 ∃ (t3 : OA), cellH h t0 = some (.pointer t3) ∧
 ∃ (t4 : OA), cellH h t1 = some (.pointer t4) ∧
 nilc t4 (fun t5 =>
 SpecT PP F_wire_port_number [(.pointer t3), (.pointer (some (Addr.add t5 1)))] h (fun v h1 => v = (.tuple #[]) ∧
 ∃ (t8 : OA), cellH h1 t2 = some (.pointer t8) ∧
 nilc t8 (fun t9 =>
 wr (Addr.add t9 1) (.int .i64 0) (fun h2 =>
 Q (.tuple #[]) h2) h1)) (fun v_1 h3 => X v_1 h3))) : SpecT PP F_wire_port_request_1 [(.pointer (some t0)), (.pointer (some t1)), (.pointer (some t2))] h Q X := specT_of_txt (ann := ann) Try.func39 rfl rfl (by kernel_rfl) H
end wire_port_request_1
/-! ### (*haversack/wire.port).number: function 40 -/
namespace wire_port_number
def ann : Ann := (.seq 3 (.seq 515 (.region [(List.range 4, 515)]) (.cond (.seq 3 (.thr (List.range 10) 10 3 0) (.join (.seq 0 (.region [(List.range 13, 0)]) (.exit 0)))) .leaf)) (.seq 51 (.region [(List.range 10, 51)]) (.seq 19 (.thr (List.range 6) 6 19 0) (.join (.seq 1 (.region [(List.range 5, 1)]) (.region [(List.range 9, 0)]))))))
noncomputable abbrev cd (n : Nat) : Code := sub (bodyOf Try.f40) (pth n)
abbrev an (n : Nat) : Ann := subA ann (pth n)
@[irreducible] def K1 (Q X : VP) : EP := seqK (fun fr h => ev PP true none (cd 3) (an 3) (fr.mask 3) (bodyKT PP Try.f40 Q X) h) (bodyKT PP Try.f40 Q X)
@[irreducible] def J1 (p0 xn1 : OA) (Q X : VP) (h : Heap) : Prop := Jn PP true (cd 21) (mkFr 0 60 [(0, (.pointer p0)), (1, (.pointer xn1))]) (K1 Q X) h
@[irreducible] def J2 (p0 xn1 : OA) (v4 : Int) (Q X : VP) (h : Heap) : Prop := Jn PP true (cd 15) (mkFr 0 60 [(0, (.pointer p0)), (1, (.pointer xn1)), (4, (.int .u32 v4))]) (bodyKT PP Try.f40 Q X) h
theorem J1_of {p0 xn1 : OA} {Q X : VP} {h : Heap} (H :
 nilc p0 (fun t23 =>
 ∃ (t25 : OA) (t25n t25c : Nat), cellH h t23 = some (.slice t25 t25n t25c) ∧
 nilc xn1 (fun t27 =>
 ∃ (t28 : Int), cellH h t27 = some (.int .i64 t28) ∧
 let t29 : Int := IntKind.u32.wrap t28
 SpecH PP F_little_Put32 [(.slice t25 t25n t25c), (.int .u32 t29)] h (fun v h1 => ∃ (t30 : OA) (t30n t30c : Nat), v = (.slice t30 t30n t30c) ∧
 nilc p0 (fun t31 =>
 wr t31 (.slice t30 t30n t30c) (fun h2 =>
 Q (.tuple #[]) h2) h1))))) : J1 p0 xn1 Q X h := by unfold J1; exact Jn.of_txt (an 21) (by kernel_rfl) H
theorem J2_of {p0 xn1 : OA} {v4 : Int} {Q X : VP} {h : Heap} (H :
 let t50 : Int := IntKind.i64.wrap v4
 nilc xn1 (fun t51 =>
 wr t51 (.int .i64 t50) (fun h1 =>
 nilc p0 (fun t54 =>
 ∃ (t56 : OA) (t56n t56c : Nat), cellH h1 t54 = some (.slice t56 t56n t56c) ∧
 hwp PP (Instr.sliceAt T_sl_uint8 (.slice t56 t56n t56c) (some (.int .i64 4)) none none) (fun v h2 => ∃ (t57 : OA) (t57n t57c : Nat), v = (.slice t57 t57n t57c) ∧
 nilc p0 (fun t58 =>
 wr t58 (.slice t57 t57n t57c) (fun h3 =>
 Q (.tuple #[]) h3) h2)) h1)) h)) : J2 p0 xn1 v4 Q X h := by unfold J2; exact Jn.of_txt (an 15) (by kernel_rfl) H
theorem door {p0 xn1 : OA} {Q X : VP} {h : Heap} (H :
 nilc p0 (fun t7 =>
 ∃ (t9 : Bool), cellH h (Addr.add t7 1) = some (.bool t9) ∧
 br t9 (
 nilc xn1 (fun t11 =>
 ∃ (t12 : Int), cellH h t11 = some (.int .i64 t12) ∧
 let t13 : Bool := decide (t12 ≥ 0)
 br t13 (
 nilc xn1 (fun t16 =>
 ∃ (t17 : Int), cellH h t16 = some (.int .i64 t17) ∧
 let t18 : Bool := decide (t17 ≤ 1000000000)
 SpecT PP F_wire_is [(.bool t18), (.int .i64 1)] h (fun v h1 => v = (.tuple #[]) ∧
 J1 p0 xn1 Q X h1) (fun v_1 h2 => X v_1 h2))) (
 SpecT PP F_wire_is [(.bool false), (.int .i64 1)] h (fun v_2 h3 => v_2 = (.tuple #[]) ∧
 J1 p0 xn1 Q X h3) (fun v_3 h4 => X v_3 h4)))) (
 nilc p0 (fun t35 =>
 ∃ (t37 : OA) (t37n t37c : Nat), cellH h t35 = some (.slice t37 t37n t37c) ∧
 SpecH PP F_little_Get32 [(.slice t37 t37n t37c), (.int .i64 0)] h (fun v_4 h5 => ∃ (t38 t38_1 : Int), v_4 = (.tuple #[(.int .u32 t38), (.int .i64 t38_1)]) ∧
 let t42 : Bool := (t38_1 == 0)
 br t42 (
 let t45 : Bool := decide (t38 ≤ 1000000000)
 SpecT PP F_wire_is [(.bool t45), (.int .i64 190)] h5 (fun v_5 h6 => v_5 = (.tuple #[]) ∧
 J2 p0 xn1 t38 Q X h6) (fun v_6 h7 => X v_6 h7)) (
 SpecT PP F_wire_is [(.bool false), (.int .i64 190)] h5 (fun v_7 h8 => v_7 = (.tuple #[]) ∧
 J2 p0 xn1 t38 Q X h8) (fun v_8 h9 => X v_8 h9))))))) : SpecT PP F_wire_port_number [(.pointer p0), (.pointer xn1)] h Q X := specT_of_txt (ann := ann) Try.func40 rfl rfl (by kernel_rfl) H
end wire_port_number
/-! ### (*haversack/wire.port).request$2: function 41 -/
namespace wire_port_request_2
def ann : Ann := (.seq 4 (.thr (List.range 4) 4 4 0) (.region [(List.range 4, 0)]))
noncomputable abbrev cd (n : Nat) : Code := sub (bodyOf Try.f41) (pth n)
abbrev an (n : Nat) : Ann := subA ann (pth n)
theorem door {t0 t1 t2 : Addr} {Q X : VP} {h : Heap} (H :
 ∃ (t3 : OA), cellH h t0 = some (.pointer t3) ∧
 ∃ (t4 : OA), cellH h t1 = some (.pointer t4) ∧
 nilc t4 (fun t5 =>
 SpecT PP F_wire_port_text [(.pointer t3), (.pointer (some (Addr.add t5 2))), (.int .i64 255)] h (fun v h1 => v = (.tuple #[]) ∧
 ∃ (t8 : OA), cellH h1 t2 = some (.pointer t8) ∧
 nilc t8 (fun t9 =>
 wr (Addr.add t9 2) (.string (⟨#[]⟩ : ByteArray)) (fun h2 =>
 Q (.tuple #[]) h2) h1)) (fun v_1 h3 => X v_1 h3))) : SpecT PP F_wire_port_request_2 [(.pointer (some t0)), (.pointer (some t1)), (.pointer (some t2))] h Q X := specT_of_txt (ann := ann) Try.func41 rfl rfl (by kernel_rfl) H
end wire_port_request_2
/-! ### (*haversack/wire.port).text: function 42 -/
namespace wire_port_text
def ann : Ann := (.seq 71 (.region [(List.range 6, 71)]) (.seq 71 (.thr (List.range 10) 10 71 0) (.join (.seq 71 (.thr (List.range 1) 1 71 0) (.seq 67 (.thr (List.range 3) 3 67 0) (.thr (List.range 3) 3 0 0))))))
noncomputable abbrev cd (n : Nat) : Code := sub (bodyOf Try.f42) (pth n)
abbrev an (n : Nat) : Ann := subA ann (pth n)
@[irreducible] def J1 (p0 s1 : OA) (most2 : Int) (xn6 : Addr) (Q X : VP) (h : Heap) : Prop := Jn PP true (cd 7) (mkFr 0 32 [(0, (.pointer p0)), (1, (.pointer s1)), (2, (.int .i64 most2)), (6, (.pointer (some xn6)))]) (bodyKT PP Try.f42 Q X) h
theorem J1_of {p0 s1 : OA} {most2 : Int} {xn6 : Addr} {Q X : VP} {h : Heap} (H :
 SpecT PP F_wire_port_short [(.pointer p0), (.pointer (some xn6))] h (fun v h1 => v = (.tuple #[]) ∧
 ∃ (t24 : Int), cellH h1 xn6 = some (.int .i64 t24) ∧
 let t26 : Bool := decide (t24 ≤ most2)
 SpecT PP F_wire_is [(.bool t26), (.int .i64 190)] h1 (fun v_1 h2 => v_1 = (.tuple #[]) ∧
 ∃ (t30 : Int), cellH h2 xn6 = some (.int .i64 t30) ∧
 SpecT PP F_wire_port_bytes [(.pointer p0), (.pointer s1), (.int .i64 t30)] h2 (fun v_2 h3 => v_2 = (.tuple #[]) ∧
 Q (.tuple #[]) h3) (fun v_3 h4 => X v_3 h4)) (fun v_4 h5 => X v_4 h5)) (fun v_5 h6 => X v_5 h6)) : J1 p0 s1 most2 xn6 Q X h := by unfold J1; exact Jn.of_txt (an 7) (by kernel_rfl) H
theorem door {p0 s1 : OA} {most2 : Int} {Q X : VP} {h : Heap} (H :
 nilc s1 (fun t8 =>
 ∃ (t9 : ByteArray), cellH h t8 = some (.string t9) ∧
 let t10 : Int := (ByteArray.size t9 : Int)
 let xn6 : Addr := ⟨Array.size h, 0, none⟩
 let h1 : Heap := Array.push h (.cells #[(.int .i64 0)] T_int (0, 0))
 wr xn6 (.int .i64 t10) (fun h2 =>
 nilc p0 (fun t12 =>
 ∃ (t14 : Bool), cellH h2 (Addr.add t12 1) = some (.bool t14) ∧
 let t15 : Bool := (!t14)
 br t15 (
 SpecT PP F_wire_is [(.bool true), (.int .i64 2)] h2 (fun v h3 => v = (.tuple #[]) ∧
 J1 p0 s1 most2 xn6 Q X h3) (fun v_1 h4 => X v_1 h4)) (
 ∃ (t17 : Int), cellH h2 xn6 = some (.int .i64 t17) ∧
 let t19 : Bool := decide (t17 ≤ most2)
 SpecT PP F_wire_is [(.bool t19), (.int .i64 2)] h2 (fun v_2 h5 => v_2 = (.tuple #[]) ∧
 J1 p0 s1 most2 xn6 Q X h5) (fun v_3 h6 => X v_3 h6)))) h1)) : SpecT PP F_wire_port_text [(.pointer p0), (.pointer s1), (.int .i64 most2)] h Q X := specT_of_txt (ann := ann) Try.func42 rfl rfl (by kernel_rfl) H
end wire_port_text
/-! ### (*haversack/wire.port).request$3: function 43 -/
namespace wire_port_request_3
def ann : Ann := (.seq 4 (.thr (List.range 4) 4 4 0) (.region [(List.range 4, 0)]))
noncomputable abbrev cd (n : Nat) : Code := sub (bodyOf Try.f43) (pth n)
abbrev an (n : Nat) : Ann := subA ann (pth n)
theorem door {t0 t1 t2 : Addr} {Q X : VP} {h : Heap} (H :
 ∃ (t3 : OA), cellH h t0 = some (.pointer t3) ∧
 ∃ (t4 : OA), cellH h t1 = some (.pointer t4) ∧
 nilc t4 (fun t5 =>
 SpecT PP F_wire_port_text [(.pointer t3), (.pointer (some (Addr.add t5 3))), (.int .i64 255)] h (fun v h1 => v = (.tuple #[]) ∧
 ∃ (t8 : OA), cellH h1 t2 = some (.pointer t8) ∧
 nilc t8 (fun t9 =>
 wr (Addr.add t9 3) (.string (⟨#[]⟩ : ByteArray)) (fun h2 =>
 Q (.tuple #[]) h2) h1)) (fun v_1 h3 => X v_1 h3))) : SpecT PP F_wire_port_request_3 [(.pointer (some t0)), (.pointer (some t1)), (.pointer (some t2))] h Q X := specT_of_txt (ann := ann) Try.func43 rfl rfl (by kernel_rfl) H
end wire_port_request_3
/-! ### (*haversack/wire.port).request$4: function 44 -/
namespace wire_port_request_4
def ann : Ann := (.seq 4 (.thr (List.range 4) 4 4 0) (.region [(List.range 4, 0)]))
noncomputable abbrev cd (n : Nat) : Code := sub (bodyOf Try.f44) (pth n)
abbrev an (n : Nat) : Ann := subA ann (pth n)
theorem door {t0 t1 t2 : Addr} {Q X : VP} {h : Heap} (H :
 ∃ (t3 : OA), cellH h t0 = some (.pointer t3) ∧
 ∃ (t4 : OA), cellH h t1 = some (.pointer t4) ∧
 nilc t4 (fun t5 =>
 SpecT PP F_wire_port_text [(.pointer t3), (.pointer (some (Addr.add t5 4))), (.int .i64 16384)] h (fun v h1 => v = (.tuple #[]) ∧
 ∃ (t8 : OA), cellH h1 t2 = some (.pointer t8) ∧
 nilc t8 (fun t9 =>
 wr (Addr.add t9 4) (.string (⟨#[]⟩ : ByteArray)) (fun h2 =>
 Q (.tuple #[]) h2) h1)) (fun v_1 h3 => X v_1 h3))) : SpecT PP F_wire_port_request_4 [(.pointer (some t0)), (.pointer (some t1)), (.pointer (some t2))] h Q X := specT_of_txt (ann := ann) Try.func44 rfl rfl (by kernel_rfl) H
end wire_port_request_4
/-! ### (*haversack/wire.port).request$5: function 45 -/
namespace wire_port_request_5
def ann : Ann := (.seq 7 (.thr (List.range 4) 4 7 0) (.seq 4 (.thr (List.range 4) 4 4 0) (.tree (.run [0, 2, 3] (.alt 1 (.run [4, 5, 6, 7] .done) (.alt 4 (.run [1, 5, 6, 7] .done) .nil))) 0)))
noncomputable abbrev cd (n : Nat) : Code := sub (bodyOf Try.f45) (pth n)
abbrev an (n : Nat) : Ann := subA ann (pth n)
theorem door {t0 t1 t2 : Addr} {Q X : VP} {h : Heap} (H :
 ∃ (t3 : OA), cellH h t0 = some (.pointer t3) ∧
 ∃ (t4 : OA), cellH h t1 = some (.pointer t4) ∧
 nilc t4 (fun t5 =>
 SpecT PP F_wire_port_number [(.pointer t3), (.pointer (some (Addr.add t5 5)))] h (fun v h1 => v = (.tuple #[]) ∧
 ∃ (t8 : OA), cellH h1 t0 = some (.pointer t8) ∧
 ∃ (t9 : OA), cellH h1 t1 = some (.pointer t9) ∧
 nilc t9 (fun t10 =>
 SpecT PP F_wire_port_number [(.pointer t8), (.pointer (some (Addr.add t10 6)))] h1 (fun v_1 h2 => v_1 = (.tuple #[]) ∧
 ∃ (t13 : OA), cellH h2 t2 = some (.pointer t13) ∧
 nilc t13 (fun t15 =>
 (
 ∃ (t14_1 : OA), cellH h2 t2 = some (.pointer t14_1) ∧
 wr (Addr.add t15 5) (.int .i64 0) (fun h5 =>
 nilc t14_1 (fun t17_1 =>
 wr (Addr.add t17_1 6) (.int .i64 0) (fun h6 =>
 Q (.tuple #[]) h6) h5)) h2) ∧
 (
 wr (Addr.add t15 5) (.int .i64 0) (fun h3 =>
 ∃ (t14 : OA), cellH h3 t2 = some (.pointer t14) ∧
 nilc t14 (fun t17 =>
 wr (Addr.add t17 6) (.int .i64 0) (fun h4 =>
 Q (.tuple #[]) h4) h3)) h2) ∧
 True)) (fun v_2 h7 => X v_2 h7))) (fun v_3 h8 => X v_3 h8))) : SpecT PP F_wire_port_request_5 [(.pointer (some t0)), (.pointer (some t1)), (.pointer (some t2))] h Q X := specT_of_txt (ann := ann) Try.func45 rfl rfl (by kernel_rfl) H
end wire_port_request_5
/-! ### (*haversack/wire.port).request$6: function 46 -/
namespace wire_port_request_6
def ann : Ann := (.seq 112 (.region [(List.range 3, 112)]) (.block (.loop 112 (.seq 240 (.region [(List.range 1, 240)]) (.seq 112 (.cond .leaf (.exit 0)) (.seq 112 (.block (.seq 120 (.region [(List.range 3, 120)]) (.thr (List.range 1) 1 112 0))) (.region [(List.range 2, 112)])))))))
noncomputable abbrev cd (n : Nat) : Code := sub (bodyOf Try.f46) (pth n)
abbrev an (n : Nat) : Ann := subA ann (pth n)
@[irreducible] def Xpan  : Fr := (mkFr 0 13 [])
@[irreducible] def X0  : Fr := (mkFr 0 13 [])
@[irreducible] def L1 (t4 : OA) (t4n t4c : Nat) (t5 t6 : Int) (K : EP) (h : Heap) : Prop := Lp PP true (cd 12) (mkFr 0 13 [(4, (.slice t4 t4n t4c)), (5, (.int .i64 t5)), (6, (.int .i64 t6))]) K h
@[irreducible] def B1 (K : EP) : EP := seqK (fun fr h => Lp PP true (cd 12) (fr.mask 112) K h) K
@[irreducible] def K1 (Q X : VP) : EP := blockK 0 (bodyKT PP Try.f46 Q X)
theorem L1_of {t4 : OA} {t4n t4c : Nat} {t5 t6 : Int} {K : EP} {h : Heap} (H :
 let t7 : Bool := decide (t6 < t5)
 br t7 (
 hwp PP (Instr.indexAt T_sl_func (.slice t4 t4n t4c) (.int .i64 t6)) (fun v h1 => ∃ (t8 : Addr), v = (.pointer (some t8)) ∧
 ∃ (t9 : Value), cellH h1 t8 = some t9 ∧
 callT PP t9 [] (fun v_1 h2 => v_1 = (.tuple #[]) ∧
 let t12 : Int := IntKind.i64.wrap (t6 + 1)
 L1 t4 t4n t4c t5 t12 K h2) (fun v_2 h3 => K (.pan v_2) (Xpan) h3) h1) h) (
 K (.exit 0) (X0) h)) : L1 t4 t4n t4c t5 t6 K h := by unfold L1; exact Lp.of_txt (an 12) 112 (by kernel_rfl) H
theorem L1_Xpan {Q X : VP} {v : Value} {h : Heap} (H :
 X v h) : (K1 Q X) (.pan v) (Xpan ) h := of_eq_txt (by kernel_rfl) H
theorem L1_X0 {Q X : VP}  {h : Heap} (H :
 Q (.tuple #[]) h) : (K1 Q X) (.exit 0) (X0 ) h := of_eq_txt (by kernel_rfl) H
theorem door {xl0 : OA} {xl0n xl0c : Nat} {Q X : VP} {h : Heap} (H :
 L1 xl0 xl0n xl0c (xl0n : Int) 0 (K1 Q X) h) : SpecT PP F_wire_port_request_6 [(.slice xl0 xl0n xl0c)] h Q X := specT_of_txt (ann := ann) Try.func46 rfl rfl (by kernel_rfl) H
end wire_port_request_6
/-! ### (*haversack/wire.port).short: function 47 -/
namespace wire_port_short
def ann : Ann := (.seq 3 (.seq 515 (.region [(List.range 4, 515)]) (.cond (.seq 0 (.region [(List.range 13, 0)]) (.exit 0)) .leaf)) (.seq 51 (.region [(List.range 10, 51)]) (.seq 19 (.thr (List.range 2) 2 19 0) (.seq 1 (.region [(List.range 5, 1)]) (.region [(List.range 9, 0)])))))
noncomputable abbrev cd (n : Nat) : Code := sub (bodyOf Try.f47) (pth n)
abbrev an (n : Nat) : Ann := subA ann (pth n)
theorem door {p0 xn1 : OA} {Q X : VP} {h : Heap} (H :
 nilc p0 (fun t7 =>
 ∃ (t9 : Bool), cellH h (Addr.add t7 1) = some (.bool t9) ∧
 br t9 (
 nilc p0 (fun t12 =>
 ∃ (t14 : OA) (t14n t14c : Nat), cellH h t12 = some (.slice t14 t14n t14c) ∧
 nilc xn1 (fun t16 =>
 ∃ (t17 : Int), cellH h t16 = some (.int .i64 t17) ∧
 let t18 : Int := IntKind.u16.wrap t17
 SpecH PP F_little_Put16 [(.slice t14 t14n t14c), (.int .u16 t18)] h (fun v h1 => ∃ (t19 : OA) (t19n t19c : Nat), v = (.slice t19 t19n t19c) ∧
 nilc p0 (fun t20 =>
 wr t20 (.slice t19 t19n t19c) (fun h2 =>
 Q (.tuple #[]) h2) h1))))) (
 nilc p0 (fun t24 =>
 ∃ (t26 : OA) (t26n t26c : Nat), cellH h t24 = some (.slice t26 t26n t26c) ∧
 SpecH PP F_little_Get16 [(.slice t26 t26n t26c), (.int .i64 0)] h (fun v_1 h3 => ∃ (t27 t27_1 : Int), v_1 = (.tuple #[(.int .u16 t27), (.int .i64 t27_1)]) ∧
 let t31 : Bool := (t27_1 == 0)
 SpecT PP F_wire_is [(.bool t31), (.int .i64 190)] h3 (fun v_2 h4 => v_2 = (.tuple #[]) ∧
 let t35 : Int := IntKind.i64.wrap t27
 nilc xn1 (fun t36 =>
 wr t36 (.int .i64 t35) (fun h5 =>
 nilc p0 (fun t39 =>
 ∃ (t41 : OA) (t41n t41c : Nat), cellH h5 t39 = some (.slice t41 t41n t41c) ∧
 hwp PP (Instr.sliceAt T_sl_uint8 (.slice t41 t41n t41c) (some (.int .i64 2)) none none) (fun v_3 h6 => ∃ (t42 : OA) (t42n t42c : Nat), v_3 = (.slice t42 t42n t42c) ∧
 nilc p0 (fun t43 =>
 wr t43 (.slice t42 t42n t42c) (fun h7 =>
 Q (.tuple #[]) h7) h6)) h5)) h4)) (fun v_4 h8 => X v_4 h8)))))) : SpecT PP F_wire_port_short [(.pointer p0), (.pointer xn1)] h Q X := specT_of_txt (ann := ann) Try.func47 rfl rfl (by kernel_rfl) H
end wire_port_short
/-! ### (*haversack/wire.port).small: function 48 -/
namespace wire_port_small
def ann : Ann := (.seq 3 (.seq 131 (.region [(List.range 4, 131)]) (.cond (.seq 0 (.region [(List.range 14, 0)]) (.exit 0)) .leaf)) (.seq 3 (.thr (List.range 6) 6 3 0) (.seq 1 (.region [(List.range 10, 1)]) (.region [(List.range 9, 0)]))))
noncomputable abbrev cd (n : Nat) : Code := sub (bodyOf Try.f48) (pth n)
abbrev an (n : Nat) : Ann := subA ann (pth n)
theorem door {p0 xn1 : OA} {Q X : VP} {h : Heap} (H :
 nilc p0 (fun t5 =>
 ∃ (t7 : Bool), cellH h (Addr.add t5 1) = some (.bool t7) ∧
 br t7 (
 nilc p0 (fun t10 =>
 ∃ (t12 : OA) (t12n t12c : Nat), cellH h t10 = some (.slice t12 t12n t12c) ∧
 nilc xn1 (fun t14 =>
 ∃ (t15 : Int), cellH h t14 = some (.int .i64 t15) ∧
 let t16 : Int := IntKind.u8.wrap t15
 let h1 : Heap := Array.push h (.cells #[(.int .u8 t16)] T_uint8 (0, 0))
 hwp PP (Builtin.append_ #[T_sl_uint8, T_sl_uint8] T_sl_uint8 #[(.slice t12 t12n t12c), (.slice (some ⟨Array.size h, 0, none⟩) 1 1)]) (fun v h2 => ∃ (t18 : OA) (t18n t18c : Nat), v = (.slice t18 t18n t18c) ∧
 nilc p0 (fun t19 =>
 wr t19 (.slice t18 t18n t18c) (fun h3 =>
 Q (.tuple #[]) h3) h2)) h1))) (
 nilc p0 (fun t22 =>
 ∃ (t24 : OA) (t24n t24c : Nat), cellH h t22 = some (.slice t24 t24n t24c) ∧
 let t26 : Bool := decide ((t24n : Int) > 0)
 SpecT PP F_wire_is [(.bool t26), (.int .i64 190)] h (fun v_1 h4 => v_1 = (.tuple #[]) ∧
 nilc p0 (fun t30 =>
 ∃ (t32 : OA) (t32n t32c : Nat), cellH h4 t30 = some (.slice t32 t32n t32c) ∧
 hwp PP (Instr.indexAt T_sl_uint8 (.slice t32 t32n t32c) (.int .i64 0)) (fun v_2 h5 => ∃ (t33 : Addr), v_2 = (.pointer (some t33)) ∧
 ∃ (t34 : Int), cellH h5 t33 = some (.int .u8 t34) ∧
 let t35 : Int := IntKind.i64.wrap t34
 nilc xn1 (fun t36 =>
 wr t36 (.int .i64 t35) (fun h6 =>
 nilc p0 (fun t39 =>
 ∃ (t41 : OA) (t41n t41c : Nat), cellH h6 t39 = some (.slice t41 t41n t41c) ∧
 hwp PP (Instr.sliceAt T_sl_uint8 (.slice t41 t41n t41c) (some (.int .i64 1)) none none) (fun v_3 h7 => ∃ (t42 : OA) (t42n t42c : Nat), v_3 = (.slice t42 t42n t42c) ∧
 nilc p0 (fun t43 =>
 wr t43 (.slice t42 t42n t42c) (fun h8 =>
 Q (.tuple #[]) h8) h7)) h6)) h5)) h4)) (fun v_4 h9 => X v_4 h9))))) : SpecT PP F_wire_port_small [(.pointer p0), (.pointer xn1)] h Q X := specT_of_txt (ann := ann) Try.func48 rfl rfl (by kernel_rfl) H
end wire_port_small

end Go.Proofs.Ytnidhafhgclakaa
