/- Texts of the proof, laid together: What the functions of this text come to, as predicates on heaps (printed by my own program out of the dump), each with its proof against the program. -/
import Derived.Test.YtahigbbfilalgaaGreatDoorP1
import Derived.Test.YtahigbbfilalgaaGreatDoorP2
import Derived.Test.YtahigbbfilalgaaGreatDoorProg
set_option linter.unusedVariables false
set_option maxRecDepth 100000
namespace Go.Proofs.YtahigbbfilalgaaGreatDoor
open Go Go.HW
noncomputable abbrev PP : Program := Tryz.prog
abbrev T_int : TypeId := 3
abbrev T_bool : TypeId := 4
abbrev T_uint8 : TypeId := 5
abbrev T_string : TypeId := 9
abbrev T_struct_Tenant_string_Until_int_Serial_int : TypeId := 22
abbrev T_api_Claim : TypeId := 23
abbrev T_sl_api_Tenant : TypeId := 32
abbrev T_sl_haversacklaw16_Op : TypeId := 33
abbrev T_sl_string : TypeId := 41
abbrev T_struct_Kind_int_Number_int_Which_int_Tenant_string_Text_stri : TypeId := 42
abbrev T_haversacklaw16_Op : TypeId := 43
abbrev T_32_uint8 : TypeId := 53
abbrev T_struct_Name_string_Secret_string_Bytes_int_Entries_int : TypeId := 61
abbrev T_api_Tenant : TypeId := 62
abbrev T_map_string_string : TypeId := 63
abbrev T_map_int_struct : TypeId := 64
abbrev T_struct_secrets_map_string_string_revoked_map_int_struct_issu : TypeId := 65
abbrev T_token_Book : TypeId := 66
abbrev T_sl_int : TypeId := 69
abbrev T_struct_L_sl_api_Tenant_Issued_int_Revoked_sl_int : TypeId := 70
abbrev T_haversackref16_Book : TypeId := 71
abbrev T_struct : TypeId := 73
abbrev T_p_strings_Builder : TypeId := 77
abbrev T_sl_uint8 : TypeId := 78
abbrev T_struct_addr_p_strings_Builder_buf_sl_uint8 : TypeId := 79
abbrev T_strings_Builder : TypeId := 80
abbrev T_interface_Error_string : TypeId := 81
abbrev T_error : TypeId := 82
abbrev T_64_uint8 : TypeId := 100
abbrev T_uint32 : TypeId := 116
abbrev T_8_uint32 : TypeId := 117
abbrev T_uint64 : TypeId := 118
abbrev T_struct_h_8_uint32_rest_sl_uint8_n_uint64 : TypeId := 119
abbrev T_hmac_Hash : TypeId := 120
abbrev T_64_uint32 : TypeId := 137
abbrev T_8_uint8 : TypeId := 139
abbrev F_law16_TokenPrints : FuncId := 3
abbrev F_law16_TokenParses : FuncId := 4
abbrev F_law16_TokenRuns : FuncId := 5
abbrev F_law16_awake : FuncId := 6
abbrev F_token_Print : FuncId := 7
abbrev F_ref16_Print : FuncId := 8
abbrev F_token_Parse : FuncId := 9
abbrev F_ref16_Parse : FuncId := 10
abbrev F_law16_light : FuncId := 11
abbrev F_token_New : FuncId := 12
abbrev F_ref16_New : FuncId := 13
abbrev F_token_Book_Issue : FuncId := 14
abbrev F_ref16_Book_Issue : FuncId := 15
abbrev F_token_Book_Revoke : FuncId := 16
abbrev F_ref16_Book_Revoke : FuncId := 17
abbrev F_token_Book_Check : FuncId := 18
abbrev F_ref16_Book_Check : FuncId := 19
abbrev F_law16_one : FuncId := 20
abbrev F_token_right : FuncId := 21
abbrev F_token_body : FuncId := 22
abbrev F_token_digits : FuncId := 23
abbrev F_token_mac : FuncId := 24
abbrev F_ref16_May : FuncId := 25
abbrev F_ref16_Body : FuncId := 26
abbrev F_ref16_Digits : FuncId := 27
abbrev F_strings_Split : FuncId := 28
abbrev F_token_number : FuncId := 29
abbrev F_strings_Trim : FuncId := 30
abbrev F_ref16_parts : FuncId := 31
abbrev F_ref16_value : FuncId := 32
abbrev F_ref16_mac : FuncId := 33
abbrev F_token_short : FuncId := 34
abbrev F_ref16_Check : FuncId := 35
abbrev F_ref16_Book_secret : FuncId := 36
abbrev F_strings_Join : FuncId := 37
abbrev F_strconv_Itoa : FuncId := 38
abbrev F_strings_Builder_WriteByte : FuncId := 39
abbrev F_strings_Builder_String : FuncId := 40
abbrev F_hmac_Mac : FuncId := 41
abbrev F_ref14_Short : FuncId := 42
abbrev F_ref16_number : FuncId := 43
abbrev F_ref15_Mac : FuncId := 44
abbrev F_strings_genSplit : FuncId := 45
abbrev F_strconv_Atoi : FuncId := 46
abbrev F_ref16_within : FuncId := 54
abbrev F_hmac_Sum : FuncId := 59
abbrev F_hmac_New : FuncId := 60
abbrev F_hmac_Hash_Write : FuncId := 61
abbrev F_hmac_Hash_Sum : FuncId := 62
abbrev F_ref15_Sum : FuncId := 63
abbrev F_strings_explode : FuncId := 64
abbrev F_strings_Count : FuncId := 65
abbrev F_strings_Index : FuncId := 66
abbrev F_hmac_Hash_block : FuncId := 76
abbrev F_ref15_padded : FuncId := 77
abbrev F_ref15_block : FuncId := 78
abbrev F_hmac_right : FuncId := 95
abbrev F_ref15_schedule : FuncId := 96
abbrev F_ref15_k : FuncId := 97
abbrev F_ref15_turn : FuncId := 98
abbrev F_math_bits_RotateLeft32 : FuncId := 113
abbrev G_hmac_k : Nat := 0
theorem C_int : PP.cellsOf T_int = 1 := by kernel_rfl
theorem U_int : PP.underlying T_int = some (.int .i64) := by kernel_rfl
theorem C_bool : PP.cellsOf T_bool = 1 := by kernel_rfl
theorem U_bool : PP.underlying T_bool = some .bool := by kernel_rfl
theorem C_uint8 : PP.cellsOf T_uint8 = 1 := by kernel_rfl
theorem U_uint8 : PP.underlying T_uint8 = some (.int .u8) := by kernel_rfl
theorem C_string : PP.cellsOf T_string = 1 := by kernel_rfl
theorem U_string : PP.underlying T_string = some .string := by kernel_rfl
theorem FL_struct_Tenant_string_Until_int_Serial_int : fieldsOf PP T_struct_Tenant_string_Until_int_Serial_int = [(T_string, 0, 1), (T_int, 1, 1), (T_int, 2, 1)] := by kernel_rfl
theorem C_struct_Tenant_string_Until_int_Serial_int : PP.cellsOf T_struct_Tenant_string_Until_int_Serial_int = 3 := by kernel_rfl
theorem FL_api_Claim : fieldsOf PP T_api_Claim = [(T_string, 0, 1), (T_int, 1, 1), (T_int, 2, 1)] := by kernel_rfl
theorem C_api_Claim : PP.cellsOf T_api_Claim = 3 := by kernel_rfl
theorem C_sl_api_Tenant : PP.cellsOf T_sl_api_Tenant = 1 := by kernel_rfl
theorem E_sl_api_Tenant : Elem PP T_sl_api_Tenant T_api_Tenant 4 48 (.agg #[(.string (⟨#[]⟩ : ByteArray)), (.string (⟨#[]⟩ : ByteArray)), (.int .i64 0), (.int .i64 0)]) := Elem.of (by kernel_rfl) (by kernel_rfl)
theorem U_sl_api_Tenant : PP.underlying T_sl_api_Tenant = some (.slice T_api_Tenant) := by kernel_rfl
theorem C_sl_haversacklaw16_Op : PP.cellsOf T_sl_haversacklaw16_Op = 1 := by kernel_rfl
theorem E_sl_haversacklaw16_Op : Elem PP T_sl_haversacklaw16_Op T_haversacklaw16_Op 5 56 (.agg #[(.int .i64 0), (.int .i64 0), (.int .i64 0), (.string (⟨#[]⟩ : ByteArray)), (.string (⟨#[]⟩ : ByteArray))]) := Elem.of (by kernel_rfl) (by kernel_rfl)
theorem U_sl_haversacklaw16_Op : PP.underlying T_sl_haversacklaw16_Op = some (.slice T_haversacklaw16_Op) := by kernel_rfl
theorem C_sl_string : PP.cellsOf T_sl_string = 1 := by kernel_rfl
theorem E_sl_string : Elem PP T_sl_string T_string 1 16 (.string (⟨#[]⟩ : ByteArray)) := Elem.of (by kernel_rfl) (by kernel_rfl)
theorem U_sl_string : PP.underlying T_sl_string = some (.slice T_string) := by kernel_rfl
theorem FL_struct_Kind_int_Number_int_Which_int_Tenant_string_Text_stri : fieldsOf PP T_struct_Kind_int_Number_int_Which_int_Tenant_string_Text_stri = [(T_int, 0, 1), (T_int, 1, 1), (T_int, 2, 1), (T_string, 3, 1), (T_string, 4, 1)] := by kernel_rfl
theorem C_struct_Kind_int_Number_int_Which_int_Tenant_string_Text_stri : PP.cellsOf T_struct_Kind_int_Number_int_Which_int_Tenant_string_Text_stri = 5 := by kernel_rfl
theorem FL_haversacklaw16_Op : fieldsOf PP T_haversacklaw16_Op = [(T_int, 0, 1), (T_int, 1, 1), (T_int, 2, 1), (T_string, 3, 1), (T_string, 4, 1)] := by kernel_rfl
theorem C_haversacklaw16_Op : PP.cellsOf T_haversacklaw16_Op = 5 := by kernel_rfl
theorem C_32_uint8 : PP.cellsOf T_32_uint8 = 32 := by kernel_rfl
theorem A_32_uint8 : Arr PP T_32_uint8 T_uint8 32 1 := Arr.of (by kernel_rfl) (by kernel_rfl)
theorem U_32_uint8 : PP.underlying T_32_uint8 = some (.array 32 T_uint8) := by kernel_rfl
theorem FL_struct_Name_string_Secret_string_Bytes_int_Entries_int : fieldsOf PP T_struct_Name_string_Secret_string_Bytes_int_Entries_int = [(T_string, 0, 1), (T_string, 1, 1), (T_int, 2, 1), (T_int, 3, 1)] := by kernel_rfl
theorem C_struct_Name_string_Secret_string_Bytes_int_Entries_int : PP.cellsOf T_struct_Name_string_Secret_string_Bytes_int_Entries_int = 4 := by kernel_rfl
theorem FL_api_Tenant : fieldsOf PP T_api_Tenant = [(T_string, 0, 1), (T_string, 1, 1), (T_int, 2, 1), (T_int, 3, 1)] := by kernel_rfl
theorem C_api_Tenant : PP.cellsOf T_api_Tenant = 4 := by kernel_rfl
theorem C_map_string_string : PP.cellsOf T_map_string_string = 1 := by kernel_rfl
theorem U_map_string_string : PP.underlying T_map_string_string = some (.map T_string T_string) := by kernel_rfl
theorem C_map_int_struct : PP.cellsOf T_map_int_struct = 1 := by kernel_rfl
theorem U_map_int_struct : PP.underlying T_map_int_struct = some (.map T_int T_struct) := by kernel_rfl
theorem FL_struct_secrets_map_string_string_revoked_map_int_struct_issu : fieldsOf PP T_struct_secrets_map_string_string_revoked_map_int_struct_issu = [(T_map_string_string, 0, 1), (T_map_int_struct, 1, 1), (T_int, 2, 1)] := by kernel_rfl
theorem C_struct_secrets_map_string_string_revoked_map_int_struct_issu : PP.cellsOf T_struct_secrets_map_string_string_revoked_map_int_struct_issu = 3 := by kernel_rfl
theorem FL_token_Book : fieldsOf PP T_token_Book = [(T_map_string_string, 0, 1), (T_map_int_struct, 1, 1), (T_int, 2, 1)] := by kernel_rfl
theorem C_token_Book : PP.cellsOf T_token_Book = 3 := by kernel_rfl
theorem C_sl_int : PP.cellsOf T_sl_int = 1 := by kernel_rfl
theorem E_sl_int : Elem PP T_sl_int T_int 1 8 (.int .i64 0) := Elem.of (by kernel_rfl) (by kernel_rfl)
theorem U_sl_int : PP.underlying T_sl_int = some (.slice T_int) := by kernel_rfl
theorem FL_struct_L_sl_api_Tenant_Issued_int_Revoked_sl_int : fieldsOf PP T_struct_L_sl_api_Tenant_Issued_int_Revoked_sl_int = [(T_sl_api_Tenant, 0, 1), (T_int, 1, 1), (T_sl_int, 2, 1)] := by kernel_rfl
theorem C_struct_L_sl_api_Tenant_Issued_int_Revoked_sl_int : PP.cellsOf T_struct_L_sl_api_Tenant_Issued_int_Revoked_sl_int = 3 := by kernel_rfl
theorem FL_haversackref16_Book : fieldsOf PP T_haversackref16_Book = [(T_sl_api_Tenant, 0, 1), (T_int, 1, 1), (T_sl_int, 2, 1)] := by kernel_rfl
theorem C_haversackref16_Book : PP.cellsOf T_haversackref16_Book = 3 := by kernel_rfl
theorem FL_struct : fieldsOf PP T_struct = [] := by kernel_rfl
theorem C_struct : PP.cellsOf T_struct = 0 := by kernel_rfl
theorem C_p_strings_Builder : PP.cellsOf T_p_strings_Builder = 1 := by kernel_rfl
theorem C_sl_uint8 : PP.cellsOf T_sl_uint8 = 1 := by kernel_rfl
theorem E_sl_uint8 : Elem PP T_sl_uint8 T_uint8 1 1 (.int .u8 0) := Elem.of (by kernel_rfl) (by kernel_rfl)
theorem U_sl_uint8 : PP.underlying T_sl_uint8 = some (.slice T_uint8) := by kernel_rfl
theorem FL_struct_addr_p_strings_Builder_buf_sl_uint8 : fieldsOf PP T_struct_addr_p_strings_Builder_buf_sl_uint8 = [(T_p_strings_Builder, 0, 1), (T_sl_uint8, 1, 1)] := by kernel_rfl
theorem C_struct_addr_p_strings_Builder_buf_sl_uint8 : PP.cellsOf T_struct_addr_p_strings_Builder_buf_sl_uint8 = 2 := by kernel_rfl
theorem FL_strings_Builder : fieldsOf PP T_strings_Builder = [(T_p_strings_Builder, 0, 1), (T_sl_uint8, 1, 1)] := by kernel_rfl
theorem C_strings_Builder : PP.cellsOf T_strings_Builder = 2 := by kernel_rfl
theorem C_interface_Error_string : PP.cellsOf T_interface_Error_string = 1 := by kernel_rfl
theorem C_error : PP.cellsOf T_error = 1 := by kernel_rfl
theorem C_64_uint8 : PP.cellsOf T_64_uint8 = 64 := by kernel_rfl
theorem A_64_uint8 : Arr PP T_64_uint8 T_uint8 64 1 := Arr.of (by kernel_rfl) (by kernel_rfl)
theorem U_64_uint8 : PP.underlying T_64_uint8 = some (.array 64 T_uint8) := by kernel_rfl
theorem C_uint32 : PP.cellsOf T_uint32 = 1 := by kernel_rfl
theorem U_uint32 : PP.underlying T_uint32 = some (.int .u32) := by kernel_rfl
theorem C_8_uint32 : PP.cellsOf T_8_uint32 = 8 := by kernel_rfl
theorem A_8_uint32 : Arr PP T_8_uint32 T_uint32 8 1 := Arr.of (by kernel_rfl) (by kernel_rfl)
theorem U_8_uint32 : PP.underlying T_8_uint32 = some (.array 8 T_uint32) := by kernel_rfl
theorem C_uint64 : PP.cellsOf T_uint64 = 1 := by kernel_rfl
theorem U_uint64 : PP.underlying T_uint64 = some (.int .u64) := by kernel_rfl
theorem FL_struct_h_8_uint32_rest_sl_uint8_n_uint64 : fieldsOf PP T_struct_h_8_uint32_rest_sl_uint8_n_uint64 = [(T_8_uint32, 0, 8), (T_sl_uint8, 8, 1), (T_uint64, 9, 1)] := by kernel_rfl
theorem C_struct_h_8_uint32_rest_sl_uint8_n_uint64 : PP.cellsOf T_struct_h_8_uint32_rest_sl_uint8_n_uint64 = 10 := by kernel_rfl
theorem FL_hmac_Hash : fieldsOf PP T_hmac_Hash = [(T_8_uint32, 0, 8), (T_sl_uint8, 8, 1), (T_uint64, 9, 1)] := by kernel_rfl
theorem C_hmac_Hash : PP.cellsOf T_hmac_Hash = 10 := by kernel_rfl
theorem C_64_uint32 : PP.cellsOf T_64_uint32 = 64 := by kernel_rfl
theorem A_64_uint32 : Arr PP T_64_uint32 T_uint32 64 1 := Arr.of (by kernel_rfl) (by kernel_rfl)
theorem U_64_uint32 : PP.underlying T_64_uint32 = some (.array 64 T_uint32) := by kernel_rfl
theorem C_8_uint8 : PP.cellsOf T_8_uint8 = 8 := by kernel_rfl
theorem A_8_uint8 : Arr PP T_8_uint8 T_uint8 8 1 := Arr.of (by kernel_rfl) (by kernel_rfl)
theorem U_8_uint8 : PP.underlying T_8_uint8 = some (.array 8 T_uint8) := by kernel_rfl
/-! ### haversack/haversacklaw16.TokenPrints: function 3 -/
namespace law16_TokenPrints
def ann : Ann := (.seq 6 (.region [(List.range 2, 6)]) (.seq 6 (.seq 131078 (.region [(List.range 9, 131078)]) (.join (.cond (.seq 16 (.region [(List.range 2, 16)]) (.exit 16)) .leaf))) (.seq 102 (.region [(List.range 8, 102)]) (.seq 480 (.region [(List.range 8, 480)]) (.seq 16 (.region [(List.range 12, 16)]) (.exit 16))))))
noncomputable abbrev cd (n : Nat) : Code := sub (bodyOf Tryz.f3) (pth n)
abbrev an (n : Nat) : Ann := subA ann (pth n)
@[irreducible] def K1 (Q : VP) : EP := seqK (fun fr h => ev PP true none (cd 7) (an 7) (fr.mask 6) (bodyK PP Tryz.f3 Q) h) (bodyK PP Tryz.f3 Q)
@[irreducible] def J1 (secret1 : ByteArray) (c2 : Addr) (t17 : Bool) (Q : VP) (h : Heap) : Prop := Jn PP true (cd 13) (mkFr 0 42 [(1, (.string secret1)), (2, (.pointer (some c2))), (17, (.bool t17))]) (K1 Q) h
theorem J1_of {secret1 : ByteArray} {c2 : Addr} {t17 : Bool} {Q : VP} {h : Heap} (H :
 br t17 (
 SpecH PP F_law16_awake [] h (fun v h1 => ∃ (t18 : Bool), v = (.bool t18) ∧
 Q (.bool t18) h1)) (
 ∃ (t20f0 : ByteArray) (t20f1 t20f2 : Int), rdCells h c2 0 [(.string t20f0), (.int .i64 t20f1), (.int .i64 t20f2)] ∧
 SpecH PP F_token_Print [(.agg #[(.string t20f0), (.int .i64 t20f1), (.int .i64 t20f2)]), (.string secret1)] h (fun v_1 h2 => ∃ (t22 : ByteArray) (t22_1 : Int), v_1 = (.tuple #[(.string t22), (.int .i64 t22_1)]) ∧
 ∃ (t26f0 : ByteArray) (t26f1 t26f2 : Int), rdCells h2 c2 0 [(.string t26f0), (.int .i64 t26f1), (.int .i64 t26f2)] ∧
 SpecH PP F_ref16_Print [(.agg #[(.string t26f0), (.int .i64 t26f1), (.int .i64 t26f2)]), (.string secret1)] h2 (fun v_2 h3 => ∃ (t28 : ByteArray) (t28_1 : Int), v_2 = (.tuple #[(.string t28), (.int .i64 t28_1)]) ∧
 SpecH PP F_law16_awake [] h3 (fun v_3 h4 => ∃ (t31 : Bool), v_3 = (.bool t31) ∧
 br t31 (
 let t35 : Bool := decide (t22 = t28)
 br t35 (
 let t40 : Bool := (t22_1 == t28_1)
 Q (.bool t40) h4) (
 Q (.bool false) h4)) (
 Q (.bool false) h4)))))) : J1 secret1 c2 t17 Q h := by unfold J1; exact Jn.of_txt (an 13) (by kernel_rfl) H
theorem door {c0f0 : ByteArray} {c0f1 c0f2 : Int} {secret1 : ByteArray} {Q : VP} {h : Heap} (H :
 let c2 : Addr := ⟨Array.size h, 0, none⟩
 let h1 : Heap := Array.push h (.cells #[(.string c0f0), (.int .i64 c0f1), (.int .i64 c0f2)] T_api_Claim (0, 0))
 ∃ (t10 : ByteArray), cellH h1 c2 = some (.string t10) ∧
 let t11 : Int := (ByteArray.size t10 : Int)
 let t12 : Bool := decide (t11 > 1048576)
 br t12 (
 J1 secret1 c2 true Q h1) (
 let t15 : Int := (ByteArray.size secret1 : Int)
 let t16 : Bool := decide (t15 > 1048576)
 J1 secret1 c2 t16 Q h1)) : SpecH PP F_law16_TokenPrints [(.agg #[(.string c0f0), (.int .i64 c0f1), (.int .i64 c0f2)]), (.string secret1)] h Q :=
   spec_of_txt (ann := ann) Tryz.func3 rfl rfl (by kernel_rfl) H
end law16_TokenPrints
/-! ### haversack/haversacklaw16.TokenParses: function 4 -/
namespace law16_TokenParses
def ann : Ann := (.seq 1 (.region [(List.range 1, 1)]) (.seq 1 (.seq 2049 (.region [(List.range 3, 2049)]) (.cond (.seq 4 (.region [(List.range 2, 4)]) (.exit 4)) .leaf)) (.seq 57 (.region [(List.range 10, 57)]) (.seq 504 (.region [(List.range 10, 504)]) (.seq 4 (.region [(List.range 17, 4)]) (.exit 4))))))
noncomputable abbrev cd (n : Nat) : Code := sub (bodyOf Tryz.f4) (pth n)
abbrev an (n : Nat) : Ann := subA ann (pth n)
theorem door {text0 : ByteArray} {Q : VP} {h : Heap} (H :
 let t10 : Int := (ByteArray.size text0 : Int)
 let t11 : Bool := decide (t10 > 1048576)
 br t11 (
 SpecH PP F_law16_awake [] h (fun v h1 => ∃ (t12 : Bool), v = (.bool t12) ∧
 Q (.bool t12) h1)) (
 SpecH PP F_token_Parse [(.string text0)] h (fun v_1 h2 => ∃ (t15f0 : ByteArray) (t15f1 t15f2 : Int) (t15_1 : ByteArray) (t15_2 : Int), v_1 = (.tuple #[(.agg #[(.string t15f0), (.int .i64 t15f1), (.int .i64 t15f2)]), (.string t15_1), (.int .i64 t15_2)]) ∧
 let c3 : Addr := ⟨Array.size h2, 0, none⟩
 let h3 : Heap := Array.push h2 (.cells #[(.string (⟨#[]⟩ : ByteArray)), (.int .i64 0), (.int .i64 0)] T_api_Claim (0, 0))
 wrCells c3 0 [(.string t15f0), (.int .i64 t15f1), (.int .i64 t15f2)] (fun h4 =>
 SpecH PP F_ref16_Parse [(.string text0)] h4 (fun v_2 h5 => ∃ (t21f0 : ByteArray) (t21f1 t21f2 : Int) (t21_1 : ByteArray) (t21_2 : Int), v_2 = (.tuple #[(.agg #[(.string t21f0), (.int .i64 t21f1), (.int .i64 t21f2)]), (.string t21_1), (.int .i64 t21_2)]) ∧
 let d6 : Addr := ⟨Array.size h5, 0, none⟩
 let h6 : Heap := Array.push h5 (.cells #[(.string (⟨#[]⟩ : ByteArray)), (.int .i64 0), (.int .i64 0)] T_api_Claim (0, 0))
 wrCells d6 0 [(.string t21f0), (.int .i64 t21f1), (.int .i64 t21f2)] (fun h7 =>
 SpecH PP F_law16_awake [] h7 (fun v_3 h8 => ∃ (t25 : Bool), v_3 = (.bool t25) ∧
 br t25 (
 ∃ (t27f0 : ByteArray) (t27f1 t27f2 : Int), rdCells h8 c3 0 [(.string t27f0), (.int .i64 t27f1), (.int .i64 t27f2)] ∧
 ∃ (t28f0 : ByteArray) (t28f1 t28f2 : Int), rdCells h8 d6 0 [(.string t28f0), (.int .i64 t28f1), (.int .i64 t28f2)] ∧
 let t29 : Bool := (decide (t27f0 = t28f0) && ((t27f1 == t28f1) && ((t27f2 == t28f2) && true)))
 br t29 (
 let t34 : Bool := decide (t15_1 = t21_1)
 br t34 (
 let t39 : Bool := (t15_2 == t21_2)
 Q (.bool t39) h8) (
 Q (.bool false) h8)) (
 Q (.bool false) h8)) (
 Q (.bool false) h8))) h6)) h3))) : SpecH PP F_law16_TokenParses [(.string text0)] h Q :=
   spec_of_txt (ann := ann) Tryz.func4 rfl rfl (by kernel_rfl) H
end law16_TokenParses
/-! ### haversack/haversacklaw16.TokenRuns: function 5 -/
namespace law16_TokenRuns
def ann : Ann := (.seq 3 (.region [(List.range 1, 3)]) (.seq 3 (.seq 268435459 (.region [(List.range 8, 268435459)]) (.join (.cond (.seq 16 (.region [(List.range 2, 16)]) (.exit 16)) .leaf))) (.seq 99 (.region [(List.range 7, 99)]) (.seq 482 (.region [(List.range 7, 482)]) (.seq 162 (.seq 562949953421474 (.region [(List.range 10, 562949953421474)]) (.join (.cond (.seq 16 (.region [(List.range 1, 16)]) (.exit 16)) .leaf))) (.seq 162 (.seq 2251799813685410 (.region [(List.range 2, 2251799813685410)]) (.cond (.seq 16 (.region [(List.range 2, 16)]) (.exit 16)) .leaf)) (.seq 674 (.region [(List.range 1, 674)]) (.seq 0 (.seq 1698 (.region [(List.range 1, 1698)]) (.block (.loop 1698 (.seq 1698 (.seq 72057594037929634 (.region [(List.range 4, 72057594037929634)]) (.cond .leaf (.exit 0))) (.seq 1698 (.block (.seq 3746 (.region [(List.range 6, 3746)]) (.seq 3746 (.seq 4722366482869645217442 (.region [(List.range 10, 4722366482869645217442)]) (.join (.cond (.seq 16 (.region [(List.range 2, 16)]) (.exit 16)) .leaf))) (.seq 37778931862957161713314 (.region [(List.range 2, 37778931862957161713314)]) (.block (.seq 170141183460469269510619166673045819042 (.region [(List.range 2, 170141183460469269510619166673045819042)]) (.cond (.seq 16034 (.region [(List.range 11, 16034)]) (.seq 63138 (.region [(List.range 11, 63138)]) (.seq 13986 (.seq 22835963083295358096932575511191922182123959970 (.region [(List.range 8, 22835963083295358096932575511191922182123959970)]) (.join (.cond (.seq 16 (.region [(List.range 1, 16)]) (.exit 16)) .leaf))) (.seq 91343852333181432387730302044767688728495789730 (.region [(List.range 2, 91343852333181432387730302044767688728495789730)]) (.cond (.region [(List.range 5, 1698)]) .leaf))))) (.seq 2923003274661805836407369665432566039311865089698 (.region [(List.range 2, 2923003274661805836407369665432566039311865089698)]) (.cond (.seq 2993155353253689176481146537402947624255349848016546 (.tree (.run [0, 1, 2, 4, 5] (.alt 3 (.run [6, 7, 8] .done) (.alt 6 (.run [3, 7, 8] .done) .nil))) 2993155353253689176481146537402947624255349848016546) (.join (.cond (.seq 16 (.region [(List.range 1, 16)]) (.exit 16)) .leaf))) (.seq 69282 (.region [(List.range 3, 69282)]) (.seq 69282 (.seq 158456325028528675187087969954 (.region [(List.range 20, 158456325028528675187087969954)]) (.join (.cond (.region [(List.range 6, 69282)]) .leaf))) (.join (.seq 462498 (.region [(List.range 11, 462498)]) (.seq 1967778 (.region [(List.range 11, 1967778)]) (.seq 85070591730234615865843651857942054562 (.region [(List.range 8, 85070591730234615865843651857942054562)]) (.join (.cond (.seq 16 (.region [(List.range 1, 16)]) (.exit 16)) .leaf))))))))))))))))) (.join (.region [(List.range 3, 1698)]))))))) (.seq 16 (.region [(List.range 2, 16)]) (.exit 16))))))))))
noncomputable abbrev cd (n : Nat) : Code := sub (bodyOf Tryz.f5) (pth n)
abbrev an (n : Nat) : Ann := subA ann (pth n)
@[irreducible] def X0  : Fr := (mkFr 0 173 [])
@[irreducible] def Xret (t4 : Bool) : Fr := (mkFr 0 173 [(4, (.bool t4))])
@[irreducible] def K1 (Q : VP) : EP := seqK (fun fr h => ev PP true none (cd 7) (an 7) (fr.mask 3) (bodyK PP Tryz.f5 Q) h) (bodyK PP Tryz.f5 Q)
@[irreducible] def J1 (xl0 : OA) (xl0n xl0c : Nat) (script1 : OA) (script1n script1c : Nat) (t28 : Bool) (Q : VP) (h : Heap) : Prop := Jn PP true (cd 13) (mkFr 0 173 [(0, (.slice xl0 xl0n xl0c)), (1, (.slice script1 script1n script1c)), (28, (.bool t28))]) (K1 Q) h
@[irreducible] def K2 (Q : VP) : EP := seqK (fun fr h => ev PP true none (cd 63) (an 63) (fr.mask 162) (bodyK PP Tryz.f5 Q) h) (bodyK PP Tryz.f5 Q)
@[irreducible] def J2 (script1 : OA) (script1n script1c : Nat) (b5 r7 : OA) (t49 : Bool) (Q : VP) (h : Heap) : Prop := Jn PP true (cd 125) (mkFr 0 173 [(1, (.slice script1 script1n script1c)), (5, (.pointer b5)), (7, (.pointer r7)), (49, (.bool t49))]) (K2 Q) h
@[irreducible] def K4 (Q : VP) : EP := seqK (fun fr h => ev PP true none (cd 511) (an 511) (fr.mask 0) (bodyK PP Tryz.f5 Q) h) (bodyK PP Tryz.f5 Q)
@[irreducible] def K3 (Q : VP) : EP := blockK 0 (K4 Q)
@[irreducible] def L1 (script1 : OA) (script1n script1c : Nat) (b5 r7 issued9 : OA) (issued9n issued9c : Nat) (i10 : Int) (K : EP) (h : Heap) : Prop := Lp PP true (cd 4084) (mkFr 0 173 [(1, (.slice script1 script1n script1c)), (5, (.pointer b5)), (7, (.pointer r7)), (9, (.slice issued9 issued9n issued9c)), (10, (.int .i64 i10))]) K h
@[irreducible] def B1 (K : EP) : EP := seqK (fun fr h => Lp PP true (cd 4084) (fr.mask 1698) K h) K
@[irreducible] def K10 (K : EP) : EP := seqK (fun fr h => Jn PP true (cd 16339) (fr.mask 1698) (B1 K) h) (B1 K)
@[irreducible] def K6 (K : EP) : EP := blockK 1 (K10 K)
@[irreducible] def K5 (K : EP) : EP := seqK (fun fr h => ev PP true none (cd 130707) (an 130707) (fr.mask 3746) (K6 K) h) (K6 K)
@[irreducible] def J3 (script1 : OA) (script1n script1c : Nat) (b5 r7 issued9 : OA) (issued9n issued9c : Nat) (i10 : Int) (o11 : Addr) (t72 : Bool) (K : EP) (h : Heap) : Prop := Jn PP true (cd 261413) (mkFr 0 173 [(1, (.slice script1 script1n script1c)), (5, (.pointer b5)), (7, (.pointer r7)), (9, (.slice issued9 issued9n issued9c)), (10, (.int .i64 i10)), (11, (.pointer (some o11))), (72, (.bool t72))]) (K5 K) h
@[irreducible] def K8 (K : EP) : EP := blockK 2 (K6 K)
@[irreducible] def K7 (K : EP) : EP := seqK (fun fr h => ev PP true none (cd 16730583) (an 16730583) (fr.mask 13986) (K8 K) h) (K8 K)
@[irreducible] def J4 (script1 : OA) (script1n script1c : Nat) (b5 r7 issued9 : OA) (issued9n issued9c : Nat) (i10 : Int) (s12 : ByteArray) (g13 : Int) (t154 : Bool) (K : EP) (h : Heap) : Prop := Jn PP true (cd 33461165) (mkFr 0 173 [(1, (.slice script1 script1n script1c)), (5, (.pointer b5)), (7, (.pointer r7)), (9, (.slice issued9 issued9n issued9c)), (10, (.int .i64 i10)), (12, (.string s12)), (13, (.int .i64 g13)), (154, (.bool t154))]) (K7 K) h
@[irreducible] def J5 (script1 : OA) (script1n script1c : Nat) (b5 r7 issued9 : OA) (issued9n issued9c : Nat) (i10 : Int) (t171 : Bool) (K : EP) (h : Heap) : Prop := Jn PP true (cd 16730589) (mkFr 0 173 [(1, (.slice script1 script1n script1c)), (5, (.pointer b5)), (7, (.pointer r7)), (9, (.slice issued9 issued9n issued9c)), (10, (.int .i64 i10)), (171, (.bool t171))]) (K8 K) h
@[irreducible] def K9 (K : EP) : EP := seqK (fun fr h => Jn PP true (cd 33461183) (fr.mask 69282) (K8 K) h) (K8 K)
@[irreducible] def J6 (script1 : OA) (script1n script1c : Nat) (b5 r7 issued9 : OA) (issued9n issued9c : Nat) (i10 : Int) (o11 : Addr) (text16 : ByteArray) (t97 : Bool) (K : EP) (h : Heap) : Prop := Jn PP true (cd 66922365) (mkFr 0 173 [(1, (.slice script1 script1n script1c)), (5, (.pointer b5)), (7, (.pointer r7)), (9, (.slice issued9 issued9n issued9c)), (10, (.int .i64 i10)), (11, (.pointer (some o11))), (16, (.string text16)), (97, (.bool t97))]) (K9 K) h
@[irreducible] def J7 (script1 : OA) (script1n script1c : Nat) (b5 r7 issued9 : OA) (issued9n issued9c : Nat) (i10 : Int) (K : EP) (h : Heap) : Prop := Jn PP true (cd 16339) (mkFr 0 173 [(1, (.slice script1 script1n script1c)), (5, (.pointer b5)), (7, (.pointer r7)), (9, (.slice issued9 issued9n issued9c)), (10, (.int .i64 i10))]) (B1 K) h
@[irreducible] def J8 (script1 : OA) (script1n script1c : Nat) (b5 r7 issued9 : OA) (issued9n issued9c : Nat) (i10 : Int) (o11 : Addr) (text16 : ByteArray) (K : EP) (h : Heap) : Prop := Jn PP true (cd 33461183) (mkFr 0 173 [(1, (.slice script1 script1n script1c)), (5, (.pointer b5)), (7, (.pointer r7)), (9, (.slice issued9 issued9n issued9c)), (10, (.int .i64 i10)), (11, (.pointer (some o11))), (16, (.string text16))]) (K8 K) h
@[irreducible] def J9 (script1 : OA) (script1n script1c : Nat) (b5 r7 issued9 : OA) (issued9n issued9c : Nat) (i10 : Int) (t126 : Bool) (K : EP) (h : Heap) : Prop := Jn PP true (cd 267689471) (mkFr 0 173 [(1, (.slice script1 script1n script1c)), (5, (.pointer b5)), (7, (.pointer r7)), (9, (.slice issued9 issued9n issued9c)), (10, (.int .i64 i10)), (126, (.bool t126))]) (K8 K) h
theorem J1_of {xl0 : OA} {xl0n xl0c : Nat} {script1 : OA} {script1n script1c : Nat} {t28 : Bool} {Q : VP} {h : Heap} (H :
 br t28 (
 SpecH PP F_law16_awake [] h (fun v h1 => ∃ (t29 : Bool), v = (.bool t29) ∧
 Q (.bool t29) h1)) (
 SpecH PP F_token_New [(.slice xl0 xl0n xl0c)] h (fun v_1 h2 => ∃ (t32 : OA) (t32_1 : Int), v_1 = (.tuple #[(.pointer t32), (.int .i64 t32_1)]) ∧
 SpecH PP F_ref16_New [(.slice xl0 xl0n xl0c)] h2 (fun v_2 h3 => ∃ (t37 : OA) (t37_1 : Int), v_2 = (.tuple #[(.pointer t37), (.int .i64 t37_1)]) ∧
 let t42 : Bool := (t32_1 != t37_1)
 br t42 (
 J2 script1 script1n script1c t32 t37 true Q h3) (
 let t45 : Bool := (Option.isNone t32)
 let t47 : Bool := (t37_1 != 0)
 let t48 : Bool := (!(t45 == t47))
 J2 script1 script1n script1c t32 t37 t48 Q h3))))) : J1 xl0 xl0n xl0c script1 script1n script1c t28 Q h := by unfold J1; exact Jn.of_txt (an 13) (by kernel_rfl) H
theorem J2_of {script1 : OA} {script1n script1c : Nat} {b5 r7 : OA} {t49 : Bool} {Q : VP} {h : Heap} (H :
 br t49 (
 Q (.bool false) h) (
 let t51 : Bool := (Option.isNone b5)
 br t51 (
 SpecH PP F_law16_awake [] h (fun v h1 => ∃ (t52 : Bool), v = (.bool t52) ∧
 Q (.bool t52) h1)) (
 L1 script1 script1n script1c b5 r7 none 0 0 0 (K3 Q) h))) : J2 script1 script1n script1c b5 r7 t49 Q h := by unfold J2; exact Jn.of_txt (an 125) (by kernel_rfl) H
theorem L1_of {script1 : OA} {script1n script1c : Nat} {b5 r7 issued9 : OA} {issued9n issued9c : Nat} {i10 : Int} {K : EP} {h : Heap} (H :
 let t56 : Bool := decide (i10 < (script1n : Int))
 br t56 (
 hwp PP (Instr.indexAt T_sl_haversacklaw16_Op (.slice script1 script1n script1c) (.int .i64 i10)) (fun v h1 => ∃ (t61 : Addr), v = (.pointer (some t61)) ∧
 ∃ (t62f0 t62f1 t62f2 : Int) (t62f3 t62f4 : ByteArray), rdCells h1 t61 0 [(.int .i64 t62f0), (.int .i64 t62f1), (.int .i64 t62f2), (.string t62f3), (.string t62f4)] ∧
 let o11 : Addr := ⟨Array.size h1, 0, none⟩
 let h2 : Heap := Array.push h1 (.cells #[(.int .i64 0), (.int .i64 0), (.int .i64 0), (.string (⟨#[]⟩ : ByteArray)), (.string (⟨#[]⟩ : ByteArray))] T_haversacklaw16_Op (0, 0))
 wrCells o11 0 [(.int .i64 t62f0), (.int .i64 t62f1), (.int .i64 t62f2), (.string t62f3), (.string t62f4)] (fun h3 =>
 ∃ (t64 : ByteArray), cellH h3 (Addr.add o11 3) = some (.string t64) ∧
 let t65 : Int := (ByteArray.size t64 : Int)
 let t66 : Bool := decide (t65 > 1048576)
 br t66 (
 J3 script1 script1n script1c b5 r7 issued9 issued9n issued9c i10 o11 true K h3) (
 ∃ (t69 : ByteArray), cellH h3 (Addr.add o11 4) = some (.string t69) ∧
 let t70 : Int := (ByteArray.size t69 : Int)
 let t71 : Bool := decide (t70 > 1048576)
 J3 script1 script1n script1c b5 r7 issued9 issued9n issued9c i10 o11 t71 K h3)) h2) h) (
 K (.exit 0) (X0) h)) : L1 script1 script1n script1c b5 r7 issued9 issued9n issued9c i10 K h := by unfold L1; exact Lp.of_txt (an 4084) 1698 (by kernel_rfl) H
theorem L1_X0 {Q : VP}  {h : Heap} (H :
 SpecH PP F_law16_awake [] h (fun v h1 => ∃ (t172 : Bool), v = (.bool t172) ∧
 Q (.bool t172) h1)) : (K3 Q) (.exit 0) (X0 ) h := of_eq_txt (by kernel_rfl) H
theorem J3_of {script1 : OA} {script1n script1c : Nat} {b5 r7 issued9 : OA} {issued9n issued9c : Nat} {i10 : Int} {o11 : Addr} {t72 : Bool} {K : EP} {h : Heap} (H :
 br t72 (
 SpecH PP F_law16_awake [] h (fun v h1 => ∃ (t73 : Bool), v = (.bool t73) ∧
 K .ret (Xret t73) h1)) (
 ∃ (t75 : Int), cellH h o11 = some (.int .i64 t75) ∧
 let t128 : Bool := (t75 == 1)
 br t128 (
 ∃ (t132 : ByteArray), cellH h (Addr.add o11 3) = some (.string t132) ∧
 ∃ (t134 : Int), cellH h (Addr.add o11 1) = some (.int .i64 t134) ∧
 SpecH PP F_token_Book_Issue [(.pointer b5), (.string t132), (.int .i64 t134)] h (fun v_1 h2 => ∃ (t135 : ByteArray) (t135_1 : Int), v_1 = (.tuple #[(.string t135), (.int .i64 t135_1)]) ∧
 ∃ (t141 : ByteArray), cellH h2 (Addr.add o11 3) = some (.string t141) ∧
 ∃ (t143 : Int), cellH h2 (Addr.add o11 1) = some (.int .i64 t143) ∧
 SpecH PP F_ref16_Book_Issue [(.pointer r7), (.string t141), (.int .i64 t143)] h2 (fun v_2 h3 => ∃ (t144 : ByteArray) (t144_1 : Int), v_2 = (.tuple #[(.string t144), (.int .i64 t144_1)]) ∧
 let t149 : Bool := (!decide (t135 = t144))
 br t149 (
 J4 script1 script1n script1c b5 r7 issued9 issued9n issued9c i10 t135 t135_1 true K h3) (
 let t153 : Bool := (t135_1 != t144_1)
 J4 script1 script1n script1c b5 r7 issued9 issued9n issued9c i10 t135 t135_1 t153 K h3)))) (
 let t162 : Bool := (t75 == 2)
 br t162 (
 ∃ (t165 : Int), cellH h (Addr.add o11 1) = some (.int .i64 t165) ∧
 (
 SpecH PP F_token_Book_Revoke [(.pointer b5), (.int .i64 t165)] h (fun v_5 h6 => ∃ (t166_1 : Int), v_5 = (.int .i64 t166_1) ∧
 ∃ (t169_1 : Int), cellH h6 (Addr.add o11 1) = some (.int .i64 t169_1) ∧
 SpecH PP F_ref16_Book_Revoke [(.pointer r7), (.int .i64 t169_1)] h6 (fun v_6 h7 => ∃ (t170_1 : Int), v_6 = (.int .i64 t170_1) ∧
 let t171_1 : Bool := (t166_1 != t170_1)
 J5 script1 script1n script1c b5 r7 issued9 issued9n issued9c i10 t171_1 K h7))) ∧
 (
 ∃ (t169 : Int), cellH h (Addr.add o11 1) = some (.int .i64 t169) ∧
 SpecH PP F_token_Book_Revoke [(.pointer b5), (.int .i64 t165)] h (fun v_3 h4 => ∃ (t166 : Int), v_3 = (.int .i64 t166) ∧
 SpecH PP F_ref16_Book_Revoke [(.pointer r7), (.int .i64 t169)] h4 (fun v_4 h5 => ∃ (t170 : Int), v_4 = (.int .i64 t170) ∧
 let t171 : Bool := (t166 != t170)
 J5 script1 script1n script1c b5 r7 issued9 issued9n issued9c i10 t171 K h5))) ∧
 True) (
 ∃ (t77 : ByteArray), cellH h (Addr.add o11 4) = some (.string t77) ∧
 let t79 : Int := (ByteArray.size t77 : Int)
 let t80 : Bool := decide (t79 > 0)
 br t80 (
 hwp PP (Instr.index T_string (.string t77) (.int .i64 0)) (fun v_7 h8 => ∃ (t83 : Int), v_7 = (.int .u8 t83) ∧
 let t84 : Bool := (t83 == 35)
 br t84 (
 ∃ (t88 : Int), cellH h8 (Addr.add o11 2) = some (.int .i64 t88) ∧
 let t89 : Bool := decide (t88 ≥ 0)
 br t89 (
 ∃ (t93 : Int), cellH h8 (Addr.add o11 2) = some (.int .i64 t93) ∧
 let t96 : Bool := decide (t93 < (issued9n : Int))
 J6 script1 script1n script1c b5 r7 issued9 issued9n issued9c i10 o11 t77 t96 K h8) (
 J6 script1 script1n script1c b5 r7 issued9 issued9n issued9c i10 o11 t77 false K h8)) (
 J6 script1 script1n script1c b5 r7 issued9 issued9n issued9c i10 o11 t77 false K h8)) h) (
 J6 script1 script1n script1c b5 r7 issued9 issued9n issued9c i10 o11 t77 false K h))))) : J3 script1 script1n script1c b5 r7 issued9 issued9n issued9c i10 o11 t72 K h := by unfold J3; exact Jn.of_txt (an 261413) (by kernel_rfl) H
theorem L1_Xret {Q : VP} {t4 : Bool} {h : Heap} (H :
 Q (.bool t4) h) : (K3 Q) .ret (Xret t4) h := of_eq_txt (by kernel_rfl) H
theorem J4_of {script1 : OA} {script1n script1c : Nat} {b5 r7 issued9 : OA} {issued9n issued9c : Nat} {i10 : Int} {s12 : ByteArray} {g13 : Int} {t154 : Bool} {K : EP} {h : Heap} (H :
 br t154 (
 K .ret (Xret false) h) (
 let t156 : Bool := (g13 == 0)
 br t156 (
 let h1 : Heap := Array.push h (.cells #[(.string s12)] T_string (0, 0))
 hwp PP (Builtin.append_ #[T_sl_string, T_sl_string] T_sl_string #[(.slice issued9 issued9n issued9c), (.slice (some ⟨Array.size h, 0, none⟩) 1 1)]) (fun v h2 => ∃ (t160 : OA) (t160n t160c : Nat), v = (.slice t160 t160n t160c) ∧
 J7 script1 script1n script1c b5 r7 t160 t160n t160c i10 K h2) h1) (
 J7 script1 script1n script1c b5 r7 issued9 issued9n issued9c i10 K h))) : J4 script1 script1n script1c b5 r7 issued9 issued9n issued9c i10 s12 g13 t154 K h := by unfold J4; exact Jn.of_txt (an 33461165) (by kernel_rfl) H
theorem J5_of {script1 : OA} {script1n script1c : Nat} {b5 r7 issued9 : OA} {issued9n issued9c : Nat} {i10 : Int} {t171 : Bool} {K : EP} {h : Heap} (H :
 br t171 (
 K .ret (Xret false) h) (
 J7 script1 script1n script1c b5 r7 issued9 issued9n issued9c i10 K h)) : J5 script1 script1n script1c b5 r7 issued9 issued9n issued9c i10 t171 K h := by unfold J5; exact Jn.of_txt (an 16730589) (by kernel_rfl) H
theorem J6_of {script1 : OA} {script1n script1c : Nat} {b5 r7 issued9 : OA} {issued9n issued9c : Nat} {i10 : Int} {o11 : Addr} {text16 : ByteArray} {t97 : Bool} {K : EP} {h : Heap} (H :
 br t97 (
 ∃ (t100 : Int), cellH h (Addr.add o11 2) = some (.int .i64 t100) ∧
 hwp PP (Instr.indexAt T_sl_string (.slice issued9 issued9n issued9c) (.int .i64 t100)) (fun v h1 => ∃ (t101 : Addr), v = (.pointer (some t101)) ∧
 ∃ (t102 : ByteArray), cellH h1 t101 = some (.string t102) ∧
 J8 script1 script1n script1c b5 r7 issued9 issued9n issued9c i10 o11 t102 K h1) h) (
 J8 script1 script1n script1c b5 r7 issued9 issued9n issued9c i10 o11 text16 K h)) : J6 script1 script1n script1c b5 r7 issued9 issued9n issued9c i10 o11 text16 t97 K h := by unfold J6; exact Jn.of_txt (an 66922365) (by kernel_rfl) H
theorem J7_of {script1 : OA} {script1n script1c : Nat} {b5 r7 issued9 : OA} {issued9n issued9c : Nat} {i10 : Int} {K : EP} {h : Heap} (H :
 let t58 : Int := IntKind.i64.wrap (i10 + 1)
 L1 script1 script1n script1c b5 r7 issued9 issued9n issued9c t58 K h) : J7 script1 script1n script1c b5 r7 issued9 issued9n issued9c i10 K h := by unfold J7; exact Jn.of_txt (an 16339) (by kernel_rfl) H
theorem J8_of {script1 : OA} {script1n script1c : Nat} {b5 r7 issued9 : OA} {issued9n issued9c : Nat} {i10 : Int} {o11 : Addr} {text16 : ByteArray} {K : EP} {h : Heap} (H :
 ∃ (t107 : Int), cellH h (Addr.add o11 1) = some (.int .i64 t107) ∧
 SpecH PP F_token_Book_Check [(.pointer b5), (.string text16), (.int .i64 t107)] h (fun v h1 => ∃ (t108f0 : ByteArray) (t108f1 t108f2 t108_1 : Int), v = (.tuple #[(.agg #[(.string t108f0), (.int .i64 t108f1), (.int .i64 t108f2)]), (.int .i64 t108_1)]) ∧
 let c17 : Addr := ⟨Array.size h1, 0, none⟩
 let h2 : Heap := Array.push h1 (.cells #[(.string (⟨#[]⟩ : ByteArray)), (.int .i64 0), (.int .i64 0)] T_api_Claim (0, 0))
 wrCells c17 0 [(.string t108f0), (.int .i64 t108f1), (.int .i64 t108f2)] (fun h3 =>
 ∃ (t115 : Int), cellH h3 (Addr.add o11 1) = some (.int .i64 t115) ∧
 SpecH PP F_ref16_Book_Check [(.pointer r7), (.string text16), (.int .i64 t115)] h3 (fun v_1 h4 => ∃ (t116f0 : ByteArray) (t116f1 t116f2 t116_1 : Int), v_1 = (.tuple #[(.agg #[(.string t116f0), (.int .i64 t116f1), (.int .i64 t116f2)]), (.int .i64 t116_1)]) ∧
 let d19 : Addr := ⟨Array.size h4, 0, none⟩
 let h5 : Heap := Array.push h4 (.cells #[(.string (⟨#[]⟩ : ByteArray)), (.int .i64 0), (.int .i64 0)] T_api_Claim (0, 0))
 wrCells d19 0 [(.string t116f0), (.int .i64 t116f1), (.int .i64 t116f2)] (fun h6 =>
 ∃ (t119f0 : ByteArray) (t119f1 t119f2 : Int), rdCells h6 c17 0 [(.string t119f0), (.int .i64 t119f1), (.int .i64 t119f2)] ∧
 ∃ (t120f0 : ByteArray) (t120f1 t120f2 : Int), rdCells h6 d19 0 [(.string t120f0), (.int .i64 t120f1), (.int .i64 t120f2)] ∧
 let t121 : Bool := (!(decide (t119f0 = t120f0) && ((t119f1 == t120f1) && ((t119f2 == t120f2) && true))))
 br t121 (
 J9 script1 script1n script1c b5 r7 issued9 issued9n issued9c i10 true K h6) (
 let t125 : Bool := (t108_1 != t116_1)
 J9 script1 script1n script1c b5 r7 issued9 issued9n issued9c i10 t125 K h6)) h5)) h2)) : J8 script1 script1n script1c b5 r7 issued9 issued9n issued9c i10 o11 text16 K h := by unfold J8; exact Jn.of_txt (an 33461183) (by kernel_rfl) H
theorem J9_of {script1 : OA} {script1n script1c : Nat} {b5 r7 issued9 : OA} {issued9n issued9c : Nat} {i10 : Int} {t126 : Bool} {K : EP} {h : Heap} (H :
 br t126 (
 K .ret (Xret false) h) (
 J7 script1 script1n script1c b5 r7 issued9 issued9n issued9c i10 K h)) : J9 script1 script1n script1c b5 r7 issued9 issued9n issued9c i10 t126 K h := by unfold J9; exact Jn.of_txt (an 267689471) (by kernel_rfl) H
theorem door {xl0 : OA} {xl0n xl0c : Nat} {script1 : OA} {script1n script1c : Nat} {Q : VP} {h : Heap} (H :
 SpecH PP F_law16_light [(.slice xl0 xl0n xl0c)] h (fun v h1 => ∃ (t22 : Bool), v = (.bool t22) ∧
 let t23 : Bool := (!t22)
 br t23 (
 J1 xl0 xl0n xl0c script1 script1n script1c true Q h1) (
 let t27 : Bool := decide ((script1n : Int) > 1000)
 J1 xl0 xl0n xl0c script1 script1n script1c t27 Q h1))) : SpecH PP F_law16_TokenRuns [(.slice xl0 xl0n xl0c), (.slice script1 script1n script1c)] h Q :=
   spec_of_txt (ann := ann) Tryz.func5 rfl rfl (by kernel_rfl) H
end law16_TokenRuns
/-! ### haversack/haversacklaw16.awake: function 6 -/
namespace law16_awake
def ann : Ann := (.seq 0 (.region [(List.range 1, 0)]) (.seq 6 (.region [(List.range 7, 6)]) (.seq 2 (.seq 4294967298 (.region [(List.range 6, 4294967298)]) (.join (.cond (.seq 1 (.region [(List.range 1, 1)]) (.exit 1)) .leaf))) (.seq 26 (.region [(List.range 7, 26)]) (.seq 90 (.region [(List.range 7, 90)]) (.seq 346 (.region [(List.range 7, 346)]) (.seq 1882 (.region [(List.range 7, 1882)]) (.seq 8026 (.region [(List.range 9, 8026)]) (.seq 24410 (.region [(List.range 9, 24410)]) (.seq 253274 (.region [(List.range 10, 253274)]) (.seq 362506 (.region [(List.range 27, 362506)]) (.join (.seq 886794 (.region [(List.range 3, 886794)]) (.seq 2983936 (.region [(List.range 9, 2983936)]) (.seq 1 (.region [(List.range 25, 1)]) (.exit 1))))))))))))))))
noncomputable abbrev cd (n : Nat) : Code := sub (bodyOf Tryz.f6) (pth n)
abbrev an (n : Nat) : Ann := subA ann (pth n)
@[irreducible] def K1 (Q : VP) : EP := seqK (fun fr h => ev PP true none (cd 15) (an 15) (fr.mask 2) (bodyK PP Tryz.f6 Q) h) (bodyK PP Tryz.f6 Q)
@[irreducible] def J1 (b1 : OA) (t32 : Bool) (Q : VP) (h : Heap) : Prop := Jn PP true (cd 29) (mkFr 0 129 [(1, (.pointer b1)), (32, (.bool t32))]) (K1 Q) h
@[irreducible] def J2 (b1 : OA) (s3 : ByteArray) (c11 p15 : Addr) (q16 : ByteArray) (ok18 : Bool) (Q : VP) (h : Heap) : Prop := Jn PP true (cd 4095) (mkFr 0 129 [(1, (.pointer b1)), (3, (.string s3)), (11, (.pointer (some c11))), (15, (.pointer (some p15))), (16, (.string q16)), (18, (.bool ok18))]) (bodyK PP Tryz.f6 Q) h
theorem J1_of {b1 : OA} {t32 : Bool} {Q : VP} {h : Heap} (H :
 br t32 (
 Q (.bool false) h) (
 SpecH PP F_token_Book_Issue [(.pointer b1), (.string (⟨#[97]⟩ : ByteArray)), (.int .i64 9)] h (fun v h1 => ∃ (t35 : ByteArray) (t35_1 : Int), v = (.tuple #[(.string t35), (.int .i64 t35_1)]) ∧
 SpecH PP F_token_Book_Issue [(.pointer b1), (.string (⟨#[98]⟩ : ByteArray)), (.int .i64 9)] h1 (fun v_1 h2 => ∃ (t40 : ByteArray) (t40_1 : Int), v_1 = (.tuple #[(.string t40), (.int .i64 t40_1)]) ∧
 SpecH PP F_token_Book_Issue [(.pointer b1), (.string (⟨#[97]⟩ : ByteArray)), (.int .i64 (-1))] h2 (fun v_2 h3 => ∃ (t45 : ByteArray) (t45_1 : Int), v_2 = (.tuple #[(.string t45), (.int .i64 t45_1)]) ∧
 SpecH PP F_token_Book_Issue [(.pointer b1), (.string (⟨#[97]⟩ : ByteArray)), (.int .i64 9)] h3 (fun v_3 h4 => ∃ (t50 : ByteArray) (t50_1 : Int), v_3 = (.tuple #[(.string t50), (.int .i64 t50_1)]) ∧
 SpecH PP F_token_Book_Check [(.pointer b1), (.string t35), (.int .i64 9)] h4 (fun v_4 h5 => ∃ (t56f0 : ByteArray) (t56f1 t56f2 t56_1 : Int), v_4 = (.tuple #[(.agg #[(.string t56f0), (.int .i64 t56f1), (.int .i64 t56f2)]), (.int .i64 t56_1)]) ∧
 let c11 : Addr := ⟨Array.size h5, 0, none⟩
 let h6 : Heap := Array.push h5 (.cells #[(.string (⟨#[]⟩ : ByteArray)), (.int .i64 0), (.int .i64 0)] T_api_Claim (0, 0))
 wrCells c11 0 [(.string t56f0), (.int .i64 t56f1), (.int .i64 t56f2)] (fun h7 =>
 SpecH PP F_token_Book_Check [(.pointer b1), (.string t35), (.int .i64 10)] h7 (fun v_5 h8 => ∃ (t62f0 : ByteArray) (t62f1 t62f2 t62_1 : Int), v_5 = (.tuple #[(.agg #[(.string t62f0), (.int .i64 t62f1), (.int .i64 t62f2)]), (.int .i64 t62_1)]) ∧
 let t13 : Addr := ⟨Array.size h8, 0, none⟩
 let h9 : Heap := Array.push h8 (.cells #[(.string (⟨#[]⟩ : ByteArray)), (.int .i64 0), (.int .i64 0)] T_api_Claim (0, 0))
 wrCells t13 0 [(.string t62f0), (.int .i64 t62f1), (.int .i64 t62f2)] (fun h10 =>
 SpecH PP F_token_Parse [(.string t50)] h10 (fun v_6 h11 => ∃ (t67f0 : ByteArray) (t67f1 t67f2 : Int) (t67_1 : ByteArray) (t67_2 : Int), v_6 = (.tuple #[(.agg #[(.string t67f0), (.int .i64 t67f1), (.int .i64 t67f2)]), (.string t67_1), (.int .i64 t67_2)]) ∧
 let p15 : Addr := ⟨Array.size h11, 0, none⟩
 let h12 : Heap := Array.push h11 (.cells #[(.string (⟨#[]⟩ : ByteArray)), (.int .i64 0), (.int .i64 0)] T_api_Claim (0, 0))
 wrCells p15 0 [(.string t67f0), (.int .i64 t67f1), (.int .i64 t67f2)] (fun h13 =>
 let t72 : Bool := (t35_1 == 0)
 br t72 (
 let t75 : Bool := (t40_1 == 170)
 br t75 (
 let t79 : Bool := (t45_1 == 1)
 br t79 (
 let t83 : Bool := (t50_1 == 0)
 br t83 (
 let t87 : Bool := (t56_1 == 0)
 br t87 (
 let t91 : Bool := (t62_1 == 162)
 br t91 (
 let t95 : Bool := (t67_2 == 0)
 J2 b1 t35 c11 p15 t67_1 t95 Q h13) (
 J2 b1 t35 c11 p15 t67_1 false Q h13)) (
 J2 b1 t35 c11 p15 t67_1 false Q h13)) (
 J2 b1 t35 c11 p15 t67_1 false Q h13)) (
 J2 b1 t35 c11 p15 t67_1 false Q h13)) (
 J2 b1 t35 c11 p15 t67_1 false Q h13)) (
 J2 b1 t35 c11 p15 t67_1 false Q h13)) h12)) h9)) h6))))))) : J1 b1 t32 Q h := by unfold J1; exact Jn.of_txt (an 29) (by kernel_rfl) H
theorem J2_of {b1 : OA} {s3 : ByteArray} {c11 p15 : Addr} {q16 : ByteArray} {ok18 : Bool} {Q : VP} {h : Heap} (H :
 SpecH PP F_token_Book_Revoke [(.pointer b1), (.int .i64 1)] h (fun v h1 => ∃ (t98 : Int), v = (.int .i64 t98) ∧
 SpecH PP F_token_Book_Check [(.pointer b1), (.string s3), (.int .i64 9)] h1 (fun v_1 h2 => ∃ (t102f0 : ByteArray) (t102f1 t102f2 t102_1 : Int), v_1 = (.tuple #[(.agg #[(.string t102f0), (.int .i64 t102f1), (.int .i64 t102f2)]), (.int .i64 t102_1)]) ∧
 let t20 : Addr := ⟨Array.size h2, 0, none⟩
 let h3 : Heap := Array.push h2 (.cells #[(.string (⟨#[]⟩ : ByteArray)), (.int .i64 0), (.int .i64 0)] T_api_Claim (0, 0))
 wrCells t20 0 [(.string t102f0), (.int .i64 t102f1), (.int .i64 t102f2)] (fun h4 =>
 br ok18 (
 ∃ (t107f0 : ByteArray) (t107f1 t107f2 : Int), rdCells h4 c11 0 [(.string t107f0), (.int .i64 t107f1), (.int .i64 t107f2)] ∧
 let t109 : Bool := (decide (t107f0 = (⟨#[97]⟩ : ByteArray)) && ((t107f1 == 9) && ((t107f2 == 1) && true)))
 br t109 (
 ∃ (t112f0 : ByteArray) (t112f1 t112f2 : Int), rdCells h4 p15 0 [(.string t112f0), (.int .i64 t112f1), (.int .i64 t112f2)] ∧
 let t114 : Bool := (decide (t112f0 = (⟨#[97]⟩ : ByteArray)) && ((t112f1 == 9) && ((t112f2 == 2) && true)))
 br t114 (
 let t118 : Int := (ByteArray.size q16 : Int)
 let t119 : Bool := (t118 == 64)
 br t119 (
 let t123 : Bool := (t98 == 0)
 br t123 (
 let t127 : Bool := (t102_1 == 163)
 Q (.bool t127) h4) (
 Q (.bool false) h4)) (
 Q (.bool false) h4)) (
 Q (.bool false) h4)) (
 Q (.bool false) h4)) (
 Q (.bool false) h4)) h3))) : J2 b1 s3 c11 p15 q16 ok18 Q h := by unfold J2; exact Jn.of_txt (an 4095) (by kernel_rfl) H
theorem door  {Q : VP} {h : Heap} (H :
 SpecH PP F_law16_one [] h (fun v h1 => ∃ (t23 : OA) (t23n t23c : Nat), v = (.slice t23 t23n t23c) ∧
 SpecH PP F_token_New [(.slice t23 t23n t23c)] h1 (fun v_1 h2 => ∃ (t24 : OA) (t24_1 : Int), v_1 = (.tuple #[(.pointer t24), (.int .i64 t24_1)]) ∧
 let t28 : Bool := (Option.isNone t24)
 br t28 (
 J1 t24 true Q h2) (
 let t31 : Bool := (t24_1 != 0)
 J1 t24 t31 Q h2)))) : SpecH PP F_law16_awake [] h Q :=
   spec_of_txt (ann := ann) Tryz.func6 rfl rfl (by kernel_rfl) H
end law16_awake
/-! ### haversack/token.Print: function 7 -/
namespace token_Print
def ann : Ann := (.seq 6 (.region [(List.range 3, 6)]) (.seq 6 (.seq 8198 (.region [(List.range 8, 8198)]) (.join (.cond (.seq 48 (.region [(List.range 2, 48)]) (.exit 48)) .leaf))) (.seq 48 (.tree (.run [0, 4] (.alt 1 (.run [2, 3, 5, 6, 7, 8, 9] .done) (.alt 3 (.run [1, 2, 5, 6, 7, 8, 9] .done) .nil))) 48) (.exit 48))))
noncomputable abbrev cd (n : Nat) : Code := sub (bodyOf Tryz.f7) (pth n)
abbrev an (n : Nat) : Ann := subA ann (pth n)
@[irreducible] def K1 (Q : VP) : EP := seqK (fun fr h => ev PP true none (cd 7) (an 7) (fr.mask 6) (bodyK PP Tryz.f7 Q) h) (bodyK PP Tryz.f7 Q)
@[irreducible] def J1 (secret1 : ByteArray) (c2 : Addr) (t13 : Bool) (Q : VP) (h : Heap) : Prop := Jn PP true (cd 13) (mkFr 0 22 [(1, (.string secret1)), (2, (.pointer (some c2))), (13, (.bool t13))]) (K1 Q) h
theorem J1_of {secret1 : ByteArray} {c2 : Addr} {t13 : Bool} {Q : VP} {h : Heap} (H :
 br t13 (
 Q (.tuple #[(.string (⟨#[]⟩ : ByteArray)), (.int .i64 1)]) h) (
 ∃ (t14f0 : ByteArray) (t14f1 t14f2 : Int), rdCells h c2 0 [(.string t14f0), (.int .i64 t14f1), (.int .i64 t14f2)] ∧
 (
 SpecH PP F_token_body [(.agg #[(.string t14f0), (.int .i64 t14f1), (.int .i64 t14f2)])] h (fun v_3 h4 => ∃ (t15_1 : ByteArray), v_3 = (.string t15_1) ∧
 br (decide (ByteArray.size t15_1 + ByteArray.size (⟨#[46]⟩ : ByteArray) ≤ 9223372036854775807)) (
 let t16_1 : ByteArray := (t15_1 ++ (⟨#[46]⟩ : ByteArray))
 ∃ (t17_1f0 : ByteArray) (t17_1f1 t17_1f2 : Int), rdCells h4 c2 0 [(.string t17_1f0), (.int .i64 t17_1f1), (.int .i64 t17_1f2)] ∧
 SpecH PP F_token_mac [(.agg #[(.string t17_1f0), (.int .i64 t17_1f1), (.int .i64 t17_1f2)]), (.string secret1)] h4 (fun v_4 h5 => ∃ (t19_1 : List Value), v_4 = (.agg (t19_1).toArray) ∧
 SpecH PP F_token_digits [(.agg (t19_1).toArray)] h5 (fun v_5 h6 => ∃ (t20_1 : ByteArray), v_5 = (.string t20_1) ∧
 br (decide (ByteArray.size t16_1 + ByteArray.size t20_1 ≤ 9223372036854775807)) (
 let t21_1 : ByteArray := (t16_1 ++ t20_1)
 Q (.tuple #[(.string t21_1), (.int .i64 0)]) h6) False))) False)) ∧
 (
 ∃ (t17f0 : ByteArray) (t17f1 t17f2 : Int), rdCells h c2 0 [(.string t17f0), (.int .i64 t17f1), (.int .i64 t17f2)] ∧
 SpecH PP F_token_body [(.agg #[(.string t14f0), (.int .i64 t14f1), (.int .i64 t14f2)])] h (fun v h1 => ∃ (t15 : ByteArray), v = (.string t15) ∧
 br (decide (ByteArray.size t15 + ByteArray.size (⟨#[46]⟩ : ByteArray) ≤ 9223372036854775807)) (
 let t16 : ByteArray := (t15 ++ (⟨#[46]⟩ : ByteArray))
 SpecH PP F_token_mac [(.agg #[(.string t17f0), (.int .i64 t17f1), (.int .i64 t17f2)]), (.string secret1)] h1 (fun v_1 h2 => ∃ (t19 : List Value), v_1 = (.agg (t19).toArray) ∧
 SpecH PP F_token_digits [(.agg (t19).toArray)] h2 (fun v_2 h3 => ∃ (t20 : ByteArray), v_2 = (.string t20) ∧
 br (decide (ByteArray.size t16 + ByteArray.size t20 ≤ 9223372036854775807)) (
 let t21 : ByteArray := (t16 ++ t20)
 Q (.tuple #[(.string t21), (.int .i64 0)]) h3) False))) False)) ∧
 True)) : J1 secret1 c2 t13 Q h := by unfold J1; exact Jn.of_txt (an 13) (by kernel_rfl) H
theorem door {c0f0 : ByteArray} {c0f1 c0f2 : Int} {secret1 : ByteArray} {Q : VP} {h : Heap} (H :
 let c2 : Addr := ⟨Array.size h, 0, none⟩
 let h1 : Heap := Array.push h (.cells #[(.string c0f0), (.int .i64 c0f1), (.int .i64 c0f2)] T_api_Claim (0, 0))
 ∃ (t6f0 : ByteArray) (t6f1 t6f2 : Int), rdCells h1 c2 0 [(.string t6f0), (.int .i64 t6f1), (.int .i64 t6f2)] ∧
 SpecH PP F_token_right [(.agg #[(.string t6f0), (.int .i64 t6f1), (.int .i64 t6f2)])] h1 (fun v h2 => ∃ (t7 : Bool), v = (.bool t7) ∧
 let t8 : Bool := (!t7)
 br t8 (
 J1 secret1 c2 true Q h2) (
 let t11 : Int := (ByteArray.size secret1 : Int)
 let t12 : Bool := decide (t11 > 64)
 J1 secret1 c2 t12 Q h2))) : SpecH PP F_token_Print [(.agg #[(.string c0f0), (.int .i64 c0f1), (.int .i64 c0f2)]), (.string secret1)] h Q :=
   spec_of_txt (ann := ann) Tryz.func7 rfl rfl (by kernel_rfl) H
end token_Print
/-! ### haversack/haversackref16.Print: function 8 -/
namespace ref16_Print
def ann : Ann := (.seq 6 (.region [(List.range 3, 6)]) (.seq 6 (.seq 8198 (.region [(List.range 8, 8198)]) (.join (.cond (.seq 48 (.region [(List.range 2, 48)]) (.exit 48)) .leaf))) (.seq 48 (.tree (.run [0, 5] (.alt 1 (.run [2, 3, 4, 6, 7, 8, 9] .done) (.alt 3 (.run [1, 2, 4, 6, 7, 8, 9] .done) .nil))) 48) (.exit 48))))
noncomputable abbrev cd (n : Nat) : Code := sub (bodyOf Tryz.f8) (pth n)
abbrev an (n : Nat) : Ann := subA ann (pth n)
@[irreducible] def K1 (Q : VP) : EP := seqK (fun fr h => ev PP true none (cd 7) (an 7) (fr.mask 6) (bodyK PP Tryz.f8 Q) h) (bodyK PP Tryz.f8 Q)
@[irreducible] def J1 (secret1 : ByteArray) (c2 : Addr) (t13 : Bool) (Q : VP) (h : Heap) : Prop := Jn PP true (cd 13) (mkFr 0 22 [(1, (.string secret1)), (2, (.pointer (some c2))), (13, (.bool t13))]) (K1 Q) h
theorem J1_of {secret1 : ByteArray} {c2 : Addr} {t13 : Bool} {Q : VP} {h : Heap} (H :
 br t13 (
 Q (.tuple #[(.string (⟨#[]⟩ : ByteArray)), (.int .i64 1)]) h) (
 ∃ (t14f0 : ByteArray) (t14f1 t14f2 : Int), rdCells h c2 0 [(.string t14f0), (.int .i64 t14f1), (.int .i64 t14f2)] ∧
 (
 SpecH PP F_ref16_Body [(.agg #[(.string t14f0), (.int .i64 t14f1), (.int .i64 t14f2)])] h (fun v_3 h4 => ∃ (t15_1 : ByteArray), v_3 = (.string t15_1) ∧
 br (decide (ByteArray.size t15_1 + ByteArray.size (⟨#[46]⟩ : ByteArray) ≤ 9223372036854775807)) (
 let t16_1 : ByteArray := (t15_1 ++ (⟨#[46]⟩ : ByteArray))
 ∃ (t17_1f0 : ByteArray) (t17_1f1 t17_1f2 : Int), rdCells h4 c2 0 [(.string t17_1f0), (.int .i64 t17_1f1), (.int .i64 t17_1f2)] ∧
 SpecH PP F_ref16_Body [(.agg #[(.string t17_1f0), (.int .i64 t17_1f1), (.int .i64 t17_1f2)])] h4 (fun v_4 h5 => ∃ (t18_1 : ByteArray), v_4 = (.string t18_1) ∧
 SpecH PP F_ref16_Digits [(.string t18_1), (.string secret1)] h5 (fun v_5 h6 => ∃ (t20_1 : ByteArray), v_5 = (.string t20_1) ∧
 br (decide (ByteArray.size t16_1 + ByteArray.size t20_1 ≤ 9223372036854775807)) (
 let t21_1 : ByteArray := (t16_1 ++ t20_1)
 Q (.tuple #[(.string t21_1), (.int .i64 0)]) h6) False))) False)) ∧
 (
 ∃ (t17f0 : ByteArray) (t17f1 t17f2 : Int), rdCells h c2 0 [(.string t17f0), (.int .i64 t17f1), (.int .i64 t17f2)] ∧
 SpecH PP F_ref16_Body [(.agg #[(.string t14f0), (.int .i64 t14f1), (.int .i64 t14f2)])] h (fun v h1 => ∃ (t15 : ByteArray), v = (.string t15) ∧
 br (decide (ByteArray.size t15 + ByteArray.size (⟨#[46]⟩ : ByteArray) ≤ 9223372036854775807)) (
 let t16 : ByteArray := (t15 ++ (⟨#[46]⟩ : ByteArray))
 SpecH PP F_ref16_Body [(.agg #[(.string t17f0), (.int .i64 t17f1), (.int .i64 t17f2)])] h1 (fun v_1 h2 => ∃ (t18 : ByteArray), v_1 = (.string t18) ∧
 SpecH PP F_ref16_Digits [(.string t18), (.string secret1)] h2 (fun v_2 h3 => ∃ (t20 : ByteArray), v_2 = (.string t20) ∧
 br (decide (ByteArray.size t16 + ByteArray.size t20 ≤ 9223372036854775807)) (
 let t21 : ByteArray := (t16 ++ t20)
 Q (.tuple #[(.string t21), (.int .i64 0)]) h3) False))) False)) ∧
 True)) : J1 secret1 c2 t13 Q h := by unfold J1; exact Jn.of_txt (an 13) (by kernel_rfl) H
theorem door {c0f0 : ByteArray} {c0f1 c0f2 : Int} {secret1 : ByteArray} {Q : VP} {h : Heap} (H :
 let c2 : Addr := ⟨Array.size h, 0, none⟩
 let h1 : Heap := Array.push h (.cells #[(.string c0f0), (.int .i64 c0f1), (.int .i64 c0f2)] T_api_Claim (0, 0))
 ∃ (t6f0 : ByteArray) (t6f1 t6f2 : Int), rdCells h1 c2 0 [(.string t6f0), (.int .i64 t6f1), (.int .i64 t6f2)] ∧
 SpecH PP F_ref16_May [(.agg #[(.string t6f0), (.int .i64 t6f1), (.int .i64 t6f2)])] h1 (fun v h2 => ∃ (t7 : Bool), v = (.bool t7) ∧
 let t8 : Bool := (!t7)
 br t8 (
 J1 secret1 c2 true Q h2) (
 let t11 : Int := (ByteArray.size secret1 : Int)
 let t12 : Bool := decide (t11 > 64)
 J1 secret1 c2 t12 Q h2))) : SpecH PP F_ref16_Print [(.agg #[(.string c0f0), (.int .i64 c0f1), (.int .i64 c0f2)]), (.string secret1)] h Q :=
   spec_of_txt (ann := ann) Tryz.func8 rfl rfl (by kernel_rfl) H
end ref16_Print
/-! ### haversack/token.Parse: function 9 -/
namespace token_Parse
def ann : Ann := (.seq 5 (.region [(List.range 3, 5)]) (.seq 5 (.seq 8197 (.region [(List.range 3, 8197)]) (.cond (.seq 28 (.region [(List.range 4, 28)]) (.exit 28)) .leaf)) (.seq 36 (.region [(List.range 3, 36)]) (.seq 36 (.seq 524324 (.region [(List.range 3, 524324)]) (.cond (.seq 28 (.region [(List.range 4, 28)]) (.exit 28)) .leaf)) (.seq 228 (.region [(List.range 9, 228)]) (.seq 996 (.region [(List.range 9, 996)]) (.seq 1700 (.region [(List.range 8, 1700)]) (.seq 1060 (.seq 36893488147419104292 (.region [(List.range 25, 36893488147419104292)]) (.join (.cond (.seq 28 (.region [(List.range 4, 28)]) (.exit 28)) .leaf))) (.seq 28 (.tree (.run [0, 1, 2] (.alt 3 (.run [4, 5, 6] .done) (.alt 4 (.run [3, 5, 6] .done) .nil))) 28) (.exit 28))))))))))
noncomputable abbrev cd (n : Nat) : Code := sub (bodyOf Tryz.f9) (pth n)
abbrev an (n : Nat) : Ann := subA ann (pth n)
@[irreducible] def K1 (Q : VP) : EP := seqK (fun fr h => ev PP true none (cd 511) (an 511) (fr.mask 1060) (bodyK PP Tryz.f9 Q) h) (bodyK PP Tryz.f9 Q)
@[irreducible] def J1 (t2 : Addr) (xl5 : OA) (xl5n xl5c : Nat) (c10 : Addr) (t65 : Bool) (Q : VP) (h : Heap) : Prop := Jn PP true (cd 1021) (mkFr 0 71 [(2, (.pointer (some t2))), (5, (.slice xl5 xl5n xl5c)), (10, (.pointer (some c10))), (65, (.bool t65))]) (K1 Q) h
theorem J1_of {t2 : Addr} {xl5 : OA} {xl5n xl5c : Nat} {c10 : Addr} {t65 : Bool} {Q : VP} {h : Heap} (H :
 br t65 (
 wrCells t2 0 [(.string (⟨#[]⟩ : ByteArray)), (.int .i64 0), (.int .i64 0)] (fun h1 =>
 ∃ (t2_1f0 : ByteArray) (t2_1f1 t2_1f2 : Int), rdCells h1 t2 0 [(.string t2_1f0), (.int .i64 t2_1f1), (.int .i64 t2_1f2)] ∧
 Q (.tuple #[(.agg #[(.string t2_1f0), (.int .i64 t2_1f1), (.int .i64 t2_1f2)]), (.string (⟨#[]⟩ : ByteArray)), (.int .i64 160)]) h1) h) (
 ∃ (t67f0 : ByteArray) (t67f1 t67f2 : Int), rdCells h c10 0 [(.string t67f0), (.int .i64 t67f1), (.int .i64 t67f2)] ∧
 hwp PP (Instr.indexAt T_sl_string (.slice xl5 xl5n xl5c) (.int .i64 3)) (fun v h2 => ∃ (t69 : Addr), v = (.pointer (some t69)) ∧
 (
 ∃ (t70_1 : ByteArray), cellH h2 t69 = some (.string t70_1) ∧
 wrCells t2 0 [(.string t67f0), (.int .i64 t67f1), (.int .i64 t67f2)] (fun h4 =>
 ∃ (t2_3f0 : ByteArray) (t2_3f1 t2_3f2 : Int), rdCells h4 t2 0 [(.string t2_3f0), (.int .i64 t2_3f1), (.int .i64 t2_3f2)] ∧
 Q (.tuple #[(.agg #[(.string t2_3f0), (.int .i64 t2_3f1), (.int .i64 t2_3f2)]), (.string t70_1), (.int .i64 0)]) h4) h2) ∧
 (
 wrCells t2 0 [(.string t67f0), (.int .i64 t67f1), (.int .i64 t67f2)] (fun h3 =>
 ∃ (t70 : ByteArray), cellH h3 t69 = some (.string t70) ∧
 ∃ (t2_2f0 : ByteArray) (t2_2f1 t2_2f2 : Int), rdCells h3 t2 0 [(.string t2_2f0), (.int .i64 t2_2f1), (.int .i64 t2_2f2)] ∧
 Q (.tuple #[(.agg #[(.string t2_2f0), (.int .i64 t2_2f1), (.int .i64 t2_2f2)]), (.string t70), (.int .i64 0)]) h3) h2) ∧
 True) h)) : J1 t2 xl5 xl5n xl5c c10 t65 Q h := by unfold J1; exact Jn.of_txt (an 1021) (by kernel_rfl) H
theorem door {text0 : ByteArray} {Q : VP} {h : Heap} (H :
 let t2 : Addr := ⟨Array.size h, 0, none⟩
 let h1 : Heap := Array.push h (.cells #[(.string (⟨#[]⟩ : ByteArray)), (.int .i64 0), (.int .i64 0)] T_api_Claim (0, 0))
 let t12 : Int := (ByteArray.size text0 : Int)
 let t13 : Bool := decide (t12 > 256)
 br t13 (
 wrCells t2 0 [(.string (⟨#[]⟩ : ByteArray)), (.int .i64 0), (.int .i64 0)] (fun h2 =>
 ∃ (t2_1f0 : ByteArray) (t2_1f1 t2_1f2 : Int), rdCells h2 t2 0 [(.string t2_1f0), (.int .i64 t2_1f1), (.int .i64 t2_1f2)] ∧
 Q (.tuple #[(.agg #[(.string t2_1f0), (.int .i64 t2_1f1), (.int .i64 t2_1f2)]), (.string (⟨#[]⟩ : ByteArray)), (.int .i64 160)]) h2) h1) (
 SpecH PP F_strings_Split [(.string text0), (.string (⟨#[46]⟩ : ByteArray))] h1 (fun v h3 => ∃ (t16 : OA) (t16n t16c : Nat), v = (.slice t16 t16n t16c) ∧
 let t19 : Bool := ((t16n : Int) != 4)
 br t19 (
 wrCells t2 0 [(.string (⟨#[]⟩ : ByteArray)), (.int .i64 0), (.int .i64 0)] (fun h4 =>
 ∃ (t2_2f0 : ByteArray) (t2_2f1 t2_2f2 : Int), rdCells h4 t2 0 [(.string t2_2f0), (.int .i64 t2_2f1), (.int .i64 t2_2f2)] ∧
 Q (.tuple #[(.agg #[(.string t2_2f0), (.int .i64 t2_2f1), (.int .i64 t2_2f2)]), (.string (⟨#[]⟩ : ByteArray)), (.int .i64 160)]) h4) h3) (
 hwp PP (Instr.indexAt T_sl_string (.slice t16 t16n t16c) (.int .i64 1)) (fun v_1 h5 => ∃ (t23 : Addr), v_1 = (.pointer (some t23)) ∧
 ∃ (t24 : ByteArray), cellH h5 t23 = some (.string t24) ∧
 SpecH PP F_token_number [(.string t24)] h5 (fun v_2 h6 => ∃ (t25 : Int) (t25_1 : Bool), v_2 = (.tuple #[(.int .i64 t25), (.bool t25_1)]) ∧
 hwp PP (Instr.indexAt T_sl_string (.slice t16 t16n t16c) (.int .i64 2)) (fun v_3 h7 => ∃ (t30 : Addr), v_3 = (.pointer (some t30)) ∧
 ∃ (t31 : ByteArray), cellH h7 t30 = some (.string t31) ∧
 SpecH PP F_token_number [(.string t31)] h7 (fun v_4 h8 => ∃ (t32 : Int) (t32_1 : Bool), v_4 = (.tuple #[(.int .i64 t32), (.bool t32_1)]) ∧
 hwp PP (Instr.indexAt T_sl_string (.slice t16 t16n t16c) (.int .i64 0)) (fun v_5 h9 => ∃ (t36 : Addr), v_5 = (.pointer (some t36)) ∧
 ∃ (t37 : ByteArray), cellH h9 t36 = some (.string t37) ∧
 let c10 : Addr := ⟨Array.size h9, 0, none⟩
 let h10 : Heap := Array.push h9 (.cells #[(.string (⟨#[]⟩ : ByteArray)), (.int .i64 0), (.int .i64 0)] T_api_Claim (0, 0))
 wrCells c10 0 [(.string t37), (.int .i64 t25), (.int .i64 t32)] (fun h11 =>
 let t42 : Bool := (!t25_1)
 br t42 (
 J1 t2 t16 t16n t16c c10 true Q h11) (
 let t45 : Bool := (!t32_1)
 br t45 (
 J1 t2 t16 t16n t16c c10 true Q h11) (
 ∃ (t48f0 : ByteArray) (t48f1 t48f2 : Int), rdCells h11 c10 0 [(.string t48f0), (.int .i64 t48f1), (.int .i64 t48f2)] ∧
 SpecH PP F_token_right [(.agg #[(.string t48f0), (.int .i64 t48f1), (.int .i64 t48f2)])] h11 (fun v_6 h12 => ∃ (t49 : Bool), v_6 = (.bool t49) ∧
 let t50 : Bool := (!t49)
 br t50 (
 J1 t2 t16 t16n t16c c10 true Q h12) (
 hwp PP (Instr.indexAt T_sl_string (.slice t16 t16n t16c) (.int .i64 3)) (fun v_7 h13 => ∃ (t54 : Addr), v_7 = (.pointer (some t54)) ∧
 ∃ (t55 : ByteArray), cellH h13 t54 = some (.string t55) ∧
 let t56 : Int := (ByteArray.size t55 : Int)
 let t57 : Bool := (t56 != 64)
 br t57 (
 J1 t2 t16 t16n t16c c10 true Q h13) (
 hwp PP (Instr.indexAt T_sl_string (.slice t16 t16n t16c) (.int .i64 3)) (fun v_8 h14 => ∃ (t61 : Addr), v_8 = (.pointer (some t61)) ∧
 ∃ (t62 : ByteArray), cellH h14 t61 = some (.string t62) ∧
 SpecH PP F_strings_Trim [(.string t62), (.string (⟨#[48, 49, 50, 51, 52, 53, 54, 55, 56, 57, 97, 98, 99, 100, 101, 102]⟩ : ByteArray))] h14 (fun v_9 h15 => ∃ (t63 : ByteArray), v_9 = (.string t63) ∧
 let t64 : Bool := (!decide (t63 = (⟨#[]⟩ : ByteArray)))
 J1 t2 t16 t16n t16c c10 t64 Q h15)) h13)) h12))))) h10) h8)) h6)) h3)))) : SpecH PP F_token_Parse [(.string text0)] h Q :=
   spec_of_txt (ann := ann) Tryz.func9 rfl rfl (by kernel_rfl) H
end token_Parse
/-! ### haversack/haversackref16.Parse: function 10 -/
namespace ref16_Parse
def ann : Ann := (.seq 5 (.region [(List.range 3, 5)]) (.seq 5 (.seq 517 (.region [(List.range 3, 517)]) (.cond (.seq 28 (.region [(List.range 4, 28)]) (.exit 28)) .leaf)) (.seq 36 (.region [(List.range 3, 36)]) (.seq 36 (.seq 32804 (.region [(List.range 3, 32804)]) (.cond (.seq 28 (.region [(List.range 4, 28)]) (.exit 28)) .leaf)) (.seq 100 (.tree (.run [0, 1, 3, 4, 5, 7, 8] (.alt 2 (.alt 6 (.run [9] (.alt 10 (.run [11, 12, 13] .done) (.alt 12 (.run [10, 11, 13] .done) .nil))) (.alt 9 (.alt 6 (.alt 10 (.run [11, 12, 13] .done) (.alt 12 (.run [10, 11, 13] .done) .nil)) (.alt 12 (.run [6, 10, 11, 13] .done) .nil)) (.alt 12 (.alt 6 (.run [9, 10, 11, 13] .done) (.alt 9 (.run [6, 10, 11, 13] .done) .nil)) .nil))) (.alt 6 (.run [9] (.alt 2 (.alt 10 (.run [11, 12, 13] .done) (.alt 12 (.run [10, 11, 13] .done) .nil)) (.alt 10 (.run [2, 11, 12, 13] .done) (.alt 12 (.alt 2 (.run [10, 11, 13] .done) (.alt 10 (.run [2, 11, 13] .done) .nil)) .nil)))) (.alt 9 (.alt 2 (.alt 6 (.alt 10 (.run [11, 12, 13] .done) (.alt 12 (.run [10, 11, 13] .done) .nil)) (.alt 12 (.run [6, 10, 11, 13] .done) .nil)) (.alt 6 (.alt 2 (.alt 10 (.run [11, 12, 13] .done) (.alt 12 (.run [10, 11, 13] .done) .nil)) (.alt 10 (.run [2, 11, 12, 13] .done) (.alt 12 (.alt 2 (.run [10, 11, 13] .done) (.alt 10 (.run [2, 11, 13] .done) .nil)) .nil))) (.alt 12 (.alt 2 (.run [6, 10, 11, 13] .done) (.alt 6 (.alt 2 (.run [10, 11, 13] .done) (.alt 10 (.run [2, 11, 13] .done) .nil)) .nil)) .nil))) (.alt 12 (.alt 2 (.alt 6 (.run [9, 10, 11, 13] .done) (.alt 9 (.run [6, 10, 11, 13] .done) .nil)) (.alt 6 (.run [9] (.alt 2 (.run [10, 11, 13] .done) (.alt 10 (.run [2, 11, 13] .done) .nil))) (.alt 9 (.alt 2 (.run [6, 10, 11, 13] .done) (.alt 6 (.alt 2 (.run [10, 11, 13] .done) (.alt 10 (.run [2, 11, 13] .done) .nil)) .nil)) .nil))) .nil))))) 100) (.join (.seq 100 (.seq 274877907044 (.region [(List.range 10, 274877907044)]) (.join (.cond (.seq 28 (.region [(List.range 4, 28)]) (.exit 28)) .leaf))) (.seq 28 (.tree (.run [0, 1, 2] (.alt 3 (.run [4, 5, 6] .done) (.alt 4 (.run [3, 5, 6] .done) .nil))) 28) (.exit 28)))))))))
noncomputable abbrev cd (n : Nat) : Code := sub (bodyOf Tryz.f10) (pth n)
abbrev an (n : Nat) : Ann := subA ann (pth n)
@[irreducible] def J1 (t2 : Addr) (p5 : OA) (p5n p5c : Nat) (c6 : Addr) (Q : VP) (h : Heap) : Prop := Jn PP true (cd 63) (mkFr 0 44 [(2, (.pointer (some t2))), (5, (.slice p5 p5n p5c)), (6, (.pointer (some c6)))]) (bodyK PP Tryz.f10 Q) h
@[irreducible] def K1 (Q : VP) : EP := seqK (fun fr h => ev PP true none (cd 127) (an 127) (fr.mask 100) (bodyK PP Tryz.f10 Q) h) (bodyK PP Tryz.f10 Q)
@[irreducible] def J2 (t2 : Addr) (p5 : OA) (p5n p5c : Nat) (c6 : Addr) (t38 : Bool) (Q : VP) (h : Heap) : Prop := Jn PP true (cd 253) (mkFr 0 44 [(2, (.pointer (some t2))), (5, (.slice p5 p5n p5c)), (6, (.pointer (some c6))), (38, (.bool t38))]) (K1 Q) h
theorem J1_of {t2 : Addr} {p5 : OA} {p5n p5c : Nat} {c6 : Addr} {Q : VP} {h : Heap} (H :
 ∃ (t29f0 : ByteArray) (t29f1 t29f2 : Int), rdCells h c6 0 [(.string t29f0), (.int .i64 t29f1), (.int .i64 t29f2)] ∧
 SpecH PP F_ref16_May [(.agg #[(.string t29f0), (.int .i64 t29f1), (.int .i64 t29f2)])] h (fun v h1 => ∃ (t30 : Bool), v = (.bool t30) ∧
 let t31 : Bool := (!t30)
 br t31 (
 J2 t2 p5 p5n p5c c6 true Q h1) (
 hwp PP (Instr.indexAt T_sl_string (.slice p5 p5n p5c) (.int .i64 3)) (fun v_1 h2 => ∃ (t34 : Addr), v_1 = (.pointer (some t34)) ∧
 ∃ (t35 : ByteArray), cellH h2 t34 = some (.string t35) ∧
 SpecH PP F_ref16_mac [(.string t35)] h2 (fun v_2 h3 => ∃ (t36 : Bool), v_2 = (.bool t36) ∧
 let t37 : Bool := (!t36)
 J2 t2 p5 p5n p5c c6 t37 Q h3)) h1))) : J1 t2 p5 p5n p5c c6 Q h := by unfold J1; exact Jn.of_txt (an 63) (by kernel_rfl) H
theorem J2_of {t2 : Addr} {p5 : OA} {p5n p5c : Nat} {c6 : Addr} {t38 : Bool} {Q : VP} {h : Heap} (H :
 br t38 (
 wrCells t2 0 [(.string (⟨#[]⟩ : ByteArray)), (.int .i64 0), (.int .i64 0)] (fun h1 =>
 ∃ (t2_1f0 : ByteArray) (t2_1f1 t2_1f2 : Int), rdCells h1 t2 0 [(.string t2_1f0), (.int .i64 t2_1f1), (.int .i64 t2_1f2)] ∧
 Q (.tuple #[(.agg #[(.string t2_1f0), (.int .i64 t2_1f1), (.int .i64 t2_1f2)]), (.string (⟨#[]⟩ : ByteArray)), (.int .i64 160)]) h1) h) (
 ∃ (t40f0 : ByteArray) (t40f1 t40f2 : Int), rdCells h c6 0 [(.string t40f0), (.int .i64 t40f1), (.int .i64 t40f2)] ∧
 hwp PP (Instr.indexAt T_sl_string (.slice p5 p5n p5c) (.int .i64 3)) (fun v h2 => ∃ (t42 : Addr), v = (.pointer (some t42)) ∧
 (
 ∃ (t43_1 : ByteArray), cellH h2 t42 = some (.string t43_1) ∧
 wrCells t2 0 [(.string t40f0), (.int .i64 t40f1), (.int .i64 t40f2)] (fun h4 =>
 ∃ (t2_3f0 : ByteArray) (t2_3f1 t2_3f2 : Int), rdCells h4 t2 0 [(.string t2_3f0), (.int .i64 t2_3f1), (.int .i64 t2_3f2)] ∧
 Q (.tuple #[(.agg #[(.string t2_3f0), (.int .i64 t2_3f1), (.int .i64 t2_3f2)]), (.string t43_1), (.int .i64 0)]) h4) h2) ∧
 (
 wrCells t2 0 [(.string t40f0), (.int .i64 t40f1), (.int .i64 t40f2)] (fun h3 =>
 ∃ (t43 : ByteArray), cellH h3 t42 = some (.string t43) ∧
 ∃ (t2_2f0 : ByteArray) (t2_2f1 t2_2f2 : Int), rdCells h3 t2 0 [(.string t2_2f0), (.int .i64 t2_2f1), (.int .i64 t2_2f2)] ∧
 Q (.tuple #[(.agg #[(.string t2_2f0), (.int .i64 t2_2f1), (.int .i64 t2_2f2)]), (.string t43), (.int .i64 0)]) h3) h2) ∧
 True) h)) : J2 t2 p5 p5n p5c c6 t38 Q h := by unfold J2; exact Jn.of_txt (an 253) (by kernel_rfl) H
theorem door {text0 : ByteArray} {Q : VP} {h : Heap} (H :
 let t2 : Addr := ⟨Array.size h, 0, none⟩
 let h1 : Heap := Array.push h (.cells #[(.string (⟨#[]⟩ : ByteArray)), (.int .i64 0), (.int .i64 0)] T_api_Claim (0, 0))
 let t8 : Int := (ByteArray.size text0 : Int)
 let t9 : Bool := decide (t8 > 256)
 br t9 (
 wrCells t2 0 [(.string (⟨#[]⟩ : ByteArray)), (.int .i64 0), (.int .i64 0)] (fun h2 =>
 ∃ (t2_1f0 : ByteArray) (t2_1f1 t2_1f2 : Int), rdCells h2 t2 0 [(.string t2_1f0), (.int .i64 t2_1f1), (.int .i64 t2_1f2)] ∧
 Q (.tuple #[(.agg #[(.string t2_1f0), (.int .i64 t2_1f1), (.int .i64 t2_1f2)]), (.string (⟨#[]⟩ : ByteArray)), (.int .i64 160)]) h2) h1) (
 SpecH PP F_ref16_parts [(.string text0)] h1 (fun v h3 => ∃ (t12 : OA) (t12n t12c : Nat), v = (.slice t12 t12n t12c) ∧
 let t15 : Bool := ((t12n : Int) != 4)
 br t15 (
 wrCells t2 0 [(.string (⟨#[]⟩ : ByteArray)), (.int .i64 0), (.int .i64 0)] (fun h4 =>
 ∃ (t2_2f0 : ByteArray) (t2_2f1 t2_2f2 : Int), rdCells h4 t2 0 [(.string t2_2f0), (.int .i64 t2_2f1), (.int .i64 t2_2f2)] ∧
 Q (.tuple #[(.agg #[(.string t2_2f0), (.int .i64 t2_2f1), (.int .i64 t2_2f2)]), (.string (⟨#[]⟩ : ByteArray)), (.int .i64 160)]) h4) h3) (
 hwp PP (Instr.indexAt T_sl_string (.slice t12 t12n t12c) (.int .i64 0)) (fun v_1 h5 => ∃ (t18 : Addr), v_1 = (.pointer (some t18)) ∧
 hwp PP (Instr.indexAt T_sl_string (.slice t12 t12n t12c) (.int .i64 1)) (fun v_2 h6 => ∃ (t21 : Addr), v_2 = (.pointer (some t21)) ∧
 ∃ (t22 : ByteArray), cellH h6 t21 = some (.string t22) ∧
 hwp PP (Instr.indexAt T_sl_string (.slice t12 t12n t12c) (.int .i64 2)) (fun v_3 h7 => ∃ (t25 : Addr), v_3 = (.pointer (some t25)) ∧
 (
 ∃ (t19_18 : ByteArray), cellH h7 t18 = some (.string t19_18) ∧
 (
 SpecH PP F_ref16_value [(.string t22)] h7 (fun v_47 h96 => ∃ (t23_15 : Int), v_47 = (.int .i64 t23_15) ∧
 ∃ (t26_9 : ByteArray), cellH h96 t25 = some (.string t26_9) ∧
 (
 SpecH PP F_ref16_value [(.string t26_9)] h96 (fun v_49 h100 => ∃ (t27_29 : Int), v_49 = (.int .i64 t27_29) ∧
 let c6_18 : Addr := ⟨Array.size h100, 0, none⟩
 let h101 : Heap := Array.push h100 (.cells #[(.string (⟨#[]⟩ : ByteArray)), (.int .i64 0), (.int .i64 0)] T_api_Claim (0, 0))
 wrCells c6_18 0 [(.string t19_18), (.int .i64 t23_15), (.int .i64 t27_29)] (fun h102 =>
 J1 t2 t12 t12n t12c c6_18 Q h102) h101)) ∧
 (
 let c6_17 : Addr := ⟨Array.size h96, 0, none⟩
 let h97 : Heap := Array.push h96 (.cells #[(.string (⟨#[]⟩ : ByteArray)), (.int .i64 0), (.int .i64 0)] T_api_Claim (0, 0))
 SpecH PP F_ref16_value [(.string t26_9)] h97 (fun v_48 h98 => ∃ (t27_28 : Int), v_48 = (.int .i64 t27_28) ∧
 wrCells c6_17 0 [(.string t19_18), (.int .i64 t23_15), (.int .i64 t27_28)] (fun h99 =>
 J1 t2 t12 t12n t12c c6_17 Q h99) h98)) ∧
 True)) ∧
 (
 ∃ (t26_8 : ByteArray), cellH h7 t25 = some (.string t26_8) ∧
 (
 SpecH PP F_ref16_value [(.string t22)] h7 (fun v_44 h89 => ∃ (t23_14 : Int), v_44 = (.int .i64 t23_14) ∧
 (
 SpecH PP F_ref16_value [(.string t26_8)] h89 (fun v_46 h93 => ∃ (t27_27 : Int), v_46 = (.int .i64 t27_27) ∧
 let c6_16 : Addr := ⟨Array.size h93, 0, none⟩
 let h94 : Heap := Array.push h93 (.cells #[(.string (⟨#[]⟩ : ByteArray)), (.int .i64 0), (.int .i64 0)] T_api_Claim (0, 0))
 wrCells c6_16 0 [(.string t19_18), (.int .i64 t23_14), (.int .i64 t27_27)] (fun h95 =>
 J1 t2 t12 t12n t12c c6_16 Q h95) h94)) ∧
 (
 let c6_15 : Addr := ⟨Array.size h89, 0, none⟩
 let h90 : Heap := Array.push h89 (.cells #[(.string (⟨#[]⟩ : ByteArray)), (.int .i64 0), (.int .i64 0)] T_api_Claim (0, 0))
 SpecH PP F_ref16_value [(.string t26_8)] h90 (fun v_45 h91 => ∃ (t27_26 : Int), v_45 = (.int .i64 t27_26) ∧
 wrCells c6_15 0 [(.string t19_18), (.int .i64 t23_14), (.int .i64 t27_26)] (fun h92 =>
 J1 t2 t12 t12n t12c c6_15 Q h92) h91)) ∧
 True)) ∧
 (
 let c6_14 : Addr := ⟨Array.size h7, 0, none⟩
 let h85 : Heap := Array.push h7 (.cells #[(.string (⟨#[]⟩ : ByteArray)), (.int .i64 0), (.int .i64 0)] T_api_Claim (0, 0))
 SpecH PP F_ref16_value [(.string t22)] h85 (fun v_42 h86 => ∃ (t23_13 : Int), v_42 = (.int .i64 t23_13) ∧
 SpecH PP F_ref16_value [(.string t26_8)] h86 (fun v_43 h87 => ∃ (t27_25 : Int), v_43 = (.int .i64 t27_25) ∧
 wrCells c6_14 0 [(.string t19_18), (.int .i64 t23_13), (.int .i64 t27_25)] (fun h88 =>
 J1 t2 t12 t12n t12c c6_14 Q h88) h87))) ∧
 True) ∧
 (
 let c6_13 : Addr := ⟨Array.size h7, 0, none⟩
 let h78 : Heap := Array.push h7 (.cells #[(.string (⟨#[]⟩ : ByteArray)), (.int .i64 0), (.int .i64 0)] T_api_Claim (0, 0))
 (
 SpecH PP F_ref16_value [(.string t22)] h78 (fun v_40 h82 => ∃ (t23_12 : Int), v_40 = (.int .i64 t23_12) ∧
 ∃ (t26_7 : ByteArray), cellH h82 t25 = some (.string t26_7) ∧
 SpecH PP F_ref16_value [(.string t26_7)] h82 (fun v_41 h83 => ∃ (t27_24 : Int), v_41 = (.int .i64 t27_24) ∧
 wrCells c6_13 0 [(.string t19_18), (.int .i64 t23_12), (.int .i64 t27_24)] (fun h84 =>
 J1 t2 t12 t12n t12c c6_13 Q h84) h83))) ∧
 (
 ∃ (t26_6 : ByteArray), cellH h78 t25 = some (.string t26_6) ∧
 SpecH PP F_ref16_value [(.string t22)] h78 (fun v_38 h79 => ∃ (t23_11 : Int), v_38 = (.int .i64 t23_11) ∧
 SpecH PP F_ref16_value [(.string t26_6)] h79 (fun v_39 h80 => ∃ (t27_23 : Int), v_39 = (.int .i64 t27_23) ∧
 wrCells c6_13 0 [(.string t19_18), (.int .i64 t23_11), (.int .i64 t27_23)] (fun h81 =>
 J1 t2 t12 t12n t12c c6_13 Q h81) h80))) ∧
 True) ∧
 True) ∧
 (
 SpecH PP F_ref16_value [(.string t22)] h7 (fun v_32 h63 => ∃ (t23_10 : Int), v_32 = (.int .i64 t23_10) ∧
 ∃ (t26_5 : ByteArray), cellH h63 t25 = some (.string t26_5) ∧
 (
 ∃ (t19_17 : ByteArray), cellH h63 t18 = some (.string t19_17) ∧
 (
 SpecH PP F_ref16_value [(.string t26_5)] h63 (fun v_37 h75 => ∃ (t27_22 : Int), v_37 = (.int .i64 t27_22) ∧
 let c6_12 : Addr := ⟨Array.size h75, 0, none⟩
 let h76 : Heap := Array.push h75 (.cells #[(.string (⟨#[]⟩ : ByteArray)), (.int .i64 0), (.int .i64 0)] T_api_Claim (0, 0))
 wrCells c6_12 0 [(.string t19_17), (.int .i64 t23_10), (.int .i64 t27_22)] (fun h77 =>
 J1 t2 t12 t12n t12c c6_12 Q h77) h76)) ∧
 (
 let c6_11 : Addr := ⟨Array.size h63, 0, none⟩
 let h72 : Heap := Array.push h63 (.cells #[(.string (⟨#[]⟩ : ByteArray)), (.int .i64 0), (.int .i64 0)] T_api_Claim (0, 0))
 SpecH PP F_ref16_value [(.string t26_5)] h72 (fun v_36 h73 => ∃ (t27_21 : Int), v_36 = (.int .i64 t27_21) ∧
 wrCells c6_11 0 [(.string t19_17), (.int .i64 t23_10), (.int .i64 t27_21)] (fun h74 =>
 J1 t2 t12 t12n t12c c6_11 Q h74) h73)) ∧
 True) ∧
 (
 SpecH PP F_ref16_value [(.string t26_5)] h63 (fun v_35 h69 => ∃ (t27_20 : Int), v_35 = (.int .i64 t27_20) ∧
 ∃ (t19_16 : ByteArray), cellH h69 t18 = some (.string t19_16) ∧
 let c6_10 : Addr := ⟨Array.size h69, 0, none⟩
 let h70 : Heap := Array.push h69 (.cells #[(.string (⟨#[]⟩ : ByteArray)), (.int .i64 0), (.int .i64 0)] T_api_Claim (0, 0))
 wrCells c6_10 0 [(.string t19_16), (.int .i64 t23_10), (.int .i64 t27_20)] (fun h71 =>
 J1 t2 t12 t12n t12c c6_10 Q h71) h70)) ∧
 (
 let c6_9 : Addr := ⟨Array.size h63, 0, none⟩
 let h64 : Heap := Array.push h63 (.cells #[(.string (⟨#[]⟩ : ByteArray)), (.int .i64 0), (.int .i64 0)] T_api_Claim (0, 0))
 (
 ∃ (t19_15 : ByteArray), cellH h64 t18 = some (.string t19_15) ∧
 SpecH PP F_ref16_value [(.string t26_5)] h64 (fun v_34 h67 => ∃ (t27_19 : Int), v_34 = (.int .i64 t27_19) ∧
 wrCells c6_9 0 [(.string t19_15), (.int .i64 t23_10), (.int .i64 t27_19)] (fun h68 =>
 J1 t2 t12 t12n t12c c6_9 Q h68) h67)) ∧
 (
 SpecH PP F_ref16_value [(.string t26_5)] h64 (fun v_33 h65 => ∃ (t27_18 : Int), v_33 = (.int .i64 t27_18) ∧
 ∃ (t19_14 : ByteArray), cellH h65 t18 = some (.string t19_14) ∧
 wrCells c6_9 0 [(.string t19_14), (.int .i64 t23_10), (.int .i64 t27_18)] (fun h66 =>
 J1 t2 t12 t12n t12c c6_9 Q h66) h65)) ∧
 True) ∧
 True)) ∧
 (
 ∃ (t26_4 : ByteArray), cellH h7 t25 = some (.string t26_4) ∧
 (
 ∃ (t19_13 : ByteArray), cellH h7 t18 = some (.string t19_13) ∧
 (
 SpecH PP F_ref16_value [(.string t22)] h7 (fun v_29 h56 => ∃ (t23_9 : Int), v_29 = (.int .i64 t23_9) ∧
 (
 SpecH PP F_ref16_value [(.string t26_4)] h56 (fun v_31 h60 => ∃ (t27_17 : Int), v_31 = (.int .i64 t27_17) ∧
 let c6_8 : Addr := ⟨Array.size h60, 0, none⟩
 let h61 : Heap := Array.push h60 (.cells #[(.string (⟨#[]⟩ : ByteArray)), (.int .i64 0), (.int .i64 0)] T_api_Claim (0, 0))
 wrCells c6_8 0 [(.string t19_13), (.int .i64 t23_9), (.int .i64 t27_17)] (fun h62 =>
 J1 t2 t12 t12n t12c c6_8 Q h62) h61)) ∧
 (
 let c6_7 : Addr := ⟨Array.size h56, 0, none⟩
 let h57 : Heap := Array.push h56 (.cells #[(.string (⟨#[]⟩ : ByteArray)), (.int .i64 0), (.int .i64 0)] T_api_Claim (0, 0))
 SpecH PP F_ref16_value [(.string t26_4)] h57 (fun v_30 h58 => ∃ (t27_16 : Int), v_30 = (.int .i64 t27_16) ∧
 wrCells c6_7 0 [(.string t19_13), (.int .i64 t23_9), (.int .i64 t27_16)] (fun h59 =>
 J1 t2 t12 t12n t12c c6_7 Q h59) h58)) ∧
 True)) ∧
 (
 let c6_6 : Addr := ⟨Array.size h7, 0, none⟩
 let h52 : Heap := Array.push h7 (.cells #[(.string (⟨#[]⟩ : ByteArray)), (.int .i64 0), (.int .i64 0)] T_api_Claim (0, 0))
 SpecH PP F_ref16_value [(.string t22)] h52 (fun v_27 h53 => ∃ (t23_8 : Int), v_27 = (.int .i64 t23_8) ∧
 SpecH PP F_ref16_value [(.string t26_4)] h53 (fun v_28 h54 => ∃ (t27_15 : Int), v_28 = (.int .i64 t27_15) ∧
 wrCells c6_6 0 [(.string t19_13), (.int .i64 t23_8), (.int .i64 t27_15)] (fun h55 =>
 J1 t2 t12 t12n t12c c6_6 Q h55) h54))) ∧
 True) ∧
 (
 SpecH PP F_ref16_value [(.string t22)] h7 (fun v_21 h37 => ∃ (t23_7 : Int), v_21 = (.int .i64 t23_7) ∧
 (
 ∃ (t19_12 : ByteArray), cellH h37 t18 = some (.string t19_12) ∧
 (
 SpecH PP F_ref16_value [(.string t26_4)] h37 (fun v_26 h49 => ∃ (t27_14 : Int), v_26 = (.int .i64 t27_14) ∧
 let c6_5 : Addr := ⟨Array.size h49, 0, none⟩
 let h50 : Heap := Array.push h49 (.cells #[(.string (⟨#[]⟩ : ByteArray)), (.int .i64 0), (.int .i64 0)] T_api_Claim (0, 0))
 wrCells c6_5 0 [(.string t19_12), (.int .i64 t23_7), (.int .i64 t27_14)] (fun h51 =>
 J1 t2 t12 t12n t12c c6_5 Q h51) h50)) ∧
 (
 let c6_4 : Addr := ⟨Array.size h37, 0, none⟩
 let h46 : Heap := Array.push h37 (.cells #[(.string (⟨#[]⟩ : ByteArray)), (.int .i64 0), (.int .i64 0)] T_api_Claim (0, 0))
 SpecH PP F_ref16_value [(.string t26_4)] h46 (fun v_25 h47 => ∃ (t27_13 : Int), v_25 = (.int .i64 t27_13) ∧
 wrCells c6_4 0 [(.string t19_12), (.int .i64 t23_7), (.int .i64 t27_13)] (fun h48 =>
 J1 t2 t12 t12n t12c c6_4 Q h48) h47)) ∧
 True) ∧
 (
 SpecH PP F_ref16_value [(.string t26_4)] h37 (fun v_24 h43 => ∃ (t27_12 : Int), v_24 = (.int .i64 t27_12) ∧
 ∃ (t19_11 : ByteArray), cellH h43 t18 = some (.string t19_11) ∧
 let c6_3 : Addr := ⟨Array.size h43, 0, none⟩
 let h44 : Heap := Array.push h43 (.cells #[(.string (⟨#[]⟩ : ByteArray)), (.int .i64 0), (.int .i64 0)] T_api_Claim (0, 0))
 wrCells c6_3 0 [(.string t19_11), (.int .i64 t23_7), (.int .i64 t27_12)] (fun h45 =>
 J1 t2 t12 t12n t12c c6_3 Q h45) h44)) ∧
 (
 let c6_2 : Addr := ⟨Array.size h37, 0, none⟩
 let h38 : Heap := Array.push h37 (.cells #[(.string (⟨#[]⟩ : ByteArray)), (.int .i64 0), (.int .i64 0)] T_api_Claim (0, 0))
 (
 ∃ (t19_10 : ByteArray), cellH h38 t18 = some (.string t19_10) ∧
 SpecH PP F_ref16_value [(.string t26_4)] h38 (fun v_23 h41 => ∃ (t27_11 : Int), v_23 = (.int .i64 t27_11) ∧
 wrCells c6_2 0 [(.string t19_10), (.int .i64 t23_7), (.int .i64 t27_11)] (fun h42 =>
 J1 t2 t12 t12n t12c c6_2 Q h42) h41)) ∧
 (
 SpecH PP F_ref16_value [(.string t26_4)] h38 (fun v_22 h39 => ∃ (t27_10 : Int), v_22 = (.int .i64 t27_10) ∧
 ∃ (t19_9 : ByteArray), cellH h39 t18 = some (.string t19_9) ∧
 wrCells c6_2 0 [(.string t19_9), (.int .i64 t23_7), (.int .i64 t27_10)] (fun h40 =>
 J1 t2 t12 t12n t12c c6_2 Q h40) h39)) ∧
 True) ∧
 True)) ∧
 (
 let c6_1 : Addr := ⟨Array.size h7, 0, none⟩
 let h28 : Heap := Array.push h7 (.cells #[(.string (⟨#[]⟩ : ByteArray)), (.int .i64 0), (.int .i64 0)] T_api_Claim (0, 0))
 (
 ∃ (t19_8 : ByteArray), cellH h28 t18 = some (.string t19_8) ∧
 SpecH PP F_ref16_value [(.string t22)] h28 (fun v_19 h34 => ∃ (t23_6 : Int), v_19 = (.int .i64 t23_6) ∧
 SpecH PP F_ref16_value [(.string t26_4)] h34 (fun v_20 h35 => ∃ (t27_9 : Int), v_20 = (.int .i64 t27_9) ∧
 wrCells c6_1 0 [(.string t19_8), (.int .i64 t23_6), (.int .i64 t27_9)] (fun h36 =>
 J1 t2 t12 t12n t12c c6_1 Q h36) h35))) ∧
 (
 SpecH PP F_ref16_value [(.string t22)] h28 (fun v_16 h29 => ∃ (t23_5 : Int), v_16 = (.int .i64 t23_5) ∧
 (
 ∃ (t19_7 : ByteArray), cellH h29 t18 = some (.string t19_7) ∧
 SpecH PP F_ref16_value [(.string t26_4)] h29 (fun v_18 h32 => ∃ (t27_8 : Int), v_18 = (.int .i64 t27_8) ∧
 wrCells c6_1 0 [(.string t19_7), (.int .i64 t23_5), (.int .i64 t27_8)] (fun h33 =>
 J1 t2 t12 t12n t12c c6_1 Q h33) h32)) ∧
 (
 SpecH PP F_ref16_value [(.string t26_4)] h29 (fun v_17 h30 => ∃ (t27_7 : Int), v_17 = (.int .i64 t27_7) ∧
 ∃ (t19_6 : ByteArray), cellH h30 t18 = some (.string t19_6) ∧
 wrCells c6_1 0 [(.string t19_6), (.int .i64 t23_5), (.int .i64 t27_7)] (fun h31 =>
 J1 t2 t12 t12n t12c c6_1 Q h31) h30)) ∧
 True)) ∧
 True) ∧
 True) ∧
 (
 let c6 : Addr := ⟨Array.size h7, 0, none⟩
 let h8 : Heap := Array.push h7 (.cells #[(.string (⟨#[]⟩ : ByteArray)), (.int .i64 0), (.int .i64 0)] T_api_Claim (0, 0))
 (
 ∃ (t19_5 : ByteArray), cellH h8 t18 = some (.string t19_5) ∧
 (
 SpecH PP F_ref16_value [(.string t22)] h8 (fun v_14 h25 => ∃ (t23_4 : Int), v_14 = (.int .i64 t23_4) ∧
 ∃ (t26_3 : ByteArray), cellH h25 t25 = some (.string t26_3) ∧
 SpecH PP F_ref16_value [(.string t26_3)] h25 (fun v_15 h26 => ∃ (t27_6 : Int), v_15 = (.int .i64 t27_6) ∧
 wrCells c6 0 [(.string t19_5), (.int .i64 t23_4), (.int .i64 t27_6)] (fun h27 =>
 J1 t2 t12 t12n t12c c6 Q h27) h26))) ∧
 (
 ∃ (t26_2 : ByteArray), cellH h8 t25 = some (.string t26_2) ∧
 SpecH PP F_ref16_value [(.string t22)] h8 (fun v_12 h22 => ∃ (t23_3 : Int), v_12 = (.int .i64 t23_3) ∧
 SpecH PP F_ref16_value [(.string t26_2)] h22 (fun v_13 h23 => ∃ (t27_5 : Int), v_13 = (.int .i64 t27_5) ∧
 wrCells c6 0 [(.string t19_5), (.int .i64 t23_3), (.int .i64 t27_5)] (fun h24 =>
 J1 t2 t12 t12n t12c c6 Q h24) h23))) ∧
 True) ∧
 (
 SpecH PP F_ref16_value [(.string t22)] h8 (fun v_9 h17 => ∃ (t23_2 : Int), v_9 = (.int .i64 t23_2) ∧
 ∃ (t26_1 : ByteArray), cellH h17 t25 = some (.string t26_1) ∧
 (
 ∃ (t19_4 : ByteArray), cellH h17 t18 = some (.string t19_4) ∧
 SpecH PP F_ref16_value [(.string t26_1)] h17 (fun v_11 h20 => ∃ (t27_4 : Int), v_11 = (.int .i64 t27_4) ∧
 wrCells c6 0 [(.string t19_4), (.int .i64 t23_2), (.int .i64 t27_4)] (fun h21 =>
 J1 t2 t12 t12n t12c c6 Q h21) h20)) ∧
 (
 SpecH PP F_ref16_value [(.string t26_1)] h17 (fun v_10 h18 => ∃ (t27_3 : Int), v_10 = (.int .i64 t27_3) ∧
 ∃ (t19_3 : ByteArray), cellH h18 t18 = some (.string t19_3) ∧
 wrCells c6 0 [(.string t19_3), (.int .i64 t23_2), (.int .i64 t27_3)] (fun h19 =>
 J1 t2 t12 t12n t12c c6 Q h19) h18)) ∧
 True)) ∧
 (
 ∃ (t26 : ByteArray), cellH h8 t25 = some (.string t26) ∧
 (
 ∃ (t19_2 : ByteArray), cellH h8 t18 = some (.string t19_2) ∧
 SpecH PP F_ref16_value [(.string t22)] h8 (fun v_7 h14 => ∃ (t23_1 : Int), v_7 = (.int .i64 t23_1) ∧
 SpecH PP F_ref16_value [(.string t26)] h14 (fun v_8 h15 => ∃ (t27_2 : Int), v_8 = (.int .i64 t27_2) ∧
 wrCells c6 0 [(.string t19_2), (.int .i64 t23_1), (.int .i64 t27_2)] (fun h16 =>
 J1 t2 t12 t12n t12c c6 Q h16) h15))) ∧
 (
 SpecH PP F_ref16_value [(.string t22)] h8 (fun v_4 h9 => ∃ (t23 : Int), v_4 = (.int .i64 t23) ∧
 (
 ∃ (t19_1 : ByteArray), cellH h9 t18 = some (.string t19_1) ∧
 SpecH PP F_ref16_value [(.string t26)] h9 (fun v_6 h12 => ∃ (t27_1 : Int), v_6 = (.int .i64 t27_1) ∧
 wrCells c6 0 [(.string t19_1), (.int .i64 t23), (.int .i64 t27_1)] (fun h13 =>
 J1 t2 t12 t12n t12c c6 Q h13) h12)) ∧
 (
 SpecH PP F_ref16_value [(.string t26)] h9 (fun v_5 h10 => ∃ (t27 : Int), v_5 = (.int .i64 t27) ∧
 ∃ (t19 : ByteArray), cellH h10 t18 = some (.string t19) ∧
 wrCells c6 0 [(.string t19), (.int .i64 t23), (.int .i64 t27)] (fun h11 =>
 J1 t2 t12 t12n t12c c6 Q h11) h10)) ∧
 True)) ∧
 True) ∧
 True) ∧
 True) h6) h5) h3)))) : SpecH PP F_ref16_Parse [(.string text0)] h Q :=
   spec_of_txt (ann := ann) Tryz.func10 rfl rfl (by kernel_rfl) H
end ref16_Parse
/-! ### haversack/haversacklaw16.light: function 11 -/
namespace law16_light
def ann : Ann := (.seq 1 (.region [(List.range 1, 1)]) (.seq 1 (.seq 65 (.region [(List.range 3, 65)]) (.cond (.seq 4 (.region [(List.range 1, 4)]) (.exit 4)) .leaf)) (.seq 0 (.seq 9 (.region [(List.range 1, 9)]) (.block (.loop 9 (.seq 9 (.seq 1033 (.region [(List.range 4, 1033)]) (.cond .leaf (.exit 0))) (.seq 9 (.block (.seq 268435465 (.region [(List.range 16, 268435465)]) (.join (.cond (.seq 4 (.region [(List.range 1, 4)]) (.exit 4)) .leaf)))) (.region [(List.range 3, 9)])))))) (.seq 4 (.region [(List.range 1, 4)]) (.exit 4)))))
noncomputable abbrev cd (n : Nat) : Code := sub (bodyOf Tryz.f11) (pth n)
abbrev an (n : Nat) : Ann := subA ann (pth n)
@[irreducible] def X0  : Fr := (mkFr 0 29 [])
@[irreducible] def Xret (t2 : Bool) : Fr := (mkFr 0 29 [(2, (.bool t2))])
@[irreducible] def L1 (xl0 : OA) (xl0n xl0c : Nat) (i3 : Int) (K : EP) (h : Heap) : Prop := Lp PP true (cd 116) (mkFr 0 29 [(0, (.slice xl0 xl0n xl0c)), (3, (.int .i64 i3))]) K h
@[irreducible] def B1 (K : EP) : EP := seqK (fun fr h => Lp PP true (cd 116) (fr.mask 9) K h) K
@[irreducible] def K4 (K : EP) : EP := seqK (fun fr h => ev PP true none (cd 467) (an 467) (fr.mask 9) (B1 K) h) (B1 K)
@[irreducible] def K2 (K : EP) : EP := blockK 1 (K4 K)
@[irreducible] def J1 (xl0 : OA) (xl0n xl0c : Nat) (i3 : Int) (t28 : Bool) (K : EP) (h : Heap) : Prop := Jn PP true (cd 1865) (mkFr 0 29 [(0, (.slice xl0 xl0n xl0c)), (3, (.int .i64 i3)), (28, (.bool t28))]) (K2 K) h
@[irreducible] def K3 (Q : VP) : EP := seqK (fun fr h => ev PP true none (cd 15) (an 15) (fr.mask 0) (bodyK PP Tryz.f11 Q) h) (bodyK PP Tryz.f11 Q)
@[irreducible] def K1 (Q : VP) : EP := blockK 0 (K3 Q)
theorem L1_of {xl0 : OA} {xl0n xl0c : Nat} {i3 : Int} {K : EP} {h : Heap} (H :
 let t10 : Bool := decide (i3 < (xl0n : Int))
 br t10 (
 hwp PP (Instr.indexAt T_sl_api_Tenant (.slice xl0 xl0n xl0c) (.int .i64 i3)) (fun v h1 => ∃ (t15 : Addr), v = (.pointer (some t15)) ∧
 ∃ (t17 : ByteArray), cellH h1 t15 = some (.string t17) ∧
 let t18 : Int := (ByteArray.size t17 : Int)
 let t19 : Bool := decide (t18 > 1048576)
 br t19 (
 J1 xl0 xl0n xl0c i3 true K h1) (
 hwp PP (Instr.indexAt T_sl_api_Tenant (.slice xl0 xl0n xl0c) (.int .i64 i3)) (fun v_1 h2 => ∃ (t23 : Addr), v_1 = (.pointer (some t23)) ∧
 ∃ (t25 : ByteArray), cellH h2 (Addr.add t23 1) = some (.string t25) ∧
 let t26 : Int := (ByteArray.size t25 : Int)
 let t27 : Bool := decide (t26 > 1048576)
 J1 xl0 xl0n xl0c i3 t27 K h2) h1)) h) (
 K (.exit 0) (X0) h)) : L1 xl0 xl0n xl0c i3 K h := by unfold L1; exact Lp.of_txt (an 116) 9 (by kernel_rfl) H
theorem L1_X0 {Q : VP}  {h : Heap} (H :
 Q (.bool true) h) : (K1 Q) (.exit 0) (X0 ) h := of_eq_txt (by kernel_rfl) H
theorem J1_of {xl0 : OA} {xl0n xl0c : Nat} {i3 : Int} {t28 : Bool} {K : EP} {h : Heap} (H :
 br t28 (
 K .ret (Xret false) h) (
 let t12 : Int := IntKind.i64.wrap (i3 + 1)
 L1 xl0 xl0n xl0c t12 K h)) : J1 xl0 xl0n xl0c i3 t28 K h := by unfold J1; exact Jn.of_txt (an 1865) (by kernel_rfl) H
theorem L1_Xret {Q : VP} {t2 : Bool} {h : Heap} (H :
 Q (.bool t2) h) : (K1 Q) .ret (Xret t2) h := of_eq_txt (by kernel_rfl) H
theorem door {xl0 : OA} {xl0n xl0c : Nat} {Q : VP} {h : Heap} (H :
 let t6 : Bool := decide ((xl0n : Int) > 1000)
 br t6 (
 Q (.bool false) h) (
 L1 xl0 xl0n xl0c 0 (K1 Q) h)) : SpecH PP F_law16_light [(.slice xl0 xl0n xl0c)] h Q :=
   spec_of_txt (ann := ann) Tryz.func11 rfl rfl (by kernel_rfl) H
end law16_light
/-! ### haversack/token.New: function 12 -/
namespace token_New
def ann : Ann := (.seq 1 (.region [(List.range 2, 1)]) (.seq 1 (.seq 2049 (.region [(List.range 3, 2049)]) (.cond (.seq 12 (.region [(List.range 2, 12)]) (.exit 12)) .leaf)) (.seq 17 (.region [(List.range 5, 17)]) (.seq 16 (.seq 458768 (.region [(List.range 3, 458768)]) (.block (.loop 458768 (.seq 983056 (.region [(List.range 1, 983056)]) (.seq 458768 (.cond .leaf (.exit 16)) (.seq 458768 (.block (.seq 458832 (.region [(List.range 4, 458832)]) (.seq 459088 (.region [(List.range 12, 459088)]) (.seq 458832 (.seq 1152921504607305808 (.region [(List.range 29, 1152921504607305808)]) (.join (.cond (.seq 12 (.region [(List.range 2, 12)]) (.exit 12)) .leaf))) (.region [(List.range 9, 458768)]))))) (.region [(List.range 2, 458768)]))))))) (.seq 12 (.region [(List.range 3, 12)]) (.exit 12))))))
noncomputable abbrev cd (n : Nat) : Code := sub (bodyOf Tryz.f12) (pth n)
abbrev an (n : Nat) : Ann := subA ann (pth n)
@[irreducible] def X0 (b4 : Addr) : Fr := (mkFr 0 71 [(4, (.pointer (some b4)))])
@[irreducible] def Xret (t2 : OA) (t3 : Int) : Fr := (mkFr 0 71 [(2, (.pointer t2)), (3, (.int .i64 t3))])
@[irreducible] def L1 (b4 : Addr) (t16 : OA) (t16n t16c : Nat) (t17 t18 : Int) (K : EP) (h : Heap) : Prop := Lp PP true (cd 244) (mkFr 0 71 [(4, (.pointer (some b4))), (16, (.slice t16 t16n t16c)), (17, (.int .i64 t17)), (18, (.int .i64 t18))]) K h
@[irreducible] def B1 (K : EP) : EP := seqK (fun fr h => Lp PP true (cd 244) (fr.mask 458768) K h) K
@[irreducible] def K5 (K : EP) : EP := seqK (fun fr h => ev PP true none (cd 1959) (an 1959) (fr.mask 458768) (B1 K) h) (B1 K)
@[irreducible] def K4 (K : EP) : EP := blockK 1 (K5 K)
@[irreducible] def K2 (K : EP) : EP := seqK (fun fr h => ev PP true none (cd 31335) (an 31335) (fr.mask 458832) (K4 K) h) (K4 K)
@[irreducible] def J1 (b4 t6 : Addr) (t16 : OA) (t16n t16c : Nat) (t17 t18 : Int) (t60 : Bool) (K : EP) (h : Heap) : Prop := Jn PP true (cd 62669) (mkFr 0 71 [(4, (.pointer (some b4))), (6, (.pointer (some t6))), (16, (.slice t16 t16n t16c)), (17, (.int .i64 t17)), (18, (.int .i64 t18)), (60, (.bool t60))]) (K2 K) h
@[irreducible] def K3 (Q : VP) : EP := seqK (fun fr h => ev PP true none (cd 31) (an 31) (fr.mask 16) (bodyK PP Tryz.f12 Q) h) (bodyK PP Tryz.f12 Q)
@[irreducible] def K1 (Q : VP) : EP := blockK 0 (K3 Q)
theorem L1_of {b4 : Addr} {t16 : OA} {t16n t16c : Nat} {t17 t18 : Int} {K : EP} {h : Heap} (H :
 let t19 : Bool := decide (t18 < t17)
 br t19 (
 hwp PP (Instr.indexAt T_sl_api_Tenant (.slice t16 t16n t16c) (.int .i64 t18)) (fun v h1 => ∃ (t20 : Addr), v = (.pointer (some t20)) ∧
 ∃ (t21f0 t21f1 : ByteArray) (t21f2 t21f3 : Int), rdCells h1 t20 0 [(.string t21f0), (.string t21f1), (.int .i64 t21f2), (.int .i64 t21f3)] ∧
 let t6 : Addr := ⟨Array.size h1, 0, none⟩
 let h2 : Heap := Array.push h1 (.cells #[(.string (⟨#[]⟩ : ByteArray)), (.string (⟨#[]⟩ : ByteArray)), (.int .i64 0), (.int .i64 0)] T_api_Tenant (0, 0))
 wrCells t6 0 [(.string t21f0), (.string t21f1), (.int .i64 t21f2), (.int .i64 t21f3)] (fun h3 =>
 ∃ (t26 : ON), cellH h3 b4 = some (.map t26) ∧
 ∃ (t28 : ByteArray), cellH h3 t6 = some (.string t28) ∧
 hwp PP (Instr.lookup T_map_string_string (.map t26) (.string t28) true) (fun v_1 h4 => ∃ (t29 : ByteArray) (t29_1 : Bool), v_1 = (.tuple #[(.string t29), (.bool t29_1)]) ∧
 br t29_1 (
 J1 b4 t6 t16 t16n t16c t17 t18 true K h4) (
 ∃ (t35 : ByteArray), cellH h4 t6 = some (.string t35) ∧
 SpecH PP F_token_short [(.string t35)] h4 (fun v_2 h5 => ∃ (t36 : Bool), v_2 = (.bool t36) ∧
 let t37 : Bool := (!t36)
 br t37 (
 J1 b4 t6 t16 t16n t16c t17 t18 true K h5) (
 ∃ (t41 : ByteArray), cellH h5 (Addr.add t6 1) = some (.string t41) ∧
 let t42 : Int := (ByteArray.size t41 : Int)
 let t43 : Bool := decide (t42 > 64)
 br t43 (
 J1 b4 t6 t16 t16n t16c t17 t18 true K h5) (
 ∃ (t47 : Int), cellH h5 (Addr.add t6 2) = some (.int .i64 t47) ∧
 ∃ (t49 : Int), cellH h5 (Addr.add t6 3) = some (.int .i64 t49) ∧
 let t50 : Int := (if t49 < t47 then t49 else t47)
 let t51 : Bool := decide (t50 < 0)
 br t51 (
 J1 b4 t6 t16 t16n t16c t17 t18 true K h5) (
 ∃ (t55 : Int), cellH h5 (Addr.add t6 2) = some (.int .i64 t55) ∧
 ∃ (t57 : Int), cellH h5 (Addr.add t6 3) = some (.int .i64 t57) ∧
 let t58 : Int := (if t57 > t55 then t57 else t55)
 let t59 : Bool := decide (t58 > 1000000000)
 J1 b4 t6 t16 t16n t16c t17 t18 t59 K h5)))))) h3) h2) h) (
 K (.exit 0) (X0 b4) h)) : L1 b4 t16 t16n t16c t17 t18 K h := by unfold L1; exact Lp.of_txt (an 244) 458768 (by kernel_rfl) H
theorem L1_X0 {Q : VP} {b4 : Addr} {h : Heap} (H :
 Q (.tuple #[(.pointer (some b4)), (.int .i64 0)]) h) : (K1 Q) (.exit 0) (X0 b4) h := of_eq_txt (by kernel_rfl) H
theorem J1_of {b4 t6 : Addr} {t16 : OA} {t16n t16c : Nat} {t17 t18 : Int} {t60 : Bool} {K : EP} {h : Heap} (H :
 br t60 (
 K .ret (Xret none 1) h) (
 ∃ (t64 : ON), cellH h b4 = some (.map t64) ∧
 ∃ (t66 : ByteArray), cellH h t6 = some (.string t66) ∧
 ∃ (t68 : ByteArray), cellH h (Addr.add t6 1) = some (.string t68) ∧
 hwp PP (Instr.mapUpdate T_map_string_string (.map t64) (.string t66) (.string t68)) (fun _ h1 =>
 let t69 : Int := IntKind.i64.wrap (t18 + 1)
 L1 b4 t16 t16n t16c t17 t69 K h1) h)) : J1 b4 t6 t16 t16n t16c t17 t18 t60 K h := by unfold J1; exact Jn.of_txt (an 62669) (by kernel_rfl) H
theorem L1_Xret {Q : VP} {t2 : OA} {t3 : Int} {h : Heap} (H :
 Q (.tuple #[(.pointer t2), (.int .i64 t3)]) h) : (K1 Q) .ret (Xret t2 t3) h := of_eq_txt (by kernel_rfl) H
theorem door {xl0 : OA} {xl0n xl0c : Nat} {Q : VP} {h : Heap} (H :
 let t11 : Bool := decide ((xl0n : Int) > 8)
 br t11 (
 Q (.tuple #[(.pointer none), (.int .i64 2)]) h) (
 let h1 : Heap := Array.push h (.map #[] 0)
 let h2 : Heap := Array.push h1 (.map #[] 0)
 let t15 : Addr := ⟨Array.size h2, 0, none⟩
 let h3 : Heap := Array.push h2 (.cells #[(.map (some (Array.size h))), (.map (some (Array.size h1))), (.int .i64 0)] T_token_Book (0, 0))
 L1 t15 xl0 xl0n xl0c (xl0n : Int) 0 (K1 Q) h3)) : SpecH PP F_token_New [(.slice xl0 xl0n xl0c)] h Q :=
   spec_of_txt (ann := ann) Tryz.func12 rfl rfl (by kernel_rfl) H
end token_New
/-! ### haversack/haversackref16.New: function 13 -/
namespace ref16_New
def ann : Ann := (.seq 1 (.region [(List.range 2, 1)]) (.seq 17 (.region [(List.range 3, 17)]) (.seq 1 (.seq 529 (.region [(List.range 2, 529)]) (.cond (.seq 12 (.region [(List.range 3, 12)]) (.exit 12)) .leaf)) (.seq 33 (.region [(List.range 3, 33)]) (.seq 32 (.region [(List.range 10, 32)]) (.seq 12 (.region [(List.range 3, 12)]) (.exit 12)))))))
noncomputable abbrev cd (n : Nat) : Code := sub (bodyOf Tryz.f13) (pth n)
abbrev an (n : Nat) : Ann := subA ann (pth n)
theorem door {xl0 : OA} {xl0n xl0c : Nat} {Q : VP} {h : Heap} (H :
 SpecH PP F_ref16_Check [(.slice xl0 xl0n xl0c)] h (fun v h1 => ∃ (t7 : Int), v = (.int .i64 t7) ∧
 let t9 : Bool := (t7 != 0)
 br t9 (
 Q (.tuple #[(.pointer none), (.int .i64 t7)]) h1) (
 let t12 : Addr := ⟨Array.size h1, 0, none⟩
 let h2 : Heap := Array.push h1 (.cells #[(.slice none 0 0), (.int .i64 0), (.slice none 0 0)] T_haversackref16_Book (0, 0))
 ∃ (t17 : OA) (t17n t17c : Nat), cellH h2 t12 = some (.slice t17 t17n t17c) ∧
 hwp PP (Builtin.append_ #[T_sl_api_Tenant, T_sl_api_Tenant] T_sl_api_Tenant #[(.slice t17 t17n t17c), (.slice xl0 xl0n xl0c)]) (fun v_1 h3 => ∃ (t19 : OA) (t19n t19c : Nat), v_1 = (.slice t19 t19n t19c) ∧
 wr t12 (.slice t19 t19n t19c) (fun h4 =>
 Q (.tuple #[(.pointer (some t12)), (.int .i64 0)]) h4) h3) h2))) : SpecH PP F_ref16_New [(.slice xl0 xl0n xl0c)] h Q :=
   spec_of_txt (ann := ann) Tryz.func13 rfl rfl (by kernel_rfl) H
end ref16_New
/-! ### (*haversack/token.Book).Issue: function 14 -/
namespace token_Book_Issue
def ann : Ann := (.seq 7 (.region [(List.range 2, 7)]) (.seq 7 (.seq 2055 (.region [(List.range 2, 2055)]) (.cond (.seq 192 (.region [(List.range 2, 192)]) (.exit 192)) .leaf)) (.seq 775 (.region [(List.range 11, 775)]) (.seq 263 (.block (.seq 2097415 (.region [(List.range 3, 2097415)]) (.cond (.seq 192 (.region [(List.range 2, 192)]) (.exit 192)) (.seq 16777479 (.region [(List.range 7, 16777479)]) (.join (.cond (.seq 192 (.region [(List.range 2, 192)]) (.exit 192)) (.seq 2147483911 (.region [(List.range 6, 2147483911)]) (.cond (.seq 192 (.region [(List.range 2, 192)]) (.exit 192)) .leaf)))))))) (.seq 263 (.region [(List.range 8, 263)]) (.seq 192 (.region [(List.range 13, 192)]) (.exit 192)))))))
noncomputable abbrev cd (n : Nat) : Code := sub (bodyOf Tryz.f14) (pth n)
abbrev an (n : Nat) : Ann := subA ann (pth n)
@[irreducible] def K2 (Q : VP) : EP := seqK (fun fr h => ev PP true none (cd 31) (an 31) (fr.mask 263) (bodyK PP Tryz.f14 Q) h) (bodyK PP Tryz.f14 Q)
@[irreducible] def K1 (Q : VP) : EP := blockK 0 (K2 Q)
@[irreducible] def J1 (b0 : OA) (tenant1 : ByteArray) (until2 : Int) (secret8 : ByteArray) (t24 : Bool) (Q : VP) (h : Heap) : Prop := Jn PP true (cd 487) (mkFr 0 55 [(0, (.pointer b0)), (1, (.string tenant1)), (2, (.int .i64 until2)), (8, (.string secret8)), (24, (.bool t24))]) (K1 Q) h
theorem J1_of {b0 : OA} {tenant1 : ByteArray} {until2 : Int} {secret8 : ByteArray} {t24 : Bool} {Q : VP} {h : Heap} (H :
 br t24 (
 Q (.tuple #[(.string (⟨#[]⟩ : ByteArray)), (.int .i64 1)]) h) (
 nilc b0 (fun t33 =>
 ∃ (t35 : Int), cellH h (Addr.add t33 2) = some (.int .i64 t35) ∧
 let t36 : Bool := (t35 == 1000000000)
 br t36 (
 Q (.tuple #[(.string (⟨#[]⟩ : ByteArray)), (.int .i64 2)]) h) (
 nilc b0 (fun t38 =>
 ∃ (t40 : Int), cellH h (Addr.add t38 2) = some (.int .i64 t40) ∧
 let t41 : Int := IntKind.i64.wrap (t40 + 1)
 nilc b0 (fun t42 =>
 wr (Addr.add t42 2) (.int .i64 t41) (fun h1 =>
 nilc b0 (fun t47 =>
 ∃ (t49 : Int), cellH h1 (Addr.add t47 2) = some (.int .i64 t49) ∧
 SpecH PP F_token_Print [(.agg #[(.string tenant1), (.int .i64 until2), (.int .i64 t49)]), (.string secret8)] h1 (fun v h2 => ∃ (t52 : ByteArray) (t52_1 : Int), v = (.tuple #[(.string t52), (.int .i64 t52_1)]) ∧
 Q (.tuple #[(.string t52), (.int .i64 t52_1)]) h2))) h)))))) : J1 b0 tenant1 until2 secret8 t24 Q h := by unfold J1; exact Jn.of_txt (an 487) (by kernel_rfl) H
theorem door {b0 : OA} {tenant1 : ByteArray} {until2 : Int} {Q : VP} {h : Heap} (H :
 let t11 : Bool := (Option.isNone b0)
 br t11 (
 Q (.tuple #[(.string (⟨#[]⟩ : ByteArray)), (.int .i64 3)]) h) (
 nilc b0 (fun t14 =>
 ∃ (t16 : ON), cellH h t14 = some (.map t16) ∧
 hwp PP (Instr.lookup T_map_string_string (.map t16) (.string tenant1) true) (fun v h1 => ∃ (t18 : ByteArray) (t18_1 : Bool), v = (.tuple #[(.string t18), (.bool t18_1)]) ∧
 let t23 : Bool := (!t18_1)
 br t23 (
 Q (.tuple #[(.string (⟨#[]⟩ : ByteArray)), (.int .i64 170)]) h1) (
 let t26 : Bool := decide (until2 < 0)
 br t26 (
 J1 b0 tenant1 until2 t18 true Q h1) (
 let t29 : Bool := decide (until2 > 1000000000)
 J1 b0 tenant1 until2 t18 t29 Q h1))) h))) : SpecH PP F_token_Book_Issue [(.pointer b0), (.string tenant1), (.int .i64 until2)] h Q :=
   spec_of_txt (ann := ann) Tryz.func14 rfl rfl (by kernel_rfl) H
end token_Book_Issue
/-! ### (*haversack/haversackref16.Book).Issue: function 15 -/
namespace ref16_Book_Issue
def ann : Ann := (.seq 7 (.region [(List.range 2, 7)]) (.seq 775 (.region [(List.range 8, 775)]) (.seq 263 (.seq 131335 (.region [(List.range 2, 131335)]) (.cond (.seq 192 (.region [(List.range 2, 192)]) (.exit 192)) .leaf)) (.seq 263 (.seq 8388871 (.region [(List.range 6, 8388871)]) (.join (.cond (.seq 192 (.region [(List.range 2, 192)]) (.exit 192)) .leaf))) (.seq 263 (.region [(List.range 8, 263)]) (.seq 192 (.region [(List.range 13, 192)]) (.exit 192)))))))
noncomputable abbrev cd (n : Nat) : Code := sub (bodyOf Tryz.f15) (pth n)
abbrev an (n : Nat) : Ann := subA ann (pth n)
@[irreducible] def K1 (Q : VP) : EP := seqK (fun fr h => ev PP true none (cd 31) (an 31) (fr.mask 263) (bodyK PP Tryz.f15 Q) h) (bodyK PP Tryz.f15 Q)
@[irreducible] def J1 (b0 : OA) (tenant1 : ByteArray) (until2 : Int) (s8 : ByteArray) (t23 : Bool) (Q : VP) (h : Heap) : Prop := Jn PP true (cd 61) (mkFr 0 42 [(0, (.pointer b0)), (1, (.string tenant1)), (2, (.int .i64 until2)), (8, (.string s8)), (23, (.bool t23))]) (K1 Q) h
theorem J1_of {b0 : OA} {tenant1 : ByteArray} {until2 : Int} {s8 : ByteArray} {t23 : Bool} {Q : VP} {h : Heap} (H :
 br t23 (
 Q (.tuple #[(.string (⟨#[]⟩ : ByteArray)), (.int .i64 1)]) h) (
 nilc b0 (fun t25 =>
 ∃ (t27 : Int), cellH h (Addr.add t25 1) = some (.int .i64 t27) ∧
 let t28 : Int := IntKind.i64.wrap (t27 + 1)
 nilc b0 (fun t29 =>
 wr (Addr.add t29 1) (.int .i64 t28) (fun h1 =>
 nilc b0 (fun t34 =>
 ∃ (t36 : Int), cellH h1 (Addr.add t34 1) = some (.int .i64 t36) ∧
 SpecH PP F_ref16_Print [(.agg #[(.string tenant1), (.int .i64 until2), (.int .i64 t36)]), (.string s8)] h1 (fun v h2 => ∃ (t39 : ByteArray) (t39_1 : Int), v = (.tuple #[(.string t39), (.int .i64 t39_1)]) ∧
 Q (.tuple #[(.string t39), (.int .i64 t39_1)]) h2))) h)))) : J1 b0 tenant1 until2 s8 t23 Q h := by unfold J1; exact Jn.of_txt (an 61) (by kernel_rfl) H
theorem door {b0 : OA} {tenant1 : ByteArray} {until2 : Int} {Q : VP} {h : Heap} (H :
 SpecH PP F_ref16_Book_secret [(.pointer b0), (.string tenant1)] h (fun v h1 => ∃ (t13 : ByteArray) (t13_1 : Bool), v = (.tuple #[(.string t13), (.bool t13_1)]) ∧
 let t17 : Bool := (!t13_1)
 br t17 (
 Q (.tuple #[(.string (⟨#[]⟩ : ByteArray)), (.int .i64 170)]) h1) (
 let t19 : Bool := decide (until2 < 0)
 br t19 (
 J1 b0 tenant1 until2 t13 true Q h1) (
 let t22 : Bool := decide (until2 > 1000000000)
 J1 b0 tenant1 until2 t13 t22 Q h1)))) : SpecH PP F_ref16_Book_Issue [(.pointer b0), (.string tenant1), (.int .i64 until2)] h Q :=
   spec_of_txt (ann := ann) Tryz.func15 rfl rfl (by kernel_rfl) H
end ref16_Book_Issue
/-! ### (*haversack/token.Book).Revoke: function 16 -/
namespace token_Book_Revoke
def ann : Ann := (.seq 3 (.region [(List.range 1, 3)]) (.seq 3 (.block (.seq 35 (.region [(List.range 3, 35)]) (.cond (.seq 16 (.region [(List.range 1, 16)]) (.exit 16)) (.seq 259 (.region [(List.range 7, 259)]) (.join (.cond (.seq 16 (.region [(List.range 1, 16)]) (.exit 16)) .leaf)))))) (.seq 0 (.region [(List.range 7, 0)]) (.seq 16 (.region [(List.range 1, 16)]) (.exit 16)))))
noncomputable abbrev cd (n : Nat) : Code := sub (bodyOf Tryz.f16) (pth n)
abbrev an (n : Nat) : Ann := subA ann (pth n)
@[irreducible] def K2 (Q : VP) : EP := seqK (fun fr h => ev PP true none (cd 7) (an 7) (fr.mask 3) (bodyK PP Tryz.f16 Q) h) (bodyK PP Tryz.f16 Q)
@[irreducible] def K1 (Q : VP) : EP := blockK 0 (K2 Q)
@[irreducible] def J1 (b0 : OA) (serial1 : Int) (t8 : Bool) (Q : VP) (h : Heap) : Prop := Jn PP true (cd 103) (mkFr 0 21 [(0, (.pointer b0)), (1, (.int .i64 serial1)), (8, (.bool t8))]) (K1 Q) h
theorem J1_of {b0 : OA} {serial1 : Int} {t8 : Bool} {Q : VP} {h : Heap} (H :
 br t8 (
 Q (.int .i64 1) h) (
 nilc b0 (fun t16 =>
 ∃ (t18 : ON), cellH h (Addr.add t16 1) = some (.map t18) ∧
 hwp PP (Instr.mapUpdate T_map_int_struct (.map t18) (.int .i64 serial1) (.agg #[])) (fun _ h1 =>
 Q (.int .i64 0) h1) h))) : J1 b0 serial1 t8 Q h := by unfold J1; exact Jn.of_txt (an 103) (by kernel_rfl) H
theorem door {b0 : OA} {serial1 : Int} {Q : VP} {h : Heap} (H :
 let t7 : Bool := (Option.isNone b0)
 br t7 (
 Q (.int .i64 3) h) (
 let t10 : Bool := decide (serial1 < 1)
 br t10 (
 J1 b0 serial1 true Q h) (
 let t13 : Bool := decide (serial1 > 1000000000)
 J1 b0 serial1 t13 Q h))) : SpecH PP F_token_Book_Revoke [(.pointer b0), (.int .i64 serial1)] h Q :=
   spec_of_txt (ann := ann) Tryz.func16 rfl rfl (by kernel_rfl) H
end token_Book_Revoke
/-! ### (*haversack/haversackref16.Book).Revoke: function 17 -/
namespace ref16_Book_Revoke
def ann : Ann := (.seq 3 (.region [(List.range 1, 3)]) (.seq 3 (.seq 1027 (.region [(List.range 6, 1027)]) (.join (.cond (.seq 16 (.region [(List.range 1, 16)]) (.exit 16)) .leaf))) (.seq 0 (.region [(List.range 11, 0)]) (.seq 16 (.region [(List.range 1, 16)]) (.exit 16)))))
noncomputable abbrev cd (n : Nat) : Code := sub (bodyOf Tryz.f17) (pth n)
abbrev an (n : Nat) : Ann := subA ann (pth n)
@[irreducible] def K1 (Q : VP) : EP := seqK (fun fr h => ev PP true none (cd 7) (an 7) (fr.mask 3) (bodyK PP Tryz.f17 Q) h) (bodyK PP Tryz.f17 Q)
@[irreducible] def J1 (b0 : OA) (serial1 : Int) (t10 : Bool) (Q : VP) (h : Heap) : Prop := Jn PP true (cd 13) (mkFr 0 21 [(0, (.pointer b0)), (1, (.int .i64 serial1)), (10, (.bool t10))]) (K1 Q) h
theorem J1_of {b0 : OA} {serial1 : Int} {t10 : Bool} {Q : VP} {h : Heap} (H :
 br t10 (
 Q (.int .i64 1) h) (
 nilc b0 (fun t13 =>
 ∃ (t15 : OA) (t15n t15c : Nat), cellH h (Addr.add t13 2) = some (.slice t15 t15n t15c) ∧
 let h1 : Heap := Array.push h (.cells #[(.int .i64 serial1)] T_int (0, 0))
 hwp PP (Builtin.append_ #[T_sl_int, T_sl_int] T_sl_int #[(.slice t15 t15n t15c), (.slice (some ⟨Array.size h, 0, none⟩) 1 1)]) (fun v h2 => ∃ (t18 : OA) (t18n t18c : Nat), v = (.slice t18 t18n t18c) ∧
 nilc b0 (fun t19 =>
 wr (Addr.add t19 2) (.slice t18 t18n t18c) (fun h3 =>
 Q (.int .i64 0) h3) h2)) h1))) : J1 b0 serial1 t10 Q h := by unfold J1; exact Jn.of_txt (an 13) (by kernel_rfl) H
theorem door {b0 : OA} {serial1 : Int} {Q : VP} {h : Heap} (H :
 let t6 : Bool := decide (serial1 < 1)
 br t6 (
 J1 b0 serial1 true Q h) (
 let t9 : Bool := decide (serial1 > 1000000000)
 J1 b0 serial1 t9 Q h)) : SpecH PP F_ref16_Book_Revoke [(.pointer b0), (.int .i64 serial1)] h Q :=
   spec_of_txt (ann := ann) Tryz.func17 rfl rfl (by kernel_rfl) H
end ref16_Book_Revoke
/-! ### (*haversack/token.Book).Check: function 18 -/
namespace token_Book_Check
def ann : Ann := (.seq 71 (.region [(List.range 2, 71)]) (.seq 71 (.seq 65607 (.region [(List.range 2, 65607)]) (.cond (.seq 192 (.region [(List.range 3, 192)]) (.exit 192)) .leaf)) (.seq 1861 (.region [(List.range 10, 1861)]) (.seq 837 (.seq 33556293 (.region [(List.range 2, 33556293)]) (.cond (.seq 192 (.region [(List.range 4, 192)]) (.exit 192)) .leaf)) (.seq 6981 (.region [(List.range 12, 6981)]) (.seq 325 (.seq 140737488355653 (.region [(List.range 10, 140737488355653)]) (.join (.cond (.seq 192 (.region [(List.range 3, 192)]) (.exit 192)) .leaf))) (.seq 321 (.seq 4503599627370817 (.region [(List.range 4, 4503599627370817)]) (.cond (.seq 192 (.region [(List.range 3, 192)]) (.exit 192)) .leaf)) (.seq 320 (.seq 16704 (.tree (.run [0, 1, 2, 3, 4, 5] (.alt 6 (.run [7, 8, 9, 10, 11, 12] .done) (.alt 10 (.run [6, 7, 8, 9, 11, 12] .done) .nil))) 16704) (.join (.seq 18446744073709551936 (.region [(List.range 1, 18446744073709551936)]) (.cond (.seq 192 (.region [(List.range 3, 192)]) (.exit 192)) .leaf)))) (.seq 192 (.region [(List.range 3, 192)]) (.exit 192))))))))))
noncomputable abbrev cd (n : Nat) : Code := sub (bodyOf Tryz.f18) (pth n)
abbrev an (n : Nat) : Ann := subA ann (pth n)
@[irreducible] def K1 (Q : VP) : EP := seqK (fun fr h => ev PP true none (cd 127) (an 127) (fr.mask 325) (bodyK PP Tryz.f18 Q) h) (bodyK PP Tryz.f18 Q)
@[irreducible] def J1 (b0 : OA) (now2 : Int) (t6 c8 : Addr) (t47 : Bool) (Q : VP) (h : Heap) : Prop := Jn PP true (cd 253) (mkFr 0 67 [(0, (.pointer b0)), (2, (.int .i64 now2)), (6, (.pointer (some t6))), (8, (.pointer (some c8))), (47, (.bool t47))]) (K1 Q) h
@[irreducible] def K2 (Q : VP) : EP := seqK (fun fr h => ev PP true none (cd 511) (an 511) (fr.mask 320) (bodyK PP Tryz.f18 Q) h) (bodyK PP Tryz.f18 Q)
@[irreducible] def J2 (t6 c8 : Addr) (gone14 : Bool) (Q : VP) (h : Heap) : Prop := Jn PP true (cd 1021) (mkFr 0 67 [(6, (.pointer (some t6))), (8, (.pointer (some c8))), (14, (.bool gone14))]) (K2 Q) h
theorem J1_of {b0 : OA} {now2 : Int} {t6 c8 : Addr} {t47 : Bool} {Q : VP} {h : Heap} (H :
 br t47 (
 wrCells t6 0 [(.string (⟨#[]⟩ : ByteArray)), (.int .i64 0), (.int .i64 0)] (fun h1 =>
 ∃ (t6_1f0 : ByteArray) (t6_1f1 t6_1f2 : Int), rdCells h1 t6 0 [(.string t6_1f0), (.int .i64 t6_1f1), (.int .i64 t6_1f2)] ∧
 Q (.tuple #[(.agg #[(.string t6_1f0), (.int .i64 t6_1f1), (.int .i64 t6_1f2)]), (.int .i64 161)]) h1) h) (
 ∃ (t51 : Int), cellH h (Addr.add c8 1) = some (.int .i64 t51) ∧
 let t52 : Bool := decide (now2 > t51)
 br t52 (
 wrCells t6 0 [(.string (⟨#[]⟩ : ByteArray)), (.int .i64 0), (.int .i64 0)] (fun h2 =>
 ∃ (t6_2f0 : ByteArray) (t6_2f1 t6_2f2 : Int), rdCells h2 t6 0 [(.string t6_2f0), (.int .i64 t6_2f1), (.int .i64 t6_2f2)] ∧
 Q (.tuple #[(.agg #[(.string t6_2f0), (.int .i64 t6_2f1), (.int .i64 t6_2f2)]), (.int .i64 162)]) h2) h) (
 nilc b0 (fun t56 =>
 ∃ (t58 : ON), cellH h (Addr.add t56 1) = some (.map t58) ∧
 ∃ (t60 : Int), cellH h (Addr.add c8 2) = some (.int .i64 t60) ∧
 (
 hwp PP (Instr.lookup T_map_int_struct (.map t58) (.int .i64 t60) true) (fun v_1 h6 => ∃ (t61_3 : Bool), v_1 = (.tuple #[(.agg #[]), (.bool t61_3)]) ∧
 let t13_1 : Addr := ⟨Array.size h6, 0, none⟩
 let h7 : Heap := Array.push h6 (.cells #[] T_struct (0, 0))
 wrCells t13_1 0 [] (fun h8 =>
 J2 t6 c8 t61_3 Q h8) h7) h) ∧
 (
 let t13 : Addr := ⟨Array.size h, 0, none⟩
 let h3 : Heap := Array.push h (.cells #[] T_struct (0, 0))
 hwp PP (Instr.lookup T_map_int_struct (.map t58) (.int .i64 t60) true) (fun v h4 => ∃ (t61_1 : Bool), v = (.tuple #[(.agg #[]), (.bool t61_1)]) ∧
 wrCells t13 0 [] (fun h5 =>
 J2 t6 c8 t61_1 Q h5) h4) h3) ∧
 True)))) : J1 b0 now2 t6 c8 t47 Q h := by unfold J1; exact Jn.of_txt (an 253) (by kernel_rfl) H
theorem J2_of {t6 c8 : Addr} {gone14 : Bool} {Q : VP} {h : Heap} (H :
 br gone14 (
 wrCells t6 0 [(.string (⟨#[]⟩ : ByteArray)), (.int .i64 0), (.int .i64 0)] (fun h1 =>
 ∃ (t6_1f0 : ByteArray) (t6_1f1 t6_1f2 : Int), rdCells h1 t6 0 [(.string t6_1f0), (.int .i64 t6_1f1), (.int .i64 t6_1f2)] ∧
 Q (.tuple #[(.agg #[(.string t6_1f0), (.int .i64 t6_1f1), (.int .i64 t6_1f2)]), (.int .i64 163)]) h1) h) (
 ∃ (t66f0 : ByteArray) (t66f1 t66f2 : Int), rdCells h c8 0 [(.string t66f0), (.int .i64 t66f1), (.int .i64 t66f2)] ∧
 wrCells t6 0 [(.string t66f0), (.int .i64 t66f1), (.int .i64 t66f2)] (fun h2 =>
 ∃ (t6_2f0 : ByteArray) (t6_2f1 t6_2f2 : Int), rdCells h2 t6 0 [(.string t6_2f0), (.int .i64 t6_2f1), (.int .i64 t6_2f2)] ∧
 Q (.tuple #[(.agg #[(.string t6_2f0), (.int .i64 t6_2f1), (.int .i64 t6_2f2)]), (.int .i64 0)]) h2) h)) : J2 t6 c8 gone14 Q h := by unfold J2; exact Jn.of_txt (an 1021) (by kernel_rfl) H
theorem door {b0 : OA} {text1 : ByteArray} {now2 : Int} {Q : VP} {h : Heap} (H :
 let t6 : Addr := ⟨Array.size h, 0, none⟩
 let h1 : Heap := Array.push h (.cells #[(.string (⟨#[]⟩ : ByteArray)), (.int .i64 0), (.int .i64 0)] T_api_Claim (0, 0))
 let t16 : Bool := (Option.isNone b0)
 br t16 (
 wrCells t6 0 [(.string (⟨#[]⟩ : ByteArray)), (.int .i64 0), (.int .i64 0)] (fun h2 =>
 ∃ (t6_1f0 : ByteArray) (t6_1f1 t6_1f2 : Int), rdCells h2 t6 0 [(.string t6_1f0), (.int .i64 t6_1f1), (.int .i64 t6_1f2)] ∧
 Q (.tuple #[(.agg #[(.string t6_1f0), (.int .i64 t6_1f1), (.int .i64 t6_1f2)]), (.int .i64 3)]) h2) h1) (
 SpecH PP F_token_Parse [(.string text1)] h1 (fun v h3 => ∃ (t20f0 : ByteArray) (t20f1 t20f2 : Int) (t20_1 : ByteArray) (t20_2 : Int), v = (.tuple #[(.agg #[(.string t20f0), (.int .i64 t20f1), (.int .i64 t20f2)]), (.string t20_1), (.int .i64 t20_2)]) ∧
 let c8 : Addr := ⟨Array.size h3, 0, none⟩
 let h4 : Heap := Array.push h3 (.cells #[(.string (⟨#[]⟩ : ByteArray)), (.int .i64 0), (.int .i64 0)] T_api_Claim (0, 0))
 wrCells c8 0 [(.string t20f0), (.int .i64 t20f1), (.int .i64 t20f2)] (fun h5 =>
 let t25 : Bool := (t20_2 != 0)
 br t25 (
 wrCells t6 0 [(.string (⟨#[]⟩ : ByteArray)), (.int .i64 0), (.int .i64 0)] (fun h6 =>
 ∃ (t6_2f0 : ByteArray) (t6_2f1 t6_2f2 : Int), rdCells h6 t6 0 [(.string t6_2f0), (.int .i64 t6_2f1), (.int .i64 t6_2f2)] ∧
 Q (.tuple #[(.agg #[(.string t6_2f0), (.int .i64 t6_2f1), (.int .i64 t6_2f2)]), (.int .i64 t20_2)]) h6) h5) (
 nilc b0 (fun t30 =>
 ∃ (t32 : ON), cellH h5 t30 = some (.map t32) ∧
 ∃ (t34 : ByteArray), cellH h5 c8 = some (.string t34) ∧
 hwp PP (Instr.lookup T_map_string_string (.map t32) (.string t34) true) (fun v_1 h7 => ∃ (t35 : ByteArray) (t35_1 : Bool), v_1 = (.tuple #[(.string t35), (.bool t35_1)]) ∧
 let t39 : Bool := (!t35_1)
 br t39 (
 J1 b0 now2 t6 c8 true Q h7) (
 ∃ (t41f0 : ByteArray) (t41f1 t41f2 : Int), rdCells h7 c8 0 [(.string t41f0), (.int .i64 t41f1), (.int .i64 t41f2)] ∧
 SpecH PP F_token_mac [(.agg #[(.string t41f0), (.int .i64 t41f1), (.int .i64 t41f2)]), (.string t35)] h7 (fun v_2 h8 => ∃ (t43 : List Value), v_2 = (.agg (t43).toArray) ∧
 SpecH PP F_token_digits [(.agg (t43).toArray)] h8 (fun v_3 h9 => ∃ (t44 : ByteArray), v_3 = (.string t44) ∧
 let t46 : Bool := (!decide (t44 = t20_1))
 J1 b0 now2 t6 c8 t46 Q h9)))) h5))) h4))) : SpecH PP F_token_Book_Check [(.pointer b0), (.string text1), (.int .i64 now2)] h Q :=
   spec_of_txt (ann := ann) Tryz.func18 rfl rfl (by kernel_rfl) H
end token_Book_Check
/-! ### (*haversack/haversackref16.Book).Check: function 19 -/
namespace ref16_Book_Check
def ann : Ann := (.seq 71 (.region [(List.range 2, 71)]) (.seq 1861 (.region [(List.range 10, 1861)]) (.seq 837 (.seq 2099013 (.region [(List.range 2, 2099013)]) (.cond (.seq 192 (.region [(List.range 4, 192)]) (.exit 192)) .leaf)) (.seq 6981 (.region [(List.range 9, 6981)]) (.seq 325 (.seq 1099511628101 (.region [(List.range 10, 1099511628101)]) (.join (.cond (.seq 192 (.region [(List.range 3, 192)]) (.exit 192)) .leaf))) (.seq 321 (.seq 35184372089153 (.region [(List.range 4, 35184372089153)]) (.cond (.seq 192 (.region [(List.range 3, 192)]) (.exit 192)) .leaf)) (.seq 320 (.seq 8513 (.region [(List.range 1, 8513)]) (.block (.loop 8513 (.seq 8513 (.seq 9007199254749505 (.region [(List.range 7, 9007199254749505)]) (.cond .leaf (.exit 320))) (.seq 8513 (.block (.seq 36893488147419111745 (.region [(List.range 10, 36893488147419111745)]) (.cond (.seq 192 (.region [(List.range 3, 192)]) (.exit 192)) .leaf))) (.region [(List.range 3, 8513)])))))) (.seq 192 (.region [(List.range 3, 192)]) (.exit 192)))))))))
noncomputable abbrev cd (n : Nat) : Code := sub (bodyOf Tryz.f19) (pth n)
abbrev an (n : Nat) : Ann := subA ann (pth n)
@[irreducible] def Xret (t6 : Addr) (t7 : Int) : Fr := (mkFr 0 68 [(6, (.pointer (some t6))), (7, (.int .i64 t7))])
@[irreducible] def X0 (t6 c8 : Addr) : Fr := (mkFr 0 68 [(6, (.pointer (some t6))), (8, (.pointer (some c8)))])
@[irreducible] def K1 (Q : VP) : EP := seqK (fun fr h => ev PP true none (cd 63) (an 63) (fr.mask 325) (bodyK PP Tryz.f19 Q) h) (bodyK PP Tryz.f19 Q)
@[irreducible] def J1 (b0 : OA) (now2 : Int) (t6 c8 : Addr) (t40 : Bool) (Q : VP) (h : Heap) : Prop := Jn PP true (cd 125) (mkFr 0 68 [(0, (.pointer b0)), (2, (.int .i64 now2)), (6, (.pointer (some t6))), (8, (.pointer (some c8))), (40, (.bool t40))]) (K1 Q) h
@[irreducible] def K3 (Q : VP) : EP := seqK (fun fr h => ev PP true none (cd 255) (an 255) (fr.mask 320) (bodyK PP Tryz.f19 Q) h) (bodyK PP Tryz.f19 Q)
@[irreducible] def K2 (Q : VP) : EP := blockK 0 (K3 Q)
@[irreducible] def L1 (b0 : OA) (t6 c8 : Addr) (i13 : Int) (K : EP) (h : Heap) : Prop := Lp PP true (cd 2036) (mkFr 0 68 [(0, (.pointer b0)), (6, (.pointer (some t6))), (8, (.pointer (some c8))), (13, (.int .i64 i13))]) K h
@[irreducible] def B1 (K : EP) : EP := seqK (fun fr h => Lp PP true (cd 2036) (fr.mask 8513) K h) K
theorem J1_of {b0 : OA} {now2 : Int} {t6 c8 : Addr} {t40 : Bool} {Q : VP} {h : Heap} (H :
 br t40 (
 wrCells t6 0 [(.string (⟨#[]⟩ : ByteArray)), (.int .i64 0), (.int .i64 0)] (fun h1 =>
 ∃ (t6_1f0 : ByteArray) (t6_1f1 t6_1f2 : Int), rdCells h1 t6 0 [(.string t6_1f0), (.int .i64 t6_1f1), (.int .i64 t6_1f2)] ∧
 Q (.tuple #[(.agg #[(.string t6_1f0), (.int .i64 t6_1f1), (.int .i64 t6_1f2)]), (.int .i64 161)]) h1) h) (
 ∃ (t44 : Int), cellH h (Addr.add c8 1) = some (.int .i64 t44) ∧
 let t45 : Bool := decide (now2 > t44)
 br t45 (
 wrCells t6 0 [(.string (⟨#[]⟩ : ByteArray)), (.int .i64 0), (.int .i64 0)] (fun h2 =>
 ∃ (t6_2f0 : ByteArray) (t6_2f1 t6_2f2 : Int), rdCells h2 t6 0 [(.string t6_2f0), (.int .i64 t6_2f1), (.int .i64 t6_2f2)] ∧
 Q (.tuple #[(.agg #[(.string t6_2f0), (.int .i64 t6_2f1), (.int .i64 t6_2f2)]), (.int .i64 162)]) h2) h) (
 L1 b0 t6 c8 0 (K2 Q) h))) : J1 b0 now2 t6 c8 t40 Q h := by unfold J1; exact Jn.of_txt (an 125) (by kernel_rfl) H
theorem L1_of {b0 : OA} {t6 c8 : Addr} {i13 : Int} {K : EP} {h : Heap} (H :
 nilc b0 (fun t49 =>
 ∃ (t51 : OA) (t51n t51c : Nat), cellH h (Addr.add t49 2) = some (.slice t51 t51n t51c) ∧
 let t53 : Bool := decide (i13 < (t51n : Int))
 br t53 (
 nilc b0 (fun t57 =>
 ∃ (t59 : OA) (t59n t59c : Nat), cellH h (Addr.add t57 2) = some (.slice t59 t59n t59c) ∧
 hwp PP (Instr.indexAt T_sl_int (.slice t59 t59n t59c) (.int .i64 i13)) (fun v h1 => ∃ (t61 : Addr), v = (.pointer (some t61)) ∧
 ∃ (t62 : Int), cellH h1 t61 = some (.int .i64 t62) ∧
 ∃ (t64 : Int), cellH h1 (Addr.add c8 2) = some (.int .i64 t64) ∧
 let t65 : Bool := (t62 == t64)
 br t65 (
 wrCells t6 0 [(.string (⟨#[]⟩ : ByteArray)), (.int .i64 0), (.int .i64 0)] (fun h2 =>
 K .ret (Xret t6 163) h2) h1) (
 let t55 : Int := IntKind.i64.wrap (i13 + 1)
 L1 b0 t6 c8 t55 K h1)) h)) (
 K (.exit 0) (X0 t6 c8) h))) : L1 b0 t6 c8 i13 K h := by unfold L1; exact Lp.of_txt (an 2036) 8513 (by kernel_rfl) H
theorem L1_Xret {Q : VP} {t6 : Addr} {t7 : Int} {h : Heap} (H :
 ∃ (t6_1f0 : ByteArray) (t6_1f1 t6_1f2 : Int), rdCells h t6 0 [(.string t6_1f0), (.int .i64 t6_1f1), (.int .i64 t6_1f2)] ∧
 Q (.tuple #[(.agg #[(.string t6_1f0), (.int .i64 t6_1f1), (.int .i64 t6_1f2)]), (.int .i64 t7)]) h) : (K2 Q) .ret (Xret t6 t7) h := of_eq_txt (by kernel_rfl) H
theorem L1_X0 {Q : VP} {t6 c8 : Addr} {h : Heap} (H :
 ∃ (t67f0 : ByteArray) (t67f1 t67f2 : Int), rdCells h c8 0 [(.string t67f0), (.int .i64 t67f1), (.int .i64 t67f2)] ∧
 wrCells t6 0 [(.string t67f0), (.int .i64 t67f1), (.int .i64 t67f2)] (fun h1 =>
 ∃ (t6_1f0 : ByteArray) (t6_1f1 t6_1f2 : Int), rdCells h1 t6 0 [(.string t6_1f0), (.int .i64 t6_1f1), (.int .i64 t6_1f2)] ∧
 Q (.tuple #[(.agg #[(.string t6_1f0), (.int .i64 t6_1f1), (.int .i64 t6_1f2)]), (.int .i64 0)]) h1) h) : (K2 Q) (.exit 0) (X0 t6 c8) h := of_eq_txt (by kernel_rfl) H
theorem door {b0 : OA} {text1 : ByteArray} {now2 : Int} {Q : VP} {h : Heap} (H :
 let t6 : Addr := ⟨Array.size h, 0, none⟩
 let h1 : Heap := Array.push h (.cells #[(.string (⟨#[]⟩ : ByteArray)), (.int .i64 0), (.int .i64 0)] T_api_Claim (0, 0))
 SpecH PP F_ref16_Parse [(.string text1)] h1 (fun v h2 => ∃ (t16f0 : ByteArray) (t16f1 t16f2 : Int) (t16_1 : ByteArray) (t16_2 : Int), v = (.tuple #[(.agg #[(.string t16f0), (.int .i64 t16f1), (.int .i64 t16f2)]), (.string t16_1), (.int .i64 t16_2)]) ∧
 let c8 : Addr := ⟨Array.size h2, 0, none⟩
 let h3 : Heap := Array.push h2 (.cells #[(.string (⟨#[]⟩ : ByteArray)), (.int .i64 0), (.int .i64 0)] T_api_Claim (0, 0))
 wrCells c8 0 [(.string t16f0), (.int .i64 t16f1), (.int .i64 t16f2)] (fun h4 =>
 let t21 : Bool := (t16_2 != 0)
 br t21 (
 wrCells t6 0 [(.string (⟨#[]⟩ : ByteArray)), (.int .i64 0), (.int .i64 0)] (fun h5 =>
 ∃ (t6_1f0 : ByteArray) (t6_1f1 t6_1f2 : Int), rdCells h5 t6 0 [(.string t6_1f0), (.int .i64 t6_1f1), (.int .i64 t6_1f2)] ∧
 Q (.tuple #[(.agg #[(.string t6_1f0), (.int .i64 t6_1f1), (.int .i64 t6_1f2)]), (.int .i64 t16_2)]) h5) h4) (
 ∃ (t27 : ByteArray), cellH h4 c8 = some (.string t27) ∧
 SpecH PP F_ref16_Book_secret [(.pointer b0), (.string t27)] h4 (fun v_1 h6 => ∃ (t28 : ByteArray) (t28_1 : Bool), v_1 = (.tuple #[(.string t28), (.bool t28_1)]) ∧
 let t32 : Bool := (!t28_1)
 br t32 (
 J1 b0 now2 t6 c8 true Q h6) (
 ∃ (t34f0 : ByteArray) (t34f1 t34f2 : Int), rdCells h6 c8 0 [(.string t34f0), (.int .i64 t34f1), (.int .i64 t34f2)] ∧
 SpecH PP F_ref16_Body [(.agg #[(.string t34f0), (.int .i64 t34f1), (.int .i64 t34f2)])] h6 (fun v_2 h7 => ∃ (t35 : ByteArray), v_2 = (.string t35) ∧
 SpecH PP F_ref16_Digits [(.string t35), (.string t28)] h7 (fun v_3 h8 => ∃ (t37 : ByteArray), v_3 = (.string t37) ∧
 let t39 : Bool := (!decide (t37 = t16_1))
 J1 b0 now2 t6 c8 t39 Q h8)))))) h3)) : SpecH PP F_ref16_Book_Check [(.pointer b0), (.string text1), (.int .i64 now2)] h Q :=
   spec_of_txt (ann := ann) Tryz.func19 rfl rfl (by kernel_rfl) H
end ref16_Book_Check
/-! ### haversack/haversacklaw16.one: function 20 -/
namespace law16_one
def ann : Ann := (.seq 0 (.region [(List.range 1, 0)]) (.seq 1 (.region [(List.range 3, 1)]) (.exit 1)))
noncomputable abbrev cd (n : Nat) : Code := sub (bodyOf Tryz.f20) (pth n)
abbrev an (n : Nat) : Ann := subA ann (pth n)
theorem door  {Q : VP} {h : Heap} (H :
 let h1 : Heap := Array.push h (.cells #[(.string (⟨#[97]⟩ : ByteArray)), (.string (⟨#[107]⟩ : ByteArray)), (.int .i64 100), (.int .i64 10)] T_api_Tenant (0, 0))
 Q (.slice (some ⟨Array.size h, 0, none⟩) 1 1) h1) : SpecH PP F_law16_one [] h Q :=
   spec_of_txt (ann := ann) Tryz.func20 rfl rfl (by kernel_rfl) H
end law16_one
/-! ### haversack/token.right: function 21 -/
namespace token_right
def ann : Ann := (.seq 2 (.region [(List.range 2, 2)]) (.seq 4 (.region [(List.range 24, 4)]) (.exit 4)))
noncomputable abbrev cd (n : Nat) : Code := sub (bodyOf Tryz.f21) (pth n)
abbrev an (n : Nat) : Ann := subA ann (pth n)
theorem door {c0f0 : ByteArray} {c0f1 c0f2 : Int} {Q : VP} {h : Heap} (H :
 let c1 : Addr := ⟨Array.size h, 0, none⟩
 let h1 : Heap := Array.push h (.cells #[(.string c0f0), (.int .i64 c0f1), (.int .i64 c0f2)] T_api_Claim (0, 0))
 ∃ (t4 : ByteArray), cellH h1 c1 = some (.string t4) ∧
 SpecH PP F_token_short [(.string t4)] h1 (fun v h2 => ∃ (t5 : Bool), v = (.bool t5) ∧
 br t5 (
 ∃ (t8 : Int), cellH h2 (Addr.add c1 1) = some (.int .i64 t8) ∧
 let t9 : Bool := decide (t8 ≥ 0)
 br t9 (
 ∃ (t13 : Int), cellH h2 (Addr.add c1 1) = some (.int .i64 t13) ∧
 let t14 : Bool := decide (t13 ≤ 1000000000)
 br t14 (
 ∃ (t18 : Int), cellH h2 (Addr.add c1 2) = some (.int .i64 t18) ∧
 let t19 : Bool := decide (t18 ≥ 1)
 br t19 (
 ∃ (t23 : Int), cellH h2 (Addr.add c1 2) = some (.int .i64 t23) ∧
 let t24 : Bool := decide (t23 ≤ 1000000000)
 Q (.bool t24) h2) (
 Q (.bool false) h2)) (
 Q (.bool false) h2)) (
 Q (.bool false) h2)) (
 Q (.bool false) h2))) : SpecH PP F_token_right [(.agg #[(.string c0f0), (.int .i64 c0f1), (.int .i64 c0f2)])] h Q :=
   spec_of_txt (ann := ann) Tryz.func21 rfl rfl (by kernel_rfl) H
end token_right
/-! ### haversack/token.body: function 22 -/
namespace token_body
def ann : Ann := (.seq 2 (.region [(List.range 2, 2)]) (.seq 4 (.tree (.run [0, 2, 3, 5] (.alt 1 (.alt 4 (.run [6, 7, 8, 9, 10] .done) (.alt 6 (.run [4, 7, 8, 9, 10] .done) .nil)) (.alt 4 (.run [6] (.alt 1 (.run [7, 8, 9, 10] .done) (.alt 7 (.run [1, 8, 9, 10] .done) .nil))) (.alt 6 (.alt 1 (.run [4, 7, 8, 9, 10] .done) (.alt 4 (.alt 1 (.run [7, 8, 9, 10] .done) (.alt 7 (.run [1, 8, 9, 10] .done) .nil)) .nil)) .nil)))) 4) (.exit 4)))
noncomputable abbrev cd (n : Nat) : Code := sub (bodyOf Tryz.f22) (pth n)
abbrev an (n : Nat) : Ann := subA ann (pth n)
theorem door {c0f0 : ByteArray} {c0f1 c0f2 : Int} {Q : VP} {h : Heap} (H :
 let c1 : Addr := ⟨Array.size h, 0, none⟩
 let h1 : Heap := Array.push h (.cells #[(.string c0f0), (.int .i64 c0f1), (.int .i64 c0f2)] T_api_Claim (0, 0))
 ∃ (t6 : Int), cellH h1 (Addr.add c1 1) = some (.int .i64 t6) ∧
 (
 ∃ (t4_5 : ByteArray), cellH h1 c1 = some (.string t4_5) ∧
 (
 SpecH PP F_strconv_Itoa [(.int .i64 t6)] h1 (fun v_16 h24 => ∃ (t7_4 : ByteArray), v_16 = (.string t7_4) ∧
 ∃ (t9_3 : Int), cellH h24 (Addr.add c1 2) = some (.int .i64 t9_3) ∧
 SpecH PP F_strconv_Itoa [(.int .i64 t9_3)] h24 (fun v_17 h25 => ∃ (t10_6 : ByteArray), v_17 = (.string t10_6) ∧
 let h26 : Heap := Array.push h25 (.cells #[(.string t4_5), (.string t7_4), (.string t10_6)] T_string (0, 0))
 SpecH PP F_strings_Join [(.slice (some ⟨Array.size h25, 0, none⟩) 3 3), (.string (⟨#[46]⟩ : ByteArray))] h26 (fun v_18 h27 => ∃ (t12_6 : ByteArray), v_18 = (.string t12_6) ∧
 Q (.string t12_6) h27)))) ∧
 (
 ∃ (t9_2 : Int), cellH h1 (Addr.add c1 2) = some (.int .i64 t9_2) ∧
 SpecH PP F_strconv_Itoa [(.int .i64 t6)] h1 (fun v_13 h20 => ∃ (t7_3 : ByteArray), v_13 = (.string t7_3) ∧
 SpecH PP F_strconv_Itoa [(.int .i64 t9_2)] h20 (fun v_14 h21 => ∃ (t10_5 : ByteArray), v_14 = (.string t10_5) ∧
 let h22 : Heap := Array.push h21 (.cells #[(.string t4_5), (.string t7_3), (.string t10_5)] T_string (0, 0))
 SpecH PP F_strings_Join [(.slice (some ⟨Array.size h21, 0, none⟩) 3 3), (.string (⟨#[46]⟩ : ByteArray))] h22 (fun v_15 h23 => ∃ (t12_5 : ByteArray), v_15 = (.string t12_5) ∧
 Q (.string t12_5) h23)))) ∧
 True) ∧
 (
 SpecH PP F_strconv_Itoa [(.int .i64 t6)] h1 (fun v_8 h13 => ∃ (t7_2 : ByteArray), v_8 = (.string t7_2) ∧
 ∃ (t9_1 : Int), cellH h13 (Addr.add c1 2) = some (.int .i64 t9_1) ∧
 (
 ∃ (t4_4 : ByteArray), cellH h13 c1 = some (.string t4_4) ∧
 SpecH PP F_strconv_Itoa [(.int .i64 t9_1)] h13 (fun v_11 h17 => ∃ (t10_4 : ByteArray), v_11 = (.string t10_4) ∧
 let h18 : Heap := Array.push h17 (.cells #[(.string t4_4), (.string t7_2), (.string t10_4)] T_string (0, 0))
 SpecH PP F_strings_Join [(.slice (some ⟨Array.size h17, 0, none⟩) 3 3), (.string (⟨#[46]⟩ : ByteArray))] h18 (fun v_12 h19 => ∃ (t12_4 : ByteArray), v_12 = (.string t12_4) ∧
 Q (.string t12_4) h19))) ∧
 (
 SpecH PP F_strconv_Itoa [(.int .i64 t9_1)] h13 (fun v_9 h14 => ∃ (t10_3 : ByteArray), v_9 = (.string t10_3) ∧
 ∃ (t4_3 : ByteArray), cellH h14 c1 = some (.string t4_3) ∧
 let h15 : Heap := Array.push h14 (.cells #[(.string t4_3), (.string t7_2), (.string t10_3)] T_string (0, 0))
 SpecH PP F_strings_Join [(.slice (some ⟨Array.size h14, 0, none⟩) 3 3), (.string (⟨#[46]⟩ : ByteArray))] h15 (fun v_10 h16 => ∃ (t12_3 : ByteArray), v_10 = (.string t12_3) ∧
 Q (.string t12_3) h16))) ∧
 True)) ∧
 (
 ∃ (t9 : Int), cellH h1 (Addr.add c1 2) = some (.int .i64 t9) ∧
 (
 ∃ (t4_2 : ByteArray), cellH h1 c1 = some (.string t4_2) ∧
 SpecH PP F_strconv_Itoa [(.int .i64 t6)] h1 (fun v_5 h9 => ∃ (t7_1 : ByteArray), v_5 = (.string t7_1) ∧
 SpecH PP F_strconv_Itoa [(.int .i64 t9)] h9 (fun v_6 h10 => ∃ (t10_2 : ByteArray), v_6 = (.string t10_2) ∧
 let h11 : Heap := Array.push h10 (.cells #[(.string t4_2), (.string t7_1), (.string t10_2)] T_string (0, 0))
 SpecH PP F_strings_Join [(.slice (some ⟨Array.size h10, 0, none⟩) 3 3), (.string (⟨#[46]⟩ : ByteArray))] h11 (fun v_7 h12 => ∃ (t12_2 : ByteArray), v_7 = (.string t12_2) ∧
 Q (.string t12_2) h12)))) ∧
 (
 SpecH PP F_strconv_Itoa [(.int .i64 t6)] h1 (fun v h2 => ∃ (t7 : ByteArray), v = (.string t7) ∧
 (
 ∃ (t4_1 : ByteArray), cellH h2 c1 = some (.string t4_1) ∧
 SpecH PP F_strconv_Itoa [(.int .i64 t9)] h2 (fun v_3 h6 => ∃ (t10_1 : ByteArray), v_3 = (.string t10_1) ∧
 let h7 : Heap := Array.push h6 (.cells #[(.string t4_1), (.string t7), (.string t10_1)] T_string (0, 0))
 SpecH PP F_strings_Join [(.slice (some ⟨Array.size h6, 0, none⟩) 3 3), (.string (⟨#[46]⟩ : ByteArray))] h7 (fun v_4 h8 => ∃ (t12_1 : ByteArray), v_4 = (.string t12_1) ∧
 Q (.string t12_1) h8))) ∧
 (
 SpecH PP F_strconv_Itoa [(.int .i64 t9)] h2 (fun v_1 h3 => ∃ (t10 : ByteArray), v_1 = (.string t10) ∧
 ∃ (t4 : ByteArray), cellH h3 c1 = some (.string t4) ∧
 let h4 : Heap := Array.push h3 (.cells #[(.string t4), (.string t7), (.string t10)] T_string (0, 0))
 SpecH PP F_strings_Join [(.slice (some ⟨Array.size h3, 0, none⟩) 3 3), (.string (⟨#[46]⟩ : ByteArray))] h4 (fun v_2 h5 => ∃ (t12 : ByteArray), v_2 = (.string t12) ∧
 Q (.string t12) h5))) ∧
 True)) ∧
 True) ∧
 True) : SpecH PP F_token_body [(.agg #[(.string c0f0), (.int .i64 c0f1), (.int .i64 c0f2)])] h Q :=
   spec_of_txt (ann := ann) Tryz.func22 rfl rfl (by kernel_rfl) H
end token_body
/-! ### haversack/token.digits: function 23 -/
namespace token_digits
def ann : Ann := (.seq 2 (.region [(List.range 2, 2)]) (.seq 10 (.region [(List.range 1, 10)]) (.seq 8 (.seq 200 (.region [(List.range 2, 200)]) (.block (.loop 200 (.seq 456 (.region [(List.range 1, 456)]) (.seq 200 (.cond .leaf (.exit 8)) (.seq 200 (.block (.seq 232 (.region [(List.range 2, 232)]) (.seq 232 (.region [(List.range 4, 232)]) (.region [(List.range 4, 200)])))) (.region [(List.range 2, 200)]))))))) (.seq 4 (.region [(List.range 2, 4)]) (.exit 4)))))
noncomputable abbrev cd (n : Nat) : Code := sub (bodyOf Tryz.f23) (pth n)
abbrev an (n : Nat) : Ann := subA ann (pth n)
@[irreducible] def X0 (b3 : Addr) : Fr := (mkFr 0 20 [(3, (.pointer (some b3)))])
@[irreducible] def L1 (b3 : Addr) (t6 : List Value) (t7 : Int) (K : EP) (h : Heap) : Prop := Lp PP true (cd 116) (mkFr 0 20 [(3, (.pointer (some b3))), (6, (.agg (t6).toArray)), (7, (.int .i64 t7))]) K h
@[irreducible] def B1 (K : EP) : EP := seqK (fun fr h => Lp PP true (cd 116) (fr.mask 200) K h) K
@[irreducible] def K2 (Q : VP) : EP := seqK (fun fr h => ev PP true none (cd 15) (an 15) (fr.mask 8) (bodyK PP Tryz.f23 Q) h) (bodyK PP Tryz.f23 Q)
@[irreducible] def K1 (Q : VP) : EP := blockK 0 (K2 Q)
theorem L1_of {b3 : Addr} {t6 : List Value} {t7 : Int} {K : EP} {h : Heap} (H :
 let t8 : Bool := decide (t7 < 32)
 br t8 (
 hwp PP (Instr.index T_32_uint8 (.agg (t6).toArray) (.int .i64 t7)) (fun v h1 => ∃ (t9 : Int), v = (.int .u8 t9) ∧
 let t11 : Int := sShr .u8 t9 4
 hwp PP (Instr.index T_string (.string (⟨#[48, 49, 50, 51, 52, 53, 54, 55, 56, 57, 97, 98, 99, 100, 101, 102]⟩ : ByteArray)) (.int .u8 t11)) (fun v_1 h2 => ∃ (t12 : Int), v_1 = (.int .u8 t12) ∧
 SpecH PP F_strings_Builder_WriteByte [(.pointer (some b3)), (.int .u8 t12)] h2 (fun v_2 h3 => ∃ (t13 : Value), v_2 = t13 ∧
 let t15 : Int := bAnd .u8 t9 15
 hwp PP (Instr.index T_string (.string (⟨#[48, 49, 50, 51, 52, 53, 54, 55, 56, 57, 97, 98, 99, 100, 101, 102]⟩ : ByteArray)) (.int .u8 t15)) (fun v_3 h4 => ∃ (t16 : Int), v_3 = (.int .u8 t16) ∧
 SpecH PP F_strings_Builder_WriteByte [(.pointer (some b3)), (.int .u8 t16)] h4 (fun v_4 h5 => ∃ (t17 : Value), v_4 = t17 ∧
 let t18 : Int := IntKind.i64.wrap (t7 + 1)
 L1 b3 t6 t18 K h5)) h3)) h1) h) (
 K (.exit 0) (X0 b3) h)) : L1 b3 t6 t7 K h := by unfold L1; exact Lp.of_txt (an 116) 200 (by kernel_rfl) H
theorem L1_X0 {Q : VP} {b3 : Addr} {h : Heap} (H :
 SpecH PP F_strings_Builder_String [(.pointer (some b3))] h (fun v h1 => ∃ (t19 : ByteArray), v = (.string t19) ∧
 Q (.string t19) h1)) : (K1 Q) (.exit 0) (X0 b3) h := of_eq_txt (by kernel_rfl) H
theorem door {m0 : List Value} {Q : VP} {h : Heap} (H :
 let m1 : Addr := ⟨Array.size h, 0, none⟩
 let h1 : Heap := Array.push h (.cells (m0).toArray T_32_uint8 (0, 0))
 let b3 : Addr := ⟨Array.size h1, 0, none⟩
 let h2 : Heap := Array.push h1 (.cells #[(.pointer none), (.slice none 0 0)] T_strings_Builder (0, 0))
 ∃ (t6 : List Value), List.length t6 = 32 ∧ rdCells h2 m1 0 t6 ∧
 L1 b3 t6 0 (K1 Q) h2) : SpecH PP F_token_digits [(.agg (m0).toArray)] h Q :=
   spec_of_txt (ann := ann) Tryz.func23 rfl rfl (by kernel_rfl) H
end token_digits
/-! ### haversack/token.mac: function 24 -/
namespace token_mac
def ann : Ann := (.seq 22 (.region [(List.range 2, 22)]) (.seq 16 (.region [(List.range 7, 16)]) (.exit 16)))
noncomputable abbrev cd (n : Nat) : Code := sub (bodyOf Tryz.f24) (pth n)
abbrev an (n : Nat) : Ann := subA ann (pth n)
theorem door {c0f0 : ByteArray} {c0f1 c0f2 : Int} {secret1 : ByteArray} {Q : VP} {h : Heap} (H :
 let c2 : Addr := ⟨Array.size h, 0, none⟩
 let h1 : Heap := Array.push h (.cells #[(.string c0f0), (.int .i64 c0f1), (.int .i64 c0f2)] T_api_Claim (0, 0))
 let t4 : Addr := ⟨Array.size h1, 0, none⟩
 let h2 : Heap := Array.push h1 (.cells (Array.replicate 32 (.int .u8 0)) T_32_uint8 (0, 0))
 hwp PP (Go.convert T_string T_sl_uint8 (.string secret1)) (fun v h3 => ∃ (t6 : OA) (t6n t6c : Nat), v = (.slice t6 t6n t6c) ∧
 ∃ (t7f0 : ByteArray) (t7f1 t7f2 : Int), rdCells h3 c2 0 [(.string t7f0), (.int .i64 t7f1), (.int .i64 t7f2)] ∧
 SpecH PP F_token_body [(.agg #[(.string t7f0), (.int .i64 t7f1), (.int .i64 t7f2)])] h3 (fun v_1 h4 => ∃ (t8 : ByteArray), v_1 = (.string t8) ∧
 hwp PP (Go.convert T_string T_sl_uint8 (.string t8)) (fun v_2 h5 => ∃ (t9 : OA) (t9n t9c : Nat), v_2 = (.slice t9 t9n t9c) ∧
 SpecH PP F_hmac_Mac [(.slice t6 t6n t6c), (.slice t9 t9n t9c)] h5 (fun v_3 h6 => ∃ (t10 : List Value), v_3 = (.agg (t10).toArray) ∧
 br (decide (Array.size (List.toArray t10) = 32)) (wrCells t4 0 t10 (fun h7 =>
 ∃ (t4_1 : List Value), List.length t4_1 = 32 ∧ rdCells h7 t4 0 t4_1 ∧
 Q (.agg (t4_1).toArray) h7) h6) False)) h4)) h2) : SpecH PP F_token_mac [(.agg #[(.string c0f0), (.int .i64 c0f1), (.int .i64 c0f2)]), (.string secret1)] h Q :=
   spec_of_txt (ann := ann) Tryz.func24 rfl rfl (by kernel_rfl) H
end token_mac
/-! ### haversack/haversackref16.May: function 25 -/
namespace ref16_May
def ann : Ann := (.seq 2 (.region [(List.range 2, 2)]) (.seq 4 (.region [(List.range 24, 4)]) (.exit 4)))
noncomputable abbrev cd (n : Nat) : Code := sub (bodyOf Tryz.f25) (pth n)
abbrev an (n : Nat) : Ann := subA ann (pth n)
theorem door {c0f0 : ByteArray} {c0f1 c0f2 : Int} {Q : VP} {h : Heap} (H :
 let c1 : Addr := ⟨Array.size h, 0, none⟩
 let h1 : Heap := Array.push h (.cells #[(.string c0f0), (.int .i64 c0f1), (.int .i64 c0f2)] T_api_Claim (0, 0))
 ∃ (t4 : ByteArray), cellH h1 c1 = some (.string t4) ∧
 SpecH PP F_ref14_Short [(.string t4)] h1 (fun v h2 => ∃ (t5 : Bool), v = (.bool t5) ∧
 br t5 (
 ∃ (t8 : Int), cellH h2 (Addr.add c1 1) = some (.int .i64 t8) ∧
 let t9 : Bool := decide (t8 ≥ 0)
 br t9 (
 ∃ (t13 : Int), cellH h2 (Addr.add c1 1) = some (.int .i64 t13) ∧
 let t14 : Bool := decide (t13 ≤ 1000000000)
 br t14 (
 ∃ (t18 : Int), cellH h2 (Addr.add c1 2) = some (.int .i64 t18) ∧
 let t19 : Bool := decide (t18 ≥ 1)
 br t19 (
 ∃ (t23 : Int), cellH h2 (Addr.add c1 2) = some (.int .i64 t23) ∧
 let t24 : Bool := decide (t23 ≤ 1000000000)
 Q (.bool t24) h2) (
 Q (.bool false) h2)) (
 Q (.bool false) h2)) (
 Q (.bool false) h2)) (
 Q (.bool false) h2))) : SpecH PP F_ref16_May [(.agg #[(.string c0f0), (.int .i64 c0f1), (.int .i64 c0f2)])] h Q :=
   spec_of_txt (ann := ann) Tryz.func25 rfl rfl (by kernel_rfl) H
end ref16_May
/-! ### haversack/haversackref16.Body: function 26 -/
namespace ref16_Body
def ann : Ann := (.seq 2 (.region [(List.range 2, 2)]) (.seq 4 (.tree (.run [0, 3, 4, 8] (.alt 1 (.run [2] (.alt 5 (.run [6, 7, 9, 10, 11, 12] .done) (.alt 9 (.run [5, 6, 7, 10, 11, 12] .done) .nil))) (.alt 5 (.run [9] (.alt 1 (.run [2, 6, 7, 10, 11, 12] .done) (.alt 10 (.run [1, 2, 6, 7, 11, 12] .done) .nil))) (.alt 9 (.alt 1 (.run [2, 5, 6, 7, 10, 11, 12] .done) (.alt 5 (.alt 1 (.run [2, 6, 7, 10, 11, 12] .done) (.alt 10 (.run [1, 2, 6, 7, 11, 12] .done) .nil)) .nil)) .nil)))) 4) (.exit 4)))
noncomputable abbrev cd (n : Nat) : Code := sub (bodyOf Tryz.f26) (pth n)
abbrev an (n : Nat) : Ann := subA ann (pth n)
theorem door {c0f0 : ByteArray} {c0f1 c0f2 : Int} {Q : VP} {h : Heap} (H :
 let c1 : Addr := ⟨Array.size h, 0, none⟩
 let h1 : Heap := Array.push h (.cells #[(.string c0f0), (.int .i64 c0f1), (.int .i64 c0f2)] T_api_Claim (0, 0))
 ∃ (t7 : Int), cellH h1 (Addr.add c1 1) = some (.int .i64 t7) ∧
 (
 ∃ (t4_5 : ByteArray), cellH h1 c1 = some (.string t4_5) ∧
 br (decide (ByteArray.size t4_5 + ByteArray.size (⟨#[46]⟩ : ByteArray) ≤ 9223372036854775807)) (
 let t5_5 : ByteArray := (t4_5 ++ (⟨#[46]⟩ : ByteArray))
 (
 SpecH PP F_ref16_number [(.int .i64 t7)] h1 (fun v_10 h12 => ∃ (t8_4 : ByteArray), v_10 = (.string t8_4) ∧
 br (decide (ByteArray.size t5_5 + ByteArray.size t8_4 ≤ 9223372036854775807)) (
 let t9_6 : ByteArray := (t5_5 ++ t8_4)
 br (decide (ByteArray.size t9_6 + ByteArray.size (⟨#[46]⟩ : ByteArray) ≤ 9223372036854775807)) (
 let t10_6 : ByteArray := (t9_6 ++ (⟨#[46]⟩ : ByteArray))
 ∃ (t12_3 : Int), cellH h12 (Addr.add c1 2) = some (.int .i64 t12_3) ∧
 SpecH PP F_ref16_number [(.int .i64 t12_3)] h12 (fun v_11 h13 => ∃ (t13_6 : ByteArray), v_11 = (.string t13_6) ∧
 br (decide (ByteArray.size t10_6 + ByteArray.size t13_6 ≤ 9223372036854775807)) (
 let t14_6 : ByteArray := (t10_6 ++ t13_6)
 Q (.string t14_6) h13) False)) False) False)) ∧
 (
 ∃ (t12_2 : Int), cellH h1 (Addr.add c1 2) = some (.int .i64 t12_2) ∧
 SpecH PP F_ref16_number [(.int .i64 t7)] h1 (fun v_8 h10 => ∃ (t8_3 : ByteArray), v_8 = (.string t8_3) ∧
 br (decide (ByteArray.size t5_5 + ByteArray.size t8_3 ≤ 9223372036854775807)) (
 let t9_5 : ByteArray := (t5_5 ++ t8_3)
 br (decide (ByteArray.size t9_5 + ByteArray.size (⟨#[46]⟩ : ByteArray) ≤ 9223372036854775807)) (
 let t10_5 : ByteArray := (t9_5 ++ (⟨#[46]⟩ : ByteArray))
 SpecH PP F_ref16_number [(.int .i64 t12_2)] h10 (fun v_9 h11 => ∃ (t13_5 : ByteArray), v_9 = (.string t13_5) ∧
 br (decide (ByteArray.size t10_5 + ByteArray.size t13_5 ≤ 9223372036854775807)) (
 let t14_5 : ByteArray := (t10_5 ++ t13_5)
 Q (.string t14_5) h11) False)) False) False)) ∧
 True) False) ∧
 (
 SpecH PP F_ref16_number [(.int .i64 t7)] h1 (fun v_5 h7 => ∃ (t8_2 : ByteArray), v_5 = (.string t8_2) ∧
 ∃ (t12_1 : Int), cellH h7 (Addr.add c1 2) = some (.int .i64 t12_1) ∧
 (
 ∃ (t4_4 : ByteArray), cellH h7 c1 = some (.string t4_4) ∧
 br (decide (ByteArray.size t4_4 + ByteArray.size (⟨#[46]⟩ : ByteArray) ≤ 9223372036854775807)) (
 let t5_4 : ByteArray := (t4_4 ++ (⟨#[46]⟩ : ByteArray))
 br (decide (ByteArray.size t5_4 + ByteArray.size t8_2 ≤ 9223372036854775807)) (
 let t9_4 : ByteArray := (t5_4 ++ t8_2)
 br (decide (ByteArray.size t9_4 + ByteArray.size (⟨#[46]⟩ : ByteArray) ≤ 9223372036854775807)) (
 let t10_4 : ByteArray := (t9_4 ++ (⟨#[46]⟩ : ByteArray))
 SpecH PP F_ref16_number [(.int .i64 t12_1)] h7 (fun v_7 h9 => ∃ (t13_4 : ByteArray), v_7 = (.string t13_4) ∧
 br (decide (ByteArray.size t10_4 + ByteArray.size t13_4 ≤ 9223372036854775807)) (
 let t14_4 : ByteArray := (t10_4 ++ t13_4)
 Q (.string t14_4) h9) False)) False) False) False) ∧
 (
 SpecH PP F_ref16_number [(.int .i64 t12_1)] h7 (fun v_6 h8 => ∃ (t13_3 : ByteArray), v_6 = (.string t13_3) ∧
 ∃ (t4_3 : ByteArray), cellH h8 c1 = some (.string t4_3) ∧
 br (decide (ByteArray.size t4_3 + ByteArray.size (⟨#[46]⟩ : ByteArray) ≤ 9223372036854775807)) (
 let t5_3 : ByteArray := (t4_3 ++ (⟨#[46]⟩ : ByteArray))
 br (decide (ByteArray.size t5_3 + ByteArray.size t8_2 ≤ 9223372036854775807)) (
 let t9_3 : ByteArray := (t5_3 ++ t8_2)
 br (decide (ByteArray.size t9_3 + ByteArray.size (⟨#[46]⟩ : ByteArray) ≤ 9223372036854775807)) (
 let t10_3 : ByteArray := (t9_3 ++ (⟨#[46]⟩ : ByteArray))
 br (decide (ByteArray.size t10_3 + ByteArray.size t13_3 ≤ 9223372036854775807)) (
 let t14_3 : ByteArray := (t10_3 ++ t13_3)
 Q (.string t14_3) h8) False) False) False) False)) ∧
 True)) ∧
 (
 ∃ (t12 : Int), cellH h1 (Addr.add c1 2) = some (.int .i64 t12) ∧
 (
 ∃ (t4_2 : ByteArray), cellH h1 c1 = some (.string t4_2) ∧
 br (decide (ByteArray.size t4_2 + ByteArray.size (⟨#[46]⟩ : ByteArray) ≤ 9223372036854775807)) (
 let t5_2 : ByteArray := (t4_2 ++ (⟨#[46]⟩ : ByteArray))
 SpecH PP F_ref16_number [(.int .i64 t7)] h1 (fun v_3 h5 => ∃ (t8_1 : ByteArray), v_3 = (.string t8_1) ∧
 br (decide (ByteArray.size t5_2 + ByteArray.size t8_1 ≤ 9223372036854775807)) (
 let t9_2 : ByteArray := (t5_2 ++ t8_1)
 br (decide (ByteArray.size t9_2 + ByteArray.size (⟨#[46]⟩ : ByteArray) ≤ 9223372036854775807)) (
 let t10_2 : ByteArray := (t9_2 ++ (⟨#[46]⟩ : ByteArray))
 SpecH PP F_ref16_number [(.int .i64 t12)] h5 (fun v_4 h6 => ∃ (t13_2 : ByteArray), v_4 = (.string t13_2) ∧
 br (decide (ByteArray.size t10_2 + ByteArray.size t13_2 ≤ 9223372036854775807)) (
 let t14_2 : ByteArray := (t10_2 ++ t13_2)
 Q (.string t14_2) h6) False)) False) False)) False) ∧
 (
 SpecH PP F_ref16_number [(.int .i64 t7)] h1 (fun v h2 => ∃ (t8 : ByteArray), v = (.string t8) ∧
 (
 ∃ (t4_1 : ByteArray), cellH h2 c1 = some (.string t4_1) ∧
 br (decide (ByteArray.size t4_1 + ByteArray.size (⟨#[46]⟩ : ByteArray) ≤ 9223372036854775807)) (
 let t5_1 : ByteArray := (t4_1 ++ (⟨#[46]⟩ : ByteArray))
 br (decide (ByteArray.size t5_1 + ByteArray.size t8 ≤ 9223372036854775807)) (
 let t9_1 : ByteArray := (t5_1 ++ t8)
 br (decide (ByteArray.size t9_1 + ByteArray.size (⟨#[46]⟩ : ByteArray) ≤ 9223372036854775807)) (
 let t10_1 : ByteArray := (t9_1 ++ (⟨#[46]⟩ : ByteArray))
 SpecH PP F_ref16_number [(.int .i64 t12)] h2 (fun v_2 h4 => ∃ (t13_1 : ByteArray), v_2 = (.string t13_1) ∧
 br (decide (ByteArray.size t10_1 + ByteArray.size t13_1 ≤ 9223372036854775807)) (
 let t14_1 : ByteArray := (t10_1 ++ t13_1)
 Q (.string t14_1) h4) False)) False) False) False) ∧
 (
 SpecH PP F_ref16_number [(.int .i64 t12)] h2 (fun v_1 h3 => ∃ (t13 : ByteArray), v_1 = (.string t13) ∧
 ∃ (t4 : ByteArray), cellH h3 c1 = some (.string t4) ∧
 br (decide (ByteArray.size t4 + ByteArray.size (⟨#[46]⟩ : ByteArray) ≤ 9223372036854775807)) (
 let t5 : ByteArray := (t4 ++ (⟨#[46]⟩ : ByteArray))
 br (decide (ByteArray.size t5 + ByteArray.size t8 ≤ 9223372036854775807)) (
 let t9 : ByteArray := (t5 ++ t8)
 br (decide (ByteArray.size t9 + ByteArray.size (⟨#[46]⟩ : ByteArray) ≤ 9223372036854775807)) (
 let t10 : ByteArray := (t9 ++ (⟨#[46]⟩ : ByteArray))
 br (decide (ByteArray.size t10 + ByteArray.size t13 ≤ 9223372036854775807)) (
 let t14 : ByteArray := (t10 ++ t13)
 Q (.string t14) h3) False) False) False) False)) ∧
 True)) ∧
 True) ∧
 True) : SpecH PP F_ref16_Body [(.agg #[(.string c0f0), (.int .i64 c0f1), (.int .i64 c0f2)])] h Q :=
   spec_of_txt (ann := ann) Tryz.func26 rfl rfl (by kernel_rfl) H
end ref16_Body
/-! ### haversack/haversackref16.Digits: function 27 -/
namespace ref16_Digits
def ann : Ann := (.seq 3 (.region [(List.range 1, 3)]) (.seq 32 (.region [(List.range 7, 32)]) (.seq 96 (.region [(List.range 1, 96)]) (.seq 224 (.region [(List.range 1, 224)]) (.seq 128 (.seq 480 (.region [(List.range 1, 480)]) (.block (.loop 480 (.seq 480 (.seq 33248 (.region [(List.range 2, 33248)]) (.cond .leaf (.exit 128))) (.seq 480 (.block (.region [(List.range 26, 480)])) (.region [(List.range 3, 480)])))))) (.seq 16 (.region [(List.range 2, 16)]) (.exit 16)))))))
noncomputable abbrev cd (n : Nat) : Code := sub (bodyOf Tryz.f27) (pth n)
abbrev an (n : Nat) : Ann := subA ann (pth n)
@[irreducible] def X0 (s7 : ByteArray) : Fr := (mkFr 0 44 [(7, (.string s7))])
@[irreducible] def L1 (m5 : Addr) (hex6 s7 : ByteArray) (i8 : Int) (K : EP) (h : Heap) : Prop := Lp PP true (cd 500) (mkFr 0 44 [(5, (.pointer (some m5))), (6, (.string hex6)), (7, (.string s7)), (8, (.int .i64 i8))]) K h
@[irreducible] def B1 (K : EP) : EP := seqK (fun fr h => Lp PP true (cd 500) (fr.mask 480) K h) K
@[irreducible] def K2 (Q : VP) : EP := seqK (fun fr h => ev PP true none (cd 63) (an 63) (fr.mask 128) (bodyK PP Tryz.f27 Q) h) (bodyK PP Tryz.f27 Q)
@[irreducible] def K1 (Q : VP) : EP := blockK 0 (K2 Q)
theorem L1_of {m5 : Addr} {hex6 s7 : ByteArray} {i8 : Int} {K : EP} {h : Heap} (H :
 let t15 : Bool := decide (i8 < 32)
 br t15 (
 hwp PP (Instr.indexAt T_32_uint8 (.pointer (some m5)) (.int .i64 i8)) (fun v h1 => ∃ (t21 : Addr), v = (.pointer (some t21)) ∧
 ∃ (t22 : Int), cellH h1 t21 = some (.int .u8 t22) ∧
 let t23 : Int := IntKind.u8.wrap (Int.tdiv t22 16)
 hwp PP (Instr.indexAt T_32_uint8 (.pointer (some m5)) (.int .i64 i8)) (fun v_1 h2 => ∃ (t25 : Addr), v_1 = (.pointer (some t25)) ∧
 ∃ (t26 : Int), cellH h2 t25 = some (.int .u8 t26) ∧
 let t27 : Int := IntKind.u8.wrap (Int.tdiv t26 16)
 let t28 : Int := IntKind.u8.wrap (t27 + 1)
 hwp PP (Instr.sliceAt T_string (.string hex6) (some (.int .u8 t23)) (some (.int .u8 t28)) none) (fun v_2 h3 => ∃ (t29 : ByteArray), v_2 = (.string t29) ∧
 br (decide (ByteArray.size s7 + ByteArray.size t29 ≤ 9223372036854775807)) (
 let t30 : ByteArray := (s7 ++ t29)
 hwp PP (Instr.indexAt T_32_uint8 (.pointer (some m5)) (.int .i64 i8)) (fun v_3 h4 => ∃ (t33 : Addr), v_3 = (.pointer (some t33)) ∧
 ∃ (t34 : Int), cellH h4 t33 = some (.int .u8 t34) ∧
 let t35 : Int := Int.tmod t34 16
 hwp PP (Instr.indexAt T_32_uint8 (.pointer (some m5)) (.int .i64 i8)) (fun v_4 h5 => ∃ (t37 : Addr), v_4 = (.pointer (some t37)) ∧
 ∃ (t38 : Int), cellH h5 t37 = some (.int .u8 t38) ∧
 let t39 : Int := Int.tmod t38 16
 let t40 : Int := IntKind.u8.wrap (t39 + 1)
 hwp PP (Instr.sliceAt T_string (.string hex6) (some (.int .u8 t35)) (some (.int .u8 t40)) none) (fun v_5 h6 => ∃ (t41 : ByteArray), v_5 = (.string t41) ∧
 br (decide (ByteArray.size t30 + ByteArray.size t41 ≤ 9223372036854775807)) (
 let t42 : ByteArray := (t30 ++ t41)
 let t17 : Int := IntKind.i64.wrap (i8 + 1)
 L1 m5 hex6 t42 t17 K h6) False) h5) h4) h3) False) h2) h1) h) (
 K (.exit 0) (X0 s7) h)) : L1 m5 hex6 s7 i8 K h := by unfold L1; exact Lp.of_txt (an 500) 480 (by kernel_rfl) H
theorem L1_X0 {Q : VP} {s7 : ByteArray} {h : Heap} (H :
 Q (.string s7) h) : (K1 Q) (.exit 0) (X0 s7) h := of_eq_txt (by kernel_rfl) H
theorem door {body0 secret1 : ByteArray} {Q : VP} {h : Heap} (H :
 hwp PP (Go.convert T_string T_sl_uint8 (.string secret1)) (fun v h1 => ∃ (t10 : OA) (t10n t10c : Nat), v = (.slice t10 t10n t10c) ∧
 hwp PP (Go.convert T_string T_sl_uint8 (.string body0)) (fun v_1 h2 => ∃ (t12 : OA) (t12n t12c : Nat), v_1 = (.slice t12 t12n t12c) ∧
 SpecH PP F_ref15_Mac [(.slice t10 t10n t10c), (.slice t12 t12n t12c)] h2 (fun v_2 h3 => ∃ (t13 : List Value), v_2 = (.agg (t13).toArray) ∧
 let m5 : Addr := ⟨Array.size h3, 0, none⟩
 let h4 : Heap := Array.push h3 (.cells (Array.replicate 32 (.int .u8 0)) T_32_uint8 (0, 0))
 br (decide (Array.size (List.toArray t13) = 32)) (wrCells m5 0 t13 (fun h5 =>
 L1 m5 (⟨#[48, 49, 50, 51, 52, 53, 54, 55, 56, 57, 97, 98, 99, 100, 101, 102]⟩ : ByteArray) (⟨#[]⟩ : ByteArray) 0 (K1 Q) h5) h4) False)) h1) h) : SpecH PP F_ref16_Digits [(.string body0), (.string secret1)] h Q :=
   spec_of_txt (ann := ann) Tryz.func27 rfl rfl (by kernel_rfl) H
end ref16_Digits
/-! ### strings.Split: function 28 -/
namespace strings_Split
def ann : Ann := (.seq 3 (.region [(List.range 1, 3)]) (.seq 16 (.region [(List.range 4, 16)]) (.exit 16)))
noncomputable abbrev cd (n : Nat) : Code := sub (bodyOf Tryz.f28) (pth n)
abbrev an (n : Nat) : Ann := subA ann (pth n)
theorem door {s0 sep1 : ByteArray} {Q : VP} {h : Heap} (H :
 SpecH PP F_strings_genSplit [(.string s0), (.string sep1), (.int .i64 0), (.int .i64 (-1))] h (fun v h1 => ∃ (t7 : OA) (t7n t7c : Nat), v = (.slice t7 t7n t7c) ∧
 Q (.slice t7 t7n t7c) h1)) : SpecH PP F_strings_Split [(.string s0), (.string sep1)] h Q :=
   spec_of_txt (ann := ann) Tryz.func28 rfl rfl (by kernel_rfl) H
end strings_Split
/-! ### haversack/token.number: function 29 -/
namespace token_number
def ann : Ann := (.seq 1 (.region [(List.range 2, 1)]) (.seq 49 (.region [(List.range 7, 49)]) (.seq 12 (.region [(List.range 11, 12)]) (.exit 12))))
noncomputable abbrev cd (n : Nat) : Code := sub (bodyOf Tryz.f29) (pth n)
abbrev an (n : Nat) : Ann := subA ann (pth n)
theorem door {s0 : ByteArray} {Q : VP} {h : Heap} (H :
 SpecH PP F_strconv_Atoi [(.string s0)] h (fun v h1 => ∃ (t8 : Int) (t8_1 : Value), v = (.tuple #[(.int .i64 t8), t8_1]) ∧
 hwp PP (do eqGuard .eql T_error (.tmp 12) (.const .nilIface) t8_1 .nilIface; Go.binOp .eql T_error t8_1 .nilIface) (fun v_1 h2 => ∃ (t13 : Bool), v_1 = (.bool t13) ∧
 br t13 (
 SpecH PP F_strconv_Itoa [(.int .i64 t8)] h2 (fun v_2 h3 => ∃ (t16 : ByteArray), v_2 = (.string t16) ∧
 let t18 : Bool := decide (t16 = s0)
 Q (.tuple #[(.int .i64 t8), (.bool t18)]) h3)) (
 Q (.tuple #[(.int .i64 t8), (.bool false)]) h2)) h1)) : SpecH PP F_token_number [(.string s0)] h Q :=
   spec_of_txt (ann := ann) Tryz.func29 rfl rfl (by kernel_rfl) H
end token_number
/-! ### haversack/haversackref16.parts: function 31 -/
namespace ref16_parts
def ann : Ann := (.seq 1 (.region [(List.range 1, 1)]) (.seq 9 (.region [(List.range 1, 9)]) (.seq 25 (.region [(List.range 1, 25)]) (.seq 8 (.seq 57 (.region [(List.range 1, 57)]) (.block (.loop 57 (.seq 57 (.seq 569 (.region [(List.range 4, 569)]) (.cond .leaf (.exit 8))) (.seq 57 (.block (.seq 2097209 (.region [(List.range 10, 2097209)]) (.join (.cond (.seq 41 (.region [(List.range 8, 41)]) (.region [(List.range 3, 57)])) .leaf)))) (.join (.region [(List.range 3, 57)]))))))) (.seq 4 (.region [(List.range 2, 4)]) (.exit 4))))))
noncomputable abbrev cd (n : Nat) : Code := sub (bodyOf Tryz.f31) (pth n)
abbrev an (n : Nat) : Ann := subA ann (pth n)
@[irreducible] def X0 (out3 : OA) (out3n out3c : Nat) : Fr := (mkFr 0 32 [(3, (.slice out3 out3n out3c))])
@[irreducible] def L1 (s0 : ByteArray) (out3 : OA) (out3n out3c : Nat) (from4 i5 : Int) (K : EP) (h : Heap) : Prop := Lp PP true (cd 244) (mkFr 0 32 [(0, (.string s0)), (3, (.slice out3 out3n out3c)), (4, (.int .i64 from4)), (5, (.int .i64 i5))]) K h
@[irreducible] def B1 (K : EP) : EP := seqK (fun fr h => Lp PP true (cd 244) (fr.mask 57) K h) K
@[irreducible] def K4 (K : EP) : EP := seqK (fun fr h => Jn PP true (cd 979) (fr.mask 57) (B1 K) h) (B1 K)
@[irreducible] def K2 (K : EP) : EP := blockK 1 (K4 K)
@[irreducible] def J1 (s0 : ByteArray) (out3 : OA) (out3n out3c : Nat) (from4 i5 : Int) (t21 : Bool) (K : EP) (h : Heap) : Prop := Jn PP true (cd 3913) (mkFr 0 32 [(0, (.string s0)), (3, (.slice out3 out3n out3c)), (4, (.int .i64 from4)), (5, (.int .i64 i5)), (21, (.bool t21))]) (K2 K) h
@[irreducible] def K3 (Q : VP) : EP := seqK (fun fr h => ev PP true none (cd 31) (an 31) (fr.mask 8) (bodyK PP Tryz.f31 Q) h) (bodyK PP Tryz.f31 Q)
@[irreducible] def K1 (Q : VP) : EP := blockK 0 (K3 Q)
@[irreducible] def J2 (s0 : ByteArray) (out3 : OA) (out3n out3c : Nat) (from4 i5 : Int) (K : EP) (h : Heap) : Prop := Jn PP true (cd 979) (mkFr 0 32 [(0, (.string s0)), (3, (.slice out3 out3n out3c)), (4, (.int .i64 from4)), (5, (.int .i64 i5))]) (B1 K) h
theorem L1_of {s0 : ByteArray} {out3 : OA} {out3n out3c : Nat} {from4 i5 : Int} {K : EP} {h : Heap} (H :
 let t8 : Int := (ByteArray.size s0 : Int)
 let t9 : Bool := decide (i5 ≤ t8)
 br t9 (
 let t14 : Int := (ByteArray.size s0 : Int)
 let t15 : Bool := (i5 == t14)
 br t15 (
 J1 s0 out3 out3n out3c from4 i5 true K h) (
 hwp PP (Instr.index T_string (.string s0) (.int .i64 i5)) (fun v h1 => ∃ (t19 : Int), v = (.int .u8 t19) ∧
 let t20 : Bool := (t19 == 46)
 J1 s0 out3 out3n out3c from4 i5 t20 K h1) h)) (
 K (.exit 0) (X0 out3 out3n out3c) h)) : L1 s0 out3 out3n out3c from4 i5 K h := by unfold L1; exact Lp.of_txt (an 244) 57 (by kernel_rfl) H
theorem L1_X0 {Q : VP} {out3 : OA} {out3n out3c : Nat} {h : Heap} (H :
 Q (.slice out3 out3n out3c) h) : (K1 Q) (.exit 0) (X0 out3 out3n out3c) h := of_eq_txt (by kernel_rfl) H
theorem J1_of {s0 : ByteArray} {out3 : OA} {out3n out3c : Nat} {from4 i5 : Int} {t21 : Bool} {K : EP} {h : Heap} (H :
 br t21 (
 hwp PP (Instr.sliceAt T_string (.string s0) (some (.int .i64 from4)) (some (.int .i64 i5)) none) (fun v h1 => ∃ (t26 : ByteArray), v = (.string t26) ∧
 let h2 : Heap := Array.push h1 (.cells #[(.string t26)] T_string (0, 0))
 hwp PP (Builtin.append_ #[T_sl_string, T_sl_string] T_sl_string #[(.slice out3 out3n out3c), (.slice (some ⟨Array.size h1, 0, none⟩) 1 1)]) (fun v_1 h3 => ∃ (t28 : OA) (t28n t28c : Nat), v_1 = (.slice t28 t28n t28c) ∧
 let t30 : Int := IntKind.i64.wrap (i5 + 1)
 J2 s0 t28 t28n t28c t30 i5 K h3) h2) h) (
 J2 s0 out3 out3n out3c from4 i5 K h)) : J1 s0 out3 out3n out3c from4 i5 t21 K h := by unfold J1; exact Jn.of_txt (an 3913) (by kernel_rfl) H
theorem J2_of {s0 : ByteArray} {out3 : OA} {out3n out3c : Nat} {from4 i5 : Int} {K : EP} {h : Heap} (H :
 let t11 : Int := IntKind.i64.wrap (i5 + 1)
 L1 s0 out3 out3n out3c from4 t11 K h) : J2 s0 out3 out3n out3c from4 i5 K h := by unfold J2; exact Jn.of_txt (an 979) (by kernel_rfl) H
theorem door {s0 : ByteArray} {Q : VP} {h : Heap} (H :
 L1 s0 none 0 0 0 0 (K1 Q) h) : SpecH PP F_ref16_parts [(.string s0)] h Q :=
   spec_of_txt (ann := ann) Tryz.func31 rfl rfl (by kernel_rfl) H
end ref16_parts
/-! ### haversack/haversackref16.value: function 32 -/
namespace ref16_value
def ann : Ann := (.seq 1 (.region [(List.range 1, 1)]) (.seq 1 (.seq 4194305 (.region [(List.range 18, 4194305)]) (.join (.cond (.seq 4 (.region [(List.range 1, 4)]) (.exit 4)) .leaf))) (.seq 9 (.region [(List.range 1, 9)]) (.seq 8 (.seq 25 (.region [(List.range 1, 25)]) (.block (.loop 25 (.seq 25 (.seq 67108889 (.region [(List.range 4, 67108889)]) (.cond .leaf (.exit 8))) (.seq 25 (.block (.seq 25 (.seq 274877906969 (.region [(List.range 10, 274877906969)]) (.join (.cond (.seq 4 (.region [(List.range 1, 4)]) (.exit 4)) .leaf))) (.region [(List.range 9, 25)]))) (.region [(List.range 3, 25)])))))) (.seq 4 (.region [(List.range 2, 4)]) (.exit 4))))))
noncomputable abbrev cd (n : Nat) : Code := sub (bodyOf Tryz.f32) (pth n)
abbrev an (n : Nat) : Ann := subA ann (pth n)
@[irreducible] def X0 (xn3 : Int) : Fr := (mkFr 0 48 [(3, (.int .i64 xn3))])
@[irreducible] def Xret (t2 : Int) : Fr := (mkFr 0 48 [(2, (.int .i64 t2))])
@[irreducible] def K1 (Q : VP) : EP := seqK (fun fr h => ev PP true none (cd 7) (an 7) (fr.mask 1) (bodyK PP Tryz.f32 Q) h) (bodyK PP Tryz.f32 Q)
@[irreducible] def J1 (s0 : ByteArray) (t22 : Bool) (Q : VP) (h : Heap) : Prop := Jn PP true (cd 13) (mkFr 0 48 [(0, (.string s0)), (22, (.bool t22))]) (K1 Q) h
@[irreducible] def K3 (Q : VP) : EP := seqK (fun fr h => ev PP true none (cd 31) (an 31) (fr.mask 8) (bodyK PP Tryz.f32 Q) h) (bodyK PP Tryz.f32 Q)
@[irreducible] def K2 (Q : VP) : EP := blockK 0 (K3 Q)
@[irreducible] def L1 (s0 : ByteArray) (xn3 i4 : Int) (K : EP) (h : Heap) : Prop := Lp PP true (cd 244) (mkFr 0 48 [(0, (.string s0)), (3, (.int .i64 xn3)), (4, (.int .i64 i4))]) K h
@[irreducible] def B1 (K : EP) : EP := seqK (fun fr h => Lp PP true (cd 244) (fr.mask 25) K h) K
@[irreducible] def K6 (K : EP) : EP := seqK (fun fr h => ev PP true none (cd 979) (an 979) (fr.mask 25) (B1 K) h) (B1 K)
@[irreducible] def K5 (K : EP) : EP := blockK 1 (K6 K)
@[irreducible] def K4 (K : EP) : EP := seqK (fun fr h => ev PP true none (cd 3913) (an 3913) (fr.mask 25) (K5 K) h) (K5 K)
@[irreducible] def J2 (s0 : ByteArray) (xn3 i4 : Int) (t38 : Bool) (K : EP) (h : Heap) : Prop := Jn PP true (cd 7825) (mkFr 0 48 [(0, (.string s0)), (3, (.int .i64 xn3)), (4, (.int .i64 i4)), (38, (.bool t38))]) (K4 K) h
theorem J1_of {s0 : ByteArray} {t22 : Bool} {Q : VP} {h : Heap} (H :
 br t22 (
 Q (.int .i64 (-1)) h) (
 L1 s0 0 0 (K2 Q) h)) : J1 s0 t22 Q h := by unfold J1; exact Jn.of_txt (an 13) (by kernel_rfl) H
theorem L1_of {s0 : ByteArray} {xn3 i4 : Int} {K : EP} {h : Heap} (H :
 let t25 : Int := (ByteArray.size s0 : Int)
 let t26 : Bool := decide (i4 < t25)
 br t26 (
 hwp PP (Instr.index T_string (.string s0) (.int .i64 i4)) (fun v h1 => ∃ (t31 : Int), v = (.int .u8 t31) ∧
 let t32 : Bool := decide (t31 < 48)
 br t32 (
 J2 s0 xn3 i4 true K h1) (
 hwp PP (Instr.index T_string (.string s0) (.int .i64 i4)) (fun v_1 h2 => ∃ (t36 : Int), v_1 = (.int .u8 t36) ∧
 let t37 : Bool := decide (t36 > 57)
 J2 s0 xn3 i4 t37 K h2) h1)) h) (
 K (.exit 0) (X0 xn3) h)) : L1 s0 xn3 i4 K h := by unfold L1; exact Lp.of_txt (an 244) 25 (by kernel_rfl) H
theorem L1_X0 {Q : VP} {xn3 : Int} {h : Heap} (H :
 Q (.int .i64 xn3) h) : (K2 Q) (.exit 0) (X0 xn3) h := of_eq_txt (by kernel_rfl) H
theorem J2_of {s0 : ByteArray} {xn3 i4 : Int} {t38 : Bool} {K : EP} {h : Heap} (H :
 br t38 (
 K .ret (Xret (-1)) h) (
 let t40 : Int := IntKind.i64.wrap (10 * xn3)
 hwp PP (Instr.index T_string (.string s0) (.int .i64 i4)) (fun v h1 => ∃ (t43 : Int), v = (.int .u8 t43) ∧
 let t44 : Int := IntKind.u8.wrap (t43 - 48)
 let t45 : Int := IntKind.i64.wrap t44
 let t46 : Int := IntKind.i64.wrap (t40 + t45)
 let t28 : Int := IntKind.i64.wrap (i4 + 1)
 L1 s0 t46 t28 K h1) h)) : J2 s0 xn3 i4 t38 K h := by unfold J2; exact Jn.of_txt (an 7825) (by kernel_rfl) H
theorem L1_Xret {Q : VP} {t2 : Int} {h : Heap} (H :
 Q (.int .i64 t2) h) : (K2 Q) .ret (Xret t2) h := of_eq_txt (by kernel_rfl) H
theorem door {s0 : ByteArray} {Q : VP} {h : Heap} (H :
 let t6 : Int := (ByteArray.size s0 : Int)
 let t7 : Bool := decide (t6 < 1)
 br t7 (
 J1 s0 true Q h) (
 let t10 : Int := (ByteArray.size s0 : Int)
 let t11 : Bool := decide (t10 > 10)
 br t11 (
 J1 s0 true Q h) (
 let t15 : Int := (ByteArray.size s0 : Int)
 let t16 : Bool := decide (t15 > 1)
 br t16 (
 hwp PP (Instr.index T_string (.string s0) (.int .i64 0)) (fun v h1 => ∃ (t19 : Int), v = (.int .u8 t19) ∧
 let t20 : Bool := (t19 == 48)
 J1 s0 t20 Q h1) h) (
 J1 s0 false Q h)))) : SpecH PP F_ref16_value [(.string s0)] h Q :=
   spec_of_txt (ann := ann) Tryz.func32 rfl rfl (by kernel_rfl) H
end ref16_value
/-! ### haversack/haversackref16.mac: function 33 -/
namespace ref16_mac
def ann : Ann := (.seq 1 (.region [(List.range 1, 1)]) (.seq 1 (.seq 65 (.region [(List.range 3, 65)]) (.cond (.seq 4 (.region [(List.range 1, 4)]) (.exit 4)) .leaf)) (.seq 0 (.seq 9 (.region [(List.range 1, 9)]) (.block (.loop 9 (.seq 9 (.seq 265 (.region [(List.range 2, 265)]) (.cond .leaf (.exit 0))) (.seq 9 (.block (.seq 4294967305 (.region [(List.range 22, 4294967305)]) (.join (.cond (.seq 4 (.region [(List.range 1, 4)]) (.exit 4)) .leaf)))) (.region [(List.range 3, 9)])))))) (.seq 4 (.region [(List.range 1, 4)]) (.exit 4)))))
noncomputable abbrev cd (n : Nat) : Code := sub (bodyOf Tryz.f33) (pth n)
abbrev an (n : Nat) : Ann := subA ann (pth n)
@[irreducible] def X0  : Fr := (mkFr 0 33 [])
@[irreducible] def Xret (t2 : Bool) : Fr := (mkFr 0 33 [(2, (.bool t2))])
@[irreducible] def L1 (s0 : ByteArray) (i3 : Int) (K : EP) (h : Heap) : Prop := Lp PP true (cd 116) (mkFr 0 33 [(0, (.string s0)), (3, (.int .i64 i3))]) K h
@[irreducible] def B1 (K : EP) : EP := seqK (fun fr h => Lp PP true (cd 116) (fr.mask 9) K h) K
@[irreducible] def K4 (K : EP) : EP := seqK (fun fr h => ev PP true none (cd 467) (an 467) (fr.mask 9) (B1 K) h) (B1 K)
@[irreducible] def K2 (K : EP) : EP := blockK 1 (K4 K)
@[irreducible] def J1 (s0 : ByteArray) (i3 : Int) (t32 : Bool) (K : EP) (h : Heap) : Prop := Jn PP true (cd 1865) (mkFr 0 33 [(0, (.string s0)), (3, (.int .i64 i3)), (32, (.bool t32))]) (K2 K) h
@[irreducible] def K3 (Q : VP) : EP := seqK (fun fr h => ev PP true none (cd 15) (an 15) (fr.mask 0) (bodyK PP Tryz.f33 Q) h) (bodyK PP Tryz.f33 Q)
@[irreducible] def K1 (Q : VP) : EP := blockK 0 (K3 Q)
theorem L1_of {s0 : ByteArray} {i3 : Int} {K : EP} {h : Heap} (H :
 let t8 : Bool := decide (i3 < 64)
 br t8 (
 hwp PP (Instr.index T_string (.string s0) (.int .i64 i3)) (fun v h1 => ∃ (t13 : Int), v = (.int .u8 t13) ∧
 let t14 : Bool := decide (t13 < 48)
 br t14 (
 hwp PP (Instr.index T_string (.string s0) (.int .i64 i3)) (fun v_1 h2 => ∃ (t24 : Int), v_1 = (.int .u8 t24) ∧
 let t25 : Bool := decide (t24 < 97)
 br t25 (
 J1 s0 i3 true K h2) (
 hwp PP (Instr.index T_string (.string s0) (.int .i64 i3)) (fun v_2 h3 => ∃ (t29 : Int), v_2 = (.int .u8 t29) ∧
 let t30 : Bool := decide (t29 > 102)
 J1 s0 i3 t30 K h3) h2)) h1) (
 hwp PP (Instr.index T_string (.string s0) (.int .i64 i3)) (fun v_3 h4 => ∃ (t18 : Int), v_3 = (.int .u8 t18) ∧
 let t19 : Bool := decide (t18 > 57)
 br t19 (
 hwp PP (Instr.index T_string (.string s0) (.int .i64 i3)) (fun v_4 h5 => ∃ (t24_1 : Int), v_4 = (.int .u8 t24_1) ∧
 let t25_1 : Bool := decide (t24_1 < 97)
 br t25_1 (
 J1 s0 i3 true K h5) (
 hwp PP (Instr.index T_string (.string s0) (.int .i64 i3)) (fun v_5 h6 => ∃ (t29_1 : Int), v_5 = (.int .u8 t29_1) ∧
 let t30_1 : Bool := decide (t29_1 > 102)
 J1 s0 i3 t30_1 K h6) h5)) h4) (
 J1 s0 i3 false K h4)) h1)) h) (
 K (.exit 0) (X0) h)) : L1 s0 i3 K h := by unfold L1; exact Lp.of_txt (an 116) 9 (by kernel_rfl) H
theorem L1_X0 {Q : VP}  {h : Heap} (H :
 Q (.bool true) h) : (K1 Q) (.exit 0) (X0 ) h := of_eq_txt (by kernel_rfl) H
theorem J1_of {s0 : ByteArray} {i3 : Int} {t32 : Bool} {K : EP} {h : Heap} (H :
 br t32 (
 K .ret (Xret false) h) (
 let t10 : Int := IntKind.i64.wrap (i3 + 1)
 L1 s0 t10 K h)) : J1 s0 i3 t32 K h := by unfold J1; exact Jn.of_txt (an 1865) (by kernel_rfl) H
theorem L1_Xret {Q : VP} {t2 : Bool} {h : Heap} (H :
 Q (.bool t2) h) : (K1 Q) .ret (Xret t2) h := of_eq_txt (by kernel_rfl) H
theorem door {s0 : ByteArray} {Q : VP} {h : Heap} (H :
 let t5 : Int := (ByteArray.size s0 : Int)
 let t6 : Bool := (t5 != 64)
 br t6 (
 Q (.bool false) h) (
 L1 s0 0 (K1 Q) h)) : SpecH PP F_ref16_mac [(.string s0)] h Q :=
   spec_of_txt (ann := ann) Tryz.func33 rfl rfl (by kernel_rfl) H
end ref16_mac
/-! ### haversack/token.short: function 34 -/
namespace token_short
def ann : Ann := (.seq 1 (.region [(List.range 1, 1)]) (.seq 4 (.region [(List.range 13, 4)]) (.exit 4)))
noncomputable abbrev cd (n : Nat) : Code := sub (bodyOf Tryz.f34) (pth n)
abbrev an (n : Nat) : Ann := subA ann (pth n)
theorem door {s0 : ByteArray} {Q : VP} {h : Heap} (H :
 let t4 : Bool := (!decide (s0 = (⟨#[]⟩ : ByteArray)))
 br t4 (
 let t7 : Int := (ByteArray.size s0 : Int)
 let t8 : Bool := decide (t7 ≤ 16)
 br t8 (
 SpecH PP F_strings_Trim [(.string s0), (.string (⟨#[97, 98, 99, 100, 101, 102, 103, 104, 105, 106, 107, 108, 109, 110, 111, 112, 113, 114, 115, 116, 117, 118, 119, 120, 121, 122, 48, 49, 50, 51, 52, 53, 54, 55, 56, 57, 45]⟩ : ByteArray))] h (fun v h1 => ∃ (t12 : ByteArray), v = (.string t12) ∧
 let t13 : Bool := decide (t12 = (⟨#[]⟩ : ByteArray))
 Q (.bool t13) h1)) (
 Q (.bool false) h)) (
 Q (.bool false) h)) : SpecH PP F_token_short [(.string s0)] h Q :=
   spec_of_txt (ann := ann) Tryz.func34 rfl rfl (by kernel_rfl) H
end token_short
/-! ### haversack/haversackref16.Check: function 35 -/
namespace ref16_Check
def ann : Ann := (.seq 1 (.region [(List.range 1, 1)]) (.seq 1 (.seq 129 (.region [(List.range 3, 129)]) (.cond (.seq 4 (.region [(List.range 1, 4)]) (.exit 4)) .leaf)) (.seq 0 (.seq 9 (.region [(List.range 1, 9)]) (.block (.loop 9 (.seq 9 (.seq 2057 (.region [(List.range 4, 2057)]) (.cond .leaf (.exit 0))) (.seq 9 (.block (.seq 9 (.seq 140737488355337 (.region [(List.range 34, 140737488355337)]) (.join (.cond (.seq 4 (.region [(List.range 1, 4)]) (.exit 4)) .leaf))) (.seq 25 (.region [(List.range 1, 25)]) (.block (.loop 25 (.seq 25 (.seq 1125899906842649 (.region [(List.range 3, 1125899906842649)]) (.cond .leaf (.exit 9))) (.seq 25 (.block (.seq 9223372036854775833 (.region [(List.range 11, 9223372036854775833)]) (.cond (.seq 4 (.region [(List.range 1, 4)]) (.exit 4)) .leaf))) (.region [(List.range 3, 25)])))))))) (.region [(List.range 3, 9)])))))) (.seq 4 (.region [(List.range 1, 4)]) (.exit 4)))))
noncomputable abbrev cd (n : Nat) : Code := sub (bodyOf Tryz.f35) (pth n)
abbrev an (n : Nat) : Ann := subA ann (pth n)
@[irreducible] def X0  : Fr := (mkFr 0 64 [])
@[irreducible] def Xret (t2 : Int) : Fr := (mkFr 0 64 [(2, (.int .i64 t2))])
@[irreducible] def X2 (xl0 : OA) (xl0n xl0c : Nat) (i3 : Int) : Fr := (mkFr 0 64 [(0, (.slice xl0 xl0n xl0c)), (3, (.int .i64 i3))])
@[irreducible] def L1 (xl0 : OA) (xl0n xl0c : Nat) (i3 : Int) (K : EP) (h : Heap) : Prop := Lp PP true (cd 116) (mkFr 0 64 [(0, (.slice xl0 xl0n xl0c)), (3, (.int .i64 i3))]) K h
@[irreducible] def B1 (K : EP) : EP := seqK (fun fr h => Lp PP true (cd 116) (fr.mask 9) K h) K
@[irreducible] def K6 (K : EP) : EP := seqK (fun fr h => ev PP true none (cd 467) (an 467) (fr.mask 9) (B1 K) h) (B1 K)
@[irreducible] def K5 (K : EP) : EP := blockK 1 (K6 K)
@[irreducible] def K2 (K : EP) : EP := seqK (fun fr h => ev PP true none (cd 1865) (an 1865) (fr.mask 9) (K5 K) h) (K5 K)
@[irreducible] def J1 (xl0 : OA) (xl0n xl0c : Nat) (i3 : Int) (t47 : Bool) (K : EP) (h : Heap) : Prop := Jn PP true (cd 3729) (mkFr 0 64 [(0, (.slice xl0 xl0n xl0c)), (3, (.int .i64 i3)), (47, (.bool t47))]) (K2 K) h
@[irreducible] def K4 (Q : VP) : EP := seqK (fun fr h => ev PP true none (cd 15) (an 15) (fr.mask 0) (bodyK PP Tryz.f35 Q) h) (bodyK PP Tryz.f35 Q)
@[irreducible] def K1 (Q : VP) : EP := blockK 0 (K4 Q)
@[irreducible] def K3 (K : EP) : EP := blockK 2 (K5 K)
@[irreducible] def L2 (xl0 : OA) (xl0n xl0c : Nat) (i3 k4 : Int) (K : EP) (h : Heap) : Prop := Lp PP true (cd 14924) (mkFr 0 64 [(0, (.slice xl0 xl0n xl0c)), (3, (.int .i64 i3)), (4, (.int .i64 k4))]) K h
@[irreducible] def B2 (K : EP) : EP := seqK (fun fr h => Lp PP true (cd 14924) (fr.mask 25) K h) K
theorem L1_of {xl0 : OA} {xl0n xl0c : Nat} {i3 : Int} {K : EP} {h : Heap} (H :
 let t11 : Bool := decide (i3 < (xl0n : Int))
 br t11 (
 hwp PP (Instr.indexAt T_sl_api_Tenant (.slice xl0 xl0n xl0c) (.int .i64 i3)) (fun v h1 => ∃ (t16 : Addr), v = (.pointer (some t16)) ∧
 ∃ (t18 : ByteArray), cellH h1 t16 = some (.string t18) ∧
 SpecH PP F_ref14_Short [(.string t18)] h1 (fun v_1 h2 => ∃ (t19 : Bool), v_1 = (.bool t19) ∧
 let t20 : Bool := (!t19)
 br t20 (
 J1 xl0 xl0n xl0c i3 true K h2) (
 hwp PP (Instr.indexAt T_sl_api_Tenant (.slice xl0 xl0n xl0c) (.int .i64 i3)) (fun v_2 h3 => ∃ (t24 : Addr), v_2 = (.pointer (some t24)) ∧
 ∃ (t26 : ByteArray), cellH h3 (Addr.add t24 1) = some (.string t26) ∧
 let t27 : Int := (ByteArray.size t26 : Int)
 let t28 : Bool := decide (t27 > 64)
 br t28 (
 J1 xl0 xl0n xl0c i3 true K h3) (
 hwp PP (Instr.indexAt T_sl_api_Tenant (.slice xl0 xl0n xl0c) (.int .i64 i3)) (fun v_3 h4 => ∃ (t33 : Addr), v_3 = (.pointer (some t33)) ∧
 ∃ (t35 : Int), cellH h4 (Addr.add t33 2) = some (.int .i64 t35) ∧
 ∃ v_4, PureAt PP F_ref16_within [(.int .i64 t35)] v_4 ∧
 ∃ (t36 : Bool), v_4 = (.bool t36) ∧
 let t37 : Bool := (!t36)
 br t37 (
 J1 xl0 xl0n xl0c i3 true K h4) (
 hwp PP (Instr.indexAt T_sl_api_Tenant (.slice xl0 xl0n xl0c) (.int .i64 i3)) (fun v_5 h5 => ∃ (t42 : Addr), v_5 = (.pointer (some t42)) ∧
 ∃ (t44 : Int), cellH h5 (Addr.add t42 3) = some (.int .i64 t44) ∧
 ∃ v_6, PureAt PP F_ref16_within [(.int .i64 t44)] v_6 ∧
 ∃ (t45 : Bool), v_6 = (.bool t45) ∧
 let t46 : Bool := (!t45)
 J1 xl0 xl0n xl0c i3 t46 K h5) h4)) h3)) h2))) h) (
 K (.exit 0) (X0) h)) : L1 xl0 xl0n xl0c i3 K h := by unfold L1; exact Lp.of_txt (an 116) 9 (by kernel_rfl) H
theorem L1_X0 {Q : VP}  {h : Heap} (H :
 Q (.int .i64 0) h) : (K1 Q) (.exit 0) (X0 ) h := of_eq_txt (by kernel_rfl) H
theorem J1_of {xl0 : OA} {xl0n xl0c : Nat} {i3 : Int} {t47 : Bool} {K : EP} {h : Heap} (H :
 br t47 (
 K .ret (Xret 1) h) (
 L2 xl0 xl0n xl0c i3 0 (K3 K) h)) : J1 xl0 xl0n xl0c i3 t47 K h := by unfold J1; exact Jn.of_txt (an 3729) (by kernel_rfl) H
theorem L1_Xret {Q : VP} {t2 : Int} {h : Heap} (H :
 Q (.int .i64 t2) h) : (K1 Q) .ret (Xret t2) h := of_eq_txt (by kernel_rfl) H
theorem L2_of {xl0 : OA} {xl0n xl0c : Nat} {i3 k4 : Int} {K : EP} {h : Heap} (H :
 let t50 : Bool := decide (k4 < i3)
 br t50 (
 hwp PP (Instr.indexAt T_sl_api_Tenant (.slice xl0 xl0n xl0c) (.int .i64 k4)) (fun v h1 => ∃ (t55 : Addr), v = (.pointer (some t55)) ∧
 ∃ (t57 : ByteArray), cellH h1 t55 = some (.string t57) ∧
 hwp PP (Instr.indexAt T_sl_api_Tenant (.slice xl0 xl0n xl0c) (.int .i64 i3)) (fun v_1 h2 => ∃ (t60 : Addr), v_1 = (.pointer (some t60)) ∧
 ∃ (t62 : ByteArray), cellH h2 t60 = some (.string t62) ∧
 let t63 : Bool := decide (t57 = t62)
 br t63 (
 K .ret (Xret 1) h2) (
 let t52 : Int := IntKind.i64.wrap (k4 + 1)
 L2 xl0 xl0n xl0c i3 t52 K h2)) h1) h) (
 K (.exit 2) (X2 xl0 xl0n xl0c i3) h)) : L2 xl0 xl0n xl0c i3 k4 K h := by unfold L2; exact Lp.of_txt (an 14924) 25 (by kernel_rfl) H
theorem L2_Xret {K : EP} {t2 : Int} {h : Heap} (H :
 K .ret (Xret t2) h) : (K3 K) .ret (Xret t2) h := of_eq_txt (by kernel_rfl) H
theorem L2_X2 {K : EP} {xl0 : OA} {xl0n xl0c : Nat} {i3 : Int} {h : Heap} (H :
 let t13 : Int := IntKind.i64.wrap (i3 + 1)
 L1 xl0 xl0n xl0c t13 K h) : (K3 K) (.exit 2) (X2 xl0 xl0n xl0c i3) h := of_eq_txt (by kernel_rfl) H
theorem door {xl0 : OA} {xl0n xl0c : Nat} {Q : VP} {h : Heap} (H :
 let t7 : Bool := decide ((xl0n : Int) > 8)
 br t7 (
 Q (.int .i64 2) h) (
 L1 xl0 xl0n xl0c 0 (K1 Q) h)) : SpecH PP F_ref16_Check [(.slice xl0 xl0n xl0c)] h Q :=
   spec_of_txt (ann := ann) Tryz.func35 rfl rfl (by kernel_rfl) H
end ref16_Check
/-! ### (*haversack/haversackref16.Book).secret: function 36 -/
namespace ref16_Book_secret
def ann : Ann := (.seq 3 (.region [(List.range 2, 3)]) (.seq 0 (.seq 67 (.region [(List.range 1, 67)]) (.block (.loop 67 (.seq 67 (.seq 8259 (.region [(List.range 7, 8259)]) (.cond .leaf (.exit 0))) (.seq 67 (.block (.seq 33554499 (.region [(List.range 10, 33554499)]) (.cond (.seq 48 (.region [(List.range 10, 48)]) (.exit 48)) .leaf))) (.region [(List.range 3, 67)])))))) (.seq 48 (.region [(List.range 2, 48)]) (.exit 48))))
noncomputable abbrev cd (n : Nat) : Code := sub (bodyOf Tryz.f36) (pth n)
abbrev an (n : Nat) : Ann := subA ann (pth n)
@[irreducible] def Xret (t4 : ByteArray) (t5 : Bool) : Fr := (mkFr 0 34 [(4, (.string t4)), (5, (.bool t5))])
@[irreducible] def X0  : Fr := (mkFr 0 34 [])
@[irreducible] def L1 (b0 : OA) (tenant1 : ByteArray) (i6 : Int) (K : EP) (h : Heap) : Prop := Lp PP true (cd 52) (mkFr 0 34 [(0, (.pointer b0)), (1, (.string tenant1)), (6, (.int .i64 i6))]) K h
@[irreducible] def B1 (K : EP) : EP := seqK (fun fr h => Lp PP true (cd 52) (fr.mask 67) K h) K
@[irreducible] def K2 (Q : VP) : EP := seqK (fun fr h => ev PP true none (cd 7) (an 7) (fr.mask 0) (bodyK PP Tryz.f36 Q) h) (bodyK PP Tryz.f36 Q)
@[irreducible] def K1 (Q : VP) : EP := blockK 0 (K2 Q)
theorem L1_of {b0 : OA} {tenant1 : ByteArray} {i6 : Int} {K : EP} {h : Heap} (H :
 nilc b0 (fun t9 =>
 ∃ (t11 : OA) (t11n t11c : Nat), cellH h t9 = some (.slice t11 t11n t11c) ∧
 let t13 : Bool := decide (i6 < (t11n : Int))
 br t13 (
 nilc b0 (fun t17 =>
 ∃ (t19 : OA) (t19n t19c : Nat), cellH h t17 = some (.slice t19 t19n t19c) ∧
 hwp PP (Instr.indexAt T_sl_api_Tenant (.slice t19 t19n t19c) (.int .i64 i6)) (fun v h1 => ∃ (t21 : Addr), v = (.pointer (some t21)) ∧
 ∃ (t23 : ByteArray), cellH h1 t21 = some (.string t23) ∧
 let t25 : Bool := decide (t23 = tenant1)
 br t25 (
 nilc b0 (fun t27 =>
 ∃ (t29 : OA) (t29n t29c : Nat), cellH h1 t27 = some (.slice t29 t29n t29c) ∧
 hwp PP (Instr.indexAt T_sl_api_Tenant (.slice t29 t29n t29c) (.int .i64 i6)) (fun v_1 h2 => ∃ (t31 : Addr), v_1 = (.pointer (some t31)) ∧
 ∃ (t33 : ByteArray), cellH h2 (Addr.add t31 1) = some (.string t33) ∧
 K .ret (Xret t33 true) h2) h1)) (
 let t15 : Int := IntKind.i64.wrap (i6 + 1)
 L1 b0 tenant1 t15 K h1)) h)) (
 K (.exit 0) (X0) h))) : L1 b0 tenant1 i6 K h := by unfold L1; exact Lp.of_txt (an 52) 67 (by kernel_rfl) H
theorem L1_Xret {Q : VP} {t4 : ByteArray} {t5 : Bool} {h : Heap} (H :
 Q (.tuple #[(.string t4), (.bool t5)]) h) : (K1 Q) .ret (Xret t4 t5) h := of_eq_txt (by kernel_rfl) H
theorem L1_X0 {Q : VP}  {h : Heap} (H :
 Q (.tuple #[(.string (⟨#[]⟩ : ByteArray)), (.bool false)]) h) : (K1 Q) (.exit 0) (X0 ) h := of_eq_txt (by kernel_rfl) H
theorem door {b0 : OA} {tenant1 : ByteArray} {Q : VP} {h : Heap} (H :
 L1 b0 tenant1 0 (K1 Q) h) : SpecH PP F_ref16_Book_secret [(.pointer b0), (.string tenant1)] h Q :=
   spec_of_txt (ann := ann) Tryz.func36 rfl rfl (by kernel_rfl) H
end ref16_Book_secret
/-! ### haversack/hmac.Mac: function 41 -/
namespace hmac_Mac
def ann : Ann := (.seq 19 (.region [(List.range 1, 19)]) (.seq 51 (.region [(List.range 1, 51)]) (.seq 51 (.seq 16435 (.region [(List.range 3, 16435)]) (.cond (.seq 114 (.region [(List.range 4, 114)]) (.region [(List.range 2, 51)])) .leaf)) (.join (.seq 50 (.region [(List.range 3, 50)]) (.seq 434 (.region [(List.range 4, 434)]) (.seq 402 (.seq 25166226 (.region [(List.range 2, 25166226)]) (.block (.loop 25166226 (.seq 58720658 (.region [(List.range 1, 58720658)]) (.seq 25166226 (.cond .leaf (.exit 402)) (.seq 25166226 (.block (.seq 25167250 (.region [(List.range 2, 25167250)]) (.seq 25167250 (.region [(List.range 5, 25167250)]) (.region [(List.range 5, 25166226)])))) (.region [(List.range 2, 25166226)]))))))) (.seq 400 (.region [(List.range 3, 400)]) (.seq 2320 (.region [(List.range 4, 2320)]) (.seq 272 (.region [(List.range 3, 272)]) (.seq 16 (.region [(List.range 3, 16)]) (.exit 16))))))))))))
noncomputable abbrev cd (n : Nat) : Code := sub (bodyOf Tryz.f41) (pth n)
abbrev an (n : Nat) : Ann := subA ann (pth n)
@[irreducible] def X0 (b1 : OA) (b1n b1c : Nat) (t4 : Addr) (in7 out8 : OA) : Fr := (mkFr 0 48 [(1, (.slice b1 b1n b1c)), (4, (.pointer (some t4))), (7, (.pointer in7)), (8, (.pointer out8))])
@[irreducible] def J1 (key0 : OA) (key0n key0c : Nat) (b1 : OA) (b1n b1c : Nat) (t4 block5 : Addr) (Q : VP) (h : Heap) : Prop := Jn PP true (cd 15) (mkFr 0 48 [(0, (.slice key0 key0n key0c)), (1, (.slice b1 b1n b1c)), (4, (.pointer (some t4))), (5, (.pointer (some block5)))]) (bodyK PP Tryz.f41 Q) h
@[irreducible] def K2 (Q : VP) : EP := seqK (fun fr h => ev PP true none (cd 127) (an 127) (fr.mask 402) (bodyK PP Tryz.f41 Q) h) (bodyK PP Tryz.f41 Q)
@[irreducible] def K1 (Q : VP) : EP := blockK 0 (K2 Q)
@[irreducible] def L1 (b1 : OA) (b1n b1c : Nat) (t4 : Addr) (in7 out8 : OA) (t23 : List Value) (t24 : Int) (K : EP) (h : Heap) : Prop := Lp PP true (cd 1012) (mkFr 0 48 [(1, (.slice b1 b1n b1c)), (4, (.pointer (some t4))), (7, (.pointer in7)), (8, (.pointer out8)), (23, (.agg (t23).toArray)), (24, (.int .i64 t24))]) K h
@[irreducible] def B1 (K : EP) : EP := seqK (fun fr h => Lp PP true (cd 1012) (fr.mask 25166226) K h) K
theorem J1_of {key0 : OA} {key0n key0c : Nat} {b1 : OA} {b1n b1c : Nat} {t4 block5 : Addr} {Q : VP} {h : Heap} (H :
 hwp PP (Instr.sliceAt T_64_uint8 (.pointer (some block5)) none none none) (fun v h1 => ∃ (t18 : OA) (t18n t18c : Nat), v = (.slice t18 t18n t18c) ∧
 hwp PP (Builtin.copy_ #[T_sl_uint8, T_sl_uint8] T_int #[(.slice t18 t18n t18c), (.slice key0 key0n key0c)]) (fun v_1 h2 => ∃ (t20 : Int), v_1 = (.int .i64 t20) ∧
 SpecH PP F_hmac_New [] h2 (fun v_2 h3 => ∃ (t21 : OA), v_2 = (.pointer t21) ∧
 SpecH PP F_hmac_New [] h3 (fun v_3 h4 => ∃ (t22 : OA), v_3 = (.pointer t22) ∧
 ∃ (t23 : List Value), List.length t23 = 64 ∧ rdCells h4 block5 0 t23 ∧
 L1 b1 b1n b1c t4 t21 t22 t23 0 (K1 Q) h4))) h1) h) : J1 key0 key0n key0c b1 b1n b1c t4 block5 Q h := by unfold J1; exact Jn.of_txt (an 15) (by kernel_rfl) H
theorem L1_of {b1 : OA} {b1n b1c : Nat} {t4 : Addr} {in7 out8 : OA} {t23 : List Value} {t24 : Int} {K : EP} {h : Heap} (H :
 let t25 : Bool := decide (t24 < 64)
 br t25 (
 hwp PP (Instr.index T_64_uint8 (.agg (t23).toArray) (.int .i64 t24)) (fun v h1 => ∃ (t26 : Int), v = (.int .u8 t26) ∧
 let t29 : Int := bXor .u8 t26 54
 let h2 : Heap := Array.push h1 (.cells #[(.int .u8 t29)] T_uint8 (0, 0))
 SpecH PP F_hmac_Hash_Write [(.pointer in7), (.slice (some ⟨Array.size h1, 0, none⟩) 1 1)] h2 (fun v_1 h3 => v_1 = (.tuple #[]) ∧
 let t34 : Int := bXor .u8 t26 92
 let h4 : Heap := Array.push h3 (.cells #[(.int .u8 t34)] T_uint8 (0, 0))
 SpecH PP F_hmac_Hash_Write [(.pointer out8), (.slice (some ⟨Array.size h3, 0, none⟩) 1 1)] h4 (fun v_2 h5 => v_2 = (.tuple #[]) ∧
 let t37 : Int := IntKind.i64.wrap (t24 + 1)
 L1 b1 b1n b1c t4 in7 out8 t23 t37 K h5))) h) (
 K (.exit 0) (X0 b1 b1n b1c t4 in7 out8) h)) : L1 b1 b1n b1c t4 in7 out8 t23 t24 K h := by unfold L1; exact Lp.of_txt (an 1012) 25166226 (by kernel_rfl) H
theorem L1_X0 {Q : VP} {b1 : OA} {b1n b1c : Nat} {t4 : Addr} {in7 out8 : OA} {h : Heap} (H :
 SpecH PP F_hmac_Hash_Write [(.pointer in7), (.slice b1 b1n b1c)] h (fun v h1 => v = (.tuple #[]) ∧
 SpecH PP F_hmac_Hash_Sum [(.pointer in7)] h1 (fun v_1 h2 => ∃ (t42 : List Value), v_1 = (.agg (t42).toArray) ∧
 let d11 : Addr := ⟨Array.size h2, 0, none⟩
 let h3 : Heap := Array.push h2 (.cells (Array.replicate 32 (.int .u8 0)) T_32_uint8 (0, 0))
 br (decide (Array.size (List.toArray t42) = 32)) (wrCells d11 0 t42 (fun h4 =>
 hwp PP (Instr.sliceAt T_32_uint8 (.pointer (some d11)) none none none) (fun v_2 h5 => ∃ (t44 : OA) (t44n t44c : Nat), v_2 = (.slice t44 t44n t44c) ∧
 SpecH PP F_hmac_Hash_Write [(.pointer out8), (.slice t44 t44n t44c)] h5 (fun v_3 h6 => v_3 = (.tuple #[]) ∧
 SpecH PP F_hmac_Hash_Sum [(.pointer out8)] h6 (fun v_4 h7 => ∃ (t47 : List Value), v_4 = (.agg (t47).toArray) ∧
 br (decide (Array.size (List.toArray t47) = 32)) (wrCells t4 0 t47 (fun h8 =>
 ∃ (t4_1 : List Value), List.length t4_1 = 32 ∧ rdCells h8 t4 0 t4_1 ∧
 Q (.agg (t4_1).toArray) h8) h7) False))) h4) h3) False))) : (K1 Q) (.exit 0) (X0 b1 b1n b1c t4 in7 out8) h := of_eq_txt (by kernel_rfl) H
theorem door {key0 : OA} {key0n key0c : Nat} {b1 : OA} {b1n b1c : Nat} {Q : VP} {h : Heap} (H :
 let t4 : Addr := ⟨Array.size h, 0, none⟩
 let h1 : Heap := Array.push h (.cells (Array.replicate 32 (.int .u8 0)) T_32_uint8 (0, 0))
 let block5 : Addr := ⟨Array.size h1, 0, none⟩
 let h2 : Heap := Array.push h1 (.cells (Array.replicate 64 (.int .u8 0)) T_64_uint8 (0, 0))
 let t14 : Bool := decide ((key0n : Int) > 64)
 br t14 (
 SpecH PP F_hmac_Sum [(.slice key0 key0n key0c)] h2 (fun v h3 => ∃ (t16 : List Value), v = (.agg (t16).toArray) ∧
 let d6 : Addr := ⟨Array.size h3, 0, none⟩
 let h4 : Heap := Array.push h3 (.cells (Array.replicate 32 (.int .u8 0)) T_32_uint8 (0, 0))
 br (decide (Array.size (List.toArray t16) = 32)) (wrCells d6 0 t16 (fun h5 =>
 hwp PP (Instr.sliceAt T_32_uint8 (.pointer (some d6)) none none none) (fun v_1 h6 => ∃ (t17 : OA) (t17n t17c : Nat), v_1 = (.slice t17 t17n t17c) ∧
 J1 t17 t17n t17c b1 b1n b1c t4 block5 Q h6) h5) h4) False)) (
 J1 key0 key0n key0c b1 b1n b1c t4 block5 Q h2)) : SpecH PP F_hmac_Mac [(.slice key0 key0n key0c), (.slice b1 b1n b1c)] h Q :=
   spec_of_txt (ann := ann) Tryz.func41 rfl rfl (by kernel_rfl) H
end hmac_Mac
/-! ### haversack/haversackref14.Short: function 42 -/
namespace ref14_Short
def ann : Ann := (.seq 1 (.region [(List.range 1, 1)]) (.seq 1 (.seq 4097 (.region [(List.range 8, 4097)]) (.join (.cond (.seq 4 (.region [(List.range 1, 4)]) (.exit 4)) .leaf))) (.seq 0 (.seq 9 (.region [(List.range 1, 9)]) (.block (.loop 9 (.seq 9 (.seq 65545 (.region [(List.range 4, 65545)]) (.cond .leaf (.exit 0))) (.seq 9 (.block (.seq 25 (.region [(List.range 4, 25)]) (.seq 549755813897 (.region [(List.range 18, 549755813897)]) (.join (.cond (.seq 4 (.region [(List.range 1, 4)]) (.exit 4)) .leaf))))) (.region [(List.range 3, 9)])))))) (.seq 4 (.region [(List.range 1, 4)]) (.exit 4)))))
noncomputable abbrev cd (n : Nat) : Code := sub (bodyOf Tryz.f42) (pth n)
abbrev an (n : Nat) : Ann := subA ann (pth n)
@[irreducible] def X0  : Fr := (mkFr 0 40 [])
@[irreducible] def Xret (t2 : Bool) : Fr := (mkFr 0 40 [(2, (.bool t2))])
@[irreducible] def K1 (Q : VP) : EP := seqK (fun fr h => ev PP true none (cd 7) (an 7) (fr.mask 1) (bodyK PP Tryz.f42 Q) h) (bodyK PP Tryz.f42 Q)
@[irreducible] def J1 (s0 : ByteArray) (t12 : Bool) (Q : VP) (h : Heap) : Prop := Jn PP true (cd 13) (mkFr 0 40 [(0, (.string s0)), (12, (.bool t12))]) (K1 Q) h
@[irreducible] def K3 (Q : VP) : EP := seqK (fun fr h => ev PP true none (cd 15) (an 15) (fr.mask 0) (bodyK PP Tryz.f42 Q) h) (bodyK PP Tryz.f42 Q)
@[irreducible] def K2 (Q : VP) : EP := blockK 0 (K3 Q)
@[irreducible] def L1 (s0 : ByteArray) (i3 : Int) (K : EP) (h : Heap) : Prop := Lp PP true (cd 116) (mkFr 0 40 [(0, (.string s0)), (3, (.int .i64 i3))]) K h
@[irreducible] def B1 (K : EP) : EP := seqK (fun fr h => Lp PP true (cd 116) (fr.mask 9) K h) K
@[irreducible] def K5 (K : EP) : EP := seqK (fun fr h => ev PP true none (cd 467) (an 467) (fr.mask 9) (B1 K) h) (B1 K)
@[irreducible] def K4 (K : EP) : EP := blockK 1 (K5 K)
@[irreducible] def J2 (s0 : ByteArray) (i3 : Int) (t39 : Bool) (K : EP) (h : Heap) : Prop := Jn PP true (cd 3731) (mkFr 0 40 [(0, (.string s0)), (3, (.int .i64 i3)), (39, (.bool t39))]) (K4 K) h
theorem J1_of {s0 : ByteArray} {t12 : Bool} {Q : VP} {h : Heap} (H :
 br t12 (
 Q (.bool false) h) (
 L1 s0 0 (K2 Q) h)) : J1 s0 t12 Q h := by unfold J1; exact Jn.of_txt (an 13) (by kernel_rfl) H
theorem L1_of {s0 : ByteArray} {i3 : Int} {K : EP} {h : Heap} (H :
 let t15 : Int := (ByteArray.size s0 : Int)
 let t16 : Bool := decide (i3 < t15)
 br t16 (
 hwp PP (Instr.index T_string (.string s0) (.int .i64 i3)) (fun v h1 => ∃ (t21 : Int), v = (.int .u8 t21) ∧
 let t23 : Bool := decide (t21 < 97)
 br t23 (
 let t30 : Bool := decide (t21 < 48)
 br t30 (
 let t38 : Bool := (t21 != 45)
 J2 s0 i3 t38 K h1) (
 let t33 : Bool := decide (t21 > 57)
 br t33 (
 let t38_1 : Bool := (t21 != 45)
 J2 s0 i3 t38_1 K h1) (
 J2 s0 i3 false K h1))) (
 let t26 : Bool := decide (t21 > 122)
 br t26 (
 let t30_1 : Bool := decide (t21 < 48)
 br t30_1 (
 let t38_2 : Bool := (t21 != 45)
 J2 s0 i3 t38_2 K h1) (
 let t33_1 : Bool := decide (t21 > 57)
 br t33_1 (
 let t38_3 : Bool := (t21 != 45)
 J2 s0 i3 t38_3 K h1) (
 J2 s0 i3 false K h1))) (
 J2 s0 i3 false K h1))) h) (
 K (.exit 0) (X0) h)) : L1 s0 i3 K h := by unfold L1; exact Lp.of_txt (an 116) 9 (by kernel_rfl) H
theorem L1_X0 {Q : VP}  {h : Heap} (H :
 Q (.bool true) h) : (K2 Q) (.exit 0) (X0 ) h := of_eq_txt (by kernel_rfl) H
theorem J2_of {s0 : ByteArray} {i3 : Int} {t39 : Bool} {K : EP} {h : Heap} (H :
 br t39 (
 K .ret (Xret false) h) (
 let t18 : Int := IntKind.i64.wrap (i3 + 1)
 L1 s0 t18 K h)) : J2 s0 i3 t39 K h := by unfold J2; exact Jn.of_txt (an 3731) (by kernel_rfl) H
theorem L1_Xret {Q : VP} {t2 : Bool} {h : Heap} (H :
 Q (.bool t2) h) : (K2 Q) .ret (Xret t2) h := of_eq_txt (by kernel_rfl) H
theorem door {s0 : ByteArray} {Q : VP} {h : Heap} (H :
 let t6 : Int := (ByteArray.size s0 : Int)
 let t7 : Bool := decide (t6 < 1)
 br t7 (
 J1 s0 true Q h) (
 let t10 : Int := (ByteArray.size s0 : Int)
 let t11 : Bool := decide (t10 > 16)
 J1 s0 t11 Q h)) : SpecH PP F_ref14_Short [(.string s0)] h Q :=
   spec_of_txt (ann := ann) Tryz.func42 rfl rfl (by kernel_rfl) H
end ref14_Short
/-! ### haversack/haversackref16.number: function 43 -/
namespace ref16_number
def ann : Ann := (.seq 1 (.region [(List.range 1, 1)]) (.seq 9 (.region [(List.range 7, 9)]) (.seq 8 (.block (.loop 9 (.seq 9 (.seq 2057 (.region [(List.range 2, 2057)]) (.cond .leaf (.exit 8))) (.block (.seq 9 (.region [(List.range 3, 9)]) (.region [(List.range 9, 9)])))))) (.seq 4 (.region [(List.range 2, 4)]) (.exit 4)))))
noncomputable abbrev cd (n : Nat) : Code := sub (bodyOf Tryz.f43) (pth n)
abbrev an (n : Nat) : Ann := subA ann (pth n)
@[irreducible] def X0 (s3 : ByteArray) : Fr := (mkFr 0 23 [(3, (.string s3))])
@[irreducible] def L1 (xn0 : Int) (s3 : ByteArray) (K : EP) (h : Heap) : Prop := Lp PP true (cd 56) (mkFr 0 23 [(0, (.int .i64 xn0)), (3, (.string s3))]) K h
@[irreducible] def B1 (K : EP) : EP := seqK (fun fr h => Lp PP true (cd 56) (fr.mask 9) K h) K
@[irreducible] def K2 (Q : VP) : EP := seqK (fun fr h => ev PP true none (cd 15) (an 15) (fr.mask 8) (bodyK PP Tryz.f43 Q) h) (bodyK PP Tryz.f43 Q)
@[irreducible] def K1 (Q : VP) : EP := blockK 0 (K2 Q)
theorem L1_of {xn0 : Int} {s3 : ByteArray} {K : EP} {h : Heap} (H :
 let t11 : Bool := decide (xn0 > 9)
 br t11 (
 let t13 : Int := IntKind.i64.wrap (Int.tdiv xn0 10)
 let t15 : Int := Int.tmod t13 10
 let t17 : Int := Int.tmod t13 10
 let t18 : Int := IntKind.i64.wrap (t17 + 1)
 hwp PP (Instr.sliceAt T_string (.string (⟨#[48, 49, 50, 51, 52, 53, 54, 55, 56, 57]⟩ : ByteArray)) (some (.int .i64 t15)) (some (.int .i64 t18)) none) (fun v h1 => ∃ (t19 : ByteArray), v = (.string t19) ∧
 br (decide (ByteArray.size t19 + ByteArray.size s3 ≤ 9223372036854775807)) (
 let t21 : ByteArray := (t19 ++ s3)
 L1 t13 t21 K h1) False) h) (
 K (.exit 0) (X0 s3) h)) : L1 xn0 s3 K h := by unfold L1; exact Lp.of_txt (an 56) 9 (by kernel_rfl) H
theorem L1_X0 {Q : VP} {s3 : ByteArray} {h : Heap} (H :
 Q (.string s3) h) : (K1 Q) (.exit 0) (X0 s3) h := of_eq_txt (by kernel_rfl) H
theorem door {xn0 : Int} {Q : VP} {h : Heap} (H :
 let t5 : Int := Int.tmod xn0 10
 let t7 : Int := Int.tmod xn0 10
 let t8 : Int := IntKind.i64.wrap (t7 + 1)
 hwp PP (Instr.sliceAt T_string (.string (⟨#[48, 49, 50, 51, 52, 53, 54, 55, 56, 57]⟩ : ByteArray)) (some (.int .i64 t5)) (some (.int .i64 t8)) none) (fun v h1 => ∃ (t9 : ByteArray), v = (.string t9) ∧
 L1 xn0 t9 (K1 Q) h1) h) : SpecH PP F_ref16_number [(.int .i64 xn0)] h Q :=
   spec_of_txt (ann := ann) Tryz.func43 rfl rfl (by kernel_rfl) H
end ref16_number
/-! ### haversack/haversackref15.Mac: function 44 -/
namespace ref15_Mac
def ann : Ann := (.seq 19 (.region [(List.range 1, 19)]) (.seq 19 (.seq 8211 (.region [(List.range 3, 8211)]) (.cond (.seq 50 (.region [(List.range 4, 50)]) (.region [(List.range 2, 19)])) .leaf)) (.join (.seq 83 (.region [(List.range 1, 83)]) (.seq 211 (.region [(List.range 1, 211)]) (.seq 210 (.seq 467 (.region [(List.range 1, 467)]) (.block (.loop 467 (.seq 467 (.seq 262611 (.region [(List.range 2, 262611)]) (.cond .leaf (.exit 210))) (.seq 467 (.block (.seq 979 (.region [(List.range 1, 979)]) (.seq 979 (.seq 16778195 (.region [(List.range 4, 16778195)]) (.cond (.region [(List.range 5, 979)]) .leaf)) (.join (.seq 979 (.region [(List.range 6, 979)]) (.region [(List.range 6, 467)])))))) (.region [(List.range 3, 467)])))))) (.seq 1168 (.region [(List.range 6, 1168)]) (.seq 16 (.region [(List.range 5, 16)]) (.exit 16)))))))))
noncomputable abbrev cd (n : Nat) : Code := sub (bodyOf Tryz.f44) (pth n)
abbrev an (n : Nat) : Ann := subA ann (pth n)
@[irreducible] def X0 (b1 : OA) (b1n b1c : Nat) (t4 : Addr) (in6 : OA) (in6n in6c : Nat) (out7 : OA) (out7n out7c : Nat) : Fr := (mkFr 0 47 [(1, (.slice b1 b1n b1c)), (4, (.pointer (some t4))), (6, (.slice in6 in6n in6c)), (7, (.slice out7 out7n out7c))])
@[irreducible] def J1 (key0 : OA) (key0n key0c : Nat) (b1 : OA) (b1n b1c : Nat) (t4 : Addr) (Q : VP) (h : Heap) : Prop := Jn PP true (cd 7) (mkFr 0 47 [(0, (.slice key0 key0n key0c)), (1, (.slice b1 b1n b1c)), (4, (.pointer (some t4)))]) (bodyK PP Tryz.f44 Q) h
@[irreducible] def K2 (Q : VP) : EP := seqK (fun fr h => ev PP true none (cd 63) (an 63) (fr.mask 210) (bodyK PP Tryz.f44 Q) h) (bodyK PP Tryz.f44 Q)
@[irreducible] def K1 (Q : VP) : EP := blockK 0 (K2 Q)
@[irreducible] def L1 (key0 : OA) (key0n key0c : Nat) (b1 : OA) (b1n b1c : Nat) (t4 : Addr) (in6 : OA) (in6n in6c : Nat) (out7 : OA) (out7n out7c : Nat) (i8 : Int) (K : EP) (h : Heap) : Prop := Lp PP true (cd 500) (mkFr 0 47 [(0, (.slice key0 key0n key0c)), (1, (.slice b1 b1n b1c)), (4, (.pointer (some t4))), (6, (.slice in6 in6n in6c)), (7, (.slice out7 out7n out7c)), (8, (.int .i64 i8))]) K h
@[irreducible] def B1 (K : EP) : EP := seqK (fun fr h => Lp PP true (cd 500) (fr.mask 467) K h) K
@[irreducible] def K4 (K : EP) : EP := seqK (fun fr h => ev PP true none (cd 2003) (an 2003) (fr.mask 467) (B1 K) h) (B1 K)
@[irreducible] def K3 (K : EP) : EP := blockK 1 (K4 K)
@[irreducible] def J2 (key0 : OA) (key0n key0c : Nat) (b1 : OA) (b1n b1c : Nat) (t4 : Addr) (in6 : OA) (in6n in6c : Nat) (out7 : OA) (out7n out7c : Nat) (i8 c9 : Int) (K : EP) (h : Heap) : Prop := Jn PP true (cd 16019) (mkFr 0 47 [(0, (.slice key0 key0n key0c)), (1, (.slice b1 b1n b1c)), (4, (.pointer (some t4))), (6, (.slice in6 in6n in6c)), (7, (.slice out7 out7n out7c)), (8, (.int .i64 i8)), (9, (.int .u8 c9))]) (K3 K) h
theorem J1_of {key0 : OA} {key0n key0c : Nat} {b1 : OA} {b1n b1c : Nat} {t4 : Addr} {Q : VP} {h : Heap} (H :
 L1 key0 key0n key0c b1 b1n b1c t4 none 0 0 none 0 0 0 (K1 Q) h) : J1 key0 key0n key0c b1 b1n b1c t4 Q h := by unfold J1; exact Jn.of_txt (an 7) (by kernel_rfl) H
theorem L1_of {key0 : OA} {key0n key0c : Nat} {b1 : OA} {b1n b1c : Nat} {t4 : Addr} {in6 : OA} {in6n in6c : Nat} {out7 : OA} {out7n out7c : Nat} {i8 : Int} {K : EP} {h : Heap} (H :
 let t18 : Bool := decide (i8 < 64)
 br t18 (
 let t24 : Bool := decide (i8 < (key0n : Int))
 br t24 (
 hwp PP (Instr.indexAt T_sl_uint8 (.slice key0 key0n key0c) (.int .i64 i8)) (fun v h1 => ∃ (t27 : Addr), v = (.pointer (some t27)) ∧
 ∃ (t28 : Int), cellH h1 t27 = some (.int .u8 t28) ∧
 J2 key0 key0n key0c b1 b1n b1c t4 in6 in6n in6c out7 out7n out7c i8 t28 K h1) h) (
 J2 key0 key0n key0c b1 b1n b1c t4 in6 in6n in6c out7 out7n out7c i8 0 K h)) (
 K (.exit 0) (X0 b1 b1n b1c t4 in6 in6n in6c out7 out7n out7c) h)) : L1 key0 key0n key0c b1 b1n b1c t4 in6 in6n in6c out7 out7n out7c i8 K h := by unfold L1; exact Lp.of_txt (an 500) 467 (by kernel_rfl) H
theorem L1_X0 {Q : VP} {b1 : OA} {b1n b1c : Nat} {t4 : Addr} {in6 : OA} {in6n in6c : Nat} {out7 : OA} {out7n out7c : Nat} {h : Heap} (H :
 hwp PP (Builtin.append_ #[T_sl_uint8, T_sl_uint8] T_sl_uint8 #[(.slice in6 in6n in6c), (.slice b1 b1n b1c)]) (fun v h1 => ∃ (t41 : OA) (t41n t41c : Nat), v = (.slice t41 t41n t41c) ∧
 SpecH PP F_ref15_Sum [(.slice t41 t41n t41c)] h1 (fun v_1 h2 => ∃ (t42 : List Value), v_1 = (.agg (t42).toArray) ∧
 let inner10 : Addr := ⟨Array.size h2, 0, none⟩
 let h3 : Heap := Array.push h2 (.cells (Array.replicate 32 (.int .u8 0)) T_32_uint8 (0, 0))
 br (decide (Array.size (List.toArray t42) = 32)) (wrCells inner10 0 t42 (fun h4 =>
 hwp PP (Instr.sliceAt T_32_uint8 (.pointer (some inner10)) none none none) (fun v_2 h5 => ∃ (t44 : OA) (t44n t44c : Nat), v_2 = (.slice t44 t44n t44c) ∧
 hwp PP (Builtin.append_ #[T_sl_uint8, T_sl_uint8] T_sl_uint8 #[(.slice out7 out7n out7c), (.slice t44 t44n t44c)]) (fun v_3 h6 => ∃ (t45 : OA) (t45n t45c : Nat), v_3 = (.slice t45 t45n t45c) ∧
 SpecH PP F_ref15_Sum [(.slice t45 t45n t45c)] h6 (fun v_4 h7 => ∃ (t46 : List Value), v_4 = (.agg (t46).toArray) ∧
 br (decide (Array.size (List.toArray t46) = 32)) (wrCells t4 0 t46 (fun h8 =>
 ∃ (t4_1 : List Value), List.length t4_1 = 32 ∧ rdCells h8 t4 0 t4_1 ∧
 Q (.agg (t4_1).toArray) h8) h7) False)) h5) h4) h3) False)) h) : (K1 Q) (.exit 0) (X0 b1 b1n b1c t4 in6 in6n in6c out7 out7n out7c) h := of_eq_txt (by kernel_rfl) H
theorem J2_of {key0 : OA} {key0n key0c : Nat} {b1 : OA} {b1n b1c : Nat} {t4 : Addr} {in6 : OA} {in6n in6c : Nat} {out7 : OA} {out7n out7c : Nat} {i8 c9 : Int} {K : EP} {h : Heap} (H :
 let t31 : Int := bXor .u8 c9 54
 let h1 : Heap := Array.push h (.cells #[(.int .u8 t31)] T_uint8 (0, 0))
 hwp PP (Builtin.append_ #[T_sl_uint8, T_sl_uint8] T_sl_uint8 #[(.slice in6 in6n in6c), (.slice (some ⟨Array.size h, 0, none⟩) 1 1)]) (fun v h2 => ∃ (t33 : OA) (t33n t33c : Nat), v = (.slice t33 t33n t33c) ∧
 let t36 : Int := bXor .u8 c9 92
 let h3 : Heap := Array.push h2 (.cells #[(.int .u8 t36)] T_uint8 (0, 0))
 hwp PP (Builtin.append_ #[T_sl_uint8, T_sl_uint8] T_sl_uint8 #[(.slice out7 out7n out7c), (.slice (some ⟨Array.size h2, 0, none⟩) 1 1)]) (fun v_1 h4 => ∃ (t38 : OA) (t38n t38c : Nat), v_1 = (.slice t38 t38n t38c) ∧
 let t20 : Int := IntKind.i64.wrap (i8 + 1)
 L1 key0 key0n key0c b1 b1n b1c t4 t33 t33n t33c t38 t38n t38c t20 K h4) h3) h1) : J2 key0 key0n key0c b1 b1n b1c t4 in6 in6n in6c out7 out7n out7c i8 c9 K h := by unfold J2; exact Jn.of_txt (an 16019) (by kernel_rfl) H
theorem door {key0 : OA} {key0n key0c : Nat} {b1 : OA} {b1n b1c : Nat} {Q : VP} {h : Heap} (H :
 let t4 : Addr := ⟨Array.size h, 0, none⟩
 let h1 : Heap := Array.push h (.cells (Array.replicate 32 (.int .u8 0)) T_32_uint8 (0, 0))
 let t13 : Bool := decide ((key0n : Int) > 64)
 br t13 (
 SpecH PP F_ref15_Sum [(.slice key0 key0n key0c)] h1 (fun v h2 => ∃ (t15 : List Value), v = (.agg (t15).toArray) ∧
 let short5 : Addr := ⟨Array.size h2, 0, none⟩
 let h3 : Heap := Array.push h2 (.cells (Array.replicate 32 (.int .u8 0)) T_32_uint8 (0, 0))
 br (decide (Array.size (List.toArray t15) = 32)) (wrCells short5 0 t15 (fun h4 =>
 hwp PP (Instr.sliceAt T_32_uint8 (.pointer (some short5)) none none none) (fun v_1 h5 => ∃ (t16 : OA) (t16n t16c : Nat), v_1 = (.slice t16 t16n t16c) ∧
 J1 t16 t16n t16c b1 b1n b1c t4 Q h5) h4) h3) False)) (
 J1 key0 key0n key0c b1 b1n b1c t4 Q h1)) : SpecH PP F_ref15_Mac [(.slice key0 key0n key0c), (.slice b1 b1n b1c)] h Q :=
   spec_of_txt (ann := ann) Tryz.func44 rfl rfl (by kernel_rfl) H
end ref15_Mac
/-! ### strings.genSplit: function 45 -/
namespace strings_genSplit
def ann : Ann := (.seq 15 (.region [(List.range 1, 15)]) (.seq 15 (.seq 8207 (.region [(List.range 2, 8207)]) (.cond (.seq 256 (.region [(List.range 1, 256)]) (.exit 256)) .leaf)) (.seq 15 (.seq 32783 (.region [(List.range 2, 32783)]) (.cond (.seq 256 (.region [(List.range 4, 256)]) (.exit 256)) .leaf)) (.seq 15 (.seq 1048591 (.region [(List.range 2, 1048591)]) (.cond (.region [(List.range 5, 15)]) .leaf)) (.join (.seq 15 (.region [(List.range 6, 15)]) (.seq 527 (.region [(List.range 3, 527)]) (.seq 527 (.region [(List.range 3, 527)]) (.seq 1551 (.region [(List.range 1, 1551)]) (.seq 1537 (.block (.loop 1551 (.seq 1551 (.seq 68719478287 (.region [(List.range 3, 68719478287)]) (.cond .leaf (.exit 1537))) (.block (.seq 3599 (.region [(List.range 4, 3599)]) (.seq 3599 (.seq 2199023259151 (.region [(List.range 2, 2199023259151)]) (.cond (.exit 1537) .leaf)) (.seq 3599 (.region [(List.range 9, 3599)]) (.seq 1551 (.region [(List.range 7, 1551)]) (.region [(List.range 3, 1551)]))))))))) (.seq 1536 (.region [(List.range 5, 1536)]) (.seq 256 (.region [(List.range 5, 256)]) (.exit 256)))))))))))))
noncomputable abbrev cd (n : Nat) : Code := sub (bodyOf Tryz.f45) (pth n)
abbrev an (n : Nat) : Ann := subA ann (pth n)
@[irreducible] def X0 (s0 : ByteArray) (a9 : OA) (a9n a9c : Nat) (i10 : Int) : Fr := (mkFr 0 66 [(0, (.string s0)), (9, (.slice a9 a9n a9c)), (10, (.int .i64 i10))])
@[irreducible] def J1 (s0 sep1 : ByteArray) (sepSave2 xn3 : Int) (Q : VP) (h : Heap) : Prop := Jn PP true (cd 31) (mkFr 0 66 [(0, (.string s0)), (1, (.string sep1)), (2, (.int .i64 sepSave2)), (3, (.int .i64 xn3))]) (bodyK PP Tryz.f45 Q) h
@[irreducible] def K2 (Q : VP) : EP := seqK (fun fr h => ev PP true none (cd 1023) (an 1023) (fr.mask 1537) (bodyK PP Tryz.f45 Q) h) (bodyK PP Tryz.f45 Q)
@[irreducible] def K1 (Q : VP) : EP := blockK 0 (K2 Q)
@[irreducible] def L1 (s0 sep1 : ByteArray) (sepSave2 xn3 : Int) (a9 : OA) (a9n a9c : Nat) (i10 : Int) (K : EP) (h : Heap) : Prop := Lp PP true (cd 4088) (mkFr 0 66 [(0, (.string s0)), (1, (.string sep1)), (2, (.int .i64 sepSave2)), (3, (.int .i64 xn3)), (9, (.slice a9 a9n a9c)), (10, (.int .i64 i10))]) K h
@[irreducible] def B1 (K : EP) : EP := seqK (fun fr h => Lp PP true (cd 4088) (fr.mask 1551) K h) K
theorem J1_of {s0 sep1 : ByteArray} {sepSave2 xn3 : Int} {Q : VP} {h : Heap} (H :
 let t27 : Int := (ByteArray.size s0 : Int)
 let t28 : Int := IntKind.i64.wrap (t27 + 1)
 let t29 : Int := (if t28 < xn3 then t28 else xn3)
 hwp PP (Instr.makeSlice T_sl_string (.int .i64 t29) (.int .i64 t29)) (fun v h1 => ∃ (t31 : OA) (t31n t31c : Nat), v = (.slice t31 t31n t31c) ∧
 let t33 : Int := IntKind.i64.wrap (t29 - 1)
 L1 s0 sep1 sepSave2 t33 t31 t31n t31c 0 (K1 Q) h1) h) : J1 s0 sep1 sepSave2 xn3 Q h := by unfold J1; exact Jn.of_txt (an 31) (by kernel_rfl) H
theorem L1_of {s0 sep1 : ByteArray} {sepSave2 xn3 : Int} {a9 : OA} {a9n a9c : Nat} {i10 : Int} {K : EP} {h : Heap} (H :
 let t36 : Bool := decide (i10 < xn3)
 br t36 (
 SpecH PP F_strings_Index [(.string s0), (.string sep1)] h (fun v h1 => ∃ (t39 : Int), v = (.int .i64 t39) ∧
 let t41 : Bool := decide (t39 < 0)
 br t41 (
 K (.exit 0) (X0 s0 a9 a9n a9c i10) h1) (
 let t47 : Int := IntKind.i64.wrap (t39 + sepSave2)
 hwp PP (Instr.sliceAt T_string (.string s0) none (some (.int .i64 t47)) none) (fun v_1 h2 => ∃ (t48 : ByteArray), v_1 = (.string t48) ∧
 hwp PP (Instr.indexAt T_sl_string (.slice a9 a9n a9c) (.int .i64 i10)) (fun v_2 h3 => ∃ (t49 : Addr), v_2 = (.pointer (some t49)) ∧
 wr t49 (.string t48) (fun h4 =>
 let t53 : Int := (ByteArray.size sep1 : Int)
 let t54 : Int := IntKind.i64.wrap (t39 + t53)
 hwp PP (Instr.sliceAt T_string (.string s0) (some (.int .i64 t54)) none none) (fun v_3 h5 => ∃ (t55 : ByteArray), v_3 = (.string t55) ∧
 let t57 : Int := IntKind.i64.wrap (i10 + 1)
 L1 t55 sep1 sepSave2 xn3 a9 a9n a9c t57 K h5) h4) h3) h2) h1))) (
 K (.exit 0) (X0 s0 a9 a9n a9c i10) h)) : L1 s0 sep1 sepSave2 xn3 a9 a9n a9c i10 K h := by unfold L1; exact Lp.of_txt (an 4088) 1551 (by kernel_rfl) H
theorem L1_X0 {Q : VP} {s0 : ByteArray} {a9 : OA} {a9n a9c : Nat} {i10 : Int} {h : Heap} (H :
 hwp PP (Instr.indexAt T_sl_string (.slice a9 a9n a9c) (.int .i64 i10)) (fun v h1 => ∃ (t61 : Addr), v = (.pointer (some t61)) ∧
 wr t61 (.string s0) (fun h2 =>
 let t64 : Int := IntKind.i64.wrap (i10 + 1)
 hwp PP (Instr.sliceAt T_sl_string (.slice a9 a9n a9c) none (some (.int .i64 t64)) none) (fun v_1 h3 => ∃ (t65 : OA) (t65n t65c : Nat), v_1 = (.slice t65 t65n t65c) ∧
 Q (.slice t65 t65n t65c) h3) h2) h1) h) : (K1 Q) (.exit 0) (X0 s0 a9 a9n a9c i10) h := of_eq_txt (by kernel_rfl) H
theorem door {s0 sep1 : ByteArray} {sepSave2 xn3 : Int} {Q : VP} {h : Heap} (H :
 let t13 : Bool := (xn3 == 0)
 br t13 (
 Q (.slice none 0 0) h) (
 let t15 : Bool := decide (sep1 = (⟨#[]⟩ : ByteArray))
 br t15 (
 SpecH PP F_strings_explode [(.string s0), (.int .i64 xn3)] h (fun v h1 => ∃ (t18 : OA) (t18n t18c : Nat), v = (.slice t18 t18n t18c) ∧
 Q (.slice t18 t18n t18c) h1)) (
 let t20 : Bool := decide (xn3 < 0)
 br t20 (
 SpecH PP F_strings_Count [(.string s0), (.string sep1)] h (fun v_1 h2 => ∃ (t23 : Int), v_1 = (.int .i64 t23) ∧
 let t24 : Int := IntKind.i64.wrap (t23 + 1)
 J1 s0 sep1 sepSave2 t24 Q h2)) (
 J1 s0 sep1 sepSave2 xn3 Q h)))) : SpecH PP F_strings_genSplit [(.string s0), (.string sep1), (.int .i64 sepSave2), (.int .i64 xn3)] h Q :=
   spec_of_txt (ann := ann) Tryz.func45 rfl rfl (by kernel_rfl) H
end strings_genSplit
/-! ### haversack/haversackref16.within: function 54 -/
namespace ref16_within
def ann : Ann := (.seq 1 (.region [(List.range 1, 1)]) (.seq 4 (.region [(List.range 7, 4)]) (.exit 4)))
noncomputable abbrev cd (n : Nat) : Code := sub (bodyOf Tryz.f54) (pth n)
abbrev an (n : Nat) : Ann := subA ann (pth n)
theorem door {xn0 : Int} {Q : VP} {h : Heap} (H :
 let t4 : Bool := decide (xn0 ≥ 0)
 br t4 (
 let t7 : Bool := decide (xn0 ≤ 1000000000)
 Q (.bool t7) h) (
 Q (.bool false) h)) : SpecH PP F_ref16_within [(.int .i64 xn0)] h Q :=
   spec_of_txt (ann := ann) Tryz.func54 rfl rfl (by kernel_rfl) H
end ref16_within
/-! ### haversack/hmac.Sum: function 59 -/
namespace hmac_Sum
def ann : Ann := (.seq 5 (.region [(List.range 1, 5)]) (.seq 13 (.region [(List.range 2, 13)]) (.seq 12 (.region [(List.range 3, 12)]) (.seq 4 (.region [(List.range 3, 4)]) (.exit 4)))))
noncomputable abbrev cd (n : Nat) : Code := sub (bodyOf Tryz.f59) (pth n)
abbrev an (n : Nat) : Ann := subA ann (pth n)
theorem door {b0 : OA} {b0n b0c : Nat} {Q : VP} {h : Heap} (H :
 let t2 : Addr := ⟨Array.size h, 0, none⟩
 let h1 : Heap := Array.push h (.cells (Array.replicate 32 (.int .u8 0)) T_32_uint8 (0, 0))
 SpecH PP F_hmac_New [] h1 (fun v h2 => ∃ (t4 : OA), v = (.pointer t4) ∧
 SpecH PP F_hmac_Hash_Write [(.pointer t4), (.slice b0 b0n b0c)] h2 (fun v_1 h3 => v_1 = (.tuple #[]) ∧
 SpecH PP F_hmac_Hash_Sum [(.pointer t4)] h3 (fun v_2 h4 => ∃ (t9 : List Value), v_2 = (.agg (t9).toArray) ∧
 br (decide (Array.size (List.toArray t9) = 32)) (wrCells t2 0 t9 (fun h5 =>
 ∃ (t2_1 : List Value), List.length t2_1 = 32 ∧ rdCells h5 t2 0 t2_1 ∧
 Q (.agg (t2_1).toArray) h5) h4) False)))) : SpecH PP F_hmac_Sum [(.slice b0 b0n b0c)] h Q :=
   spec_of_txt (ann := ann) Tryz.func59 rfl rfl (by kernel_rfl) H
end hmac_Sum
/-! ### haversack/hmac.New: function 60 -/
namespace hmac_New
def ann : Ann := (.seq 0 (.region [(List.range 1, 0)]) (.seq 1 (.region [(List.range 4, 1)]) (.exit 1)))
noncomputable abbrev cd (n : Nat) : Code := sub (bodyOf Tryz.f60) (pth n)
abbrev an (n : Nat) : Ann := subA ann (pth n)
theorem door  {Q : VP} {h : Heap} (H :
 let t3 : Addr := ⟨Array.size h, 0, none⟩
 let h1 : Heap := Array.push h (.cells #[(.int .u32 1779033703), (.int .u32 3144134277), (.int .u32 1013904242), (.int .u32 2773480762), (.int .u32 1359893119), (.int .u32 2600822924), (.int .u32 528734635), (.int .u32 1541459225), (.slice none 0 0), (.int .u64 0)] T_hmac_Hash (0, 0))
 Q (.pointer (some t3)) h1) : SpecH PP F_hmac_New [] h Q :=
   spec_of_txt (ann := ann) Tryz.func60 rfl rfl (by kernel_rfl) H
end hmac_New
/-! ### (*haversack/hmac.Hash).Write: function 61 -/
namespace hmac_Hash_Write
def ann : Ann := (.seq 3 (.seq 35 (.region [(List.range 2, 35)]) (.cond (.exit 0) .leaf)) (.seq 3 (.region [(List.range 11, 3)]) (.seq 1 (.region [(List.range 10, 1)]) (.block (.loop 1 (.seq 1 (.seq 1073741825 (.region [(List.range 6, 1073741825)]) (.cond .leaf (.exit 0))) (.block (.seq 1 (.region [(List.range 7, 1)]) (.region [(List.range 9, 1)])))))))))
noncomputable abbrev cd (n : Nat) : Code := sub (bodyOf Tryz.f61) (pth n)
abbrev an (n : Nat) : Ann := subA ann (pth n)
@[irreducible] def X0  : Fr := (mkFr 0 46 [])
@[irreducible] def L1 (xh0 : OA) (K : EP) (h : Heap) : Prop := Lp PP true (cd 60) (mkFr 0 46 [(0, (.pointer xh0))]) K h
@[irreducible] def B1 (K : EP) : EP := seqK (fun fr h => Lp PP true (cd 60) (fr.mask 1) K h) K
@[irreducible] def K1 (Q : VP) : EP := blockK 0 (bodyK PP Tryz.f61 Q)
theorem L1_of {xh0 : OA} {K : EP} {h : Heap} (H :
 nilc xh0 (fun t26 =>
 ∃ (t28 : OA) (t28n t28c : Nat), cellH h (Addr.add t26 8) = some (.slice t28 t28n t28c) ∧
 let t30 : Bool := decide ((t28n : Int) ≥ 64)
 br t30 (
 nilc xh0 (fun t33 =>
 ∃ (t35 : OA) (t35n t35c : Nat), cellH h (Addr.add t33 8) = some (.slice t35 t35n t35c) ∧
 hwp PP (Instr.sliceAt T_sl_uint8 (.slice t35 t35n t35c) none (some (.int .i64 64)) none) (fun v h1 => ∃ (t36 : OA) (t36n t36c : Nat), v = (.slice t36 t36n t36c) ∧
 SpecH PP F_hmac_Hash_block [(.pointer xh0), (.slice t36 t36n t36c)] h1 (fun v_1 h2 => v_1 = (.tuple #[]) ∧
 nilc xh0 (fun t40 =>
 ∃ (t42 : OA) (t42n t42c : Nat), cellH h2 (Addr.add t40 8) = some (.slice t42 t42n t42c) ∧
 hwp PP (Instr.sliceAt T_sl_uint8 (.slice t42 t42n t42c) (some (.int .i64 64)) none none) (fun v_2 h3 => ∃ (t43 : OA) (t43n t43c : Nat), v_2 = (.slice t43 t43n t43c) ∧
 nilc xh0 (fun t44 =>
 wr (Addr.add t44 8) (.slice t43 t43n t43c) (fun h4 =>
 L1 xh0 K h4) h3)) h2))) h)) (
 K (.exit 0) (X0) h))) : L1 xh0 K h := by unfold L1; exact Lp.of_txt (an 60) 1 (by kernel_rfl) H
theorem L1_X0 {Q : VP}  {h : Heap} (H :
 Q (.tuple #[]) h) : (K1 Q) (.exit 0) (X0 ) h := of_eq_txt (by kernel_rfl) H
theorem door {xh0 b1 : OA} {b1n b1c : Nat} {Q : VP} {h : Heap} (H :
 let t5 : Bool := (Option.isNone xh0)
 br t5 (
 Q (.tuple #[]) h) (
 nilc xh0 (fun t7 =>
 ∃ (t9 : Int), cellH h (Addr.add t7 9) = some (.int .u64 t9) ∧
 let t12 : Int := IntKind.u64.wrap (b1n : Int)
 let t13 : Int := IntKind.u64.wrap (t9 + t12)
 nilc xh0 (fun t14 =>
 wr (Addr.add t14 9) (.int .u64 t13) (fun h1 =>
 nilc xh0 (fun t18 =>
 ∃ (t20 : OA) (t20n t20c : Nat), cellH h1 (Addr.add t18 8) = some (.slice t20 t20n t20c) ∧
 hwp PP (Builtin.append_ #[T_sl_uint8, T_sl_uint8] T_sl_uint8 #[(.slice t20 t20n t20c), (.slice b1 b1n b1c)]) (fun v h2 => ∃ (t22 : OA) (t22n t22c : Nat), v = (.slice t22 t22n t22c) ∧
 nilc xh0 (fun t23 =>
 wr (Addr.add t23 8) (.slice t22 t22n t22c) (fun h3 =>
 L1 xh0 (K1 Q) h3) h2)) h1)) h)))) : SpecH PP F_hmac_Hash_Write [(.pointer xh0), (.slice b1 b1n b1c)] h Q :=
   spec_of_txt (ann := ann) Tryz.func61 rfl rfl (by kernel_rfl) H
end hmac_Hash_Write
/-! ### (*haversack/hmac.Hash).Sum: function 62 -/
namespace hmac_Hash_Sum
def ann : Ann := (.seq 5 (.region [(List.range 1, 5)]) (.seq 13 (.region [(List.range 1, 13)]) (.seq 13 (.seq 4109 (.region [(List.range 2, 4109)]) (.cond (.seq 4 (.region [(List.range 2, 4)]) (.exit 4)) .leaf)) (.seq 29 (.tree (.run [0, 1, 2, 4, 5, 6, 9, 10, 11, 12] (.alt 3 (.alt 7 (.run [8, 13, 14, 15, 16] .done) (.alt 8 (.alt 7 (.run [13, 14, 15, 16] .done) (.alt 13 (.run [7, 14, 15, 16] .done) .nil)) .nil)) (.alt 7 (.alt 3 (.run [8, 13, 14, 15, 16] .done) (.alt 8 (.alt 3 (.run [13, 14, 15, 16] .done) (.alt 13 (.run [3, 14, 15, 16] .done) .nil)) .nil)) (.alt 8 (.alt 3 (.alt 7 (.run [13, 14, 15, 16] .done) (.alt 13 (.run [7, 14, 15, 16] .done) .nil)) (.alt 7 (.alt 3 (.run [13, 14, 15, 16] .done) (.alt 13 (.run [3, 14, 15, 16] .done) .nil)) (.alt 13 (.run [3, 7, 14, 15, 16] .done) .nil))) .nil)))) 29) (.join (.seq 60 (.region [(List.range 6, 60)]) (.seq 60 (.region [(List.range 3, 60)]) (.seq 60 (.block (.loop 60 (.seq 60 (.seq 8796093022268 (.region [(List.range 6, 8796093022268)]) (.cond .leaf (.exit 60))) (.block (.region [(List.range 3, 60)]))))) (.seq 124 (.region [(List.range 1, 124)]) (.seq 92 (.seq 252 (.region [(List.range 1, 252)]) (.block (.loop 252 (.seq 252 (.seq 281474976710908 (.region [(List.range 2, 281474976710908)]) (.cond .leaf (.exit 92))) (.seq 252 (.block (.region [(List.range 8, 252)])) (.region [(List.range 3, 252)])))))) (.seq 28 (.region [(List.range 3, 28)]) (.seq 12 (.seq 55340232221128654860 (.region [(List.range 5, 55340232221128654860)]) (.block (.loop 55340232221128654860 (.seq 129127208515966861324 (.region [(List.range 1, 129127208515966861324)]) (.seq 55340232221128654860 (.cond .leaf (.exit 12)) (.seq 55340232221128654860 (.block (.seq 55340232221128655628 (.region [(List.range 4, 55340232221128655628)]) (.seq 645636042579834307340 (.region [(List.range 1, 645636042579834307340)]) (.block (.loop 645636042579834307340 (.seq 1826227663297245610764 (.region [(List.range 1, 1826227663297245610764)]) (.seq 645636042579834307340 (.cond .leaf (.exit 55340232221128654860)) (.seq 645636042579834307340 (.block (.seq 645636042579834308364 (.region [(List.range 2, 645636042579834308364)]) (.region [(List.range 12, 645636042579834307340)]))) (.region [(List.range 2, 645636042579834307340)]))))))))) (.region [(List.range 2, 55340232221128654860)]))))))) (.seq 4 (.region [(List.range 2, 4)]) (.exit 4))))))))))))))
noncomputable abbrev cd (n : Nat) : Code := sub (bodyOf Tryz.f62) (pth n)
abbrev an (n : Nat) : Ann := subA ann (pth n)
@[irreducible] def X0 (t2 out3 x4 : Addr) (xn5 : Int) : Fr := (mkFr 0 86 [(2, (.pointer (some t2))), (3, (.pointer (some out3))), (4, (.pointer (some x4))), (5, (.int .u64 xn5))])
@[irreducible] def X2 (t2 out3 x4 : Addr) (length6 : OA) (length6n length6c : Nat) : Fr := (mkFr 0 86 [(2, (.pointer (some t2))), (3, (.pointer (some out3))), (4, (.pointer (some x4))), (6, (.slice length6 length6n length6c))])
@[irreducible] def X4 (t2 out3 : Addr) : Fr := (mkFr 0 86 [(2, (.pointer (some t2))), (3, (.pointer (some out3)))])
@[irreducible] def X6 (t2 out3 : Addr) (t64f0 t64f1 t64f2 t64f3 t64f4 t64f5 t64f6 t64f7 t65 : Int) : Fr := (mkFr 0 86 [(2, (.pointer (some t2))), (3, (.pointer (some out3))), (64, (.agg #[(.int .u32 t64f0), (.int .u32 t64f1), (.int .u32 t64f2), (.int .u32 t64f3), (.int .u32 t64f4), (.int .u32 t64f5), (.int .u32 t64f6), (.int .u32 t64f7)])), (65, (.int .i64 t65))])
@[irreducible] def J1 (xh0 : OA) (t2 out3 x4 : Addr) (Q : VP) (h : Heap) : Prop := Jn PP true (cd 31) (mkFr 0 86 [(0, (.pointer xh0)), (2, (.pointer (some t2))), (3, (.pointer (some out3))), (4, (.pointer (some x4)))]) (bodyK PP Tryz.f62 Q) h
@[irreducible] def K2 (Q : VP) : EP := seqK (fun fr h => ev PP true none (cd 255) (an 255) (fr.mask 60) (bodyK PP Tryz.f62 Q) h) (bodyK PP Tryz.f62 Q)
@[irreducible] def K1 (Q : VP) : EP := blockK 0 (K2 Q)
@[irreducible] def L1 (t2 out3 x4 : Addr) (xn5 : Int) (K : EP) (h : Heap) : Prop := Lp PP true (cd 1016) (mkFr 0 86 [(2, (.pointer (some t2))), (3, (.pointer (some out3))), (4, (.pointer (some x4))), (5, (.int .u64 xn5))]) K h
@[irreducible] def B1 (K : EP) : EP := seqK (fun fr h => Lp PP true (cd 1016) (fr.mask 60) K h) K
@[irreducible] def K4 (Q : VP) : EP := seqK (fun fr h => ev PP true none (cd 1023) (an 1023) (fr.mask 92) (bodyK PP Tryz.f62 Q) h) (bodyK PP Tryz.f62 Q)
@[irreducible] def K3 (Q : VP) : EP := blockK 2 (K4 Q)
@[irreducible] def L2 (t2 out3 x4 : Addr) (xn5 : Int) (length6 : OA) (length6n length6c : Nat) (i7 : Int) (K : EP) (h : Heap) : Prop := Lp PP true (cd 8180) (mkFr 0 86 [(2, (.pointer (some t2))), (3, (.pointer (some out3))), (4, (.pointer (some x4))), (5, (.int .u64 xn5)), (6, (.slice length6 length6n length6c)), (7, (.int .i64 i7))]) K h
@[irreducible] def B2 (K : EP) : EP := seqK (fun fr h => Lp PP true (cd 8180) (fr.mask 252) K h) K
@[irreducible] def K6 (Q : VP) : EP := seqK (fun fr h => ev PP true none (cd 4095) (an 4095) (fr.mask 12) (bodyK PP Tryz.f62 Q) h) (bodyK PP Tryz.f62 Q)
@[irreducible] def K5 (Q : VP) : EP := blockK 4 (K6 Q)
@[irreducible] def L3 (t2 out3 : Addr) (t64f0 t64f1 t64f2 t64f3 t64f4 t64f5 t64f6 t64f7 t65 : Int) (K : EP) (h : Heap) : Prop := Lp PP true (cd 32756) (mkFr 0 86 [(2, (.pointer (some t2))), (3, (.pointer (some out3))), (64, (.agg #[(.int .u32 t64f0), (.int .u32 t64f1), (.int .u32 t64f2), (.int .u32 t64f3), (.int .u32 t64f4), (.int .u32 t64f5), (.int .u32 t64f6), (.int .u32 t64f7)])), (65, (.int .i64 t65))]) K h
@[irreducible] def B3 (K : EP) : EP := seqK (fun fr h => Lp PP true (cd 32756) (fr.mask 55340232221128654860) K h) K
@[irreducible] def K9 (K : EP) : EP := seqK (fun fr h => ev PP true none (cd 262055) (an 262055) (fr.mask 55340232221128654860) (B3 K) h) (B3 K)
@[irreducible] def K8 (K : EP) : EP := blockK 5 (K9 K)
@[irreducible] def K7 (K : EP) : EP := blockK 6 (K8 K)
@[irreducible] def L4 (t2 out3 : Addr) (i8 v9 t64f0 t64f1 t64f2 t64f3 t64f4 t64f5 t64f6 t64f7 t65 t69 : Int) (K : EP) (h : Heap) : Prop := Lp PP true (cd 8385740) (mkFr 0 86 [(2, (.pointer (some t2))), (3, (.pointer (some out3))), (8, (.int .i64 i8)), (9, (.int .u32 v9)), (64, (.agg #[(.int .u32 t64f0), (.int .u32 t64f1), (.int .u32 t64f2), (.int .u32 t64f3), (.int .u32 t64f4), (.int .u32 t64f5), (.int .u32 t64f6), (.int .u32 t64f7)])), (65, (.int .i64 t65)), (69, (.int .i64 t69))]) K h
@[irreducible] def B4 (K : EP) : EP := seqK (fun fr h => Lp PP true (cd 8385740) (fr.mask 645636042579834307340) K h) K
theorem J1_of {xh0 : OA} {t2 out3 x4 : Addr} {Q : VP} {h : Heap} (H :
 nilc xh0 (fun t31 =>
 ∃ (t33 : Int), cellH h (Addr.add t31 9) = some (.int .u64 t33) ∧
 let t34 : Int := IntKind.u64.wrap (8 * t33)
 let h1 : Heap := Array.push h (.cells #[(.int .u8 128)] T_uint8 (0, 0))
 SpecH PP F_hmac_Hash_Write [(.pointer (some x4)), (.slice (some ⟨Array.size h, 0, none⟩) 1 1)] h1 (fun v h2 => v = (.tuple #[]) ∧
 L1 t2 out3 x4 t34 (K1 Q) h2))) : J1 xh0 t2 out3 x4 Q h := by unfold J1; exact Jn.of_txt (an 31) (by kernel_rfl) H
theorem L1_of {t2 out3 x4 : Addr} {xn5 : Int} {K : EP} {h : Heap} (H :
 ∃ (t41 : OA) (t41n t41c : Nat), cellH h (Addr.add x4 8) = some (.slice t41 t41n t41c) ∧
 let t43 : Bool := ((t41n : Int) != 56)
 br t43 (
 let h1 : Heap := Array.push h (.cells #[(.int .u8 0)] T_uint8 (0, 0))
 SpecH PP F_hmac_Hash_Write [(.pointer (some x4)), (.slice (some ⟨Array.size h, 0, none⟩) 1 1)] h1 (fun v h2 => v = (.tuple #[]) ∧
 L1 t2 out3 x4 xn5 K h2)) (
 K (.exit 0) (X0 t2 out3 x4 xn5) h)) : L1 t2 out3 x4 xn5 K h := by unfold L1; exact Lp.of_txt (an 1016) 60 (by kernel_rfl) H
theorem L1_X0 {Q : VP} {t2 out3 x4 : Addr} {xn5 : Int} {h : Heap} (H :
 L2 t2 out3 x4 xn5 none 0 0 56 (K3 Q) h) : (K1 Q) (.exit 0) (X0 t2 out3 x4 xn5) h := of_eq_txt (by kernel_rfl) H
theorem L2_of {t2 out3 x4 : Addr} {xn5 : Int} {length6 : OA} {length6n length6c : Nat} {i7 : Int} {K : EP} {h : Heap} (H :
 let t48 : Bool := decide (i7 ≥ 0)
 br t48 (
 br (decide (0 ≤ i7)) (
 let t54 : Int := sShr .u64 xn5 i7
 let t55 : Int := IntKind.u8.wrap t54
 let h1 : Heap := Array.push h (.cells #[(.int .u8 t55)] T_uint8 (0, 0))
 hwp PP (Builtin.append_ #[T_sl_uint8, T_sl_uint8] T_sl_uint8 #[(.slice length6 length6n length6c), (.slice (some ⟨Array.size h, 0, none⟩) 1 1)]) (fun v h2 => ∃ (t57 : OA) (t57n t57c : Nat), v = (.slice t57 t57n t57c) ∧
 let t50 : Int := IntKind.i64.wrap (i7 - 8)
 L2 t2 out3 x4 xn5 t57 t57n t57c t50 K h2) h1) False) (
 K (.exit 2) (X2 t2 out3 x4 length6 length6n length6c) h)) : L2 t2 out3 x4 xn5 length6 length6n length6c i7 K h := by unfold L2; exact Lp.of_txt (an 8180) 252 (by kernel_rfl) H
theorem L2_X2 {Q : VP} {t2 out3 x4 : Addr} {length6 : OA} {length6n length6c : Nat} {h : Heap} (H :
 SpecH PP F_hmac_Hash_Write [(.pointer (some x4)), (.slice length6 length6n length6c)] h (fun v h1 => v = (.tuple #[]) ∧
 ∃ (t64f0 t64f1 t64f2 t64f3 t64f4 t64f5 t64f6 t64f7 : Int), rdCells h1 x4 0 [(.int .u32 t64f0), (.int .u32 t64f1), (.int .u32 t64f2), (.int .u32 t64f3), (.int .u32 t64f4), (.int .u32 t64f5), (.int .u32 t64f6), (.int .u32 t64f7)] ∧
 L3 t2 out3 t64f0 t64f1 t64f2 t64f3 t64f4 t64f5 t64f6 t64f7 0 (K5 Q) h1)) : (K3 Q) (.exit 2) (X2 t2 out3 x4 length6 length6n length6c) h := of_eq_txt (by kernel_rfl) H
theorem L3_of {t2 out3 : Addr} {t64f0 t64f1 t64f2 t64f3 t64f4 t64f5 t64f6 t64f7 t65 : Int} {K : EP} {h : Heap} (H :
 let t66 : Bool := decide (t65 < 8)
 br t66 (
 hwp PP (Instr.index T_8_uint32 (.agg #[(.int .u32 t64f0), (.int .u32 t64f1), (.int .u32 t64f2), (.int .u32 t64f3), (.int .u32 t64f4), (.int .u32 t64f5), (.int .u32 t64f6), (.int .u32 t64f7)]) (.int .i64 t65)) (fun v h1 => ∃ (t68 : Int), v = (.int .u32 t68) ∧
 L4 t2 out3 t65 t68 t64f0 t64f1 t64f2 t64f3 t64f4 t64f5 t64f6 t64f7 t65 0 (K7 K) h1) h) (
 K (.exit 4) (X4 t2 out3) h)) : L3 t2 out3 t64f0 t64f1 t64f2 t64f3 t64f4 t64f5 t64f6 t64f7 t65 K h := by unfold L3; exact Lp.of_txt (an 32756) 55340232221128654860 (by kernel_rfl) H
theorem L3_X4 {Q : VP} {t2 out3 : Addr} {h : Heap} (H :
 ∃ (t85 : List Value), List.length t85 = 32 ∧ rdCells h out3 0 t85 ∧
 br (decide (Array.size (List.toArray t85) = 32)) (wrCells t2 0 t85 (fun h1 =>
 ∃ (t2_1 : List Value), List.length t2_1 = 32 ∧ rdCells h1 t2 0 t2_1 ∧
 Q (.agg (t2_1).toArray) h1) h) False) : (K5 Q) (.exit 4) (X4 t2 out3) h := of_eq_txt (by kernel_rfl) H
theorem L4_of {t2 out3 : Addr} {i8 v9 t64f0 t64f1 t64f2 t64f3 t64f4 t64f5 t64f6 t64f7 t65 t69 : Int} {K : EP} {h : Heap} (H :
 let t70 : Bool := decide (t69 < 4)
 br t70 (
 let t73 : Int := IntKind.i64.wrap (4 * i8)
 let t75 : Int := IntKind.i64.wrap (t73 + t69)
 let t78 : Int := IntKind.i64.wrap (8 * t69)
 let t79 : Int := IntKind.i64.wrap (24 - t78)
 br (decide (0 ≤ t79)) (
 let t80 : Int := sShr .u32 v9 t79
 let t81 : Int := IntKind.u8.wrap t80
 hwp PP (Instr.indexAt T_32_uint8 (.pointer (some out3)) (.int .i64 t75)) (fun v h1 => ∃ (t82 : Addr), v = (.pointer (some t82)) ∧
 wr t82 (.int .u8 t81) (fun h2 =>
 let t83 : Int := IntKind.i64.wrap (t69 + 1)
 L4 t2 out3 i8 v9 t64f0 t64f1 t64f2 t64f3 t64f4 t64f5 t64f6 t64f7 t65 t83 K h2) h1) h) False) (
 K (.exit 6) (X6 t2 out3 t64f0 t64f1 t64f2 t64f3 t64f4 t64f5 t64f6 t64f7 t65) h)) : L4 t2 out3 i8 v9 t64f0 t64f1 t64f2 t64f3 t64f4 t64f5 t64f6 t64f7 t65 t69 K h := by unfold L4; exact Lp.of_txt (an 8385740) 645636042579834307340 (by kernel_rfl) H
theorem L4_X6 {K : EP} {t2 out3 : Addr} {t64f0 t64f1 t64f2 t64f3 t64f4 t64f5 t64f6 t64f7 t65 : Int} {h : Heap} (H :
 let t84 : Int := IntKind.i64.wrap (t65 + 1)
 L3 t2 out3 t64f0 t64f1 t64f2 t64f3 t64f4 t64f5 t64f6 t64f7 t84 K h) : (K7 K) (.exit 6) (X6 t2 out3 t64f0 t64f1 t64f2 t64f3 t64f4 t64f5 t64f6 t64f7 t65) h := of_eq_txt (by kernel_rfl) H
theorem door {xh0 : OA} {Q : VP} {h : Heap} (H :
 let t2 : Addr := ⟨Array.size h, 0, none⟩
 let h1 : Heap := Array.push h (.cells (Array.replicate 32 (.int .u8 0)) T_32_uint8 (0, 0))
 let out3 : Addr := ⟨Array.size h1, 0, none⟩
 let h2 : Heap := Array.push h1 (.cells (Array.replicate 32 (.int .u8 0)) T_32_uint8 (0, 0))
 let t12 : Bool := (Option.isNone xh0)
 br t12 (
 ∃ (t13 : List Value), List.length t13 = 32 ∧ rdCells h2 out3 0 t13 ∧
 br (decide (Array.size (List.toArray t13) = 32)) (wrCells t2 0 t13 (fun h3 =>
 ∃ (t2_1 : List Value), List.length t2_1 = 32 ∧ rdCells h3 t2 0 t2_1 ∧
 Q (.agg (t2_1).toArray) h3) h2) False) (
 nilc xh0 (fun t15 =>
 nilc xh0 (fun t19 =>
 nilc xh0 (fun t24 =>
 ∃ (t26 : OA) (t26n t26c : Nat), cellH h2 (Addr.add t24 8) = some (.slice t26 t26n t26c) ∧
 (
 ∃ (t17_7f0 t17_7f1 t17_7f2 t17_7f3 t17_7f4 t17_7f5 t17_7f6 t17_7f7 : Int), rdCells h2 t15 0 [(.int .u32 t17_7f0), (.int .u32 t17_7f1), (.int .u32 t17_7f2), (.int .u32 t17_7f3), (.int .u32 t17_7f4), (.int .u32 t17_7f5), (.int .u32 t17_7f6), (.int .u32 t17_7f7)] ∧
 (
 ∃ (t21_7 : Int), cellH h2 (Addr.add t19 9) = some (.int .u64 t21_7) ∧
 let h28 : Heap := Array.push h2 (.cells #[] T_uint8 (0, 0))
 hwp PP (Builtin.append_ #[T_sl_uint8, T_sl_uint8] T_sl_uint8 #[(.slice (some ⟨Array.size h2, 0, none⟩) 0 0), (.slice t26 t26n t26c)]) (fun v_10 h29 => ∃ (t27_10 : OA) (t27_10n t27_10c : Nat), v_10 = (.slice t27_10 t27_10n t27_10c) ∧
 let t29_10 : Addr := ⟨Array.size h29, 0, none⟩
 let h30 : Heap := Array.push h29 (.cells #[(.int .u32 t17_7f0), (.int .u32 t17_7f1), (.int .u32 t17_7f2), (.int .u32 t17_7f3), (.int .u32 t17_7f4), (.int .u32 t17_7f5), (.int .u32 t17_7f6), (.int .u32 t17_7f7), (.slice t27_10 t27_10n t27_10c), (.int .u64 t21_7)] T_hmac_Hash (0, 0))
 J1 xh0 t2 out3 t29_10 Q h30) h28) ∧
 (
 let h23 : Heap := Array.push h2 (.cells #[] T_uint8 (0, 0))
 (
 ∃ (t21_6 : Int), cellH h23 (Addr.add t19 9) = some (.int .u64 t21_6) ∧
 hwp PP (Builtin.append_ #[T_sl_uint8, T_sl_uint8] T_sl_uint8 #[(.slice (some ⟨Array.size h2, 0, none⟩) 0 0), (.slice t26 t26n t26c)]) (fun v_9 h26 => ∃ (t27_9 : OA) (t27_9n t27_9c : Nat), v_9 = (.slice t27_9 t27_9n t27_9c) ∧
 let t29_9 : Addr := ⟨Array.size h26, 0, none⟩
 let h27 : Heap := Array.push h26 (.cells #[(.int .u32 t17_7f0), (.int .u32 t17_7f1), (.int .u32 t17_7f2), (.int .u32 t17_7f3), (.int .u32 t17_7f4), (.int .u32 t17_7f5), (.int .u32 t17_7f6), (.int .u32 t17_7f7), (.slice t27_9 t27_9n t27_9c), (.int .u64 t21_6)] T_hmac_Hash (0, 0))
 J1 xh0 t2 out3 t29_9 Q h27) h23) ∧
 (
 hwp PP (Builtin.append_ #[T_sl_uint8, T_sl_uint8] T_sl_uint8 #[(.slice (some ⟨Array.size h2, 0, none⟩) 0 0), (.slice t26 t26n t26c)]) (fun v_8 h24 => ∃ (t27_8 : OA) (t27_8n t27_8c : Nat), v_8 = (.slice t27_8 t27_8n t27_8c) ∧
 ∃ (t21_5 : Int), cellH h24 (Addr.add t19 9) = some (.int .u64 t21_5) ∧
 let t29_8 : Addr := ⟨Array.size h24, 0, none⟩
 let h25 : Heap := Array.push h24 (.cells #[(.int .u32 t17_7f0), (.int .u32 t17_7f1), (.int .u32 t17_7f2), (.int .u32 t17_7f3), (.int .u32 t17_7f4), (.int .u32 t17_7f5), (.int .u32 t17_7f6), (.int .u32 t17_7f7), (.slice t27_8 t27_8n t27_8c), (.int .u64 t21_5)] T_hmac_Hash (0, 0))
 J1 xh0 t2 out3 t29_8 Q h25) h23) ∧
 True) ∧
 True) ∧
 (
 ∃ (t21_4 : Int), cellH h2 (Addr.add t19 9) = some (.int .u64 t21_4) ∧
 (
 ∃ (t17_6f0 t17_6f1 t17_6f2 t17_6f3 t17_6f4 t17_6f5 t17_6f6 t17_6f7 : Int), rdCells h2 t15 0 [(.int .u32 t17_6f0), (.int .u32 t17_6f1), (.int .u32 t17_6f2), (.int .u32 t17_6f3), (.int .u32 t17_6f4), (.int .u32 t17_6f5), (.int .u32 t17_6f6), (.int .u32 t17_6f7)] ∧
 let h20 : Heap := Array.push h2 (.cells #[] T_uint8 (0, 0))
 hwp PP (Builtin.append_ #[T_sl_uint8, T_sl_uint8] T_sl_uint8 #[(.slice (some ⟨Array.size h2, 0, none⟩) 0 0), (.slice t26 t26n t26c)]) (fun v_7 h21 => ∃ (t27_7 : OA) (t27_7n t27_7c : Nat), v_7 = (.slice t27_7 t27_7n t27_7c) ∧
 let t29_7 : Addr := ⟨Array.size h21, 0, none⟩
 let h22 : Heap := Array.push h21 (.cells #[(.int .u32 t17_6f0), (.int .u32 t17_6f1), (.int .u32 t17_6f2), (.int .u32 t17_6f3), (.int .u32 t17_6f4), (.int .u32 t17_6f5), (.int .u32 t17_6f6), (.int .u32 t17_6f7), (.slice t27_7 t27_7n t27_7c), (.int .u64 t21_4)] T_hmac_Hash (0, 0))
 J1 xh0 t2 out3 t29_7 Q h22) h20) ∧
 (
 let h15 : Heap := Array.push h2 (.cells #[] T_uint8 (0, 0))
 (
 ∃ (t17_5f0 t17_5f1 t17_5f2 t17_5f3 t17_5f4 t17_5f5 t17_5f6 t17_5f7 : Int), rdCells h15 t15 0 [(.int .u32 t17_5f0), (.int .u32 t17_5f1), (.int .u32 t17_5f2), (.int .u32 t17_5f3), (.int .u32 t17_5f4), (.int .u32 t17_5f5), (.int .u32 t17_5f6), (.int .u32 t17_5f7)] ∧
 hwp PP (Builtin.append_ #[T_sl_uint8, T_sl_uint8] T_sl_uint8 #[(.slice (some ⟨Array.size h2, 0, none⟩) 0 0), (.slice t26 t26n t26c)]) (fun v_6 h18 => ∃ (t27_6 : OA) (t27_6n t27_6c : Nat), v_6 = (.slice t27_6 t27_6n t27_6c) ∧
 let t29_6 : Addr := ⟨Array.size h18, 0, none⟩
 let h19 : Heap := Array.push h18 (.cells #[(.int .u32 t17_5f0), (.int .u32 t17_5f1), (.int .u32 t17_5f2), (.int .u32 t17_5f3), (.int .u32 t17_5f4), (.int .u32 t17_5f5), (.int .u32 t17_5f6), (.int .u32 t17_5f7), (.slice t27_6 t27_6n t27_6c), (.int .u64 t21_4)] T_hmac_Hash (0, 0))
 J1 xh0 t2 out3 t29_6 Q h19) h15) ∧
 (
 hwp PP (Builtin.append_ #[T_sl_uint8, T_sl_uint8] T_sl_uint8 #[(.slice (some ⟨Array.size h2, 0, none⟩) 0 0), (.slice t26 t26n t26c)]) (fun v_5 h16 => ∃ (t27_5 : OA) (t27_5n t27_5c : Nat), v_5 = (.slice t27_5 t27_5n t27_5c) ∧
 ∃ (t17_4f0 t17_4f1 t17_4f2 t17_4f3 t17_4f4 t17_4f5 t17_4f6 t17_4f7 : Int), rdCells h16 t15 0 [(.int .u32 t17_4f0), (.int .u32 t17_4f1), (.int .u32 t17_4f2), (.int .u32 t17_4f3), (.int .u32 t17_4f4), (.int .u32 t17_4f5), (.int .u32 t17_4f6), (.int .u32 t17_4f7)] ∧
 let t29_5 : Addr := ⟨Array.size h16, 0, none⟩
 let h17 : Heap := Array.push h16 (.cells #[(.int .u32 t17_4f0), (.int .u32 t17_4f1), (.int .u32 t17_4f2), (.int .u32 t17_4f3), (.int .u32 t17_4f4), (.int .u32 t17_4f5), (.int .u32 t17_4f6), (.int .u32 t17_4f7), (.slice t27_5 t27_5n t27_5c), (.int .u64 t21_4)] T_hmac_Hash (0, 0))
 J1 xh0 t2 out3 t29_5 Q h17) h15) ∧
 True) ∧
 True) ∧
 (
 let h4 : Heap := Array.push h2 (.cells #[] T_uint8 (0, 0))
 (
 ∃ (t17_3f0 t17_3f1 t17_3f2 t17_3f3 t17_3f4 t17_3f5 t17_3f6 t17_3f7 : Int), rdCells h4 t15 0 [(.int .u32 t17_3f0), (.int .u32 t17_3f1), (.int .u32 t17_3f2), (.int .u32 t17_3f3), (.int .u32 t17_3f4), (.int .u32 t17_3f5), (.int .u32 t17_3f6), (.int .u32 t17_3f7)] ∧
 (
 ∃ (t21_3 : Int), cellH h4 (Addr.add t19 9) = some (.int .u64 t21_3) ∧
 hwp PP (Builtin.append_ #[T_sl_uint8, T_sl_uint8] T_sl_uint8 #[(.slice (some ⟨Array.size h2, 0, none⟩) 0 0), (.slice t26 t26n t26c)]) (fun v_4 h13 => ∃ (t27_4 : OA) (t27_4n t27_4c : Nat), v_4 = (.slice t27_4 t27_4n t27_4c) ∧
 let t29_4 : Addr := ⟨Array.size h13, 0, none⟩
 let h14 : Heap := Array.push h13 (.cells #[(.int .u32 t17_3f0), (.int .u32 t17_3f1), (.int .u32 t17_3f2), (.int .u32 t17_3f3), (.int .u32 t17_3f4), (.int .u32 t17_3f5), (.int .u32 t17_3f6), (.int .u32 t17_3f7), (.slice t27_4 t27_4n t27_4c), (.int .u64 t21_3)] T_hmac_Hash (0, 0))
 J1 xh0 t2 out3 t29_4 Q h14) h4) ∧
 (
 hwp PP (Builtin.append_ #[T_sl_uint8, T_sl_uint8] T_sl_uint8 #[(.slice (some ⟨Array.size h2, 0, none⟩) 0 0), (.slice t26 t26n t26c)]) (fun v_3 h11 => ∃ (t27_3 : OA) (t27_3n t27_3c : Nat), v_3 = (.slice t27_3 t27_3n t27_3c) ∧
 ∃ (t21_2 : Int), cellH h11 (Addr.add t19 9) = some (.int .u64 t21_2) ∧
 let t29_3 : Addr := ⟨Array.size h11, 0, none⟩
 let h12 : Heap := Array.push h11 (.cells #[(.int .u32 t17_3f0), (.int .u32 t17_3f1), (.int .u32 t17_3f2), (.int .u32 t17_3f3), (.int .u32 t17_3f4), (.int .u32 t17_3f5), (.int .u32 t17_3f6), (.int .u32 t17_3f7), (.slice t27_3 t27_3n t27_3c), (.int .u64 t21_2)] T_hmac_Hash (0, 0))
 J1 xh0 t2 out3 t29_3 Q h12) h4) ∧
 True) ∧
 (
 ∃ (t21_1 : Int), cellH h4 (Addr.add t19 9) = some (.int .u64 t21_1) ∧
 (
 ∃ (t17_2f0 t17_2f1 t17_2f2 t17_2f3 t17_2f4 t17_2f5 t17_2f6 t17_2f7 : Int), rdCells h4 t15 0 [(.int .u32 t17_2f0), (.int .u32 t17_2f1), (.int .u32 t17_2f2), (.int .u32 t17_2f3), (.int .u32 t17_2f4), (.int .u32 t17_2f5), (.int .u32 t17_2f6), (.int .u32 t17_2f7)] ∧
 hwp PP (Builtin.append_ #[T_sl_uint8, T_sl_uint8] T_sl_uint8 #[(.slice (some ⟨Array.size h2, 0, none⟩) 0 0), (.slice t26 t26n t26c)]) (fun v_2 h9 => ∃ (t27_2 : OA) (t27_2n t27_2c : Nat), v_2 = (.slice t27_2 t27_2n t27_2c) ∧
 let t29_2 : Addr := ⟨Array.size h9, 0, none⟩
 let h10 : Heap := Array.push h9 (.cells #[(.int .u32 t17_2f0), (.int .u32 t17_2f1), (.int .u32 t17_2f2), (.int .u32 t17_2f3), (.int .u32 t17_2f4), (.int .u32 t17_2f5), (.int .u32 t17_2f6), (.int .u32 t17_2f7), (.slice t27_2 t27_2n t27_2c), (.int .u64 t21_1)] T_hmac_Hash (0, 0))
 J1 xh0 t2 out3 t29_2 Q h10) h4) ∧
 (
 hwp PP (Builtin.append_ #[T_sl_uint8, T_sl_uint8] T_sl_uint8 #[(.slice (some ⟨Array.size h2, 0, none⟩) 0 0), (.slice t26 t26n t26c)]) (fun v_1 h7 => ∃ (t27_1 : OA) (t27_1n t27_1c : Nat), v_1 = (.slice t27_1 t27_1n t27_1c) ∧
 ∃ (t17_1f0 t17_1f1 t17_1f2 t17_1f3 t17_1f4 t17_1f5 t17_1f6 t17_1f7 : Int), rdCells h7 t15 0 [(.int .u32 t17_1f0), (.int .u32 t17_1f1), (.int .u32 t17_1f2), (.int .u32 t17_1f3), (.int .u32 t17_1f4), (.int .u32 t17_1f5), (.int .u32 t17_1f6), (.int .u32 t17_1f7)] ∧
 let t29_1 : Addr := ⟨Array.size h7, 0, none⟩
 let h8 : Heap := Array.push h7 (.cells #[(.int .u32 t17_1f0), (.int .u32 t17_1f1), (.int .u32 t17_1f2), (.int .u32 t17_1f3), (.int .u32 t17_1f4), (.int .u32 t17_1f5), (.int .u32 t17_1f6), (.int .u32 t17_1f7), (.slice t27_1 t27_1n t27_1c), (.int .u64 t21_1)] T_hmac_Hash (0, 0))
 J1 xh0 t2 out3 t29_1 Q h8) h4) ∧
 True) ∧
 (
 hwp PP (Builtin.append_ #[T_sl_uint8, T_sl_uint8] T_sl_uint8 #[(.slice (some ⟨Array.size h2, 0, none⟩) 0 0), (.slice t26 t26n t26c)]) (fun v h5 => ∃ (t27 : OA) (t27n t27c : Nat), v = (.slice t27 t27n t27c) ∧
 ∃ (t17f0 t17f1 t17f2 t17f3 t17f4 t17f5 t17f6 t17f7 : Int), rdCells h5 t15 0 [(.int .u32 t17f0), (.int .u32 t17f1), (.int .u32 t17f2), (.int .u32 t17f3), (.int .u32 t17f4), (.int .u32 t17f5), (.int .u32 t17f6), (.int .u32 t17f7)] ∧
 ∃ (t21 : Int), cellH h5 (Addr.add t19 9) = some (.int .u64 t21) ∧
 let t29 : Addr := ⟨Array.size h5, 0, none⟩
 let h6 : Heap := Array.push h5 (.cells #[(.int .u32 t17f0), (.int .u32 t17f1), (.int .u32 t17f2), (.int .u32 t17f3), (.int .u32 t17f4), (.int .u32 t17f5), (.int .u32 t17f6), (.int .u32 t17f7), (.slice t27 t27n t27c), (.int .u64 t21)] T_hmac_Hash (0, 0))
 J1 xh0 t2 out3 t29 Q h6) h4) ∧
 True) ∧
 True))))) : SpecH PP F_hmac_Hash_Sum [(.pointer xh0)] h Q :=
   spec_of_txt (ann := ann) Tryz.func62 rfl rfl (by kernel_rfl) H
end hmac_Hash_Sum
/-! ### haversack/haversackref15.Sum: function 63 -/
namespace ref15_Sum
def ann : Ann := (.seq 5 (.region [(List.range 1, 5)]) (.seq 13 (.region [(List.range 3, 13)]) (.seq 28 (.region [(List.range 3, 28)]) (.seq 12 (.seq 60 (.region [(List.range 1, 60)]) (.block (.loop 60 (.seq 60 (.seq 32828 (.region [(List.range 4, 32828)]) (.cond .leaf (.exit 12))) (.seq 60 (.block (.region [(List.range 8, 60)])) (.region [(List.range 3, 60)])))))) (.seq 76 (.region [(List.range 1, 76)]) (.seq 68 (.seq 204 (.region [(List.range 1, 204)]) (.block (.loop 204 (.seq 204 (.seq 67109068 (.region [(List.range 2, 67109068)]) (.cond .leaf (.exit 68))) (.seq 204 (.block (.seq 460 (.region [(List.range 1, 460)]) (.block (.loop 460 (.seq 460 (.seq 1073742284 (.region [(List.range 2, 1073742284)]) (.cond .leaf (.exit 204))) (.seq 460 (.block (.seq 460 (.region [(List.range 11, 460)]) (.region [(List.range 7, 460)]))) (.region [(List.range 3, 460)]))))))) (.region [(List.range 3, 204)])))))) (.seq 4 (.region [(List.range 2, 4)]) (.exit 4))))))))
noncomputable abbrev cd (n : Nat) : Code := sub (bodyOf Tryz.f63) (pth n)
abbrev an (n : Nat) : Ann := subA ann (pth n)
@[irreducible] def X0 (t2 xh3 : Addr) : Fr := (mkFr 0 50 [(2, (.pointer (some t2))), (3, (.pointer (some xh3)))])
@[irreducible] def X2 (t2 out6 : Addr) : Fr := (mkFr 0 50 [(2, (.pointer (some t2))), (6, (.pointer (some out6)))])
@[irreducible] def X4 (t2 xh3 out6 : Addr) (i7 : Int) : Fr := (mkFr 0 50 [(2, (.pointer (some t2))), (3, (.pointer (some xh3))), (6, (.pointer (some out6))), (7, (.int .i64 i7))])
@[irreducible] def L1 (t2 xh3 : Addr) (all4 : OA) (all4n all4c : Nat) (i5 : Int) (K : EP) (h : Heap) : Prop := Lp PP true (cd 244) (mkFr 0 50 [(2, (.pointer (some t2))), (3, (.pointer (some xh3))), (4, (.slice all4 all4n all4c)), (5, (.int .i64 i5))]) K h
@[irreducible] def B1 (K : EP) : EP := seqK (fun fr h => Lp PP true (cd 244) (fr.mask 60) K h) K
@[irreducible] def K3 (Q : VP) : EP := seqK (fun fr h => ev PP true none (cd 31) (an 31) (fr.mask 12) (bodyK PP Tryz.f63 Q) h) (bodyK PP Tryz.f63 Q)
@[irreducible] def K1 (Q : VP) : EP := blockK 0 (K3 Q)
@[irreducible] def K4 (Q : VP) : EP := seqK (fun fr h => ev PP true none (cd 127) (an 127) (fr.mask 68) (bodyK PP Tryz.f63 Q) h) (bodyK PP Tryz.f63 Q)
@[irreducible] def K2 (Q : VP) : EP := blockK 2 (K4 Q)
@[irreducible] def L2 (t2 xh3 out6 : Addr) (i7 : Int) (K : EP) (h : Heap) : Prop := Lp PP true (cd 1012) (mkFr 0 50 [(2, (.pointer (some t2))), (3, (.pointer (some xh3))), (6, (.pointer (some out6))), (7, (.int .i64 i7))]) K h
@[irreducible] def B2 (K : EP) : EP := seqK (fun fr h => Lp PP true (cd 1012) (fr.mask 204) K h) K
@[irreducible] def K7 (K : EP) : EP := seqK (fun fr h => ev PP true none (cd 4051) (an 4051) (fr.mask 204) (B2 K) h) (B2 K)
@[irreducible] def K6 (K : EP) : EP := blockK 3 (K7 K)
@[irreducible] def K5 (K : EP) : EP := blockK 4 (K6 K)
@[irreducible] def L3 (t2 xh3 out6 : Addr) (i7 xn8 : Int) (K : EP) (h : Heap) : Prop := Lp PP true (cd 64804) (mkFr 0 50 [(2, (.pointer (some t2))), (3, (.pointer (some xh3))), (6, (.pointer (some out6))), (7, (.int .i64 i7)), (8, (.int .i64 xn8))]) K h
@[irreducible] def B3 (K : EP) : EP := seqK (fun fr h => Lp PP true (cd 64804) (fr.mask 460) K h) K
theorem L1_of {t2 xh3 : Addr} {all4 : OA} {all4n all4c : Nat} {i5 : Int} {K : EP} {h : Heap} (H :
 let t15 : Bool := decide (i5 < (all4n : Int))
 br t15 (
 ∃ (t18f0 t18f1 t18f2 t18f3 t18f4 t18f5 t18f6 t18f7 : Int), rdCells h xh3 0 [(.int .u32 t18f0), (.int .u32 t18f1), (.int .u32 t18f2), (.int .u32 t18f3), (.int .u32 t18f4), (.int .u32 t18f5), (.int .u32 t18f6), (.int .u32 t18f7)] ∧
 let t22 : Int := IntKind.i64.wrap (i5 + 64)
 hwp PP (Instr.sliceAt T_sl_uint8 (.slice all4 all4n all4c) (some (.int .i64 i5)) (some (.int .i64 t22)) none) (fun v h1 => ∃ (t23 : OA) (t23n t23c : Nat), v = (.slice t23 t23n t23c) ∧
 SpecH PP F_ref15_block [(.agg #[(.int .u32 t18f0), (.int .u32 t18f1), (.int .u32 t18f2), (.int .u32 t18f3), (.int .u32 t18f4), (.int .u32 t18f5), (.int .u32 t18f6), (.int .u32 t18f7)]), (.slice t23 t23n t23c)] h1 (fun v_1 h2 => ∃ (t24f0 t24f1 t24f2 t24f3 t24f4 t24f5 t24f6 t24f7 : Int), v_1 = (.agg #[(.int .u32 t24f0), (.int .u32 t24f1), (.int .u32 t24f2), (.int .u32 t24f3), (.int .u32 t24f4), (.int .u32 t24f5), (.int .u32 t24f6), (.int .u32 t24f7)]) ∧
 wrCells xh3 0 [(.int .u32 t24f0), (.int .u32 t24f1), (.int .u32 t24f2), (.int .u32 t24f3), (.int .u32 t24f4), (.int .u32 t24f5), (.int .u32 t24f6), (.int .u32 t24f7)] (fun h3 =>
 let t17 : Int := IntKind.i64.wrap (i5 + 64)
 L1 t2 xh3 all4 all4n all4c t17 K h3) h2)) h) (
 K (.exit 0) (X0 t2 xh3) h)) : L1 t2 xh3 all4 all4n all4c i5 K h := by unfold L1; exact Lp.of_txt (an 244) 60 (by kernel_rfl) H
theorem L1_X0 {Q : VP} {t2 xh3 : Addr} {h : Heap} (H :
 let out6 : Addr := ⟨Array.size h, 0, none⟩
 let h1 : Heap := Array.push h (.cells (Array.replicate 32 (.int .u8 0)) T_32_uint8 (0, 0))
 L2 t2 xh3 out6 0 (K2 Q) h1) : (K1 Q) (.exit 0) (X0 t2 xh3) h := of_eq_txt (by kernel_rfl) H
theorem L2_of {t2 xh3 out6 : Addr} {i7 : Int} {K : EP} {h : Heap} (H :
 let t26 : Bool := decide (i7 < 8)
 br t26 (
 L3 t2 xh3 out6 i7 3 (K5 K) h) (
 K (.exit 2) (X2 t2 out6) h)) : L2 t2 xh3 out6 i7 K h := by unfold L2; exact Lp.of_txt (an 1012) 204 (by kernel_rfl) H
theorem L2_X2 {Q : VP} {t2 out6 : Addr} {h : Heap} (H :
 ∃ (t49 : List Value), List.length t49 = 32 ∧ rdCells h out6 0 t49 ∧
 br (decide (Array.size (List.toArray t49) = 32)) (wrCells t2 0 t49 (fun h1 =>
 ∃ (t2_1 : List Value), List.length t2_1 = 32 ∧ rdCells h1 t2 0 t2_1 ∧
 Q (.agg (t2_1).toArray) h1) h) False) : (K2 Q) (.exit 2) (X2 t2 out6) h := of_eq_txt (by kernel_rfl) H
theorem L3_of {t2 xh3 out6 : Addr} {i7 xn8 : Int} {K : EP} {h : Heap} (H :
 let t30 : Bool := decide (xn8 ≥ 0)
 br t30 (
 let t34 : Int := IntKind.i64.wrap (4 * i7)
 let t36 : Int := IntKind.i64.wrap (t34 + xn8)
 hwp PP (Instr.indexAt T_8_uint32 (.pointer (some xh3)) (.int .i64 i7)) (fun v h1 => ∃ (t38 : Addr), v = (.pointer (some t38)) ∧
 ∃ (t39 : Int), cellH h1 t38 = some (.int .u32 t39) ∧
 let t40 : Int := Int.tmod t39 256
 let t41 : Int := IntKind.u8.wrap t40
 hwp PP (Instr.indexAt T_32_uint8 (.pointer (some out6)) (.int .i64 t36)) (fun v_1 h2 => ∃ (t42 : Addr), v_1 = (.pointer (some t42)) ∧
 wr t42 (.int .u8 t41) (fun h3 =>
 hwp PP (Instr.indexAt T_8_uint32 (.pointer (some xh3)) (.int .i64 i7)) (fun v_2 h4 => ∃ (t45 : Addr), v_2 = (.pointer (some t45)) ∧
 ∃ (t46 : Int), cellH h4 t45 = some (.int .u32 t46) ∧
 let t47 : Int := IntKind.u32.wrap (Int.tdiv t46 256)
 hwp PP (Instr.indexAt T_8_uint32 (.pointer (some xh3)) (.int .i64 i7)) (fun v_3 h5 => ∃ (t48 : Addr), v_3 = (.pointer (some t48)) ∧
 wr t48 (.int .u32 t47) (fun h6 =>
 let t32 : Int := IntKind.i64.wrap (xn8 - 1)
 L3 t2 xh3 out6 i7 t32 K h6) h5) h4) h3) h2) h1) h) (
 K (.exit 4) (X4 t2 xh3 out6 i7) h)) : L3 t2 xh3 out6 i7 xn8 K h := by unfold L3; exact Lp.of_txt (an 64804) 460 (by kernel_rfl) H
theorem L3_X4 {K : EP} {t2 xh3 out6 : Addr} {i7 : Int} {h : Heap} (H :
 let t28 : Int := IntKind.i64.wrap (i7 + 1)
 L2 t2 xh3 out6 t28 K h) : (K5 K) (.exit 4) (X4 t2 xh3 out6 i7) h := of_eq_txt (by kernel_rfl) H
theorem door {b0 : OA} {b0n b0c : Nat} {Q : VP} {h : Heap} (H :
 let t2 : Addr := ⟨Array.size h, 0, none⟩
 let h1 : Heap := Array.push h (.cells (Array.replicate 32 (.int .u8 0)) T_32_uint8 (0, 0))
 let xh3 : Addr := ⟨Array.size h1, 0, none⟩
 let h2 : Heap := Array.push h1 (.cells #[(.int .u32 0), (.int .u32 0), (.int .u32 0), (.int .u32 0), (.int .u32 0), (.int .u32 0), (.int .u32 0), (.int .u32 0)] T_8_uint32 (0, 0))
 wrCells xh3 0 [(.int .u32 1779033703), (.int .u32 3144134277), (.int .u32 1013904242), (.int .u32 2773480762), (.int .u32 1359893119), (.int .u32 2600822924), (.int .u32 528734635), (.int .u32 1541459225)] (fun h3 =>
 SpecH PP F_ref15_padded [(.slice b0 b0n b0c)] h3 (fun v h4 => ∃ (t11 : OA) (t11n t11c : Nat), v = (.slice t11 t11n t11c) ∧
 L1 t2 xh3 t11 t11n t11c 0 (K1 Q) h4)) h2) : SpecH PP F_ref15_Sum [(.slice b0 b0n b0c)] h Q :=
   spec_of_txt (ann := ann) Tryz.func63 rfl rfl (by kernel_rfl) H
end ref15_Sum
/-! ### (*haversack/hmac.Hash).block: function 76 -/
namespace hmac_Hash_block
def ann : Ann := (.seq 19 (.region [(List.range 1, 19)]) (.seq 17 (.seq 1048595 (.region [(List.range 1, 1048595)]) (.block (.loop 1048595 (.seq 3145747 (.region [(List.range 1, 3145747)]) (.seq 1048595 (.cond .leaf (.exit 17)) (.seq 1048595 (.block (.seq 1048627 (.region [(List.range 2, 1048627)]) (.region [(List.range 36, 1048595)]))) (.region [(List.range 2, 1048595)]))))))) (.seq 17 (.seq 81 (.region [(List.range 1, 81)]) (.block (.loop 81 (.seq 81 (.seq 1152921504606847057 (.region [(List.range 2, 1152921504606847057)]) (.cond .leaf (.exit 17))) (.seq 81 (.block (.seq 465 (.region [(List.range 10, 465)]) (.region [(List.range 30, 81)]))) (.region [(List.range 3, 81)])))))) (.seq 529 (.region [(List.range 6, 529)]) (.seq 513 (.seq 20282409603651670423947251286545 (.region [(List.range 1, 20282409603651670423947251286545)]) (.block (.loop 20282409603651670423947251286545 (.seq 60847228810955011271841753858577 (.region [(List.range 1, 60847228810955011271841753858577)]) (.seq 20282409603651670423947251286545 (.cond .leaf (.exit 513)) (.seq 20282409603651670423947251286545 (.block (.seq 20282409603651670423947251287569 (.region [(List.range 2, 20282409603651670423947251287569)]) (.seq 20282409603651670423947251416593 (.region [(List.range 18, 20282409603651670423947251416593)]) (.seq 20282409603651670423947251546641 (.region [(List.range 29, 20282409603651670423947251546641)]) (.seq 20282409603651670423947251808785 (.region [(List.range 19, 20282409603651670423947251808785)]) (.region [(List.range 15, 20282409603651670423947251286545)])))))) (.region [(List.range 2, 20282409603651670423947251286545)]))))))) (.seq 1532495540865888858358347027150309183618739122183602689 (.region [(List.range 1, 1532495540865888858358347027150309183618739122183602689)]) (.block (.loop 1532495540865888858358347027150309183618739122183602689 (.seq 4597486622597666575075041081450927550856217366550807041 (.region [(List.range 1, 4597486622597666575075041081450927550856217366550807041)]) (.seq 1532495540865888858358347027150309183618739122183602689 (.cond .leaf (.exit 0)) (.seq 1532495540865888858358347027150309183618739122183602689 (.block (.seq 1532495540865888858358347027150309183618739122184126977 (.region [(List.range 2, 1532495540865888858358347027150309183618739122184126977)]) (.region [(List.range 14, 1532495540865888858358347027150309183618739122183602689)]))) (.region [(List.range 2, 1532495540865888858358347027150309183618739122183602689)]))))))))))))
noncomputable abbrev cd (n : Nat) : Code := sub (bodyOf Tryz.f76) (pth n)
abbrev an (n : Nat) : Ann := subA ann (pth n)
@[irreducible] def X0 (xh0 : OA) (w4 : Addr) : Fr := (mkFr 0 197 [(0, (.pointer xh0)), (4, (.pointer (some w4)))])
@[irreducible] def X2 (xh0 : OA) (w4 : Addr) : Fr := (mkFr 0 197 [(0, (.pointer xh0)), (4, (.pointer (some w4)))])
@[irreducible] def X4 (xh0 : OA) (s9 : Addr) : Fr := (mkFr 0 197 [(0, (.pointer xh0)), (9, (.pointer (some s9)))])
@[irreducible] def X6  : Fr := (mkFr 0 197 [])
@[irreducible] def L1 (xh0 p1 : OA) (p1n p1c : Nat) (w4 : Addr) (t20 : Int) (K : EP) (h : Heap) : Prop := Lp PP true (cd 52) (mkFr 0 197 [(0, (.pointer xh0)), (1, (.slice p1 p1n p1c)), (4, (.pointer (some w4))), (20, (.int .i64 t20))]) K h
@[irreducible] def B1 (K : EP) : EP := seqK (fun fr h => Lp PP true (cd 52) (fr.mask 1048595) K h) K
@[irreducible] def K3 (Q : VP) : EP := seqK (fun fr h => ev PP true none (cd 7) (an 7) (fr.mask 17) (bodyK PP Tryz.f76 Q) h) (bodyK PP Tryz.f76 Q)
@[irreducible] def K1 (Q : VP) : EP := blockK 0 (K3 Q)
@[irreducible] def K4 (Q : VP) : EP := seqK (fun fr h => ev PP true none (cd 15) (an 15) (fr.mask 17) (bodyK PP Tryz.f76 Q) h) (bodyK PP Tryz.f76 Q)
@[irreducible] def K2 (Q : VP) : EP := blockK 2 (K4 Q)
@[irreducible] def L2 (xh0 : OA) (w4 : Addr) (i6 : Int) (K : EP) (h : Heap) : Prop := Lp PP true (cd 116) (mkFr 0 197 [(0, (.pointer xh0)), (4, (.pointer (some w4))), (6, (.int .i64 i6))]) K h
@[irreducible] def B2 (K : EP) : EP := seqK (fun fr h => Lp PP true (cd 116) (fr.mask 81) K h) K
@[irreducible] def K6 (Q : VP) : EP := seqK (fun fr h => ev PP true none (cd 63) (an 63) (fr.mask 513) (bodyK PP Tryz.f76 Q) h) (bodyK PP Tryz.f76 Q)
@[irreducible] def K5 (Q : VP) : EP := blockK 4 (K6 Q)
@[irreducible] def L3 (xh0 : OA) (w4 s9 : Addr) (t104 : Int) (K : EP) (h : Heap) : Prop := Lp PP true (cd 500) (mkFr 0 197 [(0, (.pointer xh0)), (4, (.pointer (some w4))), (9, (.pointer (some s9))), (104, (.int .i64 t104))]) K h
@[irreducible] def B3 (K : EP) : EP := seqK (fun fr h => Lp PP true (cd 500) (fr.mask 20282409603651670423947251286545) K h) K
@[irreducible] def K7 (Q : VP) : EP := blockK 6 (bodyK PP Tryz.f76 Q)
@[irreducible] def L4 (xh0 : OA) (s9 : Addr) (t180 : Int) (K : EP) (h : Heap) : Prop := Lp PP true (cd 508) (mkFr 0 197 [(0, (.pointer xh0)), (9, (.pointer (some s9))), (180, (.int .i64 t180))]) K h
@[irreducible] def B4 (K : EP) : EP := seqK (fun fr h => Lp PP true (cd 508) (fr.mask 1532495540865888858358347027150309183618739122183602689) K h) K
theorem L1_of {xh0 p1 : OA} {p1n p1c : Nat} {w4 : Addr} {t20 : Int} {K : EP} {h : Heap} (H :
 let t21 : Bool := decide (t20 < 16)
 br t21 (
 let t26 : Int := IntKind.i64.wrap (4 * t20)
 hwp PP (Instr.indexAt T_sl_uint8 (.slice p1 p1n p1c) (.int .i64 t26)) (fun v h1 => ∃ (t27 : Addr), v = (.pointer (some t27)) ∧
 ∃ (t28 : Int), cellH h1 t27 = some (.int .u8 t28) ∧
 let t29 : Int := IntKind.u32.wrap t28
 let t30 : Int := sShl .u32 t29 24
 let t33 : Int := IntKind.i64.wrap (4 * t20)
 let t34 : Int := IntKind.i64.wrap (t33 + 1)
 hwp PP (Instr.indexAt T_sl_uint8 (.slice p1 p1n p1c) (.int .i64 t34)) (fun v_1 h2 => ∃ (t35 : Addr), v_1 = (.pointer (some t35)) ∧
 ∃ (t36 : Int), cellH h2 t35 = some (.int .u8 t36) ∧
 let t37 : Int := IntKind.u32.wrap t36
 let t38 : Int := sShl .u32 t37 16
 let t39 : Int := bOr .u32 t30 t38
 let t42 : Int := IntKind.i64.wrap (4 * t20)
 let t43 : Int := IntKind.i64.wrap (t42 + 2)
 hwp PP (Instr.indexAt T_sl_uint8 (.slice p1 p1n p1c) (.int .i64 t43)) (fun v_2 h3 => ∃ (t44 : Addr), v_2 = (.pointer (some t44)) ∧
 ∃ (t45 : Int), cellH h3 t44 = some (.int .u8 t45) ∧
 let t46 : Int := IntKind.u32.wrap t45
 let t47 : Int := sShl .u32 t46 8
 let t48 : Int := bOr .u32 t39 t47
 let t51 : Int := IntKind.i64.wrap (4 * t20)
 let t52 : Int := IntKind.i64.wrap (t51 + 3)
 hwp PP (Instr.indexAt T_sl_uint8 (.slice p1 p1n p1c) (.int .i64 t52)) (fun v_3 h4 => ∃ (t53 : Addr), v_3 = (.pointer (some t53)) ∧
 ∃ (t54 : Int), cellH h4 t53 = some (.int .u8 t54) ∧
 let t55 : Int := IntKind.u32.wrap t54
 let t56 : Int := bOr .u32 t48 t55
 hwp PP (Instr.indexAt T_64_uint32 (.pointer (some w4)) (.int .i64 t20)) (fun v_4 h5 => ∃ (t57 : Addr), v_4 = (.pointer (some t57)) ∧
 wr t57 (.int .u32 t56) (fun h6 =>
 let t58 : Int := IntKind.i64.wrap (t20 + 1)
 L1 xh0 p1 p1n p1c w4 t58 K h6) h5) h4) h3) h2) h1) h) (
 K (.exit 0) (X0 xh0 w4) h)) : L1 xh0 p1 p1n p1c w4 t20 K h := by unfold L1; exact Lp.of_txt (an 52) 1048595 (by kernel_rfl) H
theorem L1_X0 {Q : VP} {xh0 : OA} {w4 : Addr} {h : Heap} (H :
 L2 xh0 w4 16 (K2 Q) h) : (K1 Q) (.exit 0) (X0 xh0 w4) h := of_eq_txt (by kernel_rfl) H
theorem L2_of {xh0 : OA} {w4 : Addr} {i6 : Int} {K : EP} {h : Heap} (H :
 let t60 : Bool := decide (i6 < 64)
 br t60 (
 let t64 : Int := IntKind.i64.wrap (i6 - 15)
 hwp PP (Instr.indexAt T_64_uint32 (.pointer (some w4)) (.int .i64 t64)) (fun v h1 => ∃ (t65 : Addr), v = (.pointer (some t65)) ∧
 ∃ (t66 : Int), cellH h1 t65 = some (.int .u32 t66) ∧
 let t68 : Int := IntKind.i64.wrap (i6 - 2)
 hwp PP (Instr.indexAt T_64_uint32 (.pointer (some w4)) (.int .i64 t68)) (fun v_1 h2 => ∃ (t69 : Addr), v_1 = (.pointer (some t69)) ∧
 ∃ (t70 : Int), cellH h2 t69 = some (.int .u32 t70) ∧
 let t73 : Int := IntKind.i64.wrap (i6 - 16)
 hwp PP (Instr.indexAt T_64_uint32 (.pointer (some w4)) (.int .i64 t73)) (fun v_2 h3 => ∃ (t74 : Addr), v_2 = (.pointer (some t74)) ∧
 ∃ (t75 : Int), cellH h3 t74 = some (.int .u32 t75) ∧
 ∃ v_3, PureAt PP F_hmac_right [(.int .u32 t66), (.int .i64 7)] v_3 ∧
 ∃ (t77 : Int), v_3 = (.int .u32 t77) ∧
 ∃ v_4, PureAt PP F_hmac_right [(.int .u32 t66), (.int .i64 18)] v_4 ∧
 ∃ (t79 : Int), v_4 = (.int .u32 t79) ∧
 let t80 : Int := bXor .u32 t77 t79
 let t82 : Int := sShr .u32 t66 3
 let t83 : Int := bXor .u32 t80 t82
 let t84 : Int := IntKind.u32.wrap (t75 + t83)
 let t86 : Int := IntKind.i64.wrap (i6 - 7)
 hwp PP (Instr.indexAt T_64_uint32 (.pointer (some w4)) (.int .i64 t86)) (fun v_5 h4 => ∃ (t87 : Addr), v_5 = (.pointer (some t87)) ∧
 ∃ (t88 : Int), cellH h4 t87 = some (.int .u32 t88) ∧
 let t89 : Int := IntKind.u32.wrap (t84 + t88)
 ∃ v_6, PureAt PP F_hmac_right [(.int .u32 t70), (.int .i64 17)] v_6 ∧
 ∃ (t91 : Int), v_6 = (.int .u32 t91) ∧
 ∃ v_7, PureAt PP F_hmac_right [(.int .u32 t70), (.int .i64 19)] v_7 ∧
 ∃ (t93 : Int), v_7 = (.int .u32 t93) ∧
 let t94 : Int := bXor .u32 t91 t93
 let t96 : Int := sShr .u32 t70 10
 let t97 : Int := bXor .u32 t94 t96
 let t98 : Int := IntKind.u32.wrap (t89 + t97)
 hwp PP (Instr.indexAt T_64_uint32 (.pointer (some w4)) (.int .i64 i6)) (fun v_8 h5 => ∃ (t99 : Addr), v_8 = (.pointer (some t99)) ∧
 wr t99 (.int .u32 t98) (fun h6 =>
 let t62 : Int := IntKind.i64.wrap (i6 + 1)
 L2 xh0 w4 t62 K h6) h5) h4) h3) h2) h1) h) (
 K (.exit 2) (X2 xh0 w4) h)) : L2 xh0 w4 i6 K h := by unfold L2; exact Lp.of_txt (an 116) 81 (by kernel_rfl) H
theorem L2_X2 {Q : VP} {xh0 : OA} {w4 : Addr} {h : Heap} (H :
 nilc xh0 (fun t101 =>
 ∃ (t103f0 t103f1 t103f2 t103f3 t103f4 t103f5 t103f6 t103f7 : Int), rdCells h t101 0 [(.int .u32 t103f0), (.int .u32 t103f1), (.int .u32 t103f2), (.int .u32 t103f3), (.int .u32 t103f4), (.int .u32 t103f5), (.int .u32 t103f6), (.int .u32 t103f7)] ∧
 let s9 : Addr := ⟨Array.size h, 0, none⟩
 let h1 : Heap := Array.push h (.cells #[(.int .u32 0), (.int .u32 0), (.int .u32 0), (.int .u32 0), (.int .u32 0), (.int .u32 0), (.int .u32 0), (.int .u32 0)] T_8_uint32 (0, 0))
 wrCells s9 0 [(.int .u32 t103f0), (.int .u32 t103f1), (.int .u32 t103f2), (.int .u32 t103f3), (.int .u32 t103f4), (.int .u32 t103f5), (.int .u32 t103f6), (.int .u32 t103f7)] (fun h2 =>
 L3 xh0 w4 s9 0 (K5 Q) h2) h1)) : (K2 Q) (.exit 2) (X2 xh0 w4) h := of_eq_txt (by kernel_rfl) H
theorem L3_of {xh0 : OA} {w4 s9 : Addr} {t104 : Int} {K : EP} {h : Heap} (H :
 let t105 : Bool := decide (t104 < 64)
 br t105 (
 hwp PP (Instr.indexAt T_8_uint32 (.pointer (some s9)) (.int .i64 0)) (fun v h1 => ∃ (t107 : Addr), v = (.pointer (some t107)) ∧
 ∃ (t108 : Int), cellH h1 t107 = some (.int .u32 t108) ∧
 hwp PP (Instr.indexAt T_8_uint32 (.pointer (some s9)) (.int .i64 1)) (fun v_1 h2 => ∃ (t109 : Addr), v_1 = (.pointer (some t109)) ∧
 ∃ (t110 : Int), cellH h2 t109 = some (.int .u32 t110) ∧
 hwp PP (Instr.indexAt T_8_uint32 (.pointer (some s9)) (.int .i64 2)) (fun v_2 h3 => ∃ (t111 : Addr), v_2 = (.pointer (some t111)) ∧
 ∃ (t112 : Int), cellH h3 t111 = some (.int .u32 t112) ∧
 hwp PP (Instr.indexAt T_8_uint32 (.pointer (some s9)) (.int .i64 4)) (fun v_3 h4 => ∃ (t113 : Addr), v_3 = (.pointer (some t113)) ∧
 ∃ (t114 : Int), cellH h4 t113 = some (.int .u32 t114) ∧
 hwp PP (Instr.indexAt T_8_uint32 (.pointer (some s9)) (.int .i64 5)) (fun v_4 h5 => ∃ (t115 : Addr), v_4 = (.pointer (some t115)) ∧
 ∃ (t116 : Int), cellH h5 t115 = some (.int .u32 t116) ∧
 hwp PP (Instr.indexAt T_8_uint32 (.pointer (some s9)) (.int .i64 6)) (fun v_5 h6 => ∃ (t117 : Addr), v_5 = (.pointer (some t117)) ∧
 ∃ (t118 : Int), cellH h6 t117 = some (.int .u32 t118) ∧
 hwp PP (Instr.indexAt T_8_uint32 (.pointer (some s9)) (.int .i64 7)) (fun v_6 h7 => ∃ (t119 : Addr), v_6 = (.pointer (some t119)) ∧
 ∃ (t120 : Int), cellH h7 t119 = some (.int .u32 t120) ∧
 ∃ v_7, PureAt PP F_hmac_right [(.int .u32 t114), (.int .i64 6)] v_7 ∧
 ∃ (t122 : Int), v_7 = (.int .u32 t122) ∧
 ∃ v_8, PureAt PP F_hmac_right [(.int .u32 t114), (.int .i64 11)] v_8 ∧
 ∃ (t124 : Int), v_8 = (.int .u32 t124) ∧
 let t125 : Int := bXor .u32 t122 t124
 ∃ v_9, PureAt PP F_hmac_right [(.int .u32 t114), (.int .i64 25)] v_9 ∧
 ∃ (t127 : Int), v_9 = (.int .u32 t127) ∧
 let t128 : Int := bXor .u32 t125 t127
 let t129 : Int := IntKind.u32.wrap (t120 + t128)
 let t132 : Int := bAnd .u32 t114 t116
 let t134 : Int := bXor .u32 IntKind.u32.max t114
 let t136 : Int := bAnd .u32 t134 t118
 let t137 : Int := bOr .u32 t132 t136
 let t138 : Int := IntKind.u32.wrap (t129 + t137)
 hwp PP (Instr.indexAt T_64_uint32 (.pointer (some ⟨G_hmac_k, 0, none⟩)) (.int .i64 t104)) (fun v_10 h8 => ∃ (t140 : Addr), v_10 = (.pointer (some t140)) ∧
 ∃ (t141 : Int), cellH h8 t140 = some (.int .u32 t141) ∧
 let t142 : Int := IntKind.u32.wrap (t138 + t141)
 hwp PP (Instr.indexAt T_64_uint32 (.pointer (some w4)) (.int .i64 t104)) (fun v_11 h9 => ∃ (t144 : Addr), v_11 = (.pointer (some t144)) ∧
 ∃ (t145 : Int), cellH h9 t144 = some (.int .u32 t145) ∧
 let t146 : Int := IntKind.u32.wrap (t142 + t145)
 ∃ v_12, PureAt PP F_hmac_right [(.int .u32 t108), (.int .i64 2)] v_12 ∧
 ∃ (t148 : Int), v_12 = (.int .u32 t148) ∧
 ∃ v_13, PureAt PP F_hmac_right [(.int .u32 t108), (.int .i64 13)] v_13 ∧
 ∃ (t150 : Int), v_13 = (.int .u32 t150) ∧
 let t151 : Int := bXor .u32 t148 t150
 ∃ v_14, PureAt PP F_hmac_right [(.int .u32 t108), (.int .i64 22)] v_14 ∧
 ∃ (t153 : Int), v_14 = (.int .u32 t153) ∧
 let t154 : Int := bXor .u32 t151 t153
 let t157 : Int := bAnd .u32 t108 t110
 let t161 : Int := bOr .u32 t108 t110
 let t162 : Int := bAnd .u32 t112 t161
 let t163 : Int := bOr .u32 t157 t162
 let t164 : Int := IntKind.u32.wrap (t154 + t163)
 let t167 : Int := IntKind.u32.wrap (t146 + t164)
 hwp PP (Instr.indexAt T_8_uint32 (.pointer (some s9)) (.int .i64 3)) (fun v_15 h10 => ∃ (t171 : Addr), v_15 = (.pointer (some t171)) ∧
 ∃ (t172 : Int), cellH h10 t171 = some (.int .u32 t172) ∧
 let t174 : Int := IntKind.u32.wrap (t172 + t146)
 wrCells s9 0 [(.int .u32 t167), (.int .u32 t108), (.int .u32 t110), (.int .u32 t112), (.int .u32 t174), (.int .u32 t114), (.int .u32 t116), (.int .u32 t118)] (fun h11 =>
 let t179 : Int := IntKind.i64.wrap (t104 + 1)
 L3 xh0 w4 s9 t179 K h11) h10) h9) h8) h7) h6) h5) h4) h3) h2) h1) h) (
 K (.exit 4) (X4 xh0 s9) h)) : L3 xh0 w4 s9 t104 K h := by unfold L3; exact Lp.of_txt (an 500) 20282409603651670423947251286545 (by kernel_rfl) H
theorem L3_X4 {Q : VP} {xh0 : OA} {s9 : Addr} {h : Heap} (H :
 L4 xh0 s9 0 (K7 Q) h) : (K5 Q) (.exit 4) (X4 xh0 s9) h := of_eq_txt (by kernel_rfl) H
theorem L4_of {xh0 : OA} {s9 : Addr} {t180 : Int} {K : EP} {h : Heap} (H :
 let t181 : Bool := decide (t180 < 8)
 br t181 (
 nilc xh0 (fun t185 =>
 hwp PP (Instr.indexAt T_8_uint32 (.pointer (some t185)) (.int .i64 t180)) (fun v h1 => ∃ (t187 : Addr), v = (.pointer (some t187)) ∧
 ∃ (t188 : Int), cellH h1 t187 = some (.int .u32 t188) ∧
 hwp PP (Instr.indexAt T_8_uint32 (.pointer (some s9)) (.int .i64 t180)) (fun v_1 h2 => ∃ (t190 : Addr), v_1 = (.pointer (some t190)) ∧
 ∃ (t191 : Int), cellH h2 t190 = some (.int .u32 t191) ∧
 let t192 : Int := IntKind.u32.wrap (t188 + t191)
 nilc xh0 (fun t193 =>
 hwp PP (Instr.indexAt T_8_uint32 (.pointer (some t193)) (.int .i64 t180)) (fun v_2 h3 => ∃ (t195 : Addr), v_2 = (.pointer (some t195)) ∧
 wr t195 (.int .u32 t192) (fun h4 =>
 let t196 : Int := IntKind.i64.wrap (t180 + 1)
 L4 xh0 s9 t196 K h4) h3) h2)) h1) h)) (
 K (.exit 6) (X6) h)) : L4 xh0 s9 t180 K h := by unfold L4; exact Lp.of_txt (an 508) 1532495540865888858358347027150309183618739122183602689 (by kernel_rfl) H
theorem L4_X6 {Q : VP}  {h : Heap} (H :
 Q (.tuple #[]) h) : (K7 Q) (.exit 6) (X6 ) h := of_eq_txt (by kernel_rfl) H
theorem door {xh0 p1 : OA} {p1n p1c : Nat} {Q : VP} {h : Heap} (H :
 let w4 : Addr := ⟨Array.size h, 0, none⟩
 let h1 : Heap := Array.push h (.cells (Array.replicate 64 (.int .u32 0)) T_64_uint32 (0, 0))
 L1 xh0 p1 p1n p1c w4 0 (K1 Q) h1) : SpecH PP F_hmac_Hash_block [(.pointer xh0), (.slice p1 p1n p1c)] h Q :=
   spec_of_txt (ann := ann) Tryz.func76 rfl rfl (by kernel_rfl) H
end hmac_Hash_block
/-! ### haversack/haversackref15.padded: function 77 -/
namespace ref15_padded
def ann : Ann := (.seq 1 (.region [(List.range 1, 1)]) (.seq 9 (.region [(List.range 1, 9)]) (.seq 9 (.region [(List.range 4, 9)]) (.seq 9 (.region [(List.range 4, 9)]) (.seq 9 (.block (.loop 9 (.seq 9 (.seq 65545 (.region [(List.range 4, 65545)]) (.cond .leaf (.exit 9))) (.block (.region [(List.range 4, 9)]))))) (.seq 24 (.region [(List.range 4, 24)]) (.seq 56 (.region [(List.range 1, 56)]) (.seq 40 (.seq 120 (.region [(List.range 1, 120)]) (.block (.loop 120 (.seq 120 (.seq 16777336 (.region [(List.range 2, 16777336)]) (.cond .leaf (.exit 40))) (.seq 120 (.block (.seq 120 (.region [(List.range 6, 120)]) (.region [(List.range 3, 120)]))) (.region [(List.range 3, 120)])))))) (.seq 4 (.region [(List.range 4, 4)]) (.exit 4))))))))))
noncomputable abbrev cd (n : Nat) : Code := sub (bodyOf Tryz.f77) (pth n)
abbrev an (n : Nat) : Ann := subA ann (pth n)
@[irreducible] def X0 (b0 : OA) (b0n b0c : Nat) (out3 : OA) (out3n out3c : Nat) : Fr := (mkFr 0 37 [(0, (.slice b0 b0n b0c)), (3, (.slice out3 out3n out3c))])
@[irreducible] def X2 (out3 : OA) (out3n out3c : Nat) (length5 : Addr) : Fr := (mkFr 0 37 [(3, (.slice out3 out3n out3c)), (5, (.pointer (some length5)))])
@[irreducible] def L1 (b0 : OA) (b0n b0c : Nat) (out3 : OA) (out3n out3c : Nat) (K : EP) (h : Heap) : Prop := Lp PP true (cd 248) (mkFr 0 37 [(0, (.slice b0 b0n b0c)), (3, (.slice out3 out3n out3c))]) K h
@[irreducible] def B1 (K : EP) : EP := seqK (fun fr h => Lp PP true (cd 248) (fr.mask 9) K h) K
@[irreducible] def K3 (Q : VP) : EP := seqK (fun fr h => ev PP true none (cd 63) (an 63) (fr.mask 9) (bodyK PP Tryz.f77 Q) h) (bodyK PP Tryz.f77 Q)
@[irreducible] def K1 (Q : VP) : EP := blockK 0 (K3 Q)
@[irreducible] def K4 (Q : VP) : EP := seqK (fun fr h => ev PP true none (cd 511) (an 511) (fr.mask 40) (bodyK PP Tryz.f77 Q) h) (bodyK PP Tryz.f77 Q)
@[irreducible] def K2 (Q : VP) : EP := blockK 2 (K4 Q)
@[irreducible] def L2 (out3 : OA) (out3n out3c : Nat) (xn4 : Int) (length5 : Addr) (i6 : Int) (K : EP) (h : Heap) : Prop := Lp PP true (cd 4084) (mkFr 0 37 [(3, (.slice out3 out3n out3c)), (4, (.int .i64 xn4)), (5, (.pointer (some length5))), (6, (.int .i64 i6))]) K h
@[irreducible] def B2 (K : EP) : EP := seqK (fun fr h => Lp PP true (cd 4084) (fr.mask 120) K h) K
theorem L1_of {b0 : OA} {b0n b0c : Nat} {out3 : OA} {out3n out3c : Nat} {K : EP} {h : Heap} (H :
 let t15 : Int := Int.tmod (out3n : Int) 64
 let t16 : Bool := (t15 != 56)
 br t16 (
 let h1 : Heap := Array.push h (.cells #[(.int .u8 0)] T_uint8 (0, 0))
 hwp PP (Builtin.append_ #[T_sl_uint8, T_sl_uint8] T_sl_uint8 #[(.slice out3 out3n out3c), (.slice (some ⟨Array.size h, 0, none⟩) 1 1)]) (fun v h2 => ∃ (t19 : OA) (t19n t19c : Nat), v = (.slice t19 t19n t19c) ∧
 L1 b0 b0n b0c t19 t19n t19c K h2) h1) (
 K (.exit 0) (X0 b0 b0n b0c out3 out3n out3c) h)) : L1 b0 b0n b0c out3 out3n out3c K h := by unfold L1; exact Lp.of_txt (an 248) 9 (by kernel_rfl) H
theorem L1_X0 {Q : VP} {b0 : OA} {b0n b0c : Nat} {out3 : OA} {out3n out3c : Nat} {h : Heap} (H :
 let t22 : Int := IntKind.i64.wrap (8 * (b0n : Int))
 let length5 : Addr := ⟨Array.size h, 0, none⟩
 let h1 : Heap := Array.push h (.cells #[(.int .u8 0), (.int .u8 0), (.int .u8 0), (.int .u8 0), (.int .u8 0), (.int .u8 0), (.int .u8 0), (.int .u8 0)] T_8_uint8 (0, 0))
 L2 out3 out3n out3c t22 length5 7 (K2 Q) h1) : (K1 Q) (.exit 0) (X0 b0 b0n b0c out3 out3n out3c) h := of_eq_txt (by kernel_rfl) H
theorem L2_of {out3 : OA} {out3n out3c : Nat} {xn4 : Int} {length5 : Addr} {i6 : Int} {K : EP} {h : Heap} (H :
 let t24 : Bool := decide (i6 ≥ 0)
 br t24 (
 let t29 : Int := Int.tmod xn4 256
 let t30 : Int := IntKind.u8.wrap t29
 hwp PP (Instr.indexAt T_8_uint8 (.pointer (some length5)) (.int .i64 i6)) (fun v h1 => ∃ (t31 : Addr), v = (.pointer (some t31)) ∧
 wr t31 (.int .u8 t30) (fun h2 =>
 let t33 : Int := IntKind.i64.wrap (Int.tdiv xn4 256)
 let t26 : Int := IntKind.i64.wrap (i6 - 1)
 L2 out3 out3n out3c t33 length5 t26 K h2) h1) h) (
 K (.exit 2) (X2 out3 out3n out3c length5) h)) : L2 out3 out3n out3c xn4 length5 i6 K h := by unfold L2; exact Lp.of_txt (an 4084) 120 (by kernel_rfl) H
theorem L2_X2 {Q : VP} {out3 : OA} {out3n out3c : Nat} {length5 : Addr} {h : Heap} (H :
 hwp PP (Instr.sliceAt T_8_uint8 (.pointer (some length5)) none none none) (fun v h1 => ∃ (t35 : OA) (t35n t35c : Nat), v = (.slice t35 t35n t35c) ∧
 hwp PP (Builtin.append_ #[T_sl_uint8, T_sl_uint8] T_sl_uint8 #[(.slice out3 out3n out3c), (.slice t35 t35n t35c)]) (fun v_1 h2 => ∃ (t36 : OA) (t36n t36c : Nat), v_1 = (.slice t36 t36n t36c) ∧
 Q (.slice t36 t36n t36c) h2) h1) h) : (K2 Q) (.exit 2) (X2 out3 out3n out3c length5) h := of_eq_txt (by kernel_rfl) H
theorem door {b0 : OA} {b0n b0c : Nat} {Q : VP} {h : Heap} (H :
 hwp PP (Builtin.append_ #[T_sl_uint8, T_sl_uint8] T_sl_uint8 #[(.slice none 0 0), (.slice b0 b0n b0c)]) (fun v h1 => ∃ (t9 : OA) (t9n t9c : Nat), v = (.slice t9 t9n t9c) ∧
 let h2 : Heap := Array.push h1 (.cells #[(.int .u8 128)] T_uint8 (0, 0))
 hwp PP (Builtin.append_ #[T_sl_uint8, T_sl_uint8] T_sl_uint8 #[(.slice t9 t9n t9c), (.slice (some ⟨Array.size h1, 0, none⟩) 1 1)]) (fun v_1 h3 => ∃ (t12 : OA) (t12n t12c : Nat), v_1 = (.slice t12 t12n t12c) ∧
 L1 b0 b0n b0c t12 t12n t12c (K1 Q) h3) h2) h) : SpecH PP F_ref15_padded [(.slice b0 b0n b0c)] h Q :=
   spec_of_txt (ann := ann) Tryz.func77 rfl rfl (by kernel_rfl) H
end ref15_padded
/-! ### haversack/haversackref15.block: function 78 -/
namespace ref15_block
def ann : Ann := (.seq 22 (.region [(List.range 2, 22)]) (.seq 52 (.region [(List.range 4, 52)]) (.seq 116 (.region [(List.range 3, 116)]) (.seq 244 (.region [(List.range 3, 244)]) (.seq 148 (.seq 500 (.region [(List.range 1, 500)]) (.block (.loop 500 (.seq 500 (.seq 524788 (.region [(List.range 2, 524788)]) (.cond .leaf (.exit 148))) (.seq 500 (.block (.seq 1012 (.region [(List.range 3, 1012)]) (.seq 2036 (.region [(List.range 3, 2036)]) (.seq 3572 (.region [(List.range 31, 3572)]) (.seq 6644 (.region [(List.range 25, 6644)]) (.region [(List.range 21, 500)])))))) (.region [(List.range 3, 500)])))))) (.seq 144 (.seq 8340 (.region [(List.range 1, 8340)]) (.block (.loop 8340 (.seq 8340 (.seq 2535301200456458802993406419092 (.region [(List.range 2, 2535301200456458802993406419092)]) (.cond .leaf (.exit 144))) (.seq 8340 (.block (.region [(List.range 10, 8340)])) (.region [(List.range 3, 8340)])))))) (.seq 16 (.region [(List.range 2, 16)]) (.exit 16))))))))
noncomputable abbrev cd (n : Nat) : Code := sub (bodyOf Tryz.f78) (pth n)
abbrev an (n : Nat) : Ann := subA ann (pth n)
@[irreducible] def X0 (xh2 t4 x7 : Addr) : Fr := (mkFr 0 114 [(2, (.pointer (some xh2))), (4, (.pointer (some t4))), (7, (.pointer (some x7)))])
@[irreducible] def X2 (t4 x7 : Addr) : Fr := (mkFr 0 114 [(4, (.pointer (some t4))), (7, (.pointer (some x7)))])
@[irreducible] def L1 (xh2 t4 w5 keys6 x7 : Addr) (i8 : Int) (K : EP) (h : Heap) : Prop := Lp PP true (cd 500) (mkFr 0 114 [(2, (.pointer (some xh2))), (4, (.pointer (some t4))), (5, (.pointer (some w5))), (6, (.pointer (some keys6))), (7, (.pointer (some x7))), (8, (.int .i64 i8))]) K h
@[irreducible] def B1 (K : EP) : EP := seqK (fun fr h => Lp PP true (cd 500) (fr.mask 500) K h) K
@[irreducible] def K3 (Q : VP) : EP := seqK (fun fr h => ev PP true none (cd 63) (an 63) (fr.mask 148) (bodyK PP Tryz.f78 Q) h) (bodyK PP Tryz.f78 Q)
@[irreducible] def K1 (Q : VP) : EP := blockK 0 (K3 Q)
@[irreducible] def K4 (Q : VP) : EP := seqK (fun fr h => ev PP true none (cd 127) (an 127) (fr.mask 144) (bodyK PP Tryz.f78 Q) h) (bodyK PP Tryz.f78 Q)
@[irreducible] def K2 (Q : VP) : EP := blockK 2 (K4 Q)
@[irreducible] def L2 (xh2 t4 x7 : Addr) (i13 : Int) (K : EP) (h : Heap) : Prop := Lp PP true (cd 1012) (mkFr 0 114 [(2, (.pointer (some xh2))), (4, (.pointer (some t4))), (7, (.pointer (some x7))), (13, (.int .i64 i13))]) K h
@[irreducible] def B2 (K : EP) : EP := seqK (fun fr h => Lp PP true (cd 1012) (fr.mask 8340) K h) K
theorem L1_of {xh2 t4 w5 keys6 x7 : Addr} {i8 : Int} {K : EP} {h : Heap} (H :
 let t19 : Bool := decide (i8 < 64)
 br t19 (
 hwp PP (Instr.indexAt T_8_uint32 (.pointer (some x7)) (.int .i64 4)) (fun v h1 => ∃ (t22 : Addr), v = (.pointer (some t22)) ∧
 ∃ (t23 : Int), cellH h1 t22 = some (.int .u32 t23) ∧
 hwp PP (Instr.indexAt T_8_uint32 (.pointer (some x7)) (.int .i64 0)) (fun v_1 h2 => ∃ (t24 : Addr), v_1 = (.pointer (some t24)) ∧
 ∃ (t25 : Int), cellH h2 t24 = some (.int .u32 t25) ∧
 hwp PP (Instr.indexAt T_8_uint32 (.pointer (some x7)) (.int .i64 7)) (fun v_2 h3 => ∃ (t26 : Addr), v_2 = (.pointer (some t26)) ∧
 ∃ (t27 : Int), cellH h3 t26 = some (.int .u32 t27) ∧
 ∃ v_3, PureAt PP F_ref15_turn [(.int .u32 t23), (.int .i64 6)] v_3 ∧
 ∃ (t29 : Int), v_3 = (.int .u32 t29) ∧
 ∃ v_4, PureAt PP F_ref15_turn [(.int .u32 t23), (.int .i64 11)] v_4 ∧
 ∃ (t31 : Int), v_4 = (.int .u32 t31) ∧
 let t32 : Int := bXor .u32 t29 t31
 ∃ v_5, PureAt PP F_ref15_turn [(.int .u32 t23), (.int .i64 25)] v_5 ∧
 ∃ (t34 : Int), v_5 = (.int .u32 t34) ∧
 let t35 : Int := bXor .u32 t32 t34
 let t36 : Int := IntKind.u32.wrap (t27 + t35)
 hwp PP (Instr.indexAt T_8_uint32 (.pointer (some x7)) (.int .i64 5)) (fun v_6 h4 => ∃ (t38 : Addr), v_6 = (.pointer (some t38)) ∧
 ∃ (t39 : Int), cellH h4 t38 = some (.int .u32 t39) ∧
 let t40 : Int := bAnd .u32 t23 t39
 let t42 : Int := bXor .u32 IntKind.u32.max t23
 hwp PP (Instr.indexAt T_8_uint32 (.pointer (some x7)) (.int .i64 6)) (fun v_7 h5 => ∃ (t43 : Addr), v_7 = (.pointer (some t43)) ∧
 ∃ (t44 : Int), cellH h5 t43 = some (.int .u32 t44) ∧
 let t45 : Int := bAnd .u32 t42 t44
 let t46 : Int := bXor .u32 t40 t45
 let t47 : Int := IntKind.u32.wrap (t36 + t46)
 hwp PP (Instr.indexAt T_64_uint32 (.pointer (some keys6)) (.int .i64 i8)) (fun v_8 h6 => ∃ (t49 : Addr), v_8 = (.pointer (some t49)) ∧
 ∃ (t50 : Int), cellH h6 t49 = some (.int .u32 t50) ∧
 let t51 : Int := IntKind.u32.wrap (t47 + t50)
 hwp PP (Instr.indexAt T_64_uint32 (.pointer (some w5)) (.int .i64 i8)) (fun v_9 h7 => ∃ (t53 : Addr), v_9 = (.pointer (some t53)) ∧
 ∃ (t54 : Int), cellH h7 t53 = some (.int .u32 t54) ∧
 let t55 : Int := IntKind.u32.wrap (t51 + t54)
 ∃ v_10, PureAt PP F_ref15_turn [(.int .u32 t25), (.int .i64 2)] v_10 ∧
 ∃ (t57 : Int), v_10 = (.int .u32 t57) ∧
 ∃ v_11, PureAt PP F_ref15_turn [(.int .u32 t25), (.int .i64 13)] v_11 ∧
 ∃ (t59 : Int), v_11 = (.int .u32 t59) ∧
 let t60 : Int := bXor .u32 t57 t59
 ∃ v_12, PureAt PP F_ref15_turn [(.int .u32 t25), (.int .i64 22)] v_12 ∧
 ∃ (t62 : Int), v_12 = (.int .u32 t62) ∧
 let t63 : Int := bXor .u32 t60 t62
 hwp PP (Instr.indexAt T_8_uint32 (.pointer (some x7)) (.int .i64 1)) (fun v_13 h8 => ∃ (t65 : Addr), v_13 = (.pointer (some t65)) ∧
 ∃ (t66 : Int), cellH h8 t65 = some (.int .u32 t66) ∧
 let t67 : Int := bAnd .u32 t25 t66
 hwp PP (Instr.indexAt T_8_uint32 (.pointer (some x7)) (.int .i64 2)) (fun v_14 h9 => ∃ (t69 : Addr), v_14 = (.pointer (some t69)) ∧
 ∃ (t70 : Int), cellH h9 t69 = some (.int .u32 t70) ∧
 let t71 : Int := bAnd .u32 t25 t70
 let t72 : Int := bXor .u32 t67 t71
 hwp PP (Instr.indexAt T_8_uint32 (.pointer (some x7)) (.int .i64 1)) (fun v_15 h10 => ∃ (t73 : Addr), v_15 = (.pointer (some t73)) ∧
 ∃ (t74 : Int), cellH h10 t73 = some (.int .u32 t74) ∧
 hwp PP (Instr.indexAt T_8_uint32 (.pointer (some x7)) (.int .i64 2)) (fun v_16 h11 => ∃ (t75 : Addr), v_16 = (.pointer (some t75)) ∧
 ∃ (t76 : Int), cellH h11 t75 = some (.int .u32 t76) ∧
 let t77 : Int := bAnd .u32 t74 t76
 let t78 : Int := bXor .u32 t72 t77
 let t79 : Int := IntKind.u32.wrap (t63 + t78)
 let t82 : Int := IntKind.u32.wrap (t55 + t79)
 hwp PP (Instr.indexAt T_8_uint32 (.pointer (some x7)) (.int .i64 0)) (fun v_17 h12 => ∃ (t83 : Addr), v_17 = (.pointer (some t83)) ∧
 ∃ (t84 : Int), cellH h12 t83 = some (.int .u32 t84) ∧
 hwp PP (Instr.indexAt T_8_uint32 (.pointer (some x7)) (.int .i64 1)) (fun v_18 h13 => ∃ (t85 : Addr), v_18 = (.pointer (some t85)) ∧
 ∃ (t86 : Int), cellH h13 t85 = some (.int .u32 t86) ∧
 hwp PP (Instr.indexAt T_8_uint32 (.pointer (some x7)) (.int .i64 2)) (fun v_19 h14 => ∃ (t87 : Addr), v_19 = (.pointer (some t87)) ∧
 ∃ (t88 : Int), cellH h14 t87 = some (.int .u32 t88) ∧
 hwp PP (Instr.indexAt T_8_uint32 (.pointer (some x7)) (.int .i64 3)) (fun v_20 h15 => ∃ (t89 : Addr), v_20 = (.pointer (some t89)) ∧
 ∃ (t90 : Int), cellH h15 t89 = some (.int .u32 t90) ∧
 let t92 : Int := IntKind.u32.wrap (t90 + t55)
 hwp PP (Instr.indexAt T_8_uint32 (.pointer (some x7)) (.int .i64 4)) (fun v_21 h16 => ∃ (t93 : Addr), v_21 = (.pointer (some t93)) ∧
 ∃ (t94 : Int), cellH h16 t93 = some (.int .u32 t94) ∧
 hwp PP (Instr.indexAt T_8_uint32 (.pointer (some x7)) (.int .i64 5)) (fun v_22 h17 => ∃ (t95 : Addr), v_22 = (.pointer (some t95)) ∧
 ∃ (t96 : Int), cellH h17 t95 = some (.int .u32 t96) ∧
 hwp PP (Instr.indexAt T_8_uint32 (.pointer (some x7)) (.int .i64 6)) (fun v_23 h18 => ∃ (t97 : Addr), v_23 = (.pointer (some t97)) ∧
 ∃ (t98 : Int), cellH h18 t97 = some (.int .u32 t98) ∧
 wrCells x7 0 [(.int .u32 t82), (.int .u32 t84), (.int .u32 t86), (.int .u32 t88), (.int .u32 t92), (.int .u32 t94), (.int .u32 t96), (.int .u32 t98)] (fun h19 =>
 let t21 : Int := IntKind.i64.wrap (i8 + 1)
 L1 xh2 t4 w5 keys6 x7 t21 K h19) h18) h17) h16) h15) h14) h13) h12) h11) h10) h9) h8) h7) h6) h5) h4) h3) h2) h1) h) (
 K (.exit 0) (X0 xh2 t4 x7) h)) : L1 xh2 t4 w5 keys6 x7 i8 K h := by unfold L1; exact Lp.of_txt (an 500) 500 (by kernel_rfl) H
theorem L1_X0 {Q : VP} {xh2 t4 x7 : Addr} {h : Heap} (H :
 L2 xh2 t4 x7 0 (K2 Q) h) : (K1 Q) (.exit 0) (X0 xh2 t4 x7) h := of_eq_txt (by kernel_rfl) H
theorem L2_of {xh2 t4 x7 : Addr} {i13 : Int} {K : EP} {h : Heap} (H :
 let t101 : Bool := decide (i13 < 8)
 br t101 (
 hwp PP (Instr.indexAt T_8_uint32 (.pointer (some x7)) (.int .i64 i13)) (fun v h1 => ∃ (t106 : Addr), v = (.pointer (some t106)) ∧
 ∃ (t107 : Int), cellH h1 t106 = some (.int .u32 t107) ∧
 hwp PP (Instr.indexAt T_8_uint32 (.pointer (some xh2)) (.int .i64 i13)) (fun v_1 h2 => ∃ (t109 : Addr), v_1 = (.pointer (some t109)) ∧
 ∃ (t110 : Int), cellH h2 t109 = some (.int .u32 t110) ∧
 let t111 : Int := IntKind.u32.wrap (t107 + t110)
 hwp PP (Instr.indexAt T_8_uint32 (.pointer (some x7)) (.int .i64 i13)) (fun v_2 h3 => ∃ (t112 : Addr), v_2 = (.pointer (some t112)) ∧
 wr t112 (.int .u32 t111) (fun h4 =>
 let t103 : Int := IntKind.i64.wrap (i13 + 1)
 L2 xh2 t4 x7 t103 K h4) h3) h2) h1) h) (
 K (.exit 2) (X2 t4 x7) h)) : L2 xh2 t4 x7 i13 K h := by unfold L2; exact Lp.of_txt (an 1012) 8340 (by kernel_rfl) H
theorem L2_X2 {Q : VP} {t4 x7 : Addr} {h : Heap} (H :
 ∃ (t113f0 t113f1 t113f2 t113f3 t113f4 t113f5 t113f6 t113f7 : Int), rdCells h x7 0 [(.int .u32 t113f0), (.int .u32 t113f1), (.int .u32 t113f2), (.int .u32 t113f3), (.int .u32 t113f4), (.int .u32 t113f5), (.int .u32 t113f6), (.int .u32 t113f7)] ∧
 wrCells t4 0 [(.int .u32 t113f0), (.int .u32 t113f1), (.int .u32 t113f2), (.int .u32 t113f3), (.int .u32 t113f4), (.int .u32 t113f5), (.int .u32 t113f6), (.int .u32 t113f7)] (fun h1 =>
 ∃ (t4_1f0 t4_1f1 t4_1f2 t4_1f3 t4_1f4 t4_1f5 t4_1f6 t4_1f7 : Int), rdCells h1 t4 0 [(.int .u32 t4_1f0), (.int .u32 t4_1f1), (.int .u32 t4_1f2), (.int .u32 t4_1f3), (.int .u32 t4_1f4), (.int .u32 t4_1f5), (.int .u32 t4_1f6), (.int .u32 t4_1f7)] ∧
 Q (.agg #[(.int .u32 t4_1f0), (.int .u32 t4_1f1), (.int .u32 t4_1f2), (.int .u32 t4_1f3), (.int .u32 t4_1f4), (.int .u32 t4_1f5), (.int .u32 t4_1f6), (.int .u32 t4_1f7)]) h1) h) : (K2 Q) (.exit 2) (X2 t4 x7) h := of_eq_txt (by kernel_rfl) H
theorem door {xh0f0 xh0f1 xh0f2 xh0f3 xh0f4 xh0f5 xh0f6 xh0f7 : Int} {b1 : OA} {b1n b1c : Nat} {Q : VP} {h : Heap} (H :
 let xh2 : Addr := ⟨Array.size h, 0, none⟩
 let h1 : Heap := Array.push h (.cells #[(.int .u32 xh0f0), (.int .u32 xh0f1), (.int .u32 xh0f2), (.int .u32 xh0f3), (.int .u32 xh0f4), (.int .u32 xh0f5), (.int .u32 xh0f6), (.int .u32 xh0f7)] T_8_uint32 (0, 0))
 let t4 : Addr := ⟨Array.size h1, 0, none⟩
 let h2 : Heap := Array.push h1 (.cells #[(.int .u32 0), (.int .u32 0), (.int .u32 0), (.int .u32 0), (.int .u32 0), (.int .u32 0), (.int .u32 0), (.int .u32 0)] T_8_uint32 (0, 0))
 SpecH PP F_ref15_schedule [(.slice b1 b1n b1c)] h2 (fun v h3 => ∃ (t15 : List Value), v = (.agg (t15).toArray) ∧
 let w5 : Addr := ⟨Array.size h3, 0, none⟩
 let h4 : Heap := Array.push h3 (.cells (Array.replicate 64 (.int .u32 0)) T_64_uint32 (0, 0))
 br (decide (Array.size (List.toArray t15) = 64)) (wrCells w5 0 t15 (fun h5 =>
 SpecH PP F_ref15_k [] h5 (fun v_1 h6 => ∃ (t16 : List Value), v_1 = (.agg (t16).toArray) ∧
 let keys6 : Addr := ⟨Array.size h6, 0, none⟩
 let h7 : Heap := Array.push h6 (.cells (Array.replicate 64 (.int .u32 0)) T_64_uint32 (0, 0))
 br (decide (Array.size (List.toArray t16) = 64)) (wrCells keys6 0 t16 (fun h8 =>
 ∃ (t17f0 t17f1 t17f2 t17f3 t17f4 t17f5 t17f6 t17f7 : Int), rdCells h8 xh2 0 [(.int .u32 t17f0), (.int .u32 t17f1), (.int .u32 t17f2), (.int .u32 t17f3), (.int .u32 t17f4), (.int .u32 t17f5), (.int .u32 t17f6), (.int .u32 t17f7)] ∧
 let x7 : Addr := ⟨Array.size h8, 0, none⟩
 let h9 : Heap := Array.push h8 (.cells #[(.int .u32 0), (.int .u32 0), (.int .u32 0), (.int .u32 0), (.int .u32 0), (.int .u32 0), (.int .u32 0), (.int .u32 0)] T_8_uint32 (0, 0))
 wrCells x7 0 [(.int .u32 t17f0), (.int .u32 t17f1), (.int .u32 t17f2), (.int .u32 t17f3), (.int .u32 t17f4), (.int .u32 t17f5), (.int .u32 t17f6), (.int .u32 t17f7)] (fun h10 =>
 L1 xh2 t4 w5 keys6 x7 0 (K1 Q) h10) h9) h7) False)) h4) False)) : SpecH PP F_ref15_block [(.agg #[(.int .u32 xh0f0), (.int .u32 xh0f1), (.int .u32 xh0f2), (.int .u32 xh0f3), (.int .u32 xh0f4), (.int .u32 xh0f5), (.int .u32 xh0f6), (.int .u32 xh0f7)]), (.slice b1 b1n b1c)] h Q :=
   spec_of_txt (ann := ann) Tryz.func78 rfl rfl (by kernel_rfl) H
end ref15_block
/-! ### haversack/hmac.right: function 95 -/
namespace hmac_right
def ann : Ann := (.seq 3 (.region [(List.range 1, 3)]) (.seq 16 (.region [(List.range 5, 16)]) (.exit 16)))
noncomputable abbrev cd (n : Nat) : Code := sub (bodyOf Tryz.f95) (pth n)
abbrev an (n : Nat) : Ann := subA ann (pth n)
theorem door {x0 xn1 : Int} {Q : VP} {h : Heap} (H :
 let t7 : Int := IntKind.i64.wrap (0 - xn1)
 ∃ v, PureAt PP F_math_bits_RotateLeft32 [(.int .u32 x0), (.int .i64 t7)] v ∧
 ∃ (t8 : Int), v = (.int .u32 t8) ∧
 Q (.int .u32 t8) h) : SpecH PP F_hmac_right [(.int .u32 x0), (.int .i64 xn1)] h Q :=
   spec_of_txt (ann := ann) Tryz.func95 rfl rfl (by kernel_rfl) H
end hmac_right

end Go.Proofs.YtahigbbfilalgaaGreatDoor
