/- What the functions of this text come to, as predicates on heaps (printed by my own program out of the dump), each with its proof against the program. -/

import Derived.Test.YtladdcnfdbmnlaaHwLib
import Derived.Test.YtladdcnfdbmnlaaProg
set_option linter.unusedVariables false
set_option maxRecDepth 100000
namespace Go.Proofs.Ytladdcnfdbmnlaa
open Go Go.HW
noncomputable abbrev PP : Program := Try.prog
abbrev T_ : TypeId := 0
abbrev T_int : TypeId := 3
abbrev T_bool : TypeId := 4
abbrev T_uint8 : TypeId := 5
abbrev T_string : TypeId := 9
abbrev T_sl_api_Tenant : TypeId := 22
abbrev T_p_quota_Book : TypeId := 25
abbrev T_struct_Name_string_Secret_string_Bytes_int_Entries_int : TypeId := 28
abbrev T_api_Tenant : TypeId := 29
abbrev T_struct_Bytes_int_Entries_int : TypeId := 30
abbrev T_api_Use : TypeId := 31
abbrev T_sl_haversacklaw17_Op : TypeId := 36
abbrev T_map_int_string : TypeId := 37
abbrev T_struct_Kind_int_Tenant_string_Use_api_Use_Id_int : TypeId := 38
abbrev T_haversacklaw17_Op : TypeId := 39
abbrev T_sl_api_Use : TypeId := 40
abbrev T_p_haversackref17_Book : TypeId := 45
abbrev T_map_string_bool : TypeId := 52
abbrev T_sl_uint8 : TypeId := 53
abbrev T_map_string_p_quota_account : TypeId := 55
abbrev T_map_int_quota_held : TypeId := 56
abbrev T_struct_accounts_map_string_p_quota_account_holds_map_int_quo : TypeId := 57
abbrev T_quota_Book : TypeId := 58
abbrev T_p_quota_account : TypeId := 59
abbrev T_struct_most_api_Use_use_api_Use_held_api_Use : TypeId := 60
abbrev T_quota_account : TypeId := 61
abbrev T_struct_a_p_quota_account_more_api_Use : TypeId := 65
abbrev T_quota_held : TypeId := 66
abbrev T_sl_haversackref17_Held : TypeId := 68
abbrev T_struct_L_sl_api_Tenant_Uses_sl_api_Use_Held_sl_haversackref1 : TypeId := 69
abbrev T_haversackref17_Book : TypeId := 70
abbrev T_struct_Id_int_Tenant_int_More_api_Use : TypeId := 73
abbrev T_haversackref17_Held : TypeId := 74
abbrev F_law17_QuotaNew : FuncId := 3
abbrev F_law17_QuotaWithin : FuncId := 4
abbrev F_law17_QuotaRuns : FuncId := 5
abbrev F_law17_QuotaFrees : FuncId := 6
abbrev F_law17_QuotaNil : FuncId := 7
abbrev F_ref17_Check : FuncId := 8
abbrev F_quota_Check : FuncId := 9
abbrev F_quota_New : FuncId := 10
abbrev F_quota_Book_Use : FuncId := 11
abbrev F_quota_Book_Left : FuncId := 12
abbrev F_law17_awake : FuncId := 13
abbrev F_quota_Book_Reserve : FuncId := 14
abbrev F_quota_Book_Take : FuncId := 15
abbrev F_quota_Book_Free : FuncId := 16
abbrev F_ref17_New : FuncId := 17
abbrev F_law17_step : FuncId := 18
abbrev F_quota_Book_Set : FuncId := 19
abbrev F_ref11_Short : FuncId := 20
abbrev F_quota_within : FuncId := 21
abbrev F_quota_Book_find : FuncId := 22
abbrev F_quota_account_left : FuncId := 23
abbrev F_ref17_Book_Set : FuncId := 24
abbrev F_ref17_Book_Use : FuncId := 25
abbrev F_ref17_Book_Left : FuncId := 26
abbrev F_ref17_Book_Reserve : FuncId := 27
abbrev F_ref17_Book_Take : FuncId := 28
abbrev F_ref17_Book_Free : FuncId := 29
abbrev F_ref17_Book_find : FuncId := 30
abbrev F_ref17_Book_gone : FuncId := 31
theorem C_ : PP.cellsOf T_ = 1 := by kernel_rfl
theorem C_int : PP.cellsOf T_int = 1 := by kernel_rfl
theorem U_int : PP.underlying T_int = some (.int .i64) := by kernel_rfl
theorem C_bool : PP.cellsOf T_bool = 1 := by kernel_rfl
theorem U_bool : PP.underlying T_bool = some .bool := by kernel_rfl
theorem C_uint8 : PP.cellsOf T_uint8 = 1 := by kernel_rfl
theorem U_uint8 : PP.underlying T_uint8 = some (.int .u8) := by kernel_rfl
theorem C_string : PP.cellsOf T_string = 1 := by kernel_rfl
theorem U_string : PP.underlying T_string = some .string := by kernel_rfl
theorem C_sl_api_Tenant : PP.cellsOf T_sl_api_Tenant = 1 := by kernel_rfl
theorem E_sl_api_Tenant : Elem PP T_sl_api_Tenant T_api_Tenant 4 48 (.agg #[(.string (⟨#[]⟩ : ByteArray)), (.string (⟨#[]⟩ : ByteArray)), (.int .i64 0), (.int .i64 0)]) := Elem.of (by kernel_rfl) (by kernel_rfl)
theorem U_sl_api_Tenant : PP.underlying T_sl_api_Tenant = some (.slice T_api_Tenant) := by kernel_rfl
theorem C_p_quota_Book : PP.cellsOf T_p_quota_Book = 1 := by kernel_rfl
theorem FL_struct_Name_string_Secret_string_Bytes_int_Entries_int : fieldsOf PP T_struct_Name_string_Secret_string_Bytes_int_Entries_int = [(T_string, 0, 1), (T_string, 1, 1), (T_int, 2, 1), (T_int, 3, 1)] := by kernel_rfl
theorem C_struct_Name_string_Secret_string_Bytes_int_Entries_int : PP.cellsOf T_struct_Name_string_Secret_string_Bytes_int_Entries_int = 4 := by kernel_rfl
theorem FL_api_Tenant : fieldsOf PP T_api_Tenant = [(T_string, 0, 1), (T_string, 1, 1), (T_int, 2, 1), (T_int, 3, 1)] := by kernel_rfl
theorem C_api_Tenant : PP.cellsOf T_api_Tenant = 4 := by kernel_rfl
theorem FL_struct_Bytes_int_Entries_int : fieldsOf PP T_struct_Bytes_int_Entries_int = [(T_int, 0, 1), (T_int, 1, 1)] := by kernel_rfl
theorem C_struct_Bytes_int_Entries_int : PP.cellsOf T_struct_Bytes_int_Entries_int = 2 := by kernel_rfl
theorem FL_api_Use : fieldsOf PP T_api_Use = [(T_int, 0, 1), (T_int, 1, 1)] := by kernel_rfl
theorem C_api_Use : PP.cellsOf T_api_Use = 2 := by kernel_rfl
theorem C_sl_haversacklaw17_Op : PP.cellsOf T_sl_haversacklaw17_Op = 1 := by kernel_rfl
theorem E_sl_haversacklaw17_Op : Elem PP T_sl_haversacklaw17_Op T_haversacklaw17_Op 5 48 (.agg #[(.int .i64 0), (.string (⟨#[]⟩ : ByteArray)), (.int .i64 0), (.int .i64 0), (.int .i64 0)]) := Elem.of (by kernel_rfl) (by kernel_rfl)
theorem U_sl_haversacklaw17_Op : PP.underlying T_sl_haversacklaw17_Op = some (.slice T_haversacklaw17_Op) := by kernel_rfl
theorem C_map_int_string : PP.cellsOf T_map_int_string = 1 := by kernel_rfl
theorem U_map_int_string : PP.underlying T_map_int_string = some (.map T_int T_string) := by kernel_rfl
theorem FL_struct_Kind_int_Tenant_string_Use_api_Use_Id_int : fieldsOf PP T_struct_Kind_int_Tenant_string_Use_api_Use_Id_int = [(T_int, 0, 1), (T_string, 1, 1), (T_api_Use, 2, 2), (T_int, 4, 1)] := by kernel_rfl
theorem C_struct_Kind_int_Tenant_string_Use_api_Use_Id_int : PP.cellsOf T_struct_Kind_int_Tenant_string_Use_api_Use_Id_int = 5 := by kernel_rfl
theorem FL_haversacklaw17_Op : fieldsOf PP T_haversacklaw17_Op = [(T_int, 0, 1), (T_string, 1, 1), (T_api_Use, 2, 2), (T_int, 4, 1)] := by kernel_rfl
theorem C_haversacklaw17_Op : PP.cellsOf T_haversacklaw17_Op = 5 := by kernel_rfl
theorem C_sl_api_Use : PP.cellsOf T_sl_api_Use = 1 := by kernel_rfl
theorem E_sl_api_Use : Elem PP T_sl_api_Use T_api_Use 2 16 (.agg #[(.int .i64 0), (.int .i64 0)]) := Elem.of (by kernel_rfl) (by kernel_rfl)
theorem U_sl_api_Use : PP.underlying T_sl_api_Use = some (.slice T_api_Use) := by kernel_rfl
theorem C_p_haversackref17_Book : PP.cellsOf T_p_haversackref17_Book = 1 := by kernel_rfl
theorem C_map_string_bool : PP.cellsOf T_map_string_bool = 1 := by kernel_rfl
theorem U_map_string_bool : PP.underlying T_map_string_bool = some (.map T_string T_bool) := by kernel_rfl
theorem C_sl_uint8 : PP.cellsOf T_sl_uint8 = 1 := by kernel_rfl
theorem E_sl_uint8 : Elem PP T_sl_uint8 T_uint8 1 1 (.int .u8 0) := Elem.of (by kernel_rfl) (by kernel_rfl)
theorem U_sl_uint8 : PP.underlying T_sl_uint8 = some (.slice T_uint8) := by kernel_rfl
theorem C_map_string_p_quota_account : PP.cellsOf T_map_string_p_quota_account = 1 := by kernel_rfl
theorem U_map_string_p_quota_account : PP.underlying T_map_string_p_quota_account = some (.map T_string T_p_quota_account) := by kernel_rfl
theorem C_map_int_quota_held : PP.cellsOf T_map_int_quota_held = 1 := by kernel_rfl
theorem U_map_int_quota_held : PP.underlying T_map_int_quota_held = some (.map T_int T_quota_held) := by kernel_rfl
theorem FL_struct_accounts_map_string_p_quota_account_holds_map_int_quo : fieldsOf PP T_struct_accounts_map_string_p_quota_account_holds_map_int_quo = [(T_map_string_p_quota_account, 0, 1), (T_map_int_quota_held, 1, 1), (T_int, 2, 1)] := by kernel_rfl
theorem C_struct_accounts_map_string_p_quota_account_holds_map_int_quo : PP.cellsOf T_struct_accounts_map_string_p_quota_account_holds_map_int_quo = 3 := by kernel_rfl
theorem FL_quota_Book : fieldsOf PP T_quota_Book = [(T_map_string_p_quota_account, 0, 1), (T_map_int_quota_held, 1, 1), (T_int, 2, 1)] := by kernel_rfl
theorem C_quota_Book : PP.cellsOf T_quota_Book = 3 := by kernel_rfl
theorem C_p_quota_account : PP.cellsOf T_p_quota_account = 1 := by kernel_rfl
theorem FL_struct_most_api_Use_use_api_Use_held_api_Use : fieldsOf PP T_struct_most_api_Use_use_api_Use_held_api_Use = [(T_api_Use, 0, 2), (T_api_Use, 2, 2), (T_api_Use, 4, 2)] := by kernel_rfl
theorem C_struct_most_api_Use_use_api_Use_held_api_Use : PP.cellsOf T_struct_most_api_Use_use_api_Use_held_api_Use = 6 := by kernel_rfl
theorem FL_quota_account : fieldsOf PP T_quota_account = [(T_api_Use, 0, 2), (T_api_Use, 2, 2), (T_api_Use, 4, 2)] := by kernel_rfl
theorem C_quota_account : PP.cellsOf T_quota_account = 6 := by kernel_rfl
theorem FL_struct_a_p_quota_account_more_api_Use : fieldsOf PP T_struct_a_p_quota_account_more_api_Use = [(T_p_quota_account, 0, 1), (T_api_Use, 1, 2)] := by kernel_rfl
theorem C_struct_a_p_quota_account_more_api_Use : PP.cellsOf T_struct_a_p_quota_account_more_api_Use = 3 := by kernel_rfl
theorem FL_quota_held : fieldsOf PP T_quota_held = [(T_p_quota_account, 0, 1), (T_api_Use, 1, 2)] := by kernel_rfl
theorem C_quota_held : PP.cellsOf T_quota_held = 3 := by kernel_rfl
theorem C_sl_haversackref17_Held : PP.cellsOf T_sl_haversackref17_Held = 1 := by kernel_rfl
theorem E_sl_haversackref17_Held : Elem PP T_sl_haversackref17_Held T_haversackref17_Held 4 32 (.agg #[(.int .i64 0), (.int .i64 0), (.int .i64 0), (.int .i64 0)]) := Elem.of (by kernel_rfl) (by kernel_rfl)
theorem U_sl_haversackref17_Held : PP.underlying T_sl_haversackref17_Held = some (.slice T_haversackref17_Held) := by kernel_rfl
theorem FL_struct_L_sl_api_Tenant_Uses_sl_api_Use_Held_sl_haversackref1 : fieldsOf PP T_struct_L_sl_api_Tenant_Uses_sl_api_Use_Held_sl_haversackref1 = [(T_sl_api_Tenant, 0, 1), (T_sl_api_Use, 1, 1), (T_sl_haversackref17_Held, 2, 1), (T_int, 3, 1)] := by kernel_rfl
theorem C_struct_L_sl_api_Tenant_Uses_sl_api_Use_Held_sl_haversackref1 : PP.cellsOf T_struct_L_sl_api_Tenant_Uses_sl_api_Use_Held_sl_haversackref1 = 4 := by kernel_rfl
theorem FL_haversackref17_Book : fieldsOf PP T_haversackref17_Book = [(T_sl_api_Tenant, 0, 1), (T_sl_api_Use, 1, 1), (T_sl_haversackref17_Held, 2, 1), (T_int, 3, 1)] := by kernel_rfl
theorem C_haversackref17_Book : PP.cellsOf T_haversackref17_Book = 4 := by kernel_rfl
theorem FL_struct_Id_int_Tenant_int_More_api_Use : fieldsOf PP T_struct_Id_int_Tenant_int_More_api_Use = [(T_int, 0, 1), (T_int, 1, 1), (T_api_Use, 2, 2)] := by kernel_rfl
theorem C_struct_Id_int_Tenant_int_More_api_Use : PP.cellsOf T_struct_Id_int_Tenant_int_More_api_Use = 4 := by kernel_rfl
theorem FL_haversackref17_Held : fieldsOf PP T_haversackref17_Held = [(T_int, 0, 1), (T_int, 1, 1), (T_api_Use, 2, 2)] := by kernel_rfl
theorem C_haversackref17_Held : PP.cellsOf T_haversackref17_Held = 4 := by kernel_rfl
/-! ### haversack/haversacklaw17.QuotaNew: function 3 -/
def law17_QuotaNew_ann : Ann := (.seq 1 (.region [(List.range 1, 1)]) (.seq 1 (.seq 65537 (.region [(List.range 3, 65537)]) (.cond (.seq 4 (.region [(List.range 1, 4)]) (.exit 4)) .leaf)) (.seq 9 (.region [(List.range 3, 9)]) (.seq 25 (.region [(List.range 4, 25)]) (.seq 25 (.region [(List.range 3, 25)]) (.seq 57 (.region [(List.range 3, 57)]) (.seq 249 (.region [(List.range 7, 249)]) (.seq 233 (.seq 505 (.region [(List.range 1, 505)]) (.block (.loop 505 (.seq 505 (.seq 34359738873 (.region [(List.range 4, 34359738873)]) (.cond .leaf (.exit 233))) (.seq 505 (.block (.seq 505 (.seq 70368744178169 (.region [(List.range 9, 70368744178169)]) (.cond (.seq 4 (.region [(List.range 1, 4)]) (.exit 4)) .leaf)) (.region [(List.range 5, 505)]))) (.region [(List.range 3, 505)])))))) (.seq 65 (.seq 36893488147419103297 (.region [(List.range 15, 36893488147419103297)]) (.join (.cond (.seq 4 (.region [(List.range 1, 4)]) (.exit 4)) .leaf))) (.seq 0 (.seq 577 (.region [(List.range 1, 577)]) (.block (.loop 577 (.seq 577 (.seq 9444732965739290427969 (.region [(List.range 8, 9444732965739290427969)]) (.cond .leaf (.exit 0))) (.seq 577 (.block (.seq 3649 (.region [(List.range 13, 3649)]) (.seq 15937 (.region [(List.range 13, 15937)]) (.seq 2658455991569831745807614120560689729 (.region [(List.range 26, 2658455991569831745807614120560689729)]) (.join (.cond (.seq 4 (.region [(List.range 1, 4)]) (.exit 4)) .leaf)))))) (.region [(List.range 3, 577)])))))) (.seq 4 (.region [(List.range 2, 4)]) (.exit 4))))))))))))
@[irreducible] def law17_QuotaNew_Xret (t2 : Bool) : Fr := (mkFr 0 123 [(2, (.bool t2))])
@[irreducible] def law17_QuotaNew_X0 (xl0 : Option Addr) (xl0n : Nat) (xl0c : Nat) (want3 : Int) (e5 : Int) (b6 : Option Addr) (f7 : Int) : Fr := (mkFr 0 123 [(0, (.slice xl0 xl0n xl0c)), (3, (.int .i64 want3)), (5, (.int .i64 e5)), (6, (.pointer b6)), (7, (.int .i64 f7))])
@[irreducible] def law17_QuotaNew_X2  : Fr := (mkFr 0 123 [])
@[irreducible] def law17_QuotaNew_L1111111010 (xl0 : Option Addr) (xl0n : Nat) (xl0c : Nat) (want3 : Int) (own4 : Option Addr) (own4n : Nat) (own4c : Nat) (e5 : Int) (b6 : Option Addr) (f7 : Int) (i8 : Int) (K : Ex → Fr → Heap → Prop) (h : Heap) : Prop := Lp PP true (sub (bodyOf Try.f3) [1, 1, 1, 1, 1, 1, 1, 0, 1, 0, 0]) (mkFr 0 123 [(0, (.slice xl0 xl0n xl0c)), (3, (.int .i64 want3)), (4, (.slice own4 own4n own4c)), (5, (.int .i64 e5)), (6, (.pointer b6)), (7, (.int .i64 f7)), (8, (.int .i64 i8))]) K h
@[irreducible] def law17_QuotaNew_B1111111010 (K : Ex → Fr → Heap → Prop) : Ex → Fr → Heap → Prop := seqK (fun fr h => Lp PP true (sub (bodyOf Try.f3) [1, 1, 1, 1, 1, 1, 1, 0, 1, 0, 0]) (fr.mask 505) K h) K
@[irreducible] def law17_QuotaNew_K1111111 (Q : Value → Heap → Prop) : Ex → Fr → Heap → Prop := seqK (fun fr h => ev PP true none (sub (bodyOf Try.f3) [1, 1, 1, 1, 1, 1, 1, 1]) (subA law17_QuotaNew_ann [1, 1, 1, 1, 1, 1, 1, 1]) (fr.mask 233) (bodyK PP Try.f3 Q) h) (bodyK PP Try.f3 Q)
@[irreducible] def law17_QuotaNew_K111111101 (Q : Value → Heap → Prop) : Ex → Fr → Heap → Prop := blockK 0 (law17_QuotaNew_K1111111 Q)
@[irreducible] def law17_QuotaNew_K11111111 (Q : Value → Heap → Prop) : Ex → Fr → Heap → Prop := seqK (fun fr h => ev PP true none (sub (bodyOf Try.f3) [1, 1, 1, 1, 1, 1, 1, 1, 1]) (subA law17_QuotaNew_ann [1, 1, 1, 1, 1, 1, 1, 1, 1]) (fr.mask 65) (bodyK PP Try.f3 Q) h) (bodyK PP Try.f3 Q)
@[irreducible] def law17_QuotaNew_J1111111101 (xl0 : Option Addr) (xl0n : Nat) (xl0c : Nat) (b6 : Option Addr) (t65 : Bool) (Q : Value → Heap → Prop) (h : Heap) : Prop := Jn PP true (sub (bodyOf Try.f3) [1, 1, 1, 1, 1, 1, 1, 1, 0, 1]) (mkFr 0 123 [(0, (.slice xl0 xl0n xl0c)), (6, (.pointer b6)), (65, (.bool t65))]) (law17_QuotaNew_K11111111 Q) h
@[irreducible] def law17_QuotaNew_K111111111 (Q : Value → Heap → Prop) : Ex → Fr → Heap → Prop := seqK (fun fr h => ev PP true none (sub (bodyOf Try.f3) [1, 1, 1, 1, 1, 1, 1, 1, 1, 1]) (subA law17_QuotaNew_ann [1, 1, 1, 1, 1, 1, 1, 1, 1, 1]) (fr.mask 0) (bodyK PP Try.f3 Q) h) (bodyK PP Try.f3 Q)
@[irreducible] def law17_QuotaNew_K11111111101 (Q : Value → Heap → Prop) : Ex → Fr → Heap → Prop := blockK 2 (law17_QuotaNew_K111111111 Q)
@[irreducible] def law17_QuotaNew_L111111111010 (xl0 : Option Addr) (xl0n : Nat) (xl0c : Nat) (b6 : Option Addr) (i9 : Int) (K : Ex → Fr → Heap → Prop) (h : Heap) : Prop := Lp PP true (sub (bodyOf Try.f3) [1, 1, 1, 1, 1, 1, 1, 1, 1, 0, 1, 0, 0]) (mkFr 0 123 [(0, (.slice xl0 xl0n xl0c)), (6, (.pointer b6)), (9, (.int .i64 i9))]) K h
@[irreducible] def law17_QuotaNew_B111111111010 (K : Ex → Fr → Heap → Prop) : Ex → Fr → Heap → Prop := seqK (fun fr h => Lp PP true (sub (bodyOf Try.f3) [1, 1, 1, 1, 1, 1, 1, 1, 1, 0, 1, 0, 0]) (fr.mask 577) K h) K
@[irreducible] def law17_QuotaNew_K11111111101001 (K : Ex → Fr → Heap → Prop) : Ex → Fr → Heap → Prop := seqK (fun fr h => ev PP true none (sub (bodyOf Try.f3) [1, 1, 1, 1, 1, 1, 1, 1, 1, 0, 1, 0, 0, 1, 1]) (subA law17_QuotaNew_ann [1, 1, 1, 1, 1, 1, 1, 1, 1, 0, 1, 0, 0, 1, 1]) (fr.mask 577) (law17_QuotaNew_B111111111010 K) h) (law17_QuotaNew_B111111111010 K)
@[irreducible] def law17_QuotaNew_K111111111010010 (K : Ex → Fr → Heap → Prop) : Ex → Fr → Heap → Prop := blockK 3 (law17_QuotaNew_K11111111101001 K)
@[irreducible] def law17_QuotaNew_J1111111110100100111 (xl0 : Option Addr) (xl0n : Nat) (xl0c : Nat) (b6 : Option Addr) (i9 : Int) (t121 : Bool) (K : Ex → Fr → Heap → Prop) (h : Heap) : Prop := Jn PP true (sub (bodyOf Try.f3) [1, 1, 1, 1, 1, 1, 1, 1, 1, 0, 1, 0, 0, 1, 0, 0, 1, 1, 1]) (mkFr 0 123 [(0, (.slice xl0 xl0n xl0c)), (6, (.pointer b6)), (9, (.int .i64 i9)), (121, (.bool t121))]) (law17_QuotaNew_K111111111010010 K) h
@[reducible] def law17_QuotaNew_L1111111010_txt (xl0 : Option Addr) (xl0n : Nat) (xl0c : Nat) (want3 : Int) (own4 : Option Addr) (own4n : Nat) (own4c : Nat) (e5 : Int) (b6 : Option Addr) (f7 : Int) (i8 : Int) (K : Ex → Fr → Heap → Prop) (h : Heap) : Prop :=
 let t35 : Bool := decide (i8 < (xl0n : Int))
 br t35 (
 hwp PP (Instr.indexAt T_sl_api_Tenant (.slice own4 own4n own4c) (.int .i64 i8)) (fun v h1 => ∃ (t40 : Addr), v = (.pointer (some t40)) ∧
 ∃ (t41f0 : ByteArray) (t41f1 : ByteArray) (t41f2 : Int) (t41f3 : Int), rdCells h1 t40 0 [(.string t41f0), (.string t41f1), (.int .i64 t41f2), (.int .i64 t41f3)] ∧
 hwp PP (Instr.indexAt T_sl_api_Tenant (.slice xl0 xl0n xl0c) (.int .i64 i8)) (fun v_1 h2 => ∃ (t44 : Addr), v_1 = (.pointer (some t44)) ∧
 ∃ (t45f0 : ByteArray) (t45f1 : ByteArray) (t45f2 : Int) (t45f3 : Int), rdCells h2 t44 0 [(.string t45f0), (.string t45f1), (.int .i64 t45f2), (.int .i64 t45f3)] ∧
 let t46 : Bool := (!(decide (t41f0 = t45f0) && (decide (t41f1 = t45f1) && ((t41f2 == t45f2) && ((t41f3 == t45f3) && true)))))
 br t46 (
 K .ret (law17_QuotaNew_Xret false) h2) (
 hwp PP (Instr.indexAt T_sl_api_Tenant (.slice own4 own4n own4c) (.int .i64 i8)) (fun v_2 h3 => ∃ (t50 : Addr), v_2 = (.pointer (some t50)) ∧
 wrCells t50 0 [(.string (⟨#[103, 111, 110, 101]⟩ : ByteArray)), (.string (⟨#[]⟩ : ByteArray)), (.int .i64 0), (.int .i64 0)] (fun h4 =>
 let t37 : Int := IntKind.i64.wrap (i8 + 1)
 law17_QuotaNew_L1111111010 xl0 xl0n xl0c want3 own4 own4n own4c e5 b6 f7 t37 K h4) h3) h2)) h1) h) (
 K (.exit 0) (law17_QuotaNew_X0 xl0 xl0n xl0c want3 e5 b6 f7) h)
theorem law17_QuotaNew_L1111111010_eq (xl0 : Option Addr) (xl0n : Nat) (xl0c : Nat) (want3 : Int) (own4 : Option Addr) (own4n : Nat) (own4c : Nat) (e5 : Int) (b6 : Option Addr) (f7 : Int) (i8 : Int) (K : Ex → Fr → Heap → Prop) (h : Heap) : ev PP true none (sub (bodyOf Try.f3) [1, 1, 1, 1, 1, 1, 1, 0, 1, 0, 0]) (subA law17_QuotaNew_ann [1, 1, 1, 1, 1, 1, 1, 0, 1, 0, 0]) (mkFr 0 123 [(0, (.slice xl0 xl0n xl0c)), (3, (.int .i64 want3)), (4, (.slice own4 own4n own4c)), (5, (.int .i64 e5)), (6, (.pointer b6)), (7, (.int .i64 f7)), (8, (.int .i64 i8))]) (seqK (fun fr h => Lp PP true (sub (bodyOf Try.f3) [1, 1, 1, 1, 1, 1, 1, 0, 1, 0, 0]) (fr.mask 505) K h) K) h = law17_QuotaNew_L1111111010_txt xl0 xl0n xl0c want3 own4 own4n own4c e5 b6 f7 i8 K h := by kernel_rfl
theorem law17_QuotaNew_L1111111010_of {xl0 : Option Addr} {xl0n : Nat} {xl0c : Nat} {want3 : Int} {own4 : Option Addr} {own4n : Nat} {own4c : Nat} {e5 : Int} {b6 : Option Addr} {f7 : Int} {i8 : Int} {K : Ex → Fr → Heap → Prop} {h : Heap} (H : law17_QuotaNew_L1111111010_txt xl0 xl0n xl0c want3 own4 own4n own4c e5 b6 f7 i8 K h) : law17_QuotaNew_L1111111010 xl0 xl0n xl0c want3 own4 own4n own4c e5 b6 f7 i8 K h := by
   unfold law17_QuotaNew_L1111111010; refine Lp.of_ev (x := subA law17_QuotaNew_ann [1, 1, 1, 1, 1, 1, 1, 0, 1, 0, 0]) (keep := 505) ?_; exact (law17_QuotaNew_L1111111010_eq xl0 xl0n xl0c want3 own4 own4n own4c e5 b6 f7 i8 K h).symm ▸ H
theorem law17_QuotaNew_at1111111010_Xret (Q : Value → Heap → Prop) (t2 : Bool) (h : Heap) : (law17_QuotaNew_K111111101 Q) .ret (law17_QuotaNew_Xret t2) h = (
 Q (.bool t2) h) := by kernel_rfl
theorem law17_QuotaNew_at1111111010_X0 (Q : Value → Heap → Prop) (xl0 : Option Addr) (xl0n : Nat) (xl0c : Nat) (want3 : Int) (e5 : Int) (b6 : Option Addr) (f7 : Int) (h : Heap) : (law17_QuotaNew_K111111101 Q) (.exit 0) (law17_QuotaNew_X0 xl0 xl0n xl0c want3 e5 b6 f7) h = (
 let t53 : Bool := (e5 != want3)
 br t53 (
 law17_QuotaNew_J1111111101 xl0 xl0n xl0c b6 true Q h) (
 let t57 : Bool := (f7 != want3)
 br t57 (
 law17_QuotaNew_J1111111101 xl0 xl0n xl0c b6 true Q h) (
 let t61 : Bool := (Option.isNone b6)
 let t63 : Bool := (want3 != 0)
 let t64 : Bool := (!(t61 == t63))
 law17_QuotaNew_J1111111101 xl0 xl0n xl0c b6 t64 Q h))) := by kernel_rfl
@[reducible] def law17_QuotaNew_J1111111101_txt (xl0 : Option Addr) (xl0n : Nat) (xl0c : Nat) (b6 : Option Addr) (t65 : Bool) (Q : Value → Heap → Prop) (h : Heap) : Prop :=
 br t65 (
 Q (.bool false) h) (
 law17_QuotaNew_L111111111010 xl0 xl0n xl0c b6 0 (law17_QuotaNew_K11111111101 Q) h)
theorem law17_QuotaNew_J1111111101_eq (xl0 : Option Addr) (xl0n : Nat) (xl0c : Nat) (b6 : Option Addr) (t65 : Bool) (Q : Value → Heap → Prop) (h : Heap) : ev PP true none (sub (bodyOf Try.f3) [1, 1, 1, 1, 1, 1, 1, 1, 0, 1]) (subA law17_QuotaNew_ann [1, 1, 1, 1, 1, 1, 1, 1, 0, 1]) (mkFr 0 123 [(0, (.slice xl0 xl0n xl0c)), (6, (.pointer b6)), (65, (.bool t65))]) (law17_QuotaNew_K11111111 Q) h = law17_QuotaNew_J1111111101_txt xl0 xl0n xl0c b6 t65 Q h := by kernel_rfl
theorem law17_QuotaNew_J1111111101_of {xl0 : Option Addr} {xl0n : Nat} {xl0c : Nat} {b6 : Option Addr} {t65 : Bool} {Q : Value → Heap → Prop} {h : Heap} (H : law17_QuotaNew_J1111111101_txt xl0 xl0n xl0c b6 t65 Q h) : law17_QuotaNew_J1111111101 xl0 xl0n xl0c b6 t65 Q h := by
   unfold law17_QuotaNew_J1111111101; refine Jn.of_ev (x := subA law17_QuotaNew_ann [1, 1, 1, 1, 1, 1, 1, 1, 0, 1]) ?_; exact (law17_QuotaNew_J1111111101_eq xl0 xl0n xl0c b6 t65 Q h).symm ▸ H
@[reducible] def law17_QuotaNew_L111111111010_txt (xl0 : Option Addr) (xl0n : Nat) (xl0c : Nat) (b6 : Option Addr) (i9 : Int) (K : Ex → Fr → Heap → Prop) (h : Heap) : Prop :=
 let t69 : Bool := decide (i9 < (xl0n : Int))
 br t69 (
 let t72 : Bool := (!Option.isNone b6)
 br t72 (
 hwp PP (Instr.indexAt T_sl_api_Tenant (.slice xl0 xl0n xl0c) (.int .i64 i9)) (fun v h1 => ∃ (t80 : Addr), v = (.pointer (some t80)) ∧
 ∃ (t82 : ByteArray), cellH h1 t80 = some (.string t82) ∧
 SpecH PP F_quota_Book_Use [(.pointer b6), (.string t82)] h1 (fun v_1 h2 => ∃ (t83f0 : Int) (t83f1 : Int) (t83_1 : Int), v_1 = (.tuple #[(.agg #[(.int .i64 t83f0), (.int .i64 t83f1)]), (.int .i64 t83_1)]) ∧
 let u10 : Addr := ⟨Array.size h2, 0, none⟩
 let h3 : Heap := Array.push h2 (.cells #[(.int .i64 0), (.int .i64 0)] T_api_Use (0, 0))
 wrCells u10 0 [(.int .i64 t83f0), (.int .i64 t83f1)] (fun h4 =>
 hwp PP (Instr.indexAt T_sl_api_Tenant (.slice xl0 xl0n xl0c) (.int .i64 i9)) (fun v_2 h5 => ∃ (t90 : Addr), v_2 = (.pointer (some t90)) ∧
 ∃ (t92 : ByteArray), cellH h5 t90 = some (.string t92) ∧
 SpecH PP F_quota_Book_Left [(.pointer b6), (.string t92)] h5 (fun v_3 h6 => ∃ (t93f0 : Int) (t93f1 : Int) (t93_1 : Int), v_3 = (.tuple #[(.agg #[(.int .i64 t93f0), (.int .i64 t93f1)]), (.int .i64 t93_1)]) ∧
 let w12 : Addr := ⟨Array.size h6, 0, none⟩
 let h7 : Heap := Array.push h6 (.cells #[(.int .i64 0), (.int .i64 0)] T_api_Use (0, 0))
 wrCells w12 0 [(.int .i64 t93f0), (.int .i64 t93f1)] (fun h8 =>
 let t97 : Bool := (t83_1 != 0)
 br t97 (
 law17_QuotaNew_J1111111110100100111 xl0 xl0n xl0c b6 i9 true K h8) (
 let t100 : Bool := (t93_1 != 0)
 br t100 (
 law17_QuotaNew_J1111111110100100111 xl0 xl0n xl0c b6 i9 true K h8) (
 ∃ (t103f0 : Int) (t103f1 : Int), rdCells h8 u10 0 [(.int .i64 t103f0), (.int .i64 t103f1)] ∧
 let t105 : Bool := (!((t103f0 == 0) && ((t103f1 == 0) && true)))
 br t105 (
 law17_QuotaNew_J1111111110100100111 xl0 xl0n xl0c b6 i9 true K h8) (
 ∃ (t108f0 : Int) (t108f1 : Int), rdCells h8 w12 0 [(.int .i64 t108f0), (.int .i64 t108f1)] ∧
 hwp PP (Instr.indexAt T_sl_api_Tenant (.slice xl0 xl0n xl0c) (.int .i64 i9)) (fun v_4 h9 => ∃ (t111 : Addr), v_4 = (.pointer (some t111)) ∧
 ∃ (t113 : Int), cellH h9 (Addr.add t111 2) = some (.int .i64 t113) ∧
 hwp PP (Instr.indexAt T_sl_api_Tenant (.slice xl0 xl0n xl0c) (.int .i64 i9)) (fun v_5 h10 => ∃ (t116 : Addr), v_5 = (.pointer (some t116)) ∧
 ∃ (t118 : Int), cellH h10 (Addr.add t116 3) = some (.int .i64 t118) ∧
 let t120 : Bool := (!((t108f0 == t113) && ((t108f1 == t118) && true)))
 law17_QuotaNew_J1111111110100100111 xl0 xl0n xl0c b6 i9 t120 K h10) h9) h8)))) h7)) h4) h3)) h) (
 K (.exit 2) (law17_QuotaNew_X2) h)) (
 K (.exit 2) (law17_QuotaNew_X2) h)
theorem law17_QuotaNew_L111111111010_eq (xl0 : Option Addr) (xl0n : Nat) (xl0c : Nat) (b6 : Option Addr) (i9 : Int) (K : Ex → Fr → Heap → Prop) (h : Heap) : ev PP true none (sub (bodyOf Try.f3) [1, 1, 1, 1, 1, 1, 1, 1, 1, 0, 1, 0, 0]) (subA law17_QuotaNew_ann [1, 1, 1, 1, 1, 1, 1, 1, 1, 0, 1, 0, 0]) (mkFr 0 123 [(0, (.slice xl0 xl0n xl0c)), (6, (.pointer b6)), (9, (.int .i64 i9))]) (seqK (fun fr h => Lp PP true (sub (bodyOf Try.f3) [1, 1, 1, 1, 1, 1, 1, 1, 1, 0, 1, 0, 0]) (fr.mask 577) K h) K) h = law17_QuotaNew_L111111111010_txt xl0 xl0n xl0c b6 i9 K h := by kernel_rfl
theorem law17_QuotaNew_L111111111010_of {xl0 : Option Addr} {xl0n : Nat} {xl0c : Nat} {b6 : Option Addr} {i9 : Int} {K : Ex → Fr → Heap → Prop} {h : Heap} (H : law17_QuotaNew_L111111111010_txt xl0 xl0n xl0c b6 i9 K h) : law17_QuotaNew_L111111111010 xl0 xl0n xl0c b6 i9 K h := by
   unfold law17_QuotaNew_L111111111010; refine Lp.of_ev (x := subA law17_QuotaNew_ann [1, 1, 1, 1, 1, 1, 1, 1, 1, 0, 1, 0, 0]) (keep := 577) ?_; exact (law17_QuotaNew_L111111111010_eq xl0 xl0n xl0c b6 i9 K h).symm ▸ H
theorem law17_QuotaNew_at111111111010_Xret (Q : Value → Heap → Prop) (t2 : Bool) (h : Heap) : (law17_QuotaNew_K11111111101 Q) .ret (law17_QuotaNew_Xret t2) h = (
 Q (.bool t2) h) := by kernel_rfl
@[reducible] def law17_QuotaNew_J1111111110100100111_txt (xl0 : Option Addr) (xl0n : Nat) (xl0c : Nat) (b6 : Option Addr) (i9 : Int) (t121 : Bool) (K : Ex → Fr → Heap → Prop) (h : Heap) : Prop :=
 br t121 (
 K .ret (law17_QuotaNew_Xret false) h) (
 let t75 : Int := IntKind.i64.wrap (i9 + 1)
 law17_QuotaNew_L111111111010 xl0 xl0n xl0c b6 t75 K h)
theorem law17_QuotaNew_J1111111110100100111_eq (xl0 : Option Addr) (xl0n : Nat) (xl0c : Nat) (b6 : Option Addr) (i9 : Int) (t121 : Bool) (K : Ex → Fr → Heap → Prop) (h : Heap) : ev PP true none (sub (bodyOf Try.f3) [1, 1, 1, 1, 1, 1, 1, 1, 1, 0, 1, 0, 0, 1, 0, 0, 1, 1, 1]) (subA law17_QuotaNew_ann [1, 1, 1, 1, 1, 1, 1, 1, 1, 0, 1, 0, 0, 1, 0, 0, 1, 1, 1]) (mkFr 0 123 [(0, (.slice xl0 xl0n xl0c)), (6, (.pointer b6)), (9, (.int .i64 i9)), (121, (.bool t121))]) (law17_QuotaNew_K111111111010010 K) h = law17_QuotaNew_J1111111110100100111_txt xl0 xl0n xl0c b6 i9 t121 K h := by kernel_rfl
theorem law17_QuotaNew_J1111111110100100111_of {xl0 : Option Addr} {xl0n : Nat} {xl0c : Nat} {b6 : Option Addr} {i9 : Int} {t121 : Bool} {K : Ex → Fr → Heap → Prop} {h : Heap} (H : law17_QuotaNew_J1111111110100100111_txt xl0 xl0n xl0c b6 i9 t121 K h) : law17_QuotaNew_J1111111110100100111 xl0 xl0n xl0c b6 i9 t121 K h := by
   unfold law17_QuotaNew_J1111111110100100111; refine Jn.of_ev (x := subA law17_QuotaNew_ann [1, 1, 1, 1, 1, 1, 1, 1, 1, 0, 1, 0, 0, 1, 0, 0, 1, 1, 1]) ?_; exact (law17_QuotaNew_J1111111110100100111_eq xl0 xl0n xl0c b6 i9 t121 K h).symm ▸ H
theorem law17_QuotaNew_at111111111010_X2 (Q : Value → Heap → Prop)  (h : Heap) : (law17_QuotaNew_K11111111101 Q) (.exit 2) (law17_QuotaNew_X2 ) h = (
 SpecH PP F_law17_awake [] h (fun v h1 => ∃ (t122 : Bool), v = (.bool t122) ∧
 Q (.bool t122) h1)) := by kernel_rfl
def law17_QuotaNew_main (xl0 : Option Addr) (xl0n : Nat) (xl0c : Nat) (Q : Value → Heap → Prop) (h : Heap) : Prop :=
 let t16 : Bool := decide ((xl0n : Int) > 1000)
 br t16 (
 Q (.bool true) h) (
 SpecH PP F_ref17_Check [(.slice xl0 xl0n xl0c)] h (fun v h1 => ∃ (t18 : Int), v = (.int .i64 t18) ∧
 hwp PP (Instr.makeSlice T_sl_api_Tenant (.int .i64 (xl0n : Int)) (.int .i64 (xl0n : Int))) (fun v_1 h2 => ∃ (t21 : Option Addr) (t21n : Nat) (t21c : Nat), v_1 = (.slice t21 t21n t21c) ∧
 hwp PP (Builtin.copy_ #[T_sl_api_Tenant, T_sl_api_Tenant] T_int #[(.slice t21 t21n t21c), (.slice xl0 xl0n xl0c)]) (fun v_2 h3 => ∃ (t24 : Int), v_2 = (.int .i64 t24) ∧
 SpecH PP F_quota_Check [(.slice t21 t21n t21c)] h3 (fun v_3 h4 => ∃ (t26 : Int), v_3 = (.int .i64 t26) ∧
 SpecH PP F_quota_New [(.slice t21 t21n t21c)] h4 (fun v_4 h5 => ∃ (t29 : Option Addr) (t29_1 : Int), v_4 = (.tuple #[(.pointer t29), (.int .i64 t29_1)]) ∧
 law17_QuotaNew_L1111111010 xl0 xl0n xl0c t18 t21 t21n t21c t26 t29 t29_1 0 (law17_QuotaNew_K111111101 Q) h5))) h2) h1))
theorem law17_QuotaNew_eq (xl0 : Option Addr) (xl0n : Nat) (xl0c : Nat) (Q : Value → Heap → Prop) (h : Heap) : ev PP true none (bodyOf Try.f3) law17_QuotaNew_ann (initFr 123 [(.slice xl0 xl0n xl0c)]) (bodyK PP Try.f3 Q) h = law17_QuotaNew_main xl0 xl0n xl0c Q h := by kernel_rfl
theorem law17_QuotaNew_door {xl0 : Option Addr} {xl0n : Nat} {xl0c : Nat} {Q : Value → Heap → Prop} {h : Heap} (H : law17_QuotaNew_main xl0 xl0n xl0c Q h) : SpecH PP F_law17_QuotaNew [(.slice xl0 xl0n xl0c)] h Q :=
   spec_of_ev Try.func3 rfl rfl ((law17_QuotaNew_eq xl0 xl0n xl0c Q h).symm ▸ H)
/-! ### haversack/haversacklaw17.QuotaWithin: function 4 -/
def law17_QuotaWithin_ann : Ann := (.seq 3 (.region [(List.range 1, 3)]) (.seq 3 (.seq 134217731 (.region [(List.range 8, 134217731)]) (.join (.cond (.seq 16 (.region [(List.range 1, 16)]) (.exit 16)) .leaf))) (.seq 99 (.region [(List.range 7, 99)]) (.seq 35 (.seq 274877907043 (.region [(List.range 6, 274877907043)]) (.join (.cond (.seq 16 (.region [(List.range 10, 16)]) (.exit 16)) .leaf))) (.seq 163 (.region [(List.range 2, 163)]) (.seq 0 (.seq 419 (.region [(List.range 1, 419)]) (.block (.loop 419 (.seq 419 (.seq 4503599627370915 (.region [(List.range 4, 4503599627370915)]) (.cond .leaf (.exit 0))) (.seq 419 (.block (.seq 931 (.region [(List.range 6, 931)]) (.seq 1955 (.region [(List.range 4, 1955)]) (.seq 1955 (.seq 4003 (.region [(List.range 1, 4003)]) (.block (.loop 4003 (.seq 4003 (.seq 36893488147419107235 (.region [(List.range 4, 36893488147419107235)]) (.cond .leaf (.exit 1955))) (.seq 4003 (.block (.seq 8099 (.region [(List.range 13, 8099)]) (.region [(List.range 5, 4003)]))) (.region [(List.range 3, 4003)])))))) (.seq 18339 (.region [(List.range 1, 18339)]) (.seq 17827 (.seq 9671406556917033397667747 (.region [(List.range 2, 9671406556917033397667747)]) (.block (.seq 29014219670751100192966563 (.region [(List.range 2, 29014219670751100192966563)]) (.cond (.seq 116643 (.region [(List.range 11, 116643)]) (.seq 79228162514264337593544001443 (.region [(List.range 2, 79228162514264337593544001443)]) (.cond (.region [(List.range 5, 17827)]) .leaf))) (.seq 2535310871863015720026804078499 (.region [(List.range 2, 2535310871863015720026804078499)]) (.cond (.seq 162259276829213363391578010306467 (.region [(List.range 5, 162259276829213363391578010306467)]) (.cond (.region [(List.range 5, 17827)]) .leaf)) (.seq 5192296858534827628530496329238435 (.region [(List.range 2, 5192296858534827628530496329238435)]) (.cond (.region [(List.range 4, 17827)]) .leaf)))))))) (.join (.seq 148899 (.region [(List.range 1, 148899)]) (.block (.loop 148899 (.seq 148899 (.seq 2658455991569831745807614120560838051 (.region [(List.range 4, 2658455991569831745807614120560838051)]) (.cond .leaf (.exit 419))) (.seq 148899 (.block (.seq 935331 (.region [(List.range 13, 935331)]) (.seq 6129982163463555433433388108601236734474956488734557603 (.region [(List.range 49, 6129982163463555433433388108601236734474956488734557603)]) (.join (.cond (.seq 16 (.region [(List.range 1, 16)]) (.exit 16)) .leaf))))) (.region [(List.range 3, 148899)]))))))))))))) (.region [(List.range 3, 419)])))))) (.seq 16 (.region [(List.range 2, 16)]) (.exit 16))))))))
@[irreducible] def law17_QuotaWithin_X0  : Fr := (mkFr 0 184 [])
@[irreducible] def law17_QuotaWithin_X2 (xl0 : Option Addr) (xl0n : Nat) (xl0c : Nat) (script1 : Option Addr) (script1n : Nat) (script1c : Nat) (b5 : Option Addr) (owner7 : Option Nat) (i8 : Int) (o9 : Addr) (before10 : Option Addr) (before10n : Nat) (before10c : Nat) : Fr := (mkFr 0 184 [(0, (.slice xl0 xl0n xl0c)), (1, (.slice script1 script1n script1c)), (5, (.pointer b5)), (7, (.map owner7)), (8, (.int .i64 i8)), (9, (.pointer (some o9))), (10, (.slice before10 before10n before10c))])
@[irreducible] def law17_QuotaWithin_X5 (xl0 : Option Addr) (xl0n : Nat) (xl0c : Nat) (script1 : Option Addr) (script1n : Nat) (script1c : Nat) (b5 : Option Addr) (owner7 : Option Nat) (i8 : Int) : Fr := (mkFr 0 184 [(0, (.slice xl0 xl0n xl0c)), (1, (.slice script1 script1n script1c)), (5, (.pointer b5)), (7, (.map owner7)), (8, (.int .i64 i8))])
@[irreducible] def law17_QuotaWithin_Xret (t4 : Bool) : Fr := (mkFr 0 184 [(4, (.bool t4))])
@[irreducible] def law17_QuotaWithin_K1 (Q : Value → Heap → Prop) : Ex → Fr → Heap → Prop := seqK (fun fr h => ev PP true none (sub (bodyOf Try.f4) [1, 1]) (subA law17_QuotaWithin_ann [1, 1]) (fr.mask 3) (bodyK PP Try.f4 Q) h) (bodyK PP Try.f4 Q)
@[irreducible] def law17_QuotaWithin_J101 (xl0 : Option Addr) (xl0n : Nat) (xl0c : Nat) (script1 : Option Addr) (script1n : Nat) (script1c : Nat) (t27 : Bool) (Q : Value → Heap → Prop) (h : Heap) : Prop := Jn PP true (sub (bodyOf Try.f4) [1, 0, 1]) (mkFr 0 184 [(0, (.slice xl0 xl0n xl0c)), (1, (.slice script1 script1n script1c)), (27, (.bool t27))]) (law17_QuotaWithin_K1 Q) h
@[irreducible] def law17_QuotaWithin_K111 (Q : Value → Heap → Prop) : Ex → Fr → Heap → Prop := seqK (fun fr h => ev PP true none (sub (bodyOf Try.f4) [1, 1, 1, 1]) (subA law17_QuotaWithin_ann [1, 1, 1, 1]) (fr.mask 35) (bodyK PP Try.f4 Q) h) (bodyK PP Try.f4 Q)
@[irreducible] def law17_QuotaWithin_J11101 (xl0 : Option Addr) (xl0n : Nat) (xl0c : Nat) (script1 : Option Addr) (script1n : Nat) (script1c : Nat) (b5 : Option Addr) (e6 : Int) (t38 : Bool) (Q : Value → Heap → Prop) (h : Heap) : Prop := Jn PP true (sub (bodyOf Try.f4) [1, 1, 1, 0, 1]) (mkFr 0 184 [(0, (.slice xl0 xl0n xl0c)), (1, (.slice script1 script1n script1c)), (5, (.pointer b5)), (6, (.int .i64 e6)), (38, (.bool t38))]) (law17_QuotaWithin_K111 Q) h
@[irreducible] def law17_QuotaWithin_K11111 (Q : Value → Heap → Prop) : Ex → Fr → Heap → Prop := seqK (fun fr h => ev PP true none (sub (bodyOf Try.f4) [1, 1, 1, 1, 1, 1]) (subA law17_QuotaWithin_ann [1, 1, 1, 1, 1, 1]) (fr.mask 0) (bodyK PP Try.f4 Q) h) (bodyK PP Try.f4 Q)
@[irreducible] def law17_QuotaWithin_K1111101 (Q : Value → Heap → Prop) : Ex → Fr → Heap → Prop := blockK 0 (law17_QuotaWithin_K11111 Q)
@[irreducible] def law17_QuotaWithin_L11111010 (xl0 : Option Addr) (xl0n : Nat) (xl0c : Nat) (script1 : Option Addr) (script1n : Nat) (script1c : Nat) (b5 : Option Addr) (owner7 : Option Nat) (i8 : Int) (K : Ex → Fr → Heap → Prop) (h : Heap) : Prop := Lp PP true (sub (bodyOf Try.f4) [1, 1, 1, 1, 1, 0, 1, 0, 0]) (mkFr 0 184 [(0, (.slice xl0 xl0n xl0c)), (1, (.slice script1 script1n script1c)), (5, (.pointer b5)), (7, (.map owner7)), (8, (.int .i64 i8))]) K h
@[irreducible] def law17_QuotaWithin_B11111010 (K : Ex → Fr → Heap → Prop) : Ex → Fr → Heap → Prop := seqK (fun fr h => Lp PP true (sub (bodyOf Try.f4) [1, 1, 1, 1, 1, 0, 1, 0, 0]) (fr.mask 419) K h) K
@[irreducible] def law17_QuotaWithin_K1111101001 (K : Ex → Fr → Heap → Prop) : Ex → Fr → Heap → Prop := seqK (fun fr h => ev PP true none (sub (bodyOf Try.f4) [1, 1, 1, 1, 1, 0, 1, 0, 0, 1, 1]) (subA law17_QuotaWithin_ann [1, 1, 1, 1, 1, 0, 1, 0, 0, 1, 1]) (fr.mask 419) (law17_QuotaWithin_B11111010 K) h) (law17_QuotaWithin_B11111010 K)
@[irreducible] def law17_QuotaWithin_K11111010010 (K : Ex → Fr → Heap → Prop) : Ex → Fr → Heap → Prop := blockK 1 (law17_QuotaWithin_K1111101001 K)
@[irreducible] def law17_QuotaWithin_K11111010010011 (K : Ex → Fr → Heap → Prop) : Ex → Fr → Heap → Prop := seqK (fun fr h => ev PP true none (sub (bodyOf Try.f4) [1, 1, 1, 1, 1, 0, 1, 0, 0, 1, 0, 0, 1, 1, 1]) (subA law17_QuotaWithin_ann [1, 1, 1, 1, 1, 0, 1, 0, 0, 1, 0, 0, 1, 1, 1]) (fr.mask 1955) (law17_QuotaWithin_K11111010010 K) h) (law17_QuotaWithin_K11111010010 K)
@[irreducible] def law17_QuotaWithin_K1111101001001101 (K : Ex → Fr → Heap → Prop) : Ex → Fr → Heap → Prop := blockK 2 (law17_QuotaWithin_K11111010010011 K)
@[irreducible] def law17_QuotaWithin_L11111010010011010 (xl0 : Option Addr) (xl0n : Nat) (xl0c : Nat) (script1 : Option Addr) (script1n : Nat) (script1c : Nat) (b5 : Option Addr) (owner7 : Option Nat) (i8 : Int) (o9 : Addr) (before10 : Option Addr) (before10n : Nat) (before10c : Nat) (k11 : Int) (K : Ex → Fr → Heap → Prop) (h : Heap) : Prop := Lp PP true (sub (bodyOf Try.f4) [1, 1, 1, 1, 1, 0, 1, 0, 0, 1, 0, 0, 1, 1, 0, 1, 0, 0]) (mkFr 0 184 [(0, (.slice xl0 xl0n xl0c)), (1, (.slice script1 script1n script1c)), (5, (.pointer b5)), (7, (.map owner7)), (8, (.int .i64 i8)), (9, (.pointer (some o9))), (10, (.slice before10 before10n before10c)), (11, (.int .i64 k11))]) K h
@[irreducible] def law17_QuotaWithin_B11111010010011010 (K : Ex → Fr → Heap → Prop) : Ex → Fr → Heap → Prop := seqK (fun fr h => Lp PP true (sub (bodyOf Try.f4) [1, 1, 1, 1, 1, 0, 1, 0, 0, 1, 0, 0, 1, 1, 0, 1, 0, 0]) (fr.mask 4003) K h) K
@[irreducible] def law17_QuotaWithin_J11111010010011111 (xl0 : Option Addr) (xl0n : Nat) (xl0c : Nat) (script1 : Option Addr) (script1n : Nat) (script1c : Nat) (b5 : Option Addr) (owner7 : Option Nat) (i8 : Int) (before10 : Option Addr) (before10n : Nat) (before10c : Nat) (who14 : ByteArray) (K : Ex → Fr → Heap → Prop) (h : Heap) : Prop := Jn PP true (sub (bodyOf Try.f4) [1, 1, 1, 1, 1, 0, 1, 0, 0, 1, 0, 0, 1, 1, 1, 1, 1]) (mkFr 0 184 [(0, (.slice xl0 xl0n xl0c)), (1, (.slice script1 script1n script1c)), (5, (.pointer b5)), (7, (.map owner7)), (8, (.int .i64 i8)), (10, (.slice before10 before10n before10c)), (14, (.string who14))]) (law17_QuotaWithin_K11111010010 K) h
@[irreducible] def law17_QuotaWithin_K111110100100111111 (K : Ex → Fr → Heap → Prop) : Ex → Fr → Heap → Prop := blockK 5 (law17_QuotaWithin_K11111010010 K)
@[irreducible] def law17_QuotaWithin_L1111101001001111110 (xl0 : Option Addr) (xl0n : Nat) (xl0c : Nat) (script1 : Option Addr) (script1n : Nat) (script1c : Nat) (b5 : Option Addr) (owner7 : Option Nat) (i8 : Int) (before10 : Option Addr) (before10n : Nat) (before10c : Nat) (who14 : ByteArray) (k17 : Int) (K : Ex → Fr → Heap → Prop) (h : Heap) : Prop := Lp PP true (sub (bodyOf Try.f4) [1, 1, 1, 1, 1, 0, 1, 0, 0, 1, 0, 0, 1, 1, 1, 1, 1, 1, 0, 0]) (mkFr 0 184 [(0, (.slice xl0 xl0n xl0c)), (1, (.slice script1 script1n script1c)), (5, (.pointer b5)), (7, (.map owner7)), (8, (.int .i64 i8)), (10, (.slice before10 before10n before10c)), (14, (.string who14)), (17, (.int .i64 k17))]) K h
@[irreducible] def law17_QuotaWithin_B1111101001001111110 (K : Ex → Fr → Heap → Prop) : Ex → Fr → Heap → Prop := seqK (fun fr h => Lp PP true (sub (bodyOf Try.f4) [1, 1, 1, 1, 1, 0, 1, 0, 0, 1, 0, 0, 1, 1, 1, 1, 1, 1, 0, 0]) (fr.mask 148899) K h) K
@[irreducible] def law17_QuotaWithin_K111110100100111111001 (K : Ex → Fr → Heap → Prop) : Ex → Fr → Heap → Prop := seqK (fun fr h => ev PP true none (sub (bodyOf Try.f4) [1, 1, 1, 1, 1, 0, 1, 0, 0, 1, 0, 0, 1, 1, 1, 1, 1, 1, 0, 0, 1, 1]) (subA law17_QuotaWithin_ann [1, 1, 1, 1, 1, 0, 1, 0, 0, 1, 0, 0, 1, 1, 1, 1, 1, 1, 0, 0, 1, 1]) (fr.mask 148899) (law17_QuotaWithin_B1111101001001111110 K) h) (law17_QuotaWithin_B1111101001001111110 K)
@[irreducible] def law17_QuotaWithin_K1111101001001111110010 (K : Ex → Fr → Heap → Prop) : Ex → Fr → Heap → Prop := blockK 6 (law17_QuotaWithin_K111110100100111111001 K)
@[irreducible] def law17_QuotaWithin_J1111101001001111110010011 (xl0 : Option Addr) (xl0n : Nat) (xl0c : Nat) (script1 : Option Addr) (script1n : Nat) (script1c : Nat) (b5 : Option Addr) (owner7 : Option Nat) (i8 : Int) (before10 : Option Addr) (before10n : Nat) (before10c : Nat) (who14 : ByteArray) (k17 : Int) (t182 : Bool) (K : Ex → Fr → Heap → Prop) (h : Heap) : Prop := Jn PP true (sub (bodyOf Try.f4) [1, 1, 1, 1, 1, 0, 1, 0, 0, 1, 0, 0, 1, 1, 1, 1, 1, 1, 0, 0, 1, 0, 0, 1, 1]) (mkFr 0 184 [(0, (.slice xl0 xl0n xl0c)), (1, (.slice script1 script1n script1c)), (5, (.pointer b5)), (7, (.map owner7)), (8, (.int .i64 i8)), (10, (.slice before10 before10n before10c)), (14, (.string who14)), (17, (.int .i64 k17)), (182, (.bool t182))]) (law17_QuotaWithin_K1111101001001111110010 K) h
@[reducible] def law17_QuotaWithin_J101_txt (xl0 : Option Addr) (xl0n : Nat) (xl0c : Nat) (script1 : Option Addr) (script1n : Nat) (script1c : Nat) (t27 : Bool) (Q : Value → Heap → Prop) (h : Heap) : Prop :=
 br t27 (
 Q (.bool true) h) (
 SpecH PP F_quota_New [(.slice xl0 xl0n xl0c)] h (fun v h1 => ∃ (t30 : Option Addr) (t30_1 : Int), v = (.tuple #[(.pointer t30), (.int .i64 t30_1)]) ∧
 let t34 : Bool := (t30_1 != 0)
 br t34 (
 law17_QuotaWithin_J11101 xl0 xl0n xl0c script1 script1n script1c t30 t30_1 true Q h1) (
 let t37 : Bool := (Option.isNone t30)
 law17_QuotaWithin_J11101 xl0 xl0n xl0c script1 script1n script1c t30 t30_1 t37 Q h1)))
theorem law17_QuotaWithin_J101_eq (xl0 : Option Addr) (xl0n : Nat) (xl0c : Nat) (script1 : Option Addr) (script1n : Nat) (script1c : Nat) (t27 : Bool) (Q : Value → Heap → Prop) (h : Heap) : ev PP true none (sub (bodyOf Try.f4) [1, 0, 1]) (subA law17_QuotaWithin_ann [1, 0, 1]) (mkFr 0 184 [(0, (.slice xl0 xl0n xl0c)), (1, (.slice script1 script1n script1c)), (27, (.bool t27))]) (law17_QuotaWithin_K1 Q) h = law17_QuotaWithin_J101_txt xl0 xl0n xl0c script1 script1n script1c t27 Q h := by kernel_rfl
theorem law17_QuotaWithin_J101_of {xl0 : Option Addr} {xl0n : Nat} {xl0c : Nat} {script1 : Option Addr} {script1n : Nat} {script1c : Nat} {t27 : Bool} {Q : Value → Heap → Prop} {h : Heap} (H : law17_QuotaWithin_J101_txt xl0 xl0n xl0c script1 script1n script1c t27 Q h) : law17_QuotaWithin_J101 xl0 xl0n xl0c script1 script1n script1c t27 Q h := by
   unfold law17_QuotaWithin_J101; refine Jn.of_ev (x := subA law17_QuotaWithin_ann [1, 0, 1]) ?_; exact (law17_QuotaWithin_J101_eq xl0 xl0n xl0c script1 script1n script1c t27 Q h).symm ▸ H
@[reducible] def law17_QuotaWithin_J11101_txt (xl0 : Option Addr) (xl0n : Nat) (xl0c : Nat) (script1 : Option Addr) (script1n : Nat) (script1c : Nat) (b5 : Option Addr) (e6 : Int) (t38 : Bool) (Q : Value → Heap → Prop) (h : Heap) : Prop :=
 br t38 (
 SpecH PP F_law17_awake [] h (fun v h1 => ∃ (t39 : Bool), v = (.bool t39) ∧
 br t39 (
 let t42 : Bool := (Option.isNone b5)
 br t42 (
 let t46 : Bool := (e6 != 0)
 Q (.bool t46) h1) (
 Q (.bool false) h1)) (
 Q (.bool false) h1))) (
 let h2 : Heap := Array.push h (.map #[] 0)
 law17_QuotaWithin_L11111010 xl0 xl0n xl0c script1 script1n script1c b5 (some (Array.size h)) 0 (law17_QuotaWithin_K1111101 Q) h2)
theorem law17_QuotaWithin_J11101_eq (xl0 : Option Addr) (xl0n : Nat) (xl0c : Nat) (script1 : Option Addr) (script1n : Nat) (script1c : Nat) (b5 : Option Addr) (e6 : Int) (t38 : Bool) (Q : Value → Heap → Prop) (h : Heap) : ev PP true none (sub (bodyOf Try.f4) [1, 1, 1, 0, 1]) (subA law17_QuotaWithin_ann [1, 1, 1, 0, 1]) (mkFr 0 184 [(0, (.slice xl0 xl0n xl0c)), (1, (.slice script1 script1n script1c)), (5, (.pointer b5)), (6, (.int .i64 e6)), (38, (.bool t38))]) (law17_QuotaWithin_K111 Q) h = law17_QuotaWithin_J11101_txt xl0 xl0n xl0c script1 script1n script1c b5 e6 t38 Q h := by kernel_rfl
theorem law17_QuotaWithin_J11101_of {xl0 : Option Addr} {xl0n : Nat} {xl0c : Nat} {script1 : Option Addr} {script1n : Nat} {script1c : Nat} {b5 : Option Addr} {e6 : Int} {t38 : Bool} {Q : Value → Heap → Prop} {h : Heap} (H : law17_QuotaWithin_J11101_txt xl0 xl0n xl0c script1 script1n script1c b5 e6 t38 Q h) : law17_QuotaWithin_J11101 xl0 xl0n xl0c script1 script1n script1c b5 e6 t38 Q h := by
   unfold law17_QuotaWithin_J11101; refine Jn.of_ev (x := subA law17_QuotaWithin_ann [1, 1, 1, 0, 1]) ?_; exact (law17_QuotaWithin_J11101_eq xl0 xl0n xl0c script1 script1n script1c b5 e6 t38 Q h).symm ▸ H
@[reducible] def law17_QuotaWithin_L11111010_txt (xl0 : Option Addr) (xl0n : Nat) (xl0c : Nat) (script1 : Option Addr) (script1n : Nat) (script1c : Nat) (b5 : Option Addr) (owner7 : Option Nat) (i8 : Int) (K : Ex → Fr → Heap → Prop) (h : Heap) : Prop :=
 let t52 : Bool := decide (i8 < (script1n : Int))
 br t52 (
 hwp PP (Instr.indexAt T_sl_haversacklaw17_Op (.slice script1 script1n script1c) (.int .i64 i8)) (fun v h1 => ∃ (t57 : Addr), v = (.pointer (some t57)) ∧
 ∃ (t58f0 : Int) (t58f1 : ByteArray) (t58f2 : Int) (t58f3 : Int) (t58f4 : Int), rdCells h1 t57 0 [(.int .i64 t58f0), (.string t58f1), (.int .i64 t58f2), (.int .i64 t58f3), (.int .i64 t58f4)] ∧
 let o9 : Addr := ⟨Array.size h1, 0, none⟩
 let h2 : Heap := Array.push h1 (.cells #[(.int .i64 0), (.string (⟨#[]⟩ : ByteArray)), (.int .i64 0), (.int .i64 0), (.int .i64 0)] T_haversacklaw17_Op (0, 0))
 wrCells o9 0 [(.int .i64 t58f0), (.string t58f1), (.int .i64 t58f2), (.int .i64 t58f3), (.int .i64 t58f4)] (fun h3 =>
 hwp PP (Instr.makeSlice T_sl_api_Use (.int .i64 (xl0n : Int)) (.int .i64 (xl0n : Int))) (fun v_1 h4 => ∃ (t61 : Option Addr) (t61n : Nat) (t61c : Nat), v_1 = (.slice t61 t61n t61c) ∧
 law17_QuotaWithin_L11111010010011010 xl0 xl0n xl0c script1 script1n script1c b5 owner7 i8 o9 t61 t61n t61c 0 (law17_QuotaWithin_K1111101001001101 K) h4) h3) h2) h) (
 K (.exit 0) (law17_QuotaWithin_X0) h)
theorem law17_QuotaWithin_L11111010_eq (xl0 : Option Addr) (xl0n : Nat) (xl0c : Nat) (script1 : Option Addr) (script1n : Nat) (script1c : Nat) (b5 : Option Addr) (owner7 : Option Nat) (i8 : Int) (K : Ex → Fr → Heap → Prop) (h : Heap) : ev PP true none (sub (bodyOf Try.f4) [1, 1, 1, 1, 1, 0, 1, 0, 0]) (subA law17_QuotaWithin_ann [1, 1, 1, 1, 1, 0, 1, 0, 0]) (mkFr 0 184 [(0, (.slice xl0 xl0n xl0c)), (1, (.slice script1 script1n script1c)), (5, (.pointer b5)), (7, (.map owner7)), (8, (.int .i64 i8))]) (seqK (fun fr h => Lp PP true (sub (bodyOf Try.f4) [1, 1, 1, 1, 1, 0, 1, 0, 0]) (fr.mask 419) K h) K) h = law17_QuotaWithin_L11111010_txt xl0 xl0n xl0c script1 script1n script1c b5 owner7 i8 K h := by kernel_rfl
theorem law17_QuotaWithin_L11111010_of {xl0 : Option Addr} {xl0n : Nat} {xl0c : Nat} {script1 : Option Addr} {script1n : Nat} {script1c : Nat} {b5 : Option Addr} {owner7 : Option Nat} {i8 : Int} {K : Ex → Fr → Heap → Prop} {h : Heap} (H : law17_QuotaWithin_L11111010_txt xl0 xl0n xl0c script1 script1n script1c b5 owner7 i8 K h) : law17_QuotaWithin_L11111010 xl0 xl0n xl0c script1 script1n script1c b5 owner7 i8 K h := by
   unfold law17_QuotaWithin_L11111010; refine Lp.of_ev (x := subA law17_QuotaWithin_ann [1, 1, 1, 1, 1, 0, 1, 0, 0]) (keep := 419) ?_; exact (law17_QuotaWithin_L11111010_eq xl0 xl0n xl0c script1 script1n script1c b5 owner7 i8 K h).symm ▸ H
theorem law17_QuotaWithin_at11111010_X0 (Q : Value → Heap → Prop)  (h : Heap) : (law17_QuotaWithin_K1111101 Q) (.exit 0) (law17_QuotaWithin_X0 ) h = (
 SpecH PP F_law17_awake [] h (fun v h1 => ∃ (t183 : Bool), v = (.bool t183) ∧
 Q (.bool t183) h1)) := by kernel_rfl
@[reducible] def law17_QuotaWithin_L11111010010011010_txt (xl0 : Option Addr) (xl0n : Nat) (xl0c : Nat) (script1 : Option Addr) (script1n : Nat) (script1c : Nat) (b5 : Option Addr) (owner7 : Option Nat) (i8 : Int) (o9 : Addr) (before10 : Option Addr) (before10n : Nat) (before10c : Nat) (k11 : Int) (K : Ex → Fr → Heap → Prop) (h : Heap) : Prop :=
 let t65 : Bool := decide (k11 < (xl0n : Int))
 br t65 (
 hwp PP (Instr.indexAt T_sl_api_Tenant (.slice xl0 xl0n xl0c) (.int .i64 k11)) (fun v h1 => ∃ (t72 : Addr), v = (.pointer (some t72)) ∧
 ∃ (t74 : ByteArray), cellH h1 t72 = some (.string t74) ∧
 SpecH PP F_quota_Book_Use [(.pointer b5), (.string t74)] h1 (fun v_1 h2 => ∃ (t75f0 : Int) (t75f1 : Int) (t75_1 : Int), v_1 = (.tuple #[(.agg #[(.int .i64 t75f0), (.int .i64 t75f1)]), (.int .i64 t75_1)]) ∧
 let u12 : Addr := ⟨Array.size h2, 0, none⟩
 let h3 : Heap := Array.push h2 (.cells #[(.int .i64 0), (.int .i64 0)] T_api_Use (0, 0))
 wrCells u12 0 [(.int .i64 t75f0), (.int .i64 t75f1)] (fun h4 =>
 ∃ (t80f0 : Int) (t80f1 : Int), rdCells h4 u12 0 [(.int .i64 t80f0), (.int .i64 t80f1)] ∧
 hwp PP (Instr.indexAt T_sl_api_Use (.slice before10 before10n before10c) (.int .i64 k11)) (fun v_2 h5 => ∃ (t81 : Addr), v_2 = (.pointer (some t81)) ∧
 wrCells t81 0 [(.int .i64 t80f0), (.int .i64 t80f1)] (fun h6 =>
 let t67 : Int := IntKind.i64.wrap (k11 + 1)
 law17_QuotaWithin_L11111010010011010 xl0 xl0n xl0c script1 script1n script1c b5 owner7 i8 o9 before10 before10n before10c t67 K h6) h5) h4) h3)) h) (
 K (.exit 2) (law17_QuotaWithin_X2 xl0 xl0n xl0c script1 script1n script1c b5 owner7 i8 o9 before10 before10n before10c) h)
theorem law17_QuotaWithin_L11111010010011010_eq (xl0 : Option Addr) (xl0n : Nat) (xl0c : Nat) (script1 : Option Addr) (script1n : Nat) (script1c : Nat) (b5 : Option Addr) (owner7 : Option Nat) (i8 : Int) (o9 : Addr) (before10 : Option Addr) (before10n : Nat) (before10c : Nat) (k11 : Int) (K : Ex → Fr → Heap → Prop) (h : Heap) : ev PP true none (sub (bodyOf Try.f4) [1, 1, 1, 1, 1, 0, 1, 0, 0, 1, 0, 0, 1, 1, 0, 1, 0, 0]) (subA law17_QuotaWithin_ann [1, 1, 1, 1, 1, 0, 1, 0, 0, 1, 0, 0, 1, 1, 0, 1, 0, 0]) (mkFr 0 184 [(0, (.slice xl0 xl0n xl0c)), (1, (.slice script1 script1n script1c)), (5, (.pointer b5)), (7, (.map owner7)), (8, (.int .i64 i8)), (9, (.pointer (some o9))), (10, (.slice before10 before10n before10c)), (11, (.int .i64 k11))]) (seqK (fun fr h => Lp PP true (sub (bodyOf Try.f4) [1, 1, 1, 1, 1, 0, 1, 0, 0, 1, 0, 0, 1, 1, 0, 1, 0, 0]) (fr.mask 4003) K h) K) h = law17_QuotaWithin_L11111010010011010_txt xl0 xl0n xl0c script1 script1n script1c b5 owner7 i8 o9 before10 before10n before10c k11 K h := by kernel_rfl
theorem law17_QuotaWithin_L11111010010011010_of {xl0 : Option Addr} {xl0n : Nat} {xl0c : Nat} {script1 : Option Addr} {script1n : Nat} {script1c : Nat} {b5 : Option Addr} {owner7 : Option Nat} {i8 : Int} {o9 : Addr} {before10 : Option Addr} {before10n : Nat} {before10c : Nat} {k11 : Int} {K : Ex → Fr → Heap → Prop} {h : Heap} (H : law17_QuotaWithin_L11111010010011010_txt xl0 xl0n xl0c script1 script1n script1c b5 owner7 i8 o9 before10 before10n before10c k11 K h) : law17_QuotaWithin_L11111010010011010 xl0 xl0n xl0c script1 script1n script1c b5 owner7 i8 o9 before10 before10n before10c k11 K h := by
   unfold law17_QuotaWithin_L11111010010011010; refine Lp.of_ev (x := subA law17_QuotaWithin_ann [1, 1, 1, 1, 1, 0, 1, 0, 0, 1, 0, 0, 1, 1, 0, 1, 0, 0]) (keep := 4003) ?_; exact (law17_QuotaWithin_L11111010010011010_eq xl0 xl0n xl0c script1 script1n script1c b5 owner7 i8 o9 before10 before10n before10c k11 K h).symm ▸ H
theorem law17_QuotaWithin_at11111010010011010_X2 (K : Ex → Fr → Heap → Prop) (xl0 : Option Addr) (xl0n : Nat) (xl0c : Nat) (script1 : Option Addr) (script1n : Nat) (script1c : Nat) (b5 : Option Addr) (owner7 : Option Nat) (i8 : Int) (o9 : Addr) (before10 : Option Addr) (before10n : Nat) (before10c : Nat) (h : Heap) : (law17_QuotaWithin_K1111101001001101 K) (.exit 2) (law17_QuotaWithin_X2 xl0 xl0n xl0c script1 script1n script1c b5 owner7 i8 o9 before10 before10n before10c) h = (
 ∃ (t83 : Int), cellH h o9 = some (.int .i64 t83) ∧
 let t85 : Bool := (t83 == 4)
 br t85 (
 ∃ (t89 : ByteArray), cellH h (Addr.add o9 1) = some (.string t89) ∧
 ∃ (t91f0 : Int) (t91f1 : Int), rdCells h (Addr.add o9 2) 0 [(.int .i64 t91f0), (.int .i64 t91f1)] ∧
 SpecH PP F_quota_Book_Reserve [(.pointer b5), (.string t89), (.agg #[(.int .i64 t91f0), (.int .i64 t91f1)])] h (fun v h1 => ∃ (t92 : Int) (t92_1 : Int), v = (.tuple #[(.int .i64 t92), (.int .i64 t92_1)]) ∧
 let t96 : Bool := (t92_1 == 0)
 br t96 (
 ∃ (t100 : ByteArray), cellH h1 (Addr.add o9 1) = some (.string t100) ∧
 hwp PP (Instr.mapUpdate T_map_int_string (.map owner7) (.int .i64 t92) (.string t100)) (fun _ h2 =>
 law17_QuotaWithin_J11111010010011111 xl0 xl0n xl0c script1 script1n script1c b5 owner7 i8 before10 before10n before10c (⟨#[]⟩ : ByteArray) K h2) h1) (
 law17_QuotaWithin_J11111010010011111 xl0 xl0n xl0c script1 script1n script1c b5 owner7 i8 before10 before10n before10c (⟨#[]⟩ : ByteArray) K h1))) (
 let t102 : Bool := (t83 == 5)
 br t102 (
 ∃ (t105 : Int), cellH h (Addr.add o9 4) = some (.int .i64 t105) ∧
 SpecH PP F_quota_Book_Take [(.pointer b5), (.int .i64 t105)] h (fun v_1 h3 => ∃ (t106 : Int), v_1 = (.int .i64 t106) ∧
 let t107 : Bool := (t106 == 0)
 br t107 (
 ∃ (t110 : Int), cellH h3 (Addr.add o9 4) = some (.int .i64 t110) ∧
 hwp PP (Instr.lookup T_map_int_string (.map owner7) (.int .i64 t110) false) (fun v_2 h4 => ∃ (t111 : ByteArray), v_2 = (.string t111) ∧
 law17_QuotaWithin_J11111010010011111 xl0 xl0n xl0c script1 script1n script1c b5 owner7 i8 before10 before10n before10c t111 K h4) h3) (
 law17_QuotaWithin_J11111010010011111 xl0 xl0n xl0c script1 script1n script1c b5 owner7 i8 before10 before10n before10c (⟨#[]⟩ : ByteArray) K h3))) (
 let t113 : Bool := (t83 == 6)
 br t113 (
 ∃ (t116 : Int), cellH h (Addr.add o9 4) = some (.int .i64 t116) ∧
 SpecH PP F_quota_Book_Free [(.pointer b5), (.int .i64 t116)] h (fun v_3 h5 => ∃ (t117 : Int), v_3 = (.int .i64 t117) ∧
 law17_QuotaWithin_J11111010010011111 xl0 xl0n xl0c script1 script1n script1c b5 owner7 i8 before10 before10n before10c (⟨#[]⟩ : ByteArray) K h5)) (
 law17_QuotaWithin_J11111010010011111 xl0 xl0n xl0c script1 script1n script1c b5 owner7 i8 before10 before10n before10c (⟨#[]⟩ : ByteArray) K h)))) := by kernel_rfl
@[reducible] def law17_QuotaWithin_J11111010010011111_txt (xl0 : Option Addr) (xl0n : Nat) (xl0c : Nat) (script1 : Option Addr) (script1n : Nat) (script1c : Nat) (b5 : Option Addr) (owner7 : Option Nat) (i8 : Int) (before10 : Option Addr) (before10n : Nat) (before10c : Nat) (who14 : ByteArray) (K : Ex → Fr → Heap → Prop) (h : Heap) : Prop :=
 law17_QuotaWithin_L1111101001001111110 xl0 xl0n xl0c script1 script1n script1c b5 owner7 i8 before10 before10n before10c who14 0 (law17_QuotaWithin_K111110100100111111 K) h
theorem law17_QuotaWithin_J11111010010011111_eq (xl0 : Option Addr) (xl0n : Nat) (xl0c : Nat) (script1 : Option Addr) (script1n : Nat) (script1c : Nat) (b5 : Option Addr) (owner7 : Option Nat) (i8 : Int) (before10 : Option Addr) (before10n : Nat) (before10c : Nat) (who14 : ByteArray) (K : Ex → Fr → Heap → Prop) (h : Heap) : ev PP true none (sub (bodyOf Try.f4) [1, 1, 1, 1, 1, 0, 1, 0, 0, 1, 0, 0, 1, 1, 1, 1, 1]) (subA law17_QuotaWithin_ann [1, 1, 1, 1, 1, 0, 1, 0, 0, 1, 0, 0, 1, 1, 1, 1, 1]) (mkFr 0 184 [(0, (.slice xl0 xl0n xl0c)), (1, (.slice script1 script1n script1c)), (5, (.pointer b5)), (7, (.map owner7)), (8, (.int .i64 i8)), (10, (.slice before10 before10n before10c)), (14, (.string who14))]) (law17_QuotaWithin_K11111010010 K) h = law17_QuotaWithin_J11111010010011111_txt xl0 xl0n xl0c script1 script1n script1c b5 owner7 i8 before10 before10n before10c who14 K h := by kernel_rfl
theorem law17_QuotaWithin_J11111010010011111_of {xl0 : Option Addr} {xl0n : Nat} {xl0c : Nat} {script1 : Option Addr} {script1n : Nat} {script1c : Nat} {b5 : Option Addr} {owner7 : Option Nat} {i8 : Int} {before10 : Option Addr} {before10n : Nat} {before10c : Nat} {who14 : ByteArray} {K : Ex → Fr → Heap → Prop} {h : Heap} (H : law17_QuotaWithin_J11111010010011111_txt xl0 xl0n xl0c script1 script1n script1c b5 owner7 i8 before10 before10n before10c who14 K h) : law17_QuotaWithin_J11111010010011111 xl0 xl0n xl0c script1 script1n script1c b5 owner7 i8 before10 before10n before10c who14 K h := by
   unfold law17_QuotaWithin_J11111010010011111; refine Jn.of_ev (x := subA law17_QuotaWithin_ann [1, 1, 1, 1, 1, 0, 1, 0, 0, 1, 0, 0, 1, 1, 1, 1, 1]) ?_; exact (law17_QuotaWithin_J11111010010011111_eq xl0 xl0n xl0c script1 script1n script1c b5 owner7 i8 before10 before10n before10c who14 K h).symm ▸ H
@[reducible] def law17_QuotaWithin_L1111101001001111110_txt (xl0 : Option Addr) (xl0n : Nat) (xl0c : Nat) (script1 : Option Addr) (script1n : Nat) (script1c : Nat) (b5 : Option Addr) (owner7 : Option Nat) (i8 : Int) (before10 : Option Addr) (before10n : Nat) (before10c : Nat) (who14 : ByteArray) (k17 : Int) (K : Ex → Fr → Heap → Prop) (h : Heap) : Prop :=
 let t121 : Bool := decide (k17 < (xl0n : Int))
 br t121 (
 hwp PP (Instr.indexAt T_sl_api_Tenant (.slice xl0 xl0n xl0c) (.int .i64 k17)) (fun v h1 => ∃ (t128 : Addr), v = (.pointer (some t128)) ∧
 ∃ (t130 : ByteArray), cellH h1 t128 = some (.string t130) ∧
 SpecH PP F_quota_Book_Use [(.pointer b5), (.string t130)] h1 (fun v_1 h2 => ∃ (t131f0 : Int) (t131f1 : Int) (t131_1 : Int), v_1 = (.tuple #[(.agg #[(.int .i64 t131f0), (.int .i64 t131f1)]), (.int .i64 t131_1)]) ∧
 let u18 : Addr := ⟨Array.size h2, 0, none⟩
 let h3 : Heap := Array.push h2 (.cells #[(.int .i64 0), (.int .i64 0)] T_api_Use (0, 0))
 wrCells u18 0 [(.int .i64 t131f0), (.int .i64 t131f1)] (fun h4 =>
 let t135 : Bool := (t131_1 != 0)
 br t135 (
 law17_QuotaWithin_J1111101001001111110010011 xl0 xl0n xl0c script1 script1n script1c b5 owner7 i8 before10 before10n before10c who14 k17 true K h4) (
 ∃ (t138 : Int), cellH h4 u18 = some (.int .i64 t138) ∧
 let t139 : Bool := decide (t138 < 0)
 br t139 (
 law17_QuotaWithin_J1111101001001111110010011 xl0 xl0n xl0c script1 script1n script1c b5 owner7 i8 before10 before10n before10c who14 k17 true K h4) (
 ∃ (t143 : Int), cellH h4 (Addr.add u18 1) = some (.int .i64 t143) ∧
 let t144 : Bool := decide (t143 < 0)
 br t144 (
 law17_QuotaWithin_J1111101001001111110010011 xl0 xl0n xl0c script1 script1n script1c b5 owner7 i8 before10 before10n before10c who14 k17 true K h4) (
 ∃ (t148 : Int), cellH h4 u18 = some (.int .i64 t148) ∧
 hwp PP (Instr.indexAt T_sl_api_Tenant (.slice xl0 xl0n xl0c) (.int .i64 k17)) (fun v_2 h5 => ∃ (t151 : Addr), v_2 = (.pointer (some t151)) ∧
 ∃ (t153 : Int), cellH h5 (Addr.add t151 2) = some (.int .i64 t153) ∧
 let t154 : Bool := decide (t148 > t153)
 br t154 (
 law17_QuotaWithin_J1111101001001111110010011 xl0 xl0n xl0c script1 script1n script1c b5 owner7 i8 before10 before10n before10c who14 k17 true K h5) (
 ∃ (t158 : Int), cellH h5 (Addr.add u18 1) = some (.int .i64 t158) ∧
 hwp PP (Instr.indexAt T_sl_api_Tenant (.slice xl0 xl0n xl0c) (.int .i64 k17)) (fun v_3 h6 => ∃ (t161 : Addr), v_3 = (.pointer (some t161)) ∧
 ∃ (t163 : Int), cellH h6 (Addr.add t161 3) = some (.int .i64 t163) ∧
 let t164 : Bool := decide (t158 > t163)
 br t164 (
 law17_QuotaWithin_J1111101001001111110010011 xl0 xl0n xl0c script1 script1n script1c b5 owner7 i8 before10 before10n before10c who14 k17 true K h6) (
 hwp PP (Instr.indexAt T_sl_api_Tenant (.slice xl0 xl0n xl0c) (.int .i64 k17)) (fun v_4 h7 => ∃ (t169 : Addr), v_4 = (.pointer (some t169)) ∧
 ∃ (t171 : ByteArray), cellH h7 t169 = some (.string t171) ∧
 let t173 : Bool := (!decide (t171 = who14))
 br t173 (
 ∃ (t175f0 : Int) (t175f1 : Int), rdCells h7 u18 0 [(.int .i64 t175f0), (.int .i64 t175f1)] ∧
 hwp PP (Instr.indexAt T_sl_api_Use (.slice before10 before10n before10c) (.int .i64 k17)) (fun v_5 h8 => ∃ (t178 : Addr), v_5 = (.pointer (some t178)) ∧
 ∃ (t179f0 : Int) (t179f1 : Int), rdCells h8 t178 0 [(.int .i64 t179f0), (.int .i64 t179f1)] ∧
 let t180 : Bool := (!((t175f0 == t179f0) && ((t175f1 == t179f1) && true)))
 law17_QuotaWithin_J1111101001001111110010011 xl0 xl0n xl0c script1 script1n script1c b5 owner7 i8 before10 before10n before10c who14 k17 t180 K h8) h7) (
 law17_QuotaWithin_J1111101001001111110010011 xl0 xl0n xl0c script1 script1n script1c b5 owner7 i8 before10 before10n before10c who14 k17 false K h7)) h6)) h5)) h4)))) h3)) h) (
 K (.exit 5) (law17_QuotaWithin_X5 xl0 xl0n xl0c script1 script1n script1c b5 owner7 i8) h)
theorem law17_QuotaWithin_L1111101001001111110_eq (xl0 : Option Addr) (xl0n : Nat) (xl0c : Nat) (script1 : Option Addr) (script1n : Nat) (script1c : Nat) (b5 : Option Addr) (owner7 : Option Nat) (i8 : Int) (before10 : Option Addr) (before10n : Nat) (before10c : Nat) (who14 : ByteArray) (k17 : Int) (K : Ex → Fr → Heap → Prop) (h : Heap) : ev PP true none (sub (bodyOf Try.f4) [1, 1, 1, 1, 1, 0, 1, 0, 0, 1, 0, 0, 1, 1, 1, 1, 1, 1, 0, 0]) (subA law17_QuotaWithin_ann [1, 1, 1, 1, 1, 0, 1, 0, 0, 1, 0, 0, 1, 1, 1, 1, 1, 1, 0, 0]) (mkFr 0 184 [(0, (.slice xl0 xl0n xl0c)), (1, (.slice script1 script1n script1c)), (5, (.pointer b5)), (7, (.map owner7)), (8, (.int .i64 i8)), (10, (.slice before10 before10n before10c)), (14, (.string who14)), (17, (.int .i64 k17))]) (seqK (fun fr h => Lp PP true (sub (bodyOf Try.f4) [1, 1, 1, 1, 1, 0, 1, 0, 0, 1, 0, 0, 1, 1, 1, 1, 1, 1, 0, 0]) (fr.mask 148899) K h) K) h = law17_QuotaWithin_L1111101001001111110_txt xl0 xl0n xl0c script1 script1n script1c b5 owner7 i8 before10 before10n before10c who14 k17 K h := by kernel_rfl
theorem law17_QuotaWithin_L1111101001001111110_of {xl0 : Option Addr} {xl0n : Nat} {xl0c : Nat} {script1 : Option Addr} {script1n : Nat} {script1c : Nat} {b5 : Option Addr} {owner7 : Option Nat} {i8 : Int} {before10 : Option Addr} {before10n : Nat} {before10c : Nat} {who14 : ByteArray} {k17 : Int} {K : Ex → Fr → Heap → Prop} {h : Heap} (H : law17_QuotaWithin_L1111101001001111110_txt xl0 xl0n xl0c script1 script1n script1c b5 owner7 i8 before10 before10n before10c who14 k17 K h) : law17_QuotaWithin_L1111101001001111110 xl0 xl0n xl0c script1 script1n script1c b5 owner7 i8 before10 before10n before10c who14 k17 K h := by
   unfold law17_QuotaWithin_L1111101001001111110; refine Lp.of_ev (x := subA law17_QuotaWithin_ann [1, 1, 1, 1, 1, 0, 1, 0, 0, 1, 0, 0, 1, 1, 1, 1, 1, 1, 0, 0]) (keep := 148899) ?_; exact (law17_QuotaWithin_L1111101001001111110_eq xl0 xl0n xl0c script1 script1n script1c b5 owner7 i8 before10 before10n before10c who14 k17 K h).symm ▸ H
theorem law17_QuotaWithin_at1111101001001111110_X5 (K : Ex → Fr → Heap → Prop) (xl0 : Option Addr) (xl0n : Nat) (xl0c : Nat) (script1 : Option Addr) (script1n : Nat) (script1c : Nat) (b5 : Option Addr) (owner7 : Option Nat) (i8 : Int) (h : Heap) : (law17_QuotaWithin_K111110100100111111 K) (.exit 5) (law17_QuotaWithin_X5 xl0 xl0n xl0c script1 script1n script1c b5 owner7 i8) h = (
 let t54 : Int := IntKind.i64.wrap (i8 + 1)
 law17_QuotaWithin_L11111010 xl0 xl0n xl0c script1 script1n script1c b5 owner7 t54 K h) := by kernel_rfl
@[reducible] def law17_QuotaWithin_J1111101001001111110010011_txt (xl0 : Option Addr) (xl0n : Nat) (xl0c : Nat) (script1 : Option Addr) (script1n : Nat) (script1c : Nat) (b5 : Option Addr) (owner7 : Option Nat) (i8 : Int) (before10 : Option Addr) (before10n : Nat) (before10c : Nat) (who14 : ByteArray) (k17 : Int) (t182 : Bool) (K : Ex → Fr → Heap → Prop) (h : Heap) : Prop :=
 br t182 (
 K .ret (law17_QuotaWithin_Xret false) h) (
 let t123 : Int := IntKind.i64.wrap (k17 + 1)
 law17_QuotaWithin_L1111101001001111110 xl0 xl0n xl0c script1 script1n script1c b5 owner7 i8 before10 before10n before10c who14 t123 K h)
theorem law17_QuotaWithin_J1111101001001111110010011_eq (xl0 : Option Addr) (xl0n : Nat) (xl0c : Nat) (script1 : Option Addr) (script1n : Nat) (script1c : Nat) (b5 : Option Addr) (owner7 : Option Nat) (i8 : Int) (before10 : Option Addr) (before10n : Nat) (before10c : Nat) (who14 : ByteArray) (k17 : Int) (t182 : Bool) (K : Ex → Fr → Heap → Prop) (h : Heap) : ev PP true none (sub (bodyOf Try.f4) [1, 1, 1, 1, 1, 0, 1, 0, 0, 1, 0, 0, 1, 1, 1, 1, 1, 1, 0, 0, 1, 0, 0, 1, 1]) (subA law17_QuotaWithin_ann [1, 1, 1, 1, 1, 0, 1, 0, 0, 1, 0, 0, 1, 1, 1, 1, 1, 1, 0, 0, 1, 0, 0, 1, 1]) (mkFr 0 184 [(0, (.slice xl0 xl0n xl0c)), (1, (.slice script1 script1n script1c)), (5, (.pointer b5)), (7, (.map owner7)), (8, (.int .i64 i8)), (10, (.slice before10 before10n before10c)), (14, (.string who14)), (17, (.int .i64 k17)), (182, (.bool t182))]) (law17_QuotaWithin_K1111101001001111110010 K) h = law17_QuotaWithin_J1111101001001111110010011_txt xl0 xl0n xl0c script1 script1n script1c b5 owner7 i8 before10 before10n before10c who14 k17 t182 K h := by kernel_rfl
theorem law17_QuotaWithin_J1111101001001111110010011_of {xl0 : Option Addr} {xl0n : Nat} {xl0c : Nat} {script1 : Option Addr} {script1n : Nat} {script1c : Nat} {b5 : Option Addr} {owner7 : Option Nat} {i8 : Int} {before10 : Option Addr} {before10n : Nat} {before10c : Nat} {who14 : ByteArray} {k17 : Int} {t182 : Bool} {K : Ex → Fr → Heap → Prop} {h : Heap} (H : law17_QuotaWithin_J1111101001001111110010011_txt xl0 xl0n xl0c script1 script1n script1c b5 owner7 i8 before10 before10n before10c who14 k17 t182 K h) : law17_QuotaWithin_J1111101001001111110010011 xl0 xl0n xl0c script1 script1n script1c b5 owner7 i8 before10 before10n before10c who14 k17 t182 K h := by
   unfold law17_QuotaWithin_J1111101001001111110010011; refine Jn.of_ev (x := subA law17_QuotaWithin_ann [1, 1, 1, 1, 1, 0, 1, 0, 0, 1, 0, 0, 1, 1, 1, 1, 1, 1, 0, 0, 1, 0, 0, 1, 1]) ?_; exact (law17_QuotaWithin_J1111101001001111110010011_eq xl0 xl0n xl0c script1 script1n script1c b5 owner7 i8 before10 before10n before10c who14 k17 t182 K h).symm ▸ H
theorem law17_QuotaWithin_at11111010_Xret (Q : Value → Heap → Prop) (t4 : Bool) (h : Heap) : (law17_QuotaWithin_K1111101 Q) .ret (law17_QuotaWithin_Xret t4) h = (
 Q (.bool t4) h) := by kernel_rfl
theorem law17_QuotaWithin_at1111101001001111110_Xret (K : Ex → Fr → Heap → Prop) (t4 : Bool) (h : Heap) : (law17_QuotaWithin_K111110100100111111 K) .ret (law17_QuotaWithin_Xret t4) h = (
 K .ret (law17_QuotaWithin_Xret t4) h) := by kernel_rfl
def law17_QuotaWithin_main (xl0 : Option Addr) (xl0n : Nat) (xl0c : Nat) (script1 : Option Addr) (script1n : Nat) (script1c : Nat) (Q : Value → Heap → Prop) (h : Heap) : Prop :=
 let t22 : Bool := decide ((xl0n : Int) > 1000)
 br t22 (
 law17_QuotaWithin_J101 xl0 xl0n xl0c script1 script1n script1c true Q h) (
 let t26 : Bool := decide ((script1n : Int) > 1000)
 law17_QuotaWithin_J101 xl0 xl0n xl0c script1 script1n script1c t26 Q h)
theorem law17_QuotaWithin_eq (xl0 : Option Addr) (xl0n : Nat) (xl0c : Nat) (script1 : Option Addr) (script1n : Nat) (script1c : Nat) (Q : Value → Heap → Prop) (h : Heap) : ev PP true none (bodyOf Try.f4) law17_QuotaWithin_ann (initFr 184 [(.slice xl0 xl0n xl0c), (.slice script1 script1n script1c)]) (bodyK PP Try.f4 Q) h = law17_QuotaWithin_main xl0 xl0n xl0c script1 script1n script1c Q h := by kernel_rfl
theorem law17_QuotaWithin_door {xl0 : Option Addr} {xl0n : Nat} {xl0c : Nat} {script1 : Option Addr} {script1n : Nat} {script1c : Nat} {Q : Value → Heap → Prop} {h : Heap} (H : law17_QuotaWithin_main xl0 xl0n xl0c script1 script1n script1c Q h) : SpecH PP F_law17_QuotaWithin [(.slice xl0 xl0n xl0c), (.slice script1 script1n script1c)] h Q :=
   spec_of_ev Try.func4 rfl rfl ((law17_QuotaWithin_eq xl0 xl0n xl0c script1 script1n script1c Q h).symm ▸ H)
/-! ### haversack/haversacklaw17.QuotaRuns: function 5 -/
def law17_QuotaRuns_ann : Ann := (.seq 3 (.region [(List.range 1, 3)]) (.seq 3 (.seq 4194307 (.region [(List.range 13, 4194307)]) (.join (.cond (.seq 16 (.region [(List.range 2, 16)]) (.exit 16)) .leaf))) (.seq 99 (.region [(List.range 7, 99)]) (.seq 35 (.seq 17179869219 (.region [(List.range 6, 17179869219)]) (.join (.cond (.seq 16 (.region [(List.range 1, 16)]) (.exit 16)) .leaf))) (.seq 163 (.region [(List.range 3, 163)]) (.seq 0 (.seq 419 (.region [(List.range 1, 419)]) (.block (.loop 419 (.seq 419 (.seq 1099511628195 (.region [(List.range 4, 1099511628195)]) (.cond .leaf (.exit 0))) (.seq 419 (.block (.seq 419 (.seq 1125899906843043 (.region [(List.range 8, 1125899906843043)]) (.cond (.seq 16 (.region [(List.range 1, 16)]) (.exit 16)) .leaf)) (.seq 931 (.region [(List.range 1, 931)]) (.block (.loop 931 (.seq 931 (.seq 18014398509482915 (.region [(List.range 4, 18014398509482915)]) (.cond .leaf (.exit 419))) (.seq 931 (.block (.seq 302231454903657293677475 (.region [(List.range 22, 302231454903657293677475)]) (.join (.cond (.seq 16 (.region [(List.range 1, 16)]) (.exit 16)) .leaf)))) (.region [(List.range 3, 931)])))))))) (.region [(List.range 3, 419)])))))) (.seq 16 (.region [(List.range 2, 16)]) (.exit 16))))))))
@[irreducible] def law17_QuotaRuns_Xret (t4 : Bool) : Fr := (mkFr 0 80 [(4, (.bool t4))])
@[irreducible] def law17_QuotaRuns_X0  : Fr := (mkFr 0 80 [])
@[irreducible] def law17_QuotaRuns_X2 (xl0 : Option Addr) (xl0n : Nat) (xl0c : Nat) (script1 : Option Addr) (script1n : Nat) (script1c : Nat) (b5 : Option Addr) (r7 : Option Addr) (i8 : Int) : Fr := (mkFr 0 80 [(0, (.slice xl0 xl0n xl0c)), (1, (.slice script1 script1n script1c)), (5, (.pointer b5)), (7, (.pointer r7)), (8, (.int .i64 i8))])
@[irreducible] def law17_QuotaRuns_K1 (Q : Value → Heap → Prop) : Ex → Fr → Heap → Prop := seqK (fun fr h => ev PP true none (sub (bodyOf Try.f5) [1, 1]) (subA law17_QuotaRuns_ann [1, 1]) (fr.mask 3) (bodyK PP Try.f5 Q) h) (bodyK PP Try.f5 Q)
@[irreducible] def law17_QuotaRuns_J101 (xl0 : Option Addr) (xl0n : Nat) (xl0c : Nat) (script1 : Option Addr) (script1n : Nat) (script1c : Nat) (t22 : Bool) (Q : Value → Heap → Prop) (h : Heap) : Prop := Jn PP true (sub (bodyOf Try.f5) [1, 0, 1]) (mkFr 0 80 [(0, (.slice xl0 xl0n xl0c)), (1, (.slice script1 script1n script1c)), (22, (.bool t22))]) (law17_QuotaRuns_K1 Q) h
@[irreducible] def law17_QuotaRuns_K111 (Q : Value → Heap → Prop) : Ex → Fr → Heap → Prop := seqK (fun fr h => ev PP true none (sub (bodyOf Try.f5) [1, 1, 1, 1]) (subA law17_QuotaRuns_ann [1, 1, 1, 1]) (fr.mask 35) (bodyK PP Try.f5 Q) h) (bodyK PP Try.f5 Q)
@[irreducible] def law17_QuotaRuns_J11101 (xl0 : Option Addr) (xl0n : Nat) (xl0c : Nat) (script1 : Option Addr) (script1n : Nat) (script1c : Nat) (b5 : Option Addr) (t34 : Bool) (Q : Value → Heap → Prop) (h : Heap) : Prop := Jn PP true (sub (bodyOf Try.f5) [1, 1, 1, 0, 1]) (mkFr 0 80 [(0, (.slice xl0 xl0n xl0c)), (1, (.slice script1 script1n script1c)), (5, (.pointer b5)), (34, (.bool t34))]) (law17_QuotaRuns_K111 Q) h
@[irreducible] def law17_QuotaRuns_K11111 (Q : Value → Heap → Prop) : Ex → Fr → Heap → Prop := seqK (fun fr h => ev PP true none (sub (bodyOf Try.f5) [1, 1, 1, 1, 1, 1]) (subA law17_QuotaRuns_ann [1, 1, 1, 1, 1, 1]) (fr.mask 0) (bodyK PP Try.f5 Q) h) (bodyK PP Try.f5 Q)
@[irreducible] def law17_QuotaRuns_K1111101 (Q : Value → Heap → Prop) : Ex → Fr → Heap → Prop := blockK 0 (law17_QuotaRuns_K11111 Q)
@[irreducible] def law17_QuotaRuns_L11111010 (xl0 : Option Addr) (xl0n : Nat) (xl0c : Nat) (script1 : Option Addr) (script1n : Nat) (script1c : Nat) (b5 : Option Addr) (r7 : Option Addr) (i8 : Int) (K : Ex → Fr → Heap → Prop) (h : Heap) : Prop := Lp PP true (sub (bodyOf Try.f5) [1, 1, 1, 1, 1, 0, 1, 0, 0]) (mkFr 0 80 [(0, (.slice xl0 xl0n xl0c)), (1, (.slice script1 script1n script1c)), (5, (.pointer b5)), (7, (.pointer r7)), (8, (.int .i64 i8))]) K h
@[irreducible] def law17_QuotaRuns_B11111010 (K : Ex → Fr → Heap → Prop) : Ex → Fr → Heap → Prop := seqK (fun fr h => Lp PP true (sub (bodyOf Try.f5) [1, 1, 1, 1, 1, 0, 1, 0, 0]) (fr.mask 419) K h) K
@[irreducible] def law17_QuotaRuns_K1111101001 (K : Ex → Fr → Heap → Prop) : Ex → Fr → Heap → Prop := seqK (fun fr h => ev PP true none (sub (bodyOf Try.f5) [1, 1, 1, 1, 1, 0, 1, 0, 0, 1, 1]) (subA law17_QuotaRuns_ann [1, 1, 1, 1, 1, 0, 1, 0, 0, 1, 1]) (fr.mask 419) (law17_QuotaRuns_B11111010 K) h) (law17_QuotaRuns_B11111010 K)
@[irreducible] def law17_QuotaRuns_K11111010010 (K : Ex → Fr → Heap → Prop) : Ex → Fr → Heap → Prop := blockK 1 (law17_QuotaRuns_K1111101001 K)
@[irreducible] def law17_QuotaRuns_K11111010010011 (K : Ex → Fr → Heap → Prop) : Ex → Fr → Heap → Prop := blockK 2 (law17_QuotaRuns_K11111010010 K)
@[irreducible] def law17_QuotaRuns_L111110100100110 (xl0 : Option Addr) (xl0n : Nat) (xl0c : Nat) (script1 : Option Addr) (script1n : Nat) (script1c : Nat) (b5 : Option Addr) (r7 : Option Addr) (i8 : Int) (k9 : Int) (K : Ex → Fr → Heap → Prop) (h : Heap) : Prop := Lp PP true (sub (bodyOf Try.f5) [1, 1, 1, 1, 1, 0, 1, 0, 0, 1, 0, 0, 1, 1, 0, 0]) (mkFr 0 80 [(0, (.slice xl0 xl0n xl0c)), (1, (.slice script1 script1n script1c)), (5, (.pointer b5)), (7, (.pointer r7)), (8, (.int .i64 i8)), (9, (.int .i64 k9))]) K h
@[irreducible] def law17_QuotaRuns_B111110100100110 (K : Ex → Fr → Heap → Prop) : Ex → Fr → Heap → Prop := seqK (fun fr h => Lp PP true (sub (bodyOf Try.f5) [1, 1, 1, 1, 1, 0, 1, 0, 0, 1, 0, 0, 1, 1, 0, 0]) (fr.mask 931) K h) K
@[irreducible] def law17_QuotaRuns_K11111010010011001 (K : Ex → Fr → Heap → Prop) : Ex → Fr → Heap → Prop := seqK (fun fr h => ev PP true none (sub (bodyOf Try.f5) [1, 1, 1, 1, 1, 0, 1, 0, 0, 1, 0, 0, 1, 1, 0, 0, 1, 1]) (subA law17_QuotaRuns_ann [1, 1, 1, 1, 1, 0, 1, 0, 0, 1, 0, 0, 1, 1, 0, 0, 1, 1]) (fr.mask 931) (law17_QuotaRuns_B111110100100110 K) h) (law17_QuotaRuns_B111110100100110 K)
@[irreducible] def law17_QuotaRuns_K111110100100110010 (K : Ex → Fr → Heap → Prop) : Ex → Fr → Heap → Prop := blockK 3 (law17_QuotaRuns_K11111010010011001 K)
@[irreducible] def law17_QuotaRuns_J11111010010011001001 (xl0 : Option Addr) (xl0n : Nat) (xl0c : Nat) (script1 : Option Addr) (script1n : Nat) (script1c : Nat) (b5 : Option Addr) (r7 : Option Addr) (i8 : Int) (k9 : Int) (t78 : Bool) (K : Ex → Fr → Heap → Prop) (h : Heap) : Prop := Jn PP true (sub (bodyOf Try.f5) [1, 1, 1, 1, 1, 0, 1, 0, 0, 1, 0, 0, 1, 1, 0, 0, 1, 0, 0, 1]) (mkFr 0 80 [(0, (.slice xl0 xl0n xl0c)), (1, (.slice script1 script1n script1c)), (5, (.pointer b5)), (7, (.pointer r7)), (8, (.int .i64 i8)), (9, (.int .i64 k9)), (78, (.bool t78))]) (law17_QuotaRuns_K111110100100110010 K) h
@[reducible] def law17_QuotaRuns_J101_txt (xl0 : Option Addr) (xl0n : Nat) (xl0c : Nat) (script1 : Option Addr) (script1n : Nat) (script1c : Nat) (t22 : Bool) (Q : Value → Heap → Prop) (h : Heap) : Prop :=
 br t22 (
 SpecH PP F_law17_awake [] h (fun v h1 => ∃ (t23 : Bool), v = (.bool t23) ∧
 Q (.bool t23) h1)) (
 SpecH PP F_quota_New [(.slice xl0 xl0n xl0c)] h (fun v_1 h2 => ∃ (t26 : Option Addr) (t26_1 : Int), v_1 = (.tuple #[(.pointer t26), (.int .i64 t26_1)]) ∧
 let t30 : Bool := (Option.isNone t26)
 br t30 (
 law17_QuotaRuns_J11101 xl0 xl0n xl0c script1 script1n script1c t26 true Q h2) (
 let t33 : Bool := (t26_1 != 0)
 law17_QuotaRuns_J11101 xl0 xl0n xl0c script1 script1n script1c t26 t33 Q h2)))
theorem law17_QuotaRuns_J101_eq (xl0 : Option Addr) (xl0n : Nat) (xl0c : Nat) (script1 : Option Addr) (script1n : Nat) (script1c : Nat) (t22 : Bool) (Q : Value → Heap → Prop) (h : Heap) : ev PP true none (sub (bodyOf Try.f5) [1, 0, 1]) (subA law17_QuotaRuns_ann [1, 0, 1]) (mkFr 0 80 [(0, (.slice xl0 xl0n xl0c)), (1, (.slice script1 script1n script1c)), (22, (.bool t22))]) (law17_QuotaRuns_K1 Q) h = law17_QuotaRuns_J101_txt xl0 xl0n xl0c script1 script1n script1c t22 Q h := by kernel_rfl
theorem law17_QuotaRuns_J101_of {xl0 : Option Addr} {xl0n : Nat} {xl0c : Nat} {script1 : Option Addr} {script1n : Nat} {script1c : Nat} {t22 : Bool} {Q : Value → Heap → Prop} {h : Heap} (H : law17_QuotaRuns_J101_txt xl0 xl0n xl0c script1 script1n script1c t22 Q h) : law17_QuotaRuns_J101 xl0 xl0n xl0c script1 script1n script1c t22 Q h := by
   unfold law17_QuotaRuns_J101; refine Jn.of_ev (x := subA law17_QuotaRuns_ann [1, 0, 1]) ?_; exact (law17_QuotaRuns_J101_eq xl0 xl0n xl0c script1 script1n script1c t22 Q h).symm ▸ H
@[reducible] def law17_QuotaRuns_J11101_txt (xl0 : Option Addr) (xl0n : Nat) (xl0c : Nat) (script1 : Option Addr) (script1n : Nat) (script1c : Nat) (b5 : Option Addr) (t34 : Bool) (Q : Value → Heap → Prop) (h : Heap) : Prop :=
 br t34 (
 Q (.bool false) h) (
 SpecH PP F_ref17_New [(.slice xl0 xl0n xl0c)] h (fun v h1 => ∃ (t36 : Option Addr), v = (.pointer t36) ∧
 law17_QuotaRuns_L11111010 xl0 xl0n xl0c script1 script1n script1c b5 t36 0 (law17_QuotaRuns_K1111101 Q) h1))
theorem law17_QuotaRuns_J11101_eq (xl0 : Option Addr) (xl0n : Nat) (xl0c : Nat) (script1 : Option Addr) (script1n : Nat) (script1c : Nat) (b5 : Option Addr) (t34 : Bool) (Q : Value → Heap → Prop) (h : Heap) : ev PP true none (sub (bodyOf Try.f5) [1, 1, 1, 0, 1]) (subA law17_QuotaRuns_ann [1, 1, 1, 0, 1]) (mkFr 0 80 [(0, (.slice xl0 xl0n xl0c)), (1, (.slice script1 script1n script1c)), (5, (.pointer b5)), (34, (.bool t34))]) (law17_QuotaRuns_K111 Q) h = law17_QuotaRuns_J11101_txt xl0 xl0n xl0c script1 script1n script1c b5 t34 Q h := by kernel_rfl
theorem law17_QuotaRuns_J11101_of {xl0 : Option Addr} {xl0n : Nat} {xl0c : Nat} {script1 : Option Addr} {script1n : Nat} {script1c : Nat} {b5 : Option Addr} {t34 : Bool} {Q : Value → Heap → Prop} {h : Heap} (H : law17_QuotaRuns_J11101_txt xl0 xl0n xl0c script1 script1n script1c b5 t34 Q h) : law17_QuotaRuns_J11101 xl0 xl0n xl0c script1 script1n script1c b5 t34 Q h := by
   unfold law17_QuotaRuns_J11101; refine Jn.of_ev (x := subA law17_QuotaRuns_ann [1, 1, 1, 0, 1]) ?_; exact (law17_QuotaRuns_J11101_eq xl0 xl0n xl0c script1 script1n script1c b5 t34 Q h).symm ▸ H
@[reducible] def law17_QuotaRuns_L11111010_txt (xl0 : Option Addr) (xl0n : Nat) (xl0c : Nat) (script1 : Option Addr) (script1n : Nat) (script1c : Nat) (b5 : Option Addr) (r7 : Option Addr) (i8 : Int) (K : Ex → Fr → Heap → Prop) (h : Heap) : Prop :=
 let t40 : Bool := decide (i8 < (script1n : Int))
 br t40 (
 hwp PP (Instr.indexAt T_sl_haversacklaw17_Op (.slice script1 script1n script1c) (.int .i64 i8)) (fun v h1 => ∃ (t47 : Addr), v = (.pointer (some t47)) ∧
 ∃ (t48f0 : Int) (t48f1 : ByteArray) (t48f2 : Int) (t48f3 : Int) (t48f4 : Int), rdCells h1 t47 0 [(.int .i64 t48f0), (.string t48f1), (.int .i64 t48f2), (.int .i64 t48f3), (.int .i64 t48f4)] ∧
 SpecH PP F_law17_step [(.pointer b5), (.pointer r7), (.agg #[(.int .i64 t48f0), (.string t48f1), (.int .i64 t48f2), (.int .i64 t48f3), (.int .i64 t48f4)])] h1 (fun v_1 h2 => ∃ (t49 : Bool), v_1 = (.bool t49) ∧
 let t50 : Bool := (!t49)
 br t50 (
 K .ret (law17_QuotaRuns_Xret false) h2) (
 law17_QuotaRuns_L111110100100110 xl0 xl0n xl0c script1 script1n script1c b5 r7 i8 0 (law17_QuotaRuns_K11111010010011 K) h2))) h) (
 K (.exit 0) (law17_QuotaRuns_X0) h)
theorem law17_QuotaRuns_L11111010_eq (xl0 : Option Addr) (xl0n : Nat) (xl0c : Nat) (script1 : Option Addr) (script1n : Nat) (script1c : Nat) (b5 : Option Addr) (r7 : Option Addr) (i8 : Int) (K : Ex → Fr → Heap → Prop) (h : Heap) : ev PP true none (sub (bodyOf Try.f5) [1, 1, 1, 1, 1, 0, 1, 0, 0]) (subA law17_QuotaRuns_ann [1, 1, 1, 1, 1, 0, 1, 0, 0]) (mkFr 0 80 [(0, (.slice xl0 xl0n xl0c)), (1, (.slice script1 script1n script1c)), (5, (.pointer b5)), (7, (.pointer r7)), (8, (.int .i64 i8))]) (seqK (fun fr h => Lp PP true (sub (bodyOf Try.f5) [1, 1, 1, 1, 1, 0, 1, 0, 0]) (fr.mask 419) K h) K) h = law17_QuotaRuns_L11111010_txt xl0 xl0n xl0c script1 script1n script1c b5 r7 i8 K h := by kernel_rfl
theorem law17_QuotaRuns_L11111010_of {xl0 : Option Addr} {xl0n : Nat} {xl0c : Nat} {script1 : Option Addr} {script1n : Nat} {script1c : Nat} {b5 : Option Addr} {r7 : Option Addr} {i8 : Int} {K : Ex → Fr → Heap → Prop} {h : Heap} (H : law17_QuotaRuns_L11111010_txt xl0 xl0n xl0c script1 script1n script1c b5 r7 i8 K h) : law17_QuotaRuns_L11111010 xl0 xl0n xl0c script1 script1n script1c b5 r7 i8 K h := by
   unfold law17_QuotaRuns_L11111010; refine Lp.of_ev (x := subA law17_QuotaRuns_ann [1, 1, 1, 1, 1, 0, 1, 0, 0]) (keep := 419) ?_; exact (law17_QuotaRuns_L11111010_eq xl0 xl0n xl0c script1 script1n script1c b5 r7 i8 K h).symm ▸ H
theorem law17_QuotaRuns_at11111010_Xret (Q : Value → Heap → Prop) (t4 : Bool) (h : Heap) : (law17_QuotaRuns_K1111101 Q) .ret (law17_QuotaRuns_Xret t4) h = (
 Q (.bool t4) h) := by kernel_rfl
theorem law17_QuotaRuns_at11111010_X0 (Q : Value → Heap → Prop)  (h : Heap) : (law17_QuotaRuns_K1111101 Q) (.exit 0) (law17_QuotaRuns_X0 ) h = (
 SpecH PP F_law17_awake [] h (fun v h1 => ∃ (t79 : Bool), v = (.bool t79) ∧
 Q (.bool t79) h1)) := by kernel_rfl
@[reducible] def law17_QuotaRuns_L111110100100110_txt (xl0 : Option Addr) (xl0n : Nat) (xl0c : Nat) (script1 : Option Addr) (script1n : Nat) (script1c : Nat) (b5 : Option Addr) (r7 : Option Addr) (i8 : Int) (k9 : Int) (K : Ex → Fr → Heap → Prop) (h : Heap) : Prop :=
 let t54 : Bool := decide (k9 < (xl0n : Int))
 br t54 (
 hwp PP (Instr.indexAt T_sl_api_Tenant (.slice xl0 xl0n xl0c) (.int .i64 k9)) (fun v h1 => ∃ (t61 : Addr), v = (.pointer (some t61)) ∧
 ∃ (t63 : ByteArray), cellH h1 t61 = some (.string t63) ∧
 SpecH PP F_law17_step [(.pointer b5), (.pointer r7), (.agg #[(.int .i64 2), (.string t63), (.int .i64 0), (.int .i64 0), (.int .i64 0)])] h1 (fun v_1 h2 => ∃ (t65 : Bool), v_1 = (.bool t65) ∧
 let t66 : Bool := (!t65)
 br t66 (
 law17_QuotaRuns_J11111010010011001001 xl0 xl0n xl0c script1 script1n script1c b5 r7 i8 k9 true K h2) (
 hwp PP (Instr.indexAt T_sl_api_Tenant (.slice xl0 xl0n xl0c) (.int .i64 k9)) (fun v_2 h3 => ∃ (t72 : Addr), v_2 = (.pointer (some t72)) ∧
 ∃ (t74 : ByteArray), cellH h3 t72 = some (.string t74) ∧
 SpecH PP F_law17_step [(.pointer b5), (.pointer r7), (.agg #[(.int .i64 3), (.string t74), (.int .i64 0), (.int .i64 0), (.int .i64 0)])] h3 (fun v_3 h4 => ∃ (t76 : Bool), v_3 = (.bool t76) ∧
 let t77 : Bool := (!t76)
 law17_QuotaRuns_J11111010010011001001 xl0 xl0n xl0c script1 script1n script1c b5 r7 i8 k9 t77 K h4)) h2))) h) (
 K (.exit 2) (law17_QuotaRuns_X2 xl0 xl0n xl0c script1 script1n script1c b5 r7 i8) h)
theorem law17_QuotaRuns_L111110100100110_eq (xl0 : Option Addr) (xl0n : Nat) (xl0c : Nat) (script1 : Option Addr) (script1n : Nat) (script1c : Nat) (b5 : Option Addr) (r7 : Option Addr) (i8 : Int) (k9 : Int) (K : Ex → Fr → Heap → Prop) (h : Heap) : ev PP true none (sub (bodyOf Try.f5) [1, 1, 1, 1, 1, 0, 1, 0, 0, 1, 0, 0, 1, 1, 0, 0]) (subA law17_QuotaRuns_ann [1, 1, 1, 1, 1, 0, 1, 0, 0, 1, 0, 0, 1, 1, 0, 0]) (mkFr 0 80 [(0, (.slice xl0 xl0n xl0c)), (1, (.slice script1 script1n script1c)), (5, (.pointer b5)), (7, (.pointer r7)), (8, (.int .i64 i8)), (9, (.int .i64 k9))]) (seqK (fun fr h => Lp PP true (sub (bodyOf Try.f5) [1, 1, 1, 1, 1, 0, 1, 0, 0, 1, 0, 0, 1, 1, 0, 0]) (fr.mask 931) K h) K) h = law17_QuotaRuns_L111110100100110_txt xl0 xl0n xl0c script1 script1n script1c b5 r7 i8 k9 K h := by kernel_rfl
theorem law17_QuotaRuns_L111110100100110_of {xl0 : Option Addr} {xl0n : Nat} {xl0c : Nat} {script1 : Option Addr} {script1n : Nat} {script1c : Nat} {b5 : Option Addr} {r7 : Option Addr} {i8 : Int} {k9 : Int} {K : Ex → Fr → Heap → Prop} {h : Heap} (H : law17_QuotaRuns_L111110100100110_txt xl0 xl0n xl0c script1 script1n script1c b5 r7 i8 k9 K h) : law17_QuotaRuns_L111110100100110 xl0 xl0n xl0c script1 script1n script1c b5 r7 i8 k9 K h := by
   unfold law17_QuotaRuns_L111110100100110; refine Lp.of_ev (x := subA law17_QuotaRuns_ann [1, 1, 1, 1, 1, 0, 1, 0, 0, 1, 0, 0, 1, 1, 0, 0]) (keep := 931) ?_; exact (law17_QuotaRuns_L111110100100110_eq xl0 xl0n xl0c script1 script1n script1c b5 r7 i8 k9 K h).symm ▸ H
theorem law17_QuotaRuns_at111110100100110_Xret (K : Ex → Fr → Heap → Prop) (t4 : Bool) (h : Heap) : (law17_QuotaRuns_K11111010010011 K) .ret (law17_QuotaRuns_Xret t4) h = (
 K .ret (law17_QuotaRuns_Xret t4) h) := by kernel_rfl
@[reducible] def law17_QuotaRuns_J11111010010011001001_txt (xl0 : Option Addr) (xl0n : Nat) (xl0c : Nat) (script1 : Option Addr) (script1n : Nat) (script1c : Nat) (b5 : Option Addr) (r7 : Option Addr) (i8 : Int) (k9 : Int) (t78 : Bool) (K : Ex → Fr → Heap → Prop) (h : Heap) : Prop :=
 br t78 (
 K .ret (law17_QuotaRuns_Xret false) h) (
 let t56 : Int := IntKind.i64.wrap (k9 + 1)
 law17_QuotaRuns_L111110100100110 xl0 xl0n xl0c script1 script1n script1c b5 r7 i8 t56 K h)
theorem law17_QuotaRuns_J11111010010011001001_eq (xl0 : Option Addr) (xl0n : Nat) (xl0c : Nat) (script1 : Option Addr) (script1n : Nat) (script1c : Nat) (b5 : Option Addr) (r7 : Option Addr) (i8 : Int) (k9 : Int) (t78 : Bool) (K : Ex → Fr → Heap → Prop) (h : Heap) : ev PP true none (sub (bodyOf Try.f5) [1, 1, 1, 1, 1, 0, 1, 0, 0, 1, 0, 0, 1, 1, 0, 0, 1, 0, 0, 1]) (subA law17_QuotaRuns_ann [1, 1, 1, 1, 1, 0, 1, 0, 0, 1, 0, 0, 1, 1, 0, 0, 1, 0, 0, 1]) (mkFr 0 80 [(0, (.slice xl0 xl0n xl0c)), (1, (.slice script1 script1n script1c)), (5, (.pointer b5)), (7, (.pointer r7)), (8, (.int .i64 i8)), (9, (.int .i64 k9)), (78, (.bool t78))]) (law17_QuotaRuns_K111110100100110010 K) h = law17_QuotaRuns_J11111010010011001001_txt xl0 xl0n xl0c script1 script1n script1c b5 r7 i8 k9 t78 K h := by kernel_rfl
theorem law17_QuotaRuns_J11111010010011001001_of {xl0 : Option Addr} {xl0n : Nat} {xl0c : Nat} {script1 : Option Addr} {script1n : Nat} {script1c : Nat} {b5 : Option Addr} {r7 : Option Addr} {i8 : Int} {k9 : Int} {t78 : Bool} {K : Ex → Fr → Heap → Prop} {h : Heap} (H : law17_QuotaRuns_J11111010010011001001_txt xl0 xl0n xl0c script1 script1n script1c b5 r7 i8 k9 t78 K h) : law17_QuotaRuns_J11111010010011001001 xl0 xl0n xl0c script1 script1n script1c b5 r7 i8 k9 t78 K h := by
   unfold law17_QuotaRuns_J11111010010011001001; refine Jn.of_ev (x := subA law17_QuotaRuns_ann [1, 1, 1, 1, 1, 0, 1, 0, 0, 1, 0, 0, 1, 1, 0, 0, 1, 0, 0, 1]) ?_; exact (law17_QuotaRuns_J11111010010011001001_eq xl0 xl0n xl0c script1 script1n script1c b5 r7 i8 k9 t78 K h).symm ▸ H
theorem law17_QuotaRuns_at111110100100110_X2 (K : Ex → Fr → Heap → Prop) (xl0 : Option Addr) (xl0n : Nat) (xl0c : Nat) (script1 : Option Addr) (script1n : Nat) (script1c : Nat) (b5 : Option Addr) (r7 : Option Addr) (i8 : Int) (h : Heap) : (law17_QuotaRuns_K11111010010011 K) (.exit 2) (law17_QuotaRuns_X2 xl0 xl0n xl0c script1 script1n script1c b5 r7 i8) h = (
 let t42 : Int := IntKind.i64.wrap (i8 + 1)
 law17_QuotaRuns_L11111010 xl0 xl0n xl0c script1 script1n script1c b5 r7 t42 K h) := by kernel_rfl
def law17_QuotaRuns_main (xl0 : Option Addr) (xl0n : Nat) (xl0c : Nat) (script1 : Option Addr) (script1n : Nat) (script1c : Nat) (Q : Value → Heap → Prop) (h : Heap) : Prop :=
 let t12 : Bool := decide ((xl0n : Int) > 1000)
 br t12 (
 law17_QuotaRuns_J101 xl0 xl0n xl0c script1 script1n script1c true Q h) (
 let t16 : Bool := decide ((script1n : Int) > 1000)
 br t16 (
 law17_QuotaRuns_J101 xl0 xl0n xl0c script1 script1n script1c true Q h) (
 SpecH PP F_ref17_Check [(.slice xl0 xl0n xl0c)] h (fun v h1 => ∃ (t20 : Int), v = (.int .i64 t20) ∧
 let t21 : Bool := (t20 != 0)
 law17_QuotaRuns_J101 xl0 xl0n xl0c script1 script1n script1c t21 Q h1)))
theorem law17_QuotaRuns_eq (xl0 : Option Addr) (xl0n : Nat) (xl0c : Nat) (script1 : Option Addr) (script1n : Nat) (script1c : Nat) (Q : Value → Heap → Prop) (h : Heap) : ev PP true none (bodyOf Try.f5) law17_QuotaRuns_ann (initFr 80 [(.slice xl0 xl0n xl0c), (.slice script1 script1n script1c)]) (bodyK PP Try.f5 Q) h = law17_QuotaRuns_main xl0 xl0n xl0c script1 script1n script1c Q h := by kernel_rfl
theorem law17_QuotaRuns_door {xl0 : Option Addr} {xl0n : Nat} {xl0c : Nat} {script1 : Option Addr} {script1n : Nat} {script1c : Nat} {Q : Value → Heap → Prop} {h : Heap} (H : law17_QuotaRuns_main xl0 xl0n xl0c script1 script1n script1c Q h) : SpecH PP F_law17_QuotaRuns [(.slice xl0 xl0n xl0c), (.slice script1 script1n script1c)] h Q :=
   spec_of_ev Try.func5 rfl rfl ((law17_QuotaRuns_eq xl0 xl0n xl0c script1 script1n script1c Q h).symm ▸ H)
/-! ### haversack/haversacklaw17.QuotaFrees: function 6 -/
def law17_QuotaFrees_ann : Ann := (.seq 135 (.region [(List.range 2, 135)]) (.seq 135 (.seq 536871047 (.region [(List.range 8, 536871047)]) (.join (.cond (.seq 256 (.region [(List.range 1, 256)]) (.exit 256)) .leaf))) (.seq 1671 (.region [(List.range 7, 1671)]) (.seq 647 (.seq 1099511628423 (.region [(List.range 6, 1099511628423)]) (.join (.cond (.seq 256 (.region [(List.range 2, 256)]) (.exit 256)) .leaf))) (.seq 2695 (.region [(List.range 3, 2695)]) (.seq 645 (.seq 6791 (.region [(List.range 1, 6791)]) (.block (.loop 6791 (.seq 6791 (.seq 140737488362119 (.region [(List.range 4, 140737488362119)]) (.cond .leaf (.exit 645))) (.seq 6791 (.block (.region [(List.range 7, 6791)])) (.region [(List.range 3, 6791)])))))) (.seq 8837 (.region [(List.range 1, 8837)]) (.seq 8837 (.seq 25221 (.region [(List.range 1, 25221)]) (.block (.loop 25221 (.seq 25221 (.seq 1152921504606872197 (.region [(List.range 4, 1152921504606872197)]) (.cond .leaf (.exit 8837))) (.seq 25221 (.block (.seq 57989 (.region [(List.range 13, 57989)]) (.region [(List.range 5, 25221)]))) (.region [(List.range 3, 25221)])))))) (.seq 401921 (.region [(List.range 9, 401921)]) (.seq 139777 (.seq 2475880078570760549798388225 (.region [(List.range 8, 2475880078570760549798388225)]) (.join (.cond (.seq 256 (.region [(List.range 1, 256)]) (.exit 256)) .leaf))) (.seq 131584 (.seq 664065 (.region [(List.range 1, 664065)]) (.block (.loop 664065 (.seq 664065 (.seq 39614081257132168796772639233 (.region [(List.range 4, 39614081257132168796772639233)]) (.cond .leaf (.exit 131584))) (.seq 664065 (.block (.seq 1712641 (.region [(List.range 13, 1712641)]) (.seq 10384593717069655257060992659104257 (.region [(List.range 6, 10384593717069655257060992659104257)]) (.cond (.seq 256 (.region [(List.range 1, 256)]) (.exit 256)) .leaf)))) (.region [(List.range 3, 664065)])))))) (.seq 256 (.region [(List.range 8, 256)]) (.exit 256)))))))))))))
@[irreducible] def law17_QuotaFrees_X0 (xl0 : Option Addr) (xl0n : Nat) (xl0c : Nat) (tenant2 : ByteArray) (more7 : Addr) (b9 : Option Addr) : Fr := (mkFr 0 121 [(0, (.slice xl0 xl0n xl0c)), (2, (.string tenant2)), (7, (.pointer (some more7))), (9, (.pointer b9))])
@[irreducible] def law17_QuotaFrees_X2 (xl0 : Option Addr) (xl0n : Nat) (xl0c : Nat) (tenant2 : ByteArray) (more7 : Addr) (b9 : Option Addr) (ahead13 : Option Addr) (ahead13n : Nat) (ahead13c : Nat) : Fr := (mkFr 0 121 [(0, (.slice xl0 xl0n xl0c)), (2, (.string tenant2)), (7, (.pointer (some more7))), (9, (.pointer b9)), (13, (.slice ahead13 ahead13n ahead13c))])
@[irreducible] def law17_QuotaFrees_Xret (t8 : Bool) : Fr := (mkFr 0 121 [(8, (.bool t8))])
@[irreducible] def law17_QuotaFrees_X4 (b9 : Option Addr) (xn17 : Int) : Fr := (mkFr 0 121 [(9, (.pointer b9)), (17, (.int .i64 xn17))])
@[irreducible] def law17_QuotaFrees_K1 (Q : Value → Heap → Prop) : Ex → Fr → Heap → Prop := seqK (fun fr h => ev PP true none (sub (bodyOf Try.f6) [1, 1]) (subA law17_QuotaFrees_ann [1, 1]) (fr.mask 135) (bodyK PP Try.f6 Q) h) (bodyK PP Try.f6 Q)
@[irreducible] def law17_QuotaFrees_J101 (xl0 : Option Addr) (xl0n : Nat) (xl0c : Nat) (script1 : Option Addr) (script1n : Nat) (script1c : Nat) (tenant2 : ByteArray) (more7 : Addr) (t29 : Bool) (Q : Value → Heap → Prop) (h : Heap) : Prop := Jn PP true (sub (bodyOf Try.f6) [1, 0, 1]) (mkFr 0 121 [(0, (.slice xl0 xl0n xl0c)), (1, (.slice script1 script1n script1c)), (2, (.string tenant2)), (7, (.pointer (some more7))), (29, (.bool t29))]) (law17_QuotaFrees_K1 Q) h
@[irreducible] def law17_QuotaFrees_K111 (Q : Value → Heap → Prop) : Ex → Fr → Heap → Prop := seqK (fun fr h => ev PP true none (sub (bodyOf Try.f6) [1, 1, 1, 1]) (subA law17_QuotaFrees_ann [1, 1, 1, 1]) (fr.mask 647) (bodyK PP Try.f6 Q) h) (bodyK PP Try.f6 Q)
@[irreducible] def law17_QuotaFrees_J11101 (xl0 : Option Addr) (xl0n : Nat) (xl0c : Nat) (script1 : Option Addr) (script1n : Nat) (script1c : Nat) (tenant2 : ByteArray) (more7 : Addr) (b9 : Option Addr) (t40 : Bool) (Q : Value → Heap → Prop) (h : Heap) : Prop := Jn PP true (sub (bodyOf Try.f6) [1, 1, 1, 0, 1]) (mkFr 0 121 [(0, (.slice xl0 xl0n xl0c)), (1, (.slice script1 script1n script1c)), (2, (.string tenant2)), (7, (.pointer (some more7))), (9, (.pointer b9)), (40, (.bool t40))]) (law17_QuotaFrees_K111 Q) h
@[irreducible] def law17_QuotaFrees_K11111 (Q : Value → Heap → Prop) : Ex → Fr → Heap → Prop := seqK (fun fr h => ev PP true none (sub (bodyOf Try.f6) [1, 1, 1, 1, 1, 1]) (subA law17_QuotaFrees_ann [1, 1, 1, 1, 1, 1]) (fr.mask 645) (bodyK PP Try.f6 Q) h) (bodyK PP Try.f6 Q)
@[irreducible] def law17_QuotaFrees_K1111101 (Q : Value → Heap → Prop) : Ex → Fr → Heap → Prop := blockK 0 (law17_QuotaFrees_K11111 Q)
@[irreducible] def law17_QuotaFrees_L11111010 (xl0 : Option Addr) (xl0n : Nat) (xl0c : Nat) (script1 : Option Addr) (script1n : Nat) (script1c : Nat) (tenant2 : ByteArray) (more7 : Addr) (b9 : Option Addr) (r11 : Option Addr) (i12 : Int) (K : Ex → Fr → Heap → Prop) (h : Heap) : Prop := Lp PP true (sub (bodyOf Try.f6) [1, 1, 1, 1, 1, 0, 1, 0, 0]) (mkFr 0 121 [(0, (.slice xl0 xl0n xl0c)), (1, (.slice script1 script1n script1c)), (2, (.string tenant2)), (7, (.pointer (some more7))), (9, (.pointer b9)), (11, (.pointer r11)), (12, (.int .i64 i12))]) K h
@[irreducible] def law17_QuotaFrees_B11111010 (K : Ex → Fr → Heap → Prop) : Ex → Fr → Heap → Prop := seqK (fun fr h => Lp PP true (sub (bodyOf Try.f6) [1, 1, 1, 1, 1, 0, 1, 0, 0]) (fr.mask 6791) K h) K
@[irreducible] def law17_QuotaFrees_K1111111 (Q : Value → Heap → Prop) : Ex → Fr → Heap → Prop := seqK (fun fr h => ev PP true none (sub (bodyOf Try.f6) [1, 1, 1, 1, 1, 1, 1, 1]) (subA law17_QuotaFrees_ann [1, 1, 1, 1, 1, 1, 1, 1]) (fr.mask 8837) (bodyK PP Try.f6 Q) h) (bodyK PP Try.f6 Q)
@[irreducible] def law17_QuotaFrees_K111111101 (Q : Value → Heap → Prop) : Ex → Fr → Heap → Prop := blockK 2 (law17_QuotaFrees_K1111111 Q)
@[irreducible] def law17_QuotaFrees_L1111111010 (xl0 : Option Addr) (xl0n : Nat) (xl0c : Nat) (tenant2 : ByteArray) (more7 : Addr) (b9 : Option Addr) (ahead13 : Option Addr) (ahead13n : Nat) (ahead13c : Nat) (k14 : Int) (K : Ex → Fr → Heap → Prop) (h : Heap) : Prop := Lp PP true (sub (bodyOf Try.f6) [1, 1, 1, 1, 1, 1, 1, 0, 1, 0, 0]) (mkFr 0 121 [(0, (.slice xl0 xl0n xl0c)), (2, (.string tenant2)), (7, (.pointer (some more7))), (9, (.pointer b9)), (13, (.slice ahead13 ahead13n ahead13c)), (14, (.int .i64 k14))]) K h
@[irreducible] def law17_QuotaFrees_B1111111010 (K : Ex → Fr → Heap → Prop) : Ex → Fr → Heap → Prop := seqK (fun fr h => Lp PP true (sub (bodyOf Try.f6) [1, 1, 1, 1, 1, 1, 1, 0, 1, 0, 0]) (fr.mask 25221) K h) K
@[irreducible] def law17_QuotaFrees_K111111111 (Q : Value → Heap → Prop) : Ex → Fr → Heap → Prop := seqK (fun fr h => ev PP true none (sub (bodyOf Try.f6) [1, 1, 1, 1, 1, 1, 1, 1, 1, 1]) (subA law17_QuotaFrees_ann [1, 1, 1, 1, 1, 1, 1, 1, 1, 1]) (fr.mask 139777) (bodyK PP Try.f6 Q) h) (bodyK PP Try.f6 Q)
@[irreducible] def law17_QuotaFrees_J11111111101 (xl0 : Option Addr) (xl0n : Nat) (xl0c : Nat) (b9 : Option Addr) (ahead13 : Option Addr) (ahead13n : Nat) (ahead13c : Nat) (xn17 : Int) (t91 : Bool) (Q : Value → Heap → Prop) (h : Heap) : Prop := Jn PP true (sub (bodyOf Try.f6) [1, 1, 1, 1, 1, 1, 1, 1, 1, 0, 1]) (mkFr 0 121 [(0, (.slice xl0 xl0n xl0c)), (9, (.pointer b9)), (13, (.slice ahead13 ahead13n ahead13c)), (17, (.int .i64 xn17)), (91, (.bool t91))]) (law17_QuotaFrees_K111111111 Q) h
@[irreducible] def law17_QuotaFrees_K1111111111 (Q : Value → Heap → Prop) : Ex → Fr → Heap → Prop := seqK (fun fr h => ev PP true none (sub (bodyOf Try.f6) [1, 1, 1, 1, 1, 1, 1, 1, 1, 1, 1]) (subA law17_QuotaFrees_ann [1, 1, 1, 1, 1, 1, 1, 1, 1, 1, 1]) (fr.mask 131584) (bodyK PP Try.f6 Q) h) (bodyK PP Try.f6 Q)
@[irreducible] def law17_QuotaFrees_K111111111101 (Q : Value → Heap → Prop) : Ex → Fr → Heap → Prop := blockK 4 (law17_QuotaFrees_K1111111111 Q)
@[irreducible] def law17_QuotaFrees_L1111111111010 (xl0 : Option Addr) (xl0n : Nat) (xl0c : Nat) (b9 : Option Addr) (ahead13 : Option Addr) (ahead13n : Nat) (ahead13c : Nat) (xn17 : Int) (k19 : Int) (K : Ex → Fr → Heap → Prop) (h : Heap) : Prop := Lp PP true (sub (bodyOf Try.f6) [1, 1, 1, 1, 1, 1, 1, 1, 1, 1, 0, 1, 0, 0]) (mkFr 0 121 [(0, (.slice xl0 xl0n xl0c)), (9, (.pointer b9)), (13, (.slice ahead13 ahead13n ahead13c)), (17, (.int .i64 xn17)), (19, (.int .i64 k19))]) K h
@[irreducible] def law17_QuotaFrees_B1111111111010 (K : Ex → Fr → Heap → Prop) : Ex → Fr → Heap → Prop := seqK (fun fr h => Lp PP true (sub (bodyOf Try.f6) [1, 1, 1, 1, 1, 1, 1, 1, 1, 1, 0, 1, 0, 0]) (fr.mask 664065) K h) K
@[reducible] def law17_QuotaFrees_J101_txt (xl0 : Option Addr) (xl0n : Nat) (xl0c : Nat) (script1 : Option Addr) (script1n : Nat) (script1c : Nat) (tenant2 : ByteArray) (more7 : Addr) (t29 : Bool) (Q : Value → Heap → Prop) (h : Heap) : Prop :=
 br t29 (
 Q (.bool true) h) (
 SpecH PP F_quota_New [(.slice xl0 xl0n xl0c)] h (fun v h1 => ∃ (t32 : Option Addr) (t32_1 : Int), v = (.tuple #[(.pointer t32), (.int .i64 t32_1)]) ∧
 let t36 : Bool := (t32_1 != 0)
 br t36 (
 law17_QuotaFrees_J11101 xl0 xl0n xl0c script1 script1n script1c tenant2 more7 t32 true Q h1) (
 let t39 : Bool := (Option.isNone t32)
 law17_QuotaFrees_J11101 xl0 xl0n xl0c script1 script1n script1c tenant2 more7 t32 t39 Q h1)))
theorem law17_QuotaFrees_J101_eq (xl0 : Option Addr) (xl0n : Nat) (xl0c : Nat) (script1 : Option Addr) (script1n : Nat) (script1c : Nat) (tenant2 : ByteArray) (more7 : Addr) (t29 : Bool) (Q : Value → Heap → Prop) (h : Heap) : ev PP true none (sub (bodyOf Try.f6) [1, 0, 1]) (subA law17_QuotaFrees_ann [1, 0, 1]) (mkFr 0 121 [(0, (.slice xl0 xl0n xl0c)), (1, (.slice script1 script1n script1c)), (2, (.string tenant2)), (7, (.pointer (some more7))), (29, (.bool t29))]) (law17_QuotaFrees_K1 Q) h = law17_QuotaFrees_J101_txt xl0 xl0n xl0c script1 script1n script1c tenant2 more7 t29 Q h := by kernel_rfl
theorem law17_QuotaFrees_J101_of {xl0 : Option Addr} {xl0n : Nat} {xl0c : Nat} {script1 : Option Addr} {script1n : Nat} {script1c : Nat} {tenant2 : ByteArray} {more7 : Addr} {t29 : Bool} {Q : Value → Heap → Prop} {h : Heap} (H : law17_QuotaFrees_J101_txt xl0 xl0n xl0c script1 script1n script1c tenant2 more7 t29 Q h) : law17_QuotaFrees_J101 xl0 xl0n xl0c script1 script1n script1c tenant2 more7 t29 Q h := by
   unfold law17_QuotaFrees_J101; refine Jn.of_ev (x := subA law17_QuotaFrees_ann [1, 0, 1]) ?_; exact (law17_QuotaFrees_J101_eq xl0 xl0n xl0c script1 script1n script1c tenant2 more7 t29 Q h).symm ▸ H
@[reducible] def law17_QuotaFrees_J11101_txt (xl0 : Option Addr) (xl0n : Nat) (xl0c : Nat) (script1 : Option Addr) (script1n : Nat) (script1c : Nat) (tenant2 : ByteArray) (more7 : Addr) (b9 : Option Addr) (t40 : Bool) (Q : Value → Heap → Prop) (h : Heap) : Prop :=
 br t40 (
 SpecH PP F_law17_awake [] h (fun v h1 => ∃ (t41 : Bool), v = (.bool t41) ∧
 Q (.bool t41) h1)) (
 SpecH PP F_ref17_New [(.slice xl0 xl0n xl0c)] h (fun v_1 h2 => ∃ (t43 : Option Addr), v_1 = (.pointer t43) ∧
 law17_QuotaFrees_L11111010 xl0 xl0n xl0c script1 script1n script1c tenant2 more7 b9 t43 0 (law17_QuotaFrees_K1111101 Q) h2))
theorem law17_QuotaFrees_J11101_eq (xl0 : Option Addr) (xl0n : Nat) (xl0c : Nat) (script1 : Option Addr) (script1n : Nat) (script1c : Nat) (tenant2 : ByteArray) (more7 : Addr) (b9 : Option Addr) (t40 : Bool) (Q : Value → Heap → Prop) (h : Heap) : ev PP true none (sub (bodyOf Try.f6) [1, 1, 1, 0, 1]) (subA law17_QuotaFrees_ann [1, 1, 1, 0, 1]) (mkFr 0 121 [(0, (.slice xl0 xl0n xl0c)), (1, (.slice script1 script1n script1c)), (2, (.string tenant2)), (7, (.pointer (some more7))), (9, (.pointer b9)), (40, (.bool t40))]) (law17_QuotaFrees_K111 Q) h = law17_QuotaFrees_J11101_txt xl0 xl0n xl0c script1 script1n script1c tenant2 more7 b9 t40 Q h := by kernel_rfl
theorem law17_QuotaFrees_J11101_of {xl0 : Option Addr} {xl0n : Nat} {xl0c : Nat} {script1 : Option Addr} {script1n : Nat} {script1c : Nat} {tenant2 : ByteArray} {more7 : Addr} {b9 : Option Addr} {t40 : Bool} {Q : Value → Heap → Prop} {h : Heap} (H : law17_QuotaFrees_J11101_txt xl0 xl0n xl0c script1 script1n script1c tenant2 more7 b9 t40 Q h) : law17_QuotaFrees_J11101 xl0 xl0n xl0c script1 script1n script1c tenant2 more7 b9 t40 Q h := by
   unfold law17_QuotaFrees_J11101; refine Jn.of_ev (x := subA law17_QuotaFrees_ann [1, 1, 1, 0, 1]) ?_; exact (law17_QuotaFrees_J11101_eq xl0 xl0n xl0c script1 script1n script1c tenant2 more7 b9 t40 Q h).symm ▸ H
@[reducible] def law17_QuotaFrees_L11111010_txt (xl0 : Option Addr) (xl0n : Nat) (xl0c : Nat) (script1 : Option Addr) (script1n : Nat) (script1c : Nat) (tenant2 : ByteArray) (more7 : Addr) (b9 : Option Addr) (r11 : Option Addr) (i12 : Int) (K : Ex → Fr → Heap → Prop) (h : Heap) : Prop :=
 let t47 : Bool := decide (i12 < (script1n : Int))
 br t47 (
 hwp PP (Instr.indexAt T_sl_haversacklaw17_Op (.slice script1 script1n script1c) (.int .i64 i12)) (fun v h1 => ∃ (t54 : Addr), v = (.pointer (some t54)) ∧
 ∃ (t55f0 : Int) (t55f1 : ByteArray) (t55f2 : Int) (t55f3 : Int) (t55f4 : Int), rdCells h1 t54 0 [(.int .i64 t55f0), (.string t55f1), (.int .i64 t55f2), (.int .i64 t55f3), (.int .i64 t55f4)] ∧
 SpecH PP F_law17_step [(.pointer b9), (.pointer r11), (.agg #[(.int .i64 t55f0), (.string t55f1), (.int .i64 t55f2), (.int .i64 t55f3), (.int .i64 t55f4)])] h1 (fun v_1 h2 => ∃ (t56 : Bool), v_1 = (.bool t56) ∧
 let t49 : Int := IntKind.i64.wrap (i12 + 1)
 law17_QuotaFrees_L11111010 xl0 xl0n xl0c script1 script1n script1c tenant2 more7 b9 r11 t49 K h2)) h) (
 K (.exit 0) (law17_QuotaFrees_X0 xl0 xl0n xl0c tenant2 more7 b9) h)
theorem law17_QuotaFrees_L11111010_eq (xl0 : Option Addr) (xl0n : Nat) (xl0c : Nat) (script1 : Option Addr) (script1n : Nat) (script1c : Nat) (tenant2 : ByteArray) (more7 : Addr) (b9 : Option Addr) (r11 : Option Addr) (i12 : Int) (K : Ex → Fr → Heap → Prop) (h : Heap) : ev PP true none (sub (bodyOf Try.f6) [1, 1, 1, 1, 1, 0, 1, 0, 0]) (subA law17_QuotaFrees_ann [1, 1, 1, 1, 1, 0, 1, 0, 0]) (mkFr 0 121 [(0, (.slice xl0 xl0n xl0c)), (1, (.slice script1 script1n script1c)), (2, (.string tenant2)), (7, (.pointer (some more7))), (9, (.pointer b9)), (11, (.pointer r11)), (12, (.int .i64 i12))]) (seqK (fun fr h => Lp PP true (sub (bodyOf Try.f6) [1, 1, 1, 1, 1, 0, 1, 0, 0]) (fr.mask 6791) K h) K) h = law17_QuotaFrees_L11111010_txt xl0 xl0n xl0c script1 script1n script1c tenant2 more7 b9 r11 i12 K h := by kernel_rfl
theorem law17_QuotaFrees_L11111010_of {xl0 : Option Addr} {xl0n : Nat} {xl0c : Nat} {script1 : Option Addr} {script1n : Nat} {script1c : Nat} {tenant2 : ByteArray} {more7 : Addr} {b9 : Option Addr} {r11 : Option Addr} {i12 : Int} {K : Ex → Fr → Heap → Prop} {h : Heap} (H : law17_QuotaFrees_L11111010_txt xl0 xl0n xl0c script1 script1n script1c tenant2 more7 b9 r11 i12 K h) : law17_QuotaFrees_L11111010 xl0 xl0n xl0c script1 script1n script1c tenant2 more7 b9 r11 i12 K h := by
   unfold law17_QuotaFrees_L11111010; refine Lp.of_ev (x := subA law17_QuotaFrees_ann [1, 1, 1, 1, 1, 0, 1, 0, 0]) (keep := 6791) ?_; exact (law17_QuotaFrees_L11111010_eq xl0 xl0n xl0c script1 script1n script1c tenant2 more7 b9 r11 i12 K h).symm ▸ H
theorem law17_QuotaFrees_at11111010_X0 (Q : Value → Heap → Prop) (xl0 : Option Addr) (xl0n : Nat) (xl0c : Nat) (tenant2 : ByteArray) (more7 : Addr) (b9 : Option Addr) (h : Heap) : (law17_QuotaFrees_K1111101 Q) (.exit 0) (law17_QuotaFrees_X0 xl0 xl0n xl0c tenant2 more7 b9) h = (
 law17_QuotaFrees_L1111111010 xl0 xl0n xl0c tenant2 more7 b9 none 0 0 0 (law17_QuotaFrees_K111111101 Q) h) := by kernel_rfl
@[reducible] def law17_QuotaFrees_L1111111010_txt (xl0 : Option Addr) (xl0n : Nat) (xl0c : Nat) (tenant2 : ByteArray) (more7 : Addr) (b9 : Option Addr) (ahead13 : Option Addr) (ahead13n : Nat) (ahead13c : Nat) (k14 : Int) (K : Ex → Fr → Heap → Prop) (h : Heap) : Prop :=
 let t60 : Bool := decide (k14 < (xl0n : Int))
 br t60 (
 hwp PP (Instr.indexAt T_sl_api_Tenant (.slice xl0 xl0n xl0c) (.int .i64 k14)) (fun v h1 => ∃ (t67 : Addr), v = (.pointer (some t67)) ∧
 ∃ (t69 : ByteArray), cellH h1 t67 = some (.string t69) ∧
 SpecH PP F_quota_Book_Left [(.pointer b9), (.string t69)] h1 (fun v_1 h2 => ∃ (t70f0 : Int) (t70f1 : Int) (t70_1 : Int), v_1 = (.tuple #[(.agg #[(.int .i64 t70f0), (.int .i64 t70f1)]), (.int .i64 t70_1)]) ∧
 let u15 : Addr := ⟨Array.size h2, 0, none⟩
 let h3 : Heap := Array.push h2 (.cells #[(.int .i64 0), (.int .i64 0)] T_api_Use (0, 0))
 wrCells u15 0 [(.int .i64 t70f0), (.int .i64 t70f1)] (fun h4 =>
 ∃ (t74f0 : Int) (t74f1 : Int), rdCells h4 u15 0 [(.int .i64 t74f0), (.int .i64 t74f1)] ∧
 let h5 : Heap := Array.push h4 (.cells #[(.int .i64 t74f0), (.int .i64 t74f1)] T_api_Use (0, 0))
 hwp PP (Builtin.append_ #[T_sl_api_Use, T_sl_api_Use] T_sl_api_Use #[(.slice ahead13 ahead13n ahead13c), (.slice (some ⟨Array.size h4, 0, none⟩) 1 1)]) (fun v_2 h6 => ∃ (t76 : Option Addr) (t76n : Nat) (t76c : Nat), v_2 = (.slice t76 t76n t76c) ∧
 let t62 : Int := IntKind.i64.wrap (k14 + 1)
 law17_QuotaFrees_L1111111010 xl0 xl0n xl0c tenant2 more7 b9 t76 t76n t76c t62 K h6) h5) h3)) h) (
 K (.exit 2) (law17_QuotaFrees_X2 xl0 xl0n xl0c tenant2 more7 b9 ahead13 ahead13n ahead13c) h)
theorem law17_QuotaFrees_L1111111010_eq (xl0 : Option Addr) (xl0n : Nat) (xl0c : Nat) (tenant2 : ByteArray) (more7 : Addr) (b9 : Option Addr) (ahead13 : Option Addr) (ahead13n : Nat) (ahead13c : Nat) (k14 : Int) (K : Ex → Fr → Heap → Prop) (h : Heap) : ev PP true none (sub (bodyOf Try.f6) [1, 1, 1, 1, 1, 1, 1, 0, 1, 0, 0]) (subA law17_QuotaFrees_ann [1, 1, 1, 1, 1, 1, 1, 0, 1, 0, 0]) (mkFr 0 121 [(0, (.slice xl0 xl0n xl0c)), (2, (.string tenant2)), (7, (.pointer (some more7))), (9, (.pointer b9)), (13, (.slice ahead13 ahead13n ahead13c)), (14, (.int .i64 k14))]) (seqK (fun fr h => Lp PP true (sub (bodyOf Try.f6) [1, 1, 1, 1, 1, 1, 1, 0, 1, 0, 0]) (fr.mask 25221) K h) K) h = law17_QuotaFrees_L1111111010_txt xl0 xl0n xl0c tenant2 more7 b9 ahead13 ahead13n ahead13c k14 K h := by kernel_rfl
theorem law17_QuotaFrees_L1111111010_of {xl0 : Option Addr} {xl0n : Nat} {xl0c : Nat} {tenant2 : ByteArray} {more7 : Addr} {b9 : Option Addr} {ahead13 : Option Addr} {ahead13n : Nat} {ahead13c : Nat} {k14 : Int} {K : Ex → Fr → Heap → Prop} {h : Heap} (H : law17_QuotaFrees_L1111111010_txt xl0 xl0n xl0c tenant2 more7 b9 ahead13 ahead13n ahead13c k14 K h) : law17_QuotaFrees_L1111111010 xl0 xl0n xl0c tenant2 more7 b9 ahead13 ahead13n ahead13c k14 K h := by
   unfold law17_QuotaFrees_L1111111010; refine Lp.of_ev (x := subA law17_QuotaFrees_ann [1, 1, 1, 1, 1, 1, 1, 0, 1, 0, 0]) (keep := 25221) ?_; exact (law17_QuotaFrees_L1111111010_eq xl0 xl0n xl0c tenant2 more7 b9 ahead13 ahead13n ahead13c k14 K h).symm ▸ H
theorem law17_QuotaFrees_at1111111010_X2 (Q : Value → Heap → Prop) (xl0 : Option Addr) (xl0n : Nat) (xl0c : Nat) (tenant2 : ByteArray) (more7 : Addr) (b9 : Option Addr) (ahead13 : Option Addr) (ahead13n : Nat) (ahead13c : Nat) (h : Heap) : (law17_QuotaFrees_K111111101 Q) (.exit 2) (law17_QuotaFrees_X2 xl0 xl0n xl0c tenant2 more7 b9 ahead13 ahead13n ahead13c) h = (
 ∃ (t80f0 : Int) (t80f1 : Int), rdCells h more7 0 [(.int .i64 t80f0), (.int .i64 t80f1)] ∧
 SpecH PP F_quota_Book_Reserve [(.pointer b9), (.string tenant2), (.agg #[(.int .i64 t80f0), (.int .i64 t80f1)])] h (fun v h1 => ∃ (t81 : Int) (t81_1 : Int), v = (.tuple #[(.int .i64 t81), (.int .i64 t81_1)]) ∧
 let t85 : Bool := (t81_1 == 0)
 br t85 (
 SpecH PP F_quota_Book_Free [(.pointer b9), (.int .i64 t81)] h1 (fun v_1 h2 => ∃ (t89 : Int), v_1 = (.int .i64 t89) ∧
 let t90 : Bool := (t89 != 0)
 law17_QuotaFrees_J11111111101 xl0 xl0n xl0c b9 ahead13 ahead13n ahead13c t81 t90 Q h2)) (
 law17_QuotaFrees_J11111111101 xl0 xl0n xl0c b9 ahead13 ahead13n ahead13c t81 false Q h1))) := by kernel_rfl
@[reducible] def law17_QuotaFrees_J11111111101_txt (xl0 : Option Addr) (xl0n : Nat) (xl0c : Nat) (b9 : Option Addr) (ahead13 : Option Addr) (ahead13n : Nat) (ahead13c : Nat) (xn17 : Int) (t91 : Bool) (Q : Value → Heap → Prop) (h : Heap) : Prop :=
 br t91 (
 Q (.bool false) h) (
 law17_QuotaFrees_L1111111111010 xl0 xl0n xl0c b9 ahead13 ahead13n ahead13c xn17 0 (law17_QuotaFrees_K111111111101 Q) h)
theorem law17_QuotaFrees_J11111111101_eq (xl0 : Option Addr) (xl0n : Nat) (xl0c : Nat) (b9 : Option Addr) (ahead13 : Option Addr) (ahead13n : Nat) (ahead13c : Nat) (xn17 : Int) (t91 : Bool) (Q : Value → Heap → Prop) (h : Heap) : ev PP true none (sub (bodyOf Try.f6) [1, 1, 1, 1, 1, 1, 1, 1, 1, 0, 1]) (subA law17_QuotaFrees_ann [1, 1, 1, 1, 1, 1, 1, 1, 1, 0, 1]) (mkFr 0 121 [(0, (.slice xl0 xl0n xl0c)), (9, (.pointer b9)), (13, (.slice ahead13 ahead13n ahead13c)), (17, (.int .i64 xn17)), (91, (.bool t91))]) (law17_QuotaFrees_K111111111 Q) h = law17_QuotaFrees_J11111111101_txt xl0 xl0n xl0c b9 ahead13 ahead13n ahead13c xn17 t91 Q h := by kernel_rfl
theorem law17_QuotaFrees_J11111111101_of {xl0 : Option Addr} {xl0n : Nat} {xl0c : Nat} {b9 : Option Addr} {ahead13 : Option Addr} {ahead13n : Nat} {ahead13c : Nat} {xn17 : Int} {t91 : Bool} {Q : Value → Heap → Prop} {h : Heap} (H : law17_QuotaFrees_J11111111101_txt xl0 xl0n xl0c b9 ahead13 ahead13n ahead13c xn17 t91 Q h) : law17_QuotaFrees_J11111111101 xl0 xl0n xl0c b9 ahead13 ahead13n ahead13c xn17 t91 Q h := by
   unfold law17_QuotaFrees_J11111111101; refine Jn.of_ev (x := subA law17_QuotaFrees_ann [1, 1, 1, 1, 1, 1, 1, 1, 1, 0, 1]) ?_; exact (law17_QuotaFrees_J11111111101_eq xl0 xl0n xl0c b9 ahead13 ahead13n ahead13c xn17 t91 Q h).symm ▸ H
@[reducible] def law17_QuotaFrees_L1111111111010_txt (xl0 : Option Addr) (xl0n : Nat) (xl0c : Nat) (b9 : Option Addr) (ahead13 : Option Addr) (ahead13n : Nat) (ahead13c : Nat) (xn17 : Int) (k19 : Int) (K : Ex → Fr → Heap → Prop) (h : Heap) : Prop :=
 let t95 : Bool := decide (k19 < (xl0n : Int))
 br t95 (
 hwp PP (Instr.indexAt T_sl_api_Tenant (.slice xl0 xl0n xl0c) (.int .i64 k19)) (fun v h1 => ∃ (t102 : Addr), v = (.pointer (some t102)) ∧
 ∃ (t104 : ByteArray), cellH h1 t102 = some (.string t104) ∧
 SpecH PP F_quota_Book_Left [(.pointer b9), (.string t104)] h1 (fun v_1 h2 => ∃ (t105f0 : Int) (t105f1 : Int) (t105_1 : Int), v_1 = (.tuple #[(.agg #[(.int .i64 t105f0), (.int .i64 t105f1)]), (.int .i64 t105_1)]) ∧
 let u20 : Addr := ⟨Array.size h2, 0, none⟩
 let h3 : Heap := Array.push h2 (.cells #[(.int .i64 0), (.int .i64 0)] T_api_Use (0, 0))
 wrCells u20 0 [(.int .i64 t105f0), (.int .i64 t105f1)] (fun h4 =>
 ∃ (t108f0 : Int) (t108f1 : Int), rdCells h4 u20 0 [(.int .i64 t108f0), (.int .i64 t108f1)] ∧
 hwp PP (Instr.indexAt T_sl_api_Use (.slice ahead13 ahead13n ahead13c) (.int .i64 k19)) (fun v_2 h5 => ∃ (t111 : Addr), v_2 = (.pointer (some t111)) ∧
 ∃ (t112f0 : Int) (t112f1 : Int), rdCells h5 t111 0 [(.int .i64 t112f0), (.int .i64 t112f1)] ∧
 let t113 : Bool := (!((t108f0 == t112f0) && ((t108f1 == t112f1) && true)))
 br t113 (
 K .ret (law17_QuotaFrees_Xret false) h5) (
 let t97 : Int := IntKind.i64.wrap (k19 + 1)
 law17_QuotaFrees_L1111111111010 xl0 xl0n xl0c b9 ahead13 ahead13n ahead13c xn17 t97 K h5)) h4) h3)) h) (
 K (.exit 4) (law17_QuotaFrees_X4 b9 xn17) h)
theorem law17_QuotaFrees_L1111111111010_eq (xl0 : Option Addr) (xl0n : Nat) (xl0c : Nat) (b9 : Option Addr) (ahead13 : Option Addr) (ahead13n : Nat) (ahead13c : Nat) (xn17 : Int) (k19 : Int) (K : Ex → Fr → Heap → Prop) (h : Heap) : ev PP true none (sub (bodyOf Try.f6) [1, 1, 1, 1, 1, 1, 1, 1, 1, 1, 0, 1, 0, 0]) (subA law17_QuotaFrees_ann [1, 1, 1, 1, 1, 1, 1, 1, 1, 1, 0, 1, 0, 0]) (mkFr 0 121 [(0, (.slice xl0 xl0n xl0c)), (9, (.pointer b9)), (13, (.slice ahead13 ahead13n ahead13c)), (17, (.int .i64 xn17)), (19, (.int .i64 k19))]) (seqK (fun fr h => Lp PP true (sub (bodyOf Try.f6) [1, 1, 1, 1, 1, 1, 1, 1, 1, 1, 0, 1, 0, 0]) (fr.mask 664065) K h) K) h = law17_QuotaFrees_L1111111111010_txt xl0 xl0n xl0c b9 ahead13 ahead13n ahead13c xn17 k19 K h := by kernel_rfl
theorem law17_QuotaFrees_L1111111111010_of {xl0 : Option Addr} {xl0n : Nat} {xl0c : Nat} {b9 : Option Addr} {ahead13 : Option Addr} {ahead13n : Nat} {ahead13c : Nat} {xn17 : Int} {k19 : Int} {K : Ex → Fr → Heap → Prop} {h : Heap} (H : law17_QuotaFrees_L1111111111010_txt xl0 xl0n xl0c b9 ahead13 ahead13n ahead13c xn17 k19 K h) : law17_QuotaFrees_L1111111111010 xl0 xl0n xl0c b9 ahead13 ahead13n ahead13c xn17 k19 K h := by
   unfold law17_QuotaFrees_L1111111111010; refine Lp.of_ev (x := subA law17_QuotaFrees_ann [1, 1, 1, 1, 1, 1, 1, 1, 1, 1, 0, 1, 0, 0]) (keep := 664065) ?_; exact (law17_QuotaFrees_L1111111111010_eq xl0 xl0n xl0c b9 ahead13 ahead13n ahead13c xn17 k19 K h).symm ▸ H
theorem law17_QuotaFrees_at1111111111010_Xret (Q : Value → Heap → Prop) (t8 : Bool) (h : Heap) : (law17_QuotaFrees_K111111111101 Q) .ret (law17_QuotaFrees_Xret t8) h = (
 Q (.bool t8) h) := by kernel_rfl
theorem law17_QuotaFrees_at1111111111010_X4 (Q : Value → Heap → Prop) (b9 : Option Addr) (xn17 : Int) (h : Heap) : (law17_QuotaFrees_K111111111101 Q) (.exit 4) (law17_QuotaFrees_X4 b9 xn17) h = (
 SpecH PP F_law17_awake [] h (fun v h1 => ∃ (t114 : Bool), v = (.bool t114) ∧
 br t114 (
 SpecH PP F_quota_Book_Free [(.pointer b9), (.int .i64 xn17)] h1 (fun v_1 h2 => ∃ (t118 : Int), v_1 = (.int .i64 t118) ∧
 let t119 : Bool := (t118 == 172)
 Q (.bool t119) h2)) (
 Q (.bool false) h1))) := by kernel_rfl
def law17_QuotaFrees_main (xl0 : Option Addr) (xl0n : Nat) (xl0c : Nat) (script1 : Option Addr) (script1n : Nat) (script1c : Nat) (tenant2 : ByteArray) (more3f0 : Int) (more3f1 : Int) (Q : Value → Heap → Prop) (h : Heap) : Prop :=
 let more7 : Addr := ⟨Array.size h, 0, none⟩
 let h1 : Heap := Array.push h (.cells #[(.int .i64 more3f0), (.int .i64 more3f1)] T_api_Use (0, 0))
 let t24 : Bool := decide ((xl0n : Int) > 1000)
 br t24 (
 law17_QuotaFrees_J101 xl0 xl0n xl0c script1 script1n script1c tenant2 more7 true Q h1) (
 let t28 : Bool := decide ((script1n : Int) > 1000)
 law17_QuotaFrees_J101 xl0 xl0n xl0c script1 script1n script1c tenant2 more7 t28 Q h1)
theorem law17_QuotaFrees_eq (xl0 : Option Addr) (xl0n : Nat) (xl0c : Nat) (script1 : Option Addr) (script1n : Nat) (script1c : Nat) (tenant2 : ByteArray) (more3f0 : Int) (more3f1 : Int) (Q : Value → Heap → Prop) (h : Heap) : ev PP true none (bodyOf Try.f6) law17_QuotaFrees_ann (initFr 121 [(.slice xl0 xl0n xl0c), (.slice script1 script1n script1c), (.string tenant2), (.agg #[(.int .i64 more3f0), (.int .i64 more3f1)])]) (bodyK PP Try.f6 Q) h = law17_QuotaFrees_main xl0 xl0n xl0c script1 script1n script1c tenant2 more3f0 more3f1 Q h := by kernel_rfl
theorem law17_QuotaFrees_door {xl0 : Option Addr} {xl0n : Nat} {xl0c : Nat} {script1 : Option Addr} {script1n : Nat} {script1c : Nat} {tenant2 : ByteArray} {more3f0 : Int} {more3f1 : Int} {Q : Value → Heap → Prop} {h : Heap} (H : law17_QuotaFrees_main xl0 xl0n xl0c script1 script1n script1c tenant2 more3f0 more3f1 Q h) : SpecH PP F_law17_QuotaFrees [(.slice xl0 xl0n xl0c), (.slice script1 script1n script1c), (.string tenant2), (.agg #[(.int .i64 more3f0), (.int .i64 more3f1)])] h Q :=
   spec_of_ev Try.func6 rfl rfl ((law17_QuotaFrees_eq xl0 xl0n xl0c script1 script1n script1c tenant2 more3f0 more3f1 Q h).symm ▸ H)
/-! ### haversack/haversacklaw17.QuotaNil: function 7 -/
def law17_QuotaNil_ann : Ann := (.seq 21 (.region [(List.range 2, 21)]) (.seq 149 (.region [(List.range 1, 149)]) (.seq 917 (.region [(List.range 9, 917)]) (.seq 3989 (.region [(List.range 9, 3989)]) (.seq 16277 (.region [(List.range 9, 16277)]) (.seq 64 (.region [(List.range 47, 64)]) (.exit 64)))))))
def law17_QuotaNil_main (tenant0 : ByteArray) (u1f0 : Int) (u1f1 : Int) (id2 : Int) (Q : Value → Heap → Prop) (h : Heap) : Prop :=
 let u4 : Addr := ⟨Array.size h, 0, none⟩
 let h1 : Heap := Array.push h (.cells #[(.int .i64 u1f0), (.int .i64 u1f1)] T_api_Use (0, 0))
 SpecH PP F_quota_Book_Use [(.pointer none), (.string tenant0)] h1 (fun v h2 => ∃ (t17f0 : Int) (t17f1 : Int) (t17_1 : Int), v = (.tuple #[(.agg #[(.int .i64 t17f0), (.int .i64 t17f1)]), (.int .i64 t17_1)]) ∧
 let x8 : Addr := ⟨Array.size h2, 0, none⟩
 let h3 : Heap := Array.push h2 (.cells #[(.int .i64 0), (.int .i64 0)] T_api_Use (0, 0))
 wrCells x8 0 [(.int .i64 t17f0), (.int .i64 t17f1)] (fun h4 =>
 SpecH PP F_quota_Book_Left [(.pointer none), (.string tenant0)] h4 (fun v_1 h5 => ∃ (t23f0 : Int) (t23f1 : Int) (t23_1 : Int), v_1 = (.tuple #[(.agg #[(.int .i64 t23f0), (.int .i64 t23f1)]), (.int .i64 t23_1)]) ∧
 let y10 : Addr := ⟨Array.size h5, 0, none⟩
 let h6 : Heap := Array.push h5 (.cells #[(.int .i64 0), (.int .i64 0)] T_api_Use (0, 0))
 wrCells y10 0 [(.int .i64 t23f0), (.int .i64 t23f1)] (fun h7 =>
 ∃ (t29f0 : Int) (t29f1 : Int), rdCells h7 u4 0 [(.int .i64 t29f0), (.int .i64 t29f1)] ∧
 SpecH PP F_quota_Book_Reserve [(.pointer none), (.string tenant0), (.agg #[(.int .i64 t29f0), (.int .i64 t29f1)])] h7 (fun v_2 h8 => ∃ (t30 : Int) (t30_1 : Int), v_2 = (.tuple #[(.int .i64 t30), (.int .i64 t30_1)]) ∧
 SpecH PP F_law17_awake [] h8 (fun v_3 h9 => ∃ (t33 : Bool), v_3 = (.bool t33) ∧
 br t33 (
 ∃ (t37f0 : Int) (t37f1 : Int), rdCells h9 u4 0 [(.int .i64 t37f0), (.int .i64 t37f1)] ∧
 SpecH PP F_quota_Book_Set [(.pointer none), (.string tenant0), (.agg #[(.int .i64 t37f0), (.int .i64 t37f1)])] h9 (fun v_4 h10 => ∃ (t38 : Int), v_4 = (.int .i64 t38) ∧
 let t39 : Bool := (t38 == 3)
 br t39 (
 ∃ (t42f0 : Int) (t42f1 : Int), rdCells h10 x8 0 [(.int .i64 t42f0), (.int .i64 t42f1)] ∧
 let t44 : Bool := ((t42f0 == 0) && ((t42f1 == 0) && true))
 br t44 (
 let t48 : Bool := (t17_1 == 3)
 br t48 (
 ∃ (t51f0 : Int) (t51f1 : Int), rdCells h10 y10 0 [(.int .i64 t51f0), (.int .i64 t51f1)] ∧
 let t53 : Bool := ((t51f0 == 0) && ((t51f1 == 0) && true))
 br t53 (
 let t57 : Bool := (t23_1 == 3)
 br t57 (
 let t61 : Bool := (t30 == 0)
 br t61 (
 let t65 : Bool := (t30_1 == 3)
 br t65 (
 SpecH PP F_quota_Book_Take [(.pointer none), (.int .i64 id2)] h10 (fun v_5 h11 => ∃ (t70 : Int), v_5 = (.int .i64 t70) ∧
 let t71 : Bool := (t70 == 3)
 br t71 (
 SpecH PP F_quota_Book_Free [(.pointer none), (.int .i64 id2)] h11 (fun v_6 h12 => ∃ (t76 : Int), v_6 = (.int .i64 t76) ∧
 let t77 : Bool := (t76 == 3)
 Q (.bool t77) h12)) (
 Q (.bool false) h11))) (
 Q (.bool false) h10)) (
 Q (.bool false) h10)) (
 Q (.bool false) h10)) (
 Q (.bool false) h10)) (
 Q (.bool false) h10)) (
 Q (.bool false) h10)) (
 Q (.bool false) h10))) (
 Q (.bool false) h9)))) h6)) h3)
theorem law17_QuotaNil_eq (tenant0 : ByteArray) (u1f0 : Int) (u1f1 : Int) (id2 : Int) (Q : Value → Heap → Prop) (h : Heap) : ev PP true none (bodyOf Try.f7) law17_QuotaNil_ann (initFr 79 [(.string tenant0), (.agg #[(.int .i64 u1f0), (.int .i64 u1f1)]), (.int .i64 id2)]) (bodyK PP Try.f7 Q) h = law17_QuotaNil_main tenant0 u1f0 u1f1 id2 Q h := by kernel_rfl
theorem law17_QuotaNil_door {tenant0 : ByteArray} {u1f0 : Int} {u1f1 : Int} {id2 : Int} {Q : Value → Heap → Prop} {h : Heap} (H : law17_QuotaNil_main tenant0 u1f0 u1f1 id2 Q h) : SpecH PP F_law17_QuotaNil [(.string tenant0), (.agg #[(.int .i64 u1f0), (.int .i64 u1f1)]), (.int .i64 id2)] h Q :=
   spec_of_ev Try.func7 rfl rfl ((law17_QuotaNil_eq tenant0 u1f0 u1f1 id2 Q h).symm ▸ H)
/-! ### haversack/haversackref17.Check: function 8 -/
def ref17_Check_ann : Ann := (.seq 1 (.region [(List.range 1, 1)]) (.seq 1 (.seq 257 (.region [(List.range 3, 257)]) (.cond (.seq 4 (.region [(List.range 1, 4)]) (.exit 4)) .leaf)) (.seq 0 (.seq 9 (.region [(List.range 1, 9)]) (.block (.loop 9 (.seq 9 (.seq 4105 (.region [(List.range 4, 4105)]) (.cond .leaf (.exit 0))) (.seq 9 (.block (.seq 25 (.region [(List.range 6, 25)]) (.seq 25 (.seq 281474976710681 (.region [(List.range 30, 281474976710681)]) (.join (.cond (.seq 4 (.region [(List.range 1, 4)]) (.exit 4)) .leaf))) (.seq 57 (.region [(List.range 1, 57)]) (.block (.loop 57 (.seq 57 (.seq 2251799813685305 (.region [(List.range 3, 2251799813685305)]) (.cond .leaf (.exit 9))) (.seq 57 (.block (.seq 2305843009213694009 (.region [(List.range 8, 2305843009213694009)]) (.cond (.seq 4 (.region [(List.range 1, 4)]) (.exit 4)) .leaf))) (.region [(List.range 3, 57)]))))))))) (.region [(List.range 3, 9)])))))) (.seq 4 (.region [(List.range 1, 4)]) (.exit 4)))))
@[irreducible] def ref17_Check_X0  : Fr := (mkFr 0 62 [])
@[irreducible] def ref17_Check_Xret (t2 : Int) : Fr := (mkFr 0 62 [(2, (.int .i64 t2))])
@[irreducible] def ref17_Check_X2 (xl0 : Option Addr) (xl0n : Nat) (xl0c : Nat) (i3 : Int) : Fr := (mkFr 0 62 [(0, (.slice xl0 xl0n xl0c)), (3, (.int .i64 i3))])
@[irreducible] def ref17_Check_L11010 (xl0 : Option Addr) (xl0n : Nat) (xl0c : Nat) (i3 : Int) (K : Ex → Fr → Heap → Prop) (h : Heap) : Prop := Lp PP true (sub (bodyOf Try.f8) [1, 1, 0, 1, 0, 0]) (mkFr 0 62 [(0, (.slice xl0 xl0n xl0c)), (3, (.int .i64 i3))]) K h
@[irreducible] def ref17_Check_B11010 (K : Ex → Fr → Heap → Prop) : Ex → Fr → Heap → Prop := seqK (fun fr h => Lp PP true (sub (bodyOf Try.f8) [1, 1, 0, 1, 0, 0]) (fr.mask 9) K h) K
@[irreducible] def ref17_Check_K1101001 (K : Ex → Fr → Heap → Prop) : Ex → Fr → Heap → Prop := seqK (fun fr h => ev PP true none (sub (bodyOf Try.f8) [1, 1, 0, 1, 0, 0, 1, 1]) (subA ref17_Check_ann [1, 1, 0, 1, 0, 0, 1, 1]) (fr.mask 9) (ref17_Check_B11010 K) h) (ref17_Check_B11010 K)
@[irreducible] def ref17_Check_K11010010 (K : Ex → Fr → Heap → Prop) : Ex → Fr → Heap → Prop := blockK 1 (ref17_Check_K1101001 K)
@[irreducible] def ref17_Check_K1101001001 (K : Ex → Fr → Heap → Prop) : Ex → Fr → Heap → Prop := seqK (fun fr h => ev PP true none (sub (bodyOf Try.f8) [1, 1, 0, 1, 0, 0, 1, 0, 0, 1, 1]) (subA ref17_Check_ann [1, 1, 0, 1, 0, 0, 1, 0, 0, 1, 1]) (fr.mask 25) (ref17_Check_K11010010 K) h) (ref17_Check_K11010010 K)
@[irreducible] def ref17_Check_J110100100101 (xl0 : Option Addr) (xl0n : Nat) (xl0c : Nat) (i3 : Int) (x4 : Addr) (t48 : Bool) (K : Ex → Fr → Heap → Prop) (h : Heap) : Prop := Jn PP true (sub (bodyOf Try.f8) [1, 1, 0, 1, 0, 0, 1, 0, 0, 1, 0, 1]) (mkFr 0 62 [(0, (.slice xl0 xl0n xl0c)), (3, (.int .i64 i3)), (4, (.pointer (some x4))), (48, (.bool t48))]) (ref17_Check_K1101001001 K) h
@[irreducible] def ref17_Check_K11 (Q : Value → Heap → Prop) : Ex → Fr → Heap → Prop := seqK (fun fr h => ev PP true none (sub (bodyOf Try.f8) [1, 1, 1]) (subA ref17_Check_ann [1, 1, 1]) (fr.mask 0) (bodyK PP Try.f8 Q) h) (bodyK PP Try.f8 Q)
@[irreducible] def ref17_Check_K1101 (Q : Value → Heap → Prop) : Ex → Fr → Heap → Prop := blockK 0 (ref17_Check_K11 Q)
@[irreducible] def ref17_Check_K110100100111 (K : Ex → Fr → Heap → Prop) : Ex → Fr → Heap → Prop := blockK 2 (ref17_Check_K11010010 K)
@[irreducible] def ref17_Check_L1101001001110 (xl0 : Option Addr) (xl0n : Nat) (xl0c : Nat) (i3 : Int) (x4 : Addr) (k5 : Int) (K : Ex → Fr → Heap → Prop) (h : Heap) : Prop := Lp PP true (sub (bodyOf Try.f8) [1, 1, 0, 1, 0, 0, 1, 0, 0, 1, 1, 1, 0, 0]) (mkFr 0 62 [(0, (.slice xl0 xl0n xl0c)), (3, (.int .i64 i3)), (4, (.pointer (some x4))), (5, (.int .i64 k5))]) K h
@[irreducible] def ref17_Check_B1101001001110 (K : Ex → Fr → Heap → Prop) : Ex → Fr → Heap → Prop := seqK (fun fr h => Lp PP true (sub (bodyOf Try.f8) [1, 1, 0, 1, 0, 0, 1, 0, 0, 1, 1, 1, 0, 0]) (fr.mask 57) K h) K
@[reducible] def ref17_Check_L11010_txt (xl0 : Option Addr) (xl0n : Nat) (xl0c : Nat) (i3 : Int) (K : Ex → Fr → Heap → Prop) (h : Heap) : Prop :=
 let t12 : Bool := decide (i3 < (xl0n : Int))
 br t12 (
 hwp PP (Instr.indexAt T_sl_api_Tenant (.slice xl0 xl0n xl0c) (.int .i64 i3)) (fun v h1 => ∃ (t17 : Addr), v = (.pointer (some t17)) ∧
 ∃ (t18f0 : ByteArray) (t18f1 : ByteArray) (t18f2 : Int) (t18f3 : Int), rdCells h1 t17 0 [(.string t18f0), (.string t18f1), (.int .i64 t18f2), (.int .i64 t18f3)] ∧
 let x4 : Addr := ⟨Array.size h1, 0, none⟩
 let h2 : Heap := Array.push h1 (.cells #[(.string (⟨#[]⟩ : ByteArray)), (.string (⟨#[]⟩ : ByteArray)), (.int .i64 0), (.int .i64 0)] T_api_Tenant (0, 0))
 wrCells x4 0 [(.string t18f0), (.string t18f1), (.int .i64 t18f2), (.int .i64 t18f3)] (fun h3 =>
 ∃ (t20 : ByteArray), cellH h3 x4 = some (.string t20) ∧
 SpecH PP F_ref11_Short [(.string t20)] h3 (fun v_1 h4 => ∃ (t21 : Bool), v_1 = (.bool t21) ∧
 let t22 : Bool := (!t21)
 br t22 (
 ref17_Check_J110100100101 xl0 xl0n xl0c i3 x4 true K h4) (
 ∃ (t25 : ByteArray), cellH h4 (Addr.add x4 1) = some (.string t25) ∧
 let t26 : Int := (ByteArray.size t25 : Int)
 let t27 : Bool := decide (t26 > 64)
 br t27 (
 ref17_Check_J110100100101 xl0 xl0n xl0c i3 x4 true K h4) (
 ∃ (t31 : Int), cellH h4 (Addr.add x4 2) = some (.int .i64 t31) ∧
 let t32 : Bool := decide (t31 < 0)
 br t32 (
 ref17_Check_J110100100101 xl0 xl0n xl0c i3 x4 true K h4) (
 ∃ (t36 : Int), cellH h4 (Addr.add x4 2) = some (.int .i64 t36) ∧
 let t37 : Bool := decide (t36 > 1000000000)
 br t37 (
 ref17_Check_J110100100101 xl0 xl0n xl0c i3 x4 true K h4) (
 ∃ (t41 : Int), cellH h4 (Addr.add x4 3) = some (.int .i64 t41) ∧
 let t42 : Bool := decide (t41 < 0)
 br t42 (
 ref17_Check_J110100100101 xl0 xl0n xl0c i3 x4 true K h4) (
 ∃ (t46 : Int), cellH h4 (Addr.add x4 3) = some (.int .i64 t46) ∧
 let t47 : Bool := decide (t46 > 1000000000)
 ref17_Check_J110100100101 xl0 xl0n xl0c i3 x4 t47 K h4))))))) h2) h) (
 K (.exit 0) (ref17_Check_X0) h)
theorem ref17_Check_L11010_eq (xl0 : Option Addr) (xl0n : Nat) (xl0c : Nat) (i3 : Int) (K : Ex → Fr → Heap → Prop) (h : Heap) : ev PP true none (sub (bodyOf Try.f8) [1, 1, 0, 1, 0, 0]) (subA ref17_Check_ann [1, 1, 0, 1, 0, 0]) (mkFr 0 62 [(0, (.slice xl0 xl0n xl0c)), (3, (.int .i64 i3))]) (seqK (fun fr h => Lp PP true (sub (bodyOf Try.f8) [1, 1, 0, 1, 0, 0]) (fr.mask 9) K h) K) h = ref17_Check_L11010_txt xl0 xl0n xl0c i3 K h := by kernel_rfl
theorem ref17_Check_L11010_of {xl0 : Option Addr} {xl0n : Nat} {xl0c : Nat} {i3 : Int} {K : Ex → Fr → Heap → Prop} {h : Heap} (H : ref17_Check_L11010_txt xl0 xl0n xl0c i3 K h) : ref17_Check_L11010 xl0 xl0n xl0c i3 K h := by
   unfold ref17_Check_L11010; refine Lp.of_ev (x := subA ref17_Check_ann [1, 1, 0, 1, 0, 0]) (keep := 9) ?_; exact (ref17_Check_L11010_eq xl0 xl0n xl0c i3 K h).symm ▸ H
theorem ref17_Check_at11010_X0 (Q : Value → Heap → Prop)  (h : Heap) : (ref17_Check_K1101 Q) (.exit 0) (ref17_Check_X0 ) h = (
 Q (.int .i64 0) h) := by kernel_rfl
@[reducible] def ref17_Check_J110100100101_txt (xl0 : Option Addr) (xl0n : Nat) (xl0c : Nat) (i3 : Int) (x4 : Addr) (t48 : Bool) (K : Ex → Fr → Heap → Prop) (h : Heap) : Prop :=
 br t48 (
 K .ret (ref17_Check_Xret 1) h) (
 ref17_Check_L1101001001110 xl0 xl0n xl0c i3 x4 0 (ref17_Check_K110100100111 K) h)
theorem ref17_Check_J110100100101_eq (xl0 : Option Addr) (xl0n : Nat) (xl0c : Nat) (i3 : Int) (x4 : Addr) (t48 : Bool) (K : Ex → Fr → Heap → Prop) (h : Heap) : ev PP true none (sub (bodyOf Try.f8) [1, 1, 0, 1, 0, 0, 1, 0, 0, 1, 0, 1]) (subA ref17_Check_ann [1, 1, 0, 1, 0, 0, 1, 0, 0, 1, 0, 1]) (mkFr 0 62 [(0, (.slice xl0 xl0n xl0c)), (3, (.int .i64 i3)), (4, (.pointer (some x4))), (48, (.bool t48))]) (ref17_Check_K1101001001 K) h = ref17_Check_J110100100101_txt xl0 xl0n xl0c i3 x4 t48 K h := by kernel_rfl
theorem ref17_Check_J110100100101_of {xl0 : Option Addr} {xl0n : Nat} {xl0c : Nat} {i3 : Int} {x4 : Addr} {t48 : Bool} {K : Ex → Fr → Heap → Prop} {h : Heap} (H : ref17_Check_J110100100101_txt xl0 xl0n xl0c i3 x4 t48 K h) : ref17_Check_J110100100101 xl0 xl0n xl0c i3 x4 t48 K h := by
   unfold ref17_Check_J110100100101; refine Jn.of_ev (x := subA ref17_Check_ann [1, 1, 0, 1, 0, 0, 1, 0, 0, 1, 0, 1]) ?_; exact (ref17_Check_J110100100101_eq xl0 xl0n xl0c i3 x4 t48 K h).symm ▸ H
theorem ref17_Check_at11010_Xret (Q : Value → Heap → Prop) (t2 : Int) (h : Heap) : (ref17_Check_K1101 Q) .ret (ref17_Check_Xret t2) h = (
 Q (.int .i64 t2) h) := by kernel_rfl
@[reducible] def ref17_Check_L1101001001110_txt (xl0 : Option Addr) (xl0n : Nat) (xl0c : Nat) (i3 : Int) (x4 : Addr) (k5 : Int) (K : Ex → Fr → Heap → Prop) (h : Heap) : Prop :=
 let t51 : Bool := decide (k5 < i3)
 br t51 (
 hwp PP (Instr.indexAt T_sl_api_Tenant (.slice xl0 xl0n xl0c) (.int .i64 k5)) (fun v h1 => ∃ (t56 : Addr), v = (.pointer (some t56)) ∧
 ∃ (t58 : ByteArray), cellH h1 t56 = some (.string t58) ∧
 ∃ (t60 : ByteArray), cellH h1 x4 = some (.string t60) ∧
 let t61 : Bool := decide (t58 = t60)
 br t61 (
 K .ret (ref17_Check_Xret 1) h1) (
 let t53 : Int := IntKind.i64.wrap (k5 + 1)
 ref17_Check_L1101001001110 xl0 xl0n xl0c i3 x4 t53 K h1)) h) (
 K (.exit 2) (ref17_Check_X2 xl0 xl0n xl0c i3) h)
theorem ref17_Check_L1101001001110_eq (xl0 : Option Addr) (xl0n : Nat) (xl0c : Nat) (i3 : Int) (x4 : Addr) (k5 : Int) (K : Ex → Fr → Heap → Prop) (h : Heap) : ev PP true none (sub (bodyOf Try.f8) [1, 1, 0, 1, 0, 0, 1, 0, 0, 1, 1, 1, 0, 0]) (subA ref17_Check_ann [1, 1, 0, 1, 0, 0, 1, 0, 0, 1, 1, 1, 0, 0]) (mkFr 0 62 [(0, (.slice xl0 xl0n xl0c)), (3, (.int .i64 i3)), (4, (.pointer (some x4))), (5, (.int .i64 k5))]) (seqK (fun fr h => Lp PP true (sub (bodyOf Try.f8) [1, 1, 0, 1, 0, 0, 1, 0, 0, 1, 1, 1, 0, 0]) (fr.mask 57) K h) K) h = ref17_Check_L1101001001110_txt xl0 xl0n xl0c i3 x4 k5 K h := by kernel_rfl
theorem ref17_Check_L1101001001110_of {xl0 : Option Addr} {xl0n : Nat} {xl0c : Nat} {i3 : Int} {x4 : Addr} {k5 : Int} {K : Ex → Fr → Heap → Prop} {h : Heap} (H : ref17_Check_L1101001001110_txt xl0 xl0n xl0c i3 x4 k5 K h) : ref17_Check_L1101001001110 xl0 xl0n xl0c i3 x4 k5 K h := by
   unfold ref17_Check_L1101001001110; refine Lp.of_ev (x := subA ref17_Check_ann [1, 1, 0, 1, 0, 0, 1, 0, 0, 1, 1, 1, 0, 0]) (keep := 57) ?_; exact (ref17_Check_L1101001001110_eq xl0 xl0n xl0c i3 x4 k5 K h).symm ▸ H
theorem ref17_Check_at1101001001110_Xret (K : Ex → Fr → Heap → Prop) (t2 : Int) (h : Heap) : (ref17_Check_K110100100111 K) .ret (ref17_Check_Xret t2) h = (
 K .ret (ref17_Check_Xret t2) h) := by kernel_rfl
theorem ref17_Check_at1101001001110_X2 (K : Ex → Fr → Heap → Prop) (xl0 : Option Addr) (xl0n : Nat) (xl0c : Nat) (i3 : Int) (h : Heap) : (ref17_Check_K110100100111 K) (.exit 2) (ref17_Check_X2 xl0 xl0n xl0c i3) h = (
 let t14 : Int := IntKind.i64.wrap (i3 + 1)
 ref17_Check_L11010 xl0 xl0n xl0c t14 K h) := by kernel_rfl
def ref17_Check_main (xl0 : Option Addr) (xl0n : Nat) (xl0c : Nat) (Q : Value → Heap → Prop) (h : Heap) : Prop :=
 let t8 : Bool := decide ((xl0n : Int) > 8)
 br t8 (
 Q (.int .i64 2) h) (
 ref17_Check_L11010 xl0 xl0n xl0c 0 (ref17_Check_K1101 Q) h)
theorem ref17_Check_eq (xl0 : Option Addr) (xl0n : Nat) (xl0c : Nat) (Q : Value → Heap → Prop) (h : Heap) : ev PP true none (bodyOf Try.f8) ref17_Check_ann (initFr 62 [(.slice xl0 xl0n xl0c)]) (bodyK PP Try.f8 Q) h = ref17_Check_main xl0 xl0n xl0c Q h := by kernel_rfl
theorem ref17_Check_door {xl0 : Option Addr} {xl0n : Nat} {xl0c : Nat} {Q : Value → Heap → Prop} {h : Heap} (H : ref17_Check_main xl0 xl0n xl0c Q h) : SpecH PP F_ref17_Check [(.slice xl0 xl0n xl0c)] h Q :=
   spec_of_ev Try.func8 rfl rfl ((ref17_Check_eq xl0 xl0n xl0c Q h).symm ▸ H)
/-! ### haversack/quota.Check: function 9 -/
def quota_Check_ann : Ann := (.seq 1 (.region [(List.range 1, 1)]) (.seq 1 (.seq 1025 (.region [(List.range 3, 1025)]) (.cond (.seq 4 (.region [(List.range 1, 4)]) (.exit 4)) .leaf)) (.seq 9 (.region [(List.range 2, 9)]) (.seq 0 (.seq 28680 (.region [(List.range 3, 28680)]) (.block (.loop 28680 (.seq 61448 (.region [(List.range 1, 61448)]) (.seq 28680 (.cond .leaf (.exit 0)) (.seq 28680 (.block (.seq 28712 (.region [(List.range 4, 28712)]) (.seq 28712 (.seq 7368744 (.region [(List.range 5, 7368744)]) (.block (.loop 7368744 (.seq 15757352 (.region [(List.range 1, 15757352)]) (.seq 7368744 (.cond .leaf (.exit 28712)) (.seq 7368744 (.block (.seq 7368872 (.region [(List.range 3, 7368872)]) (.seq 8796100390952 (.region [(List.range 18, 8796100390952)]) (.join (.cond (.seq 4 (.region [(List.range 1, 4)]) (.exit 4)) .leaf))))) (.region [(List.range 2, 7368744)]))))))) (.seq 28712 (.seq 151115727451828646866984 (.region [(List.range 33, 151115727451828646866984)]) (.join (.cond (.seq 4 (.region [(List.range 1, 4)]) (.exit 4)) .leaf))) (.region [(List.range 4, 28680)]))))) (.region [(List.range 2, 28680)]))))))) (.seq 4 (.region [(List.range 1, 4)]) (.exit 4))))))
@[irreducible] def quota_Check_X0  : Fr := (mkFr 0 82 [])
@[irreducible] def quota_Check_X2 (seen3 : Option Nat) (x5 : Addr) (t12 : Option Addr) (t12n : Nat) (t12c : Nat) (t13 : Int) (t14 : Int) : Fr := (mkFr 0 82 [(3, (.map seen3)), (5, (.pointer (some x5))), (12, (.slice t12 t12n t12c)), (13, (.int .i64 t13)), (14, (.int .i64 t14))])
@[irreducible] def quota_Check_Xret (t2 : Int) : Fr := (mkFr 0 82 [(2, (.int .i64 t2))])
@[irreducible] def quota_Check_L111010 (seen3 : Option Nat) (t12 : Option Addr) (t12n : Nat) (t12c : Nat) (t13 : Int) (t14 : Int) (K : Ex → Fr → Heap → Prop) (h : Heap) : Prop := Lp PP true (sub (bodyOf Try.f9) [1, 1, 1, 0, 1, 0, 0]) (mkFr 0 82 [(3, (.map seen3)), (12, (.slice t12 t12n t12c)), (13, (.int .i64 t13)), (14, (.int .i64 t14))]) K h
@[irreducible] def quota_Check_B111010 (K : Ex → Fr → Heap → Prop) : Ex → Fr → Heap → Prop := seqK (fun fr h => Lp PP true (sub (bodyOf Try.f9) [1, 1, 1, 0, 1, 0, 0]) (fr.mask 28680) K h) K
@[irreducible] def quota_Check_K111 (Q : Value → Heap → Prop) : Ex → Fr → Heap → Prop := seqK (fun fr h => ev PP true none (sub (bodyOf Try.f9) [1, 1, 1, 1]) (subA quota_Check_ann [1, 1, 1, 1]) (fr.mask 0) (bodyK PP Try.f9 Q) h) (bodyK PP Try.f9 Q)
@[irreducible] def quota_Check_K11101 (Q : Value → Heap → Prop) : Ex → Fr → Heap → Prop := blockK 0 (quota_Check_K111 Q)
@[irreducible] def quota_Check_K111010011 (K : Ex → Fr → Heap → Prop) : Ex → Fr → Heap → Prop := seqK (fun fr h => ev PP true none (sub (bodyOf Try.f9) [1, 1, 1, 0, 1, 0, 0, 1, 1, 1]) (subA quota_Check_ann [1, 1, 1, 0, 1, 0, 0, 1, 1, 1]) (fr.mask 28680) (quota_Check_B111010 K) h) (quota_Check_B111010 K)
@[irreducible] def quota_Check_K1110100110 (K : Ex → Fr → Heap → Prop) : Ex → Fr → Heap → Prop := blockK 1 (quota_Check_K111010011 K)
@[irreducible] def quota_Check_K111010011001 (K : Ex → Fr → Heap → Prop) : Ex → Fr → Heap → Prop := seqK (fun fr h => ev PP true none (sub (bodyOf Try.f9) [1, 1, 1, 0, 1, 0, 0, 1, 1, 0, 0, 1, 1]) (subA quota_Check_ann [1, 1, 1, 0, 1, 0, 0, 1, 1, 0, 0, 1, 1]) (fr.mask 28712) (quota_Check_K1110100110 K) h) (quota_Check_K1110100110 K)
@[irreducible] def quota_Check_K11101001100101 (K : Ex → Fr → Heap → Prop) : Ex → Fr → Heap → Prop := blockK 2 (quota_Check_K111010011001 K)
@[irreducible] def quota_Check_L111010011001010 (seen3 : Option Nat) (x5 : Addr) (t12 : Option Addr) (t12n : Nat) (t12c : Nat) (t13 : Int) (t14 : Int) (t20 : Option Addr) (t20n : Nat) (t20c : Nat) (t21 : Int) (t22 : Int) (K : Ex → Fr → Heap → Prop) (h : Heap) : Prop := Lp PP true (sub (bodyOf Try.f9) [1, 1, 1, 0, 1, 0, 0, 1, 1, 0, 0, 1, 0, 1, 0, 0]) (mkFr 0 82 [(3, (.map seen3)), (5, (.pointer (some x5))), (12, (.slice t12 t12n t12c)), (13, (.int .i64 t13)), (14, (.int .i64 t14)), (20, (.slice t20 t20n t20c)), (21, (.int .i64 t21)), (22, (.int .i64 t22))]) K h
@[irreducible] def quota_Check_B111010011001010 (K : Ex → Fr → Heap → Prop) : Ex → Fr → Heap → Prop := seqK (fun fr h => Lp PP true (sub (bodyOf Try.f9) [1, 1, 1, 0, 1, 0, 0, 1, 1, 0, 0, 1, 0, 1, 0, 0]) (fr.mask 7368744) K h) K
@[irreducible] def quota_Check_K111010011001010011 (K : Ex → Fr → Heap → Prop) : Ex → Fr → Heap → Prop := seqK (fun fr h => ev PP true none (sub (bodyOf Try.f9) [1, 1, 1, 0, 1, 0, 0, 1, 1, 0, 0, 1, 0, 1, 0, 0, 1, 1, 1]) (subA quota_Check_ann [1, 1, 1, 0, 1, 0, 0, 1, 1, 0, 0, 1, 0, 1, 0, 0, 1, 1, 1]) (fr.mask 7368744) (quota_Check_B111010011001010 K) h) (quota_Check_B111010011001010 K)
@[irreducible] def quota_Check_K1110100110010100110 (K : Ex → Fr → Heap → Prop) : Ex → Fr → Heap → Prop := blockK 3 (quota_Check_K111010011001010011 K)
@[irreducible] def quota_Check_J1110100110010100110011 (seen3 : Option Nat) (x5 : Addr) (t12 : Option Addr) (t12n : Nat) (t12c : Nat) (t13 : Int) (t14 : Int) (t20 : Option Addr) (t20n : Nat) (t20c : Nat) (t21 : Int) (t22 : Int) (t43 : Bool) (K : Ex → Fr → Heap → Prop) (h : Heap) : Prop := Jn PP true (sub (bodyOf Try.f9) [1, 1, 1, 0, 1, 0, 0, 1, 1, 0, 0, 1, 0, 1, 0, 0, 1, 1, 0, 0, 1, 1]) (mkFr 0 82 [(3, (.map seen3)), (5, (.pointer (some x5))), (12, (.slice t12 t12n t12c)), (13, (.int .i64 t13)), (14, (.int .i64 t14)), (20, (.slice t20 t20n t20c)), (21, (.int .i64 t21)), (22, (.int .i64 t22)), (43, (.bool t43))]) (quota_Check_K1110100110010100110 K) h
@[irreducible] def quota_Check_K1110100110011 (K : Ex → Fr → Heap → Prop) : Ex → Fr → Heap → Prop := seqK (fun fr h => ev PP true none (sub (bodyOf Try.f9) [1, 1, 1, 0, 1, 0, 0, 1, 1, 0, 0, 1, 1, 1]) (subA quota_Check_ann [1, 1, 1, 0, 1, 0, 0, 1, 1, 0, 0, 1, 1, 1]) (fr.mask 28712) (quota_Check_K1110100110 K) h) (quota_Check_K1110100110 K)
@[irreducible] def quota_Check_J111010011001101 (seen3 : Option Nat) (x5 : Addr) (t12 : Option Addr) (t12n : Nat) (t12c : Nat) (t13 : Int) (t14 : Int) (t77 : Bool) (K : Ex → Fr → Heap → Prop) (h : Heap) : Prop := Jn PP true (sub (bodyOf Try.f9) [1, 1, 1, 0, 1, 0, 0, 1, 1, 0, 0, 1, 1, 0, 1]) (mkFr 0 82 [(3, (.map seen3)), (5, (.pointer (some x5))), (12, (.slice t12 t12n t12c)), (13, (.int .i64 t13)), (14, (.int .i64 t14)), (77, (.bool t77))]) (quota_Check_K1110100110011 K) h
@[reducible] def quota_Check_L111010_txt (seen3 : Option Nat) (t12 : Option Addr) (t12n : Nat) (t12c : Nat) (t13 : Int) (t14 : Int) (K : Ex → Fr → Heap → Prop) (h : Heap) : Prop :=
 let t15 : Bool := decide (t14 < t13)
 br t15 (
 hwp PP (Instr.indexAt T_sl_api_Tenant (.slice t12 t12n t12c) (.int .i64 t14)) (fun v h1 => ∃ (t16 : Addr), v = (.pointer (some t16)) ∧
 ∃ (t17f0 : ByteArray) (t17f1 : ByteArray) (t17f2 : Int) (t17f3 : Int), rdCells h1 t16 0 [(.string t17f0), (.string t17f1), (.int .i64 t17f2), (.int .i64 t17f3)] ∧
 let x5 : Addr := ⟨Array.size h1, 0, none⟩
 let h2 : Heap := Array.push h1 (.cells #[(.string (⟨#[]⟩ : ByteArray)), (.string (⟨#[]⟩ : ByteArray)), (.int .i64 0), (.int .i64 0)] T_api_Tenant (0, 0))
 wrCells x5 0 [(.string t17f0), (.string t17f1), (.int .i64 t17f2), (.int .i64 t17f3)] (fun h3 =>
 ∃ (t19 : ByteArray), cellH h3 x5 = some (.string t19) ∧
 hwp PP (Go.convert T_string T_sl_uint8 (.string t19)) (fun v_1 h4 => ∃ (t20 : Option Addr) (t20n : Nat) (t20c : Nat), v_1 = (.slice t20 t20n t20c) ∧
 quota_Check_L111010011001010 seen3 x5 t12 t12n t12c t13 t14 t20 t20n t20c (t20n : Int) 0 (quota_Check_K11101001100101 K) h4) h3) h2) h) (
 K (.exit 0) (quota_Check_X0) h)
theorem quota_Check_L111010_eq (seen3 : Option Nat) (t12 : Option Addr) (t12n : Nat) (t12c : Nat) (t13 : Int) (t14 : Int) (K : Ex → Fr → Heap → Prop) (h : Heap) : ev PP true none (sub (bodyOf Try.f9) [1, 1, 1, 0, 1, 0, 0]) (subA quota_Check_ann [1, 1, 1, 0, 1, 0, 0]) (mkFr 0 82 [(3, (.map seen3)), (12, (.slice t12 t12n t12c)), (13, (.int .i64 t13)), (14, (.int .i64 t14))]) (seqK (fun fr h => Lp PP true (sub (bodyOf Try.f9) [1, 1, 1, 0, 1, 0, 0]) (fr.mask 28680) K h) K) h = quota_Check_L111010_txt seen3 t12 t12n t12c t13 t14 K h := by kernel_rfl
theorem quota_Check_L111010_of {seen3 : Option Nat} {t12 : Option Addr} {t12n : Nat} {t12c : Nat} {t13 : Int} {t14 : Int} {K : Ex → Fr → Heap → Prop} {h : Heap} (H : quota_Check_L111010_txt seen3 t12 t12n t12c t13 t14 K h) : quota_Check_L111010 seen3 t12 t12n t12c t13 t14 K h := by
   unfold quota_Check_L111010; refine Lp.of_ev (x := subA quota_Check_ann [1, 1, 1, 0, 1, 0, 0]) (keep := 28680) ?_; exact (quota_Check_L111010_eq seen3 t12 t12n t12c t13 t14 K h).symm ▸ H
theorem quota_Check_at111010_X0 (Q : Value → Heap → Prop)  (h : Heap) : (quota_Check_K11101 Q) (.exit 0) (quota_Check_X0 ) h = (
 Q (.int .i64 0) h) := by kernel_rfl
@[reducible] def quota_Check_L111010011001010_txt (seen3 : Option Nat) (x5 : Addr) (t12 : Option Addr) (t12n : Nat) (t12c : Nat) (t13 : Int) (t14 : Int) (t20 : Option Addr) (t20n : Nat) (t20c : Nat) (t21 : Int) (t22 : Int) (K : Ex → Fr → Heap → Prop) (h : Heap) : Prop :=
 let t23 : Bool := decide (t22 < t21)
 br t23 (
 hwp PP (Instr.indexAt T_sl_uint8 (.slice t20 t20n t20c) (.int .i64 t22)) (fun v h1 => ∃ (t24 : Addr), v = (.pointer (some t24)) ∧
 ∃ (t25 : Int), cellH h1 t24 = some (.int .u8 t25) ∧
 let t27 : Bool := decide (t25 < 97)
 br t27 (
 let t34 : Bool := decide (t25 < 48)
 br t34 (
 let t42 : Bool := (t25 != 45)
 quota_Check_J1110100110010100110011 seen3 x5 t12 t12n t12c t13 t14 t20 t20n t20c t21 t22 t42 K h1) (
 let t37 : Bool := decide (t25 > 57)
 br t37 (
 let t42_1 : Bool := (t25 != 45)
 quota_Check_J1110100110010100110011 seen3 x5 t12 t12n t12c t13 t14 t20 t20n t20c t21 t22 t42_1 K h1) (
 quota_Check_J1110100110010100110011 seen3 x5 t12 t12n t12c t13 t14 t20 t20n t20c t21 t22 false K h1))) (
 let t30 : Bool := decide (t25 > 122)
 br t30 (
 let t34_1 : Bool := decide (t25 < 48)
 br t34_1 (
 let t42_2 : Bool := (t25 != 45)
 quota_Check_J1110100110010100110011 seen3 x5 t12 t12n t12c t13 t14 t20 t20n t20c t21 t22 t42_2 K h1) (
 let t37_1 : Bool := decide (t25 > 57)
 br t37_1 (
 let t42_3 : Bool := (t25 != 45)
 quota_Check_J1110100110010100110011 seen3 x5 t12 t12n t12c t13 t14 t20 t20n t20c t21 t22 t42_3 K h1) (
 quota_Check_J1110100110010100110011 seen3 x5 t12 t12n t12c t13 t14 t20 t20n t20c t21 t22 false K h1))) (
 quota_Check_J1110100110010100110011 seen3 x5 t12 t12n t12c t13 t14 t20 t20n t20c t21 t22 false K h1))) h) (
 K (.exit 2) (quota_Check_X2 seen3 x5 t12 t12n t12c t13 t14) h)
theorem quota_Check_L111010011001010_eq (seen3 : Option Nat) (x5 : Addr) (t12 : Option Addr) (t12n : Nat) (t12c : Nat) (t13 : Int) (t14 : Int) (t20 : Option Addr) (t20n : Nat) (t20c : Nat) (t21 : Int) (t22 : Int) (K : Ex → Fr → Heap → Prop) (h : Heap) : ev PP true none (sub (bodyOf Try.f9) [1, 1, 1, 0, 1, 0, 0, 1, 1, 0, 0, 1, 0, 1, 0, 0]) (subA quota_Check_ann [1, 1, 1, 0, 1, 0, 0, 1, 1, 0, 0, 1, 0, 1, 0, 0]) (mkFr 0 82 [(3, (.map seen3)), (5, (.pointer (some x5))), (12, (.slice t12 t12n t12c)), (13, (.int .i64 t13)), (14, (.int .i64 t14)), (20, (.slice t20 t20n t20c)), (21, (.int .i64 t21)), (22, (.int .i64 t22))]) (seqK (fun fr h => Lp PP true (sub (bodyOf Try.f9) [1, 1, 1, 0, 1, 0, 0, 1, 1, 0, 0, 1, 0, 1, 0, 0]) (fr.mask 7368744) K h) K) h = quota_Check_L111010011001010_txt seen3 x5 t12 t12n t12c t13 t14 t20 t20n t20c t21 t22 K h := by kernel_rfl
theorem quota_Check_L111010011001010_of {seen3 : Option Nat} {x5 : Addr} {t12 : Option Addr} {t12n : Nat} {t12c : Nat} {t13 : Int} {t14 : Int} {t20 : Option Addr} {t20n : Nat} {t20c : Nat} {t21 : Int} {t22 : Int} {K : Ex → Fr → Heap → Prop} {h : Heap} (H : quota_Check_L111010011001010_txt seen3 x5 t12 t12n t12c t13 t14 t20 t20n t20c t21 t22 K h) : quota_Check_L111010011001010 seen3 x5 t12 t12n t12c t13 t14 t20 t20n t20c t21 t22 K h := by
   unfold quota_Check_L111010011001010; refine Lp.of_ev (x := subA quota_Check_ann [1, 1, 1, 0, 1, 0, 0, 1, 1, 0, 0, 1, 0, 1, 0, 0]) (keep := 7368744) ?_; exact (quota_Check_L111010011001010_eq seen3 x5 t12 t12n t12c t13 t14 t20 t20n t20c t21 t22 K h).symm ▸ H
theorem quota_Check_at111010011001010_X2 (K : Ex → Fr → Heap → Prop) (seen3 : Option Nat) (x5 : Addr) (t12 : Option Addr) (t12n : Nat) (t12c : Nat) (t13 : Int) (t14 : Int) (h : Heap) : (quota_Check_K11101001100101 K) (.exit 2) (quota_Check_X2 seen3 x5 t12 t12n t12c t13 t14) h = (
 ∃ (t46 : ByteArray), cellH h x5 = some (.string t46) ∧
 let t47 : Bool := decide (t46 = (⟨#[]⟩ : ByteArray))
 br t47 (
 quota_Check_J111010011001101 seen3 x5 t12 t12n t12c t13 t14 true K h) (
 ∃ (t50 : ByteArray), cellH h x5 = some (.string t50) ∧
 let t51 : Int := (ByteArray.size t50 : Int)
 let t52 : Bool := decide (t51 > 16)
 br t52 (
 quota_Check_J111010011001101 seen3 x5 t12 t12n t12c t13 t14 true K h) (
 ∃ (t57 : ByteArray), cellH h x5 = some (.string t57) ∧
 hwp PP (Instr.lookup T_map_string_bool (.map seen3) (.string t57) false) (fun v h1 => ∃ (t58 : Bool), v = (.bool t58) ∧
 br t58 (
 quota_Check_J111010011001101 seen3 x5 t12 t12n t12c t13 t14 true K h1) (
 ∃ (t62 : ByteArray), cellH h1 (Addr.add x5 1) = some (.string t62) ∧
 let t63 : Int := (ByteArray.size t62 : Int)
 let t64 : Bool := decide (t63 > 64)
 br t64 (
 quota_Check_J111010011001101 seen3 x5 t12 t12n t12c t13 t14 true K h1) (
 ∃ (t68 : Int), cellH h1 (Addr.add x5 2) = some (.int .i64 t68) ∧
 SpecH PP F_quota_within [(.int .i64 t68)] h1 (fun v_1 h2 => ∃ (t69 : Bool), v_1 = (.bool t69) ∧
 let t70 : Bool := (!t69)
 br t70 (
 quota_Check_J111010011001101 seen3 x5 t12 t12n t12c t13 t14 true K h2) (
 ∃ (t74 : Int), cellH h2 (Addr.add x5 3) = some (.int .i64 t74) ∧
 SpecH PP F_quota_within [(.int .i64 t74)] h2 (fun v_2 h3 => ∃ (t75 : Bool), v_2 = (.bool t75) ∧
 let t76 : Bool := (!t75)
 quota_Check_J111010011001101 seen3 x5 t12 t12n t12c t13 t14 t76 K h3)))))) h))) := by kernel_rfl
@[reducible] def quota_Check_J1110100110010100110011_txt (seen3 : Option Nat) (x5 : Addr) (t12 : Option Addr) (t12n : Nat) (t12c : Nat) (t13 : Int) (t14 : Int) (t20 : Option Addr) (t20n : Nat) (t20c : Nat) (t21 : Int) (t22 : Int) (t43 : Bool) (K : Ex → Fr → Heap → Prop) (h : Heap) : Prop :=
 br t43 (
 K .ret (quota_Check_Xret 1) h) (
 let t44 : Int := IntKind.i64.wrap (t22 + 1)
 quota_Check_L111010011001010 seen3 x5 t12 t12n t12c t13 t14 t20 t20n t20c t21 t44 K h)
theorem quota_Check_J1110100110010100110011_eq (seen3 : Option Nat) (x5 : Addr) (t12 : Option Addr) (t12n : Nat) (t12c : Nat) (t13 : Int) (t14 : Int) (t20 : Option Addr) (t20n : Nat) (t20c : Nat) (t21 : Int) (t22 : Int) (t43 : Bool) (K : Ex → Fr → Heap → Prop) (h : Heap) : ev PP true none (sub (bodyOf Try.f9) [1, 1, 1, 0, 1, 0, 0, 1, 1, 0, 0, 1, 0, 1, 0, 0, 1, 1, 0, 0, 1, 1]) (subA quota_Check_ann [1, 1, 1, 0, 1, 0, 0, 1, 1, 0, 0, 1, 0, 1, 0, 0, 1, 1, 0, 0, 1, 1]) (mkFr 0 82 [(3, (.map seen3)), (5, (.pointer (some x5))), (12, (.slice t12 t12n t12c)), (13, (.int .i64 t13)), (14, (.int .i64 t14)), (20, (.slice t20 t20n t20c)), (21, (.int .i64 t21)), (22, (.int .i64 t22)), (43, (.bool t43))]) (quota_Check_K1110100110010100110 K) h = quota_Check_J1110100110010100110011_txt seen3 x5 t12 t12n t12c t13 t14 t20 t20n t20c t21 t22 t43 K h := by kernel_rfl
theorem quota_Check_J1110100110010100110011_of {seen3 : Option Nat} {x5 : Addr} {t12 : Option Addr} {t12n : Nat} {t12c : Nat} {t13 : Int} {t14 : Int} {t20 : Option Addr} {t20n : Nat} {t20c : Nat} {t21 : Int} {t22 : Int} {t43 : Bool} {K : Ex → Fr → Heap → Prop} {h : Heap} (H : quota_Check_J1110100110010100110011_txt seen3 x5 t12 t12n t12c t13 t14 t20 t20n t20c t21 t22 t43 K h) : quota_Check_J1110100110010100110011 seen3 x5 t12 t12n t12c t13 t14 t20 t20n t20c t21 t22 t43 K h := by
   unfold quota_Check_J1110100110010100110011; refine Jn.of_ev (x := subA quota_Check_ann [1, 1, 1, 0, 1, 0, 0, 1, 1, 0, 0, 1, 0, 1, 0, 0, 1, 1, 0, 0, 1, 1]) ?_; exact (quota_Check_J1110100110010100110011_eq seen3 x5 t12 t12n t12c t13 t14 t20 t20n t20c t21 t22 t43 K h).symm ▸ H
@[reducible] def quota_Check_J111010011001101_txt (seen3 : Option Nat) (x5 : Addr) (t12 : Option Addr) (t12n : Nat) (t12c : Nat) (t13 : Int) (t14 : Int) (t77 : Bool) (K : Ex → Fr → Heap → Prop) (h : Heap) : Prop :=
 br t77 (
 K .ret (quota_Check_Xret 1) h) (
 ∃ (t80 : ByteArray), cellH h x5 = some (.string t80) ∧
 hwp PP (Instr.mapUpdate T_map_string_bool (.map seen3) (.string t80) (.bool true)) (fun _ h1 =>
 let t81 : Int := IntKind.i64.wrap (t14 + 1)
 quota_Check_L111010 seen3 t12 t12n t12c t13 t81 K h1) h)
theorem quota_Check_J111010011001101_eq (seen3 : Option Nat) (x5 : Addr) (t12 : Option Addr) (t12n : Nat) (t12c : Nat) (t13 : Int) (t14 : Int) (t77 : Bool) (K : Ex → Fr → Heap → Prop) (h : Heap) : ev PP true none (sub (bodyOf Try.f9) [1, 1, 1, 0, 1, 0, 0, 1, 1, 0, 0, 1, 1, 0, 1]) (subA quota_Check_ann [1, 1, 1, 0, 1, 0, 0, 1, 1, 0, 0, 1, 1, 0, 1]) (mkFr 0 82 [(3, (.map seen3)), (5, (.pointer (some x5))), (12, (.slice t12 t12n t12c)), (13, (.int .i64 t13)), (14, (.int .i64 t14)), (77, (.bool t77))]) (quota_Check_K1110100110011 K) h = quota_Check_J111010011001101_txt seen3 x5 t12 t12n t12c t13 t14 t77 K h := by kernel_rfl
theorem quota_Check_J111010011001101_of {seen3 : Option Nat} {x5 : Addr} {t12 : Option Addr} {t12n : Nat} {t12c : Nat} {t13 : Int} {t14 : Int} {t77 : Bool} {K : Ex → Fr → Heap → Prop} {h : Heap} (H : quota_Check_J111010011001101_txt seen3 x5 t12 t12n t12c t13 t14 t77 K h) : quota_Check_J111010011001101 seen3 x5 t12 t12n t12c t13 t14 t77 K h := by
   unfold quota_Check_J111010011001101; refine Jn.of_ev (x := subA quota_Check_ann [1, 1, 1, 0, 1, 0, 0, 1, 1, 0, 0, 1, 1, 0, 1]) ?_; exact (quota_Check_J111010011001101_eq seen3 x5 t12 t12n t12c t13 t14 t77 K h).symm ▸ H
theorem quota_Check_at111010_Xret (Q : Value → Heap → Prop) (t2 : Int) (h : Heap) : (quota_Check_K11101 Q) .ret (quota_Check_Xret t2) h = (
 Q (.int .i64 t2) h) := by kernel_rfl
theorem quota_Check_at111010011001010_Xret (K : Ex → Fr → Heap → Prop) (t2 : Int) (h : Heap) : (quota_Check_K11101001100101 K) .ret (quota_Check_Xret t2) h = (
 K .ret (quota_Check_Xret t2) h) := by kernel_rfl
def quota_Check_main (xl0 : Option Addr) (xl0n : Nat) (xl0c : Nat) (Q : Value → Heap → Prop) (h : Heap) : Prop :=
 let t10 : Bool := decide ((xl0n : Int) > 8)
 br t10 (
 Q (.int .i64 2) h) (
 let h1 : Heap := Array.push h (.map #[] 0)
 quota_Check_L111010 (some (Array.size h)) xl0 xl0n xl0c (xl0n : Int) 0 (quota_Check_K11101 Q) h1)
theorem quota_Check_eq (xl0 : Option Addr) (xl0n : Nat) (xl0c : Nat) (Q : Value → Heap → Prop) (h : Heap) : ev PP true none (bodyOf Try.f9) quota_Check_ann (initFr 82 [(.slice xl0 xl0n xl0c)]) (bodyK PP Try.f9 Q) h = quota_Check_main xl0 xl0n xl0c Q h := by kernel_rfl
theorem quota_Check_door {xl0 : Option Addr} {xl0n : Nat} {xl0c : Nat} {Q : Value → Heap → Prop} {h : Heap} (H : quota_Check_main xl0 xl0n xl0c Q h) : SpecH PP F_quota_Check [(.slice xl0 xl0n xl0c)] h Q :=
   spec_of_ev Try.func9 rfl rfl ((quota_Check_eq xl0 xl0n xl0c Q h).symm ▸ H)
/-! ### haversack/quota.New: function 10 -/
def quota_New_ann : Ann := (.seq 1 (.region [(List.range 2, 1)]) (.seq 1 (.seq 17 (.region [(List.range 3, 17)]) (.seq 2065 (.region [(List.range 2, 2065)]) (.cond (.seq 12 (.region [(List.range 3, 12)]) (.exit 12)) .leaf))) (.seq 33 (.region [(List.range 5, 33)]) (.seq 32 (.seq 917536 (.region [(List.range 3, 917536)]) (.block (.loop 917536 (.seq 1966112 (.region [(List.range 1, 1966112)]) (.seq 917536 (.cond .leaf (.exit 32)) (.seq 917536 (.block (.seq 917664 (.region [(List.range 4, 917664)]) (.region [(List.range 14, 917536)]))) (.region [(List.range 2, 917536)]))))))) (.seq 12 (.region [(List.range 3, 12)]) (.exit 12))))))
@[irreducible] def quota_New_X0 (b5 : Addr) : Fr := (mkFr 0 38 [(5, (.pointer (some b5)))])
@[irreducible] def quota_New_L111010 (b5 : Addr) (t17 : Option Addr) (t17n : Nat) (t17c : Nat) (t18 : Int) (t19 : Int) (K : Ex → Fr → Heap → Prop) (h : Heap) : Prop := Lp PP true (sub (bodyOf Try.f10) [1, 1, 1, 0, 1, 0, 0]) (mkFr 0 38 [(5, (.pointer (some b5))), (17, (.slice t17 t17n t17c)), (18, (.int .i64 t18)), (19, (.int .i64 t19))]) K h
@[irreducible] def quota_New_B111010 (K : Ex → Fr → Heap → Prop) : Ex → Fr → Heap → Prop := seqK (fun fr h => Lp PP true (sub (bodyOf Try.f10) [1, 1, 1, 0, 1, 0, 0]) (fr.mask 917536) K h) K
@[irreducible] def quota_New_K111 (Q : Value → Heap → Prop) : Ex → Fr → Heap → Prop := seqK (fun fr h => ev PP true none (sub (bodyOf Try.f10) [1, 1, 1, 1]) (subA quota_New_ann [1, 1, 1, 1]) (fr.mask 32) (bodyK PP Try.f10 Q) h) (bodyK PP Try.f10 Q)
@[irreducible] def quota_New_K11101 (Q : Value → Heap → Prop) : Ex → Fr → Heap → Prop := blockK 0 (quota_New_K111 Q)
@[reducible] def quota_New_L111010_txt (b5 : Addr) (t17 : Option Addr) (t17n : Nat) (t17c : Nat) (t18 : Int) (t19 : Int) (K : Ex → Fr → Heap → Prop) (h : Heap) : Prop :=
 let t20 : Bool := decide (t19 < t18)
 br t20 (
 hwp PP (Instr.indexAt T_sl_api_Tenant (.slice t17 t17n t17c) (.int .i64 t19)) (fun v h1 => ∃ (t21 : Addr), v = (.pointer (some t21)) ∧
 ∃ (t22f0 : ByteArray) (t22f1 : ByteArray) (t22f2 : Int) (t22f3 : Int), rdCells h1 t21 0 [(.string t22f0), (.string t22f1), (.int .i64 t22f2), (.int .i64 t22f3)] ∧
 let x7 : Addr := ⟨Array.size h1, 0, none⟩
 let h2 : Heap := Array.push h1 (.cells #[(.string (⟨#[]⟩ : ByteArray)), (.string (⟨#[]⟩ : ByteArray)), (.int .i64 0), (.int .i64 0)] T_api_Tenant (0, 0))
 wrCells x7 0 [(.string t22f0), (.string t22f1), (.int .i64 t22f2), (.int .i64 t22f3)] (fun h3 =>
 ∃ (t26 : Option Nat), cellH h3 b5 = some (.map t26) ∧
 ∃ (t28 : ByteArray), cellH h3 x7 = some (.string t28) ∧
 ∃ (t30 : Int), cellH h3 (Addr.add x7 2) = some (.int .i64 t30) ∧
 ∃ (t32 : Int), cellH h3 (Addr.add x7 3) = some (.int .i64 t32) ∧
 let t35 : Addr := ⟨Array.size h3, 0, none⟩
 let h4 : Heap := Array.push h3 (.cells #[(.int .i64 t30), (.int .i64 t32), (.int .i64 0), (.int .i64 0), (.int .i64 0), (.int .i64 0)] T_quota_account (0, 0))
 hwp PP (Instr.mapUpdate T_map_string_p_quota_account (.map t26) (.string t28) (.pointer (some t35))) (fun _ h5 =>
 let t36 : Int := IntKind.i64.wrap (t19 + 1)
 quota_New_L111010 b5 t17 t17n t17c t18 t36 K h5) h4) h2) h) (
 K (.exit 0) (quota_New_X0 b5) h)
theorem quota_New_L111010_eq (b5 : Addr) (t17 : Option Addr) (t17n : Nat) (t17c : Nat) (t18 : Int) (t19 : Int) (K : Ex → Fr → Heap → Prop) (h : Heap) : ev PP true none (sub (bodyOf Try.f10) [1, 1, 1, 0, 1, 0, 0]) (subA quota_New_ann [1, 1, 1, 0, 1, 0, 0]) (mkFr 0 38 [(5, (.pointer (some b5))), (17, (.slice t17 t17n t17c)), (18, (.int .i64 t18)), (19, (.int .i64 t19))]) (seqK (fun fr h => Lp PP true (sub (bodyOf Try.f10) [1, 1, 1, 0, 1, 0, 0]) (fr.mask 917536) K h) K) h = quota_New_L111010_txt b5 t17 t17n t17c t18 t19 K h := by kernel_rfl
theorem quota_New_L111010_of {b5 : Addr} {t17 : Option Addr} {t17n : Nat} {t17c : Nat} {t18 : Int} {t19 : Int} {K : Ex → Fr → Heap → Prop} {h : Heap} (H : quota_New_L111010_txt b5 t17 t17n t17c t18 t19 K h) : quota_New_L111010 b5 t17 t17n t17c t18 t19 K h := by
   unfold quota_New_L111010; refine Lp.of_ev (x := subA quota_New_ann [1, 1, 1, 0, 1, 0, 0]) (keep := 917536) ?_; exact (quota_New_L111010_eq b5 t17 t17n t17c t18 t19 K h).symm ▸ H
theorem quota_New_at111010_X0 (Q : Value → Heap → Prop) (b5 : Addr) (h : Heap) : (quota_New_K11101 Q) (.exit 0) (quota_New_X0 b5) h = (
 Q (.tuple #[(.pointer (some b5)), (.int .i64 0)]) h) := by kernel_rfl
def quota_New_main (xl0 : Option Addr) (xl0n : Nat) (xl0c : Nat) (Q : Value → Heap → Prop) (h : Heap) : Prop :=
 SpecH PP F_quota_Check [(.slice xl0 xl0n xl0c)] h (fun v h1 => ∃ (t9 : Int), v = (.int .i64 t9) ∧
 let t11 : Bool := (t9 != 0)
 br t11 (
 Q (.tuple #[(.pointer none), (.int .i64 t9)]) h1) (
 let h2 : Heap := Array.push h1 (.map #[] 0)
 let h3 : Heap := Array.push h2 (.map #[] 0)
 let t16 : Addr := ⟨Array.size h3, 0, none⟩
 let h4 : Heap := Array.push h3 (.cells #[(.map (some (Array.size h1))), (.map (some (Array.size h2))), (.int .i64 0)] T_quota_Book (0, 0))
 quota_New_L111010 t16 xl0 xl0n xl0c (xl0n : Int) 0 (quota_New_K11101 Q) h4))
theorem quota_New_eq (xl0 : Option Addr) (xl0n : Nat) (xl0c : Nat) (Q : Value → Heap → Prop) (h : Heap) : ev PP true none (bodyOf Try.f10) quota_New_ann (initFr 38 [(.slice xl0 xl0n xl0c)]) (bodyK PP Try.f10 Q) h = quota_New_main xl0 xl0n xl0c Q h := by kernel_rfl
theorem quota_New_door {xl0 : Option Addr} {xl0n : Nat} {xl0c : Nat} {Q : Value → Heap → Prop} {h : Heap} (H : quota_New_main xl0 xl0n xl0c Q h) : SpecH PP F_quota_New [(.slice xl0 xl0n xl0c)] h Q :=
   spec_of_ev Try.func10 rfl rfl ((quota_New_eq xl0 xl0n xl0c Q h).symm ▸ H)
/-! ### (*haversack/quota.Book).Use: function 11 -/
def quota_Book_Use_ann : Ann := (.seq 19 (.region [(List.range 2, 19)]) (.seq 208 (.region [(List.range 8, 208)]) (.seq 80 (.seq 32976 (.region [(List.range 2, 32976)]) (.cond (.seq 48 (.region [(List.range 4, 48)]) (.exit 48)) .leaf)) (.seq 48 (.region [(List.range 6, 48)]) (.exit 48)))))
def quota_Book_Use_main (b0 : Option Addr) (tenant1 : ByteArray) (Q : Value → Heap → Prop) (h : Heap) : Prop :=
 let t4 : Addr := ⟨Array.size h, 0, none⟩
 let h1 : Heap := Array.push h (.cells #[(.int .i64 0), (.int .i64 0)] T_api_Use (0, 0))
 SpecH PP F_quota_Book_find [(.pointer b0), (.string tenant1)] h1 (fun v h2 => ∃ (t11 : Option Addr) (t11_1 : Int), v = (.tuple #[(.pointer t11), (.int .i64 t11_1)]) ∧
 let t15 : Bool := (t11_1 != 0)
 br t15 (
 wrCells t4 0 [(.int .i64 0), (.int .i64 0)] (fun h3 =>
 ∃ (t4_1f0 : Int) (t4_1f1 : Int), rdCells h3 t4 0 [(.int .i64 t4_1f0), (.int .i64 t4_1f1)] ∧
 Q (.tuple #[(.agg #[(.int .i64 t4_1f0), (.int .i64 t4_1f1)]), (.int .i64 t11_1)]) h3) h2) (
 nilc t11 (fun t19 =>
 ∃ (t21f0 : Int) (t21f1 : Int), rdCells h2 (Addr.add t19 2) 0 [(.int .i64 t21f0), (.int .i64 t21f1)] ∧
 wrCells t4 0 [(.int .i64 t21f0), (.int .i64 t21f1)] (fun h4 =>
 ∃ (t4_2f0 : Int) (t4_2f1 : Int), rdCells h4 t4 0 [(.int .i64 t4_2f0), (.int .i64 t4_2f1)] ∧
 Q (.tuple #[(.agg #[(.int .i64 t4_2f0), (.int .i64 t4_2f1)]), (.int .i64 0)]) h4) h2)))
theorem quota_Book_Use_eq (b0 : Option Addr) (tenant1 : ByteArray) (Q : Value → Heap → Prop) (h : Heap) : ev PP true none (bodyOf Try.f11) quota_Book_Use_ann (initFr 22 [(.pointer b0), (.string tenant1)]) (bodyK PP Try.f11 Q) h = quota_Book_Use_main b0 tenant1 Q h := by kernel_rfl
theorem quota_Book_Use_door {b0 : Option Addr} {tenant1 : ByteArray} {Q : Value → Heap → Prop} {h : Heap} (H : quota_Book_Use_main b0 tenant1 Q h) : SpecH PP F_quota_Book_Use [(.pointer b0), (.string tenant1)] h Q :=
   spec_of_ev Try.func11 rfl rfl ((quota_Book_Use_eq b0 tenant1 Q h).symm ▸ H)
/-! ### (*haversack/quota.Book).Left: function 12 -/
def quota_Book_Left_ann : Ann := (.seq 19 (.region [(List.range 2, 19)]) (.seq 208 (.region [(List.range 8, 208)]) (.seq 80 (.seq 32976 (.region [(List.range 2, 32976)]) (.cond (.seq 48 (.region [(List.range 4, 48)]) (.exit 48)) .leaf)) (.seq 48 (.region [(List.range 4, 48)]) (.exit 48)))))
def quota_Book_Left_main (b0 : Option Addr) (tenant1 : ByteArray) (Q : Value → Heap → Prop) (h : Heap) : Prop :=
 let t4 : Addr := ⟨Array.size h, 0, none⟩
 let h1 : Heap := Array.push h (.cells #[(.int .i64 0), (.int .i64 0)] T_api_Use (0, 0))
 SpecH PP F_quota_Book_find [(.pointer b0), (.string tenant1)] h1 (fun v h2 => ∃ (t11 : Option Addr) (t11_1 : Int), v = (.tuple #[(.pointer t11), (.int .i64 t11_1)]) ∧
 let t15 : Bool := (t11_1 != 0)
 br t15 (
 wrCells t4 0 [(.int .i64 0), (.int .i64 0)] (fun h3 =>
 ∃ (t4_1f0 : Int) (t4_1f1 : Int), rdCells h3 t4 0 [(.int .i64 t4_1f0), (.int .i64 t4_1f1)] ∧
 Q (.tuple #[(.agg #[(.int .i64 t4_1f0), (.int .i64 t4_1f1)]), (.int .i64 t11_1)]) h3) h2) (
 SpecH PP F_quota_account_left [(.pointer t11)] h2 (fun v_1 h4 => ∃ (t19f0 : Int) (t19f1 : Int), v_1 = (.agg #[(.int .i64 t19f0), (.int .i64 t19f1)]) ∧
 wrCells t4 0 [(.int .i64 t19f0), (.int .i64 t19f1)] (fun h5 =>
 ∃ (t4_2f0 : Int) (t4_2f1 : Int), rdCells h5 t4 0 [(.int .i64 t4_2f0), (.int .i64 t4_2f1)] ∧
 Q (.tuple #[(.agg #[(.int .i64 t4_2f0), (.int .i64 t4_2f1)]), (.int .i64 0)]) h5) h4)))
theorem quota_Book_Left_eq (b0 : Option Addr) (tenant1 : ByteArray) (Q : Value → Heap → Prop) (h : Heap) : ev PP true none (bodyOf Try.f12) quota_Book_Left_ann (initFr 20 [(.pointer b0), (.string tenant1)]) (bodyK PP Try.f12 Q) h = quota_Book_Left_main b0 tenant1 Q h := by kernel_rfl
theorem quota_Book_Left_door {b0 : Option Addr} {tenant1 : ByteArray} {Q : Value → Heap → Prop} {h : Heap} (H : quota_Book_Left_main b0 tenant1 Q h) : SpecH PP F_quota_Book_Left [(.pointer b0), (.string tenant1)] h Q :=
   spec_of_ev Try.func12 rfl rfl ((quota_Book_Left_eq b0 tenant1 Q h).symm ▸ H)
/-! ### haversack/haversacklaw17.awake: function 13 -/
def law17_awake_ann : Ann := (.seq 0 (.region [(List.range 1, 0)]) (.seq 6 (.region [(List.range 9, 6)]) (.seq 2 (.seq 134217730 (.region [(List.range 6, 134217730)]) (.join (.cond (.seq 1 (.region [(List.range 1, 1)]) (.exit 1)) .leaf))) (.seq 26 (.region [(List.range 8, 26)]) (.seq 90 (.region [(List.range 8, 90)]) (.seq 474 (.region [(List.range 8, 474)]) (.seq 986 (.region [(List.range 3, 986)]) (.seq 4058 (.region [(List.range 8, 4058)]) (.seq 8154 (.region [(List.range 3, 8154)]) (.seq 24536 (.region [(List.range 8, 24536)]) (.seq 1 (.region [(List.range 41, 1)]) (.exit 1))))))))))))
@[irreducible] def law17_awake_K11 (Q : Value → Heap → Prop) : Ex → Fr → Heap → Prop := seqK (fun fr h => ev PP true none (sub (bodyOf Try.f13) [1, 1, 1]) (subA law17_awake_ann [1, 1, 1]) (fr.mask 2) (bodyK PP Try.f13 Q) h) (bodyK PP Try.f13 Q)
@[irreducible] def law17_awake_J1101 (b1 : Option Addr) (t27 : Bool) (Q : Value → Heap → Prop) (h : Heap) : Prop := Jn PP true (sub (bodyOf Try.f13) [1, 1, 0, 1]) (mkFr 0 99 [(1, (.pointer b1)), (27, (.bool t27))]) (law17_awake_K11 Q) h
@[reducible] def law17_awake_J1101_txt (b1 : Option Addr) (t27 : Bool) (Q : Value → Heap → Prop) (h : Heap) : Prop :=
 br t27 (
 Q (.bool false) h) (
 SpecH PP F_quota_Book_Reserve [(.pointer b1), (.string (⟨#[97]⟩ : ByteArray)), (.agg #[(.int .i64 6), (.int .i64 1)])] h (fun v h1 => ∃ (t31 : Int) (t31_1 : Int), v = (.tuple #[(.int .i64 t31), (.int .i64 t31_1)]) ∧
 SpecH PP F_quota_Book_Reserve [(.pointer b1), (.string (⟨#[97]⟩ : ByteArray)), (.agg #[(.int .i64 6), (.int .i64 0)])] h1 (fun v_1 h2 => ∃ (t37 : Int) (t37_1 : Int), v_1 = (.tuple #[(.int .i64 t37), (.int .i64 t37_1)]) ∧
 SpecH PP F_quota_Book_Left [(.pointer b1), (.string (⟨#[97]⟩ : ByteArray))] h2 (fun v_2 h3 => ∃ (t42f0 : Int) (t42f1 : Int) (t42_1 : Int), v_2 = (.tuple #[(.agg #[(.int .i64 t42f0), (.int .i64 t42f1)]), (.int .i64 t42_1)]) ∧
 let left7 : Addr := ⟨Array.size h3, 0, none⟩
 let h4 : Heap := Array.push h3 (.cells #[(.int .i64 0), (.int .i64 0)] T_api_Use (0, 0))
 wrCells left7 0 [(.int .i64 t42f0), (.int .i64 t42f1)] (fun h5 =>
 SpecH PP F_quota_Book_Take [(.pointer b1), (.int .i64 1)] h5 (fun v_3 h6 => ∃ (t46 : Int), v_3 = (.int .i64 t46) ∧
 SpecH PP F_quota_Book_Use [(.pointer b1), (.string (⟨#[97]⟩ : ByteArray))] h6 (fun v_4 h7 => ∃ (t49f0 : Int) (t49f1 : Int) (t49_1 : Int), v_4 = (.tuple #[(.agg #[(.int .i64 t49f0), (.int .i64 t49f1)]), (.int .i64 t49_1)]) ∧
 let u10 : Addr := ⟨Array.size h7, 0, none⟩
 let h8 : Heap := Array.push h7 (.cells #[(.int .i64 0), (.int .i64 0)] T_api_Use (0, 0))
 wrCells u10 0 [(.int .i64 t49f0), (.int .i64 t49f1)] (fun h9 =>
 SpecH PP F_quota_Book_Take [(.pointer b1), (.int .i64 1)] h9 (fun v_5 h10 => ∃ (t53 : Int), v_5 = (.int .i64 t53) ∧
 SpecH PP F_quota_Book_Use [(.pointer b1), (.string (⟨#[99]⟩ : ByteArray))] h10 (fun v_6 h11 => ∃ (t56f0 : Int) (t56f1 : Int) (t56_1 : Int), v_6 = (.tuple #[(.agg #[(.int .i64 t56f0), (.int .i64 t56f1)]), (.int .i64 t56_1)]) ∧
 let t13 : Addr := ⟨Array.size h11, 0, none⟩
 let h12 : Heap := Array.push h11 (.cells #[(.int .i64 0), (.int .i64 0)] T_api_Use (0, 0))
 wrCells t13 0 [(.int .i64 t56f0), (.int .i64 t56f1)] (fun h13 =>
 let t60 : Bool := (t31_1 == 0)
 br t60 (
 let t63 : Bool := (t31 == 1)
 br t63 (
 let t67 : Bool := (t37_1 == 171)
 br t67 (
 let t71 : Bool := (t42_1 == 0)
 br t71 (
 ∃ (t74f0 : Int) (t74f1 : Int), rdCells h13 left7 0 [(.int .i64 t74f0), (.int .i64 t74f1)] ∧
 let t76 : Bool := ((t74f0 == 4) && ((t74f1 == 1) && true))
 br t76 (
 let t80 : Bool := (t46 == 0)
 br t80 (
 let t84 : Bool := (t49_1 == 0)
 br t84 (
 ∃ (t87f0 : Int) (t87f1 : Int), rdCells h13 u10 0 [(.int .i64 t87f0), (.int .i64 t87f1)] ∧
 let t89 : Bool := ((t87f0 == 6) && ((t87f1 == 1) && true))
 br t89 (
 let t93 : Bool := (t53 == 172)
 br t93 (
 let t97 : Bool := (t56_1 == 170)
 Q (.bool t97) h13) (
 Q (.bool false) h13)) (
 Q (.bool false) h13)) (
 Q (.bool false) h13)) (
 Q (.bool false) h13)) (
 Q (.bool false) h13)) (
 Q (.bool false) h13)) (
 Q (.bool false) h13)) (
 Q (.bool false) h13)) (
 Q (.bool false) h13)) h12))) h8))) h4))))
theorem law17_awake_J1101_eq (b1 : Option Addr) (t27 : Bool) (Q : Value → Heap → Prop) (h : Heap) : ev PP true none (sub (bodyOf Try.f13) [1, 1, 0, 1]) (subA law17_awake_ann [1, 1, 0, 1]) (mkFr 0 99 [(1, (.pointer b1)), (27, (.bool t27))]) (law17_awake_K11 Q) h = law17_awake_J1101_txt b1 t27 Q h := by kernel_rfl
theorem law17_awake_J1101_of {b1 : Option Addr} {t27 : Bool} {Q : Value → Heap → Prop} {h : Heap} (H : law17_awake_J1101_txt b1 t27 Q h) : law17_awake_J1101 b1 t27 Q h := by
   unfold law17_awake_J1101; refine Jn.of_ev (x := subA law17_awake_ann [1, 1, 0, 1]) ?_; exact (law17_awake_J1101_eq b1 t27 Q h).symm ▸ H
def law17_awake_main  (Q : Value → Heap → Prop) (h : Heap) : Prop :=
 let h1 : Heap := Array.push h (.cells #[(.string (⟨#[97]⟩ : ByteArray)), (.string (⟨#[]⟩ : ByteArray)), (.int .i64 10), (.int .i64 2), (.string (⟨#[98]⟩ : ByteArray)), (.string (⟨#[]⟩ : ByteArray)), (.int .i64 5), (.int .i64 5)] T_api_Tenant (0, 0))
 SpecH PP F_quota_New [(.slice (some ⟨Array.size h, 0, none⟩) 2 2)] h1 (fun v h2 => ∃ (t19 : Option Addr) (t19_1 : Int), v = (.tuple #[(.pointer t19), (.int .i64 t19_1)]) ∧
 let t23 : Bool := (Option.isNone t19)
 br t23 (
 law17_awake_J1101 t19 true Q h2) (
 let t26 : Bool := (t19_1 != 0)
 law17_awake_J1101 t19 t26 Q h2))
theorem law17_awake_eq  (Q : Value → Heap → Prop) (h : Heap) : ev PP true none (bodyOf Try.f13) law17_awake_ann (initFr 99 []) (bodyK PP Try.f13 Q) h = law17_awake_main  Q h := by kernel_rfl
theorem law17_awake_door  {Q : Value → Heap → Prop} {h : Heap} (H : law17_awake_main  Q h) : SpecH PP F_law17_awake [] h Q :=
   spec_of_ev Try.func13 rfl rfl ((law17_awake_eq  Q h).symm ▸ H)
/-! ### (*haversack/quota.Book).Reserve: function 14 -/
def quota_Book_Reserve_ann : Ann := (.seq 35 (.region [(List.range 3, 35)]) (.seq 801 (.region [(List.range 8, 801)]) (.seq 289 (.seq 262945 (.region [(List.range 2, 262945)]) (.cond (.seq 192 (.region [(List.range 3, 192)]) (.exit 192)) .leaf)) (.seq 289 (.seq 8589934881 (.region [(List.range 14, 8589934881)]) (.join (.cond (.seq 192 (.region [(List.range 2, 192)]) (.exit 192)) .leaf))) (.seq 289 (.seq 1313 (.region [(List.range 4, 1313)]) (.seq 562949953421601 (.region [(List.range 14, 562949953421601)]) (.join (.cond (.seq 192 (.region [(List.range 2, 192)]) (.exit 192)) .leaf)))) (.seq 289 (.region [(List.range 8, 289)]) (.seq 289 (.region [(List.range 12, 289)]) (.seq 289 (.region [(List.range 13, 289)]) (.seq 1 (.region [(List.range 13, 1)]) (.seq 192 (.region [(List.range 6, 192)]) (.exit 192)))))))))))
@[irreducible] def quota_Book_Reserve_K111 (Q : Value → Heap → Prop) : Ex → Fr → Heap → Prop := seqK (fun fr h => ev PP true none (sub (bodyOf Try.f14) [1, 1, 1, 1]) (subA quota_Book_Reserve_ann [1, 1, 1, 1]) (fr.mask 289) (bodyK PP Try.f14 Q) h) (bodyK PP Try.f14 Q)
@[irreducible] def quota_Book_Reserve_J11101 (b0 : Option Addr) (more5 : Addr) (a8 : Option Addr) (t33 : Bool) (Q : Value → Heap → Prop) (h : Heap) : Prop := Jn PP true (sub (bodyOf Try.f14) [1, 1, 1, 0, 1]) (mkFr 0 96 [(0, (.pointer b0)), (5, (.pointer (some more5))), (8, (.pointer a8)), (33, (.bool t33))]) (quota_Book_Reserve_K111 Q) h
@[irreducible] def quota_Book_Reserve_K1111 (Q : Value → Heap → Prop) : Ex → Fr → Heap → Prop := seqK (fun fr h => ev PP true none (sub (bodyOf Try.f14) [1, 1, 1, 1, 1]) (subA quota_Book_Reserve_ann [1, 1, 1, 1, 1]) (fr.mask 289) (bodyK PP Try.f14 Q) h) (bodyK PP Try.f14 Q)
@[irreducible] def quota_Book_Reserve_J1111011 (b0 : Option Addr) (more5 : Addr) (a8 : Option Addr) (t49 : Bool) (Q : Value → Heap → Prop) (h : Heap) : Prop := Jn PP true (sub (bodyOf Try.f14) [1, 1, 1, 1, 0, 1, 1]) (mkFr 0 96 [(0, (.pointer b0)), (5, (.pointer (some more5))), (8, (.pointer a8)), (49, (.bool t49))]) (quota_Book_Reserve_K1111 Q) h
@[reducible] def quota_Book_Reserve_J11101_txt (b0 : Option Addr) (more5 : Addr) (a8 : Option Addr) (t33 : Bool) (Q : Value → Heap → Prop) (h : Heap) : Prop :=
 br t33 (
 Q (.tuple #[(.int .i64 0), (.int .i64 1)]) h) (
 SpecH PP F_quota_account_left [(.pointer a8)] h (fun v h1 => ∃ (t35f0 : Int) (t35f1 : Int), v = (.agg #[(.int .i64 t35f0), (.int .i64 t35f1)]) ∧
 let left10 : Addr := ⟨Array.size h1, 0, none⟩
 let h2 : Heap := Array.push h1 (.cells #[(.int .i64 0), (.int .i64 0)] T_api_Use (0, 0))
 wrCells left10 0 [(.int .i64 t35f0), (.int .i64 t35f1)] (fun h3 =>
 ∃ (t37 : Int), cellH h3 more5 = some (.int .i64 t37) ∧
 let t38 : Int := (if t37 > 0 then t37 else 0)
 ∃ (t40 : Int), cellH h3 left10 = some (.int .i64 t40) ∧
 let t41 : Bool := decide (t38 > t40)
 br t41 (
 quota_Book_Reserve_J1111011 b0 more5 a8 true Q h3) (
 ∃ (t44 : Int), cellH h3 (Addr.add more5 1) = some (.int .i64 t44) ∧
 let t45 : Int := (if t44 > 0 then t44 else 0)
 ∃ (t47 : Int), cellH h3 (Addr.add left10 1) = some (.int .i64 t47) ∧
 let t48 : Bool := decide (t45 > t47)
 quota_Book_Reserve_J1111011 b0 more5 a8 t48 Q h3)) h2))
theorem quota_Book_Reserve_J11101_eq (b0 : Option Addr) (more5 : Addr) (a8 : Option Addr) (t33 : Bool) (Q : Value → Heap → Prop) (h : Heap) : ev PP true none (sub (bodyOf Try.f14) [1, 1, 1, 0, 1]) (subA quota_Book_Reserve_ann [1, 1, 1, 0, 1]) (mkFr 0 96 [(0, (.pointer b0)), (5, (.pointer (some more5))), (8, (.pointer a8)), (33, (.bool t33))]) (quota_Book_Reserve_K111 Q) h = quota_Book_Reserve_J11101_txt b0 more5 a8 t33 Q h := by kernel_rfl
theorem quota_Book_Reserve_J11101_of {b0 : Option Addr} {more5 : Addr} {a8 : Option Addr} {t33 : Bool} {Q : Value → Heap → Prop} {h : Heap} (H : quota_Book_Reserve_J11101_txt b0 more5 a8 t33 Q h) : quota_Book_Reserve_J11101 b0 more5 a8 t33 Q h := by
   unfold quota_Book_Reserve_J11101; refine Jn.of_ev (x := subA quota_Book_Reserve_ann [1, 1, 1, 0, 1]) ?_; exact (quota_Book_Reserve_J11101_eq b0 more5 a8 t33 Q h).symm ▸ H
@[reducible] def quota_Book_Reserve_J1111011_txt (b0 : Option Addr) (more5 : Addr) (a8 : Option Addr) (t49 : Bool) (Q : Value → Heap → Prop) (h : Heap) : Prop :=
 br t49 (
 Q (.tuple #[(.int .i64 0), (.int .i64 171)]) h) (
 nilc b0 (fun t51 =>
 ∃ (t53 : Int), cellH h (Addr.add t51 2) = some (.int .i64 t53) ∧
 let t54 : Int := IntKind.i64.wrap (t53 + 1)
 nilc b0 (fun t55 =>
 wr (Addr.add t55 2) (.int .i64 t54) (fun h1 =>
 nilc b0 (fun t58 =>
 ∃ (t60 : Option Nat), cellH h1 (Addr.add t58 1) = some (.map t60) ∧
 nilc b0 (fun t62 =>
 ∃ (t64 : Int), cellH h1 (Addr.add t62 2) = some (.int .i64 t64) ∧
 ∃ (t66f0 : Int) (t66f1 : Int), rdCells h1 more5 0 [(.int .i64 t66f0), (.int .i64 t66f1)] ∧
 hwp PP (Instr.mapUpdate T_map_int_quota_held (.map t60) (.int .i64 t64) (.agg #[(.pointer a8), (.int .i64 t66f0), (.int .i64 t66f1)])) (fun _ h2 =>
 nilc a8 (fun t69 =>
 ∃ (t72 : Int), cellH h2 (Addr.add t69 4) = some (.int .i64 t72) ∧
 ∃ (t74 : Int), cellH h2 more5 = some (.int .i64 t74) ∧
 let t75 : Int := (if t74 > 0 then t74 else 0)
 let t76 : Int := IntKind.i64.wrap (t72 + t75)
 nilc a8 (fun t77 =>
 wr (Addr.add t77 4) (.int .i64 t76) (fun h3 =>
 nilc a8 (fun t81 =>
 ∃ (t84 : Int), cellH h3 (Addr.add (Addr.add t81 4) 1) = some (.int .i64 t84) ∧
 ∃ (t86 : Int), cellH h3 (Addr.add more5 1) = some (.int .i64 t86) ∧
 let t87 : Int := (if t86 > 0 then t86 else 0)
 let t88 : Int := IntKind.i64.wrap (t84 + t87)
 nilc a8 (fun t89 =>
 wr (Addr.add (Addr.add t89 4) 1) (.int .i64 t88) (fun h4 =>
 nilc b0 (fun t93 =>
 ∃ (t95 : Int), cellH h4 (Addr.add t93 2) = some (.int .i64 t95) ∧
 Q (.tuple #[(.int .i64 t95), (.int .i64 0)]) h4)) h3))) h2))) h1))) h)))
theorem quota_Book_Reserve_J1111011_eq (b0 : Option Addr) (more5 : Addr) (a8 : Option Addr) (t49 : Bool) (Q : Value → Heap → Prop) (h : Heap) : ev PP true none (sub (bodyOf Try.f14) [1, 1, 1, 1, 0, 1, 1]) (subA quota_Book_Reserve_ann [1, 1, 1, 1, 0, 1, 1]) (mkFr 0 96 [(0, (.pointer b0)), (5, (.pointer (some more5))), (8, (.pointer a8)), (49, (.bool t49))]) (quota_Book_Reserve_K1111 Q) h = quota_Book_Reserve_J1111011_txt b0 more5 a8 t49 Q h := by kernel_rfl
theorem quota_Book_Reserve_J1111011_of {b0 : Option Addr} {more5 : Addr} {a8 : Option Addr} {t49 : Bool} {Q : Value → Heap → Prop} {h : Heap} (H : quota_Book_Reserve_J1111011_txt b0 more5 a8 t49 Q h) : quota_Book_Reserve_J1111011 b0 more5 a8 t49 Q h := by
   unfold quota_Book_Reserve_J1111011; refine Jn.of_ev (x := subA quota_Book_Reserve_ann [1, 1, 1, 1, 0, 1, 1]) ?_; exact (quota_Book_Reserve_J1111011_eq b0 more5 a8 t49 Q h).symm ▸ H
def quota_Book_Reserve_main (b0 : Option Addr) (tenant1 : ByteArray) (more2f0 : Int) (more2f1 : Int) (Q : Value → Heap → Prop) (h : Heap) : Prop :=
 let more5 : Addr := ⟨Array.size h, 0, none⟩
 let h1 : Heap := Array.push h (.cells #[(.int .i64 more2f0), (.int .i64 more2f1)] T_api_Use (0, 0))
 SpecH PP F_quota_Book_find [(.pointer b0), (.string tenant1)] h1 (fun v h2 => ∃ (t14 : Option Addr) (t14_1 : Int), v = (.tuple #[(.pointer t14), (.int .i64 t14_1)]) ∧
 let t18 : Bool := (t14_1 != 0)
 br t18 (
 Q (.tuple #[(.int .i64 0), (.int .i64 t14_1)]) h2) (
 ∃ (t21 : Int), cellH h2 more5 = some (.int .i64 t21) ∧
 ∃ (t23 : Int), cellH h2 (Addr.add more5 1) = some (.int .i64 t23) ∧
 let t24 : Int := (if t23 > t21 then t23 else t21)
 let t25 : Bool := decide (t24 > 1000000000)
 br t25 (
 quota_Book_Reserve_J11101 b0 more5 t14 true Q h2) (
 ∃ (t28 : Int), cellH h2 more5 = some (.int .i64 t28) ∧
 ∃ (t30 : Int), cellH h2 (Addr.add more5 1) = some (.int .i64 t30) ∧
 let t31 : Int := (if t30 < t28 then t30 else t28)
 let t32 : Bool := decide (t31 < (-1000000000))
 quota_Book_Reserve_J11101 b0 more5 t14 t32 Q h2)))
theorem quota_Book_Reserve_eq (b0 : Option Addr) (tenant1 : ByteArray) (more2f0 : Int) (more2f1 : Int) (Q : Value → Heap → Prop) (h : Heap) : ev PP true none (bodyOf Try.f14) quota_Book_Reserve_ann (initFr 96 [(.pointer b0), (.string tenant1), (.agg #[(.int .i64 more2f0), (.int .i64 more2f1)])]) (bodyK PP Try.f14 Q) h = quota_Book_Reserve_main b0 tenant1 more2f0 more2f1 Q h := by kernel_rfl
theorem quota_Book_Reserve_door {b0 : Option Addr} {tenant1 : ByteArray} {more2f0 : Int} {more2f1 : Int} {Q : Value → Heap → Prop} {h : Heap} (H : quota_Book_Reserve_main b0 tenant1 more2f0 more2f1 Q h) : SpecH PP F_quota_Book_Reserve [(.pointer b0), (.string tenant1), (.agg #[(.int .i64 more2f0), (.int .i64 more2f1)])] h Q :=
   spec_of_ev Try.func14 rfl rfl ((quota_Book_Reserve_eq b0 tenant1 more2f0 more2f1 Q h).symm ▸ H)
/-! ### (*haversack/quota.Book).Take: function 15 -/
def quota_Book_Take_ann : Ann := (.seq 3 (.region [(List.range 1, 3)]) (.seq 3 (.seq 259 (.region [(List.range 2, 259)]) (.cond (.seq 16 (.region [(List.range 1, 16)]) (.exit 16)) .leaf)) (.seq 35 (.region [(List.range 8, 35)]) (.seq 32 (.seq 96 (.region [(List.range 4, 96)]) (.seq 524384 (.region [(List.range 2, 524384)]) (.cond (.seq 16 (.region [(List.range 2, 16)]) (.exit 16)) .leaf))) (.seq 32 (.region [(List.range 17, 32)]) (.seq 0 (.region [(List.range 17, 0)]) (.seq 16 (.region [(List.range 1, 16)]) (.exit 16))))))))
def quota_Book_Take_main (b0 : Option Addr) (id1 : Int) (Q : Value → Heap → Prop) (h : Heap) : Prop :=
 let t8 : Bool := (Option.isNone b0)
 br t8 (
 Q (.int .i64 3) h) (
 nilc b0 (fun t10 =>
 ∃ (t12 : Option Nat), cellH h (Addr.add t10 1) = some (.map t12) ∧
 hwp PP (Instr.lookup T_map_int_quota_held (.map t12) (.int .i64 id1) false) (fun v h1 => ∃ (t14f0 : Option Addr) (t14f1 : Int) (t14f2 : Int), v = (.agg #[(.pointer t14f0), (.int .i64 t14f1), (.int .i64 t14f2)]) ∧
 let xh5 : Addr := ⟨Array.size h1, 0, none⟩
 let h2 : Heap := Array.push h1 (.cells #[(.pointer none), (.int .i64 0), (.int .i64 0)] T_quota_held (0, 0))
 wrCells xh5 0 [(.pointer t14f0), (.int .i64 t14f1), (.int .i64 t14f2)] (fun h3 =>
 SpecH PP F_quota_Book_Free [(.pointer b0), (.int .i64 id1)] h3 (fun v_1 h4 => ∃ (t17 : Int), v_1 = (.int .i64 t17) ∧
 let t19 : Bool := (t17 != 0)
 br t19 (
 Q (.int .i64 t17) h4) (
 ∃ (t22 : Option Addr), cellH h4 xh5 = some (.pointer t22) ∧
 ∃ (t24 : Option Addr), cellH h4 xh5 = some (.pointer t24) ∧
 nilc t24 (fun t25 =>
 ∃ (t28 : Int), cellH h4 (Addr.add t25 2) = some (.int .i64 t28) ∧
 ∃ (t31 : Int), cellH h4 (Addr.add xh5 1) = some (.int .i64 t31) ∧
 let t32 : Int := IntKind.i64.wrap (t28 + t31)
 let t33 : Int := (if t32 > 0 then t32 else 0)
 nilc t22 (fun t34 =>
 wr (Addr.add t34 2) (.int .i64 t33) (fun h5 =>
 ∃ (t38 : Option Addr), cellH h5 xh5 = some (.pointer t38) ∧
 ∃ (t40 : Option Addr), cellH h5 xh5 = some (.pointer t40) ∧
 nilc t40 (fun t41 =>
 ∃ (t44 : Int), cellH h5 (Addr.add (Addr.add t41 2) 1) = some (.int .i64 t44) ∧
 ∃ (t47 : Int), cellH h5 (Addr.add (Addr.add xh5 1) 1) = some (.int .i64 t47) ∧
 let t48 : Int := IntKind.i64.wrap (t44 + t47)
 let t49 : Int := (if t48 > 0 then t48 else 0)
 nilc t38 (fun t50 =>
 wr (Addr.add (Addr.add t50 2) 1) (.int .i64 t49) (fun h6 =>
 Q (.int .i64 0) h6) h5))) h4))))) h2) h))
theorem quota_Book_Take_eq (b0 : Option Addr) (id1 : Int) (Q : Value → Heap → Prop) (h : Heap) : ev PP true none (bodyOf Try.f15) quota_Book_Take_ann (initFr 53 [(.pointer b0), (.int .i64 id1)]) (bodyK PP Try.f15 Q) h = quota_Book_Take_main b0 id1 Q h := by kernel_rfl
theorem quota_Book_Take_door {b0 : Option Addr} {id1 : Int} {Q : Value → Heap → Prop} {h : Heap} (H : quota_Book_Take_main b0 id1 Q h) : SpecH PP F_quota_Book_Take [(.pointer b0), (.int .i64 id1)] h Q :=
   spec_of_ev Try.func15 rfl rfl ((quota_Book_Take_eq b0 id1 Q h).symm ▸ H)
/-! ### (*haversack/quota.Book).Free: function 16 -/
def quota_Book_Free_ann : Ann := (.seq 3 (.region [(List.range 1, 3)]) (.seq 3 (.seq 259 (.region [(List.range 2, 259)]) (.cond (.seq 16 (.region [(List.range 1, 16)]) (.exit 16)) .leaf)) (.seq 99 (.region [(List.range 12, 99)]) (.seq 35 (.seq 524323 (.region [(List.range 2, 524323)]) (.cond (.seq 16 (.region [(List.range 1, 16)]) (.exit 16)) .leaf)) (.seq 32 (.region [(List.range 6, 32)]) (.seq 32 (.region [(List.range 15, 32)]) (.seq 0 (.region [(List.range 15, 0)]) (.seq 16 (.region [(List.range 1, 16)]) (.exit 16)))))))))
def quota_Book_Free_main (b0 : Option Addr) (id1 : Int) (Q : Value → Heap → Prop) (h : Heap) : Prop :=
 let t8 : Bool := (Option.isNone b0)
 br t8 (
 Q (.int .i64 3) h) (
 nilc b0 (fun t11 =>
 ∃ (t13 : Option Nat), cellH h (Addr.add t11 1) = some (.map t13) ∧
 hwp PP (Instr.lookup T_map_int_quota_held (.map t13) (.int .i64 id1) true) (fun v h1 => ∃ (t15f0 : Option Addr) (t15f1 : Int) (t15f2 : Int) (t15_1 : Bool), v = (.tuple #[(.agg #[(.pointer t15f0), (.int .i64 t15f1), (.int .i64 t15f2)]), (.bool t15_1)]) ∧
 let xh5 : Addr := ⟨Array.size h1, 0, none⟩
 let h2 : Heap := Array.push h1 (.cells #[(.pointer none), (.int .i64 0), (.int .i64 0)] T_quota_held (0, 0))
 wrCells xh5 0 [(.pointer t15f0), (.int .i64 t15f1), (.int .i64 t15f2)] (fun h3 =>
 let t19 : Bool := (!t15_1)
 br t19 (
 Q (.int .i64 172) h3) (
 nilc b0 (fun t21 =>
 ∃ (t23 : Option Nat), cellH h3 (Addr.add t21 1) = some (.map t23) ∧
 hwp PP (Builtin.delete_ #[T_map_int_quota_held, T_int] T_ #[(.map t23), (.int .i64 id1)]) (fun v_1 h4 => v_1 = (.tuple #[]) ∧
 ∃ (t26 : Option Addr), cellH h4 xh5 = some (.pointer t26) ∧
 nilc t26 (fun t27 =>
 ∃ (t30 : Int), cellH h4 (Addr.add t27 4) = some (.int .i64 t30) ∧
 ∃ (t33 : Int), cellH h4 (Addr.add xh5 1) = some (.int .i64 t33) ∧
 let t34 : Int := (if t33 > 0 then t33 else 0)
 let t35 : Int := IntKind.i64.wrap (t30 - t34)
 nilc t26 (fun t36 =>
 wr (Addr.add t36 4) (.int .i64 t35) (fun h5 =>
 ∃ (t40 : Option Addr), cellH h5 xh5 = some (.pointer t40) ∧
 nilc t40 (fun t41 =>
 ∃ (t44 : Int), cellH h5 (Addr.add (Addr.add t41 4) 1) = some (.int .i64 t44) ∧
 ∃ (t47 : Int), cellH h5 (Addr.add (Addr.add xh5 1) 1) = some (.int .i64 t47) ∧
 let t48 : Int := (if t47 > 0 then t47 else 0)
 let t49 : Int := IntKind.i64.wrap (t44 - t48)
 nilc t40 (fun t50 =>
 wr (Addr.add (Addr.add t50 4) 1) (.int .i64 t49) (fun h6 =>
 Q (.int .i64 0) h6) h5))) h4))) h3))) h2) h))
theorem quota_Book_Free_eq (b0 : Option Addr) (id1 : Int) (Q : Value → Heap → Prop) (h : Heap) : ev PP true none (bodyOf Try.f16) quota_Book_Free_ann (initFr 53 [(.pointer b0), (.int .i64 id1)]) (bodyK PP Try.f16 Q) h = quota_Book_Free_main b0 id1 Q h := by kernel_rfl
theorem quota_Book_Free_door {b0 : Option Addr} {id1 : Int} {Q : Value → Heap → Prop} {h : Heap} (H : quota_Book_Free_main b0 id1 Q h) : SpecH PP F_quota_Book_Free [(.pointer b0), (.int .i64 id1)] h Q :=
   spec_of_ev Try.func16 rfl rfl ((quota_Book_Free_eq b0 id1 Q h).symm ▸ H)
/-! ### haversack/haversackref17.New: function 17 -/
def ref17_New_ann : Ann := (.seq 1 (.region [(List.range 1, 1)]) (.seq 4 (.region [(List.range 7, 4)]) (.exit 4)))
def ref17_New_main (xl0 : Option Addr) (xl0n : Nat) (xl0c : Nat) (Q : Value → Heap → Prop) (h : Heap) : Prop :=
 hwp PP (Instr.makeSlice T_sl_api_Use (.int .i64 (xl0n : Int)) (.int .i64 (xl0n : Int))) (fun v h1 => ∃ (t6 : Option Addr) (t6n : Nat) (t6c : Nat), v = (.slice t6 t6n t6c) ∧
 let t8 : Addr := ⟨Array.size h1, 0, none⟩
 let h2 : Heap := Array.push h1 (.cells #[(.slice xl0 xl0n xl0c), (.slice t6 t6n t6c), (.slice none 0 0), (.int .i64 0)] T_haversackref17_Book (0, 0))
 Q (.pointer (some t8)) h2) h
theorem ref17_New_eq (xl0 : Option Addr) (xl0n : Nat) (xl0c : Nat) (Q : Value → Heap → Prop) (h : Heap) : ev PP true none (bodyOf Try.f17) ref17_New_ann (initFr 9 [(.slice xl0 xl0n xl0c)]) (bodyK PP Try.f17 Q) h = ref17_New_main xl0 xl0n xl0c Q h := by kernel_rfl
theorem ref17_New_door {xl0 : Option Addr} {xl0n : Nat} {xl0c : Nat} {Q : Value → Heap → Prop} {h : Heap} (H : ref17_New_main xl0 xl0n xl0c Q h) : SpecH PP F_ref17_New [(.slice xl0 xl0n xl0c)] h Q :=
   spec_of_ev Try.func17 rfl rfl ((ref17_New_eq xl0 xl0n xl0c Q h).symm ▸ H)
/-! ### haversack/haversacklaw17.step: function 18 -/
def law17_step_ann : Ann := (.seq 35 (.region [(List.range 2, 35)]) (.seq 0 (.seq 1048611 (.region [(List.range 2, 1048611)]) (.block (.seq 3145763 (.region [(List.range 2, 3145763)]) (.cond (.seq 64 (.tree (.run [0, 1, 2, 3, 4, 6, 7, 9] (.alt 5 (.run [8, 10, 11, 12, 13] .done) (.alt 8 (.alt 5 (.run [10, 11, 12, 13] .done) (.alt 10 (.run [5, 11, 12, 13] .done) .nil)) (.alt 10 (.alt 5 (.run [8, 11, 12, 13] .done) (.alt 8 (.run [5, 11, 12, 13] .done) .nil)) .nil)))) 64) (.exit 64)) (.seq 68720525347 (.region [(List.range 2, 68720525347)]) (.cond (.seq 418 (.region [(List.range 10, 418)]) (.seq 1920 (.region [(List.range 10, 1920)]) (.seq 64 (.region [(List.range 9, 64)]) (.exit 64)))) (.seq 1152921504607895587 (.region [(List.range 2, 1152921504607895587)]) (.cond (.seq 6178 (.region [(List.range 10, 6178)]) (.seq 30720 (.region [(List.range 10, 30720)]) (.seq 64 (.region [(List.range 9, 64)]) (.exit 64)))) (.seq 19342813113834066796347427 (.region [(List.range 2, 19342813113834066796347427)]) (.cond (.seq 98338 (.region [(List.range 11, 98338)]) (.seq 491520 (.region [(List.range 11, 491520)]) (.seq 64 (.region [(List.range 9, 64)]) (.exit 64)))) (.seq 5192296858534827628530496330268707 (.region [(List.range 2, 5192296858534827628530496330268707)]) (.cond (.seq 64 (.tree (.run [0, 1, 2, 4, 5] (.alt 3 (.run [6, 7, 8, 9] .done) (.alt 6 (.run [3, 7, 8, 9] .done) .nil))) 64) (.exit 64)) (.seq 10633823966279326983230456482242756643 (.region [(List.range 2, 10633823966279326983230456482242756643)]) (.cond (.seq 64 (.tree (.run [0, 1, 2, 4, 5] (.alt 3 (.run [6, 7, 8, 9] .done) (.alt 6 (.run [3, 7, 8, 9] .done) .nil))) 64) (.exit 64)) .leaf)))))))))))))) (.seq 64 (.region [(List.range 1, 64)]) (.exit 64))))
def law17_step_main (b0 : Option Addr) (r1 : Option Addr) (o2f0 : Int) (o2f1 : ByteArray) (o2f2 : Int) (o2f3 : Int) (o2f4 : Int) (Q : Value → Heap → Prop) (h : Heap) : Prop :=
 let o5 : Addr := ⟨Array.size h, 0, none⟩
 let h1 : Heap := Array.push h (.cells #[(.int .i64 o2f0), (.string o2f1), (.int .i64 o2f2), (.int .i64 o2f3), (.int .i64 o2f4)] T_haversacklaw17_Op (0, 0))
 ∃ (t20 : Int), cellH h1 o5 = some (.int .i64 t20) ∧
 let t22 : Bool := (t20 == 1)
 br t22 (
 ∃ (t25 : ByteArray), cellH h1 (Addr.add o5 1) = some (.string t25) ∧
 ∃ (t27f0 : Int) (t27f1 : Int), rdCells h1 (Addr.add o5 2) 0 [(.int .i64 t27f0), (.int .i64 t27f1)] ∧
 (
 SpecH PP F_quota_Book_Set [(.pointer b0), (.string t25), (.agg #[(.int .i64 t27f0), (.int .i64 t27f1)])] h1 (fun v_8 h10 => ∃ (t28_4 : Int), v_8 = (.int .i64 t28_4) ∧
 ∃ (t31_3 : ByteArray), cellH h10 (Addr.add o5 1) = some (.string t31_3) ∧
 ∃ (t33_3f0 : Int) (t33_3f1 : Int), rdCells h10 (Addr.add o5 2) 0 [(.int .i64 t33_3f0), (.int .i64 t33_3f1)] ∧
 SpecH PP F_ref17_Book_Set [(.pointer r1), (.string t31_3), (.agg #[(.int .i64 t33_3f0), (.int .i64 t33_3f1)])] h10 (fun v_9 h11 => ∃ (t34_4 : Int), v_9 = (.int .i64 t34_4) ∧
 let t35_4 : Bool := (t28_4 == t34_4)
 Q (.bool t35_4) h11))) ∧
 (
 ∃ (t31_2 : ByteArray), cellH h1 (Addr.add o5 1) = some (.string t31_2) ∧
 (
 SpecH PP F_quota_Book_Set [(.pointer b0), (.string t25), (.agg #[(.int .i64 t27f0), (.int .i64 t27f1)])] h1 (fun v_6 h8 => ∃ (t28_3 : Int), v_6 = (.int .i64 t28_3) ∧
 ∃ (t33_2f0 : Int) (t33_2f1 : Int), rdCells h8 (Addr.add o5 2) 0 [(.int .i64 t33_2f0), (.int .i64 t33_2f1)] ∧
 SpecH PP F_ref17_Book_Set [(.pointer r1), (.string t31_2), (.agg #[(.int .i64 t33_2f0), (.int .i64 t33_2f1)])] h8 (fun v_7 h9 => ∃ (t34_3 : Int), v_7 = (.int .i64 t34_3) ∧
 let t35_3 : Bool := (t28_3 == t34_3)
 Q (.bool t35_3) h9))) ∧
 (
 ∃ (t33_1f0 : Int) (t33_1f1 : Int), rdCells h1 (Addr.add o5 2) 0 [(.int .i64 t33_1f0), (.int .i64 t33_1f1)] ∧
 SpecH PP F_quota_Book_Set [(.pointer b0), (.string t25), (.agg #[(.int .i64 t27f0), (.int .i64 t27f1)])] h1 (fun v_4 h6 => ∃ (t28_2 : Int), v_4 = (.int .i64 t28_2) ∧
 SpecH PP F_ref17_Book_Set [(.pointer r1), (.string t31_2), (.agg #[(.int .i64 t33_1f0), (.int .i64 t33_1f1)])] h6 (fun v_5 h7 => ∃ (t34_2 : Int), v_5 = (.int .i64 t34_2) ∧
 let t35_2 : Bool := (t28_2 == t34_2)
 Q (.bool t35_2) h7))) ∧
 True) ∧
 (
 ∃ (t33f0 : Int) (t33f1 : Int), rdCells h1 (Addr.add o5 2) 0 [(.int .i64 t33f0), (.int .i64 t33f1)] ∧
 (
 SpecH PP F_quota_Book_Set [(.pointer b0), (.string t25), (.agg #[(.int .i64 t27f0), (.int .i64 t27f1)])] h1 (fun v_2 h4 => ∃ (t28_1 : Int), v_2 = (.int .i64 t28_1) ∧
 ∃ (t31_1 : ByteArray), cellH h4 (Addr.add o5 1) = some (.string t31_1) ∧
 SpecH PP F_ref17_Book_Set [(.pointer r1), (.string t31_1), (.agg #[(.int .i64 t33f0), (.int .i64 t33f1)])] h4 (fun v_3 h5 => ∃ (t34_1 : Int), v_3 = (.int .i64 t34_1) ∧
 let t35_1 : Bool := (t28_1 == t34_1)
 Q (.bool t35_1) h5))) ∧
 (
 ∃ (t31 : ByteArray), cellH h1 (Addr.add o5 1) = some (.string t31) ∧
 SpecH PP F_quota_Book_Set [(.pointer b0), (.string t25), (.agg #[(.int .i64 t27f0), (.int .i64 t27f1)])] h1 (fun v h2 => ∃ (t28 : Int), v = (.int .i64 t28) ∧
 SpecH PP F_ref17_Book_Set [(.pointer r1), (.string t31), (.agg #[(.int .i64 t33f0), (.int .i64 t33f1)])] h2 (fun v_1 h3 => ∃ (t34 : Int), v_1 = (.int .i64 t34) ∧
 let t35 : Bool := (t28 == t34)
 Q (.bool t35) h3))) ∧
 True) ∧
 True) (
 let t37 : Bool := (t20 == 2)
 br t37 (
 ∃ (t41 : ByteArray), cellH h1 (Addr.add o5 1) = some (.string t41) ∧
 SpecH PP F_quota_Book_Use [(.pointer b0), (.string t41)] h1 (fun v_10 h12 => ∃ (t42f0 : Int) (t42f1 : Int) (t42_1 : Int), v_10 = (.tuple #[(.agg #[(.int .i64 t42f0), (.int .i64 t42f1)]), (.int .i64 t42_1)]) ∧
 let u7 : Addr := ⟨Array.size h12, 0, none⟩
 let h13 : Heap := Array.push h12 (.cells #[(.int .i64 0), (.int .i64 0)] T_api_Use (0, 0))
 wrCells u7 0 [(.int .i64 t42f0), (.int .i64 t42f1)] (fun h14 =>
 ∃ (t48 : ByteArray), cellH h14 (Addr.add o5 1) = some (.string t48) ∧
 SpecH PP F_ref17_Book_Use [(.pointer r1), (.string t48)] h14 (fun v_11 h15 => ∃ (t49f0 : Int) (t49f1 : Int) (t49_1 : Int), v_11 = (.tuple #[(.agg #[(.int .i64 t49f0), (.int .i64 t49f1)]), (.int .i64 t49_1)]) ∧
 let w9 : Addr := ⟨Array.size h15, 0, none⟩
 let h16 : Heap := Array.push h15 (.cells #[(.int .i64 0), (.int .i64 0)] T_api_Use (0, 0))
 wrCells w9 0 [(.int .i64 t49f0), (.int .i64 t49f1)] (fun h17 =>
 ∃ (t52f0 : Int) (t52f1 : Int), rdCells h17 u7 0 [(.int .i64 t52f0), (.int .i64 t52f1)] ∧
 ∃ (t53f0 : Int) (t53f1 : Int), rdCells h17 w9 0 [(.int .i64 t53f0), (.int .i64 t53f1)] ∧
 let t54 : Bool := ((t52f0 == t53f0) && ((t52f1 == t53f1) && true))
 br t54 (
 let t58 : Bool := (t42_1 == t49_1)
 Q (.bool t58) h17) (
 Q (.bool false) h17)) h16)) h13)) (
 let t61 : Bool := (t20 == 3)
 br t61 (
 ∃ (t65 : ByteArray), cellH h1 (Addr.add o5 1) = some (.string t65) ∧
 SpecH PP F_quota_Book_Left [(.pointer b0), (.string t65)] h1 (fun v_12 h18 => ∃ (t66f0 : Int) (t66f1 : Int) (t66_1 : Int), v_12 = (.tuple #[(.agg #[(.int .i64 t66f0), (.int .i64 t66f1)]), (.int .i64 t66_1)]) ∧
 let u11 : Addr := ⟨Array.size h18, 0, none⟩
 let h19 : Heap := Array.push h18 (.cells #[(.int .i64 0), (.int .i64 0)] T_api_Use (0, 0))
 wrCells u11 0 [(.int .i64 t66f0), (.int .i64 t66f1)] (fun h20 =>
 ∃ (t72 : ByteArray), cellH h20 (Addr.add o5 1) = some (.string t72) ∧
 SpecH PP F_ref17_Book_Left [(.pointer r1), (.string t72)] h20 (fun v_13 h21 => ∃ (t73f0 : Int) (t73f1 : Int) (t73_1 : Int), v_13 = (.tuple #[(.agg #[(.int .i64 t73f0), (.int .i64 t73f1)]), (.int .i64 t73_1)]) ∧
 let w13 : Addr := ⟨Array.size h21, 0, none⟩
 let h22 : Heap := Array.push h21 (.cells #[(.int .i64 0), (.int .i64 0)] T_api_Use (0, 0))
 wrCells w13 0 [(.int .i64 t73f0), (.int .i64 t73f1)] (fun h23 =>
 ∃ (t76f0 : Int) (t76f1 : Int), rdCells h23 u11 0 [(.int .i64 t76f0), (.int .i64 t76f1)] ∧
 ∃ (t77f0 : Int) (t77f1 : Int), rdCells h23 w13 0 [(.int .i64 t77f0), (.int .i64 t77f1)] ∧
 let t78 : Bool := ((t76f0 == t77f0) && ((t76f1 == t77f1) && true))
 br t78 (
 let t82 : Bool := (t66_1 == t73_1)
 Q (.bool t82) h23) (
 Q (.bool false) h23)) h22)) h19)) (
 let t85 : Bool := (t20 == 4)
 br t85 (
 ∃ (t89 : ByteArray), cellH h1 (Addr.add o5 1) = some (.string t89) ∧
 ∃ (t91f0 : Int) (t91f1 : Int), rdCells h1 (Addr.add o5 2) 0 [(.int .i64 t91f0), (.int .i64 t91f1)] ∧
 SpecH PP F_quota_Book_Reserve [(.pointer b0), (.string t89), (.agg #[(.int .i64 t91f0), (.int .i64 t91f1)])] h1 (fun v_14 h24 => ∃ (t92 : Int) (t92_1 : Int), v_14 = (.tuple #[(.int .i64 t92), (.int .i64 t92_1)]) ∧
 ∃ (t98 : ByteArray), cellH h24 (Addr.add o5 1) = some (.string t98) ∧
 ∃ (t100f0 : Int) (t100f1 : Int), rdCells h24 (Addr.add o5 2) 0 [(.int .i64 t100f0), (.int .i64 t100f1)] ∧
 SpecH PP F_ref17_Book_Reserve [(.pointer r1), (.string t98), (.agg #[(.int .i64 t100f0), (.int .i64 t100f1)])] h24 (fun v_15 h25 => ∃ (t101 : Int) (t101_1 : Int), v_15 = (.tuple #[(.int .i64 t101), (.int .i64 t101_1)]) ∧
 let t106 : Bool := (t92 == t101)
 br t106 (
 let t110 : Bool := (t92_1 == t101_1)
 Q (.bool t110) h25) (
 Q (.bool false) h25)))) (
 let t113 : Bool := (t20 == 5)
 br t113 (
 ∃ (t116 : Int), cellH h1 (Addr.add o5 4) = some (.int .i64 t116) ∧
 (
 SpecH PP F_quota_Book_Take [(.pointer b0), (.int .i64 t116)] h1 (fun v_18 h28 => ∃ (t117_1 : Int), v_18 = (.int .i64 t117_1) ∧
 ∃ (t120_1 : Int), cellH h28 (Addr.add o5 4) = some (.int .i64 t120_1) ∧
 SpecH PP F_ref17_Book_Take [(.pointer r1), (.int .i64 t120_1)] h28 (fun v_19 h29 => ∃ (t121_1 : Int), v_19 = (.int .i64 t121_1) ∧
 let t122_1 : Bool := (t117_1 == t121_1)
 Q (.bool t122_1) h29))) ∧
 (
 ∃ (t120 : Int), cellH h1 (Addr.add o5 4) = some (.int .i64 t120) ∧
 SpecH PP F_quota_Book_Take [(.pointer b0), (.int .i64 t116)] h1 (fun v_16 h26 => ∃ (t117 : Int), v_16 = (.int .i64 t117) ∧
 SpecH PP F_ref17_Book_Take [(.pointer r1), (.int .i64 t120)] h26 (fun v_17 h27 => ∃ (t121 : Int), v_17 = (.int .i64 t121) ∧
 let t122 : Bool := (t117 == t121)
 Q (.bool t122) h27))) ∧
 True) (
 let t124 : Bool := (t20 == 6)
 br t124 (
 ∃ (t127 : Int), cellH h1 (Addr.add o5 4) = some (.int .i64 t127) ∧
 (
 SpecH PP F_quota_Book_Free [(.pointer b0), (.int .i64 t127)] h1 (fun v_22 h32 => ∃ (t128_1 : Int), v_22 = (.int .i64 t128_1) ∧
 ∃ (t131_1 : Int), cellH h32 (Addr.add o5 4) = some (.int .i64 t131_1) ∧
 SpecH PP F_ref17_Book_Free [(.pointer r1), (.int .i64 t131_1)] h32 (fun v_23 h33 => ∃ (t132_1 : Int), v_23 = (.int .i64 t132_1) ∧
 let t133_1 : Bool := (t128_1 == t132_1)
 Q (.bool t133_1) h33))) ∧
 (
 ∃ (t131 : Int), cellH h1 (Addr.add o5 4) = some (.int .i64 t131) ∧
 SpecH PP F_quota_Book_Free [(.pointer b0), (.int .i64 t127)] h1 (fun v_20 h30 => ∃ (t128 : Int), v_20 = (.int .i64 t128) ∧
 SpecH PP F_ref17_Book_Free [(.pointer r1), (.int .i64 t131)] h30 (fun v_21 h31 => ∃ (t132 : Int), v_21 = (.int .i64 t132) ∧
 let t133 : Bool := (t128 == t132)
 Q (.bool t133) h31))) ∧
 True) (
 Q (.bool true) h1))))))
theorem law17_step_eq (b0 : Option Addr) (r1 : Option Addr) (o2f0 : Int) (o2f1 : ByteArray) (o2f2 : Int) (o2f3 : Int) (o2f4 : Int) (Q : Value → Heap → Prop) (h : Heap) : ev PP true none (bodyOf Try.f18) law17_step_ann (initFr 134 [(.pointer b0), (.pointer r1), (.agg #[(.int .i64 o2f0), (.string o2f1), (.int .i64 o2f2), (.int .i64 o2f3), (.int .i64 o2f4)])]) (bodyK PP Try.f18 Q) h = law17_step_main b0 r1 o2f0 o2f1 o2f2 o2f3 o2f4 Q h := by kernel_rfl
theorem law17_step_door {b0 : Option Addr} {r1 : Option Addr} {o2f0 : Int} {o2f1 : ByteArray} {o2f2 : Int} {o2f3 : Int} {o2f4 : Int} {Q : Value → Heap → Prop} {h : Heap} (H : law17_step_main b0 r1 o2f0 o2f1 o2f2 o2f3 o2f4 Q h) : SpecH PP F_law17_step [(.pointer b0), (.pointer r1), (.agg #[(.int .i64 o2f0), (.string o2f1), (.int .i64 o2f2), (.int .i64 o2f3), (.int .i64 o2f4)])] h Q :=
   spec_of_ev Try.func18 rfl rfl ((law17_step_eq b0 r1 o2f0 o2f1 o2f2 o2f3 o2f4 Q h).symm ▸ H)
/-! ### (*haversack/quota.Book).Set: function 19 -/
def quota_Book_Set_ann : Ann := (.seq 35 (.region [(List.range 2, 35)]) (.seq 416 (.region [(List.range 8, 416)]) (.seq 160 (.block (.seq 33184 (.region [(List.range 3, 33184)]) (.cond (.seq 64 (.region [(List.range 2, 64)]) (.exit 64)) (.seq 524448 (.region [(List.range 11, 524448)]) (.join (.cond (.seq 64 (.region [(List.range 1, 64)]) (.exit 64)) .leaf)))))) (.seq 0 (.region [(List.range 5, 0)]) (.seq 64 (.region [(List.range 1, 64)]) (.exit 64))))))
@[irreducible] def quota_Book_Set_K11 (Q : Value → Heap → Prop) : Ex → Fr → Heap → Prop := seqK (fun fr h => ev PP true none (sub (bodyOf Try.f19) [1, 1, 1]) (subA quota_Book_Set_ann [1, 1, 1]) (fr.mask 160) (bodyK PP Try.f19 Q) h) (bodyK PP Try.f19 Q)
@[irreducible] def quota_Book_Set_K110 (Q : Value → Heap → Prop) : Ex → Fr → Heap → Prop := blockK 0 (quota_Book_Set_K11 Q)
@[irreducible] def quota_Book_Set_J1100111 (u5 : Addr) (a7 : Option Addr) (t19 : Bool) (Q : Value → Heap → Prop) (h : Heap) : Prop := Jn PP true (sub (bodyOf Try.f19) [1, 1, 0, 0, 1, 1, 1]) (mkFr 0 34 [(5, (.pointer (some u5))), (7, (.pointer a7)), (19, (.bool t19))]) (quota_Book_Set_K110 Q) h
@[reducible] def quota_Book_Set_J1100111_txt (u5 : Addr) (a7 : Option Addr) (t19 : Bool) (Q : Value → Heap → Prop) (h : Heap) : Prop :=
 br t19 (
 Q (.int .i64 1) h) (
 ∃ (t31f0 : Int) (t31f1 : Int), rdCells h u5 0 [(.int .i64 t31f0), (.int .i64 t31f1)] ∧
 nilc a7 (fun t32 =>
 wrCells (Addr.add t32 2) 0 [(.int .i64 t31f0), (.int .i64 t31f1)] (fun h1 =>
 Q (.int .i64 0) h1) h))
theorem quota_Book_Set_J1100111_eq (u5 : Addr) (a7 : Option Addr) (t19 : Bool) (Q : Value → Heap → Prop) (h : Heap) : ev PP true none (sub (bodyOf Try.f19) [1, 1, 0, 0, 1, 1, 1]) (subA quota_Book_Set_ann [1, 1, 0, 0, 1, 1, 1]) (mkFr 0 34 [(5, (.pointer (some u5))), (7, (.pointer a7)), (19, (.bool t19))]) (quota_Book_Set_K110 Q) h = quota_Book_Set_J1100111_txt u5 a7 t19 Q h := by kernel_rfl
theorem quota_Book_Set_J1100111_of {u5 : Addr} {a7 : Option Addr} {t19 : Bool} {Q : Value → Heap → Prop} {h : Heap} (H : quota_Book_Set_J1100111_txt u5 a7 t19 Q h) : quota_Book_Set_J1100111 u5 a7 t19 Q h := by
   unfold quota_Book_Set_J1100111; refine Jn.of_ev (x := subA quota_Book_Set_ann [1, 1, 0, 0, 1, 1, 1]) ?_; exact (quota_Book_Set_J1100111_eq u5 a7 t19 Q h).symm ▸ H
def quota_Book_Set_main (b0 : Option Addr) (tenant1 : ByteArray) (u2f0 : Int) (u2f1 : Int) (Q : Value → Heap → Prop) (h : Heap) : Prop :=
 let u5 : Addr := ⟨Array.size h, 0, none⟩
 let h1 : Heap := Array.push h (.cells #[(.int .i64 u2f0), (.int .i64 u2f1)] T_api_Use (0, 0))
 SpecH PP F_quota_Book_find [(.pointer b0), (.string tenant1)] h1 (fun v h2 => ∃ (t12 : Option Addr) (t12_1 : Int), v = (.tuple #[(.pointer t12), (.int .i64 t12_1)]) ∧
 let t17 : Bool := (t12_1 != 0)
 br t17 (
 Q (.int .i64 t12_1) h2) (
 ∃ (t21 : Int), cellH h2 u5 = some (.int .i64 t21) ∧
 SpecH PP F_quota_within [(.int .i64 t21)] h2 (fun v_1 h3 => ∃ (t22 : Bool), v_1 = (.bool t22) ∧
 let t23 : Bool := (!t22)
 br t23 (
 quota_Book_Set_J1100111 u5 t12 true Q h3) (
 ∃ (t26 : Int), cellH h3 (Addr.add u5 1) = some (.int .i64 t26) ∧
 SpecH PP F_quota_within [(.int .i64 t26)] h3 (fun v_2 h4 => ∃ (t27 : Bool), v_2 = (.bool t27) ∧
 let t28 : Bool := (!t27)
 quota_Book_Set_J1100111 u5 t12 t28 Q h4)))))
theorem quota_Book_Set_eq (b0 : Option Addr) (tenant1 : ByteArray) (u2f0 : Int) (u2f1 : Int) (Q : Value → Heap → Prop) (h : Heap) : ev PP true none (bodyOf Try.f19) quota_Book_Set_ann (initFr 34 [(.pointer b0), (.string tenant1), (.agg #[(.int .i64 u2f0), (.int .i64 u2f1)])]) (bodyK PP Try.f19 Q) h = quota_Book_Set_main b0 tenant1 u2f0 u2f1 Q h := by kernel_rfl
theorem quota_Book_Set_door {b0 : Option Addr} {tenant1 : ByteArray} {u2f0 : Int} {u2f1 : Int} {Q : Value → Heap → Prop} {h : Heap} (H : quota_Book_Set_main b0 tenant1 u2f0 u2f1 Q h) : SpecH PP F_quota_Book_Set [(.pointer b0), (.string tenant1), (.agg #[(.int .i64 u2f0), (.int .i64 u2f1)])] h Q :=
   spec_of_ev Try.func19 rfl rfl ((quota_Book_Set_eq b0 tenant1 u2f0 u2f1 Q h).symm ▸ H)
/-! ### haversack/haversackref11.Short: function 20 -/
def ref11_Short_ann : Ann := (.seq 1 (.region [(List.range 1, 1)]) (.seq 1 (.seq 4097 (.region [(List.range 8, 4097)]) (.join (.cond (.seq 4 (.region [(List.range 1, 4)]) (.exit 4)) .leaf))) (.seq 0 (.seq 9 (.region [(List.range 1, 9)]) (.block (.loop 9 (.seq 9 (.seq 65545 (.region [(List.range 4, 65545)]) (.cond .leaf (.exit 0))) (.seq 9 (.block (.seq 25 (.region [(List.range 4, 25)]) (.seq 549755813897 (.region [(List.range 18, 549755813897)]) (.join (.cond (.seq 4 (.region [(List.range 1, 4)]) (.exit 4)) .leaf))))) (.region [(List.range 3, 9)])))))) (.seq 4 (.region [(List.range 1, 4)]) (.exit 4)))))
@[irreducible] def ref11_Short_X0  : Fr := (mkFr 0 40 [])
@[irreducible] def ref11_Short_Xret (t2 : Bool) : Fr := (mkFr 0 40 [(2, (.bool t2))])
@[irreducible] def ref11_Short_K1 (Q : Value → Heap → Prop) : Ex → Fr → Heap → Prop := seqK (fun fr h => ev PP true none (sub (bodyOf Try.f20) [1, 1]) (subA ref11_Short_ann [1, 1]) (fr.mask 1) (bodyK PP Try.f20 Q) h) (bodyK PP Try.f20 Q)
@[irreducible] def ref11_Short_J101 (s0 : ByteArray) (t12 : Bool) (Q : Value → Heap → Prop) (h : Heap) : Prop := Jn PP true (sub (bodyOf Try.f20) [1, 0, 1]) (mkFr 0 40 [(0, (.string s0)), (12, (.bool t12))]) (ref11_Short_K1 Q) h
@[irreducible] def ref11_Short_K11 (Q : Value → Heap → Prop) : Ex → Fr → Heap → Prop := seqK (fun fr h => ev PP true none (sub (bodyOf Try.f20) [1, 1, 1]) (subA ref11_Short_ann [1, 1, 1]) (fr.mask 0) (bodyK PP Try.f20 Q) h) (bodyK PP Try.f20 Q)
@[irreducible] def ref11_Short_K1101 (Q : Value → Heap → Prop) : Ex → Fr → Heap → Prop := blockK 0 (ref11_Short_K11 Q)
@[irreducible] def ref11_Short_L11010 (s0 : ByteArray) (i3 : Int) (K : Ex → Fr → Heap → Prop) (h : Heap) : Prop := Lp PP true (sub (bodyOf Try.f20) [1, 1, 0, 1, 0, 0]) (mkFr 0 40 [(0, (.string s0)), (3, (.int .i64 i3))]) K h
@[irreducible] def ref11_Short_B11010 (K : Ex → Fr → Heap → Prop) : Ex → Fr → Heap → Prop := seqK (fun fr h => Lp PP true (sub (bodyOf Try.f20) [1, 1, 0, 1, 0, 0]) (fr.mask 9) K h) K
@[irreducible] def ref11_Short_K1101001 (K : Ex → Fr → Heap → Prop) : Ex → Fr → Heap → Prop := seqK (fun fr h => ev PP true none (sub (bodyOf Try.f20) [1, 1, 0, 1, 0, 0, 1, 1]) (subA ref11_Short_ann [1, 1, 0, 1, 0, 0, 1, 1]) (fr.mask 9) (ref11_Short_B11010 K) h) (ref11_Short_B11010 K)
@[irreducible] def ref11_Short_K11010010 (K : Ex → Fr → Heap → Prop) : Ex → Fr → Heap → Prop := blockK 1 (ref11_Short_K1101001 K)
@[irreducible] def ref11_Short_J11010010011 (s0 : ByteArray) (i3 : Int) (t39 : Bool) (K : Ex → Fr → Heap → Prop) (h : Heap) : Prop := Jn PP true (sub (bodyOf Try.f20) [1, 1, 0, 1, 0, 0, 1, 0, 0, 1, 1]) (mkFr 0 40 [(0, (.string s0)), (3, (.int .i64 i3)), (39, (.bool t39))]) (ref11_Short_K11010010 K) h
@[reducible] def ref11_Short_J101_txt (s0 : ByteArray) (t12 : Bool) (Q : Value → Heap → Prop) (h : Heap) : Prop :=
 br t12 (
 Q (.bool false) h) (
 ref11_Short_L11010 s0 0 (ref11_Short_K1101 Q) h)
theorem ref11_Short_J101_eq (s0 : ByteArray) (t12 : Bool) (Q : Value → Heap → Prop) (h : Heap) : ev PP true none (sub (bodyOf Try.f20) [1, 0, 1]) (subA ref11_Short_ann [1, 0, 1]) (mkFr 0 40 [(0, (.string s0)), (12, (.bool t12))]) (ref11_Short_K1 Q) h = ref11_Short_J101_txt s0 t12 Q h := by kernel_rfl
theorem ref11_Short_J101_of {s0 : ByteArray} {t12 : Bool} {Q : Value → Heap → Prop} {h : Heap} (H : ref11_Short_J101_txt s0 t12 Q h) : ref11_Short_J101 s0 t12 Q h := by
   unfold ref11_Short_J101; refine Jn.of_ev (x := subA ref11_Short_ann [1, 0, 1]) ?_; exact (ref11_Short_J101_eq s0 t12 Q h).symm ▸ H
@[reducible] def ref11_Short_L11010_txt (s0 : ByteArray) (i3 : Int) (K : Ex → Fr → Heap → Prop) (h : Heap) : Prop :=
 let t15 : Int := (ByteArray.size s0 : Int)
 let t16 : Bool := decide (i3 < t15)
 br t16 (
 hwp PP (Instr.index T_string (.string s0) (.int .i64 i3)) (fun v h1 => ∃ (t21 : Int), v = (.int .u8 t21) ∧
 let t23 : Bool := decide (t21 < 97)
 br t23 (
 let t30 : Bool := decide (t21 < 48)
 br t30 (
 let t38 : Bool := (t21 != 45)
 ref11_Short_J11010010011 s0 i3 t38 K h1) (
 let t33 : Bool := decide (t21 > 57)
 br t33 (
 let t38_1 : Bool := (t21 != 45)
 ref11_Short_J11010010011 s0 i3 t38_1 K h1) (
 ref11_Short_J11010010011 s0 i3 false K h1))) (
 let t26 : Bool := decide (t21 > 122)
 br t26 (
 let t30_1 : Bool := decide (t21 < 48)
 br t30_1 (
 let t38_2 : Bool := (t21 != 45)
 ref11_Short_J11010010011 s0 i3 t38_2 K h1) (
 let t33_1 : Bool := decide (t21 > 57)
 br t33_1 (
 let t38_3 : Bool := (t21 != 45)
 ref11_Short_J11010010011 s0 i3 t38_3 K h1) (
 ref11_Short_J11010010011 s0 i3 false K h1))) (
 ref11_Short_J11010010011 s0 i3 false K h1))) h) (
 K (.exit 0) (ref11_Short_X0) h)
theorem ref11_Short_L11010_eq (s0 : ByteArray) (i3 : Int) (K : Ex → Fr → Heap → Prop) (h : Heap) : ev PP true none (sub (bodyOf Try.f20) [1, 1, 0, 1, 0, 0]) (subA ref11_Short_ann [1, 1, 0, 1, 0, 0]) (mkFr 0 40 [(0, (.string s0)), (3, (.int .i64 i3))]) (seqK (fun fr h => Lp PP true (sub (bodyOf Try.f20) [1, 1, 0, 1, 0, 0]) (fr.mask 9) K h) K) h = ref11_Short_L11010_txt s0 i3 K h := by kernel_rfl
theorem ref11_Short_L11010_of {s0 : ByteArray} {i3 : Int} {K : Ex → Fr → Heap → Prop} {h : Heap} (H : ref11_Short_L11010_txt s0 i3 K h) : ref11_Short_L11010 s0 i3 K h := by
   unfold ref11_Short_L11010; refine Lp.of_ev (x := subA ref11_Short_ann [1, 1, 0, 1, 0, 0]) (keep := 9) ?_; exact (ref11_Short_L11010_eq s0 i3 K h).symm ▸ H
theorem ref11_Short_at11010_X0 (Q : Value → Heap → Prop)  (h : Heap) : (ref11_Short_K1101 Q) (.exit 0) (ref11_Short_X0 ) h = (
 Q (.bool true) h) := by kernel_rfl
@[reducible] def ref11_Short_J11010010011_txt (s0 : ByteArray) (i3 : Int) (t39 : Bool) (K : Ex → Fr → Heap → Prop) (h : Heap) : Prop :=
 br t39 (
 K .ret (ref11_Short_Xret false) h) (
 let t18 : Int := IntKind.i64.wrap (i3 + 1)
 ref11_Short_L11010 s0 t18 K h)
theorem ref11_Short_J11010010011_eq (s0 : ByteArray) (i3 : Int) (t39 : Bool) (K : Ex → Fr → Heap → Prop) (h : Heap) : ev PP true none (sub (bodyOf Try.f20) [1, 1, 0, 1, 0, 0, 1, 0, 0, 1, 1]) (subA ref11_Short_ann [1, 1, 0, 1, 0, 0, 1, 0, 0, 1, 1]) (mkFr 0 40 [(0, (.string s0)), (3, (.int .i64 i3)), (39, (.bool t39))]) (ref11_Short_K11010010 K) h = ref11_Short_J11010010011_txt s0 i3 t39 K h := by kernel_rfl
theorem ref11_Short_J11010010011_of {s0 : ByteArray} {i3 : Int} {t39 : Bool} {K : Ex → Fr → Heap → Prop} {h : Heap} (H : ref11_Short_J11010010011_txt s0 i3 t39 K h) : ref11_Short_J11010010011 s0 i3 t39 K h := by
   unfold ref11_Short_J11010010011; refine Jn.of_ev (x := subA ref11_Short_ann [1, 1, 0, 1, 0, 0, 1, 0, 0, 1, 1]) ?_; exact (ref11_Short_J11010010011_eq s0 i3 t39 K h).symm ▸ H
theorem ref11_Short_at11010_Xret (Q : Value → Heap → Prop) (t2 : Bool) (h : Heap) : (ref11_Short_K1101 Q) .ret (ref11_Short_Xret t2) h = (
 Q (.bool t2) h) := by kernel_rfl
def ref11_Short_main (s0 : ByteArray) (Q : Value → Heap → Prop) (h : Heap) : Prop :=
 let t6 : Int := (ByteArray.size s0 : Int)
 let t7 : Bool := decide (t6 < 1)
 br t7 (
 ref11_Short_J101 s0 true Q h) (
 let t10 : Int := (ByteArray.size s0 : Int)
 let t11 : Bool := decide (t10 > 16)
 ref11_Short_J101 s0 t11 Q h)
theorem ref11_Short_eq (s0 : ByteArray) (Q : Value → Heap → Prop) (h : Heap) : ev PP true none (bodyOf Try.f20) ref11_Short_ann (initFr 40 [(.string s0)]) (bodyK PP Try.f20 Q) h = ref11_Short_main s0 Q h := by kernel_rfl
theorem ref11_Short_door {s0 : ByteArray} {Q : Value → Heap → Prop} {h : Heap} (H : ref11_Short_main s0 Q h) : SpecH PP F_ref11_Short [(.string s0)] h Q :=
   spec_of_ev Try.func20 rfl rfl ((ref11_Short_eq s0 Q h).symm ▸ H)
/-! ### haversack/quota.within: function 21 -/
def quota_within_ann : Ann := (.seq 1 (.region [(List.range 1, 1)]) (.seq 4 (.region [(List.range 7, 4)]) (.exit 4)))
def quota_within_main (xn0 : Int) (Q : Value → Heap → Prop) (h : Heap) : Prop :=
 let t4 : Bool := decide (xn0 ≥ 0)
 br t4 (
 let t7 : Bool := decide (xn0 ≤ 1000000000)
 Q (.bool t7) h) (
 Q (.bool false) h)
theorem quota_within_eq (xn0 : Int) (Q : Value → Heap → Prop) (h : Heap) : ev PP true none (bodyOf Try.f21) quota_within_ann (initFr 9 [(.int .i64 xn0)]) (bodyK PP Try.f21 Q) h = quota_within_main xn0 Q h := by kernel_rfl
theorem quota_within_door {xn0 : Int} {Q : Value → Heap → Prop} {h : Heap} (H : quota_within_main xn0 Q h) : SpecH PP F_quota_within [(.int .i64 xn0)] h Q :=
   spec_of_ev Try.func21 rfl rfl ((quota_within_eq xn0 Q h).symm ▸ H)
/-! ### (*haversack/quota.Book).find: function 22 -/
def quota_Book_find_ann : Ann := (.seq 3 (.region [(List.range 2, 3)]) (.seq 3 (.seq 515 (.region [(List.range 2, 515)]) (.cond (.seq 48 (.region [(List.range 2, 48)]) (.exit 48)) .leaf)) (.seq 192 (.region [(List.range 11, 192)]) (.seq 64 (.seq 1048640 (.region [(List.range 2, 1048640)]) (.cond (.seq 48 (.region [(List.range 2, 48)]) (.exit 48)) .leaf)) (.seq 48 (.region [(List.range 3, 48)]) (.exit 48))))))
def quota_Book_find_main (b0 : Option Addr) (tenant1 : ByteArray) (Q : Value → Heap → Prop) (h : Heap) : Prop :=
 let t9 : Bool := (Option.isNone b0)
 br t9 (
 Q (.tuple #[(.pointer none), (.int .i64 3)]) h) (
 nilc b0 (fun t12 =>
 ∃ (t14 : Option Nat), cellH h t12 = some (.map t14) ∧
 hwp PP (Instr.lookup T_map_string_p_quota_account (.map t14) (.string tenant1) true) (fun v h1 => ∃ (t16 : Option Addr) (t16_1 : Bool), v = (.tuple #[(.pointer t16), (.bool t16_1)]) ∧
 let t20 : Bool := (!t16_1)
 br t20 (
 Q (.tuple #[(.pointer none), (.int .i64 170)]) h1) (
 Q (.tuple #[(.pointer t16), (.int .i64 0)]) h1)) h))
theorem quota_Book_find_eq (b0 : Option Addr) (tenant1 : ByteArray) (Q : Value → Heap → Prop) (h : Heap) : ev PP true none (bodyOf Try.f22) quota_Book_find_ann (initFr 22 [(.pointer b0), (.string tenant1)]) (bodyK PP Try.f22 Q) h = quota_Book_find_main b0 tenant1 Q h := by kernel_rfl
theorem quota_Book_find_door {b0 : Option Addr} {tenant1 : ByteArray} {Q : Value → Heap → Prop} {h : Heap} (H : quota_Book_find_main b0 tenant1 Q h) : SpecH PP F_quota_Book_find [(.pointer b0), (.string tenant1)] h Q :=
   spec_of_ev Try.func22 rfl rfl ((quota_Book_find_eq b0 tenant1 Q h).symm ▸ H)
/-! ### (*haversack/quota.account).left: function 23 -/
def quota_account_left_ann : Ann := (.seq 5 (.region [(List.range 1, 5)]) (.seq 4 (.region [(List.range 38, 4)]) (.exit 4)))
def quota_account_left_main (a0 : Option Addr) (Q : Value → Heap → Prop) (h : Heap) : Prop :=
 let t2 : Addr := ⟨Array.size h, 0, none⟩
 let h1 : Heap := Array.push h (.cells #[(.int .i64 0), (.int .i64 0)] T_api_Use (0, 0))
 nilc a0 (fun t4 =>
 ∃ (t7 : Int), cellH h1 t4 = some (.int .i64 t7) ∧
 nilc a0 (fun t9 =>
 ∃ (t12 : Int), cellH h1 (Addr.add t9 2) = some (.int .i64 t12) ∧
 let t13 : Int := IntKind.i64.wrap (t7 - t12)
 nilc a0 (fun t15 =>
 ∃ (t18 : Int), cellH h1 (Addr.add t15 4) = some (.int .i64 t18) ∧
 let t19 : Int := IntKind.i64.wrap (t13 - t18)
 let t20 : Int := (if t19 > 0 then t19 else 0)
 nilc a0 (fun t22 =>
 ∃ (t25 : Int), cellH h1 (Addr.add t22 1) = some (.int .i64 t25) ∧
 nilc a0 (fun t27 =>
 ∃ (t30 : Int), cellH h1 (Addr.add (Addr.add t27 2) 1) = some (.int .i64 t30) ∧
 let t31 : Int := IntKind.i64.wrap (t25 - t30)
 nilc a0 (fun t33 =>
 ∃ (t36 : Int), cellH h1 (Addr.add (Addr.add t33 4) 1) = some (.int .i64 t36) ∧
 let t37 : Int := IntKind.i64.wrap (t31 - t36)
 let t38 : Int := (if t37 > 0 then t37 else 0)
 wrCells t2 0 [(.int .i64 t20), (.int .i64 t38)] (fun h2 =>
 ∃ (t2_1f0 : Int) (t2_1f1 : Int), rdCells h2 t2 0 [(.int .i64 t2_1f0), (.int .i64 t2_1f1)] ∧
 Q (.agg #[(.int .i64 t2_1f0), (.int .i64 t2_1f1)]) h2) h1))))))
theorem quota_account_left_eq (a0 : Option Addr) (Q : Value → Heap → Prop) (h : Heap) : ev PP true none (bodyOf Try.f23) quota_account_left_ann (initFr 40 [(.pointer a0)]) (bodyK PP Try.f23 Q) h = quota_account_left_main a0 Q h := by kernel_rfl
theorem quota_account_left_door {a0 : Option Addr} {Q : Value → Heap → Prop} {h : Heap} (H : quota_account_left_main a0 Q h) : SpecH PP F_quota_account_left [(.pointer a0)] h Q :=
   spec_of_ev Try.func23 rfl rfl ((quota_account_left_eq a0 Q h).symm ▸ H)
/-! ### (*haversack/haversackref17.Book).Set: function 24 -/
def ref17_Book_Set_ann : Ann := (.seq 35 (.region [(List.range 2, 35)]) (.seq 161 (.region [(List.range 4, 161)]) (.seq 161 (.seq 4257 (.region [(List.range 2, 4257)]) (.cond (.seq 64 (.region [(List.range 1, 64)]) (.exit 64)) .leaf)) (.seq 161 (.seq 1073741985 (.region [(List.range 18, 1073741985)]) (.join (.cond (.seq 64 (.region [(List.range 1, 64)]) (.exit 64)) .leaf))) (.seq 0 (.region [(List.range 8, 0)]) (.seq 64 (.region [(List.range 1, 64)]) (.exit 64)))))))
@[irreducible] def ref17_Book_Set_K111 (Q : Value → Heap → Prop) : Ex → Fr → Heap → Prop := seqK (fun fr h => ev PP true none (sub (bodyOf Try.f24) [1, 1, 1, 1]) (subA ref17_Book_Set_ann [1, 1, 1, 1]) (fr.mask 161) (bodyK PP Try.f24 Q) h) (bodyK PP Try.f24 Q)
@[irreducible] def ref17_Book_Set_J11101 (b0 : Option Addr) (u5 : Addr) (k7 : Int) (t30 : Bool) (Q : Value → Heap → Prop) (h : Heap) : Prop := Jn PP true (sub (bodyOf Try.f24) [1, 1, 1, 0, 1]) (mkFr 0 38 [(0, (.pointer b0)), (5, (.pointer (some u5))), (7, (.int .i64 k7)), (30, (.bool t30))]) (ref17_Book_Set_K111 Q) h
@[reducible] def ref17_Book_Set_J11101_txt (b0 : Option Addr) (u5 : Addr) (k7 : Int) (t30 : Bool) (Q : Value → Heap → Prop) (h : Heap) : Prop :=
 br t30 (
 Q (.int .i64 1) h) (
 nilc b0 (fun t32 =>
 ∃ (t34 : Option Addr) (t34n : Nat) (t34c : Nat), cellH h (Addr.add t32 1) = some (.slice t34 t34n t34c) ∧
 ∃ (t36f0 : Int) (t36f1 : Int), rdCells h u5 0 [(.int .i64 t36f0), (.int .i64 t36f1)] ∧
 hwp PP (Instr.indexAt T_sl_api_Use (.slice t34 t34n t34c) (.int .i64 k7)) (fun v h1 => ∃ (t37 : Addr), v = (.pointer (some t37)) ∧
 wrCells t37 0 [(.int .i64 t36f0), (.int .i64 t36f1)] (fun h2 =>
 Q (.int .i64 0) h2) h1) h))
theorem ref17_Book_Set_J11101_eq (b0 : Option Addr) (u5 : Addr) (k7 : Int) (t30 : Bool) (Q : Value → Heap → Prop) (h : Heap) : ev PP true none (sub (bodyOf Try.f24) [1, 1, 1, 0, 1]) (subA ref17_Book_Set_ann [1, 1, 1, 0, 1]) (mkFr 0 38 [(0, (.pointer b0)), (5, (.pointer (some u5))), (7, (.int .i64 k7)), (30, (.bool t30))]) (ref17_Book_Set_K111 Q) h = ref17_Book_Set_J11101_txt b0 u5 k7 t30 Q h := by kernel_rfl
theorem ref17_Book_Set_J11101_of {b0 : Option Addr} {u5 : Addr} {k7 : Int} {t30 : Bool} {Q : Value → Heap → Prop} {h : Heap} (H : ref17_Book_Set_J11101_txt b0 u5 k7 t30 Q h) : ref17_Book_Set_J11101 b0 u5 k7 t30 Q h := by
   unfold ref17_Book_Set_J11101; refine Jn.of_ev (x := subA ref17_Book_Set_ann [1, 1, 1, 0, 1]) ?_; exact (ref17_Book_Set_J11101_eq b0 u5 k7 t30 Q h).symm ▸ H
def ref17_Book_Set_main (b0 : Option Addr) (tenant1 : ByteArray) (u2f0 : Int) (u2f1 : Int) (Q : Value → Heap → Prop) (h : Heap) : Prop :=
 let u5 : Addr := ⟨Array.size h, 0, none⟩
 let h1 : Heap := Array.push h (.cells #[(.int .i64 u2f0), (.int .i64 u2f1)] T_api_Use (0, 0))
 SpecH PP F_ref17_Book_find [(.pointer b0), (.string tenant1)] h1 (fun v h2 => ∃ (t10 : Int), v = (.int .i64 t10) ∧
 let t12 : Bool := decide (t10 < 0)
 br t12 (
 Q (.int .i64 170) h2) (
 ∃ (t14 : Int), cellH h2 u5 = some (.int .i64 t14) ∧
 let t15 : Bool := decide (t14 < 0)
 br t15 (
 ref17_Book_Set_J11101 b0 u5 t10 true Q h2) (
 ∃ (t18 : Int), cellH h2 u5 = some (.int .i64 t18) ∧
 let t19 : Bool := decide (t18 > 1000000000)
 br t19 (
 ref17_Book_Set_J11101 b0 u5 t10 true Q h2) (
 ∃ (t23 : Int), cellH h2 (Addr.add u5 1) = some (.int .i64 t23) ∧
 let t24 : Bool := decide (t23 < 0)
 br t24 (
 ref17_Book_Set_J11101 b0 u5 t10 true Q h2) (
 ∃ (t28 : Int), cellH h2 (Addr.add u5 1) = some (.int .i64 t28) ∧
 let t29 : Bool := decide (t28 > 1000000000)
 ref17_Book_Set_J11101 b0 u5 t10 t29 Q h2)))))
theorem ref17_Book_Set_eq (b0 : Option Addr) (tenant1 : ByteArray) (u2f0 : Int) (u2f1 : Int) (Q : Value → Heap → Prop) (h : Heap) : ev PP true none (bodyOf Try.f24) ref17_Book_Set_ann (initFr 38 [(.pointer b0), (.string tenant1), (.agg #[(.int .i64 u2f0), (.int .i64 u2f1)])]) (bodyK PP Try.f24 Q) h = ref17_Book_Set_main b0 tenant1 u2f0 u2f1 Q h := by kernel_rfl
theorem ref17_Book_Set_door {b0 : Option Addr} {tenant1 : ByteArray} {u2f0 : Int} {u2f1 : Int} {Q : Value → Heap → Prop} {h : Heap} (H : ref17_Book_Set_main b0 tenant1 u2f0 u2f1 Q h) : SpecH PP F_ref17_Book_Set [(.pointer b0), (.string tenant1), (.agg #[(.int .i64 u2f0), (.int .i64 u2f1)])] h Q :=
   spec_of_ev Try.func24 rfl rfl ((ref17_Book_Set_eq b0 tenant1 u2f0 u2f1 Q h).symm ▸ H)
/-! ### (*haversack/haversackref17.Book).Use: function 25 -/
def ref17_Book_Use_ann : Ann := (.seq 19 (.region [(List.range 2, 19)]) (.seq 81 (.region [(List.range 4, 81)]) (.seq 81 (.seq 2129 (.region [(List.range 2, 2129)]) (.cond (.seq 48 (.region [(List.range 3, 48)]) (.exit 48)) .leaf)) (.seq 48 (.region [(List.range 9, 48)]) (.exit 48)))))
def ref17_Book_Use_main (b0 : Option Addr) (tenant1 : ByteArray) (Q : Value → Heap → Prop) (h : Heap) : Prop :=
 let t4 : Addr := ⟨Array.size h, 0, none⟩
 let h1 : Heap := Array.push h (.cells #[(.int .i64 0), (.int .i64 0)] T_api_Use (0, 0))
 SpecH PP F_ref17_Book_find [(.pointer b0), (.string tenant1)] h1 (fun v h2 => ∃ (t9 : Int), v = (.int .i64 t9) ∧
 let t11 : Bool := decide (t9 < 0)
 br t11 (
 wrCells t4 0 [(.int .i64 0), (.int .i64 0)] (fun h3 =>
 ∃ (t4_1f0 : Int) (t4_1f1 : Int), rdCells h3 t4 0 [(.int .i64 t4_1f0), (.int .i64 t4_1f1)] ∧
 Q (.tuple #[(.agg #[(.int .i64 t4_1f0), (.int .i64 t4_1f1)]), (.int .i64 170)]) h3) h2) (
 nilc b0 (fun t14 =>
 ∃ (t16 : Option Addr) (t16n : Nat) (t16c : Nat), cellH h2 (Addr.add t14 1) = some (.slice t16 t16n t16c) ∧
 hwp PP (Instr.indexAt T_sl_api_Use (.slice t16 t16n t16c) (.int .i64 t9)) (fun v_1 h4 => ∃ (t18 : Addr), v_1 = (.pointer (some t18)) ∧
 ∃ (t19f0 : Int) (t19f1 : Int), rdCells h4 t18 0 [(.int .i64 t19f0), (.int .i64 t19f1)] ∧
 wrCells t4 0 [(.int .i64 t19f0), (.int .i64 t19f1)] (fun h5 =>
 ∃ (t4_2f0 : Int) (t4_2f1 : Int), rdCells h5 t4 0 [(.int .i64 t4_2f0), (.int .i64 t4_2f1)] ∧
 Q (.tuple #[(.agg #[(.int .i64 t4_2f0), (.int .i64 t4_2f1)]), (.int .i64 0)]) h5) h4) h2)))
theorem ref17_Book_Use_eq (b0 : Option Addr) (tenant1 : ByteArray) (Q : Value → Heap → Prop) (h : Heap) : ev PP true none (bodyOf Try.f25) ref17_Book_Use_ann (initFr 20 [(.pointer b0), (.string tenant1)]) (bodyK PP Try.f25 Q) h = ref17_Book_Use_main b0 tenant1 Q h := by kernel_rfl
theorem ref17_Book_Use_door {b0 : Option Addr} {tenant1 : ByteArray} {Q : Value → Heap → Prop} {h : Heap} (H : ref17_Book_Use_main b0 tenant1 Q h) : SpecH PP F_ref17_Book_Use [(.pointer b0), (.string tenant1)] h Q :=
   spec_of_ev Try.func25 rfl rfl ((ref17_Book_Use_eq b0 tenant1 Q h).symm ▸ H)
/-! ### (*haversack/haversackref17.Book).Left: function 26 -/
def ref17_Book_Left_ann : Ann := (.seq 19 (.region [(List.range 2, 19)]) (.seq 81 (.region [(List.range 4, 81)]) (.seq 81 (.seq 8273 (.region [(List.range 2, 8273)]) (.cond (.seq 48 (.region [(List.range 3, 48)]) (.exit 48)) .leaf)) (.seq 209 (.region [(List.range 37, 209)]) (.seq 144 (.seq 465 (.region [(List.range 1, 465)]) (.block (.loop 465 (.seq 465 (.seq 72057594037928401 (.region [(List.range 7, 72057594037928401)]) (.cond .leaf (.exit 144))) (.seq 465 (.block (.seq 295147905179352826321 (.region [(List.range 10, 295147905179352826321)]) (.cond (.seq 465 (.region [(List.range 15, 465)]) (.region [(List.range 15, 465)])) .leaf))) (.join (.region [(List.range 3, 465)]))))))) (.seq 48 (.region [(List.range 9, 48)]) (.exit 48)))))))
@[irreducible] def ref17_Book_Left_X0 (t4 : Addr) (u7 : Addr) : Fr := (mkFr 0 104 [(4, (.pointer (some t4))), (7, (.pointer (some u7)))])
@[irreducible] def ref17_Book_Left_L1111010 (b0 : Option Addr) (t4 : Addr) (k6 : Int) (u7 : Addr) (i8 : Int) (K : Ex → Fr → Heap → Prop) (h : Heap) : Prop := Lp PP true (sub (bodyOf Try.f26) [1, 1, 1, 1, 0, 1, 0, 0]) (mkFr 0 104 [(0, (.pointer b0)), (4, (.pointer (some t4))), (6, (.int .i64 k6)), (7, (.pointer (some u7))), (8, (.int .i64 i8))]) K h
@[irreducible] def ref17_Book_Left_B1111010 (K : Ex → Fr → Heap → Prop) : Ex → Fr → Heap → Prop := seqK (fun fr h => Lp PP true (sub (bodyOf Try.f26) [1, 1, 1, 1, 0, 1, 0, 0]) (fr.mask 465) K h) K
@[irreducible] def ref17_Book_Left_J1111010011 (b0 : Option Addr) (t4 : Addr) (k6 : Int) (u7 : Addr) (i8 : Int) (K : Ex → Fr → Heap → Prop) (h : Heap) : Prop := Jn PP true (sub (bodyOf Try.f26) [1, 1, 1, 1, 0, 1, 0, 0, 1, 1]) (mkFr 0 104 [(0, (.pointer b0)), (4, (.pointer (some t4))), (6, (.int .i64 k6)), (7, (.pointer (some u7))), (8, (.int .i64 i8))]) (ref17_Book_Left_B1111010 K) h
@[irreducible] def ref17_Book_Left_K1111 (Q : Value → Heap → Prop) : Ex → Fr → Heap → Prop := seqK (fun fr h => ev PP true none (sub (bodyOf Try.f26) [1, 1, 1, 1, 1]) (subA ref17_Book_Left_ann [1, 1, 1, 1, 1]) (fr.mask 144) (bodyK PP Try.f26 Q) h) (bodyK PP Try.f26 Q)
@[irreducible] def ref17_Book_Left_K111101 (Q : Value → Heap → Prop) : Ex → Fr → Heap → Prop := blockK 0 (ref17_Book_Left_K1111 Q)
@[reducible] def ref17_Book_Left_L1111010_txt (b0 : Option Addr) (t4 : Addr) (k6 : Int) (u7 : Addr) (i8 : Int) (K : Ex → Fr → Heap → Prop) (h : Heap) : Prop :=
 nilc b0 (fun t52 =>
 ∃ (t54 : Option Addr) (t54n : Nat) (t54c : Nat), cellH h (Addr.add t52 2) = some (.slice t54 t54n t54c) ∧
 let t56 : Bool := decide (i8 < (t54n : Int))
 br t56 (
 nilc b0 (fun t60 =>
 ∃ (t62 : Option Addr) (t62n : Nat) (t62c : Nat), cellH h (Addr.add t60 2) = some (.slice t62 t62n t62c) ∧
 hwp PP (Instr.indexAt T_sl_haversackref17_Held (.slice t62 t62n t62c) (.int .i64 i8)) (fun v h1 => ∃ (t64 : Addr), v = (.pointer (some t64)) ∧
 ∃ (t66 : Int), cellH h1 (Addr.add t64 1) = some (.int .i64 t66) ∧
 let t68 : Bool := (t66 == k6)
 br t68 (
 ∃ (t70 : Int), cellH h1 u7 = some (.int .i64 t70) ∧
 nilc b0 (fun t72 =>
 ∃ (t74 : Option Addr) (t74n : Nat) (t74c : Nat), cellH h1 (Addr.add t72 2) = some (.slice t74 t74n t74c) ∧
 hwp PP (Instr.indexAt T_sl_haversackref17_Held (.slice t74 t74n t74c) (.int .i64 i8)) (fun v_1 h2 => ∃ (t76 : Addr), v_1 = (.pointer (some t76)) ∧
 ∃ (t79 : Int), cellH h2 (Addr.add t76 2) = some (.int .i64 t79) ∧
 let t80 : Int := (if t79 > 0 then t79 else 0)
 let t81 : Int := IntKind.i64.wrap (t70 - t80)
 wr u7 (.int .i64 t81) (fun h3 =>
 ∃ (t84 : Int), cellH h3 (Addr.add u7 1) = some (.int .i64 t84) ∧
 nilc b0 (fun t86 =>
 ∃ (t88 : Option Addr) (t88n : Nat) (t88c : Nat), cellH h3 (Addr.add t86 2) = some (.slice t88 t88n t88c) ∧
 hwp PP (Instr.indexAt T_sl_haversackref17_Held (.slice t88 t88n t88c) (.int .i64 i8)) (fun v_2 h4 => ∃ (t90 : Addr), v_2 = (.pointer (some t90)) ∧
 ∃ (t93 : Int), cellH h4 (Addr.add (Addr.add t90 2) 1) = some (.int .i64 t93) ∧
 let t94 : Int := (if t93 > 0 then t93 else 0)
 let t95 : Int := IntKind.i64.wrap (t84 - t94)
 wr (Addr.add u7 1) (.int .i64 t95) (fun h5 =>
 ref17_Book_Left_J1111010011 b0 t4 k6 u7 i8 K h5) h4) h3)) h2) h1)) (
 ref17_Book_Left_J1111010011 b0 t4 k6 u7 i8 K h1)) h)) (
 K (.exit 0) (ref17_Book_Left_X0 t4 u7) h))
theorem ref17_Book_Left_L1111010_eq (b0 : Option Addr) (t4 : Addr) (k6 : Int) (u7 : Addr) (i8 : Int) (K : Ex → Fr → Heap → Prop) (h : Heap) : ev PP true none (sub (bodyOf Try.f26) [1, 1, 1, 1, 0, 1, 0, 0]) (subA ref17_Book_Left_ann [1, 1, 1, 1, 0, 1, 0, 0]) (mkFr 0 104 [(0, (.pointer b0)), (4, (.pointer (some t4))), (6, (.int .i64 k6)), (7, (.pointer (some u7))), (8, (.int .i64 i8))]) (seqK (fun fr h => Lp PP true (sub (bodyOf Try.f26) [1, 1, 1, 1, 0, 1, 0, 0]) (fr.mask 465) K h) K) h = ref17_Book_Left_L1111010_txt b0 t4 k6 u7 i8 K h := by kernel_rfl
theorem ref17_Book_Left_L1111010_of {b0 : Option Addr} {t4 : Addr} {k6 : Int} {u7 : Addr} {i8 : Int} {K : Ex → Fr → Heap → Prop} {h : Heap} (H : ref17_Book_Left_L1111010_txt b0 t4 k6 u7 i8 K h) : ref17_Book_Left_L1111010 b0 t4 k6 u7 i8 K h := by
   unfold ref17_Book_Left_L1111010; refine Lp.of_ev (x := subA ref17_Book_Left_ann [1, 1, 1, 1, 0, 1, 0, 0]) (keep := 465) ?_; exact (ref17_Book_Left_L1111010_eq b0 t4 k6 u7 i8 K h).symm ▸ H
theorem ref17_Book_Left_at1111010_X0 (Q : Value → Heap → Prop) (t4 : Addr) (u7 : Addr) (h : Heap) : (ref17_Book_Left_K111101 Q) (.exit 0) (ref17_Book_Left_X0 t4 u7) h = (
 ∃ (t98 : Int), cellH h u7 = some (.int .i64 t98) ∧
 let t99 : Int := (if t98 > 0 then t98 else 0)
 ∃ (t101 : Int), cellH h (Addr.add u7 1) = some (.int .i64 t101) ∧
 let t102 : Int := (if t101 > 0 then t101 else 0)
 wrCells t4 0 [(.int .i64 t99), (.int .i64 t102)] (fun h1 =>
 ∃ (t4_1f0 : Int) (t4_1f1 : Int), rdCells h1 t4 0 [(.int .i64 t4_1f0), (.int .i64 t4_1f1)] ∧
 Q (.tuple #[(.agg #[(.int .i64 t4_1f0), (.int .i64 t4_1f1)]), (.int .i64 0)]) h1) h) := by kernel_rfl
@[reducible] def ref17_Book_Left_J1111010011_txt (b0 : Option Addr) (t4 : Addr) (k6 : Int) (u7 : Addr) (i8 : Int) (K : Ex → Fr → Heap → Prop) (h : Heap) : Prop :=
 let t58 : Int := IntKind.i64.wrap (i8 + 1)
 ref17_Book_Left_L1111010 b0 t4 k6 u7 t58 K h
theorem ref17_Book_Left_J1111010011_eq (b0 : Option Addr) (t4 : Addr) (k6 : Int) (u7 : Addr) (i8 : Int) (K : Ex → Fr → Heap → Prop) (h : Heap) : ev PP true none (sub (bodyOf Try.f26) [1, 1, 1, 1, 0, 1, 0, 0, 1, 1]) (subA ref17_Book_Left_ann [1, 1, 1, 1, 0, 1, 0, 0, 1, 1]) (mkFr 0 104 [(0, (.pointer b0)), (4, (.pointer (some t4))), (6, (.int .i64 k6)), (7, (.pointer (some u7))), (8, (.int .i64 i8))]) (ref17_Book_Left_B1111010 K) h = ref17_Book_Left_J1111010011_txt b0 t4 k6 u7 i8 K h := by kernel_rfl
theorem ref17_Book_Left_J1111010011_of {b0 : Option Addr} {t4 : Addr} {k6 : Int} {u7 : Addr} {i8 : Int} {K : Ex → Fr → Heap → Prop} {h : Heap} (H : ref17_Book_Left_J1111010011_txt b0 t4 k6 u7 i8 K h) : ref17_Book_Left_J1111010011 b0 t4 k6 u7 i8 K h := by
   unfold ref17_Book_Left_J1111010011; refine Jn.of_ev (x := subA ref17_Book_Left_ann [1, 1, 1, 1, 0, 1, 0, 0, 1, 1]) ?_; exact (ref17_Book_Left_J1111010011_eq b0 t4 k6 u7 i8 K h).symm ▸ H
def ref17_Book_Left_main (b0 : Option Addr) (tenant1 : ByteArray) (Q : Value → Heap → Prop) (h : Heap) : Prop :=
 let t4 : Addr := ⟨Array.size h, 0, none⟩
 let h1 : Heap := Array.push h (.cells #[(.int .i64 0), (.int .i64 0)] T_api_Use (0, 0))
 SpecH PP F_ref17_Book_find [(.pointer b0), (.string tenant1)] h1 (fun v h2 => ∃ (t11 : Int), v = (.int .i64 t11) ∧
 let t13 : Bool := decide (t11 < 0)
 br t13 (
 wrCells t4 0 [(.int .i64 0), (.int .i64 0)] (fun h3 =>
 ∃ (t4_1f0 : Int) (t4_1f1 : Int), rdCells h3 t4 0 [(.int .i64 t4_1f0), (.int .i64 t4_1f1)] ∧
 Q (.tuple #[(.agg #[(.int .i64 t4_1f0), (.int .i64 t4_1f1)]), (.int .i64 170)]) h3) h2) (
 nilc b0 (fun t16 =>
 ∃ (t18 : Option Addr) (t18n : Nat) (t18c : Nat), cellH h2 t16 = some (.slice t18 t18n t18c) ∧
 hwp PP (Instr.indexAt T_sl_api_Tenant (.slice t18 t18n t18c) (.int .i64 t11)) (fun v_1 h4 => ∃ (t20 : Addr), v_1 = (.pointer (some t20)) ∧
 ∃ (t22 : Int), cellH h4 (Addr.add t20 2) = some (.int .i64 t22) ∧
 nilc b0 (fun t24 =>
 ∃ (t26 : Option Addr) (t26n : Nat) (t26c : Nat), cellH h4 (Addr.add t24 1) = some (.slice t26 t26n t26c) ∧
 hwp PP (Instr.indexAt T_sl_api_Use (.slice t26 t26n t26c) (.int .i64 t11)) (fun v_2 h5 => ∃ (t28 : Addr), v_2 = (.pointer (some t28)) ∧
 ∃ (t30 : Int), cellH h5 t28 = some (.int .i64 t30) ∧
 let t31 : Int := IntKind.i64.wrap (t22 - t30)
 nilc b0 (fun t33 =>
 ∃ (t35 : Option Addr) (t35n : Nat) (t35c : Nat), cellH h5 t33 = some (.slice t35 t35n t35c) ∧
 hwp PP (Instr.indexAt T_sl_api_Tenant (.slice t35 t35n t35c) (.int .i64 t11)) (fun v_3 h6 => ∃ (t37 : Addr), v_3 = (.pointer (some t37)) ∧
 ∃ (t39 : Int), cellH h6 (Addr.add t37 3) = some (.int .i64 t39) ∧
 nilc b0 (fun t41 =>
 ∃ (t43 : Option Addr) (t43n : Nat) (t43c : Nat), cellH h6 (Addr.add t41 1) = some (.slice t43 t43n t43c) ∧
 hwp PP (Instr.indexAt T_sl_api_Use (.slice t43 t43n t43c) (.int .i64 t11)) (fun v_4 h7 => ∃ (t45 : Addr), v_4 = (.pointer (some t45)) ∧
 ∃ (t47 : Int), cellH h7 (Addr.add t45 1) = some (.int .i64 t47) ∧
 let t48 : Int := IntKind.i64.wrap (t39 - t47)
 let u7 : Addr := ⟨Array.size h7, 0, none⟩
 let h8 : Heap := Array.push h7 (.cells #[(.int .i64 0), (.int .i64 0)] T_api_Use (0, 0))
 wrCells u7 0 [(.int .i64 t31), (.int .i64 t48)] (fun h9 =>
 ref17_Book_Left_L1111010 b0 t4 t11 u7 0 (ref17_Book_Left_K111101 Q) h9) h8) h6)) h5)) h4)) h2)))
theorem ref17_Book_Left_eq (b0 : Option Addr) (tenant1 : ByteArray) (Q : Value → Heap → Prop) (h : Heap) : ev PP true none (bodyOf Try.f26) ref17_Book_Left_ann (initFr 104 [(.pointer b0), (.string tenant1)]) (bodyK PP Try.f26 Q) h = ref17_Book_Left_main b0 tenant1 Q h := by kernel_rfl
theorem ref17_Book_Left_door {b0 : Option Addr} {tenant1 : ByteArray} {Q : Value → Heap → Prop} {h : Heap} (H : ref17_Book_Left_main b0 tenant1 Q h) : SpecH PP F_ref17_Book_Left [(.pointer b0), (.string tenant1)] h Q :=
   spec_of_ev Try.func26 rfl rfl ((ref17_Book_Left_eq b0 tenant1 Q h).symm ▸ H)
/-! ### (*haversack/haversackref17.Book).Reserve: function 27 -/
def ref17_Book_Reserve_ann : Ann := (.seq 35 (.region [(List.range 3, 35)]) (.seq 803 (.region [(List.range 9, 803)]) (.seq 291 (.seq 131875 (.region [(List.range 2, 131875)]) (.cond (.seq 192 (.region [(List.range 3, 192)]) (.exit 192)) .leaf)) (.seq 291 (.seq 68719477027 (.region [(List.range 18, 68719477027)]) (.join (.cond (.seq 192 (.region [(List.range 2, 192)]) (.exit 192)) .leaf))) (.seq 35 (.seq 288230376151711779 (.region [(List.range 22, 288230376151711779)]) (.join (.cond (.seq 192 (.region [(List.range 2, 192)]) (.exit 192)) .leaf))) (.seq 35 (.region [(List.range 8, 35)]) (.seq 1 (.tree (.run [0, 1, 2, 3, 5, 6, 7, 9, 10] (.alt 4 (.alt 8 (.alt 11 (.run [12, 13, 14, 15, 16, 17, 18] .done) (.alt 12 (.run [11, 13, 14, 15, 16, 17, 18] .done) .nil)) (.alt 11 (.run [8, 12, 13, 14, 15, 16, 17, 18] .done) (.alt 12 (.alt 8 (.run [11, 13, 14, 15, 16, 17, 18] .done) (.alt 11 (.run [8, 13, 14, 15, 16, 17, 18] .done) .nil)) .nil))) (.alt 8 (.alt 4 (.alt 11 (.run [12, 13, 14, 15, 16, 17, 18] .done) (.alt 12 (.run [11, 13, 14, 15, 16, 17, 18] .done) .nil)) (.alt 11 (.run [12, 13] (.alt 4 (.run [14, 15, 16, 17, 18] .done) (.alt 14 (.run [4, 15, 16, 17, 18] .done) .nil))) (.alt 12 (.alt 4 (.run [11, 13, 14, 15, 16, 17, 18] .done) (.alt 11 (.run [13] (.alt 4 (.run [14, 15, 16, 17, 18] .done) (.alt 14 (.run [4, 15, 16, 17, 18] .done) .nil))) .nil)) .nil))) (.alt 11 (.run [8, 12, 13] (.alt 4 (.run [14, 15, 16, 17, 18] .done) (.alt 14 (.run [4, 15, 16, 17, 18] .done) .nil))) (.alt 12 (.alt 4 (.alt 8 (.run [11, 13, 14, 15, 16, 17, 18] .done) (.alt 11 (.run [8, 13, 14, 15, 16, 17, 18] .done) .nil)) (.alt 8 (.alt 4 (.run [11, 13, 14, 15, 16, 17, 18] .done) (.alt 11 (.run [13] (.alt 4 (.run [14, 15, 16, 17, 18] .done) (.alt 14 (.run [4, 15, 16, 17, 18] .done) .nil))) .nil)) (.alt 11 (.run [8, 13] (.alt 4 (.run [14, 15, 16, 17, 18] .done) (.alt 14 (.run [4, 15, 16, 17, 18] .done) .nil))) .nil))) .nil))))) 1) (.join (.seq 192 (.region [(List.range 6, 192)]) (.exit 192))))))))))
@[irreducible] def ref17_Book_Reserve_K111 (Q : Value → Heap → Prop) : Ex → Fr → Heap → Prop := seqK (fun fr h => ev PP true none (sub (bodyOf Try.f27) [1, 1, 1, 1]) (subA ref17_Book_Reserve_ann [1, 1, 1, 1]) (fr.mask 291) (bodyK PP Try.f27 Q) h) (bodyK PP Try.f27 Q)
@[irreducible] def ref17_Book_Reserve_J11101 (b0 : Option Addr) (tenant1 : ByteArray) (more5 : Addr) (left8 : Addr) (t36 : Bool) (Q : Value → Heap → Prop) (h : Heap) : Prop := Jn PP true (sub (bodyOf Try.f27) [1, 1, 1, 0, 1]) (mkFr 0 88 [(0, (.pointer b0)), (1, (.string tenant1)), (5, (.pointer (some more5))), (8, (.pointer (some left8))), (36, (.bool t36))]) (ref17_Book_Reserve_K111 Q) h
@[irreducible] def ref17_Book_Reserve_K1111 (Q : Value → Heap → Prop) : Ex → Fr → Heap → Prop := seqK (fun fr h => ev PP true none (sub (bodyOf Try.f27) [1, 1, 1, 1, 1]) (subA ref17_Book_Reserve_ann [1, 1, 1, 1, 1]) (fr.mask 35) (bodyK PP Try.f27 Q) h) (bodyK PP Try.f27 Q)
@[irreducible] def ref17_Book_Reserve_J111101 (b0 : Option Addr) (tenant1 : ByteArray) (more5 : Addr) (t58 : Bool) (Q : Value → Heap → Prop) (h : Heap) : Prop := Jn PP true (sub (bodyOf Try.f27) [1, 1, 1, 1, 0, 1]) (mkFr 0 88 [(0, (.pointer b0)), (1, (.string tenant1)), (5, (.pointer (some more5))), (58, (.bool t58))]) (ref17_Book_Reserve_K1111 Q) h
@[irreducible] def ref17_Book_Reserve_J1111111 (b0 : Option Addr) (Q : Value → Heap → Prop) (h : Heap) : Prop := Jn PP true (sub (bodyOf Try.f27) [1, 1, 1, 1, 1, 1, 1]) (mkFr 0 88 [(0, (.pointer b0))]) (bodyK PP Try.f27 Q) h
@[reducible] def ref17_Book_Reserve_J11101_txt (b0 : Option Addr) (tenant1 : ByteArray) (more5 : Addr) (left8 : Addr) (t36 : Bool) (Q : Value → Heap → Prop) (h : Heap) : Prop :=
 br t36 (
 Q (.tuple #[(.int .i64 0), (.int .i64 1)]) h) (
 ∃ (t38 : Int), cellH h more5 = some (.int .i64 t38) ∧
 let t39 : Bool := decide (t38 > 0)
 br t39 (
 ∃ (t42 : Int), cellH h more5 = some (.int .i64 t42) ∧
 ∃ (t44 : Int), cellH h left8 = some (.int .i64 t44) ∧
 let t45 : Bool := decide (t42 > t44)
 br t45 (
 ref17_Book_Reserve_J111101 b0 tenant1 more5 true Q h) (
 ∃ (t49 : Int), cellH h (Addr.add more5 1) = some (.int .i64 t49) ∧
 let t50 : Bool := decide (t49 > 0)
 br t50 (
 ∃ (t53 : Int), cellH h (Addr.add more5 1) = some (.int .i64 t53) ∧
 ∃ (t55 : Int), cellH h (Addr.add left8 1) = some (.int .i64 t55) ∧
 let t56 : Bool := decide (t53 > t55)
 ref17_Book_Reserve_J111101 b0 tenant1 more5 t56 Q h) (
 ref17_Book_Reserve_J111101 b0 tenant1 more5 false Q h))) (
 ∃ (t49_1 : Int), cellH h (Addr.add more5 1) = some (.int .i64 t49_1) ∧
 let t50_1 : Bool := decide (t49_1 > 0)
 br t50_1 (
 ∃ (t53_1 : Int), cellH h (Addr.add more5 1) = some (.int .i64 t53_1) ∧
 ∃ (t55_1 : Int), cellH h (Addr.add left8 1) = some (.int .i64 t55_1) ∧
 let t56_1 : Bool := decide (t53_1 > t55_1)
 ref17_Book_Reserve_J111101 b0 tenant1 more5 t56_1 Q h) (
 ref17_Book_Reserve_J111101 b0 tenant1 more5 false Q h)))
theorem ref17_Book_Reserve_J11101_eq (b0 : Option Addr) (tenant1 : ByteArray) (more5 : Addr) (left8 : Addr) (t36 : Bool) (Q : Value → Heap → Prop) (h : Heap) : ev PP true none (sub (bodyOf Try.f27) [1, 1, 1, 0, 1]) (subA ref17_Book_Reserve_ann [1, 1, 1, 0, 1]) (mkFr 0 88 [(0, (.pointer b0)), (1, (.string tenant1)), (5, (.pointer (some more5))), (8, (.pointer (some left8))), (36, (.bool t36))]) (ref17_Book_Reserve_K111 Q) h = ref17_Book_Reserve_J11101_txt b0 tenant1 more5 left8 t36 Q h := by kernel_rfl
theorem ref17_Book_Reserve_J11101_of {b0 : Option Addr} {tenant1 : ByteArray} {more5 : Addr} {left8 : Addr} {t36 : Bool} {Q : Value → Heap → Prop} {h : Heap} (H : ref17_Book_Reserve_J11101_txt b0 tenant1 more5 left8 t36 Q h) : ref17_Book_Reserve_J11101 b0 tenant1 more5 left8 t36 Q h := by
   unfold ref17_Book_Reserve_J11101; refine Jn.of_ev (x := subA ref17_Book_Reserve_ann [1, 1, 1, 0, 1]) ?_; exact (ref17_Book_Reserve_J11101_eq b0 tenant1 more5 left8 t36 Q h).symm ▸ H
@[reducible] def ref17_Book_Reserve_J111101_txt (b0 : Option Addr) (tenant1 : ByteArray) (more5 : Addr) (t58 : Bool) (Q : Value → Heap → Prop) (h : Heap) : Prop :=
 br t58 (
 Q (.tuple #[(.int .i64 0), (.int .i64 171)]) h) (
 nilc b0 (fun t60 =>
 ∃ (t62 : Int), cellH h (Addr.add t60 3) = some (.int .i64 t62) ∧
 let t63 : Int := IntKind.i64.wrap (t62 + 1)
 nilc b0 (fun t64 =>
 wr (Addr.add t64 3) (.int .i64 t63) (fun h1 =>
 nilc b0 (fun t68 =>
 nilc b0 (fun t72 =>
 (
 ∃ (t70_14 : Option Addr) (t70_14n : Nat) (t70_14c : Nat), cellH h1 (Addr.add t68 2) = some (.slice t70_14 t70_14n t70_14c) ∧
 (
 ∃ (t74_9 : Int), cellH h1 (Addr.add t72 3) = some (.int .i64 t74_9) ∧
 (
 SpecH PP F_ref17_Book_find [(.pointer b0), (.string tenant1)] h1 (fun v_35 h77 => ∃ (t77_15 : Int), v_35 = (.int .i64 t77_15) ∧
 ∃ (t78_9f0 : Int) (t78_9f1 : Int), rdCells h77 more5 0 [(.int .i64 t78_9f0), (.int .i64 t78_9f1)] ∧
 let h78 : Heap := Array.push h77 (.cells #[(.int .i64 t74_9), (.int .i64 t77_15), (.int .i64 t78_9f0), (.int .i64 t78_9f1)] T_haversackref17_Held (0, 0))
 hwp PP (Builtin.append_ #[T_sl_haversackref17_Held, T_sl_haversackref17_Held] T_sl_haversackref17_Held #[(.slice t70_14 t70_14n t70_14c), (.slice (some ⟨Array.size h77, 0, none⟩) 1 1)]) (fun v_36 h79 => ∃ (t81_20 : Option Addr) (t81_20n : Nat) (t81_20c : Nat), v_36 = (.slice t81_20 t81_20n t81_20c) ∧
 nilc b0 (fun t82_20 =>
 wr (Addr.add t82_20 2) (.slice t81_20 t81_20n t81_20c) (fun h80 =>
 ref17_Book_Reserve_J1111111 b0 Q h80) h79)) h78)) ∧
 (
 ∃ (t78_8f0 : Int) (t78_8f1 : Int), rdCells h1 more5 0 [(.int .i64 t78_8f0), (.int .i64 t78_8f1)] ∧
 SpecH PP F_ref17_Book_find [(.pointer b0), (.string tenant1)] h1 (fun v_33 h73 => ∃ (t77_14 : Int), v_33 = (.int .i64 t77_14) ∧
 let h74 : Heap := Array.push h73 (.cells #[(.int .i64 t74_9), (.int .i64 t77_14), (.int .i64 t78_8f0), (.int .i64 t78_8f1)] T_haversackref17_Held (0, 0))
 hwp PP (Builtin.append_ #[T_sl_haversackref17_Held, T_sl_haversackref17_Held] T_sl_haversackref17_Held #[(.slice t70_14 t70_14n t70_14c), (.slice (some ⟨Array.size h73, 0, none⟩) 1 1)]) (fun v_34 h75 => ∃ (t81_19 : Option Addr) (t81_19n : Nat) (t81_19c : Nat), v_34 = (.slice t81_19 t81_19n t81_19c) ∧
 nilc b0 (fun t82_19 =>
 wr (Addr.add t82_19 2) (.slice t81_19 t81_19n t81_19c) (fun h76 =>
 ref17_Book_Reserve_J1111111 b0 Q h76) h75)) h74)) ∧
 True) ∧
 (
 SpecH PP F_ref17_Book_find [(.pointer b0), (.string tenant1)] h1 (fun v_31 h69 => ∃ (t77_13 : Int), v_31 = (.int .i64 t77_13) ∧
 ∃ (t74_8 : Int), cellH h69 (Addr.add t72 3) = some (.int .i64 t74_8) ∧
 ∃ (t78_7f0 : Int) (t78_7f1 : Int), rdCells h69 more5 0 [(.int .i64 t78_7f0), (.int .i64 t78_7f1)] ∧
 let h70 : Heap := Array.push h69 (.cells #[(.int .i64 t74_8), (.int .i64 t77_13), (.int .i64 t78_7f0), (.int .i64 t78_7f1)] T_haversackref17_Held (0, 0))
 hwp PP (Builtin.append_ #[T_sl_haversackref17_Held, T_sl_haversackref17_Held] T_sl_haversackref17_Held #[(.slice t70_14 t70_14n t70_14c), (.slice (some ⟨Array.size h69, 0, none⟩) 1 1)]) (fun v_32 h71 => ∃ (t81_18 : Option Addr) (t81_18n : Nat) (t81_18c : Nat), v_32 = (.slice t81_18 t81_18n t81_18c) ∧
 nilc b0 (fun t82_18 =>
 wr (Addr.add t82_18 2) (.slice t81_18 t81_18n t81_18c) (fun h72 =>
 ref17_Book_Reserve_J1111111 b0 Q h72) h71)) h70)) ∧
 (
 ∃ (t78_6f0 : Int) (t78_6f1 : Int), rdCells h1 more5 0 [(.int .i64 t78_6f0), (.int .i64 t78_6f1)] ∧
 (
 ∃ (t74_7 : Int), cellH h1 (Addr.add t72 3) = some (.int .i64 t74_7) ∧
 SpecH PP F_ref17_Book_find [(.pointer b0), (.string tenant1)] h1 (fun v_29 h65 => ∃ (t77_12 : Int), v_29 = (.int .i64 t77_12) ∧
 let h66 : Heap := Array.push h65 (.cells #[(.int .i64 t74_7), (.int .i64 t77_12), (.int .i64 t78_6f0), (.int .i64 t78_6f1)] T_haversackref17_Held (0, 0))
 hwp PP (Builtin.append_ #[T_sl_haversackref17_Held, T_sl_haversackref17_Held] T_sl_haversackref17_Held #[(.slice t70_14 t70_14n t70_14c), (.slice (some ⟨Array.size h65, 0, none⟩) 1 1)]) (fun v_30 h67 => ∃ (t81_17 : Option Addr) (t81_17n : Nat) (t81_17c : Nat), v_30 = (.slice t81_17 t81_17n t81_17c) ∧
 nilc b0 (fun t82_17 =>
 wr (Addr.add t82_17 2) (.slice t81_17 t81_17n t81_17c) (fun h68 =>
 ref17_Book_Reserve_J1111111 b0 Q h68) h67)) h66)) ∧
 (
 SpecH PP F_ref17_Book_find [(.pointer b0), (.string tenant1)] h1 (fun v_27 h61 => ∃ (t77_11 : Int), v_27 = (.int .i64 t77_11) ∧
 ∃ (t74_6 : Int), cellH h61 (Addr.add t72 3) = some (.int .i64 t74_6) ∧
 let h62 : Heap := Array.push h61 (.cells #[(.int .i64 t74_6), (.int .i64 t77_11), (.int .i64 t78_6f0), (.int .i64 t78_6f1)] T_haversackref17_Held (0, 0))
 hwp PP (Builtin.append_ #[T_sl_haversackref17_Held, T_sl_haversackref17_Held] T_sl_haversackref17_Held #[(.slice t70_14 t70_14n t70_14c), (.slice (some ⟨Array.size h61, 0, none⟩) 1 1)]) (fun v_28 h63 => ∃ (t81_16 : Option Addr) (t81_16n : Nat) (t81_16c : Nat), v_28 = (.slice t81_16 t81_16n t81_16c) ∧
 nilc b0 (fun t82_16 =>
 wr (Addr.add t82_16 2) (.slice t81_16 t81_16n t81_16c) (fun h64 =>
 ref17_Book_Reserve_J1111111 b0 Q h64) h63)) h62)) ∧
 True) ∧
 True) ∧
 (
 ∃ (t74_5 : Int), cellH h1 (Addr.add t72 3) = some (.int .i64 t74_5) ∧
 (
 ∃ (t70_13 : Option Addr) (t70_13n : Nat) (t70_13c : Nat), cellH h1 (Addr.add t68 2) = some (.slice t70_13 t70_13n t70_13c) ∧
 (
 SpecH PP F_ref17_Book_find [(.pointer b0), (.string tenant1)] h1 (fun v_25 h57 => ∃ (t77_10 : Int), v_25 = (.int .i64 t77_10) ∧
 ∃ (t78_5f0 : Int) (t78_5f1 : Int), rdCells h57 more5 0 [(.int .i64 t78_5f0), (.int .i64 t78_5f1)] ∧
 let h58 : Heap := Array.push h57 (.cells #[(.int .i64 t74_5), (.int .i64 t77_10), (.int .i64 t78_5f0), (.int .i64 t78_5f1)] T_haversackref17_Held (0, 0))
 hwp PP (Builtin.append_ #[T_sl_haversackref17_Held, T_sl_haversackref17_Held] T_sl_haversackref17_Held #[(.slice t70_13 t70_13n t70_13c), (.slice (some ⟨Array.size h57, 0, none⟩) 1 1)]) (fun v_26 h59 => ∃ (t81_15 : Option Addr) (t81_15n : Nat) (t81_15c : Nat), v_26 = (.slice t81_15 t81_15n t81_15c) ∧
 nilc b0 (fun t82_15 =>
 wr (Addr.add t82_15 2) (.slice t81_15 t81_15n t81_15c) (fun h60 =>
 ref17_Book_Reserve_J1111111 b0 Q h60) h59)) h58)) ∧
 (
 ∃ (t78_4f0 : Int) (t78_4f1 : Int), rdCells h1 more5 0 [(.int .i64 t78_4f0), (.int .i64 t78_4f1)] ∧
 SpecH PP F_ref17_Book_find [(.pointer b0), (.string tenant1)] h1 (fun v_23 h53 => ∃ (t77_9 : Int), v_23 = (.int .i64 t77_9) ∧
 let h54 : Heap := Array.push h53 (.cells #[(.int .i64 t74_5), (.int .i64 t77_9), (.int .i64 t78_4f0), (.int .i64 t78_4f1)] T_haversackref17_Held (0, 0))
 hwp PP (Builtin.append_ #[T_sl_haversackref17_Held, T_sl_haversackref17_Held] T_sl_haversackref17_Held #[(.slice t70_13 t70_13n t70_13c), (.slice (some ⟨Array.size h53, 0, none⟩) 1 1)]) (fun v_24 h55 => ∃ (t81_14 : Option Addr) (t81_14n : Nat) (t81_14c : Nat), v_24 = (.slice t81_14 t81_14n t81_14c) ∧
 nilc b0 (fun t82_14 =>
 wr (Addr.add t82_14 2) (.slice t81_14 t81_14n t81_14c) (fun h56 =>
 ref17_Book_Reserve_J1111111 b0 Q h56) h55)) h54)) ∧
 True) ∧
 (
 SpecH PP F_ref17_Book_find [(.pointer b0), (.string tenant1)] h1 (fun v_20 h46 => ∃ (t77_8 : Int), v_20 = (.int .i64 t77_8) ∧
 ∃ (t78_3f0 : Int) (t78_3f1 : Int), rdCells h46 more5 0 [(.int .i64 t78_3f0), (.int .i64 t78_3f1)] ∧
 (
 ∃ (t70_12 : Option Addr) (t70_12n : Nat) (t70_12c : Nat), cellH h46 (Addr.add t68 2) = some (.slice t70_12 t70_12n t70_12c) ∧
 let h50 : Heap := Array.push h46 (.cells #[(.int .i64 t74_5), (.int .i64 t77_8), (.int .i64 t78_3f0), (.int .i64 t78_3f1)] T_haversackref17_Held (0, 0))
 hwp PP (Builtin.append_ #[T_sl_haversackref17_Held, T_sl_haversackref17_Held] T_sl_haversackref17_Held #[(.slice t70_12 t70_12n t70_12c), (.slice (some ⟨Array.size h46, 0, none⟩) 1 1)]) (fun v_22 h51 => ∃ (t81_13 : Option Addr) (t81_13n : Nat) (t81_13c : Nat), v_22 = (.slice t81_13 t81_13n t81_13c) ∧
 nilc b0 (fun t82_13 =>
 wr (Addr.add t82_13 2) (.slice t81_13 t81_13n t81_13c) (fun h52 =>
 ref17_Book_Reserve_J1111111 b0 Q h52) h51)) h50) ∧
 (
 let h47 : Heap := Array.push h46 (.cells #[(.int .i64 t74_5), (.int .i64 t77_8), (.int .i64 t78_3f0), (.int .i64 t78_3f1)] T_haversackref17_Held (0, 0))
 ∃ (t70_11 : Option Addr) (t70_11n : Nat) (t70_11c : Nat), cellH h47 (Addr.add t68 2) = some (.slice t70_11 t70_11n t70_11c) ∧
 hwp PP (Builtin.append_ #[T_sl_haversackref17_Held, T_sl_haversackref17_Held] T_sl_haversackref17_Held #[(.slice t70_11 t70_11n t70_11c), (.slice (some ⟨Array.size h46, 0, none⟩) 1 1)]) (fun v_21 h48 => ∃ (t81_12 : Option Addr) (t81_12n : Nat) (t81_12c : Nat), v_21 = (.slice t81_12 t81_12n t81_12c) ∧
 nilc b0 (fun t82_12 =>
 wr (Addr.add t82_12 2) (.slice t81_12 t81_12n t81_12c) (fun h49 =>
 ref17_Book_Reserve_J1111111 b0 Q h49) h48)) h47) ∧
 True)) ∧
 (
 ∃ (t78_2f0 : Int) (t78_2f1 : Int), rdCells h1 more5 0 [(.int .i64 t78_2f0), (.int .i64 t78_2f1)] ∧
 (
 ∃ (t70_10 : Option Addr) (t70_10n : Nat) (t70_10c : Nat), cellH h1 (Addr.add t68 2) = some (.slice t70_10 t70_10n t70_10c) ∧
 SpecH PP F_ref17_Book_find [(.pointer b0), (.string tenant1)] h1 (fun v_18 h42 => ∃ (t77_7 : Int), v_18 = (.int .i64 t77_7) ∧
 let h43 : Heap := Array.push h42 (.cells #[(.int .i64 t74_5), (.int .i64 t77_7), (.int .i64 t78_2f0), (.int .i64 t78_2f1)] T_haversackref17_Held (0, 0))
 hwp PP (Builtin.append_ #[T_sl_haversackref17_Held, T_sl_haversackref17_Held] T_sl_haversackref17_Held #[(.slice t70_10 t70_10n t70_10c), (.slice (some ⟨Array.size h42, 0, none⟩) 1 1)]) (fun v_19 h44 => ∃ (t81_11 : Option Addr) (t81_11n : Nat) (t81_11c : Nat), v_19 = (.slice t81_11 t81_11n t81_11c) ∧
 nilc b0 (fun t82_11 =>
 wr (Addr.add t82_11 2) (.slice t81_11 t81_11n t81_11c) (fun h45 =>
 ref17_Book_Reserve_J1111111 b0 Q h45) h44)) h43)) ∧
 (
 SpecH PP F_ref17_Book_find [(.pointer b0), (.string tenant1)] h1 (fun v_15 h35 => ∃ (t77_6 : Int), v_15 = (.int .i64 t77_6) ∧
 (
 ∃ (t70_9 : Option Addr) (t70_9n : Nat) (t70_9c : Nat), cellH h35 (Addr.add t68 2) = some (.slice t70_9 t70_9n t70_9c) ∧
 let h39 : Heap := Array.push h35 (.cells #[(.int .i64 t74_5), (.int .i64 t77_6), (.int .i64 t78_2f0), (.int .i64 t78_2f1)] T_haversackref17_Held (0, 0))
 hwp PP (Builtin.append_ #[T_sl_haversackref17_Held, T_sl_haversackref17_Held] T_sl_haversackref17_Held #[(.slice t70_9 t70_9n t70_9c), (.slice (some ⟨Array.size h35, 0, none⟩) 1 1)]) (fun v_17 h40 => ∃ (t81_10 : Option Addr) (t81_10n : Nat) (t81_10c : Nat), v_17 = (.slice t81_10 t81_10n t81_10c) ∧
 nilc b0 (fun t82_10 =>
 wr (Addr.add t82_10 2) (.slice t81_10 t81_10n t81_10c) (fun h41 =>
 ref17_Book_Reserve_J1111111 b0 Q h41) h40)) h39) ∧
 (
 let h36 : Heap := Array.push h35 (.cells #[(.int .i64 t74_5), (.int .i64 t77_6), (.int .i64 t78_2f0), (.int .i64 t78_2f1)] T_haversackref17_Held (0, 0))
 ∃ (t70_8 : Option Addr) (t70_8n : Nat) (t70_8c : Nat), cellH h36 (Addr.add t68 2) = some (.slice t70_8 t70_8n t70_8c) ∧
 hwp PP (Builtin.append_ #[T_sl_haversackref17_Held, T_sl_haversackref17_Held] T_sl_haversackref17_Held #[(.slice t70_8 t70_8n t70_8c), (.slice (some ⟨Array.size h35, 0, none⟩) 1 1)]) (fun v_16 h37 => ∃ (t81_9 : Option Addr) (t81_9n : Nat) (t81_9c : Nat), v_16 = (.slice t81_9 t81_9n t81_9c) ∧
 nilc b0 (fun t82_9 =>
 wr (Addr.add t82_9 2) (.slice t81_9 t81_9n t81_9c) (fun h38 =>
 ref17_Book_Reserve_J1111111 b0 Q h38) h37)) h36) ∧
 True)) ∧
 True) ∧
 True) ∧
 (
 SpecH PP F_ref17_Book_find [(.pointer b0), (.string tenant1)] h1 (fun v_12 h28 => ∃ (t77_5 : Int), v_12 = (.int .i64 t77_5) ∧
 ∃ (t74_4 : Int), cellH h28 (Addr.add t72 3) = some (.int .i64 t74_4) ∧
 ∃ (t78_1f0 : Int) (t78_1f1 : Int), rdCells h28 more5 0 [(.int .i64 t78_1f0), (.int .i64 t78_1f1)] ∧
 (
 ∃ (t70_7 : Option Addr) (t70_7n : Nat) (t70_7c : Nat), cellH h28 (Addr.add t68 2) = some (.slice t70_7 t70_7n t70_7c) ∧
 let h32 : Heap := Array.push h28 (.cells #[(.int .i64 t74_4), (.int .i64 t77_5), (.int .i64 t78_1f0), (.int .i64 t78_1f1)] T_haversackref17_Held (0, 0))
 hwp PP (Builtin.append_ #[T_sl_haversackref17_Held, T_sl_haversackref17_Held] T_sl_haversackref17_Held #[(.slice t70_7 t70_7n t70_7c), (.slice (some ⟨Array.size h28, 0, none⟩) 1 1)]) (fun v_14 h33 => ∃ (t81_8 : Option Addr) (t81_8n : Nat) (t81_8c : Nat), v_14 = (.slice t81_8 t81_8n t81_8c) ∧
 nilc b0 (fun t82_8 =>
 wr (Addr.add t82_8 2) (.slice t81_8 t81_8n t81_8c) (fun h34 =>
 ref17_Book_Reserve_J1111111 b0 Q h34) h33)) h32) ∧
 (
 let h29 : Heap := Array.push h28 (.cells #[(.int .i64 t74_4), (.int .i64 t77_5), (.int .i64 t78_1f0), (.int .i64 t78_1f1)] T_haversackref17_Held (0, 0))
 ∃ (t70_6 : Option Addr) (t70_6n : Nat) (t70_6c : Nat), cellH h29 (Addr.add t68 2) = some (.slice t70_6 t70_6n t70_6c) ∧
 hwp PP (Builtin.append_ #[T_sl_haversackref17_Held, T_sl_haversackref17_Held] T_sl_haversackref17_Held #[(.slice t70_6 t70_6n t70_6c), (.slice (some ⟨Array.size h28, 0, none⟩) 1 1)]) (fun v_13 h30 => ∃ (t81_7 : Option Addr) (t81_7n : Nat) (t81_7c : Nat), v_13 = (.slice t81_7 t81_7n t81_7c) ∧
 nilc b0 (fun t82_7 =>
 wr (Addr.add t82_7 2) (.slice t81_7 t81_7n t81_7c) (fun h31 =>
 ref17_Book_Reserve_J1111111 b0 Q h31) h30)) h29) ∧
 True)) ∧
 (
 ∃ (t78f0 : Int) (t78f1 : Int), rdCells h1 more5 0 [(.int .i64 t78f0), (.int .i64 t78f1)] ∧
 (
 ∃ (t70_5 : Option Addr) (t70_5n : Nat) (t70_5c : Nat), cellH h1 (Addr.add t68 2) = some (.slice t70_5 t70_5n t70_5c) ∧
 (
 ∃ (t74_3 : Int), cellH h1 (Addr.add t72 3) = some (.int .i64 t74_3) ∧
 SpecH PP F_ref17_Book_find [(.pointer b0), (.string tenant1)] h1 (fun v_10 h24 => ∃ (t77_4 : Int), v_10 = (.int .i64 t77_4) ∧
 let h25 : Heap := Array.push h24 (.cells #[(.int .i64 t74_3), (.int .i64 t77_4), (.int .i64 t78f0), (.int .i64 t78f1)] T_haversackref17_Held (0, 0))
 hwp PP (Builtin.append_ #[T_sl_haversackref17_Held, T_sl_haversackref17_Held] T_sl_haversackref17_Held #[(.slice t70_5 t70_5n t70_5c), (.slice (some ⟨Array.size h24, 0, none⟩) 1 1)]) (fun v_11 h26 => ∃ (t81_6 : Option Addr) (t81_6n : Nat) (t81_6c : Nat), v_11 = (.slice t81_6 t81_6n t81_6c) ∧
 nilc b0 (fun t82_6 =>
 wr (Addr.add t82_6 2) (.slice t81_6 t81_6n t81_6c) (fun h27 =>
 ref17_Book_Reserve_J1111111 b0 Q h27) h26)) h25)) ∧
 (
 SpecH PP F_ref17_Book_find [(.pointer b0), (.string tenant1)] h1 (fun v_8 h20 => ∃ (t77_3 : Int), v_8 = (.int .i64 t77_3) ∧
 ∃ (t74_2 : Int), cellH h20 (Addr.add t72 3) = some (.int .i64 t74_2) ∧
 let h21 : Heap := Array.push h20 (.cells #[(.int .i64 t74_2), (.int .i64 t77_3), (.int .i64 t78f0), (.int .i64 t78f1)] T_haversackref17_Held (0, 0))
 hwp PP (Builtin.append_ #[T_sl_haversackref17_Held, T_sl_haversackref17_Held] T_sl_haversackref17_Held #[(.slice t70_5 t70_5n t70_5c), (.slice (some ⟨Array.size h20, 0, none⟩) 1 1)]) (fun v_9 h22 => ∃ (t81_5 : Option Addr) (t81_5n : Nat) (t81_5c : Nat), v_9 = (.slice t81_5 t81_5n t81_5c) ∧
 nilc b0 (fun t82_5 =>
 wr (Addr.add t82_5 2) (.slice t81_5 t81_5n t81_5c) (fun h23 =>
 ref17_Book_Reserve_J1111111 b0 Q h23) h22)) h21)) ∧
 True) ∧
 (
 ∃ (t74_1 : Int), cellH h1 (Addr.add t72 3) = some (.int .i64 t74_1) ∧
 (
 ∃ (t70_4 : Option Addr) (t70_4n : Nat) (t70_4c : Nat), cellH h1 (Addr.add t68 2) = some (.slice t70_4 t70_4n t70_4c) ∧
 SpecH PP F_ref17_Book_find [(.pointer b0), (.string tenant1)] h1 (fun v_6 h16 => ∃ (t77_2 : Int), v_6 = (.int .i64 t77_2) ∧
 let h17 : Heap := Array.push h16 (.cells #[(.int .i64 t74_1), (.int .i64 t77_2), (.int .i64 t78f0), (.int .i64 t78f1)] T_haversackref17_Held (0, 0))
 hwp PP (Builtin.append_ #[T_sl_haversackref17_Held, T_sl_haversackref17_Held] T_sl_haversackref17_Held #[(.slice t70_4 t70_4n t70_4c), (.slice (some ⟨Array.size h16, 0, none⟩) 1 1)]) (fun v_7 h18 => ∃ (t81_4 : Option Addr) (t81_4n : Nat) (t81_4c : Nat), v_7 = (.slice t81_4 t81_4n t81_4c) ∧
 nilc b0 (fun t82_4 =>
 wr (Addr.add t82_4 2) (.slice t81_4 t81_4n t81_4c) (fun h19 =>
 ref17_Book_Reserve_J1111111 b0 Q h19) h18)) h17)) ∧
 (
 SpecH PP F_ref17_Book_find [(.pointer b0), (.string tenant1)] h1 (fun v_3 h9 => ∃ (t77_1 : Int), v_3 = (.int .i64 t77_1) ∧
 (
 ∃ (t70_3 : Option Addr) (t70_3n : Nat) (t70_3c : Nat), cellH h9 (Addr.add t68 2) = some (.slice t70_3 t70_3n t70_3c) ∧
 let h13 : Heap := Array.push h9 (.cells #[(.int .i64 t74_1), (.int .i64 t77_1), (.int .i64 t78f0), (.int .i64 t78f1)] T_haversackref17_Held (0, 0))
 hwp PP (Builtin.append_ #[T_sl_haversackref17_Held, T_sl_haversackref17_Held] T_sl_haversackref17_Held #[(.slice t70_3 t70_3n t70_3c), (.slice (some ⟨Array.size h9, 0, none⟩) 1 1)]) (fun v_5 h14 => ∃ (t81_3 : Option Addr) (t81_3n : Nat) (t81_3c : Nat), v_5 = (.slice t81_3 t81_3n t81_3c) ∧
 nilc b0 (fun t82_3 =>
 wr (Addr.add t82_3 2) (.slice t81_3 t81_3n t81_3c) (fun h15 =>
 ref17_Book_Reserve_J1111111 b0 Q h15) h14)) h13) ∧
 (
 let h10 : Heap := Array.push h9 (.cells #[(.int .i64 t74_1), (.int .i64 t77_1), (.int .i64 t78f0), (.int .i64 t78f1)] T_haversackref17_Held (0, 0))
 ∃ (t70_2 : Option Addr) (t70_2n : Nat) (t70_2c : Nat), cellH h10 (Addr.add t68 2) = some (.slice t70_2 t70_2n t70_2c) ∧
 hwp PP (Builtin.append_ #[T_sl_haversackref17_Held, T_sl_haversackref17_Held] T_sl_haversackref17_Held #[(.slice t70_2 t70_2n t70_2c), (.slice (some ⟨Array.size h9, 0, none⟩) 1 1)]) (fun v_4 h11 => ∃ (t81_2 : Option Addr) (t81_2n : Nat) (t81_2c : Nat), v_4 = (.slice t81_2 t81_2n t81_2c) ∧
 nilc b0 (fun t82_2 =>
 wr (Addr.add t82_2 2) (.slice t81_2 t81_2n t81_2c) (fun h12 =>
 ref17_Book_Reserve_J1111111 b0 Q h12) h11)) h10) ∧
 True)) ∧
 True) ∧
 (
 SpecH PP F_ref17_Book_find [(.pointer b0), (.string tenant1)] h1 (fun v h2 => ∃ (t77 : Int), v = (.int .i64 t77) ∧
 ∃ (t74 : Int), cellH h2 (Addr.add t72 3) = some (.int .i64 t74) ∧
 (
 ∃ (t70_1 : Option Addr) (t70_1n : Nat) (t70_1c : Nat), cellH h2 (Addr.add t68 2) = some (.slice t70_1 t70_1n t70_1c) ∧
 let h6 : Heap := Array.push h2 (.cells #[(.int .i64 t74), (.int .i64 t77), (.int .i64 t78f0), (.int .i64 t78f1)] T_haversackref17_Held (0, 0))
 hwp PP (Builtin.append_ #[T_sl_haversackref17_Held, T_sl_haversackref17_Held] T_sl_haversackref17_Held #[(.slice t70_1 t70_1n t70_1c), (.slice (some ⟨Array.size h2, 0, none⟩) 1 1)]) (fun v_2 h7 => ∃ (t81_1 : Option Addr) (t81_1n : Nat) (t81_1c : Nat), v_2 = (.slice t81_1 t81_1n t81_1c) ∧
 nilc b0 (fun t82_1 =>
 wr (Addr.add t82_1 2) (.slice t81_1 t81_1n t81_1c) (fun h8 =>
 ref17_Book_Reserve_J1111111 b0 Q h8) h7)) h6) ∧
 (
 let h3 : Heap := Array.push h2 (.cells #[(.int .i64 t74), (.int .i64 t77), (.int .i64 t78f0), (.int .i64 t78f1)] T_haversackref17_Held (0, 0))
 ∃ (t70 : Option Addr) (t70n : Nat) (t70c : Nat), cellH h3 (Addr.add t68 2) = some (.slice t70 t70n t70c) ∧
 hwp PP (Builtin.append_ #[T_sl_haversackref17_Held, T_sl_haversackref17_Held] T_sl_haversackref17_Held #[(.slice t70 t70n t70c), (.slice (some ⟨Array.size h2, 0, none⟩) 1 1)]) (fun v_1 h4 => ∃ (t81 : Option Addr) (t81n : Nat) (t81c : Nat), v_1 = (.slice t81 t81n t81c) ∧
 nilc b0 (fun t82 =>
 wr (Addr.add t82 2) (.slice t81 t81n t81c) (fun h5 =>
 ref17_Book_Reserve_J1111111 b0 Q h5) h4)) h3) ∧
 True)) ∧
 True) ∧
 True))) h)))
theorem ref17_Book_Reserve_J111101_eq (b0 : Option Addr) (tenant1 : ByteArray) (more5 : Addr) (t58 : Bool) (Q : Value → Heap → Prop) (h : Heap) : ev PP true none (sub (bodyOf Try.f27) [1, 1, 1, 1, 0, 1]) (subA ref17_Book_Reserve_ann [1, 1, 1, 1, 0, 1]) (mkFr 0 88 [(0, (.pointer b0)), (1, (.string tenant1)), (5, (.pointer (some more5))), (58, (.bool t58))]) (ref17_Book_Reserve_K1111 Q) h = ref17_Book_Reserve_J111101_txt b0 tenant1 more5 t58 Q h := by kernel_rfl
theorem ref17_Book_Reserve_J111101_of {b0 : Option Addr} {tenant1 : ByteArray} {more5 : Addr} {t58 : Bool} {Q : Value → Heap → Prop} {h : Heap} (H : ref17_Book_Reserve_J111101_txt b0 tenant1 more5 t58 Q h) : ref17_Book_Reserve_J111101 b0 tenant1 more5 t58 Q h := by
   unfold ref17_Book_Reserve_J111101; refine Jn.of_ev (x := subA ref17_Book_Reserve_ann [1, 1, 1, 1, 0, 1]) ?_; exact (ref17_Book_Reserve_J111101_eq b0 tenant1 more5 t58 Q h).symm ▸ H
@[reducible] def ref17_Book_Reserve_J1111111_txt (b0 : Option Addr) (Q : Value → Heap → Prop) (h : Heap) : Prop :=
 nilc b0 (fun t85 =>
 ∃ (t87 : Int), cellH h (Addr.add t85 3) = some (.int .i64 t87) ∧
 Q (.tuple #[(.int .i64 t87), (.int .i64 0)]) h)
theorem ref17_Book_Reserve_J1111111_eq (b0 : Option Addr) (Q : Value → Heap → Prop) (h : Heap) : ev PP true none (sub (bodyOf Try.f27) [1, 1, 1, 1, 1, 1, 1]) (subA ref17_Book_Reserve_ann [1, 1, 1, 1, 1, 1, 1]) (mkFr 0 88 [(0, (.pointer b0))]) (bodyK PP Try.f27 Q) h = ref17_Book_Reserve_J1111111_txt b0 Q h := by kernel_rfl
theorem ref17_Book_Reserve_J1111111_of {b0 : Option Addr} {Q : Value → Heap → Prop} {h : Heap} (H : ref17_Book_Reserve_J1111111_txt b0 Q h) : ref17_Book_Reserve_J1111111 b0 Q h := by
   unfold ref17_Book_Reserve_J1111111; refine Jn.of_ev (x := subA ref17_Book_Reserve_ann [1, 1, 1, 1, 1, 1, 1]) ?_; exact (ref17_Book_Reserve_J1111111_eq b0 Q h).symm ▸ H
def ref17_Book_Reserve_main (b0 : Option Addr) (tenant1 : ByteArray) (more2f0 : Int) (more2f1 : Int) (Q : Value → Heap → Prop) (h : Heap) : Prop :=
 let more5 : Addr := ⟨Array.size h, 0, none⟩
 let h1 : Heap := Array.push h (.cells #[(.int .i64 more2f0), (.int .i64 more2f1)] T_api_Use (0, 0))
 SpecH PP F_ref17_Book_Left [(.pointer b0), (.string tenant1)] h1 (fun v h2 => ∃ (t13f0 : Int) (t13f1 : Int) (t13_1 : Int), v = (.tuple #[(.agg #[(.int .i64 t13f0), (.int .i64 t13f1)]), (.int .i64 t13_1)]) ∧
 let left8 : Addr := ⟨Array.size h2, 0, none⟩
 let h3 : Heap := Array.push h2 (.cells #[(.int .i64 0), (.int .i64 0)] T_api_Use (0, 0))
 wrCells left8 0 [(.int .i64 t13f0), (.int .i64 t13f1)] (fun h4 =>
 let t17 : Bool := (t13_1 != 0)
 br t17 (
 Q (.tuple #[(.int .i64 0), (.int .i64 t13_1)]) h4) (
 ∃ (t20 : Int), cellH h4 more5 = some (.int .i64 t20) ∧
 let t21 : Bool := decide (t20 < (-1000000000))
 br t21 (
 ref17_Book_Reserve_J11101 b0 tenant1 more5 left8 true Q h4) (
 ∃ (t24 : Int), cellH h4 more5 = some (.int .i64 t24) ∧
 let t25 : Bool := decide (t24 > 1000000000)
 br t25 (
 ref17_Book_Reserve_J11101 b0 tenant1 more5 left8 true Q h4) (
 ∃ (t29 : Int), cellH h4 (Addr.add more5 1) = some (.int .i64 t29) ∧
 let t30 : Bool := decide (t29 < (-1000000000))
 br t30 (
 ref17_Book_Reserve_J11101 b0 tenant1 more5 left8 true Q h4) (
 ∃ (t34 : Int), cellH h4 (Addr.add more5 1) = some (.int .i64 t34) ∧
 let t35 : Bool := decide (t34 > 1000000000)
 ref17_Book_Reserve_J11101 b0 tenant1 more5 left8 t35 Q h4))))) h3)
theorem ref17_Book_Reserve_eq (b0 : Option Addr) (tenant1 : ByteArray) (more2f0 : Int) (more2f1 : Int) (Q : Value → Heap → Prop) (h : Heap) : ev PP true none (bodyOf Try.f27) ref17_Book_Reserve_ann (initFr 88 [(.pointer b0), (.string tenant1), (.agg #[(.int .i64 more2f0), (.int .i64 more2f1)])]) (bodyK PP Try.f27 Q) h = ref17_Book_Reserve_main b0 tenant1 more2f0 more2f1 Q h := by kernel_rfl
theorem ref17_Book_Reserve_door {b0 : Option Addr} {tenant1 : ByteArray} {more2f0 : Int} {more2f1 : Int} {Q : Value → Heap → Prop} {h : Heap} (H : ref17_Book_Reserve_main b0 tenant1 more2f0 more2f1 Q h) : SpecH PP F_ref17_Book_Reserve [(.pointer b0), (.string tenant1), (.agg #[(.int .i64 more2f0), (.int .i64 more2f1)])] h Q :=
   spec_of_ev Try.func27 rfl rfl ((ref17_Book_Reserve_eq b0 tenant1 more2f0 more2f1 Q h).symm ▸ H)
/-! ### (*haversack/haversackref17.Book).Take: function 28 -/
def ref17_Book_Take_ann : Ann := (.seq 3 (.region [(List.range 1, 3)]) (.seq 97 (.region [(List.range 9, 97)]) (.seq 33 (.seq 32801 (.region [(List.range 2, 32801)]) (.cond (.seq 16 (.region [(List.range 1, 16)]) (.exit 16)) .leaf)) (.seq 161 (.region [(List.range 10, 161)]) (.seq 0 (.region [(List.range 23, 0)]) (.seq 16 (.region [(List.range 1, 16)]) (.exit 16)))))))
def ref17_Book_Take_main (b0 : Option Addr) (id1 : Int) (Q : Value → Heap → Prop) (h : Heap) : Prop :=
 SpecH PP F_ref17_Book_gone [(.pointer b0), (.int .i64 id1)] h (fun v h1 => ∃ (t11f0 : Int) (t11f1 : Int) (t11f2 : Int) (t11f3 : Int) (t11_1 : Bool), v = (.tuple #[(.agg #[(.int .i64 t11f0), (.int .i64 t11f1), (.int .i64 t11f2), (.int .i64 t11f3)]), (.bool t11_1)]) ∧
 let xh5 : Addr := ⟨Array.size h1, 0, none⟩
 let h2 : Heap := Array.push h1 (.cells #[(.int .i64 0), (.int .i64 0), (.int .i64 0), (.int .i64 0)] T_haversackref17_Held (0, 0))
 wrCells xh5 0 [(.int .i64 t11f0), (.int .i64 t11f1), (.int .i64 t11f2), (.int .i64 t11f3)] (fun h3 =>
 let t15 : Bool := (!t11_1)
 br t15 (
 Q (.int .i64 172) h3) (
 nilc b0 (fun t17 =>
 ∃ (t19 : Option Addr) (t19n : Nat) (t19c : Nat), cellH h3 (Addr.add t17 1) = some (.slice t19 t19n t19c) ∧
 ∃ (t21 : Int), cellH h3 (Addr.add xh5 1) = some (.int .i64 t21) ∧
 hwp PP (Instr.indexAt T_sl_api_Use (.slice t19 t19n t19c) (.int .i64 t21)) (fun v_1 h4 => ∃ (t22 : Addr), v_1 = (.pointer (some t22)) ∧
 ∃ (t23f0 : Int) (t23f1 : Int), rdCells h4 t22 0 [(.int .i64 t23f0), (.int .i64 t23f1)] ∧
 let u7 : Addr := ⟨Array.size h4, 0, none⟩
 let h5 : Heap := Array.push h4 (.cells #[(.int .i64 0), (.int .i64 0)] T_api_Use (0, 0))
 wrCells u7 0 [(.int .i64 t23f0), (.int .i64 t23f1)] (fun h6 =>
 nilc b0 (fun t25 =>
 ∃ (t27 : Option Addr) (t27n : Nat) (t27c : Nat), cellH h6 (Addr.add t25 1) = some (.slice t27 t27n t27c) ∧
 ∃ (t29 : Int), cellH h6 (Addr.add xh5 1) = some (.int .i64 t29) ∧
 ∃ (t31 : Int), cellH h6 u7 = some (.int .i64 t31) ∧
 ∃ (t34 : Int), cellH h6 (Addr.add xh5 2) = some (.int .i64 t34) ∧
 let t35 : Int := IntKind.i64.wrap (t31 + t34)
 let t36 : Int := (if t35 > 0 then t35 else 0)
 ∃ (t38 : Int), cellH h6 (Addr.add u7 1) = some (.int .i64 t38) ∧
 ∃ (t41 : Int), cellH h6 (Addr.add (Addr.add xh5 2) 1) = some (.int .i64 t41) ∧
 let t42 : Int := IntKind.i64.wrap (t38 + t41)
 let t43 : Int := (if t42 > 0 then t42 else 0)
 hwp PP (Instr.indexAt T_sl_api_Use (.slice t27 t27n t27c) (.int .i64 t29)) (fun v_2 h7 => ∃ (t45 : Addr), v_2 = (.pointer (some t45)) ∧
 wrCells t45 0 [(.int .i64 t36), (.int .i64 t43)] (fun h8 =>
 Q (.int .i64 0) h8) h7) h6)) h5) h3))) h2)
theorem ref17_Book_Take_eq (b0 : Option Addr) (id1 : Int) (Q : Value → Heap → Prop) (h : Heap) : ev PP true none (bodyOf Try.f28) ref17_Book_Take_ann (initFr 46 [(.pointer b0), (.int .i64 id1)]) (bodyK PP Try.f28 Q) h = ref17_Book_Take_main b0 id1 Q h := by kernel_rfl
theorem ref17_Book_Take_door {b0 : Option Addr} {id1 : Int} {Q : Value → Heap → Prop} {h : Heap} (H : ref17_Book_Take_main b0 id1 Q h) : SpecH PP F_ref17_Book_Take [(.pointer b0), (.int .i64 id1)] h Q :=
   spec_of_ev Try.func28 rfl rfl ((ref17_Book_Take_eq b0 id1 Q h).symm ▸ H)
/-! ### (*haversack/haversackref17.Book).Free: function 29 -/
def ref17_Book_Free_ann : Ann := (.seq 3 (.region [(List.range 1, 3)]) (.seq 64 (.region [(List.range 9, 64)]) (.seq 0 (.seq 16384 (.region [(List.range 2, 16384)]) (.cond (.seq 16 (.region [(List.range 1, 16)]) (.exit 16)) .leaf)) (.seq 16 (.region [(List.range 1, 16)]) (.exit 16)))))
def ref17_Book_Free_main (b0 : Option Addr) (id1 : Int) (Q : Value → Heap → Prop) (h : Heap) : Prop :=
 SpecH PP F_ref17_Book_gone [(.pointer b0), (.int .i64 id1)] h (fun v h1 => ∃ (t10f0 : Int) (t10f1 : Int) (t10f2 : Int) (t10f3 : Int) (t10_1 : Bool), v = (.tuple #[(.agg #[(.int .i64 t10f0), (.int .i64 t10f1), (.int .i64 t10f2), (.int .i64 t10f3)]), (.bool t10_1)]) ∧
 let t5 : Addr := ⟨Array.size h1, 0, none⟩
 let h2 : Heap := Array.push h1 (.cells #[(.int .i64 0), (.int .i64 0), (.int .i64 0), (.int .i64 0)] T_haversackref17_Held (0, 0))
 wrCells t5 0 [(.int .i64 t10f0), (.int .i64 t10f1), (.int .i64 t10f2), (.int .i64 t10f3)] (fun h3 =>
 let t14 : Bool := (!t10_1)
 br t14 (
 Q (.int .i64 172) h3) (
 Q (.int .i64 0) h3)) h2)
theorem ref17_Book_Free_eq (b0 : Option Addr) (id1 : Int) (Q : Value → Heap → Prop) (h : Heap) : ev PP true none (bodyOf Try.f29) ref17_Book_Free_ann (initFr 15 [(.pointer b0), (.int .i64 id1)]) (bodyK PP Try.f29 Q) h = ref17_Book_Free_main b0 id1 Q h := by kernel_rfl
theorem ref17_Book_Free_door {b0 : Option Addr} {id1 : Int} {Q : Value → Heap → Prop} {h : Heap} (H : ref17_Book_Free_main b0 id1 Q h) : SpecH PP F_ref17_Book_Free [(.pointer b0), (.int .i64 id1)] h Q :=
   spec_of_ev Try.func29 rfl rfl ((ref17_Book_Free_eq b0 id1 Q h).symm ▸ H)
/-! ### (*haversack/haversackref17.Book).find: function 30 -/
def ref17_Book_find_ann : Ann := (.seq 3 (.region [(List.range 1, 3)]) (.seq 0 (.seq 35 (.region [(List.range 1, 35)]) (.block (.loop 35 (.seq 35 (.seq 4131 (.region [(List.range 7, 4131)]) (.cond .leaf (.exit 0))) (.seq 35 (.block (.seq 16777251 (.region [(List.range 10, 16777251)]) (.cond (.seq 16 (.region [(List.range 2, 16)]) (.exit 16)) .leaf))) (.region [(List.range 3, 35)])))))) (.seq 16 (.region [(List.range 1, 16)]) (.exit 16))))
@[irreducible] def ref17_Book_find_Xret (t4 : Int) : Fr := (mkFr 0 26 [(4, (.int .i64 t4))])
@[irreducible] def ref17_Book_find_X0  : Fr := (mkFr 0 26 [])
@[irreducible] def ref17_Book_find_L1010 (b0 : Option Addr) (name1 : ByteArray) (i5 : Int) (K : Ex → Fr → Heap → Prop) (h : Heap) : Prop := Lp PP true (sub (bodyOf Try.f30) [1, 0, 1, 0, 0]) (mkFr 0 26 [(0, (.pointer b0)), (1, (.string name1)), (5, (.int .i64 i5))]) K h
@[irreducible] def ref17_Book_find_B1010 (K : Ex → Fr → Heap → Prop) : Ex → Fr → Heap → Prop := seqK (fun fr h => Lp PP true (sub (bodyOf Try.f30) [1, 0, 1, 0, 0]) (fr.mask 35) K h) K
@[irreducible] def ref17_Book_find_K1 (Q : Value → Heap → Prop) : Ex → Fr → Heap → Prop := seqK (fun fr h => ev PP true none (sub (bodyOf Try.f30) [1, 1]) (subA ref17_Book_find_ann [1, 1]) (fr.mask 0) (bodyK PP Try.f30 Q) h) (bodyK PP Try.f30 Q)
@[irreducible] def ref17_Book_find_K101 (Q : Value → Heap → Prop) : Ex → Fr → Heap → Prop := blockK 0 (ref17_Book_find_K1 Q)
@[reducible] def ref17_Book_find_L1010_txt (b0 : Option Addr) (name1 : ByteArray) (i5 : Int) (K : Ex → Fr → Heap → Prop) (h : Heap) : Prop :=
 nilc b0 (fun t8 =>
 ∃ (t10 : Option Addr) (t10n : Nat) (t10c : Nat), cellH h t8 = some (.slice t10 t10n t10c) ∧
 let t12 : Bool := decide (i5 < (t10n : Int))
 br t12 (
 nilc b0 (fun t16 =>
 ∃ (t18 : Option Addr) (t18n : Nat) (t18c : Nat), cellH h t16 = some (.slice t18 t18n t18c) ∧
 hwp PP (Instr.indexAt T_sl_api_Tenant (.slice t18 t18n t18c) (.int .i64 i5)) (fun v h1 => ∃ (t20 : Addr), v = (.pointer (some t20)) ∧
 ∃ (t22 : ByteArray), cellH h1 t20 = some (.string t22) ∧
 let t24 : Bool := decide (t22 = name1)
 br t24 (
 K .ret (ref17_Book_find_Xret i5) h1) (
 let t14 : Int := IntKind.i64.wrap (i5 + 1)
 ref17_Book_find_L1010 b0 name1 t14 K h1)) h)) (
 K (.exit 0) (ref17_Book_find_X0) h))
theorem ref17_Book_find_L1010_eq (b0 : Option Addr) (name1 : ByteArray) (i5 : Int) (K : Ex → Fr → Heap → Prop) (h : Heap) : ev PP true none (sub (bodyOf Try.f30) [1, 0, 1, 0, 0]) (subA ref17_Book_find_ann [1, 0, 1, 0, 0]) (mkFr 0 26 [(0, (.pointer b0)), (1, (.string name1)), (5, (.int .i64 i5))]) (seqK (fun fr h => Lp PP true (sub (bodyOf Try.f30) [1, 0, 1, 0, 0]) (fr.mask 35) K h) K) h = ref17_Book_find_L1010_txt b0 name1 i5 K h := by kernel_rfl
theorem ref17_Book_find_L1010_of {b0 : Option Addr} {name1 : ByteArray} {i5 : Int} {K : Ex → Fr → Heap → Prop} {h : Heap} (H : ref17_Book_find_L1010_txt b0 name1 i5 K h) : ref17_Book_find_L1010 b0 name1 i5 K h := by
   unfold ref17_Book_find_L1010; refine Lp.of_ev (x := subA ref17_Book_find_ann [1, 0, 1, 0, 0]) (keep := 35) ?_; exact (ref17_Book_find_L1010_eq b0 name1 i5 K h).symm ▸ H
theorem ref17_Book_find_at1010_Xret (Q : Value → Heap → Prop) (t4 : Int) (h : Heap) : (ref17_Book_find_K101 Q) .ret (ref17_Book_find_Xret t4) h = (
 Q (.int .i64 t4) h) := by kernel_rfl
theorem ref17_Book_find_at1010_X0 (Q : Value → Heap → Prop)  (h : Heap) : (ref17_Book_find_K101 Q) (.exit 0) (ref17_Book_find_X0 ) h = (
 Q (.int .i64 (-1)) h) := by kernel_rfl
def ref17_Book_find_main (b0 : Option Addr) (name1 : ByteArray) (Q : Value → Heap → Prop) (h : Heap) : Prop :=
 ref17_Book_find_L1010 b0 name1 0 (ref17_Book_find_K101 Q) h
theorem ref17_Book_find_eq (b0 : Option Addr) (name1 : ByteArray) (Q : Value → Heap → Prop) (h : Heap) : ev PP true none (bodyOf Try.f30) ref17_Book_find_ann (initFr 26 [(.pointer b0), (.string name1)]) (bodyK PP Try.f30 Q) h = ref17_Book_find_main b0 name1 Q h := by kernel_rfl
theorem ref17_Book_find_door {b0 : Option Addr} {name1 : ByteArray} {Q : Value → Heap → Prop} {h : Heap} (H : ref17_Book_find_main b0 name1 Q h) : SpecH PP F_ref17_Book_find [(.pointer b0), (.string name1)] h Q :=
   spec_of_ev Try.func30 rfl rfl ((ref17_Book_find_eq b0 name1 Q h).symm ▸ H)
/-! ### (*haversack/haversackref17.Book).gone: function 31 -/
def ref17_Book_gone_ann : Ann := (.seq 19 (.region [(List.range 2, 19)]) (.seq 16 (.seq 83 (.region [(List.range 1, 83)]) (.block (.loop 83 (.seq 83 (.seq 32851 (.region [(List.range 7, 32851)]) (.cond .leaf (.exit 16))) (.seq 83 (.block (.seq 134217811 (.region [(List.range 10, 134217811)]) (.cond (.seq 209 (.region [(List.range 9, 209)]) (.seq 465 (.region [(List.range 1, 465)]) (.seq 465 (.region [(List.range 9, 465)]) (.seq 144 (.region [(List.range 13, 144)]) (.seq 48 (.region [(List.range 3, 48)]) (.exit 48)))))) .leaf))) (.region [(List.range 3, 83)])))))) (.seq 48 (.region [(List.range 3, 48)]) (.exit 48))))
@[irreducible] def ref17_Book_gone_Xret (t4 : Addr) (t5 : Bool) : Fr := (mkFr 0 57 [(4, (.pointer (some t4))), (5, (.bool t5))])
@[irreducible] def ref17_Book_gone_X0 (t4 : Addr) : Fr := (mkFr 0 57 [(4, (.pointer (some t4)))])
@[irreducible] def ref17_Book_gone_L1010 (b0 : Option Addr) (id1 : Int) (t4 : Addr) (i6 : Int) (K : Ex → Fr → Heap → Prop) (h : Heap) : Prop := Lp PP true (sub (bodyOf Try.f31) [1, 0, 1, 0, 0]) (mkFr 0 57 [(0, (.pointer b0)), (1, (.int .i64 id1)), (4, (.pointer (some t4))), (6, (.int .i64 i6))]) K h
@[irreducible] def ref17_Book_gone_B1010 (K : Ex → Fr → Heap → Prop) : Ex → Fr → Heap → Prop := seqK (fun fr h => Lp PP true (sub (bodyOf Try.f31) [1, 0, 1, 0, 0]) (fr.mask 83) K h) K
@[irreducible] def ref17_Book_gone_K1 (Q : Value → Heap → Prop) : Ex → Fr → Heap → Prop := seqK (fun fr h => ev PP true none (sub (bodyOf Try.f31) [1, 1]) (subA ref17_Book_gone_ann [1, 1]) (fr.mask 16) (bodyK PP Try.f31 Q) h) (bodyK PP Try.f31 Q)
@[irreducible] def ref17_Book_gone_K101 (Q : Value → Heap → Prop) : Ex → Fr → Heap → Prop := blockK 0 (ref17_Book_gone_K1 Q)
@[reducible] def ref17_Book_gone_L1010_txt (b0 : Option Addr) (id1 : Int) (t4 : Addr) (i6 : Int) (K : Ex → Fr → Heap → Prop) (h : Heap) : Prop :=
 nilc b0 (fun t11 =>
 ∃ (t13 : Option Addr) (t13n : Nat) (t13c : Nat), cellH h (Addr.add t11 2) = some (.slice t13 t13n t13c) ∧
 let t15 : Bool := decide (i6 < (t13n : Int))
 br t15 (
 nilc b0 (fun t19 =>
 ∃ (t21 : Option Addr) (t21n : Nat) (t21c : Nat), cellH h (Addr.add t19 2) = some (.slice t21 t21n t21c) ∧
 hwp PP (Instr.indexAt T_sl_haversackref17_Held (.slice t21 t21n t21c) (.int .i64 i6)) (fun v h1 => ∃ (t23 : Addr), v = (.pointer (some t23)) ∧
 ∃ (t25 : Int), cellH h1 t23 = some (.int .i64 t25) ∧
 let t27 : Bool := (t25 == id1)
 br t27 (
 nilc b0 (fun t29 =>
 ∃ (t31 : Option Addr) (t31n : Nat) (t31c : Nat), cellH h1 (Addr.add t29 2) = some (.slice t31 t31n t31c) ∧
 hwp PP (Instr.indexAt T_sl_haversackref17_Held (.slice t31 t31n t31c) (.int .i64 i6)) (fun v_1 h2 => ∃ (t33 : Addr), v_1 = (.pointer (some t33)) ∧
 ∃ (t34f0 : Int) (t34f1 : Int) (t34f2 : Int) (t34f3 : Int), rdCells h2 t33 0 [(.int .i64 t34f0), (.int .i64 t34f1), (.int .i64 t34f2), (.int .i64 t34f3)] ∧
 let xh7 : Addr := ⟨Array.size h2, 0, none⟩
 let h3 : Heap := Array.push h2 (.cells #[(.int .i64 0), (.int .i64 0), (.int .i64 0), (.int .i64 0)] T_haversackref17_Held (0, 0))
 wrCells xh7 0 [(.int .i64 t34f0), (.int .i64 t34f1), (.int .i64 t34f2), (.int .i64 t34f3)] (fun h4 =>
 nilc b0 (fun t37 =>
 ∃ (t39 : Option Addr) (t39n : Nat) (t39c : Nat), cellH h4 (Addr.add t37 2) = some (.slice t39 t39n t39c) ∧
 hwp PP (Instr.sliceAt T_sl_haversackref17_Held (.slice t39 t39n t39c) none (some (.int .i64 i6)) none) (fun v_2 h5 => ∃ (t41 : Option Addr) (t41n : Nat) (t41c : Nat), v_2 = (.slice t41 t41n t41c) ∧
 hwp PP (Builtin.append_ #[T_sl_haversackref17_Held, T_sl_haversackref17_Held] T_sl_haversackref17_Held #[(.slice none 0 0), (.slice t41 t41n t41c)]) (fun v_3 h6 => ∃ (t42 : Option Addr) (t42n : Nat) (t42c : Nat), v_3 = (.slice t42 t42n t42c) ∧
 nilc b0 (fun t46 =>
 ∃ (t48 : Option Addr) (t48n : Nat) (t48c : Nat), cellH h6 (Addr.add t46 2) = some (.slice t48 t48n t48c) ∧
 let t50 : Int := IntKind.i64.wrap (i6 + 1)
 hwp PP (Instr.sliceAt T_sl_haversackref17_Held (.slice t48 t48n t48c) (some (.int .i64 t50)) none none) (fun v_4 h7 => ∃ (t51 : Option Addr) (t51n : Nat) (t51c : Nat), v_4 = (.slice t51 t51n t51c) ∧
 hwp PP (Builtin.append_ #[T_sl_haversackref17_Held, T_sl_haversackref17_Held] T_sl_haversackref17_Held #[(.slice t42 t42n t42c), (.slice t51 t51n t51c)]) (fun v_5 h8 => ∃ (t52 : Option Addr) (t52n : Nat) (t52c : Nat), v_5 = (.slice t52 t52n t52c) ∧
 nilc b0 (fun t53 =>
 wr (Addr.add t53 2) (.slice t52 t52n t52c) (fun h9 =>
 ∃ (t55f0 : Int) (t55f1 : Int) (t55f2 : Int) (t55f3 : Int), rdCells h9 xh7 0 [(.int .i64 t55f0), (.int .i64 t55f1), (.int .i64 t55f2), (.int .i64 t55f3)] ∧
 wrCells t4 0 [(.int .i64 t55f0), (.int .i64 t55f1), (.int .i64 t55f2), (.int .i64 t55f3)] (fun h10 =>
 K .ret (ref17_Book_gone_Xret t4 true) h10) h9) h8)) h7) h6)) h5) h4)) h3) h1)) (
 let t17 : Int := IntKind.i64.wrap (i6 + 1)
 ref17_Book_gone_L1010 b0 id1 t4 t17 K h1)) h)) (
 K (.exit 0) (ref17_Book_gone_X0 t4) h))
theorem ref17_Book_gone_L1010_eq (b0 : Option Addr) (id1 : Int) (t4 : Addr) (i6 : Int) (K : Ex → Fr → Heap → Prop) (h : Heap) : ev PP true none (sub (bodyOf Try.f31) [1, 0, 1, 0, 0]) (subA ref17_Book_gone_ann [1, 0, 1, 0, 0]) (mkFr 0 57 [(0, (.pointer b0)), (1, (.int .i64 id1)), (4, (.pointer (some t4))), (6, (.int .i64 i6))]) (seqK (fun fr h => Lp PP true (sub (bodyOf Try.f31) [1, 0, 1, 0, 0]) (fr.mask 83) K h) K) h = ref17_Book_gone_L1010_txt b0 id1 t4 i6 K h := by kernel_rfl
theorem ref17_Book_gone_L1010_of {b0 : Option Addr} {id1 : Int} {t4 : Addr} {i6 : Int} {K : Ex → Fr → Heap → Prop} {h : Heap} (H : ref17_Book_gone_L1010_txt b0 id1 t4 i6 K h) : ref17_Book_gone_L1010 b0 id1 t4 i6 K h := by
   unfold ref17_Book_gone_L1010; refine Lp.of_ev (x := subA ref17_Book_gone_ann [1, 0, 1, 0, 0]) (keep := 83) ?_; exact (ref17_Book_gone_L1010_eq b0 id1 t4 i6 K h).symm ▸ H
theorem ref17_Book_gone_at1010_Xret (Q : Value → Heap → Prop) (t4 : Addr) (t5 : Bool) (h : Heap) : (ref17_Book_gone_K101 Q) .ret (ref17_Book_gone_Xret t4 t5) h = (
 ∃ (t4_1f0 : Int) (t4_1f1 : Int) (t4_1f2 : Int) (t4_1f3 : Int), rdCells h t4 0 [(.int .i64 t4_1f0), (.int .i64 t4_1f1), (.int .i64 t4_1f2), (.int .i64 t4_1f3)] ∧
 Q (.tuple #[(.agg #[(.int .i64 t4_1f0), (.int .i64 t4_1f1), (.int .i64 t4_1f2), (.int .i64 t4_1f3)]), (.bool t5)]) h) := by kernel_rfl
theorem ref17_Book_gone_at1010_X0 (Q : Value → Heap → Prop) (t4 : Addr) (h : Heap) : (ref17_Book_gone_K101 Q) (.exit 0) (ref17_Book_gone_X0 t4) h = (
 wrCells t4 0 [(.int .i64 0), (.int .i64 0), (.int .i64 0), (.int .i64 0)] (fun h1 =>
 ∃ (t4_1f0 : Int) (t4_1f1 : Int) (t4_1f2 : Int) (t4_1f3 : Int), rdCells h1 t4 0 [(.int .i64 t4_1f0), (.int .i64 t4_1f1), (.int .i64 t4_1f2), (.int .i64 t4_1f3)] ∧
 Q (.tuple #[(.agg #[(.int .i64 t4_1f0), (.int .i64 t4_1f1), (.int .i64 t4_1f2), (.int .i64 t4_1f3)]), (.bool false)]) h1) h) := by kernel_rfl
def ref17_Book_gone_main (b0 : Option Addr) (id1 : Int) (Q : Value → Heap → Prop) (h : Heap) : Prop :=
 let t4 : Addr := ⟨Array.size h, 0, none⟩
 let h1 : Heap := Array.push h (.cells #[(.int .i64 0), (.int .i64 0), (.int .i64 0), (.int .i64 0)] T_haversackref17_Held (0, 0))
 ref17_Book_gone_L1010 b0 id1 t4 0 (ref17_Book_gone_K101 Q) h1
theorem ref17_Book_gone_eq (b0 : Option Addr) (id1 : Int) (Q : Value → Heap → Prop) (h : Heap) : ev PP true none (bodyOf Try.f31) ref17_Book_gone_ann (initFr 57 [(.pointer b0), (.int .i64 id1)]) (bodyK PP Try.f31 Q) h = ref17_Book_gone_main b0 id1 Q h := by kernel_rfl
theorem ref17_Book_gone_door {b0 : Option Addr} {id1 : Int} {Q : Value → Heap → Prop} {h : Heap} (H : ref17_Book_gone_main b0 id1 Q h) : SpecH PP F_ref17_Book_gone [(.pointer b0), (.int .i64 id1)] h Q :=
   spec_of_ev Try.func31 rfl rfl ((ref17_Book_gone_eq b0 id1 Q h).symm ▸ H)
end Go.Proofs.Ytladdcnfdbmnlaa
