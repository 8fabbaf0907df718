/- What the functions of this text come to, as predicates on heaps (printed by my own program out of the dump), each with its proof against the program. -/
import Derived.Test.YtbkbipfcohmpcaaHwOpen
import Derived.Test.YtbkbipfcohmpcaaProg
set_option linter.unusedVariables false
set_option maxRecDepth 100000
namespace Go.Proofs.Ytbkbipfcohmpcaa
open Go Go.HW
noncomputable abbrev PP : Program := Try.prog
abbrev T_int : TypeId := 3
abbrev T_bool : TypeId := 4
abbrev T_uint8 : TypeId := 5
abbrev T_sl_uint8 : TypeId := 22
abbrev T_sl_int : TypeId := 23
abbrev T_uint32 : TypeId := 29
abbrev T_sl_haversacklaw01_WOp : TypeId := 38
abbrev T_struct_Kind_int_V_uint32_N_int : TypeId := 39
abbrev T_haversacklaw01_WOp : TypeId := 40
abbrev T_struct_b_sl_uint8_n_int : TypeId := 51
abbrev T_bits_Writer : TypeId := 52
abbrev T_struct_b_sl_uint8_at_int : TypeId := 53
abbrev T_bits_Reader : TypeId := 54
abbrev F_law01_BitsBytes : FuncId := 3
abbrev F_law01_BitsWrites : FuncId := 4
abbrev F_law01_BitsRound : FuncId := 5
abbrev F_law01_BitsNil : FuncId := 6
abbrev F_bits_NewWriter : FuncId := 7
abbrev F_bits_NewReader : FuncId := 8
abbrev F_bits_Reader_Left : FuncId := 9
abbrev F_bits_Reader_Take : FuncId := 10
abbrev F_bits_Writer_Put : FuncId := 11
abbrev F_law01_awake : FuncId := 12
abbrev F_keep_Bytes : FuncId := 13
abbrev F_bits_Writer_Bytes : FuncId := 14
abbrev F_bits_Reader_Gone : FuncId := 15
abbrev F_ref01_May : FuncId := 16
abbrev F_ref01_Put : FuncId := 17
abbrev F_ref01_Align : FuncId := 18
abbrev F_bits_Writer_Align : FuncId := 19
abbrev F_ref01_Bytes : FuncId := 20
abbrev F_keep_Spoil : FuncId := 21
abbrev F_bits_Writer_Len : FuncId := 22
abbrev F_bits_Reader_Back : FuncId := 23
abbrev F_bits_Reader_More : FuncId := 24
abbrev F_bits_Reader_Align : FuncId := 25
theorem C_int : PP.cellsOf T_int = 1 := by kernel_rfl
theorem U_int : PP.underlying T_int = some (.int .i64) := by kernel_rfl
theorem C_bool : PP.cellsOf T_bool = 1 := by kernel_rfl
theorem U_bool : PP.underlying T_bool = some .bool := by kernel_rfl
theorem C_uint8 : PP.cellsOf T_uint8 = 1 := by kernel_rfl
theorem U_uint8 : PP.underlying T_uint8 = some (.int .u8) := by kernel_rfl
theorem C_sl_uint8 : PP.cellsOf T_sl_uint8 = 1 := by kernel_rfl
theorem E_sl_uint8 : Elem PP T_sl_uint8 T_uint8 1 1 (.int .u8 0) := Elem.of (by kernel_rfl) (by kernel_rfl)
theorem U_sl_uint8 : PP.underlying T_sl_uint8 = some (.slice T_uint8) := by kernel_rfl
theorem C_sl_int : PP.cellsOf T_sl_int = 1 := by kernel_rfl
theorem E_sl_int : Elem PP T_sl_int T_int 1 8 (.int .i64 0) := Elem.of (by kernel_rfl) (by kernel_rfl)
theorem U_sl_int : PP.underlying T_sl_int = some (.slice T_int) := by kernel_rfl
theorem C_uint32 : PP.cellsOf T_uint32 = 1 := by kernel_rfl
theorem U_uint32 : PP.underlying T_uint32 = some (.int .u32) := by kernel_rfl
theorem C_sl_haversacklaw01_WOp : PP.cellsOf T_sl_haversacklaw01_WOp = 1 := by kernel_rfl
theorem E_sl_haversacklaw01_WOp : Elem PP T_sl_haversacklaw01_WOp T_haversacklaw01_WOp 3 24 (.agg #[(.int .i64 0), (.int .u32 0), (.int .i64 0)]) := Elem.of (by kernel_rfl) (by kernel_rfl)
theorem U_sl_haversacklaw01_WOp : PP.underlying T_sl_haversacklaw01_WOp = some (.slice T_haversacklaw01_WOp) := by kernel_rfl
theorem FL_struct_Kind_int_V_uint32_N_int : fieldsOf PP T_struct_Kind_int_V_uint32_N_int = [(T_int, 0, 1), (T_uint32, 1, 1), (T_int, 2, 1)] := by kernel_rfl
theorem C_struct_Kind_int_V_uint32_N_int : PP.cellsOf T_struct_Kind_int_V_uint32_N_int = 3 := by kernel_rfl
theorem FL_haversacklaw01_WOp : fieldsOf PP T_haversacklaw01_WOp = [(T_int, 0, 1), (T_uint32, 1, 1), (T_int, 2, 1)] := by kernel_rfl
theorem C_haversacklaw01_WOp : PP.cellsOf T_haversacklaw01_WOp = 3 := by kernel_rfl
theorem FL_struct_b_sl_uint8_n_int : fieldsOf PP T_struct_b_sl_uint8_n_int = [(T_sl_uint8, 0, 1), (T_int, 1, 1)] := by kernel_rfl
theorem C_struct_b_sl_uint8_n_int : PP.cellsOf T_struct_b_sl_uint8_n_int = 2 := by kernel_rfl
theorem FL_bits_Writer : fieldsOf PP T_bits_Writer = [(T_sl_uint8, 0, 1), (T_int, 1, 1)] := by kernel_rfl
theorem C_bits_Writer : PP.cellsOf T_bits_Writer = 2 := by kernel_rfl
theorem FL_struct_b_sl_uint8_at_int : fieldsOf PP T_struct_b_sl_uint8_at_int = [(T_sl_uint8, 0, 1), (T_int, 1, 1)] := by kernel_rfl
theorem C_struct_b_sl_uint8_at_int : PP.cellsOf T_struct_b_sl_uint8_at_int = 2 := by kernel_rfl
theorem FL_bits_Reader : fieldsOf PP T_bits_Reader = [(T_sl_uint8, 0, 1), (T_int, 1, 1)] := by kernel_rfl
theorem C_bits_Reader : PP.cellsOf T_bits_Reader = 2 := by kernel_rfl
/-! ### haversack/haversacklaw01.BitsBytes: function 3 -/
def law01_BitsBytes_ann : Ann := (.seq 3 (.region [(List.range 1, 3)]) (.seq 3 (.seq 262147 (.region [(List.range 8, 262147)]) (.join (.cond (.seq 16 (.region [(List.range 1, 16)]) (.exit 16)) .leaf))) (.seq 35 (.region [(List.range 2, 35)]) (.seq 99 (.region [(List.range 3, 99)]) (.seq 99 (.seq 134217827 (.region [(List.range 6, 134217827)]) (.join (.cond (.seq 16 (.region [(List.range 1, 16)]) (.exit 16)) .leaf))) (.seq 97 (.seq 227 (.region [(List.range 1, 227)]) (.block (.loop 227 (.seq 227 (.seq 1073742051 (.region [(List.range 3, 1073742051)]) (.cond .leaf (.exit 97))) (.seq 227 (.block (.seq 483 (.region [(List.range 1, 483)]) (.seq 483 (.seq 576460752303423971 (.tree (.run [0, 1, 2, 3, 4, 5, 6, 7, 8, 9, 10, 11, 12, 13, 14, 15, 16, 17, 18, 19, 20, 21, 23] (.alt 22 (.run [24, 25, 26] .done) (.alt 24 (.run [22, 25, 26] .done) .nil))) 576460752303423971) (.join (.cond (.region [(List.range 5, 483)]) .leaf))) (.join (.seq 2019 (.region [(List.range 8, 2019)]) (.seq 302231454903657293676771 (.region [(List.range 9, 302231454903657293676771)]) (.join (.cond (.seq 16 (.region [(List.range 1, 16)]) (.exit 16)) .leaf)))))))) (.region [(List.range 3, 227)])))))) (.seq 16 (.region [(List.range 16, 16)]) (.exit 16))))))))
@[irreducible] def law01_BitsBytes_X0 (b0 : Option Addr) (b0n : Nat) (b0c : Nat) (w5 : Option Addr) (r6 : Option Addr) : Fr := (mkFr 0 94 [(0, (.slice b0 b0n b0c)), (5, (.pointer w5)), (6, (.pointer r6))])
@[irreducible] def law01_BitsBytes_Xret (t4 : Bool) : Fr := (mkFr 0 94 [(4, (.bool t4))])
@[irreducible] def law01_BitsBytes_K1 (Q : Value → Heap → Prop) : Ex → Fr → Heap → Prop := seqK (fun fr h => ev PP true none (sub (bodyOf Try.f3) [1, 1]) (subA law01_BitsBytes_ann [1, 1]) (fr.mask 3) (bodyK PP Try.f3 Q) h) (bodyK PP Try.f3 Q)
@[irreducible] def law01_BitsBytes_J101 (b0 : Option Addr) (b0n : Nat) (b0c : Nat) (sizes1 : Option Addr) (sizes1n : Nat) (sizes1c : Nat) (t18 : Bool) (Q : Value → Heap → Prop) (h : Heap) : Prop := Jn PP true (sub (bodyOf Try.f3) [1, 0, 1]) (mkFr 0 94 [(0, (.slice b0 b0n b0c)), (1, (.slice sizes1 sizes1n sizes1c)), (18, (.bool t18))]) (law01_BitsBytes_K1 Q) h
@[irreducible] def law01_BitsBytes_K1111 (Q : Value → Heap → Prop) : Ex → Fr → Heap → Prop := seqK (fun fr h => ev PP true none (sub (bodyOf Try.f3) [1, 1, 1, 1, 1]) (subA law01_BitsBytes_ann [1, 1, 1, 1, 1]) (fr.mask 99) (bodyK PP Try.f3 Q) h) (bodyK PP Try.f3 Q)
@[irreducible] def law01_BitsBytes_J111101 (b0 : Option Addr) (b0n : Nat) (b0c : Nat) (sizes1 : Option Addr) (sizes1n : Nat) (sizes1c : Nat) (w5 : Option Addr) (r6 : Option Addr) (t27 : Bool) (Q : Value → Heap → Prop) (h : Heap) : Prop := Jn PP true (sub (bodyOf Try.f3) [1, 1, 1, 1, 0, 1]) (mkFr 0 94 [(0, (.slice b0 b0n b0c)), (1, (.slice sizes1 sizes1n sizes1c)), (5, (.pointer w5)), (6, (.pointer r6)), (27, (.bool t27))]) (law01_BitsBytes_K1111 Q) h
@[irreducible] def law01_BitsBytes_K11111 (Q : Value → Heap → Prop) : Ex → Fr → Heap → Prop := seqK (fun fr h => ev PP true none (sub (bodyOf Try.f3) [1, 1, 1, 1, 1, 1]) (subA law01_BitsBytes_ann [1, 1, 1, 1, 1, 1]) (fr.mask 97) (bodyK PP Try.f3 Q) h) (bodyK PP Try.f3 Q)
@[irreducible] def law01_BitsBytes_K1111101 (Q : Value → Heap → Prop) : Ex → Fr → Heap → Prop := blockK 0 (law01_BitsBytes_K11111 Q)
@[irreducible] def law01_BitsBytes_L11111010 (b0 : Option Addr) (b0n : Nat) (b0c : Nat) (sizes1 : Option Addr) (sizes1n : Nat) (sizes1c : Nat) (w5 : Option Addr) (r6 : Option Addr) (i7 : Int) (K : Ex → Fr → Heap → Prop) (h : Heap) : Prop := Lp PP true (sub (bodyOf Try.f3) [1, 1, 1, 1, 1, 0, 1, 0, 0]) (mkFr 0 94 [(0, (.slice b0 b0n b0c)), (1, (.slice sizes1 sizes1n sizes1c)), (5, (.pointer w5)), (6, (.pointer r6)), (7, (.int .i64 i7))]) K h
@[irreducible] def law01_BitsBytes_B11111010 (K : Ex → Fr → Heap → Prop) : Ex → Fr → Heap → Prop := seqK (fun fr h => Lp PP true (sub (bodyOf Try.f3) [1, 1, 1, 1, 1, 0, 1, 0, 0]) (fr.mask 227) K h) K
@[irreducible] def law01_BitsBytes_K1111101001 (K : Ex → Fr → Heap → Prop) : Ex → Fr → Heap → Prop := seqK (fun fr h => ev PP true none (sub (bodyOf Try.f3) [1, 1, 1, 1, 1, 0, 1, 0, 0, 1, 1]) (subA law01_BitsBytes_ann [1, 1, 1, 1, 1, 0, 1, 0, 0, 1, 1]) (fr.mask 227) (law01_BitsBytes_B11111010 K) h) (law01_BitsBytes_B11111010 K)
@[irreducible] def law01_BitsBytes_K11111010010 (K : Ex → Fr → Heap → Prop) : Ex → Fr → Heap → Prop := blockK 1 (law01_BitsBytes_K1111101001 K)
@[irreducible] def law01_BitsBytes_K1111101001001 (K : Ex → Fr → Heap → Prop) : Ex → Fr → Heap → Prop := seqK (fun fr h => Jn PP true (sub (bodyOf Try.f3) [1, 1, 1, 1, 1, 0, 1, 0, 0, 1, 0, 0, 1, 1]) (fr.mask 483) (law01_BitsBytes_K11111010010 K) h) (law01_BitsBytes_K11111010010 K)
@[irreducible] def law01_BitsBytes_J111110100100101 (b0 : Option Addr) (b0n : Nat) (b0c : Nat) (sizes1 : Option Addr) (sizes1n : Nat) (sizes1c : Nat) (w5 : Option Addr) (r6 : Option Addr) (i7 : Int) (n8 : Int) (t59 : Bool) (K : Ex → Fr → Heap → Prop) (h : Heap) : Prop := Jn PP true (sub (bodyOf Try.f3) [1, 1, 1, 1, 1, 0, 1, 0, 0, 1, 0, 0, 1, 0, 1]) (mkFr 0 94 [(0, (.slice b0 b0n b0c)), (1, (.slice sizes1 sizes1n sizes1c)), (5, (.pointer w5)), (6, (.pointer r6)), (7, (.int .i64 i7)), (8, (.int .i64 n8)), (59, (.bool t59))]) (law01_BitsBytes_K1111101001001 K) h
@[irreducible] def law01_BitsBytes_J11111010010011 (b0 : Option Addr) (b0n : Nat) (b0c : Nat) (sizes1 : Option Addr) (sizes1n : Nat) (sizes1c : Nat) (w5 : Option Addr) (r6 : Option Addr) (i7 : Int) (n8 : Int) (K : Ex → Fr → Heap → Prop) (h : Heap) : Prop := Jn PP true (sub (bodyOf Try.f3) [1, 1, 1, 1, 1, 0, 1, 0, 0, 1, 0, 0, 1, 1]) (mkFr 0 94 [(0, (.slice b0 b0n b0c)), (1, (.slice sizes1 sizes1n sizes1c)), (5, (.pointer w5)), (6, (.pointer r6)), (7, (.int .i64 i7)), (8, (.int .i64 n8))]) (law01_BitsBytes_K11111010010 K) h
@[irreducible] def law01_BitsBytes_J1111101001001111 (b0 : Option Addr) (b0n : Nat) (b0c : Nat) (sizes1 : Option Addr) (sizes1n : Nat) (sizes1c : Nat) (w5 : Option Addr) (r6 : Option Addr) (i7 : Int) (t78 : Bool) (K : Ex → Fr → Heap → Prop) (h : Heap) : Prop := Jn PP true (sub (bodyOf Try.f3) [1, 1, 1, 1, 1, 0, 1, 0, 0, 1, 0, 0, 1, 1, 1, 1]) (mkFr 0 94 [(0, (.slice b0 b0n b0c)), (1, (.slice sizes1 sizes1n sizes1c)), (5, (.pointer w5)), (6, (.pointer r6)), (7, (.int .i64 i7)), (78, (.bool t78))]) (law01_BitsBytes_K11111010010 K) h
@[reducible] def law01_BitsBytes_J101_txt (b0 : Option Addr) (b0n : Nat) (b0c : Nat) (sizes1 : Option Addr) (sizes1n : Nat) (sizes1c : Nat) (t18 : Bool) (Q : Value → Heap → Prop) (h : Heap) : Prop :=
 br t18 (
 Q (.bool true) h) (
 SpecH PP F_bits_NewWriter [] h (fun v h1 => ∃ (t19 : Option Addr), v = (.pointer t19) ∧
 SpecH PP F_bits_NewReader [(.slice b0 b0n b0c)] h1 (fun v_1 h2 => ∃ (t21 : Option Addr), v_1 = (.pointer t21) ∧
 let t23 : Bool := (Option.isNone t19)
 br t23 (
 law01_BitsBytes_J111101 b0 b0n b0c sizes1 sizes1n sizes1c t19 t21 true Q h2) (
 let t26 : Bool := (Option.isNone t21)
 law01_BitsBytes_J111101 b0 b0n b0c sizes1 sizes1n sizes1c t19 t21 t26 Q h2))))
theorem law01_BitsBytes_J101_eq (b0 : Option Addr) (b0n : Nat) (b0c : Nat) (sizes1 : Option Addr) (sizes1n : Nat) (sizes1c : Nat) (t18 : Bool) (Q : Value → Heap → Prop) (h : Heap) : ev PP true none (sub (bodyOf Try.f3) [1, 0, 1]) (subA law01_BitsBytes_ann [1, 0, 1]) (mkFr 0 94 [(0, (.slice b0 b0n b0c)), (1, (.slice sizes1 sizes1n sizes1c)), (18, (.bool t18))]) (law01_BitsBytes_K1 Q) h = law01_BitsBytes_J101_txt b0 b0n b0c sizes1 sizes1n sizes1c t18 Q h := by kernel_rfl
theorem law01_BitsBytes_J101_of {b0 : Option Addr} {b0n : Nat} {b0c : Nat} {sizes1 : Option Addr} {sizes1n : Nat} {sizes1c : Nat} {t18 : Bool} {Q : Value → Heap → Prop} {h : Heap} (H : law01_BitsBytes_J101_txt b0 b0n b0c sizes1 sizes1n sizes1c t18 Q h) : law01_BitsBytes_J101 b0 b0n b0c sizes1 sizes1n sizes1c t18 Q h := by
   unfold law01_BitsBytes_J101; refine Jn.of_ev (x := subA law01_BitsBytes_ann [1, 0, 1]) ?_; exact (law01_BitsBytes_J101_eq b0 b0n b0c sizes1 sizes1n sizes1c t18 Q h).symm ▸ H
@[reducible] def law01_BitsBytes_J111101_txt (b0 : Option Addr) (b0n : Nat) (b0c : Nat) (sizes1 : Option Addr) (sizes1n : Nat) (sizes1c : Nat) (w5 : Option Addr) (r6 : Option Addr) (t27 : Bool) (Q : Value → Heap → Prop) (h : Heap) : Prop :=
 br t27 (
 Q (.bool false) h) (
 law01_BitsBytes_L11111010 b0 b0n b0c sizes1 sizes1n sizes1c w5 r6 0 (law01_BitsBytes_K1111101 Q) h)
theorem law01_BitsBytes_J111101_eq (b0 : Option Addr) (b0n : Nat) (b0c : Nat) (sizes1 : Option Addr) (sizes1n : Nat) (sizes1c : Nat) (w5 : Option Addr) (r6 : Option Addr) (t27 : Bool) (Q : Value → Heap → Prop) (h : Heap) : ev PP true none (sub (bodyOf Try.f3) [1, 1, 1, 1, 0, 1]) (subA law01_BitsBytes_ann [1, 1, 1, 1, 0, 1]) (mkFr 0 94 [(0, (.slice b0 b0n b0c)), (1, (.slice sizes1 sizes1n sizes1c)), (5, (.pointer w5)), (6, (.pointer r6)), (27, (.bool t27))]) (law01_BitsBytes_K1111 Q) h = law01_BitsBytes_J111101_txt b0 b0n b0c sizes1 sizes1n sizes1c w5 r6 t27 Q h := by kernel_rfl
theorem law01_BitsBytes_J111101_of {b0 : Option Addr} {b0n : Nat} {b0c : Nat} {sizes1 : Option Addr} {sizes1n : Nat} {sizes1c : Nat} {w5 : Option Addr} {r6 : Option Addr} {t27 : Bool} {Q : Value → Heap → Prop} {h : Heap} (H : law01_BitsBytes_J111101_txt b0 b0n b0c sizes1 sizes1n sizes1c w5 r6 t27 Q h) : law01_BitsBytes_J111101 b0 b0n b0c sizes1 sizes1n sizes1c w5 r6 t27 Q h := by
   unfold law01_BitsBytes_J111101; refine Jn.of_ev (x := subA law01_BitsBytes_ann [1, 1, 1, 1, 0, 1]) ?_; exact (law01_BitsBytes_J111101_eq b0 b0n b0c sizes1 sizes1n sizes1c w5 r6 t27 Q h).symm ▸ H
@[reducible] def law01_BitsBytes_L11111010_txt (b0 : Option Addr) (b0n : Nat) (b0c : Nat) (sizes1 : Option Addr) (sizes1n : Nat) (sizes1c : Nat) (w5 : Option Addr) (r6 : Option Addr) (i7 : Int) (K : Ex → Fr → Heap → Prop) (h : Heap) : Prop :=
 SpecH PP F_bits_Reader_Left [(.pointer r6)] h (fun v h1 => ∃ (t29 : Int), v = (.int .i64 t29) ∧
 let t30 : Bool := decide (t29 > 0)
 br t30 (
 let t36 : Bool := decide (i7 < (sizes1n : Int))
 br t36 (
 hwp PP (Instr.indexAt T_sl_int (.slice sizes1 sizes1n sizes1c) (.int .i64 i7)) (fun v_1 h2 => ∃ (t40 : Addr), v_1 = (.pointer (some t40)) ∧
 ∃ (t41 : Int), cellH h2 t40 = some (.int .i64 t41) ∧
 let t42 : Bool := decide (t41 ≥ 1)
 br t42 (
 hwp PP (Instr.indexAt T_sl_int (.slice sizes1 sizes1n sizes1c) (.int .i64 i7)) (fun v_2 h3 => ∃ (t47 : Addr), v_2 = (.pointer (some t47)) ∧
 ∃ (t48 : Int), cellH h3 t47 = some (.int .i64 t48) ∧
 let t49 : Bool := decide (t48 ≤ 32)
 br t49 (
 hwp PP (Instr.indexAt T_sl_int (.slice sizes1 sizes1n sizes1c) (.int .i64 i7)) (fun v_3 h4 => ∃ (t54 : Addr), v_3 = (.pointer (some t54)) ∧
 (
 ∃ (t55_1 : Int), cellH h4 t54 = some (.int .i64 t55_1) ∧
 SpecH PP F_bits_Reader_Left [(.pointer r6)] h4 (fun v_5 h6 => ∃ (t57_1 : Int), v_5 = (.int .i64 t57_1) ∧
 let t58_1 : Bool := decide (t55_1 ≤ t57_1)
 law01_BitsBytes_J111110100100101 b0 b0n b0c sizes1 sizes1n sizes1c w5 r6 i7 1 t58_1 K h6)) ∧
 (
 SpecH PP F_bits_Reader_Left [(.pointer r6)] h4 (fun v_4 h5 => ∃ (t57 : Int), v_4 = (.int .i64 t57) ∧
 ∃ (t55 : Int), cellH h5 t54 = some (.int .i64 t55) ∧
 let t58 : Bool := decide (t55 ≤ t57)
 law01_BitsBytes_J111110100100101 b0 b0n b0c sizes1 sizes1n sizes1c w5 r6 i7 1 t58 K h5)) ∧
 True) h3) (
 (
 law01_BitsBytes_J111110100100101 b0 b0n b0c sizes1 sizes1n sizes1c w5 r6 i7 1 false K h3) ∧
 (
 law01_BitsBytes_J111110100100101 b0 b0n b0c sizes1 sizes1n sizes1c w5 r6 i7 1 false K h3) ∧
 True)) h2) (
 (
 law01_BitsBytes_J111110100100101 b0 b0n b0c sizes1 sizes1n sizes1c w5 r6 i7 1 false K h2) ∧
 (
 law01_BitsBytes_J111110100100101 b0 b0n b0c sizes1 sizes1n sizes1c w5 r6 i7 1 false K h2) ∧
 True)) h1) (
 (
 law01_BitsBytes_J111110100100101 b0 b0n b0c sizes1 sizes1n sizes1c w5 r6 i7 1 false K h1) ∧
 (
 law01_BitsBytes_J111110100100101 b0 b0n b0c sizes1 sizes1n sizes1c w5 r6 i7 1 false K h1) ∧
 True)) (
 K (.exit 0) (law01_BitsBytes_X0 b0 b0n b0c w5 r6) h1))
theorem law01_BitsBytes_L11111010_eq (b0 : Option Addr) (b0n : Nat) (b0c : Nat) (sizes1 : Option Addr) (sizes1n : Nat) (sizes1c : Nat) (w5 : Option Addr) (r6 : Option Addr) (i7 : Int) (K : Ex → Fr → Heap → Prop) (h : Heap) : ev PP true none (sub (bodyOf Try.f3) [1, 1, 1, 1, 1, 0, 1, 0, 0]) (subA law01_BitsBytes_ann [1, 1, 1, 1, 1, 0, 1, 0, 0]) (mkFr 0 94 [(0, (.slice b0 b0n b0c)), (1, (.slice sizes1 sizes1n sizes1c)), (5, (.pointer w5)), (6, (.pointer r6)), (7, (.int .i64 i7))]) (seqK (fun fr h => Lp PP true (sub (bodyOf Try.f3) [1, 1, 1, 1, 1, 0, 1, 0, 0]) (fr.mask 227) K h) K) h = law01_BitsBytes_L11111010_txt b0 b0n b0c sizes1 sizes1n sizes1c w5 r6 i7 K h := by kernel_rfl
theorem law01_BitsBytes_L11111010_of {b0 : Option Addr} {b0n : Nat} {b0c : Nat} {sizes1 : Option Addr} {sizes1n : Nat} {sizes1c : Nat} {w5 : Option Addr} {r6 : Option Addr} {i7 : Int} {K : Ex → Fr → Heap → Prop} {h : Heap} (H : law01_BitsBytes_L11111010_txt b0 b0n b0c sizes1 sizes1n sizes1c w5 r6 i7 K h) : law01_BitsBytes_L11111010 b0 b0n b0c sizes1 sizes1n sizes1c w5 r6 i7 K h := by
   unfold law01_BitsBytes_L11111010; refine Lp.of_ev (x := subA law01_BitsBytes_ann [1, 1, 1, 1, 1, 0, 1, 0, 0]) (keep := 227) ?_; exact (law01_BitsBytes_L11111010_eq b0 b0n b0c sizes1 sizes1n sizes1c w5 r6 i7 K h).symm ▸ H
theorem law01_BitsBytes_at11111010_X0 (Q : Value → Heap → Prop) (b0 : Option Addr) (b0n : Nat) (b0c : Nat) (w5 : Option Addr) (r6 : Option Addr) (h : Heap) : (law01_BitsBytes_K1111101 Q) (.exit 0) (law01_BitsBytes_X0 b0 b0n b0c w5 r6) h = (
 SpecH PP F_law01_awake [] h (fun v h1 => ∃ (t79 : Bool), v = (.bool t79) ∧
 br t79 (
 SpecH PP F_bits_Writer_Bytes [(.pointer w5)] h1 (fun v_1 h2 => ∃ (t82 : Option Addr) (t82n : Nat) (t82c : Nat), v_1 = (.slice t82 t82n t82c) ∧
 SpecH PP F_keep_Bytes [(.slice t82 t82n t82c), (.slice b0 b0n b0c)] h2 (fun v_2 h3 => ∃ (t84 : Bool), v_2 = (.bool t84) ∧
 br t84 (
 SpecH PP F_bits_Reader_Gone [(.pointer r6)] h3 (fun v_3 h4 => ∃ (t88 : Int), v_3 = (.int .i64 t88) ∧
 let t91 : Int := IntKind.i64.wrap (8 * (b0n : Int))
 let t92 : Bool := (t88 == t91)
 Q (.bool t92) h4)) (
 Q (.bool false) h3)))) (
 Q (.bool false) h1))) := by kernel_rfl
@[reducible] def law01_BitsBytes_J111110100100101_txt (b0 : Option Addr) (b0n : Nat) (b0c : Nat) (sizes1 : Option Addr) (sizes1n : Nat) (sizes1c : Nat) (w5 : Option Addr) (r6 : Option Addr) (i7 : Int) (n8 : Int) (t59 : Bool) (K : Ex → Fr → Heap → Prop) (h : Heap) : Prop :=
 br t59 (
 hwp PP (Instr.indexAt T_sl_int (.slice sizes1 sizes1n sizes1c) (.int .i64 i7)) (fun v h1 => ∃ (t62 : Addr), v = (.pointer (some t62)) ∧
 ∃ (t63 : Int), cellH h1 t62 = some (.int .i64 t63) ∧
 law01_BitsBytes_J11111010010011 b0 b0n b0c sizes1 sizes1n sizes1c w5 r6 i7 t63 K h1) h) (
 law01_BitsBytes_J11111010010011 b0 b0n b0c sizes1 sizes1n sizes1c w5 r6 i7 n8 K h)
theorem law01_BitsBytes_J111110100100101_eq (b0 : Option Addr) (b0n : Nat) (b0c : Nat) (sizes1 : Option Addr) (sizes1n : Nat) (sizes1c : Nat) (w5 : Option Addr) (r6 : Option Addr) (i7 : Int) (n8 : Int) (t59 : Bool) (K : Ex → Fr → Heap → Prop) (h : Heap) : ev PP true none (sub (bodyOf Try.f3) [1, 1, 1, 1, 1, 0, 1, 0, 0, 1, 0, 0, 1, 0, 1]) (subA law01_BitsBytes_ann [1, 1, 1, 1, 1, 0, 1, 0, 0, 1, 0, 0, 1, 0, 1]) (mkFr 0 94 [(0, (.slice b0 b0n b0c)), (1, (.slice sizes1 sizes1n sizes1c)), (5, (.pointer w5)), (6, (.pointer r6)), (7, (.int .i64 i7)), (8, (.int .i64 n8)), (59, (.bool t59))]) (law01_BitsBytes_K1111101001001 K) h = law01_BitsBytes_J111110100100101_txt b0 b0n b0c sizes1 sizes1n sizes1c w5 r6 i7 n8 t59 K h := by kernel_rfl
theorem law01_BitsBytes_J111110100100101_of {b0 : Option Addr} {b0n : Nat} {b0c : Nat} {sizes1 : Option Addr} {sizes1n : Nat} {sizes1c : Nat} {w5 : Option Addr} {r6 : Option Addr} {i7 : Int} {n8 : Int} {t59 : Bool} {K : Ex → Fr → Heap → Prop} {h : Heap} (H : law01_BitsBytes_J111110100100101_txt b0 b0n b0c sizes1 sizes1n sizes1c w5 r6 i7 n8 t59 K h) : law01_BitsBytes_J111110100100101 b0 b0n b0c sizes1 sizes1n sizes1c w5 r6 i7 n8 t59 K h := by
   unfold law01_BitsBytes_J111110100100101; refine Jn.of_ev (x := subA law01_BitsBytes_ann [1, 1, 1, 1, 1, 0, 1, 0, 0, 1, 0, 0, 1, 0, 1]) ?_; exact (law01_BitsBytes_J111110100100101_eq b0 b0n b0c sizes1 sizes1n sizes1c w5 r6 i7 n8 t59 K h).symm ▸ H
@[reducible] def law01_BitsBytes_J11111010010011_txt (b0 : Option Addr) (b0n : Nat) (b0c : Nat) (sizes1 : Option Addr) (sizes1n : Nat) (sizes1c : Nat) (w5 : Option Addr) (r6 : Option Addr) (i7 : Int) (n8 : Int) (K : Ex → Fr → Heap → Prop) (h : Heap) : Prop :=
 SpecH PP F_bits_Reader_Take [(.pointer r6), (.int .i64 n8)] h (fun v h1 => ∃ (t67 : Int) (t67_1 : Int), v = (.tuple #[(.int .u32 t67), (.int .i64 t67_1)]) ∧
 let t71 : Bool := (t67_1 != 0)
 br t71 (
 law01_BitsBytes_J1111101001001111 b0 b0n b0c sizes1 sizes1n sizes1c w5 r6 i7 true K h1) (
 SpecH PP F_bits_Writer_Put [(.pointer w5), (.int .u32 t67), (.int .i64 n8)] h1 (fun v_1 h2 => ∃ (t76 : Int), v_1 = (.int .i64 t76) ∧
 let t77 : Bool := (t76 != 0)
 law01_BitsBytes_J1111101001001111 b0 b0n b0c sizes1 sizes1n sizes1c w5 r6 i7 t77 K h2)))
theorem law01_BitsBytes_J11111010010011_eq (b0 : Option Addr) (b0n : Nat) (b0c : Nat) (sizes1 : Option Addr) (sizes1n : Nat) (sizes1c : Nat) (w5 : Option Addr) (r6 : Option Addr) (i7 : Int) (n8 : Int) (K : Ex → Fr → Heap → Prop) (h : Heap) : ev PP true none (sub (bodyOf Try.f3) [1, 1, 1, 1, 1, 0, 1, 0, 0, 1, 0, 0, 1, 1]) (subA law01_BitsBytes_ann [1, 1, 1, 1, 1, 0, 1, 0, 0, 1, 0, 0, 1, 1]) (mkFr 0 94 [(0, (.slice b0 b0n b0c)), (1, (.slice sizes1 sizes1n sizes1c)), (5, (.pointer w5)), (6, (.pointer r6)), (7, (.int .i64 i7)), (8, (.int .i64 n8))]) (law01_BitsBytes_K11111010010 K) h = law01_BitsBytes_J11111010010011_txt b0 b0n b0c sizes1 sizes1n sizes1c w5 r6 i7 n8 K h := by kernel_rfl
theorem law01_BitsBytes_J11111010010011_of {b0 : Option Addr} {b0n : Nat} {b0c : Nat} {sizes1 : Option Addr} {sizes1n : Nat} {sizes1c : Nat} {w5 : Option Addr} {r6 : Option Addr} {i7 : Int} {n8 : Int} {K : Ex → Fr → Heap → Prop} {h : Heap} (H : law01_BitsBytes_J11111010010011_txt b0 b0n b0c sizes1 sizes1n sizes1c w5 r6 i7 n8 K h) : law01_BitsBytes_J11111010010011 b0 b0n b0c sizes1 sizes1n sizes1c w5 r6 i7 n8 K h := by
   unfold law01_BitsBytes_J11111010010011; refine Jn.of_ev (x := subA law01_BitsBytes_ann [1, 1, 1, 1, 1, 0, 1, 0, 0, 1, 0, 0, 1, 1]) ?_; exact (law01_BitsBytes_J11111010010011_eq b0 b0n b0c sizes1 sizes1n sizes1c w5 r6 i7 n8 K h).symm ▸ H
@[reducible] def law01_BitsBytes_J1111101001001111_txt (b0 : Option Addr) (b0n : Nat) (b0c : Nat) (sizes1 : Option Addr) (sizes1n : Nat) (sizes1c : Nat) (w5 : Option Addr) (r6 : Option Addr) (i7 : Int) (t78 : Bool) (K : Ex → Fr → Heap → Prop) (h : Heap) : Prop :=
 br t78 (
 K .ret (law01_BitsBytes_Xret false) h) (
 let t32 : Int := IntKind.i64.wrap (i7 + 1)
 law01_BitsBytes_L11111010 b0 b0n b0c sizes1 sizes1n sizes1c w5 r6 t32 K h)
theorem law01_BitsBytes_J1111101001001111_eq (b0 : Option Addr) (b0n : Nat) (b0c : Nat) (sizes1 : Option Addr) (sizes1n : Nat) (sizes1c : Nat) (w5 : Option Addr) (r6 : Option Addr) (i7 : Int) (t78 : Bool) (K : Ex → Fr → Heap → Prop) (h : Heap) : ev PP true none (sub (bodyOf Try.f3) [1, 1, 1, 1, 1, 0, 1, 0, 0, 1, 0, 0, 1, 1, 1, 1]) (subA law01_BitsBytes_ann [1, 1, 1, 1, 1, 0, 1, 0, 0, 1, 0, 0, 1, 1, 1, 1]) (mkFr 0 94 [(0, (.slice b0 b0n b0c)), (1, (.slice sizes1 sizes1n sizes1c)), (5, (.pointer w5)), (6, (.pointer r6)), (7, (.int .i64 i7)), (78, (.bool t78))]) (law01_BitsBytes_K11111010010 K) h = law01_BitsBytes_J1111101001001111_txt b0 b0n b0c sizes1 sizes1n sizes1c w5 r6 i7 t78 K h := by kernel_rfl
theorem law01_BitsBytes_J1111101001001111_of {b0 : Option Addr} {b0n : Nat} {b0c : Nat} {sizes1 : Option Addr} {sizes1n : Nat} {sizes1c : Nat} {w5 : Option Addr} {r6 : Option Addr} {i7 : Int} {t78 : Bool} {K : Ex → Fr → Heap → Prop} {h : Heap} (H : law01_BitsBytes_J1111101001001111_txt b0 b0n b0c sizes1 sizes1n sizes1c w5 r6 i7 t78 K h) : law01_BitsBytes_J1111101001001111 b0 b0n b0c sizes1 sizes1n sizes1c w5 r6 i7 t78 K h := by
   unfold law01_BitsBytes_J1111101001001111; refine Jn.of_ev (x := subA law01_BitsBytes_ann [1, 1, 1, 1, 1, 0, 1, 0, 0, 1, 0, 0, 1, 1, 1, 1]) ?_; exact (law01_BitsBytes_J1111101001001111_eq b0 b0n b0c sizes1 sizes1n sizes1c w5 r6 i7 t78 K h).symm ▸ H
theorem law01_BitsBytes_at11111010_Xret (Q : Value → Heap → Prop) (t4 : Bool) (h : Heap) : (law01_BitsBytes_K1111101 Q) .ret (law01_BitsBytes_Xret t4) h = (
 Q (.bool t4) h) := by kernel_rfl
def law01_BitsBytes_main (b0 : Option Addr) (b0n : Nat) (b0c : Nat) (sizes1 : Option Addr) (sizes1n : Nat) (sizes1c : Nat) (Q : Value → Heap → Prop) (h : Heap) : Prop :=
 let t13 : Bool := decide ((b0n : Int) > 16384)
 br t13 (
 law01_BitsBytes_J101 b0 b0n b0c sizes1 sizes1n sizes1c true Q h) (
 let t17 : Bool := decide ((sizes1n : Int) > 5000)
 law01_BitsBytes_J101 b0 b0n b0c sizes1 sizes1n sizes1c t17 Q h)
theorem law01_BitsBytes_eq (b0 : Option Addr) (b0n : Nat) (b0c : Nat) (sizes1 : Option Addr) (sizes1n : Nat) (sizes1c : Nat) (Q : Value → Heap → Prop) (h : Heap) : ev PP true none (bodyOf Try.f3) law01_BitsBytes_ann (initFr 94 [(.slice b0 b0n b0c), (.slice sizes1 sizes1n sizes1c)]) (bodyK PP Try.f3 Q) h = law01_BitsBytes_main b0 b0n b0c sizes1 sizes1n sizes1c Q h := by kernel_rfl
theorem law01_BitsBytes_door {b0 : Option Addr} {b0n : Nat} {b0c : Nat} {sizes1 : Option Addr} {sizes1n : Nat} {sizes1c : Nat} {Q : Value → Heap → Prop} {h : Heap} (H : law01_BitsBytes_main b0 b0n b0c sizes1 sizes1n sizes1c Q h) : SpecH PP F_law01_BitsBytes [(.slice b0 b0n b0c), (.slice sizes1 sizes1n sizes1c)] h Q :=
   spec_of_ev Try.func3 rfl rfl ((law01_BitsBytes_eq b0 b0n b0c sizes1 sizes1n sizes1c Q h).symm ▸ H)
/-! ### haversack/haversacklaw01.BitsWrites: function 4 -/
def law01_BitsWrites_ann : Ann := (.seq 1 (.region [(List.range 1, 1)]) (.seq 1 (.seq 2049 (.region [(List.range 3, 2049)]) (.cond (.seq 4 (.region [(List.range 1, 4)]) (.exit 4)) .leaf)) (.seq 9 (.region [(List.range 2, 9)]) (.seq 9 (.seq 16393 (.region [(List.range 2, 16393)]) (.cond (.seq 4 (.region [(List.range 1, 4)]) (.exit 4)) .leaf)) (.seq 25 (.region [(List.range 1, 25)]) (.seq 24 (.seq 57 (.region [(List.range 1, 57)]) (.block (.loop 57 (.seq 57 (.seq 262201 (.region [(List.range 4, 262201)]) (.cond .leaf (.exit 24))) (.seq 57 (.block (.seq 121 (.region [(List.range 6, 121)]) (.seq 57 (.seq 67108985 (.region [(List.range 2, 67108985)]) (.block (.seq 68786585721 (.region [(List.range 2, 68786585721)]) (.cond (.seq 249 (.region [(List.range 1, 249)]) (.seq 249 (.seq 4398046511353 (.region [(List.range 5, 4398046511353)]) (.cond (.seq 249 (.region [(List.range 1, 249)]) (.region [(List.range 7, 249)])) .leaf)) (.join (.seq 72057594037927993 (.region [(List.range 8, 72057594037927993)]) (.cond (.seq 4 (.region [(List.range 1, 4)]) (.exit 4)) .leaf))))) (.seq 144115188075855929 (.region [(List.range 2, 144115188075855929)]) (.cond (.seq 57 (.region [(List.range 3, 57)]) (.seq 9223372036854775865 (.region [(List.range 3, 9223372036854775865)]) (.cond (.seq 4 (.region [(List.range 1, 4)]) (.exit 4)) .leaf))) (.seq 313 (.region [(List.range 3, 313)]) (.seq 313 (.seq 8589934905 (.region [(List.range 5, 8589934905)]) (.cond (.seq 4 (.region [(List.range 1, 4)]) (.exit 4)) .leaf)) (.region [(List.range 2, 57)]))))))))) (.join (.seq 295147905179352825913 (.region [(List.range 5, 295147905179352825913)]) (.cond (.seq 4 (.region [(List.range 1, 4)]) (.exit 4)) .leaf)))))) (.region [(List.range 3, 57)])))))) (.seq 4 (.region [(List.range 9, 4)]) (.exit 4))))))))
@[irreducible] def law01_BitsWrites_Xret (t2 : Bool) : Fr := (mkFr 0 77 [(2, (.bool t2))])
@[irreducible] def law01_BitsWrites_X0 (w3 : Option Addr) (l4 : Option Addr) (l4n : Nat) (l4c : Nat) : Fr := (mkFr 0 77 [(3, (.pointer w3)), (4, (.slice l4 l4n l4c))])
@[irreducible] def law01_BitsWrites_L11111010 (script0 : Option Addr) (script0n : Nat) (script0c : Nat) (w3 : Option Addr) (l4 : Option Addr) (l4n : Nat) (l4c : Nat) (i5 : Int) (K : Ex → Fr → Heap → Prop) (h : Heap) : Prop := Lp PP true (sub (bodyOf Try.f4) [1, 1, 1, 1, 1, 0, 1, 0, 0]) (mkFr 0 77 [(0, (.slice script0 script0n script0c)), (3, (.pointer w3)), (4, (.slice l4 l4n l4c)), (5, (.int .i64 i5))]) K h
@[irreducible] def law01_BitsWrites_B11111010 (K : Ex → Fr → Heap → Prop) : Ex → Fr → Heap → Prop := seqK (fun fr h => Lp PP true (sub (bodyOf Try.f4) [1, 1, 1, 1, 1, 0, 1, 0, 0]) (fr.mask 57) K h) K
@[irreducible] def law01_BitsWrites_K1111101001 (K : Ex → Fr → Heap → Prop) : Ex → Fr → Heap → Prop := seqK (fun fr h => ev PP true none (sub (bodyOf Try.f4) [1, 1, 1, 1, 1, 0, 1, 0, 0, 1, 1]) (subA law01_BitsWrites_ann [1, 1, 1, 1, 1, 0, 1, 0, 0, 1, 1]) (fr.mask 57) (law01_BitsWrites_B11111010 K) h) (law01_BitsWrites_B11111010 K)
@[irreducible] def law01_BitsWrites_K11111010010 (K : Ex → Fr → Heap → Prop) : Ex → Fr → Heap → Prop := blockK 1 (law01_BitsWrites_K1111101001 K)
@[irreducible] def law01_BitsWrites_K1111101001001 (K : Ex → Fr → Heap → Prop) : Ex → Fr → Heap → Prop := seqK (fun fr h => Jn PP true (sub (bodyOf Try.f4) [1, 1, 1, 1, 1, 0, 1, 0, 0, 1, 0, 0, 1, 1]) (fr.mask 57) (law01_BitsWrites_K11111010010 K) h) (law01_BitsWrites_K11111010010 K)
@[irreducible] def law01_BitsWrites_K111110100100101 (K : Ex → Fr → Heap → Prop) : Ex → Fr → Heap → Prop := blockK 2 (law01_BitsWrites_K1111101001001 K)
@[irreducible] def law01_BitsWrites_J11111010010010101011 (script0 : Option Addr) (script0n : Nat) (script0c : Nat) (w3 : Option Addr) (l4 : Option Addr) (l4n : Nat) (l4c : Nat) (i5 : Int) (o6 : Addr) (want7 : Int) (K : Ex → Fr → Heap → Prop) (h : Heap) : Prop := Jn PP true (sub (bodyOf Try.f4) [1, 1, 1, 1, 1, 0, 1, 0, 0, 1, 0, 0, 1, 0, 1, 0, 1, 0, 1, 1]) (mkFr 0 77 [(0, (.slice script0 script0n script0c)), (3, (.pointer w3)), (4, (.slice l4 l4n l4c)), (5, (.int .i64 i5)), (6, (.pointer (some o6))), (7, (.int .i64 want7))]) (law01_BitsWrites_K111110100100101 K) h
@[irreducible] def law01_BitsWrites_J11111010010011 (script0 : Option Addr) (script0n : Nat) (script0c : Nat) (w3 : Option Addr) (l4 : Option Addr) (l4n : Nat) (l4c : Nat) (i5 : Int) (K : Ex → Fr → Heap → Prop) (h : Heap) : Prop := Jn PP true (sub (bodyOf Try.f4) [1, 1, 1, 1, 1, 0, 1, 0, 0, 1, 0, 0, 1, 1]) (mkFr 0 77 [(0, (.slice script0 script0n script0c)), (3, (.pointer w3)), (4, (.slice l4 l4n l4c)), (5, (.int .i64 i5))]) (law01_BitsWrites_K11111010010 K) h
@[irreducible] def law01_BitsWrites_K11111 (Q : Value → Heap → Prop) : Ex → Fr → Heap → Prop := seqK (fun fr h => ev PP true none (sub (bodyOf Try.f4) [1, 1, 1, 1, 1, 1]) (subA law01_BitsWrites_ann [1, 1, 1, 1, 1, 1]) (fr.mask 24) (bodyK PP Try.f4 Q) h) (bodyK PP Try.f4 Q)
@[irreducible] def law01_BitsWrites_K1111101 (Q : Value → Heap → Prop) : Ex → Fr → Heap → Prop := blockK 0 (law01_BitsWrites_K11111 Q)
@[reducible] def law01_BitsWrites_L11111010_txt (script0 : Option Addr) (script0n : Nat) (script0c : Nat) (w3 : Option Addr) (l4 : Option Addr) (l4n : Nat) (l4c : Nat) (i5 : Int) (K : Ex → Fr → Heap → Prop) (h : Heap) : Prop :=
 let t18 : Bool := decide (i5 < (script0n : Int))
 br t18 (
 hwp PP (Instr.indexAt T_sl_haversacklaw01_WOp (.slice script0 script0n script0c) (.int .i64 i5)) (fun v h1 => ∃ (t23 : Addr), v = (.pointer (some t23)) ∧
 ∃ (t24_0 : Int) (t24_1 : Int) (t24_2 : Int), rdCells h1 t23 0 [(.int .i64 t24_0), (.int .u32 t24_1), (.int .i64 t24_2)] ∧
 let o6 : Addr := ⟨Array.size h1, 0, none⟩
 let h2 : Heap := Array.push h1 (.cells #[(.int .i64 0), (.int .u32 0), (.int .i64 0)] T_haversacklaw01_WOp (0, 0))
 wrCells o6 0 [(.int .i64 t24_0), (.int .u32 t24_1), (.int .i64 t24_2)] (fun h3 =>
 ∃ (t26 : Int), cellH h3 o6 = some (.int .i64 t26) ∧
 let t37 : Bool := (t26 == 1)
 br t37 (
 ∃ (t39 : Int), cellH h3 (Addr.add o6 1) = some (.int .u32 t39) ∧
 ∃ (t41 : Int), cellH h3 (Addr.add o6 2) = some (.int .i64 t41) ∧
 SpecH PP F_ref01_May [(.int .u32 t39), (.int .i64 t41)] h3 (fun v_1 h4 => ∃ (t42 : Bool), v_1 = (.bool t42) ∧
 br t42 (
 ∃ (t45 : Int), cellH h4 (Addr.add o6 1) = some (.int .u32 t45) ∧
 ∃ (t47 : Int), cellH h4 (Addr.add o6 2) = some (.int .i64 t47) ∧
 SpecH PP F_ref01_Put [(.slice l4 l4n l4c), (.int .u32 t45), (.int .i64 t47)] h4 (fun v_2 h5 => ∃ (t48 : Option Addr) (t48n : Nat) (t48c : Nat), v_2 = (.slice t48 t48n t48c) ∧
 law01_BitsWrites_J11111010010010101011 script0 script0n script0c w3 t48 t48n t48c i5 o6 0 K h5)) (
 law01_BitsWrites_J11111010010010101011 script0 script0n script0c w3 l4 l4n l4c i5 o6 1 K h4))) (
 let t58 : Bool := (t26 == 2)
 br t58 (
 SpecH PP F_ref01_Align [(.slice l4 l4n l4c)] h3 (fun v_3 h6 => ∃ (t60 : Option Addr) (t60n : Nat) (t60c : Nat), v_3 = (.slice t60 t60n t60c) ∧
 SpecH PP F_bits_Writer_Align [(.pointer w3)] h6 (fun v_4 h7 => ∃ (t62 : Int), v_4 = (.int .i64 t62) ∧
 let t63 : Bool := (t62 != 0)
 br t63 (
 K .ret (law01_BitsWrites_Xret false) h7) (
 law01_BitsWrites_J11111010010011 script0 script0n script0c w3 t60 t60n t60c i5 K h7)))) (
 SpecH PP F_bits_Writer_Bytes [(.pointer w3)] h3 (fun v_5 h8 => ∃ (t28 : Option Addr) (t28n : Nat) (t28c : Nat), v_5 = (.slice t28 t28n t28c) ∧
 SpecH PP F_ref01_Bytes [(.slice l4 l4n l4c)] h8 (fun v_6 h9 => ∃ (t31 : Option Addr) (t31n : Nat) (t31c : Nat), v_6 = (.slice t31 t31n t31c) ∧
 SpecH PP F_keep_Bytes [(.slice t28 t28n t28c), (.slice t31 t31n t31c)] h9 (fun v_7 h10 => ∃ (t32 : Bool), v_7 = (.bool t32) ∧
 let t33 : Bool := (!t32)
 br t33 (
 K .ret (law01_BitsWrites_Xret false) h10) (
 SpecH PP F_keep_Spoil [(.slice t28 t28n t28c)] h10 (fun v_8 h11 => v_8 = (.tuple #[]) ∧
 law01_BitsWrites_J11111010010011 script0 script0n script0c w3 l4 l4n l4c i5 K h11)))))))) h2) h) (
 K (.exit 0) (law01_BitsWrites_X0 w3 l4 l4n l4c) h)
theorem law01_BitsWrites_L11111010_eq (script0 : Option Addr) (script0n : Nat) (script0c : Nat) (w3 : Option Addr) (l4 : Option Addr) (l4n : Nat) (l4c : Nat) (i5 : Int) (K : Ex → Fr → Heap → Prop) (h : Heap) : ev PP true none (sub (bodyOf Try.f4) [1, 1, 1, 1, 1, 0, 1, 0, 0]) (subA law01_BitsWrites_ann [1, 1, 1, 1, 1, 0, 1, 0, 0]) (mkFr 0 77 [(0, (.slice script0 script0n script0c)), (3, (.pointer w3)), (4, (.slice l4 l4n l4c)), (5, (.int .i64 i5))]) (seqK (fun fr h => Lp PP true (sub (bodyOf Try.f4) [1, 1, 1, 1, 1, 0, 1, 0, 0]) (fr.mask 57) K h) K) h = law01_BitsWrites_L11111010_txt script0 script0n script0c w3 l4 l4n l4c i5 K h := by kernel_rfl
theorem law01_BitsWrites_L11111010_of {script0 : Option Addr} {script0n : Nat} {script0c : Nat} {w3 : Option Addr} {l4 : Option Addr} {l4n : Nat} {l4c : Nat} {i5 : Int} {K : Ex → Fr → Heap → Prop} {h : Heap} (H : law01_BitsWrites_L11111010_txt script0 script0n script0c w3 l4 l4n l4c i5 K h) : law01_BitsWrites_L11111010 script0 script0n script0c w3 l4 l4n l4c i5 K h := by
   unfold law01_BitsWrites_L11111010; refine Lp.of_ev (x := subA law01_BitsWrites_ann [1, 1, 1, 1, 1, 0, 1, 0, 0]) (keep := 57) ?_; exact (law01_BitsWrites_L11111010_eq script0 script0n script0c w3 l4 l4n l4c i5 K h).symm ▸ H
theorem law01_BitsWrites_at11111010_Xret (Q : Value → Heap → Prop) (t2 : Bool) (h : Heap) : (law01_BitsWrites_K1111101 Q) .ret (law01_BitsWrites_Xret t2) h = (
 Q (.bool t2) h) := by kernel_rfl
@[reducible] def law01_BitsWrites_J11111010010010101011_txt (script0 : Option Addr) (script0n : Nat) (script0c : Nat) (w3 : Option Addr) (l4 : Option Addr) (l4n : Nat) (l4c : Nat) (i5 : Int) (o6 : Addr) (want7 : Int) (K : Ex → Fr → Heap → Prop) (h : Heap) : Prop :=
 ∃ (t51 : Int), cellH h (Addr.add o6 1) = some (.int .u32 t51) ∧
 ∃ (t53 : Int), cellH h (Addr.add o6 2) = some (.int .i64 t53) ∧
 SpecH PP F_bits_Writer_Put [(.pointer w3), (.int .u32 t51), (.int .i64 t53)] h (fun v h1 => ∃ (t54 : Int), v = (.int .i64 t54) ∧
 let t56 : Bool := (t54 != want7)
 br t56 (
 K .ret (law01_BitsWrites_Xret false) h1) (
 law01_BitsWrites_J11111010010011 script0 script0n script0c w3 l4 l4n l4c i5 K h1))
theorem law01_BitsWrites_J11111010010010101011_eq (script0 : Option Addr) (script0n : Nat) (script0c : Nat) (w3 : Option Addr) (l4 : Option Addr) (l4n : Nat) (l4c : Nat) (i5 : Int) (o6 : Addr) (want7 : Int) (K : Ex → Fr → Heap → Prop) (h : Heap) : ev PP true none (sub (bodyOf Try.f4) [1, 1, 1, 1, 1, 0, 1, 0, 0, 1, 0, 0, 1, 0, 1, 0, 1, 0, 1, 1]) (subA law01_BitsWrites_ann [1, 1, 1, 1, 1, 0, 1, 0, 0, 1, 0, 0, 1, 0, 1, 0, 1, 0, 1, 1]) (mkFr 0 77 [(0, (.slice script0 script0n script0c)), (3, (.pointer w3)), (4, (.slice l4 l4n l4c)), (5, (.int .i64 i5)), (6, (.pointer (some o6))), (7, (.int .i64 want7))]) (law01_BitsWrites_K111110100100101 K) h = law01_BitsWrites_J11111010010010101011_txt script0 script0n script0c w3 l4 l4n l4c i5 o6 want7 K h := by kernel_rfl
theorem law01_BitsWrites_J11111010010010101011_of {script0 : Option Addr} {script0n : Nat} {script0c : Nat} {w3 : Option Addr} {l4 : Option Addr} {l4n : Nat} {l4c : Nat} {i5 : Int} {o6 : Addr} {want7 : Int} {K : Ex → Fr → Heap → Prop} {h : Heap} (H : law01_BitsWrites_J11111010010010101011_txt script0 script0n script0c w3 l4 l4n l4c i5 o6 want7 K h) : law01_BitsWrites_J11111010010010101011 script0 script0n script0c w3 l4 l4n l4c i5 o6 want7 K h := by
   unfold law01_BitsWrites_J11111010010010101011; refine Jn.of_ev (x := subA law01_BitsWrites_ann [1, 1, 1, 1, 1, 0, 1, 0, 0, 1, 0, 0, 1, 0, 1, 0, 1, 0, 1, 1]) ?_; exact (law01_BitsWrites_J11111010010010101011_eq script0 script0n script0c w3 l4 l4n l4c i5 o6 want7 K h).symm ▸ H
@[reducible] def law01_BitsWrites_J11111010010011_txt (script0 : Option Addr) (script0n : Nat) (script0c : Nat) (w3 : Option Addr) (l4 : Option Addr) (l4n : Nat) (l4c : Nat) (i5 : Int) (K : Ex → Fr → Heap → Prop) (h : Heap) : Prop :=
 SpecH PP F_bits_Writer_Len [(.pointer w3)] h (fun v h1 => ∃ (t65 : Int), v = (.int .i64 t65) ∧
 let t68 : Bool := (t65 != (l4n : Int))
 br t68 (
 K .ret (law01_BitsWrites_Xret false) h1) (
 let t20 : Int := IntKind.i64.wrap (i5 + 1)
 law01_BitsWrites_L11111010 script0 script0n script0c w3 l4 l4n l4c t20 K h1))
theorem law01_BitsWrites_J11111010010011_eq (script0 : Option Addr) (script0n : Nat) (script0c : Nat) (w3 : Option Addr) (l4 : Option Addr) (l4n : Nat) (l4c : Nat) (i5 : Int) (K : Ex → Fr → Heap → Prop) (h : Heap) : ev PP true none (sub (bodyOf Try.f4) [1, 1, 1, 1, 1, 0, 1, 0, 0, 1, 0, 0, 1, 1]) (subA law01_BitsWrites_ann [1, 1, 1, 1, 1, 0, 1, 0, 0, 1, 0, 0, 1, 1]) (mkFr 0 77 [(0, (.slice script0 script0n script0c)), (3, (.pointer w3)), (4, (.slice l4 l4n l4c)), (5, (.int .i64 i5))]) (law01_BitsWrites_K11111010010 K) h = law01_BitsWrites_J11111010010011_txt script0 script0n script0c w3 l4 l4n l4c i5 K h := by kernel_rfl
theorem law01_BitsWrites_J11111010010011_of {script0 : Option Addr} {script0n : Nat} {script0c : Nat} {w3 : Option Addr} {l4 : Option Addr} {l4n : Nat} {l4c : Nat} {i5 : Int} {K : Ex → Fr → Heap → Prop} {h : Heap} (H : law01_BitsWrites_J11111010010011_txt script0 script0n script0c w3 l4 l4n l4c i5 K h) : law01_BitsWrites_J11111010010011 script0 script0n script0c w3 l4 l4n l4c i5 K h := by
   unfold law01_BitsWrites_J11111010010011; refine Jn.of_ev (x := subA law01_BitsWrites_ann [1, 1, 1, 1, 1, 0, 1, 0, 0, 1, 0, 0, 1, 1]) ?_; exact (law01_BitsWrites_J11111010010011_eq script0 script0n script0c w3 l4 l4n l4c i5 K h).symm ▸ H
theorem law01_BitsWrites_at11111010_X0 (Q : Value → Heap → Prop) (w3 : Option Addr) (l4 : Option Addr) (l4n : Nat) (l4c : Nat) (h : Heap) : (law01_BitsWrites_K1111101 Q) (.exit 0) (law01_BitsWrites_X0 w3 l4 l4n l4c) h = (
 SpecH PP F_law01_awake [] h (fun v h1 => ∃ (t69 : Bool), v = (.bool t69) ∧
 br t69 (
 SpecH PP F_bits_Writer_Bytes [(.pointer w3)] h1 (fun v_1 h2 => ∃ (t72 : Option Addr) (t72n : Nat) (t72c : Nat), v_1 = (.slice t72 t72n t72c) ∧
 SpecH PP F_ref01_Bytes [(.slice l4 l4n l4c)] h2 (fun v_2 h3 => ∃ (t74 : Option Addr) (t74n : Nat) (t74c : Nat), v_2 = (.slice t74 t74n t74c) ∧
 SpecH PP F_keep_Bytes [(.slice t72 t72n t72c), (.slice t74 t74n t74c)] h3 (fun v_3 h4 => ∃ (t75 : Bool), v_3 = (.bool t75) ∧
 Q (.bool t75) h4)))) (
 Q (.bool false) h1))) := by kernel_rfl
def law01_BitsWrites_main (script0 : Option Addr) (script0n : Nat) (script0c : Nat) (Q : Value → Heap → Prop) (h : Heap) : Prop :=
 let t11 : Bool := decide ((script0n : Int) > 5000)
 br t11 (
 Q (.bool true) h) (
 SpecH PP F_bits_NewWriter [] h (fun v h1 => ∃ (t12 : Option Addr), v = (.pointer t12) ∧
 let t14 : Bool := (Option.isNone t12)
 br t14 (
 Q (.bool false) h1) (
 law01_BitsWrites_L11111010 script0 script0n script0c t12 none 0 0 0 (law01_BitsWrites_K1111101 Q) h1)))
theorem law01_BitsWrites_eq (script0 : Option Addr) (script0n : Nat) (script0c : Nat) (Q : Value → Heap → Prop) (h : Heap) : ev PP true none (bodyOf Try.f4) law01_BitsWrites_ann (initFr 77 [(.slice script0 script0n script0c)]) (bodyK PP Try.f4 Q) h = law01_BitsWrites_main script0 script0n script0c Q h := by kernel_rfl
theorem law01_BitsWrites_door {script0 : Option Addr} {script0n : Nat} {script0c : Nat} {Q : Value → Heap → Prop} {h : Heap} (H : law01_BitsWrites_main script0 script0n script0c Q h) : SpecH PP F_law01_BitsWrites [(.slice script0 script0n script0c)] h Q :=
   spec_of_ev Try.func4 rfl rfl ((law01_BitsWrites_eq script0 script0n script0c Q h).symm ▸ H)
/-! ### haversack/haversacklaw01.BitsRound: function 5 -/
def law01_BitsRound_ann : Ann := (.seq 3 (.region [(List.range 1, 3)]) (.seq 3 (.seq 131075 (.region [(List.range 3, 131075)]) (.cond (.seq 16 (.region [(List.range 1, 16)]) (.exit 16)) .leaf)) (.seq 35 (.region [(List.range 2, 35)]) (.seq 35 (.seq 1048611 (.region [(List.range 2, 1048611)]) (.cond (.seq 16 (.region [(List.range 1, 16)]) (.exit 16)) .leaf)) (.seq 35 (.seq 99 (.region [(List.range 1, 99)]) (.block (.loop 99 (.seq 99 (.seq 16777315 (.region [(List.range 4, 16777315)]) (.cond .leaf (.exit 35))) (.seq 99 (.block (.region [(List.range 12, 99)])) (.region [(List.range 3, 99)])))))) (.seq 131 (.region [(List.range 4, 131)]) (.seq 131 (.seq 8796093022339 (.region [(List.range 2, 8796093022339)]) (.cond (.seq 16 (.region [(List.range 1, 16)]) (.exit 16)) .leaf)) (.seq 128 (.seq 387 (.region [(List.range 1, 387)]) (.block (.loop 387 (.seq 387 (.seq 140737488355715 (.region [(List.range 4, 140737488355715)]) (.cond .leaf (.exit 128))) (.seq 387 (.block (.seq 387 (.seq 2305843009213694339 (.region [(List.range 12, 2305843009213694339)]) (.cond (.exit 387) .leaf)) (.seq 1923 (.region [(List.range 12, 1923)]) (.seq 899 (.seq 4835703278458516698825603 (.region [(List.range 11, 4835703278458516698825603)]) (.join (.cond (.seq 16 (.region [(List.range 1, 16)]) (.exit 16)) .leaf))) (.seq 9903520314283042199192994691 (.region [(List.range 11, 9903520314283042199192994691)]) (.join (.cond (.seq 899 (.seq 2535301200456458802993406411651 (.region [(List.range 8, 2535301200456458802993406411651)]) (.cond (.seq 16 (.region [(List.range 1, 16)]) (.exit 16)) .leaf)) (.seq 7043 (.region [(List.range 8, 7043)]) (.seq 31619 (.region [(List.range 14, 31619)]) (.seq 174224571863520493293247799005065324265859 (.region [(List.range 18, 174224571863520493293247799005065324265859)]) (.join (.cond (.seq 16 (.region [(List.range 1, 16)]) (.exit 16)) .leaf)))))) .leaf))))))) (.join (.region [(List.range 3, 387)]))))))) (.seq 16 (.region [(List.range 7, 16)]) (.exit 16))))))))))
@[irreducible] def law01_BitsRound_X0 (l0 : Option Addr) (l0n : Nat) (l0c : Nat) (cut1 : Int) (w5 : Option Addr) : Fr := (mkFr 0 144 [(0, (.slice l0 l0n l0c)), (1, (.int .i64 cut1)), (5, (.pointer w5))])
@[irreducible] def law01_BitsRound_X2 (r7 : Option Addr) : Fr := (mkFr 0 144 [(7, (.pointer r7))])
@[irreducible] def law01_BitsRound_Xret (t4 : Bool) : Fr := (mkFr 0 144 [(4, (.bool t4))])
@[irreducible] def law01_BitsRound_L1111010 (l0 : Option Addr) (l0n : Nat) (l0c : Nat) (cut1 : Int) (w5 : Option Addr) (i6 : Int) (K : Ex → Fr → Heap → Prop) (h : Heap) : Prop := Lp PP true (sub (bodyOf Try.f5) [1, 1, 1, 1, 0, 1, 0, 0]) (mkFr 0 144 [(0, (.slice l0 l0n l0c)), (1, (.int .i64 cut1)), (5, (.pointer w5)), (6, (.int .i64 i6))]) K h
@[irreducible] def law01_BitsRound_B1111010 (K : Ex → Fr → Heap → Prop) : Ex → Fr → Heap → Prop := seqK (fun fr h => Lp PP true (sub (bodyOf Try.f5) [1, 1, 1, 1, 0, 1, 0, 0]) (fr.mask 99) K h) K
@[irreducible] def law01_BitsRound_K1111 (Q : Value → Heap → Prop) : Ex → Fr → Heap → Prop := seqK (fun fr h => ev PP true none (sub (bodyOf Try.f5) [1, 1, 1, 1, 1]) (subA law01_BitsRound_ann [1, 1, 1, 1, 1]) (fr.mask 35) (bodyK PP Try.f5 Q) h) (bodyK PP Try.f5 Q)
@[irreducible] def law01_BitsRound_K111101 (Q : Value → Heap → Prop) : Ex → Fr → Heap → Prop := blockK 0 (law01_BitsRound_K1111 Q)
@[irreducible] def law01_BitsRound_K1111111 (Q : Value → Heap → Prop) : Ex → Fr → Heap → Prop := seqK (fun fr h => ev PP true none (sub (bodyOf Try.f5) [1, 1, 1, 1, 1, 1, 1, 1]) (subA law01_BitsRound_ann [1, 1, 1, 1, 1, 1, 1, 1]) (fr.mask 128) (bodyK PP Try.f5 Q) h) (bodyK PP Try.f5 Q)
@[irreducible] def law01_BitsRound_K111111101 (Q : Value → Heap → Prop) : Ex → Fr → Heap → Prop := blockK 2 (law01_BitsRound_K1111111 Q)
@[irreducible] def law01_BitsRound_L1111111010 (l0 : Option Addr) (l0n : Nat) (l0c : Nat) (cut1 : Int) (r7 : Option Addr) (i8 : Int) (K : Ex → Fr → Heap → Prop) (h : Heap) : Prop := Lp PP true (sub (bodyOf Try.f5) [1, 1, 1, 1, 1, 1, 1, 0, 1, 0, 0]) (mkFr 0 144 [(0, (.slice l0 l0n l0c)), (1, (.int .i64 cut1)), (7, (.pointer r7)), (8, (.int .i64 i8))]) K h
@[irreducible] def law01_BitsRound_B1111111010 (K : Ex → Fr → Heap → Prop) : Ex → Fr → Heap → Prop := seqK (fun fr h => Lp PP true (sub (bodyOf Try.f5) [1, 1, 1, 1, 1, 1, 1, 0, 1, 0, 0]) (fr.mask 387) K h) K
@[irreducible] def law01_BitsRound_J1111111010011 (l0 : Option Addr) (l0n : Nat) (l0c : Nat) (cut1 : Int) (r7 : Option Addr) (i8 : Int) (K : Ex → Fr → Heap → Prop) (h : Heap) : Prop := Jn PP true (sub (bodyOf Try.f5) [1, 1, 1, 1, 1, 1, 1, 0, 1, 0, 0, 1, 1]) (mkFr 0 144 [(0, (.slice l0 l0n l0c)), (1, (.int .i64 cut1)), (7, (.pointer r7)), (8, (.int .i64 i8))]) (law01_BitsRound_B1111111010 K) h
@[irreducible] def law01_BitsRound_K111111101001 (K : Ex → Fr → Heap → Prop) : Ex → Fr → Heap → Prop := seqK (fun fr h => Jn PP true (sub (bodyOf Try.f5) [1, 1, 1, 1, 1, 1, 1, 0, 1, 0, 0, 1, 1]) (fr.mask 387) (law01_BitsRound_B1111111010 K) h) (law01_BitsRound_B1111111010 K)
@[irreducible] def law01_BitsRound_K1111111010010 (K : Ex → Fr → Heap → Prop) : Ex → Fr → Heap → Prop := blockK 3 (law01_BitsRound_K111111101001 K)
@[irreducible] def law01_BitsRound_K1111111010010011 (K : Ex → Fr → Heap → Prop) : Ex → Fr → Heap → Prop := seqK (fun fr h => ev PP true none (sub (bodyOf Try.f5) [1, 1, 1, 1, 1, 1, 1, 0, 1, 0, 0, 1, 0, 0, 1, 1, 1]) (subA law01_BitsRound_ann [1, 1, 1, 1, 1, 1, 1, 0, 1, 0, 0, 1, 0, 0, 1, 1, 1]) (fr.mask 899) (law01_BitsRound_K1111111010010 K) h) (law01_BitsRound_K1111111010010 K)
@[irreducible] def law01_BitsRound_J111111101001001101 (l0 : Option Addr) (l0n : Nat) (l0c : Nat) (cut1 : Int) (r7 : Option Addr) (i8 : Int) (v9 : Int) (t82 : Bool) (K : Ex → Fr → Heap → Prop) (h : Heap) : Prop := Jn PP true (sub (bodyOf Try.f5) [1, 1, 1, 1, 1, 1, 1, 0, 1, 0, 0, 1, 0, 0, 1, 1, 0, 1]) (mkFr 0 144 [(0, (.slice l0 l0n l0c)), (1, (.int .i64 cut1)), (7, (.pointer r7)), (8, (.int .i64 i8)), (9, (.int .u32 v9)), (82, (.bool t82))]) (law01_BitsRound_K1111111010010011 K) h
@[irreducible] def law01_BitsRound_J111111101001001111 (l0 : Option Addr) (l0n : Nat) (l0c : Nat) (cut1 : Int) (r7 : Option Addr) (i8 : Int) (v9 : Int) (t93 : Bool) (K : Ex → Fr → Heap → Prop) (h : Heap) : Prop := Jn PP true (sub (bodyOf Try.f5) [1, 1, 1, 1, 1, 1, 1, 0, 1, 0, 0, 1, 0, 0, 1, 1, 1, 1]) (mkFr 0 144 [(0, (.slice l0 l0n l0c)), (1, (.int .i64 cut1)), (7, (.pointer r7)), (8, (.int .i64 i8)), (9, (.int .u32 v9)), (93, (.bool t93))]) (law01_BitsRound_K1111111010010 K) h
@[irreducible] def law01_BitsRound_J11111110100100111101111 (l0 : Option Addr) (l0n : Nat) (l0c : Nat) (cut1 : Int) (r7 : Option Addr) (i8 : Int) (t137 : Bool) (K : Ex → Fr → Heap → Prop) (h : Heap) : Prop := Jn PP true (sub (bodyOf Try.f5) [1, 1, 1, 1, 1, 1, 1, 0, 1, 0, 0, 1, 0, 0, 1, 1, 1, 1, 0, 1, 1, 1, 1]) (mkFr 0 144 [(0, (.slice l0 l0n l0c)), (1, (.int .i64 cut1)), (7, (.pointer r7)), (8, (.int .i64 i8)), (137, (.bool t137))]) (law01_BitsRound_K1111111010010 K) h
@[reducible] def law01_BitsRound_L1111010_txt (l0 : Option Addr) (l0n : Nat) (l0c : Nat) (cut1 : Int) (w5 : Option Addr) (i6 : Int) (K : Ex → Fr → Heap → Prop) (h : Heap) : Prop :=
 let t24 : Bool := decide (i6 < (l0n : Int))
 br t24 (
 hwp PP (Instr.indexAt T_sl_haversacklaw01_WOp (.slice l0 l0n l0c) (.int .i64 i6)) (fun v h1 => ∃ (t30 : Addr), v = (.pointer (some t30)) ∧
 ∃ (t32 : Int), cellH h1 (Addr.add t30 1) = some (.int .u32 t32) ∧
 hwp PP (Instr.indexAt T_sl_haversacklaw01_WOp (.slice l0 l0n l0c) (.int .i64 i6)) (fun v_1 h2 => ∃ (t35 : Addr), v_1 = (.pointer (some t35)) ∧
 ∃ (t37 : Int), cellH h2 (Addr.add t35 2) = some (.int .i64 t37) ∧
 SpecH PP F_bits_Writer_Put [(.pointer w5), (.int .u32 t32), (.int .i64 t37)] h2 (fun v_2 h3 => ∃ (t38 : Int), v_2 = (.int .i64 t38) ∧
 let t26 : Int := IntKind.i64.wrap (i6 + 1)
 law01_BitsRound_L1111010 l0 l0n l0c cut1 w5 t26 K h3)) h1) h) (
 K (.exit 0) (law01_BitsRound_X0 l0 l0n l0c cut1 w5) h)
theorem law01_BitsRound_L1111010_eq (l0 : Option Addr) (l0n : Nat) (l0c : Nat) (cut1 : Int) (w5 : Option Addr) (i6 : Int) (K : Ex → Fr → Heap → Prop) (h : Heap) : ev PP true none (sub (bodyOf Try.f5) [1, 1, 1, 1, 0, 1, 0, 0]) (subA law01_BitsRound_ann [1, 1, 1, 1, 0, 1, 0, 0]) (mkFr 0 144 [(0, (.slice l0 l0n l0c)), (1, (.int .i64 cut1)), (5, (.pointer w5)), (6, (.int .i64 i6))]) (seqK (fun fr h => Lp PP true (sub (bodyOf Try.f5) [1, 1, 1, 1, 0, 1, 0, 0]) (fr.mask 99) K h) K) h = law01_BitsRound_L1111010_txt l0 l0n l0c cut1 w5 i6 K h := by kernel_rfl
theorem law01_BitsRound_L1111010_of {l0 : Option Addr} {l0n : Nat} {l0c : Nat} {cut1 : Int} {w5 : Option Addr} {i6 : Int} {K : Ex → Fr → Heap → Prop} {h : Heap} (H : law01_BitsRound_L1111010_txt l0 l0n l0c cut1 w5 i6 K h) : law01_BitsRound_L1111010 l0 l0n l0c cut1 w5 i6 K h := by
   unfold law01_BitsRound_L1111010; refine Lp.of_ev (x := subA law01_BitsRound_ann [1, 1, 1, 1, 0, 1, 0, 0]) (keep := 99) ?_; exact (law01_BitsRound_L1111010_eq l0 l0n l0c cut1 w5 i6 K h).symm ▸ H
theorem law01_BitsRound_at1111010_X0 (Q : Value → Heap → Prop) (l0 : Option Addr) (l0n : Nat) (l0c : Nat) (cut1 : Int) (w5 : Option Addr) (h : Heap) : (law01_BitsRound_K111101 Q) (.exit 0) (law01_BitsRound_X0 l0 l0n l0c cut1 w5) h = (
 SpecH PP F_bits_Writer_Bytes [(.pointer w5)] h (fun v h1 => ∃ (t40 : Option Addr) (t40n : Nat) (t40c : Nat), v = (.slice t40 t40n t40c) ∧
 SpecH PP F_bits_NewReader [(.slice t40 t40n t40c)] h1 (fun v_1 h2 => ∃ (t41 : Option Addr), v_1 = (.pointer t41) ∧
 let t43 : Bool := (Option.isNone t41)
 br t43 (
 Q (.bool false) h2) (
 law01_BitsRound_L1111111010 l0 l0n l0c cut1 t41 0 (law01_BitsRound_K111111101 Q) h2)))) := by kernel_rfl
@[reducible] def law01_BitsRound_L1111111010_txt (l0 : Option Addr) (l0n : Nat) (l0c : Nat) (cut1 : Int) (r7 : Option Addr) (i8 : Int) (K : Ex → Fr → Heap → Prop) (h : Heap) : Prop :=
 let t47 : Bool := decide (i8 < (l0n : Int))
 br t47 (
 hwp PP (Instr.indexAt T_sl_haversacklaw01_WOp (.slice l0 l0n l0c) (.int .i64 i8)) (fun v h1 => ∃ (t52 : Addr), v = (.pointer (some t52)) ∧
 ∃ (t54 : Int), cellH h1 (Addr.add t52 1) = some (.int .u32 t54) ∧
 hwp PP (Instr.indexAt T_sl_haversacklaw01_WOp (.slice l0 l0n l0c) (.int .i64 i8)) (fun v_1 h2 => ∃ (t57 : Addr), v_1 = (.pointer (some t57)) ∧
 ∃ (t59 : Int), cellH h2 (Addr.add t57 2) = some (.int .i64 t59) ∧
 SpecH PP F_ref01_May [(.int .u32 t54), (.int .i64 t59)] h2 (fun v_2 h3 => ∃ (t60 : Bool), v_2 = (.bool t60) ∧
 let t61 : Bool := (!t60)
 br t61 (
 law01_BitsRound_J1111111010011 l0 l0n l0c cut1 r7 i8 K h3) (
 hwp PP (Instr.indexAt T_sl_haversacklaw01_WOp (.slice l0 l0n l0c) (.int .i64 i8)) (fun v_3 h4 => ∃ (t66 : Addr), v_3 = (.pointer (some t66)) ∧
 ∃ (t68 : Int), cellH h4 (Addr.add t66 2) = some (.int .i64 t68) ∧
 SpecH PP F_bits_Reader_Take [(.pointer r7), (.int .i64 t68)] h4 (fun v_4 h5 => ∃ (t69 : Int) (t69_1 : Int), v_4 = (.tuple #[(.int .u32 t69), (.int .i64 t69_1)]) ∧
 let t73 : Bool := (t69_1 != 0)
 br t73 (
 law01_BitsRound_J111111101001001101 l0 l0n l0c cut1 r7 i8 t69 true K h5) (
 hwp PP (Instr.indexAt T_sl_haversacklaw01_WOp (.slice l0 l0n l0c) (.int .i64 i8)) (fun v_5 h6 => ∃ (t78 : Addr), v_5 = (.pointer (some t78)) ∧
 ∃ (t80 : Int), cellH h6 (Addr.add t78 1) = some (.int .u32 t80) ∧
 let t81 : Bool := (t69 != t80)
 law01_BitsRound_J111111101001001101 l0 l0n l0c cut1 r7 i8 t69 t81 K h6) h5))) h3))) h1) h) (
 K (.exit 2) (law01_BitsRound_X2 r7) h)
theorem law01_BitsRound_L1111111010_eq (l0 : Option Addr) (l0n : Nat) (l0c : Nat) (cut1 : Int) (r7 : Option Addr) (i8 : Int) (K : Ex → Fr → Heap → Prop) (h : Heap) : ev PP true none (sub (bodyOf Try.f5) [1, 1, 1, 1, 1, 1, 1, 0, 1, 0, 0]) (subA law01_BitsRound_ann [1, 1, 1, 1, 1, 1, 1, 0, 1, 0, 0]) (mkFr 0 144 [(0, (.slice l0 l0n l0c)), (1, (.int .i64 cut1)), (7, (.pointer r7)), (8, (.int .i64 i8))]) (seqK (fun fr h => Lp PP true (sub (bodyOf Try.f5) [1, 1, 1, 1, 1, 1, 1, 0, 1, 0, 0]) (fr.mask 387) K h) K) h = law01_BitsRound_L1111111010_txt l0 l0n l0c cut1 r7 i8 K h := by kernel_rfl
theorem law01_BitsRound_L1111111010_of {l0 : Option Addr} {l0n : Nat} {l0c : Nat} {cut1 : Int} {r7 : Option Addr} {i8 : Int} {K : Ex → Fr → Heap → Prop} {h : Heap} (H : law01_BitsRound_L1111111010_txt l0 l0n l0c cut1 r7 i8 K h) : law01_BitsRound_L1111111010 l0 l0n l0c cut1 r7 i8 K h := by
   unfold law01_BitsRound_L1111111010; refine Lp.of_ev (x := subA law01_BitsRound_ann [1, 1, 1, 1, 1, 1, 1, 0, 1, 0, 0]) (keep := 387) ?_; exact (law01_BitsRound_L1111111010_eq l0 l0n l0c cut1 r7 i8 K h).symm ▸ H
theorem law01_BitsRound_at1111111010_X2 (Q : Value → Heap → Prop) (r7 : Option Addr) (h : Heap) : (law01_BitsRound_K111111101 Q) (.exit 2) (law01_BitsRound_X2 r7) h = (
 SpecH PP F_law01_awake [] h (fun v h1 => ∃ (t138 : Bool), v = (.bool t138) ∧
 br t138 (
 SpecH PP F_bits_Reader_Left [(.pointer r7)] h1 (fun v_1 h2 => ∃ (t141 : Int), v_1 = (.int .i64 t141) ∧
 let t142 : Bool := decide (t141 < 8)
 Q (.bool t142) h2)) (
 Q (.bool false) h1))) := by kernel_rfl
@[reducible] def law01_BitsRound_J1111111010011_txt (l0 : Option Addr) (l0n : Nat) (l0c : Nat) (cut1 : Int) (r7 : Option Addr) (i8 : Int) (K : Ex → Fr → Heap → Prop) (h : Heap) : Prop :=
 let t49 : Int := IntKind.i64.wrap (i8 + 1)
 law01_BitsRound_L1111111010 l0 l0n l0c cut1 r7 t49 K h
theorem law01_BitsRound_J1111111010011_eq (l0 : Option Addr) (l0n : Nat) (l0c : Nat) (cut1 : Int) (r7 : Option Addr) (i8 : Int) (K : Ex → Fr → Heap → Prop) (h : Heap) : ev PP true none (sub (bodyOf Try.f5) [1, 1, 1, 1, 1, 1, 1, 0, 1, 0, 0, 1, 1]) (subA law01_BitsRound_ann [1, 1, 1, 1, 1, 1, 1, 0, 1, 0, 0, 1, 1]) (mkFr 0 144 [(0, (.slice l0 l0n l0c)), (1, (.int .i64 cut1)), (7, (.pointer r7)), (8, (.int .i64 i8))]) (law01_BitsRound_B1111111010 K) h = law01_BitsRound_J1111111010011_txt l0 l0n l0c cut1 r7 i8 K h := by kernel_rfl
theorem law01_BitsRound_J1111111010011_of {l0 : Option Addr} {l0n : Nat} {l0c : Nat} {cut1 : Int} {r7 : Option Addr} {i8 : Int} {K : Ex → Fr → Heap → Prop} {h : Heap} (H : law01_BitsRound_J1111111010011_txt l0 l0n l0c cut1 r7 i8 K h) : law01_BitsRound_J1111111010011 l0 l0n l0c cut1 r7 i8 K h := by
   unfold law01_BitsRound_J1111111010011; refine Jn.of_ev (x := subA law01_BitsRound_ann [1, 1, 1, 1, 1, 1, 1, 0, 1, 0, 0, 1, 1]) ?_; exact (law01_BitsRound_J1111111010011_eq l0 l0n l0c cut1 r7 i8 K h).symm ▸ H
@[reducible] def law01_BitsRound_J111111101001001101_txt (l0 : Option Addr) (l0n : Nat) (l0c : Nat) (cut1 : Int) (r7 : Option Addr) (i8 : Int) (v9 : Int) (t82 : Bool) (K : Ex → Fr → Heap → Prop) (h : Heap) : Prop :=
 br t82 (
 K .ret (law01_BitsRound_Xret false) h) (
 let t84 : Bool := decide (cut1 ≥ 0)
 br t84 (
 hwp PP (Instr.indexAt T_sl_haversacklaw01_WOp (.slice l0 l0n l0c) (.int .i64 i8)) (fun v h1 => ∃ (t89 : Addr), v = (.pointer (some t89)) ∧
 ∃ (t91 : Int), cellH h1 (Addr.add t89 2) = some (.int .i64 t91) ∧
 let t92 : Bool := decide (cut1 ≤ t91)
 law01_BitsRound_J111111101001001111 l0 l0n l0c cut1 r7 i8 v9 t92 K h1) h) (
 law01_BitsRound_J111111101001001111 l0 l0n l0c cut1 r7 i8 v9 false K h))
theorem law01_BitsRound_J111111101001001101_eq (l0 : Option Addr) (l0n : Nat) (l0c : Nat) (cut1 : Int) (r7 : Option Addr) (i8 : Int) (v9 : Int) (t82 : Bool) (K : Ex → Fr → Heap → Prop) (h : Heap) : ev PP true none (sub (bodyOf Try.f5) [1, 1, 1, 1, 1, 1, 1, 0, 1, 0, 0, 1, 0, 0, 1, 1, 0, 1]) (subA law01_BitsRound_ann [1, 1, 1, 1, 1, 1, 1, 0, 1, 0, 0, 1, 0, 0, 1, 1, 0, 1]) (mkFr 0 144 [(0, (.slice l0 l0n l0c)), (1, (.int .i64 cut1)), (7, (.pointer r7)), (8, (.int .i64 i8)), (9, (.int .u32 v9)), (82, (.bool t82))]) (law01_BitsRound_K1111111010010011 K) h = law01_BitsRound_J111111101001001101_txt l0 l0n l0c cut1 r7 i8 v9 t82 K h := by kernel_rfl
theorem law01_BitsRound_J111111101001001101_of {l0 : Option Addr} {l0n : Nat} {l0c : Nat} {cut1 : Int} {r7 : Option Addr} {i8 : Int} {v9 : Int} {t82 : Bool} {K : Ex → Fr → Heap → Prop} {h : Heap} (H : law01_BitsRound_J111111101001001101_txt l0 l0n l0c cut1 r7 i8 v9 t82 K h) : law01_BitsRound_J111111101001001101 l0 l0n l0c cut1 r7 i8 v9 t82 K h := by
   unfold law01_BitsRound_J111111101001001101; refine Jn.of_ev (x := subA law01_BitsRound_ann [1, 1, 1, 1, 1, 1, 1, 0, 1, 0, 0, 1, 0, 0, 1, 1, 0, 1]) ?_; exact (law01_BitsRound_J111111101001001101_eq l0 l0n l0c cut1 r7 i8 v9 t82 K h).symm ▸ H
theorem law01_BitsRound_at1111111010_Xret (Q : Value → Heap → Prop) (t4 : Bool) (h : Heap) : (law01_BitsRound_K111111101 Q) .ret (law01_BitsRound_Xret t4) h = (
 Q (.bool t4) h) := by kernel_rfl
@[reducible] def law01_BitsRound_J111111101001001111_txt (l0 : Option Addr) (l0n : Nat) (l0c : Nat) (cut1 : Int) (r7 : Option Addr) (i8 : Int) (v9 : Int) (t93 : Bool) (K : Ex → Fr → Heap → Prop) (h : Heap) : Prop :=
 br t93 (
 hwp PP (Instr.indexAt T_sl_haversacklaw01_WOp (.slice l0 l0n l0c) (.int .i64 i8)) (fun v h1 => ∃ (t97 : Addr), v = (.pointer (some t97)) ∧
 ∃ (t99 : Int), cellH h1 (Addr.add t97 2) = some (.int .i64 t99) ∧
 SpecH PP F_bits_Reader_Back [(.pointer r7), (.int .i64 t99)] h1 (fun v_1 h2 => ∃ (t100 : Int), v_1 = (.int .i64 t100) ∧
 let t101 : Bool := (t100 != 0)
 br t101 (
 K .ret (law01_BitsRound_Xret false) h2) (
 SpecH PP F_bits_Reader_Take [(.pointer r7), (.int .i64 cut1)] h2 (fun v_2 h3 => ∃ (t105 : Int) (t105_1 : Int), v_2 = (.tuple #[(.int .u32 t105), (.int .i64 t105_1)]) ∧
 hwp PP (Instr.indexAt T_sl_haversacklaw01_WOp (.slice l0 l0n l0c) (.int .i64 i8)) (fun v_3 h4 => ∃ (t112 : Addr), v_3 = (.pointer (some t112)) ∧
 ∃ (t114 : Int), cellH h4 (Addr.add t112 2) = some (.int .i64 t114) ∧
 let t116 : Int := IntKind.i64.wrap (t114 - cut1)
 SpecH PP F_bits_Reader_Take [(.pointer r7), (.int .i64 t116)] h4 (fun v_4 h5 => ∃ (t117 : Int) (t117_1 : Int), v_4 = (.tuple #[(.int .u32 t117), (.int .i64 t117_1)]) ∧
 let t121 : Bool := (t105_1 != 0)
 br t121 (
 law01_BitsRound_J11111110100100111101111 l0 l0n l0c cut1 r7 i8 true K h5) (
 let t124 : Bool := (t117_1 != 0)
 br t124 (
 law01_BitsRound_J11111110100100111101111 l0 l0n l0c cut1 r7 i8 true K h5) (
 let t128 : Int := IntKind.u64.wrap t105
 let t130 : Int := IntKind.u64.wrap t117
 br (decide (0 ≤ cut1)) (
 let t132 : Int := sShl .u64 t130 cut1
 let t133 : Int := IntKind.u64.wrap (t128 + t132)
 let t135 : Int := IntKind.u64.wrap v9
 let t136 : Bool := (t133 != t135)
 law01_BitsRound_J11111110100100111101111 l0 l0n l0c cut1 r7 i8 t136 K h5) False)))) h3)))) h) (
 law01_BitsRound_J1111111010011 l0 l0n l0c cut1 r7 i8 K h)
theorem law01_BitsRound_J111111101001001111_eq (l0 : Option Addr) (l0n : Nat) (l0c : Nat) (cut1 : Int) (r7 : Option Addr) (i8 : Int) (v9 : Int) (t93 : Bool) (K : Ex → Fr → Heap → Prop) (h : Heap) : ev PP true none (sub (bodyOf Try.f5) [1, 1, 1, 1, 1, 1, 1, 0, 1, 0, 0, 1, 0, 0, 1, 1, 1, 1]) (subA law01_BitsRound_ann [1, 1, 1, 1, 1, 1, 1, 0, 1, 0, 0, 1, 0, 0, 1, 1, 1, 1]) (mkFr 0 144 [(0, (.slice l0 l0n l0c)), (1, (.int .i64 cut1)), (7, (.pointer r7)), (8, (.int .i64 i8)), (9, (.int .u32 v9)), (93, (.bool t93))]) (law01_BitsRound_K1111111010010 K) h = law01_BitsRound_J111111101001001111_txt l0 l0n l0c cut1 r7 i8 v9 t93 K h := by kernel_rfl
theorem law01_BitsRound_J111111101001001111_of {l0 : Option Addr} {l0n : Nat} {l0c : Nat} {cut1 : Int} {r7 : Option Addr} {i8 : Int} {v9 : Int} {t93 : Bool} {K : Ex → Fr → Heap → Prop} {h : Heap} (H : law01_BitsRound_J111111101001001111_txt l0 l0n l0c cut1 r7 i8 v9 t93 K h) : law01_BitsRound_J111111101001001111 l0 l0n l0c cut1 r7 i8 v9 t93 K h := by
   unfold law01_BitsRound_J111111101001001111; refine Jn.of_ev (x := subA law01_BitsRound_ann [1, 1, 1, 1, 1, 1, 1, 0, 1, 0, 0, 1, 0, 0, 1, 1, 1, 1]) ?_; exact (law01_BitsRound_J111111101001001111_eq l0 l0n l0c cut1 r7 i8 v9 t93 K h).symm ▸ H
@[reducible] def law01_BitsRound_J11111110100100111101111_txt (l0 : Option Addr) (l0n : Nat) (l0c : Nat) (cut1 : Int) (r7 : Option Addr) (i8 : Int) (t137 : Bool) (K : Ex → Fr → Heap → Prop) (h : Heap) : Prop :=
 br t137 (
 K .ret (law01_BitsRound_Xret false) h) (
 law01_BitsRound_J1111111010011 l0 l0n l0c cut1 r7 i8 K h)
theorem law01_BitsRound_J11111110100100111101111_eq (l0 : Option Addr) (l0n : Nat) (l0c : Nat) (cut1 : Int) (r7 : Option Addr) (i8 : Int) (t137 : Bool) (K : Ex → Fr → Heap → Prop) (h : Heap) : ev PP true none (sub (bodyOf Try.f5) [1, 1, 1, 1, 1, 1, 1, 0, 1, 0, 0, 1, 0, 0, 1, 1, 1, 1, 0, 1, 1, 1, 1]) (subA law01_BitsRound_ann [1, 1, 1, 1, 1, 1, 1, 0, 1, 0, 0, 1, 0, 0, 1, 1, 1, 1, 0, 1, 1, 1, 1]) (mkFr 0 144 [(0, (.slice l0 l0n l0c)), (1, (.int .i64 cut1)), (7, (.pointer r7)), (8, (.int .i64 i8)), (137, (.bool t137))]) (law01_BitsRound_K1111111010010 K) h = law01_BitsRound_J11111110100100111101111_txt l0 l0n l0c cut1 r7 i8 t137 K h := by kernel_rfl
theorem law01_BitsRound_J11111110100100111101111_of {l0 : Option Addr} {l0n : Nat} {l0c : Nat} {cut1 : Int} {r7 : Option Addr} {i8 : Int} {t137 : Bool} {K : Ex → Fr → Heap → Prop} {h : Heap} (H : law01_BitsRound_J11111110100100111101111_txt l0 l0n l0c cut1 r7 i8 t137 K h) : law01_BitsRound_J11111110100100111101111 l0 l0n l0c cut1 r7 i8 t137 K h := by
   unfold law01_BitsRound_J11111110100100111101111; refine Jn.of_ev (x := subA law01_BitsRound_ann [1, 1, 1, 1, 1, 1, 1, 0, 1, 0, 0, 1, 0, 0, 1, 1, 1, 1, 0, 1, 1, 1, 1]) ?_; exact (law01_BitsRound_J11111110100100111101111_eq l0 l0n l0c cut1 r7 i8 t137 K h).symm ▸ H
def law01_BitsRound_main (l0 : Option Addr) (l0n : Nat) (l0c : Nat) (cut1 : Int) (Q : Value → Heap → Prop) (h : Heap) : Prop :=
 let t17 : Bool := decide ((l0n : Int) > 5000)
 br t17 (
 Q (.bool true) h) (
 SpecH PP F_bits_NewWriter [] h (fun v h1 => ∃ (t18 : Option Addr), v = (.pointer t18) ∧
 let t20 : Bool := (Option.isNone t18)
 br t20 (
 Q (.bool false) h1) (
 law01_BitsRound_L1111010 l0 l0n l0c cut1 t18 0 (law01_BitsRound_K111101 Q) h1)))
theorem law01_BitsRound_eq (l0 : Option Addr) (l0n : Nat) (l0c : Nat) (cut1 : Int) (Q : Value → Heap → Prop) (h : Heap) : ev PP true none (bodyOf Try.f5) law01_BitsRound_ann (initFr 144 [(.slice l0 l0n l0c), (.int .i64 cut1)]) (bodyK PP Try.f5 Q) h = law01_BitsRound_main l0 l0n l0c cut1 Q h := by kernel_rfl
theorem law01_BitsRound_door {l0 : Option Addr} {l0n : Nat} {l0c : Nat} {cut1 : Int} {Q : Value → Heap → Prop} {h : Heap} (H : law01_BitsRound_main l0 l0n l0c cut1 Q h) : SpecH PP F_law01_BitsRound [(.slice l0 l0n l0c), (.int .i64 cut1)] h Q :=
   spec_of_ev Try.func5 rfl rfl ((law01_BitsRound_eq l0 l0n l0c cut1 Q h).symm ▸ H)
/-! ### haversack/haversacklaw01.BitsNil: function 6 -/
def law01_BitsNil_ann : Ann := (.seq 3 (.region [(List.range 1, 3)]) (.seq 35 (.region [(List.range 1, 35)]) (.seq 99 (.region [(List.range 1, 99)]) (.seq 483 (.region [(List.range 8, 483)]) (.seq 16 (.region [(List.range 59, 16)]) (.exit 16))))))
def law01_BitsNil_main (v0 : Int) (n1 : Int) (Q : Value → Heap → Prop) (h : Heap) : Prop :=
 SpecH PP F_bits_Reader_Take [(.pointer none), (.int .i64 n1)] h (fun v h1 => ∃ (t12 : Int) (t12_1 : Int), v = (.tuple #[(.int .u32 t12), (.int .i64 t12_1)]) ∧
 SpecH PP F_law01_awake [] h1 (fun v_1 h2 => ∃ (t15 : Bool), v_1 = (.bool t15) ∧
 br t15 (
 SpecH PP F_bits_Writer_Put [(.pointer none), (.int .u32 v0), (.int .i64 n1)] h2 (fun v_2 h3 => ∃ (t20 : Int), v_2 = (.int .i64 t20) ∧
 let t21 : Bool := (t20 == 3)
 br t21 (
 SpecH PP F_bits_Writer_Align [(.pointer none)] h3 (fun v_3 h4 => ∃ (t25 : Int), v_3 = (.int .i64 t25) ∧
 let t26 : Bool := (t25 == 3)
 br t26 (
 SpecH PP F_bits_Writer_Len [(.pointer none)] h4 (fun v_4 h5 => ∃ (t30 : Int), v_4 = (.int .i64 t30) ∧
 let t31 : Bool := (t30 == 0)
 br t31 (
 SpecH PP F_bits_Writer_Bytes [(.pointer none)] h5 (fun v_5 h6 => ∃ (t35 : Option Addr) (t35n : Nat) (t35c : Nat), v_5 = (.slice t35 t35n t35c) ∧
 let t37 : Bool := ((t35n : Int) == 0)
 br t37 (
 let t41 : Bool := (t12 == 0)
 br t41 (
 let t45 : Bool := (t12_1 == 3)
 br t45 (
 SpecH PP F_bits_Reader_More [(.pointer none), (.slice none 0 0)] h6 (fun v_6 h7 => ∃ (t49 : Int), v_6 = (.int .i64 t49) ∧
 let t50 : Bool := (t49 == 3)
 br t50 (
 SpecH PP F_bits_Reader_Align [(.pointer none)] h7 (fun v_7 h8 => ∃ (t54 : Int), v_7 = (.int .i64 t54) ∧
 let t55 : Bool := (t54 == 3)
 br t55 (
 SpecH PP F_bits_Reader_Back [(.pointer none), (.int .i64 n1)] h8 (fun v_8 h9 => ∃ (t60 : Int), v_8 = (.int .i64 t60) ∧
 let t61 : Bool := (t60 == 3)
 br t61 (
 SpecH PP F_bits_Reader_Left [(.pointer none)] h9 (fun v_9 h10 => ∃ (t65 : Int), v_9 = (.int .i64 t65) ∧
 let t66 : Bool := (t65 == 0)
 br t66 (
 SpecH PP F_bits_Reader_Gone [(.pointer none)] h10 (fun v_10 h11 => ∃ (t70 : Int), v_10 = (.int .i64 t70) ∧
 let t71 : Bool := (t70 == 0)
 Q (.bool t71) h11)) (
 Q (.bool false) h10))) (
 Q (.bool false) h9))) (
 Q (.bool false) h8))) (
 Q (.bool false) h7))) (
 Q (.bool false) h6)) (
 Q (.bool false) h6)) (
 Q (.bool false) h6))) (
 Q (.bool false) h5))) (
 Q (.bool false) h4))) (
 Q (.bool false) h3))) (
 Q (.bool false) h2)))
theorem law01_BitsNil_eq (v0 : Int) (n1 : Int) (Q : Value → Heap → Prop) (h : Heap) : ev PP true none (bodyOf Try.f6) law01_BitsNil_ann (initFr 73 [(.int .u32 v0), (.int .i64 n1)]) (bodyK PP Try.f6 Q) h = law01_BitsNil_main v0 n1 Q h := by kernel_rfl
theorem law01_BitsNil_door {v0 : Int} {n1 : Int} {Q : Value → Heap → Prop} {h : Heap} (H : law01_BitsNil_main v0 n1 Q h) : SpecH PP F_law01_BitsNil [(.int .u32 v0), (.int .i64 n1)] h Q :=
   spec_of_ev Try.func6 rfl rfl ((law01_BitsNil_eq v0 n1 Q h).symm ▸ H)
/-! ### haversack/bits.NewWriter: function 7 -/
def bits_NewWriter_ann : Ann := (.seq 0 (.region [(List.range 1, 0)]) (.seq 1 (.region [(List.range 3, 1)]) (.exit 1)))
def bits_NewWriter_main  (Q : Value → Heap → Prop) (h : Heap) : Prop :=
 let t2 : Addr := ⟨Array.size h, 0, none⟩
 let h1 : Heap := Array.push h (.cells #[(.slice none 0 0), (.int .i64 0)] T_bits_Writer (0, 0))
 Q (.pointer (some t2)) h1
theorem bits_NewWriter_eq  (Q : Value → Heap → Prop) (h : Heap) : ev PP true none (bodyOf Try.f7) bits_NewWriter_ann (initFr 3 []) (bodyK PP Try.f7 Q) h = bits_NewWriter_main  Q h := by kernel_rfl
theorem bits_NewWriter_door  {Q : Value → Heap → Prop} {h : Heap} (H : bits_NewWriter_main  Q h) : SpecH PP F_bits_NewWriter [] h Q :=
   spec_of_ev Try.func7 rfl rfl ((bits_NewWriter_eq  Q h).symm ▸ H)
/-! ### haversack/bits.NewReader: function 8 -/
def bits_NewReader_ann : Ann := (.seq 1 (.region [(List.range 1, 1)]) (.seq 9 (.region [(List.range 3, 9)]) (.seq 8 (.region [(List.range 3, 8)]) (.seq 4 (.region [(List.range 2, 4)]) (.exit 4)))))
def bits_NewReader_main (b0 : Option Addr) (b0n : Nat) (b0c : Nat) (Q : Value → Heap → Prop) (h : Heap) : Prop :=
 let t5 : Addr := ⟨Array.size h, 0, none⟩
 let h1 : Heap := Array.push h (.cells #[(.slice none 0 0), (.int .i64 0)] T_bits_Reader (0, 0))
 SpecH PP F_bits_Reader_More [(.pointer (some t5)), (.slice b0 b0n b0c)] h1 (fun v h2 => ∃ (t8 : Int), v = (.int .i64 t8) ∧
 Q (.pointer (some t5)) h2)
theorem bits_NewReader_eq (b0 : Option Addr) (b0n : Nat) (b0c : Nat) (Q : Value → Heap → Prop) (h : Heap) : ev PP true none (bodyOf Try.f8) bits_NewReader_ann (initFr 10 [(.slice b0 b0n b0c)]) (bodyK PP Try.f8 Q) h = bits_NewReader_main b0 b0n b0c Q h := by kernel_rfl
theorem bits_NewReader_door {b0 : Option Addr} {b0n : Nat} {b0c : Nat} {Q : Value → Heap → Prop} {h : Heap} (H : bits_NewReader_main b0 b0n b0c Q h) : SpecH PP F_bits_NewReader [(.slice b0 b0n b0c)] h Q :=
   spec_of_ev Try.func8 rfl rfl ((bits_NewReader_eq b0 b0n b0c Q h).symm ▸ H)
/-! ### (*haversack/bits.Reader).Left: function 9 -/
def bits_Reader_Left_ann : Ann := (.seq 1 (.region [(List.range 1, 1)]) (.seq 1 (.seq 17 (.region [(List.range 2, 17)]) (.cond (.seq 4 (.region [(List.range 1, 4)]) (.exit 4)) .leaf)) (.seq 4 (.region [(List.range 12, 4)]) (.exit 4))))
def bits_Reader_Left_main (r0 : Option Addr) (Q : Value → Heap → Prop) (h : Heap) : Prop :=
 let t4 : Bool := (Option.isNone r0)
 br t4 (
 Q (.int .i64 0) h) (
 nilc r0 (fun t6 =>
 ∃ (t8 : Option Addr) (t8n : Nat) (t8c : Nat), cellH h t6 = some (.slice t8 t8n t8c) ∧
 let t10 : Int := IntKind.i64.wrap (8 * (t8n : Int))
 nilc r0 (fun t12 =>
 ∃ (t14 : Int), cellH h (Addr.add t12 1) = some (.int .i64 t14) ∧
 let t15 : Int := IntKind.i64.wrap (t10 - t14)
 Q (.int .i64 t15) h)))
theorem bits_Reader_Left_eq (r0 : Option Addr) (Q : Value → Heap → Prop) (h : Heap) : ev PP true none (bodyOf Try.f9) bits_Reader_Left_ann (initFr 16 [(.pointer r0)]) (bodyK PP Try.f9 Q) h = bits_Reader_Left_main r0 Q h := by kernel_rfl
theorem bits_Reader_Left_door {r0 : Option Addr} {Q : Value → Heap → Prop} {h : Heap} (H : bits_Reader_Left_main r0 Q h) : SpecH PP F_bits_Reader_Left [(.pointer r0)] h Q :=
   spec_of_ev Try.func9 rfl rfl ((bits_Reader_Left_eq r0 Q h).symm ▸ H)
/-! ### (*haversack/bits.Reader).Take: function 10 -/
def bits_Reader_Take_ann : Ann := (.seq 3 (.region [(List.range 2, 3)]) (.seq 3 (.block (.seq 1027 (.region [(List.range 3, 1027)]) (.cond (.seq 48 (.region [(List.range 2, 48)]) (.exit 48)) (.seq 8195 (.region [(List.range 7, 8195)]) (.join (.cond (.seq 48 (.region [(List.range 2, 48)]) (.exit 48)) (.seq 1048579 (.region [(List.range 5, 1048579)]) (.cond (.seq 48 (.region [(List.range 2, 48)]) (.exit 48)) .leaf)))))))) (.seq 67 (.region [(List.range 1, 67)]) (.seq 64 (.seq 195 (.region [(List.range 1, 195)]) (.block (.loop 195 (.seq 195 (.seq 134217923 (.region [(List.range 3, 134217923)]) (.cond .leaf (.exit 64))) (.block (.seq 451 (.region [(List.range 11, 451)]) (.seq 963 (.region [(List.range 22, 963)]) (.seq 451 (.region [(List.range 7, 451)]) (.seq 451 (.region [(List.range 4, 451)]) (.region [(List.range 9, 195)])))))))))) (.seq 48 (.region [(List.range 4, 48)]) (.exit 48))))))
@[irreducible] def bits_Reader_Take_X1 (v6 : Int) : Fr := (mkFr 0 78 [(6, (.int .u64 v6))])
@[irreducible] def bits_Reader_Take_K1 (Q : Value → Heap → Prop) : Ex → Fr → Heap → Prop := seqK (fun fr h => ev PP true none (sub (bodyOf Try.f10) [1, 1]) (subA bits_Reader_Take_ann [1, 1]) (fr.mask 3) (bodyK PP Try.f10 Q) h) (bodyK PP Try.f10 Q)
@[irreducible] def bits_Reader_Take_K10 (Q : Value → Heap → Prop) : Ex → Fr → Heap → Prop := blockK 0 (bits_Reader_Take_K1 Q)
@[irreducible] def bits_Reader_Take_J100111 (r0 : Option Addr) (n1 : Int) (t13 : Bool) (Q : Value → Heap → Prop) (h : Heap) : Prop := Jn PP true (sub (bodyOf Try.f10) [1, 0, 0, 1, 1, 1]) (mkFr 0 78 [(0, (.pointer r0)), (1, (.int .i64 n1)), (13, (.bool t13))]) (bits_Reader_Take_K10 Q) h
@[irreducible] def bits_Reader_Take_K111 (Q : Value → Heap → Prop) : Ex → Fr → Heap → Prop := seqK (fun fr h => ev PP true none (sub (bodyOf Try.f10) [1, 1, 1, 1]) (subA bits_Reader_Take_ann [1, 1, 1, 1]) (fr.mask 64) (bodyK PP Try.f10 Q) h) (bodyK PP Try.f10 Q)
@[irreducible] def bits_Reader_Take_K11101 (Q : Value → Heap → Prop) : Ex → Fr → Heap → Prop := blockK 1 (bits_Reader_Take_K111 Q)
@[irreducible] def bits_Reader_Take_L111010 (r0 : Option Addr) (n1 : Int) (v6 : Int) (have7 : Int) (K : Ex → Fr → Heap → Prop) (h : Heap) : Prop := Lp PP true (sub (bodyOf Try.f10) [1, 1, 1, 0, 1, 0, 0]) (mkFr 0 78 [(0, (.pointer r0)), (1, (.int .i64 n1)), (6, (.int .u64 v6)), (7, (.int .i64 have7))]) K h
@[irreducible] def bits_Reader_Take_B111010 (K : Ex → Fr → Heap → Prop) : Ex → Fr → Heap → Prop := seqK (fun fr h => Lp PP true (sub (bodyOf Try.f10) [1, 1, 1, 0, 1, 0, 0]) (fr.mask 195) K h) K
@[reducible] def bits_Reader_Take_J100111_txt (r0 : Option Addr) (n1 : Int) (t13 : Bool) (Q : Value → Heap → Prop) (h : Heap) : Prop :=
 br t13 (
 Q (.tuple #[(.int .u32 0), (.int .i64 1)]) h) (
 SpecH PP F_bits_Reader_Left [(.pointer r0)] h (fun v h1 => ∃ (t23 : Int), v = (.int .i64 t23) ∧
 let t24 : Bool := decide (n1 > t23)
 br t24 (
 Q (.tuple #[(.int .u32 0), (.int .i64 10)]) h1) (
 bits_Reader_Take_L111010 r0 n1 0 0 (bits_Reader_Take_K11101 Q) h1)))
theorem bits_Reader_Take_J100111_eq (r0 : Option Addr) (n1 : Int) (t13 : Bool) (Q : Value → Heap → Prop) (h : Heap) : ev PP true none (sub (bodyOf Try.f10) [1, 0, 0, 1, 1, 1]) (subA bits_Reader_Take_ann [1, 0, 0, 1, 1, 1]) (mkFr 0 78 [(0, (.pointer r0)), (1, (.int .i64 n1)), (13, (.bool t13))]) (bits_Reader_Take_K10 Q) h = bits_Reader_Take_J100111_txt r0 n1 t13 Q h := by kernel_rfl
theorem bits_Reader_Take_J100111_of {r0 : Option Addr} {n1 : Int} {t13 : Bool} {Q : Value → Heap → Prop} {h : Heap} (H : bits_Reader_Take_J100111_txt r0 n1 t13 Q h) : bits_Reader_Take_J100111 r0 n1 t13 Q h := by
   unfold bits_Reader_Take_J100111; refine Jn.of_ev (x := subA bits_Reader_Take_ann [1, 0, 0, 1, 1, 1]) ?_; exact (bits_Reader_Take_J100111_eq r0 n1 t13 Q h).symm ▸ H
@[reducible] def bits_Reader_Take_L111010_txt (r0 : Option Addr) (n1 : Int) (v6 : Int) (have7 : Int) (K : Ex → Fr → Heap → Prop) (h : Heap) : Prop :=
 let t27 : Bool := decide (have7 < n1)
 br t27 (
 let t30 : Int := IntKind.i64.wrap (n1 - have7)
 nilc r0 (fun t32 =>
 ∃ (t34 : Int), cellH h (Addr.add t32 1) = some (.int .i64 t34) ∧
 let t35 : Int := Int.tmod t34 8
 let t36 : Int := IntKind.i64.wrap (8 - t35)
 let t37 : Int := (if t36 < t30 then t36 else t30)
 nilc r0 (fun t39 =>
 ∃ (t41 : Option Addr) (t41n : Nat) (t41c : Nat), cellH h t39 = some (.slice t41 t41n t41c) ∧
 nilc r0 (fun t43 =>
 ∃ (t45 : Int), cellH h (Addr.add t43 1) = some (.int .i64 t45) ∧
 let t46 : Int := IntKind.i64.wrap (Int.tdiv t45 8)
 hwp PP (Instr.indexAt T_sl_uint8 (.slice t41 t41n t41c) (.int .i64 t46)) (fun v h1 => ∃ (t47 : Addr), v = (.pointer (some t47)) ∧
 ∃ (t48 : Int), cellH h1 t47 = some (.int .u8 t48) ∧
 nilc r0 (fun t50 =>
 ∃ (t52 : Int), cellH h1 (Addr.add t50 1) = some (.int .i64 t52) ∧
 let t53 : Int := Int.tmod t52 8
 br (decide (0 ≤ t53)) (
 let t54 : Int := sShr .u8 t48 t53
 br (decide (0 ≤ t37)) (
 let t56 : Int := sShl .u8 1 t37
 let t57 : Int := IntKind.u8.wrap (t56 - 1)
 let t58 : Int := bAnd .u8 t54 t57
 let t61 : Int := IntKind.u64.wrap t58
 br (decide (0 ≤ have7)) (
 let t63 : Int := sShl .u64 t61 have7
 let t64 : Int := bOr .u64 v6 t63
 let t67 : Int := IntKind.i64.wrap (have7 + t37)
 nilc r0 (fun t69 =>
 ∃ (t71 : Int), cellH h1 (Addr.add t69 1) = some (.int .i64 t71) ∧
 let t73 : Int := IntKind.i64.wrap (t71 + t37)
 nilc r0 (fun t74 =>
 wr (Addr.add t74 1) (.int .i64 t73) (fun h2 =>
 bits_Reader_Take_L111010 r0 n1 t64 t67 K h2) h1))) False) False) False)) h)))) (
 K (.exit 1) (bits_Reader_Take_X1 v6) h)
theorem bits_Reader_Take_L111010_eq (r0 : Option Addr) (n1 : Int) (v6 : Int) (have7 : Int) (K : Ex → Fr → Heap → Prop) (h : Heap) : ev PP true none (sub (bodyOf Try.f10) [1, 1, 1, 0, 1, 0, 0]) (subA bits_Reader_Take_ann [1, 1, 1, 0, 1, 0, 0]) (mkFr 0 78 [(0, (.pointer r0)), (1, (.int .i64 n1)), (6, (.int .u64 v6)), (7, (.int .i64 have7))]) (seqK (fun fr h => Lp PP true (sub (bodyOf Try.f10) [1, 1, 1, 0, 1, 0, 0]) (fr.mask 195) K h) K) h = bits_Reader_Take_L111010_txt r0 n1 v6 have7 K h := by kernel_rfl
theorem bits_Reader_Take_L111010_of {r0 : Option Addr} {n1 : Int} {v6 : Int} {have7 : Int} {K : Ex → Fr → Heap → Prop} {h : Heap} (H : bits_Reader_Take_L111010_txt r0 n1 v6 have7 K h) : bits_Reader_Take_L111010 r0 n1 v6 have7 K h := by
   unfold bits_Reader_Take_L111010; refine Lp.of_ev (x := subA bits_Reader_Take_ann [1, 1, 1, 0, 1, 0, 0]) (keep := 195) ?_; exact (bits_Reader_Take_L111010_eq r0 n1 v6 have7 K h).symm ▸ H
theorem bits_Reader_Take_at111010_X1 (Q : Value → Heap → Prop) (v6 : Int) (h : Heap) : (bits_Reader_Take_K11101 Q) (.exit 1) (bits_Reader_Take_X1 v6) h = (
 let t77 : Int := IntKind.u32.wrap v6
 Q (.tuple #[(.int .u32 t77), (.int .i64 0)]) h) := by kernel_rfl
def bits_Reader_Take_main (r0 : Option Addr) (n1 : Int) (Q : Value → Heap → Prop) (h : Heap) : Prop :=
 let t12 : Bool := (Option.isNone r0)
 br t12 (
 Q (.tuple #[(.int .u32 0), (.int .i64 3)]) h) (
 let t15 : Bool := decide (n1 < 0)
 br t15 (
 bits_Reader_Take_J100111 r0 n1 true Q h) (
 let t18 : Bool := decide (n1 > 32)
 bits_Reader_Take_J100111 r0 n1 t18 Q h))
theorem bits_Reader_Take_eq (r0 : Option Addr) (n1 : Int) (Q : Value → Heap → Prop) (h : Heap) : ev PP true none (bodyOf Try.f10) bits_Reader_Take_ann (initFr 78 [(.pointer r0), (.int .i64 n1)]) (bodyK PP Try.f10 Q) h = bits_Reader_Take_main r0 n1 Q h := by kernel_rfl
theorem bits_Reader_Take_door {r0 : Option Addr} {n1 : Int} {Q : Value → Heap → Prop} {h : Heap} (H : bits_Reader_Take_main r0 n1 Q h) : SpecH PP F_bits_Reader_Take [(.pointer r0), (.int .i64 n1)] h Q :=
   spec_of_ev Try.func10 rfl rfl ((bits_Reader_Take_eq r0 n1 Q h).symm ▸ H)
/-! ### (*haversack/bits.Writer).Put: function 11 -/
def bits_Writer_Put_ann : Ann := (.seq 7 (.region [(List.range 1, 7)]) (.straight (.seq 7 (.block (.seq 519 (.region [(List.range 3, 519)]) (.cond (.seq 64 (.region [(List.range 1, 64)]) (.exit 64)) (.seq 4103 (.region [(List.range 14, 4103)]) (.join (.cond (.seq 64 (.region [(List.range 1, 64)]) (.exit 64)) .leaf)))))) (.seq 133 (.region [(List.range 3, 133)]) (.seq 133 .leaf (.seq 0 (.block (.loop 133 (.block (.seq 133 (.seq 536871045 (.region [(List.range 2, 536871045)]) (.cond (.exit 0) .leaf)) (.seq 133 (.seq 34359738501 (.region [(List.range 6, 34359738501)]) (.cond (.region [(List.range 10, 133)]) .leaf)) (.join (.seq 389 (.region [(List.range 9, 389)]) (.seq 389 (.region [(List.range 27, 389)]) (.seq 389 (.region [(List.range 4, 389)]) (.seq 389 (.region [(List.range 4, 389)]) (.region [(List.range 9, 133)]))))))))))) (.seq 64 (.region [(List.range 1, 64)]) (.exit 64))))))))
@[irreducible] def bits_Writer_Put_X1  : Fr := (mkFr 0 93 [])
@[irreducible] def bits_Writer_Put_K1 (Q : Value → Heap → Prop) : Ex → Fr → Heap → Prop := noGotoK (bodyK PP Try.f11 Q)
@[irreducible] def bits_Writer_Put_K10 (Q : Value → Heap → Prop) : Ex → Fr → Heap → Prop := seqK (fun fr h => ev PP true none (sub (bodyOf Try.f11) [1, 0, 1]) (subA bits_Writer_Put_ann [1, 0, 1]) (fr.mask 7) (bits_Writer_Put_K1 Q) h) (bits_Writer_Put_K1 Q)
@[irreducible] def bits_Writer_Put_K100 (Q : Value → Heap → Prop) : Ex → Fr → Heap → Prop := blockK 0 (bits_Writer_Put_K10 Q)
@[irreducible] def bits_Writer_Put_J1000111 (w0 : Option Addr) (v1 : Int) (n2 : Int) (t12 : Bool) (Q : Value → Heap → Prop) (h : Heap) : Prop := Jn PP true (sub (bodyOf Try.f11) [1, 0, 0, 0, 1, 1, 1]) (mkFr 0 93 [(0, (.pointer w0)), (1, (.int .u32 v1)), (2, (.int .i64 n2)), (12, (.bool t12))]) (bits_Writer_Put_K100 Q) h
@[irreducible] def bits_Writer_Put_K10111 (Q : Value → Heap → Prop) : Ex → Fr → Heap → Prop := seqK (fun fr h => ev PP true none (sub (bodyOf Try.f11) [1, 0, 1, 1, 1, 1]) (subA bits_Writer_Put_ann [1, 0, 1, 1, 1, 1]) (fr.mask 0) (bits_Writer_Put_K1 Q) h) (bits_Writer_Put_K1 Q)
@[irreducible] def bits_Writer_Put_K101110 (Q : Value → Heap → Prop) : Ex → Fr → Heap → Prop := blockK 1 (bits_Writer_Put_K10111 Q)
@[irreducible] def bits_Writer_Put_L1011100 (w0 : Option Addr) (n2 : Int) (rest7 : Int) (K : Ex → Fr → Heap → Prop) (h : Heap) : Prop := Lp PP true (sub (bodyOf Try.f11) [1, 0, 1, 1, 1, 0, 0, 0]) (mkFr 0 93 [(0, (.pointer w0)), (2, (.int .i64 n2)), (7, (.int .u64 rest7))]) K h
@[irreducible] def bits_Writer_Put_B1011100 (K : Ex → Fr → Heap → Prop) : Ex → Fr → Heap → Prop := seqK (fun fr h => Lp PP true (sub (bodyOf Try.f11) [1, 0, 1, 1, 1, 0, 0, 0]) (fr.mask 133) K h) K
@[irreducible] def bits_Writer_Put_K10111000 (K : Ex → Fr → Heap → Prop) : Ex → Fr → Heap → Prop := blockK 2 (bits_Writer_Put_B1011100 K)
@[irreducible] def bits_Writer_Put_J10111000011 (w0 : Option Addr) (n2 : Int) (rest7 : Int) (K : Ex → Fr → Heap → Prop) (h : Heap) : Prop := Jn PP true (sub (bodyOf Try.f11) [1, 0, 1, 1, 1, 0, 0, 0, 0, 1, 1]) (mkFr 0 93 [(0, (.pointer w0)), (2, (.int .i64 n2)), (7, (.int .u64 rest7))]) (bits_Writer_Put_K10111000 K) h
@[reducible] def bits_Writer_Put_J1000111_txt (w0 : Option Addr) (v1 : Int) (n2 : Int) (t12 : Bool) (Q : Value → Heap → Prop) (h : Heap) : Prop :=
 br t12 (
 Q (.int .i64 1) h) (
 let t27 : Int := IntKind.u64.wrap v1
 bits_Writer_Put_L1011100 w0 n2 t27 (bits_Writer_Put_K101110 Q) h)
theorem bits_Writer_Put_J1000111_eq (w0 : Option Addr) (v1 : Int) (n2 : Int) (t12 : Bool) (Q : Value → Heap → Prop) (h : Heap) : ev PP true none (sub (bodyOf Try.f11) [1, 0, 0, 0, 1, 1, 1]) (subA bits_Writer_Put_ann [1, 0, 0, 0, 1, 1, 1]) (mkFr 0 93 [(0, (.pointer w0)), (1, (.int .u32 v1)), (2, (.int .i64 n2)), (12, (.bool t12))]) (bits_Writer_Put_K100 Q) h = bits_Writer_Put_J1000111_txt w0 v1 n2 t12 Q h := by kernel_rfl
theorem bits_Writer_Put_J1000111_of {w0 : Option Addr} {v1 : Int} {n2 : Int} {t12 : Bool} {Q : Value → Heap → Prop} {h : Heap} (H : bits_Writer_Put_J1000111_txt w0 v1 n2 t12 Q h) : bits_Writer_Put_J1000111 w0 v1 n2 t12 Q h := by
   unfold bits_Writer_Put_J1000111; refine Jn.of_ev (x := subA bits_Writer_Put_ann [1, 0, 0, 0, 1, 1, 1]) ?_; exact (bits_Writer_Put_J1000111_eq w0 v1 n2 t12 Q h).symm ▸ H
@[reducible] def bits_Writer_Put_L1011100_txt (w0 : Option Addr) (n2 : Int) (rest7 : Int) (K : Ex → Fr → Heap → Prop) (h : Heap) : Prop :=
 let t29 : Bool := (n2 == 0)
 br t29 (
 K (.exit 1) (bits_Writer_Put_X1) h) (
 nilc w0 (fun t31 =>
 ∃ (t33 : Int), cellH h (Addr.add t31 1) = some (.int .i64 t33) ∧
 let t34 : Int := Int.tmod t33 8
 let t35 : Bool := (t34 == 0)
 br t35 (
 nilc w0 (fun t38 =>
 ∃ (t40 : Option Addr) (t40n : Nat) (t40c : Nat), cellH h t38 = some (.slice t40 t40n t40c) ∧
 let h1 : Heap := Array.push h (.cells #[(.int .u8 0)] T_uint8 (0, 0))
 hwp PP (Builtin.append_ #[T_sl_uint8, T_sl_uint8] T_sl_uint8 #[(.slice t40 t40n t40c), (.slice (some ⟨Array.size h, 0, none⟩) 1 1)]) (fun v h2 => ∃ (t42 : Option Addr) (t42n : Nat) (t42c : Nat), v = (.slice t42 t42n t42c) ∧
 nilc w0 (fun t43 =>
 wr t43 (.slice t42 t42n t42c) (fun h3 =>
 bits_Writer_Put_J10111000011 w0 n2 rest7 K h3) h2)) h1)) (
 bits_Writer_Put_J10111000011 w0 n2 rest7 K h)))
theorem bits_Writer_Put_L1011100_eq (w0 : Option Addr) (n2 : Int) (rest7 : Int) (K : Ex → Fr → Heap → Prop) (h : Heap) : ev PP true none (sub (bodyOf Try.f11) [1, 0, 1, 1, 1, 0, 0, 0]) (subA bits_Writer_Put_ann [1, 0, 1, 1, 1, 0, 0, 0]) (mkFr 0 93 [(0, (.pointer w0)), (2, (.int .i64 n2)), (7, (.int .u64 rest7))]) (seqK (fun fr h => Lp PP true (sub (bodyOf Try.f11) [1, 0, 1, 1, 1, 0, 0, 0]) (fr.mask 133) K h) K) h = bits_Writer_Put_L1011100_txt w0 n2 rest7 K h := by kernel_rfl
theorem bits_Writer_Put_L1011100_of {w0 : Option Addr} {n2 : Int} {rest7 : Int} {K : Ex → Fr → Heap → Prop} {h : Heap} (H : bits_Writer_Put_L1011100_txt w0 n2 rest7 K h) : bits_Writer_Put_L1011100 w0 n2 rest7 K h := by
   unfold bits_Writer_Put_L1011100; refine Lp.of_ev (x := subA bits_Writer_Put_ann [1, 0, 1, 1, 1, 0, 0, 0]) (keep := 133) ?_; exact (bits_Writer_Put_L1011100_eq w0 n2 rest7 K h).symm ▸ H
theorem bits_Writer_Put_at1011100_X1 (Q : Value → Heap → Prop)  (h : Heap) : (bits_Writer_Put_K101110 Q) (.exit 1) (bits_Writer_Put_X1 ) h = (
 Q (.int .i64 0) h) := by kernel_rfl
@[reducible] def bits_Writer_Put_J10111000011_txt (w0 : Option Addr) (n2 : Int) (rest7 : Int) (K : Ex → Fr → Heap → Prop) (h : Heap) : Prop :=
 nilc w0 (fun t47 =>
 ∃ (t49 : Int), cellH h (Addr.add t47 1) = some (.int .i64 t49) ∧
 let t50 : Int := Int.tmod t49 8
 let t51 : Int := IntKind.i64.wrap (8 - t50)
 let t52 : Int := (if t51 < n2 then t51 else n2)
 nilc w0 (fun t54 =>
 ∃ (t56 : Option Addr) (t56n : Nat) (t56c : Nat), cellH h t54 = some (.slice t56 t56n t56c) ∧
 nilc w0 (fun t58 =>
 ∃ (t60 : Option Addr) (t60n : Nat) (t60c : Nat), cellH h t58 = some (.slice t60 t60n t60c) ∧
 let t62 : Int := IntKind.i64.wrap ((t60n : Int) - 1)
 hwp PP (Instr.indexAt T_sl_uint8 (.slice t56 t56n t56c) (.int .i64 t62)) (fun v h1 => ∃ (t63 : Addr), v = (.pointer (some t63)) ∧
 ∃ (t64 : Int), cellH h1 t63 = some (.int .u8 t64) ∧
 br (decide (0 ≤ t52)) (
 let t67 : Int := sShl .u64 1 t52
 let t68 : Int := IntKind.u64.wrap (t67 - 1)
 let t69 : Int := bAnd .u64 rest7 t68
 let t70 : Int := IntKind.u8.wrap t69
 nilc w0 (fun t72 =>
 ∃ (t74 : Int), cellH h1 (Addr.add t72 1) = some (.int .i64 t74) ∧
 let t75 : Int := Int.tmod t74 8
 br (decide (0 ≤ t75)) (
 let t76 : Int := sShl .u8 t70 t75
 let t77 : Int := bOr .u8 t64 t76
 hwp PP (Instr.indexAt T_sl_uint8 (.slice t56 t56n t56c) (.int .i64 t62)) (fun v_1 h2 => ∃ (t78 : Addr), v_1 = (.pointer (some t78)) ∧
 wr t78 (.int .u8 t77) (fun h3 =>
 br (decide (0 ≤ t52)) (
 let t81 : Int := sShr .u64 rest7 t52
 let t84 : Int := IntKind.i64.wrap (n2 - t52)
 nilc w0 (fun t86 =>
 ∃ (t88 : Int), cellH h3 (Addr.add t86 1) = some (.int .i64 t88) ∧
 let t90 : Int := IntKind.i64.wrap (t88 + t52)
 nilc w0 (fun t91 =>
 wr (Addr.add t91 1) (.int .i64 t90) (fun h4 =>
 bits_Writer_Put_L1011100 w0 t84 t81 K h4) h3))) False) h2) h1) False)) False) h)))
theorem bits_Writer_Put_J10111000011_eq (w0 : Option Addr) (n2 : Int) (rest7 : Int) (K : Ex → Fr → Heap → Prop) (h : Heap) : ev PP true none (sub (bodyOf Try.f11) [1, 0, 1, 1, 1, 0, 0, 0, 0, 1, 1]) (subA bits_Writer_Put_ann [1, 0, 1, 1, 1, 0, 0, 0, 0, 1, 1]) (mkFr 0 93 [(0, (.pointer w0)), (2, (.int .i64 n2)), (7, (.int .u64 rest7))]) (bits_Writer_Put_K10111000 K) h = bits_Writer_Put_J10111000011_txt w0 n2 rest7 K h := by kernel_rfl
theorem bits_Writer_Put_J10111000011_of {w0 : Option Addr} {n2 : Int} {rest7 : Int} {K : Ex → Fr → Heap → Prop} {h : Heap} (H : bits_Writer_Put_J10111000011_txt w0 n2 rest7 K h) : bits_Writer_Put_J10111000011 w0 n2 rest7 K h := by
   unfold bits_Writer_Put_J10111000011; refine Jn.of_ev (x := subA bits_Writer_Put_ann [1, 0, 1, 1, 1, 0, 0, 0, 0, 1, 1]) ?_; exact (bits_Writer_Put_J10111000011_eq w0 n2 rest7 K h).symm ▸ H
def bits_Writer_Put_main (w0 : Option Addr) (v1 : Int) (n2 : Int) (Q : Value → Heap → Prop) (h : Heap) : Prop :=
 let t11 : Bool := (Option.isNone w0)
 br t11 (
 Q (.int .i64 3) h) (
 let t14 : Bool := decide (n2 < 0)
 br t14 (
 bits_Writer_Put_J1000111 w0 v1 n2 true Q h) (
 let t17 : Bool := decide (n2 > 32)
 br t17 (
 bits_Writer_Put_J1000111 w0 v1 n2 true Q h) (
 let t21 : Int := IntKind.u64.wrap v1
 br (decide (0 ≤ n2)) (
 let t23 : Int := sShr .u64 t21 n2
 let t24 : Bool := (t23 != 0)
 bits_Writer_Put_J1000111 w0 v1 n2 t24 Q h) False)))
theorem bits_Writer_Put_eq (w0 : Option Addr) (v1 : Int) (n2 : Int) (Q : Value → Heap → Prop) (h : Heap) : ev PP true none (bodyOf Try.f11) bits_Writer_Put_ann (initFr 93 [(.pointer w0), (.int .u32 v1), (.int .i64 n2)]) (bodyK PP Try.f11 Q) h = bits_Writer_Put_main w0 v1 n2 Q h := by kernel_rfl
theorem bits_Writer_Put_door {w0 : Option Addr} {v1 : Int} {n2 : Int} {Q : Value → Heap → Prop} {h : Heap} (H : bits_Writer_Put_main w0 v1 n2 Q h) : SpecH PP F_bits_Writer_Put [(.pointer w0), (.int .u32 v1), (.int .i64 n2)] h Q :=
   spec_of_ev Try.func11 rfl rfl ((bits_Writer_Put_eq w0 v1 n2 Q h).symm ▸ H)
/-! ### haversack/haversacklaw01.awake: function 12 -/
def law01_awake_ann : Ann := (.seq 0 (.region [(List.range 1, 0)]) (.seq 2 (.region [(List.range 2, 2)]) (.seq 6 (.region [(List.range 3, 6)]) (.seq 6 (.seq 8388614 (.region [(List.range 6, 8388614)]) (.join (.cond (.seq 1 (.region [(List.range 1, 1)]) (.exit 1)) .leaf))) (.seq 14 (.region [(List.range 3, 14)]) (.seq 30 (.region [(List.range 3, 30)]) (.seq 62 (.region [(List.range 3, 62)]) (.seq 254 (.region [(List.range 7, 254)]) (.seq 1022 (.region [(List.range 7, 1022)]) (.seq 4094 (.region [(List.range 7, 4094)]) (.seq 12286 (.region [(List.range 7, 12286)]) (.seq 28612 (.region [(List.range 22, 28612)]) (.join (.seq 1 (.region [(List.range 35, 1)]) (.exit 1)))))))))))))))
@[irreducible] def law01_awake_K111 (Q : Value → Heap → Prop) : Ex → Fr → Heap → Prop := seqK (fun fr h => ev PP true none (sub (bodyOf Try.f12) [1, 1, 1, 1]) (subA law01_awake_ann [1, 1, 1, 1]) (fr.mask 6) (bodyK PP Try.f12 Q) h) (bodyK PP Try.f12 Q)
@[irreducible] def law01_awake_J11101 (w1 : Option Addr) (r2 : Option Addr) (t23 : Bool) (Q : Value → Heap → Prop) (h : Heap) : Prop := Jn PP true (sub (bodyOf Try.f12) [1, 1, 1, 0, 1]) (mkFr 0 105 [(1, (.pointer w1)), (2, (.pointer r2)), (23, (.bool t23))]) (law01_awake_K111 Q) h
@[irreducible] def law01_awake_J111111111111 (r2 : Option Addr) (x6 : Int) (d7 : Int) (y8 : Int) (e9 : Int) (z10 : Int) (f11 : Int) (g13 : Int) (one14 : Bool) (Q : Value → Heap → Prop) (h : Heap) : Prop := Jn PP true (sub (bodyOf Try.f12) [1, 1, 1, 1, 1, 1, 1, 1, 1, 1, 1, 1]) (mkFr 0 105 [(2, (.pointer r2)), (6, (.int .u32 x6)), (7, (.int .i64 d7)), (8, (.int .u32 y8)), (9, (.int .i64 e9)), (10, (.int .u32 z10)), (11, (.int .i64 f11)), (13, (.int .i64 g13)), (14, (.bool one14))]) (bodyK PP Try.f12 Q) h
@[reducible] def law01_awake_J11101_txt (w1 : Option Addr) (r2 : Option Addr) (t23 : Bool) (Q : Value → Heap → Prop) (h : Heap) : Prop :=
 br t23 (
 Q (.bool false) h) (
 SpecH PP F_bits_Writer_Put [(.pointer w1), (.int .u32 5), (.int .i64 3)] h (fun v h1 => ∃ (t25 : Int), v = (.int .i64 t25) ∧
 SpecH PP F_bits_Writer_Put [(.pointer w1), (.int .u32 1), (.int .i64 1)] h1 (fun v_1 h2 => ∃ (t27 : Int), v_1 = (.int .i64 t27) ∧
 SpecH PP F_bits_Writer_Put [(.pointer w1), (.int .u32 8), (.int .i64 3)] h2 (fun v_2 h3 => ∃ (t29 : Int), v_2 = (.int .i64 t29) ∧
 SpecH PP F_bits_Reader_Take [(.pointer r2), (.int .i64 2)] h3 (fun v_3 h4 => ∃ (t32 : Int) (t32_1 : Int), v_3 = (.tuple #[(.int .u32 t32), (.int .i64 t32_1)]) ∧
 SpecH PP F_bits_Reader_Take [(.pointer r2), (.int .i64 4)] h4 (fun v_4 h5 => ∃ (t37 : Int) (t37_1 : Int), v_4 = (.tuple #[(.int .u32 t37), (.int .i64 t37_1)]) ∧
 SpecH PP F_bits_Reader_Take [(.pointer r2), (.int .i64 3)] h5 (fun v_5 h6 => ∃ (t42 : Int) (t42_1 : Int), v_5 = (.tuple #[(.int .u32 t42), (.int .i64 t42_1)]) ∧
 SpecH PP F_bits_Reader_Take [(.pointer r2), (.int .i64 8)] h6 (fun v_6 h7 => ∃ (t47 : Int) (t47_1 : Int), v_6 = (.tuple #[(.int .u32 t47), (.int .i64 t47_1)]) ∧
 let t51 : Bool := (t25 == 0)
 br t51 (
 let t54 : Bool := (t27 == 0)
 br t54 (
 let t58 : Bool := (t29 == 1)
 br t58 (
 SpecH PP F_bits_Writer_Len [(.pointer w1)] h7 (fun v_7 h8 => ∃ (t62 : Int), v_7 = (.int .i64 t62) ∧
 let t63 : Bool := (t62 == 4)
 br t63 (
 SpecH PP F_bits_Writer_Bytes [(.pointer w1)] h8 (fun v_8 h9 => ∃ (t67 : Option Addr) (t67n : Nat) (t67c : Nat), v_8 = (.slice t67 t67n t67c) ∧
 let h10 : Heap := Array.push h9 (.cells #[(.int .u8 13)] T_uint8 (0, 0))
 SpecH PP F_keep_Bytes [(.slice t67 t67n t67c), (.slice (some ⟨Array.size h9, 0, none⟩) 1 1)] h10 (fun v_9 h11 => ∃ (t69 : Bool), v_9 = (.bool t69) ∧
 law01_awake_J111111111111 r2 t32 t32_1 t37 t37_1 t42 t42_1 t47_1 t69 Q h11))) (
 law01_awake_J111111111111 r2 t32 t32_1 t37 t37_1 t42 t42_1 t47_1 false Q h8))) (
 law01_awake_J111111111111 r2 t32 t32_1 t37 t37_1 t42 t42_1 t47_1 false Q h7)) (
 law01_awake_J111111111111 r2 t32 t32_1 t37 t37_1 t42 t42_1 t47_1 false Q h7)) (
 law01_awake_J111111111111 r2 t32 t32_1 t37 t37_1 t42 t42_1 t47_1 false Q h7)))))))))
theorem law01_awake_J11101_eq (w1 : Option Addr) (r2 : Option Addr) (t23 : Bool) (Q : Value → Heap → Prop) (h : Heap) : ev PP true none (sub (bodyOf Try.f12) [1, 1, 1, 0, 1]) (subA law01_awake_ann [1, 1, 1, 0, 1]) (mkFr 0 105 [(1, (.pointer w1)), (2, (.pointer r2)), (23, (.bool t23))]) (law01_awake_K111 Q) h = law01_awake_J11101_txt w1 r2 t23 Q h := by kernel_rfl
theorem law01_awake_J11101_of {w1 : Option Addr} {r2 : Option Addr} {t23 : Bool} {Q : Value → Heap → Prop} {h : Heap} (H : law01_awake_J11101_txt w1 r2 t23 Q h) : law01_awake_J11101 w1 r2 t23 Q h := by
   unfold law01_awake_J11101; refine Jn.of_ev (x := subA law01_awake_ann [1, 1, 1, 0, 1]) ?_; exact (law01_awake_J11101_eq w1 r2 t23 Q h).symm ▸ H
@[reducible] def law01_awake_J111111111111_txt (r2 : Option Addr) (x6 : Int) (d7 : Int) (y8 : Int) (e9 : Int) (z10 : Int) (f11 : Int) (g13 : Int) (one14 : Bool) (Q : Value → Heap → Prop) (h : Heap) : Prop :=
 br one14 (
 let t74 : Bool := (d7 == 0)
 br t74 (
 let t78 : Bool := (e9 == 0)
 br t78 (
 let t82 : Bool := (f11 == 0)
 br t82 (
 let t86 : Bool := (x6 == 0)
 br t86 (
 let t90 : Bool := (y8 == 13)
 br t90 (
 let t94 : Bool := (z10 == 6)
 br t94 (
 let t98 : Bool := (g13 == 10)
 br t98 (
 SpecH PP F_bits_Reader_Left [(.pointer r2)] h (fun v h1 => ∃ (t102 : Int), v = (.int .i64 t102) ∧
 let t103 : Bool := (t102 == 7)
 Q (.bool t103) h1)) (
 Q (.bool false) h)) (
 Q (.bool false) h)) (
 Q (.bool false) h)) (
 Q (.bool false) h)) (
 Q (.bool false) h)) (
 Q (.bool false) h)) (
 Q (.bool false) h)) (
 Q (.bool false) h)
theorem law01_awake_J111111111111_eq (r2 : Option Addr) (x6 : Int) (d7 : Int) (y8 : Int) (e9 : Int) (z10 : Int) (f11 : Int) (g13 : Int) (one14 : Bool) (Q : Value → Heap → Prop) (h : Heap) : ev PP true none (sub (bodyOf Try.f12) [1, 1, 1, 1, 1, 1, 1, 1, 1, 1, 1, 1]) (subA law01_awake_ann [1, 1, 1, 1, 1, 1, 1, 1, 1, 1, 1, 1]) (mkFr 0 105 [(2, (.pointer r2)), (6, (.int .u32 x6)), (7, (.int .i64 d7)), (8, (.int .u32 y8)), (9, (.int .i64 e9)), (10, (.int .u32 z10)), (11, (.int .i64 f11)), (13, (.int .i64 g13)), (14, (.bool one14))]) (bodyK PP Try.f12 Q) h = law01_awake_J111111111111_txt r2 x6 d7 y8 e9 z10 f11 g13 one14 Q h := by kernel_rfl
theorem law01_awake_J111111111111_of {r2 : Option Addr} {x6 : Int} {d7 : Int} {y8 : Int} {e9 : Int} {z10 : Int} {f11 : Int} {g13 : Int} {one14 : Bool} {Q : Value → Heap → Prop} {h : Heap} (H : law01_awake_J111111111111_txt r2 x6 d7 y8 e9 z10 f11 g13 one14 Q h) : law01_awake_J111111111111 r2 x6 d7 y8 e9 z10 f11 g13 one14 Q h := by
   unfold law01_awake_J111111111111; refine Jn.of_ev (x := subA law01_awake_ann [1, 1, 1, 1, 1, 1, 1, 1, 1, 1, 1, 1]) ?_; exact (law01_awake_J111111111111_eq r2 x6 d7 y8 e9 z10 f11 g13 one14 Q h).symm ▸ H
def law01_awake_main  (Q : Value → Heap → Prop) (h : Heap) : Prop :=
 SpecH PP F_bits_NewWriter [] h (fun v h1 => ∃ (t15 : Option Addr), v = (.pointer t15) ∧
 let h2 : Heap := Array.push h1 (.cells #[(.int .u8 180), (.int .u8 1)] T_uint8 (0, 0))
 SpecH PP F_bits_NewReader [(.slice (some ⟨Array.size h1, 0, none⟩) 2 2)] h2 (fun v_1 h3 => ∃ (t17 : Option Addr), v_1 = (.pointer t17) ∧
 let t19 : Bool := (Option.isNone t15)
 br t19 (
 law01_awake_J11101 t15 t17 true Q h3) (
 let t22 : Bool := (Option.isNone t17)
 law01_awake_J11101 t15 t17 t22 Q h3)))
theorem law01_awake_eq  (Q : Value → Heap → Prop) (h : Heap) : ev PP true none (bodyOf Try.f12) law01_awake_ann (initFr 105 []) (bodyK PP Try.f12 Q) h = law01_awake_main  Q h := by kernel_rfl
theorem law01_awake_door  {Q : Value → Heap → Prop} {h : Heap} (H : law01_awake_main  Q h) : SpecH PP F_law01_awake [] h Q :=
   spec_of_ev Try.func12 rfl rfl ((law01_awake_eq  Q h).symm ▸ H)
/-! ### haversack/haversackkeep.Bytes: function 13 -/
def keep_Bytes_ann : Ann := (.seq 3 (.region [(List.range 1, 3)]) (.seq 3 (.seq 1027 (.region [(List.range 5, 1027)]) (.cond (.seq 16 (.region [(List.range 1, 16)]) (.exit 16)) .leaf)) (.seq 0 (.seq 35 (.region [(List.range 1, 35)]) (.block (.loop 35 (.seq 35 (.seq 16419 (.region [(List.range 4, 16419)]) (.cond .leaf (.exit 0))) (.seq 35 (.block (.seq 33554467 (.region [(List.range 9, 33554467)]) (.cond (.seq 16 (.region [(List.range 1, 16)]) (.exit 16)) .leaf))) (.region [(List.range 3, 35)])))))) (.seq 16 (.region [(List.range 1, 16)]) (.exit 16)))))
@[irreducible] def keep_Bytes_Xret (t4 : Bool) : Fr := (mkFr 0 26 [(4, (.bool t4))])
@[irreducible] def keep_Bytes_X0  : Fr := (mkFr 0 26 [])
@[irreducible] def keep_Bytes_L11010 (a0 : Option Addr) (a0n : Nat) (a0c : Nat) (b1 : Option Addr) (b1n : Nat) (b1c : Nat) (i5 : Int) (K : Ex → Fr → Heap → Prop) (h : Heap) : Prop := Lp PP true (sub (bodyOf Try.f13) [1, 1, 0, 1, 0, 0]) (mkFr 0 26 [(0, (.slice a0 a0n a0c)), (1, (.slice b1 b1n b1c)), (5, (.int .i64 i5))]) K h
@[irreducible] def keep_Bytes_B11010 (K : Ex → Fr → Heap → Prop) : Ex → Fr → Heap → Prop := seqK (fun fr h => Lp PP true (sub (bodyOf Try.f13) [1, 1, 0, 1, 0, 0]) (fr.mask 35) K h) K
@[irreducible] def keep_Bytes_K11 (Q : Value → Heap → Prop) : Ex → Fr → Heap → Prop := seqK (fun fr h => ev PP true none (sub (bodyOf Try.f13) [1, 1, 1]) (subA keep_Bytes_ann [1, 1, 1]) (fr.mask 0) (bodyK PP Try.f13 Q) h) (bodyK PP Try.f13 Q)
@[irreducible] def keep_Bytes_K1101 (Q : Value → Heap → Prop) : Ex → Fr → Heap → Prop := blockK 0 (keep_Bytes_K11 Q)
@[reducible] def keep_Bytes_L11010_txt (a0 : Option Addr) (a0n : Nat) (a0c : Nat) (b1 : Option Addr) (b1n : Nat) (b1c : Nat) (i5 : Int) (K : Ex → Fr → Heap → Prop) (h : Heap) : Prop :=
 let t14 : Bool := decide (i5 < (a0n : Int))
 br t14 (
 hwp PP (Instr.indexAt T_sl_uint8 (.slice a0 a0n a0c) (.int .i64 i5)) (fun v h1 => ∃ (t19 : Addr), v = (.pointer (some t19)) ∧
 ∃ (t20 : Int), cellH h1 t19 = some (.int .u8 t20) ∧
 hwp PP (Instr.indexAt T_sl_uint8 (.slice b1 b1n b1c) (.int .i64 i5)) (fun v_1 h2 => ∃ (t23 : Addr), v_1 = (.pointer (some t23)) ∧
 ∃ (t24 : Int), cellH h2 t23 = some (.int .u8 t24) ∧
 let t25 : Bool := (t20 != t24)
 br t25 (
 K .ret (keep_Bytes_Xret false) h2) (
 let t16 : Int := IntKind.i64.wrap (i5 + 1)
 keep_Bytes_L11010 a0 a0n a0c b1 b1n b1c t16 K h2)) h1) h) (
 K (.exit 0) (keep_Bytes_X0) h)
theorem keep_Bytes_L11010_eq (a0 : Option Addr) (a0n : Nat) (a0c : Nat) (b1 : Option Addr) (b1n : Nat) (b1c : Nat) (i5 : Int) (K : Ex → Fr → Heap → Prop) (h : Heap) : ev PP true none (sub (bodyOf Try.f13) [1, 1, 0, 1, 0, 0]) (subA keep_Bytes_ann [1, 1, 0, 1, 0, 0]) (mkFr 0 26 [(0, (.slice a0 a0n a0c)), (1, (.slice b1 b1n b1c)), (5, (.int .i64 i5))]) (seqK (fun fr h => Lp PP true (sub (bodyOf Try.f13) [1, 1, 0, 1, 0, 0]) (fr.mask 35) K h) K) h = keep_Bytes_L11010_txt a0 a0n a0c b1 b1n b1c i5 K h := by kernel_rfl
theorem keep_Bytes_L11010_of {a0 : Option Addr} {a0n : Nat} {a0c : Nat} {b1 : Option Addr} {b1n : Nat} {b1c : Nat} {i5 : Int} {K : Ex → Fr → Heap → Prop} {h : Heap} (H : keep_Bytes_L11010_txt a0 a0n a0c b1 b1n b1c i5 K h) : keep_Bytes_L11010 a0 a0n a0c b1 b1n b1c i5 K h := by
   unfold keep_Bytes_L11010; refine Lp.of_ev (x := subA keep_Bytes_ann [1, 1, 0, 1, 0, 0]) (keep := 35) ?_; exact (keep_Bytes_L11010_eq a0 a0n a0c b1 b1n b1c i5 K h).symm ▸ H
theorem keep_Bytes_at11010_Xret (Q : Value → Heap → Prop) (t4 : Bool) (h : Heap) : (keep_Bytes_K1101 Q) .ret (keep_Bytes_Xret t4) h = (
 Q (.bool t4) h) := by kernel_rfl
theorem keep_Bytes_at11010_X0 (Q : Value → Heap → Prop)  (h : Heap) : (keep_Bytes_K1101 Q) (.exit 0) (keep_Bytes_X0 ) h = (
 Q (.bool true) h) := by kernel_rfl
def keep_Bytes_main (a0 : Option Addr) (a0n : Nat) (a0c : Nat) (b1 : Option Addr) (b1n : Nat) (b1c : Nat) (Q : Value → Heap → Prop) (h : Heap) : Prop :=
 let t10 : Bool := ((a0n : Int) != (b1n : Int))
 br t10 (
 Q (.bool false) h) (
 keep_Bytes_L11010 a0 a0n a0c b1 b1n b1c 0 (keep_Bytes_K1101 Q) h)
theorem keep_Bytes_eq (a0 : Option Addr) (a0n : Nat) (a0c : Nat) (b1 : Option Addr) (b1n : Nat) (b1c : Nat) (Q : Value → Heap → Prop) (h : Heap) : ev PP true none (bodyOf Try.f13) keep_Bytes_ann (initFr 26 [(.slice a0 a0n a0c), (.slice b1 b1n b1c)]) (bodyK PP Try.f13 Q) h = keep_Bytes_main a0 a0n a0c b1 b1n b1c Q h := by kernel_rfl
theorem keep_Bytes_door {a0 : Option Addr} {a0n : Nat} {a0c : Nat} {b1 : Option Addr} {b1n : Nat} {b1c : Nat} {Q : Value → Heap → Prop} {h : Heap} (H : keep_Bytes_main a0 a0n a0c b1 b1n b1c Q h) : SpecH PP F_keep_Bytes [(.slice a0 a0n a0c), (.slice b1 b1n b1c)] h Q :=
   spec_of_ev Try.func13 rfl rfl ((keep_Bytes_eq a0 a0n a0c b1 b1n b1c Q h).symm ▸ H)
/-! ### (*haversack/bits.Writer).Bytes: function 14 -/
def bits_Writer_Bytes_ann : Ann := (.seq 1 (.region [(List.range 1, 1)]) (.seq 1 (.seq 33 (.region [(List.range 2, 33)]) (.cond (.seq 4 (.region [(List.range 1, 4)]) (.exit 4)) .leaf)) (.seq 9 (.region [(List.range 7, 9)]) (.seq 8 (.region [(List.range 6, 8)]) (.seq 4 (.region [(List.range 2, 4)]) (.exit 4))))))
def bits_Writer_Bytes_main (w0 : Option Addr) (Q : Value → Heap → Prop) (h : Heap) : Prop :=
 let t5 : Bool := (Option.isNone w0)
 br t5 (
 Q (.slice none 0 0) h) (
 nilc w0 (fun t7 =>
 ∃ (t9 : Option Addr) (t9n : Nat) (t9c : Nat), cellH h t7 = some (.slice t9 t9n t9c) ∧
 hwp PP (Instr.makeSlice T_sl_uint8 (.int .i64 (t9n : Int)) (.int .i64 (t9n : Int))) (fun v h1 => ∃ (t11 : Option Addr) (t11n : Nat) (t11c : Nat), v = (.slice t11 t11n t11c) ∧
 nilc w0 (fun t14 =>
 ∃ (t16 : Option Addr) (t16n : Nat) (t16c : Nat), cellH h1 t14 = some (.slice t16 t16n t16c) ∧
 hwp PP (Builtin.copy_ #[T_sl_uint8, T_sl_uint8] T_int #[(.slice t11 t11n t11c), (.slice t16 t16n t16c)]) (fun v_1 h2 => ∃ (t17 : Int), v_1 = (.int .i64 t17) ∧
 Q (.slice t11 t11n t11c) h2) h1)) h))
theorem bits_Writer_Bytes_eq (w0 : Option Addr) (Q : Value → Heap → Prop) (h : Heap) : ev PP true none (bodyOf Try.f14) bits_Writer_Bytes_ann (initFr 19 [(.pointer w0)]) (bodyK PP Try.f14 Q) h = bits_Writer_Bytes_main w0 Q h := by kernel_rfl
theorem bits_Writer_Bytes_door {w0 : Option Addr} {Q : Value → Heap → Prop} {h : Heap} (H : bits_Writer_Bytes_main w0 Q h) : SpecH PP F_bits_Writer_Bytes [(.pointer w0)] h Q :=
   spec_of_ev Try.func14 rfl rfl ((bits_Writer_Bytes_eq w0 Q h).symm ▸ H)
/-! ### (*haversack/bits.Reader).Gone: function 15 -/
def bits_Reader_Gone_ann : Ann := (.seq 1 (.region [(List.range 1, 1)]) (.seq 1 (.seq 17 (.region [(List.range 2, 17)]) (.cond (.seq 4 (.region [(List.range 1, 4)]) (.exit 4)) .leaf)) (.seq 4 (.region [(List.range 5, 4)]) (.exit 4))))
def bits_Reader_Gone_main (r0 : Option Addr) (Q : Value → Heap → Prop) (h : Heap) : Prop :=
 let t4 : Bool := (Option.isNone r0)
 br t4 (
 Q (.int .i64 0) h) (
 nilc r0 (fun t6 =>
 ∃ (t8 : Int), cellH h (Addr.add t6 1) = some (.int .i64 t8) ∧
 Q (.int .i64 t8) h))
theorem bits_Reader_Gone_eq (r0 : Option Addr) (Q : Value → Heap → Prop) (h : Heap) : ev PP true none (bodyOf Try.f15) bits_Reader_Gone_ann (initFr 9 [(.pointer r0)]) (bodyK PP Try.f15 Q) h = bits_Reader_Gone_main r0 Q h := by kernel_rfl
theorem bits_Reader_Gone_door {r0 : Option Addr} {Q : Value → Heap → Prop} {h : Heap} (H : bits_Reader_Gone_main r0 Q h) : SpecH PP F_bits_Reader_Gone [(.pointer r0)] h Q :=
   spec_of_ev Try.func15 rfl rfl ((bits_Reader_Gone_eq r0 Q h).symm ▸ H)
/-! ### haversack/haversackref01.May: function 16 -/
def ref01_May_ann : Ann := (.seq 3 (.region [(List.range 1, 3)]) (.seq 3 (.seq 2051 (.region [(List.range 6, 2051)]) (.join (.cond (.seq 16 (.region [(List.range 1, 16)]) (.exit 16)) .leaf))) (.seq 1 (.seq 35 (.region [(List.range 1, 35)]) (.block (.loop 35 (.seq 35 (.seq 16419 (.region [(List.range 3, 16419)]) (.cond .leaf (.exit 1))) (.seq 35 (.block (.region [(List.range 3, 35)])) (.region [(List.range 3, 35)])))))) (.seq 16 (.region [(List.range 3, 16)]) (.exit 16)))))
@[irreducible] def ref01_May_X0 (v0 : Int) : Fr := (mkFr 0 21 [(0, (.int .u32 v0))])
@[irreducible] def ref01_May_K1 (Q : Value → Heap → Prop) : Ex → Fr → Heap → Prop := seqK (fun fr h => ev PP true none (sub (bodyOf Try.f16) [1, 1]) (subA ref01_May_ann [1, 1]) (fr.mask 3) (bodyK PP Try.f16 Q) h) (bodyK PP Try.f16 Q)
@[irreducible] def ref01_May_J101 (v0 : Int) (n1 : Int) (t11 : Bool) (Q : Value → Heap → Prop) (h : Heap) : Prop := Jn PP true (sub (bodyOf Try.f16) [1, 0, 1]) (mkFr 0 21 [(0, (.int .u32 v0)), (1, (.int .i64 n1)), (11, (.bool t11))]) (ref01_May_K1 Q) h
@[irreducible] def ref01_May_K11 (Q : Value → Heap → Prop) : Ex → Fr → Heap → Prop := seqK (fun fr h => ev PP true none (sub (bodyOf Try.f16) [1, 1, 1]) (subA ref01_May_ann [1, 1, 1]) (fr.mask 1) (bodyK PP Try.f16 Q) h) (bodyK PP Try.f16 Q)
@[irreducible] def ref01_May_K1101 (Q : Value → Heap → Prop) : Ex → Fr → Heap → Prop := blockK 0 (ref01_May_K11 Q)
@[irreducible] def ref01_May_L11010 (v0 : Int) (n1 : Int) (i5 : Int) (K : Ex → Fr → Heap → Prop) (h : Heap) : Prop := Lp PP true (sub (bodyOf Try.f16) [1, 1, 0, 1, 0, 0]) (mkFr 0 21 [(0, (.int .u32 v0)), (1, (.int .i64 n1)), (5, (.int .i64 i5))]) K h
@[irreducible] def ref01_May_B11010 (K : Ex → Fr → Heap → Prop) : Ex → Fr → Heap → Prop := seqK (fun fr h => Lp PP true (sub (bodyOf Try.f16) [1, 1, 0, 1, 0, 0]) (fr.mask 35) K h) K
@[reducible] def ref01_May_J101_txt (v0 : Int) (n1 : Int) (t11 : Bool) (Q : Value → Heap → Prop) (h : Heap) : Prop :=
 br t11 (
 Q (.bool false) h) (
 ref01_May_L11010 v0 n1 0 (ref01_May_K1101 Q) h)
theorem ref01_May_J101_eq (v0 : Int) (n1 : Int) (t11 : Bool) (Q : Value → Heap → Prop) (h : Heap) : ev PP true none (sub (bodyOf Try.f16) [1, 0, 1]) (subA ref01_May_ann [1, 0, 1]) (mkFr 0 21 [(0, (.int .u32 v0)), (1, (.int .i64 n1)), (11, (.bool t11))]) (ref01_May_K1 Q) h = ref01_May_J101_txt v0 n1 t11 Q h := by kernel_rfl
theorem ref01_May_J101_of {v0 : Int} {n1 : Int} {t11 : Bool} {Q : Value → Heap → Prop} {h : Heap} (H : ref01_May_J101_txt v0 n1 t11 Q h) : ref01_May_J101 v0 n1 t11 Q h := by
   unfold ref01_May_J101; refine Jn.of_ev (x := subA ref01_May_ann [1, 0, 1]) ?_; exact (ref01_May_J101_eq v0 n1 t11 Q h).symm ▸ H
@[reducible] def ref01_May_L11010_txt (v0 : Int) (n1 : Int) (i5 : Int) (K : Ex → Fr → Heap → Prop) (h : Heap) : Prop :=
 let t14 : Bool := decide (i5 < n1)
 br t14 (
 let t18 : Int := IntKind.u32.wrap (Int.tdiv v0 2)
 let t16 : Int := IntKind.i64.wrap (i5 + 1)
 ref01_May_L11010 t18 n1 t16 K h) (
 K (.exit 0) (ref01_May_X0 v0) h)
theorem ref01_May_L11010_eq (v0 : Int) (n1 : Int) (i5 : Int) (K : Ex → Fr → Heap → Prop) (h : Heap) : ev PP true none (sub (bodyOf Try.f16) [1, 1, 0, 1, 0, 0]) (subA ref01_May_ann [1, 1, 0, 1, 0, 0]) (mkFr 0 21 [(0, (.int .u32 v0)), (1, (.int .i64 n1)), (5, (.int .i64 i5))]) (seqK (fun fr h => Lp PP true (sub (bodyOf Try.f16) [1, 1, 0, 1, 0, 0]) (fr.mask 35) K h) K) h = ref01_May_L11010_txt v0 n1 i5 K h := by kernel_rfl
theorem ref01_May_L11010_of {v0 : Int} {n1 : Int} {i5 : Int} {K : Ex → Fr → Heap → Prop} {h : Heap} (H : ref01_May_L11010_txt v0 n1 i5 K h) : ref01_May_L11010 v0 n1 i5 K h := by
   unfold ref01_May_L11010; refine Lp.of_ev (x := subA ref01_May_ann [1, 1, 0, 1, 0, 0]) (keep := 35) ?_; exact (ref01_May_L11010_eq v0 n1 i5 K h).symm ▸ H
theorem ref01_May_at11010_X0 (Q : Value → Heap → Prop) (v0 : Int) (h : Heap) : (ref01_May_K1101 Q) (.exit 0) (ref01_May_X0 v0) h = (
 let t20 : Bool := (v0 == 0)
 Q (.bool t20) h) := by kernel_rfl
def ref01_May_main (v0 : Int) (n1 : Int) (Q : Value → Heap → Prop) (h : Heap) : Prop :=
 let t7 : Bool := decide (n1 < 0)
 br t7 (
 ref01_May_J101 v0 n1 true Q h) (
 let t10 : Bool := decide (n1 > 32)
 ref01_May_J101 v0 n1 t10 Q h)
theorem ref01_May_eq (v0 : Int) (n1 : Int) (Q : Value → Heap → Prop) (h : Heap) : ev PP true none (bodyOf Try.f16) ref01_May_ann (initFr 21 [(.int .u32 v0), (.int .i64 n1)]) (bodyK PP Try.f16 Q) h = ref01_May_main v0 n1 Q h := by kernel_rfl
theorem ref01_May_door {v0 : Int} {n1 : Int} {Q : Value → Heap → Prop} {h : Heap} (H : ref01_May_main v0 n1 Q h) : SpecH PP F_ref01_May [(.int .u32 v0), (.int .i64 n1)] h Q :=
   spec_of_ev Try.func16 rfl rfl ((ref01_May_eq v0 n1 Q h).symm ▸ H)
/-! ### haversack/haversackref01.Put: function 17 -/
def ref01_Put_ann : Ann := (.seq 7 (.region [(List.range 1, 7)]) (.seq 1 (.seq 135 (.region [(List.range 1, 135)]) (.block (.loop 135 (.seq 135 (.seq 1159 (.region [(List.range 3, 1159)]) (.cond .leaf (.exit 1))) (.seq 135 (.block (.seq 135 (.region [(List.range 7, 135)]) (.region [(List.range 3, 135)]))) (.region [(List.range 3, 135)])))))) (.seq 64 (.region [(List.range 2, 64)]) (.exit 64))))
@[irreducible] def ref01_Put_X0 (l0 : Option Addr) (l0n : Nat) (l0c : Nat) : Fr := (mkFr 0 22 [(0, (.slice l0 l0n l0c))])
@[irreducible] def ref01_Put_L1010 (l0 : Option Addr) (l0n : Nat) (l0c : Nat) (v1 : Int) (n2 : Int) (i7 : Int) (K : Ex → Fr → Heap → Prop) (h : Heap) : Prop := Lp PP true (sub (bodyOf Try.f17) [1, 0, 1, 0, 0]) (mkFr 0 22 [(0, (.slice l0 l0n l0c)), (1, (.int .u32 v1)), (2, (.int .i64 n2)), (7, (.int .i64 i7))]) K h
@[irreducible] def ref01_Put_B1010 (K : Ex → Fr → Heap → Prop) : Ex → Fr → Heap → Prop := seqK (fun fr h => Lp PP true (sub (bodyOf Try.f17) [1, 0, 1, 0, 0]) (fr.mask 135) K h) K
@[irreducible] def ref01_Put_K1 (Q : Value → Heap → Prop) : Ex → Fr → Heap → Prop := seqK (fun fr h => ev PP true none (sub (bodyOf Try.f17) [1, 1]) (subA ref01_Put_ann [1, 1]) (fr.mask 1) (bodyK PP Try.f17 Q) h) (bodyK PP Try.f17 Q)
@[irreducible] def ref01_Put_K101 (Q : Value → Heap → Prop) : Ex → Fr → Heap → Prop := blockK 0 (ref01_Put_K1 Q)
@[reducible] def ref01_Put_L1010_txt (l0 : Option Addr) (l0n : Nat) (l0c : Nat) (v1 : Int) (n2 : Int) (i7 : Int) (K : Ex → Fr → Heap → Prop) (h : Heap) : Prop :=
 let t10 : Bool := decide (i7 < n2)
 br t10 (
 let t15 : Int := Int.tmod v1 2
 let t16 : Int := IntKind.u8.wrap t15
 let h1 : Heap := Array.push h (.cells #[(.int .u8 t16)] T_uint8 (0, 0))
 hwp PP (Builtin.append_ #[T_sl_uint8, T_sl_uint8] T_sl_uint8 #[(.slice l0 l0n l0c), (.slice (some ⟨Array.size h, 0, none⟩) 1 1)]) (fun v h2 => ∃ (t18 : Option Addr) (t18n : Nat) (t18c : Nat), v = (.slice t18 t18n t18c) ∧
 let t20 : Int := IntKind.u32.wrap (Int.tdiv v1 2)
 let t12 : Int := IntKind.i64.wrap (i7 + 1)
 ref01_Put_L1010 t18 t18n t18c t20 n2 t12 K h2) h1) (
 K (.exit 0) (ref01_Put_X0 l0 l0n l0c) h)
theorem ref01_Put_L1010_eq (l0 : Option Addr) (l0n : Nat) (l0c : Nat) (v1 : Int) (n2 : Int) (i7 : Int) (K : Ex → Fr → Heap → Prop) (h : Heap) : ev PP true none (sub (bodyOf Try.f17) [1, 0, 1, 0, 0]) (subA ref01_Put_ann [1, 0, 1, 0, 0]) (mkFr 0 22 [(0, (.slice l0 l0n l0c)), (1, (.int .u32 v1)), (2, (.int .i64 n2)), (7, (.int .i64 i7))]) (seqK (fun fr h => Lp PP true (sub (bodyOf Try.f17) [1, 0, 1, 0, 0]) (fr.mask 135) K h) K) h = ref01_Put_L1010_txt l0 l0n l0c v1 n2 i7 K h := by kernel_rfl
theorem ref01_Put_L1010_of {l0 : Option Addr} {l0n : Nat} {l0c : Nat} {v1 : Int} {n2 : Int} {i7 : Int} {K : Ex → Fr → Heap → Prop} {h : Heap} (H : ref01_Put_L1010_txt l0 l0n l0c v1 n2 i7 K h) : ref01_Put_L1010 l0 l0n l0c v1 n2 i7 K h := by
   unfold ref01_Put_L1010; refine Lp.of_ev (x := subA ref01_Put_ann [1, 0, 1, 0, 0]) (keep := 135) ?_; exact (ref01_Put_L1010_eq l0 l0n l0c v1 n2 i7 K h).symm ▸ H
theorem ref01_Put_at1010_X0 (Q : Value → Heap → Prop) (l0 : Option Addr) (l0n : Nat) (l0c : Nat) (h : Heap) : (ref01_Put_K101 Q) (.exit 0) (ref01_Put_X0 l0 l0n l0c) h = (
 Q (.slice l0 l0n l0c) h) := by kernel_rfl
def ref01_Put_main (l0 : Option Addr) (l0n : Nat) (l0c : Nat) (v1 : Int) (n2 : Int) (Q : Value → Heap → Prop) (h : Heap) : Prop :=
 ref01_Put_L1010 l0 l0n l0c v1 n2 0 (ref01_Put_K101 Q) h
theorem ref01_Put_eq (l0 : Option Addr) (l0n : Nat) (l0c : Nat) (v1 : Int) (n2 : Int) (Q : Value → Heap → Prop) (h : Heap) : ev PP true none (bodyOf Try.f17) ref01_Put_ann (initFr 22 [(.slice l0 l0n l0c), (.int .u32 v1), (.int .i64 n2)]) (bodyK PP Try.f17 Q) h = ref01_Put_main l0 l0n l0c v1 n2 Q h := by kernel_rfl
theorem ref01_Put_door {l0 : Option Addr} {l0n : Nat} {l0c : Nat} {v1 : Int} {n2 : Int} {Q : Value → Heap → Prop} {h : Heap} (H : ref01_Put_main l0 l0n l0c v1 n2 Q h) : SpecH PP F_ref01_Put [(.slice l0 l0n l0c), (.int .u32 v1), (.int .i64 n2)] h Q :=
   spec_of_ev Try.func17 rfl rfl ((ref01_Put_eq l0 l0n l0c v1 n2 Q h).symm ▸ H)
/-! ### haversack/haversackref01.Align: function 18 -/
def ref01_Align_ann : Ann := (.seq 1 (.region [(List.range 1, 1)]) (.seq 1 (.block (.loop 1 (.seq 1 (.seq 65 (.region [(List.range 4, 65)]) (.cond .leaf (.exit 1))) (.block (.region [(List.range 4, 1)]))))) (.seq 4 (.region [(List.range 2, 4)]) (.exit 4))))
@[irreducible] def ref01_Align_X0 (l0 : Option Addr) (l0n : Nat) (l0c : Nat) : Fr := (mkFr 0 11 [(0, (.slice l0 l0n l0c))])
@[irreducible] def ref01_Align_L100 (l0 : Option Addr) (l0n : Nat) (l0c : Nat) (K : Ex → Fr → Heap → Prop) (h : Heap) : Prop := Lp PP true (sub (bodyOf Try.f18) [1, 0, 0, 0]) (mkFr 0 11 [(0, (.slice l0 l0n l0c))]) K h
@[irreducible] def ref01_Align_B100 (K : Ex → Fr → Heap → Prop) : Ex → Fr → Heap → Prop := seqK (fun fr h => Lp PP true (sub (bodyOf Try.f18) [1, 0, 0, 0]) (fr.mask 1) K h) K
@[irreducible] def ref01_Align_K1 (Q : Value → Heap → Prop) : Ex → Fr → Heap → Prop := seqK (fun fr h => ev PP true none (sub (bodyOf Try.f18) [1, 1]) (subA ref01_Align_ann [1, 1]) (fr.mask 1) (bodyK PP Try.f18 Q) h) (bodyK PP Try.f18 Q)
@[irreducible] def ref01_Align_K10 (Q : Value → Heap → Prop) : Ex → Fr → Heap → Prop := blockK 0 (ref01_Align_K1 Q)
@[reducible] def ref01_Align_L100_txt (l0 : Option Addr) (l0n : Nat) (l0c : Nat) (K : Ex → Fr → Heap → Prop) (h : Heap) : Prop :=
 let t5 : Int := Int.tmod (l0n : Int) 8
 let t6 : Bool := (t5 != 0)
 br t6 (
 let h1 : Heap := Array.push h (.cells #[(.int .u8 0)] T_uint8 (0, 0))
 hwp PP (Builtin.append_ #[T_sl_uint8, T_sl_uint8] T_sl_uint8 #[(.slice l0 l0n l0c), (.slice (some ⟨Array.size h, 0, none⟩) 1 1)]) (fun v h2 => ∃ (t9 : Option Addr) (t9n : Nat) (t9c : Nat), v = (.slice t9 t9n t9c) ∧
 ref01_Align_L100 t9 t9n t9c K h2) h1) (
 K (.exit 0) (ref01_Align_X0 l0 l0n l0c) h)
theorem ref01_Align_L100_eq (l0 : Option Addr) (l0n : Nat) (l0c : Nat) (K : Ex → Fr → Heap → Prop) (h : Heap) : ev PP true none (sub (bodyOf Try.f18) [1, 0, 0, 0]) (subA ref01_Align_ann [1, 0, 0, 0]) (mkFr 0 11 [(0, (.slice l0 l0n l0c))]) (seqK (fun fr h => Lp PP true (sub (bodyOf Try.f18) [1, 0, 0, 0]) (fr.mask 1) K h) K) h = ref01_Align_L100_txt l0 l0n l0c K h := by kernel_rfl
theorem ref01_Align_L100_of {l0 : Option Addr} {l0n : Nat} {l0c : Nat} {K : Ex → Fr → Heap → Prop} {h : Heap} (H : ref01_Align_L100_txt l0 l0n l0c K h) : ref01_Align_L100 l0 l0n l0c K h := by
   unfold ref01_Align_L100; refine Lp.of_ev (x := subA ref01_Align_ann [1, 0, 0, 0]) (keep := 1) ?_; exact (ref01_Align_L100_eq l0 l0n l0c K h).symm ▸ H
theorem ref01_Align_at100_X0 (Q : Value → Heap → Prop) (l0 : Option Addr) (l0n : Nat) (l0c : Nat) (h : Heap) : (ref01_Align_K10 Q) (.exit 0) (ref01_Align_X0 l0 l0n l0c) h = (
 Q (.slice l0 l0n l0c) h) := by kernel_rfl
def ref01_Align_main (l0 : Option Addr) (l0n : Nat) (l0c : Nat) (Q : Value → Heap → Prop) (h : Heap) : Prop :=
 ref01_Align_L100 l0 l0n l0c (ref01_Align_K10 Q) h
theorem ref01_Align_eq (l0 : Option Addr) (l0n : Nat) (l0c : Nat) (Q : Value → Heap → Prop) (h : Heap) : ev PP true none (bodyOf Try.f18) ref01_Align_ann (initFr 11 [(.slice l0 l0n l0c)]) (bodyK PP Try.f18 Q) h = ref01_Align_main l0 l0n l0c Q h := by kernel_rfl
theorem ref01_Align_door {l0 : Option Addr} {l0n : Nat} {l0c : Nat} {Q : Value → Heap → Prop} {h : Heap} (H : ref01_Align_main l0 l0n l0c Q h) : SpecH PP F_ref01_Align [(.slice l0 l0n l0c)] h Q :=
   spec_of_ev Try.func18 rfl rfl ((ref01_Align_eq l0 l0n l0c Q h).symm ▸ H)
/-! ### (*haversack/bits.Writer).Align: function 19 -/
def bits_Writer_Align_ann : Ann := (.seq 1 (.region [(List.range 1, 1)]) (.seq 1 (.seq 17 (.region [(List.range 2, 17)]) (.cond (.seq 4 (.region [(List.range 1, 4)]) (.exit 4)) .leaf)) (.seq 0 (.region [(List.range 10, 0)]) (.seq 4 (.region [(List.range 1, 4)]) (.exit 4)))))
def bits_Writer_Align_main (w0 : Option Addr) (Q : Value → Heap → Prop) (h : Heap) : Prop :=
 let t4 : Bool := (Option.isNone w0)
 br t4 (
 Q (.int .i64 3) h) (
 nilc w0 (fun t7 =>
 ∃ (t9 : Option Addr) (t9n : Nat) (t9c : Nat), cellH h t7 = some (.slice t9 t9n t9c) ∧
 let t11 : Int := IntKind.i64.wrap (8 * (t9n : Int))
 nilc w0 (fun t12 =>
 wr (Addr.add t12 1) (.int .i64 t11) (fun h1 =>
 Q (.int .i64 0) h1) h)))
theorem bits_Writer_Align_eq (w0 : Option Addr) (Q : Value → Heap → Prop) (h : Heap) : ev PP true none (bodyOf Try.f19) bits_Writer_Align_ann (initFr 14 [(.pointer w0)]) (bodyK PP Try.f19 Q) h = bits_Writer_Align_main w0 Q h := by kernel_rfl
theorem bits_Writer_Align_door {w0 : Option Addr} {Q : Value → Heap → Prop} {h : Heap} (H : bits_Writer_Align_main w0 Q h) : SpecH PP F_bits_Writer_Align [(.pointer w0)] h Q :=
   spec_of_ev Try.func19 rfl rfl ((bits_Writer_Align_eq w0 Q h).symm ▸ H)
/-! ### haversack/haversackref01.Bytes: function 20 -/
def ref01_Bytes_ann : Ann := (.seq 1 (.region [(List.range 1, 1)]) (.seq 9 (.region [(List.range 1, 9)]) (.seq 8 (.seq 25 (.region [(List.range 1, 25)]) (.block (.loop 25 (.seq 25 (.seq 2073 (.region [(List.range 4, 2073)]) (.cond .leaf (.exit 8))) (.seq 25 (.block (.seq 57 (.region [(List.range 1, 57)]) (.seq 121 (.region [(List.range 1, 121)]) (.seq 57 (.seq 249 (.region [(List.range 2, 249)]) (.block (.loop 249 (.seq 249 (.seq 16777465 (.region [(List.range 10, 16777465)]) (.cond .leaf (.exit 57))) (.seq 249 (.block (.seq 249 (.region [(List.range 10, 249)]) (.region [(List.range 3, 249)]))) (.region [(List.range 3, 249)])))))) (.region [(List.range 6, 25)]))))) (.region [(List.range 3, 25)])))))) (.seq 4 (.region [(List.range 2, 4)]) (.exit 4)))))
@[irreducible] def ref01_Bytes_X0 (out3 : Option Addr) (out3n : Nat) (out3c : Nat) : Fr := (mkFr 0 44 [(3, (.slice out3 out3n out3c))])
@[irreducible] def ref01_Bytes_X2 (l0 : Option Addr) (l0n : Nat) (l0c : Nat) (out3 : Option Addr) (out3n : Nat) (out3c : Nat) (i4 : Int) (c5 : Int) : Fr := (mkFr 0 44 [(0, (.slice l0 l0n l0c)), (3, (.slice out3 out3n out3c)), (4, (.int .i64 i4)), (5, (.int .i64 c5))])
@[irreducible] def ref01_Bytes_L11010 (l0 : Option Addr) (l0n : Nat) (l0c : Nat) (out3 : Option Addr) (out3n : Nat) (out3c : Nat) (i4 : Int) (K : Ex → Fr → Heap → Prop) (h : Heap) : Prop := Lp PP true (sub (bodyOf Try.f20) [1, 1, 0, 1, 0, 0]) (mkFr 0 44 [(0, (.slice l0 l0n l0c)), (3, (.slice out3 out3n out3c)), (4, (.int .i64 i4))]) K h
@[irreducible] def ref01_Bytes_B11010 (K : Ex → Fr → Heap → Prop) : Ex → Fr → Heap → Prop := seqK (fun fr h => Lp PP true (sub (bodyOf Try.f20) [1, 1, 0, 1, 0, 0]) (fr.mask 25) K h) K
@[irreducible] def ref01_Bytes_K11 (Q : Value → Heap → Prop) : Ex → Fr → Heap → Prop := seqK (fun fr h => ev PP true none (sub (bodyOf Try.f20) [1, 1, 1]) (subA ref01_Bytes_ann [1, 1, 1]) (fr.mask 8) (bodyK PP Try.f20 Q) h) (bodyK PP Try.f20 Q)
@[irreducible] def ref01_Bytes_K1101 (Q : Value → Heap → Prop) : Ex → Fr → Heap → Prop := blockK 0 (ref01_Bytes_K11 Q)
@[irreducible] def ref01_Bytes_K1101001 (K : Ex → Fr → Heap → Prop) : Ex → Fr → Heap → Prop := seqK (fun fr h => ev PP true none (sub (bodyOf Try.f20) [1, 1, 0, 1, 0, 0, 1, 1]) (subA ref01_Bytes_ann [1, 1, 0, 1, 0, 0, 1, 1]) (fr.mask 25) (ref01_Bytes_B11010 K) h) (ref01_Bytes_B11010 K)
@[irreducible] def ref01_Bytes_K11010010 (K : Ex → Fr → Heap → Prop) : Ex → Fr → Heap → Prop := blockK 1 (ref01_Bytes_K1101001 K)
@[irreducible] def ref01_Bytes_K11010010011 (K : Ex → Fr → Heap → Prop) : Ex → Fr → Heap → Prop := seqK (fun fr h => ev PP true none (sub (bodyOf Try.f20) [1, 1, 0, 1, 0, 0, 1, 0, 0, 1, 1, 1]) (subA ref01_Bytes_ann [1, 1, 0, 1, 0, 0, 1, 0, 0, 1, 1, 1]) (fr.mask 57) (ref01_Bytes_K11010010 K) h) (ref01_Bytes_K11010010 K)
@[irreducible] def ref01_Bytes_K1101001001101 (K : Ex → Fr → Heap → Prop) : Ex → Fr → Heap → Prop := blockK 2 (ref01_Bytes_K11010010011 K)
@[irreducible] def ref01_Bytes_L11010010011010 (l0 : Option Addr) (l0n : Nat) (l0c : Nat) (out3 : Option Addr) (out3n : Nat) (out3c : Nat) (i4 : Int) (c5 : Int) (weight6 : Int) (k7 : Int) (K : Ex → Fr → Heap → Prop) (h : Heap) : Prop := Lp PP true (sub (bodyOf Try.f20) [1, 1, 0, 1, 0, 0, 1, 0, 0, 1, 1, 0, 1, 0, 0]) (mkFr 0 44 [(0, (.slice l0 l0n l0c)), (3, (.slice out3 out3n out3c)), (4, (.int .i64 i4)), (5, (.int .i64 c5)), (6, (.int .i64 weight6)), (7, (.int .i64 k7))]) K h
@[irreducible] def ref01_Bytes_B11010010011010 (K : Ex → Fr → Heap → Prop) : Ex → Fr → Heap → Prop := seqK (fun fr h => Lp PP true (sub (bodyOf Try.f20) [1, 1, 0, 1, 0, 0, 1, 0, 0, 1, 1, 0, 1, 0, 0]) (fr.mask 249) K h) K
@[reducible] def ref01_Bytes_L11010_txt (l0 : Option Addr) (l0n : Nat) (l0c : Nat) (out3 : Option Addr) (out3n : Nat) (out3c : Nat) (i4 : Int) (K : Ex → Fr → Heap → Prop) (h : Heap) : Prop :=
 let t11 : Bool := decide (i4 < (l0n : Int))
 br t11 (
 ref01_Bytes_L11010010011010 l0 l0n l0c out3 out3n out3c i4 0 1 i4 (ref01_Bytes_K1101001001101 K) h) (
 K (.exit 0) (ref01_Bytes_X0 out3 out3n out3c) h)
theorem ref01_Bytes_L11010_eq (l0 : Option Addr) (l0n : Nat) (l0c : Nat) (out3 : Option Addr) (out3n : Nat) (out3c : Nat) (i4 : Int) (K : Ex → Fr → Heap → Prop) (h : Heap) : ev PP true none (sub (bodyOf Try.f20) [1, 1, 0, 1, 0, 0]) (subA ref01_Bytes_ann [1, 1, 0, 1, 0, 0]) (mkFr 0 44 [(0, (.slice l0 l0n l0c)), (3, (.slice out3 out3n out3c)), (4, (.int .i64 i4))]) (seqK (fun fr h => Lp PP true (sub (bodyOf Try.f20) [1, 1, 0, 1, 0, 0]) (fr.mask 25) K h) K) h = ref01_Bytes_L11010_txt l0 l0n l0c out3 out3n out3c i4 K h := by kernel_rfl
theorem ref01_Bytes_L11010_of {l0 : Option Addr} {l0n : Nat} {l0c : Nat} {out3 : Option Addr} {out3n : Nat} {out3c : Nat} {i4 : Int} {K : Ex → Fr → Heap → Prop} {h : Heap} (H : ref01_Bytes_L11010_txt l0 l0n l0c out3 out3n out3c i4 K h) : ref01_Bytes_L11010 l0 l0n l0c out3 out3n out3c i4 K h := by
   unfold ref01_Bytes_L11010; refine Lp.of_ev (x := subA ref01_Bytes_ann [1, 1, 0, 1, 0, 0]) (keep := 25) ?_; exact (ref01_Bytes_L11010_eq l0 l0n l0c out3 out3n out3c i4 K h).symm ▸ H
theorem ref01_Bytes_at11010_X0 (Q : Value → Heap → Prop) (out3 : Option Addr) (out3n : Nat) (out3c : Nat) (h : Heap) : (ref01_Bytes_K1101 Q) (.exit 0) (ref01_Bytes_X0 out3 out3n out3c) h = (
 Q (.slice out3 out3n out3c) h) := by kernel_rfl
@[reducible] def ref01_Bytes_L11010010011010_txt (l0 : Option Addr) (l0n : Nat) (l0c : Nat) (out3 : Option Addr) (out3n : Nat) (out3c : Nat) (i4 : Int) (c5 : Int) (weight6 : Int) (k7 : Int) (K : Ex → Fr → Heap → Prop) (h : Heap) : Prop :=
 let t17 : Int := IntKind.i64.wrap (i4 + 8)
 let t18 : Bool := decide (k7 < t17)
 br t18 (
 let t23 : Bool := decide (k7 < (l0n : Int))
 br t23 (
 hwp PP (Instr.indexAt T_sl_uint8 (.slice l0 l0n l0c) (.int .i64 k7)) (fun v h1 => ∃ (t30 : Addr), v = (.pointer (some t30)) ∧
 ∃ (t31 : Int), cellH h1 t30 = some (.int .u8 t31) ∧
 let t32 : Int := IntKind.i64.wrap t31
 let t34 : Int := IntKind.i64.wrap (t32 * weight6)
 let t35 : Int := IntKind.i64.wrap (c5 + t34)
 let t37 : Int := IntKind.i64.wrap (2 * weight6)
 let t26 : Int := IntKind.i64.wrap (k7 + 1)
 ref01_Bytes_L11010010011010 l0 l0n l0c out3 out3n out3c i4 t35 t37 t26 K h1) h) (
 K (.exit 2) (ref01_Bytes_X2 l0 l0n l0c out3 out3n out3c i4 c5) h)) (
 K (.exit 2) (ref01_Bytes_X2 l0 l0n l0c out3 out3n out3c i4 c5) h)
theorem ref01_Bytes_L11010010011010_eq (l0 : Option Addr) (l0n : Nat) (l0c : Nat) (out3 : Option Addr) (out3n : Nat) (out3c : Nat) (i4 : Int) (c5 : Int) (weight6 : Int) (k7 : Int) (K : Ex → Fr → Heap → Prop) (h : Heap) : ev PP true none (sub (bodyOf Try.f20) [1, 1, 0, 1, 0, 0, 1, 0, 0, 1, 1, 0, 1, 0, 0]) (subA ref01_Bytes_ann [1, 1, 0, 1, 0, 0, 1, 0, 0, 1, 1, 0, 1, 0, 0]) (mkFr 0 44 [(0, (.slice l0 l0n l0c)), (3, (.slice out3 out3n out3c)), (4, (.int .i64 i4)), (5, (.int .i64 c5)), (6, (.int .i64 weight6)), (7, (.int .i64 k7))]) (seqK (fun fr h => Lp PP true (sub (bodyOf Try.f20) [1, 1, 0, 1, 0, 0, 1, 0, 0, 1, 1, 0, 1, 0, 0]) (fr.mask 249) K h) K) h = ref01_Bytes_L11010010011010_txt l0 l0n l0c out3 out3n out3c i4 c5 weight6 k7 K h := by kernel_rfl
theorem ref01_Bytes_L11010010011010_of {l0 : Option Addr} {l0n : Nat} {l0c : Nat} {out3 : Option Addr} {out3n : Nat} {out3c : Nat} {i4 : Int} {c5 : Int} {weight6 : Int} {k7 : Int} {K : Ex → Fr → Heap → Prop} {h : Heap} (H : ref01_Bytes_L11010010011010_txt l0 l0n l0c out3 out3n out3c i4 c5 weight6 k7 K h) : ref01_Bytes_L11010010011010 l0 l0n l0c out3 out3n out3c i4 c5 weight6 k7 K h := by
   unfold ref01_Bytes_L11010010011010; refine Lp.of_ev (x := subA ref01_Bytes_ann [1, 1, 0, 1, 0, 0, 1, 0, 0, 1, 1, 0, 1, 0, 0]) (keep := 249) ?_; exact (ref01_Bytes_L11010010011010_eq l0 l0n l0c out3 out3n out3c i4 c5 weight6 k7 K h).symm ▸ H
theorem ref01_Bytes_at11010010011010_X2 (K : Ex → Fr → Heap → Prop) (l0 : Option Addr) (l0n : Nat) (l0c : Nat) (out3 : Option Addr) (out3n : Nat) (out3c : Nat) (i4 : Int) (c5 : Int) (h : Heap) : (ref01_Bytes_K1101001001101 K) (.exit 2) (ref01_Bytes_X2 l0 l0n l0c out3 out3n out3c i4 c5) h = (
 let t40 : Int := IntKind.u8.wrap c5
 let h1 : Heap := Array.push h (.cells #[(.int .u8 t40)] T_uint8 (0, 0))
 hwp PP (Builtin.append_ #[T_sl_uint8, T_sl_uint8] T_sl_uint8 #[(.slice out3 out3n out3c), (.slice (some ⟨Array.size h, 0, none⟩) 1 1)]) (fun v h2 => ∃ (t42 : Option Addr) (t42n : Nat) (t42c : Nat), v = (.slice t42 t42n t42c) ∧
 let t13 : Int := IntKind.i64.wrap (i4 + 8)
 ref01_Bytes_L11010 l0 l0n l0c t42 t42n t42c t13 K h2) h1) := by kernel_rfl
def ref01_Bytes_main (l0 : Option Addr) (l0n : Nat) (l0c : Nat) (Q : Value → Heap → Prop) (h : Heap) : Prop :=
 ref01_Bytes_L11010 l0 l0n l0c none 0 0 0 (ref01_Bytes_K1101 Q) h
theorem ref01_Bytes_eq (l0 : Option Addr) (l0n : Nat) (l0c : Nat) (Q : Value → Heap → Prop) (h : Heap) : ev PP true none (bodyOf Try.f20) ref01_Bytes_ann (initFr 44 [(.slice l0 l0n l0c)]) (bodyK PP Try.f20 Q) h = ref01_Bytes_main l0 l0n l0c Q h := by kernel_rfl
theorem ref01_Bytes_door {l0 : Option Addr} {l0n : Nat} {l0c : Nat} {Q : Value → Heap → Prop} {h : Heap} (H : ref01_Bytes_main l0 l0n l0c Q h) : SpecH PP F_ref01_Bytes [(.slice l0 l0n l0c)] h Q :=
   spec_of_ev Try.func20 rfl rfl ((ref01_Bytes_eq l0 l0n l0c Q h).symm ▸ H)
/-! ### haversack/haversackkeep.Spoil: function 21 -/
def keep_Spoil_ann : Ann := (.seq 1 (.region [(List.range 5, 1)]) (.seq 5 (.region [(List.range 1, 5)]) (.block (.loop 5 (.seq 5 (.seq 1029 (.region [(List.range 4, 1029)]) (.cond .leaf (.exit 0))) (.seq 5 (.block (.region [(List.range 9, 5)])) (.region [(List.range 3, 5)])))))))
@[irreducible] def keep_Spoil_X0  : Fr := (mkFr 0 21 [])
@[irreducible] def keep_Spoil_L110 (b0 : Option Addr) (b0n : Nat) (b0c : Nat) (i2 : Int) (K : Ex → Fr → Heap → Prop) (h : Heap) : Prop := Lp PP true (sub (bodyOf Try.f21) [1, 1, 0, 0]) (mkFr 0 21 [(0, (.slice b0 b0n b0c)), (2, (.int .i64 i2))]) K h
@[irreducible] def keep_Spoil_B110 (K : Ex → Fr → Heap → Prop) : Ex → Fr → Heap → Prop := seqK (fun fr h => Lp PP true (sub (bodyOf Try.f21) [1, 1, 0, 0]) (fr.mask 5) K h) K
@[irreducible] def keep_Spoil_K11 (Q : Value → Heap → Prop) : Ex → Fr → Heap → Prop := blockK 0 (bodyK PP Try.f21 Q)
@[reducible] def keep_Spoil_L110_txt (b0 : Option Addr) (b0n : Nat) (b0c : Nat) (i2 : Int) (K : Ex → Fr → Heap → Prop) (h : Heap) : Prop :=
 let t10 : Bool := decide (i2 < (b0n : Int))
 br t10 (
 hwp PP (Instr.indexAt T_sl_uint8 (.slice b0 b0n b0c) (.int .i64 i2)) (fun v h1 => ∃ (t17 : Addr), v = (.pointer (some t17)) ∧
 ∃ (t18 : Int), cellH h1 t17 = some (.int .u8 t18) ∧
 let t19 : Int := IntKind.u8.wrap (t18 + 99)
 hwp PP (Instr.indexAt T_sl_uint8 (.slice b0 b0n b0c) (.int .i64 i2)) (fun v_1 h2 => ∃ (t20 : Addr), v_1 = (.pointer (some t20)) ∧
 wr t20 (.int .u8 t19) (fun h3 =>
 let t12 : Int := IntKind.i64.wrap (i2 + 1)
 keep_Spoil_L110 b0 b0n b0c t12 K h3) h2) h1) h) (
 K (.exit 0) (keep_Spoil_X0) h)
theorem keep_Spoil_L110_eq (b0 : Option Addr) (b0n : Nat) (b0c : Nat) (i2 : Int) (K : Ex → Fr → Heap → Prop) (h : Heap) : ev PP true none (sub (bodyOf Try.f21) [1, 1, 0, 0]) (subA keep_Spoil_ann [1, 1, 0, 0]) (mkFr 0 21 [(0, (.slice b0 b0n b0c)), (2, (.int .i64 i2))]) (seqK (fun fr h => Lp PP true (sub (bodyOf Try.f21) [1, 1, 0, 0]) (fr.mask 5) K h) K) h = keep_Spoil_L110_txt b0 b0n b0c i2 K h := by kernel_rfl
theorem keep_Spoil_L110_of {b0 : Option Addr} {b0n : Nat} {b0c : Nat} {i2 : Int} {K : Ex → Fr → Heap → Prop} {h : Heap} (H : keep_Spoil_L110_txt b0 b0n b0c i2 K h) : keep_Spoil_L110 b0 b0n b0c i2 K h := by
   unfold keep_Spoil_L110; refine Lp.of_ev (x := subA keep_Spoil_ann [1, 1, 0, 0]) (keep := 5) ?_; exact (keep_Spoil_L110_eq b0 b0n b0c i2 K h).symm ▸ H
theorem keep_Spoil_at110_X0 (Q : Value → Heap → Prop)  (h : Heap) : (keep_Spoil_K11 Q) (.exit 0) (keep_Spoil_X0 ) h = (
 Q (.tuple #[]) h) := by kernel_rfl
def keep_Spoil_main (b0 : Option Addr) (b0n : Nat) (b0c : Nat) (Q : Value → Heap → Prop) (h : Heap) : Prop :=
 hwp PP (Instr.sliceAt T_sl_uint8 (.slice b0 b0n b0c) none (some (.int .i64 (b0c : Int))) none) (fun v h1 => ∃ (t6 : Option Addr) (t6n : Nat) (t6c : Nat), v = (.slice t6 t6n t6c) ∧
 keep_Spoil_L110 t6 t6n t6c 0 (keep_Spoil_K11 Q) h1) h
theorem keep_Spoil_eq (b0 : Option Addr) (b0n : Nat) (b0c : Nat) (Q : Value → Heap → Prop) (h : Heap) : ev PP true none (bodyOf Try.f21) keep_Spoil_ann (initFr 21 [(.slice b0 b0n b0c)]) (bodyK PP Try.f21 Q) h = keep_Spoil_main b0 b0n b0c Q h := by kernel_rfl
theorem keep_Spoil_door {b0 : Option Addr} {b0n : Nat} {b0c : Nat} {Q : Value → Heap → Prop} {h : Heap} (H : keep_Spoil_main b0 b0n b0c Q h) : SpecH PP F_keep_Spoil [(.slice b0 b0n b0c)] h Q :=
   spec_of_ev Try.func21 rfl rfl ((keep_Spoil_eq b0 b0n b0c Q h).symm ▸ H)
/-! ### (*haversack/bits.Writer).Len: function 22 -/
def bits_Writer_Len_ann : Ann := (.seq 1 (.region [(List.range 1, 1)]) (.seq 1 (.seq 17 (.region [(List.range 2, 17)]) (.cond (.seq 4 (.region [(List.range 1, 4)]) (.exit 4)) .leaf)) (.seq 4 (.region [(List.range 5, 4)]) (.exit 4))))
def bits_Writer_Len_main (w0 : Option Addr) (Q : Value → Heap → Prop) (h : Heap) : Prop :=
 let t4 : Bool := (Option.isNone w0)
 br t4 (
 Q (.int .i64 0) h) (
 nilc w0 (fun t6 =>
 ∃ (t8 : Int), cellH h (Addr.add t6 1) = some (.int .i64 t8) ∧
 Q (.int .i64 t8) h))
theorem bits_Writer_Len_eq (w0 : Option Addr) (Q : Value → Heap → Prop) (h : Heap) : ev PP true none (bodyOf Try.f22) bits_Writer_Len_ann (initFr 9 [(.pointer w0)]) (bodyK PP Try.f22 Q) h = bits_Writer_Len_main w0 Q h := by kernel_rfl
theorem bits_Writer_Len_door {w0 : Option Addr} {Q : Value → Heap → Prop} {h : Heap} (H : bits_Writer_Len_main w0 Q h) : SpecH PP F_bits_Writer_Len [(.pointer w0)] h Q :=
   spec_of_ev Try.func22 rfl rfl ((bits_Writer_Len_eq w0 Q h).symm ▸ H)
/-! ### (*haversack/bits.Reader).Back: function 23 -/
def bits_Reader_Back_ann : Ann := (.seq 3 (.region [(List.range 1, 3)]) (.seq 3 (.block (.seq 35 (.region [(List.range 3, 35)]) (.cond (.seq 16 (.region [(List.range 1, 16)]) (.exit 16)) (.seq 259 (.region [(List.range 11, 259)]) (.join (.cond (.seq 16 (.region [(List.range 1, 16)]) (.exit 16)) .leaf)))))) (.seq 0 (.region [(List.range 9, 0)]) (.seq 16 (.region [(List.range 1, 16)]) (.exit 16)))))
@[irreducible] def bits_Reader_Back_K1 (Q : Value → Heap → Prop) : Ex → Fr → Heap → Prop := seqK (fun fr h => ev PP true none (sub (bodyOf Try.f23) [1, 1]) (subA bits_Reader_Back_ann [1, 1]) (fr.mask 3) (bodyK PP Try.f23 Q) h) (bodyK PP Try.f23 Q)
@[irreducible] def bits_Reader_Back_K10 (Q : Value → Heap → Prop) : Ex → Fr → Heap → Prop := blockK 0 (bits_Reader_Back_K1 Q)
@[irreducible] def bits_Reader_Back_J100111 (r0 : Option Addr) (n1 : Int) (t8 : Bool) (Q : Value → Heap → Prop) (h : Heap) : Prop := Jn PP true (sub (bodyOf Try.f23) [1, 0, 0, 1, 1, 1]) (mkFr 0 27 [(0, (.pointer r0)), (1, (.int .i64 n1)), (8, (.bool t8))]) (bits_Reader_Back_K10 Q) h
@[reducible] def bits_Reader_Back_J100111_txt (r0 : Option Addr) (n1 : Int) (t8 : Bool) (Q : Value → Heap → Prop) (h : Heap) : Prop :=
 br t8 (
 Q (.int .i64 1) h) (
 nilc r0 (fun t20 =>
 ∃ (t22 : Int), cellH h (Addr.add t20 1) = some (.int .i64 t22) ∧
 let t24 : Int := IntKind.i64.wrap (t22 - n1)
 nilc r0 (fun t25 =>
 wr (Addr.add t25 1) (.int .i64 t24) (fun h1 =>
 Q (.int .i64 0) h1) h)))
theorem bits_Reader_Back_J100111_eq (r0 : Option Addr) (n1 : Int) (t8 : Bool) (Q : Value → Heap → Prop) (h : Heap) : ev PP true none (sub (bodyOf Try.f23) [1, 0, 0, 1, 1, 1]) (subA bits_Reader_Back_ann [1, 0, 0, 1, 1, 1]) (mkFr 0 27 [(0, (.pointer r0)), (1, (.int .i64 n1)), (8, (.bool t8))]) (bits_Reader_Back_K10 Q) h = bits_Reader_Back_J100111_txt r0 n1 t8 Q h := by kernel_rfl
theorem bits_Reader_Back_J100111_of {r0 : Option Addr} {n1 : Int} {t8 : Bool} {Q : Value → Heap → Prop} {h : Heap} (H : bits_Reader_Back_J100111_txt r0 n1 t8 Q h) : bits_Reader_Back_J100111 r0 n1 t8 Q h := by
   unfold bits_Reader_Back_J100111; refine Jn.of_ev (x := subA bits_Reader_Back_ann [1, 0, 0, 1, 1, 1]) ?_; exact (bits_Reader_Back_J100111_eq r0 n1 t8 Q h).symm ▸ H
def bits_Reader_Back_main (r0 : Option Addr) (n1 : Int) (Q : Value → Heap → Prop) (h : Heap) : Prop :=
 let t7 : Bool := (Option.isNone r0)
 br t7 (
 Q (.int .i64 3) h) (
 let t10 : Bool := decide (n1 < 0)
 br t10 (
 bits_Reader_Back_J100111 r0 n1 true Q h) (
 nilc r0 (fun t14 =>
 ∃ (t16 : Int), cellH h (Addr.add t14 1) = some (.int .i64 t16) ∧
 let t17 : Bool := decide (n1 > t16)
 bits_Reader_Back_J100111 r0 n1 t17 Q h)))
theorem bits_Reader_Back_eq (r0 : Option Addr) (n1 : Int) (Q : Value → Heap → Prop) (h : Heap) : ev PP true none (bodyOf Try.f23) bits_Reader_Back_ann (initFr 27 [(.pointer r0), (.int .i64 n1)]) (bodyK PP Try.f23 Q) h = bits_Reader_Back_main r0 n1 Q h := by kernel_rfl
theorem bits_Reader_Back_door {r0 : Option Addr} {n1 : Int} {Q : Value → Heap → Prop} {h : Heap} (H : bits_Reader_Back_main r0 n1 Q h) : SpecH PP F_bits_Reader_Back [(.pointer r0), (.int .i64 n1)] h Q :=
   spec_of_ev Try.func23 rfl rfl ((bits_Reader_Back_eq r0 n1 Q h).symm ▸ H)
/-! ### (*haversack/bits.Reader).More: function 24 -/
def bits_Reader_More_ann : Ann := (.seq 3 (.region [(List.range 1, 3)]) (.seq 3 (.seq 67 (.region [(List.range 2, 67)]) (.cond (.seq 16 (.region [(List.range 1, 16)]) (.exit 16)) .leaf)) (.seq 0 (.region [(List.range 10, 0)]) (.seq 16 (.region [(List.range 1, 16)]) (.exit 16)))))
def bits_Reader_More_main (r0 : Option Addr) (b1 : Option Addr) (b1n : Nat) (b1c : Nat) (Q : Value → Heap → Prop) (h : Heap) : Prop :=
 let t6 : Bool := (Option.isNone r0)
 br t6 (
 Q (.int .i64 3) h) (
 nilc r0 (fun t9 =>
 ∃ (t11 : Option Addr) (t11n : Nat) (t11c : Nat), cellH h t9 = some (.slice t11 t11n t11c) ∧
 hwp PP (Builtin.append_ #[T_sl_uint8, T_sl_uint8] T_sl_uint8 #[(.slice t11 t11n t11c), (.slice b1 b1n b1c)]) (fun v h1 => ∃ (t13 : Option Addr) (t13n : Nat) (t13c : Nat), v = (.slice t13 t13n t13c) ∧
 nilc r0 (fun t14 =>
 wr t14 (.slice t13 t13n t13c) (fun h2 =>
 Q (.int .i64 0) h2) h1)) h))
theorem bits_Reader_More_eq (r0 : Option Addr) (b1 : Option Addr) (b1n : Nat) (b1c : Nat) (Q : Value → Heap → Prop) (h : Heap) : ev PP true none (bodyOf Try.f24) bits_Reader_More_ann (initFr 16 [(.pointer r0), (.slice b1 b1n b1c)]) (bodyK PP Try.f24 Q) h = bits_Reader_More_main r0 b1 b1n b1c Q h := by kernel_rfl
theorem bits_Reader_More_door {r0 : Option Addr} {b1 : Option Addr} {b1n : Nat} {b1c : Nat} {Q : Value → Heap → Prop} {h : Heap} (H : bits_Reader_More_main r0 b1 b1n b1c Q h) : SpecH PP F_bits_Reader_More [(.pointer r0), (.slice b1 b1n b1c)] h Q :=
   spec_of_ev Try.func24 rfl rfl ((bits_Reader_More_eq r0 b1 b1n b1c Q h).symm ▸ H)
/-! ### (*haversack/bits.Reader).Align: function 25 -/
def bits_Reader_Align_ann : Ann := (.seq 1 (.region [(List.range 1, 1)]) (.seq 1 (.seq 17 (.region [(List.range 2, 17)]) (.cond (.seq 4 (.region [(List.range 1, 4)]) (.exit 4)) .leaf)) (.seq 0 (.region [(List.range 11, 0)]) (.seq 4 (.region [(List.range 1, 4)]) (.exit 4)))))
def bits_Reader_Align_main (r0 : Option Addr) (Q : Value → Heap → Prop) (h : Heap) : Prop :=
 let t4 : Bool := (Option.isNone r0)
 br t4 (
 Q (.int .i64 3) h) (
 nilc r0 (fun t7 =>
 ∃ (t9 : Int), cellH h (Addr.add t7 1) = some (.int .i64 t9) ∧
 let t10 : Int := IntKind.i64.wrap (t9 + 7)
 let t11 : Int := IntKind.i64.wrap (Int.tdiv t10 8)
 let t12 : Int := IntKind.i64.wrap (t11 * 8)
 nilc r0 (fun t13 =>
 wr (Addr.add t13 1) (.int .i64 t12) (fun h1 =>
 Q (.int .i64 0) h1) h)))
theorem bits_Reader_Align_eq (r0 : Option Addr) (Q : Value → Heap → Prop) (h : Heap) : ev PP true none (bodyOf Try.f25) bits_Reader_Align_ann (initFr 15 [(.pointer r0)]) (bodyK PP Try.f25 Q) h = bits_Reader_Align_main r0 Q h := by kernel_rfl
theorem bits_Reader_Align_door {r0 : Option Addr} {Q : Value → Heap → Prop} {h : Heap} (H : bits_Reader_Align_main r0 Q h) : SpecH PP F_bits_Reader_Align [(.pointer r0)] h Q :=
   spec_of_ev Try.func25 rfl rfl ((bits_Reader_Align_eq r0 Q h).symm ▸ H)
end Go.Proofs.Ytbkbipfcohmpcaa
