/- What the functions of this text come to, as predicates on heaps (printed by my own program out of the dump), each with its proof against the program. -/
import Derived.Test.YtdjjchfhccmjgaaDoorHwLib
import Derived.Test.YtdjjchfhccmjgaaDoorProg
set_option linter.unusedVariables false
set_option maxRecDepth 100000
namespace Go.Proofs.YtdjjchfhccmjgaaDoor
open Go Go.HW
noncomputable abbrev PP : Program := Tryd.prog
abbrev T_int : TypeId := 3
abbrev T_bool : TypeId := 4
abbrev T_uint8 : TypeId := 5
abbrev T_string : TypeId := 9
abbrev T_struct_Kind_int_Body_string : TypeId := 22
abbrev T_api_Frame : TypeId := 23
abbrev T_sl_uint8 : TypeId := 25
abbrev T_api_Errno : TypeId := 26
abbrev T_sl_sl_uint8 : TypeId := 31
abbrev T_sl_api_Frame : TypeId := 36
abbrev T_sl_int : TypeId := 45
abbrev T_uint32 : TypeId := 51
abbrev T_uint64 : TypeId := 54
abbrev T_struct_rest_sl_uint8_wrong_api_Errno : TypeId := 55
abbrev T_frame_Decoder : TypeId := 56
abbrev T_16_uint32 : TypeId := 63
abbrev F_law18_FrameEncodes : FuncId := 3
abbrev F_law18_FrameFeeds : FuncId := 4
abbrev F_law18_FrameParts : FuncId := 5
abbrev F_law18_FrameRound : FuncId := 6
abbrev F_law18_FrameTells : FuncId := 7
abbrev F_law18_FrameNil : FuncId := 8
abbrev F_law18_awake : FuncId := 9
abbrev F_frame_Encode : FuncId := 10
abbrev F_ref18_Encode : FuncId := 11
abbrev F_keep_Bytes : FuncId := 12
abbrev F_law18_large : FuncId := 13
abbrev F_frame_New : FuncId := 14
abbrev F_keep_Lend : FuncId := 15
abbrev F_frame_Decoder_Feed : FuncId := 16
abbrev F_keep_Back : FuncId := 17
abbrev F_frame_Decoder_Wrong : FuncId := 18
abbrev F_frame_Decoder_Wants : FuncId := 19
abbrev F_ref18_Read : FuncId := 20
abbrev F_ref18_Same : FuncId := 21
abbrev F_ref18_Wants : FuncId := 22
abbrev F_little_Put32 : FuncId := 23
abbrev F_little_Sum : FuncId := 24
abbrev F_ref02_Put : FuncId := 25
abbrev F_ref02_Sum : FuncId := 26
abbrev F_little_Get32 : FuncId := 27
abbrev F_ref02_Get : FuncId := 28
abbrev F_little_put : FuncId := 29
abbrev F_little_More : FuncId := 30
abbrev F_ref02_More : FuncId := 31
abbrev F_little_get : FuncId := 32
abbrev F_slices_Backward_byte_byte : FuncId := 33
abbrev F_slices_Backward_byte_byte_1 : FuncId := 34
abbrev G_little_steps : Nat := 0
theorem C_int : PP.cellsOf T_int = 1 := by kernel_rfl
theorem U_int : PP.underlying T_int = some (.int .i64) := by kernel_rfl
theorem C_bool : PP.cellsOf T_bool = 1 := by kernel_rfl
theorem U_bool : PP.underlying T_bool = some .bool := by kernel_rfl
theorem C_uint8 : PP.cellsOf T_uint8 = 1 := by kernel_rfl
theorem U_uint8 : PP.underlying T_uint8 = some (.int .u8) := by kernel_rfl
theorem C_string : PP.cellsOf T_string = 1 := by kernel_rfl
theorem U_string : PP.underlying T_string = some .string := by kernel_rfl
theorem FL_struct_Kind_int_Body_string : fieldsOf PP T_struct_Kind_int_Body_string = [(T_int, 0, 1), (T_string, 1, 1)] := by kernel_rfl
theorem C_struct_Kind_int_Body_string : PP.cellsOf T_struct_Kind_int_Body_string = 2 := by kernel_rfl
theorem FL_api_Frame : fieldsOf PP T_api_Frame = [(T_int, 0, 1), (T_string, 1, 1)] := by kernel_rfl
theorem C_api_Frame : PP.cellsOf T_api_Frame = 2 := by kernel_rfl
theorem C_sl_uint8 : PP.cellsOf T_sl_uint8 = 1 := by kernel_rfl
theorem E_sl_uint8 : Elem PP T_sl_uint8 T_uint8 1 1 (.int .u8 0) := Elem.of (by kernel_rfl) (by kernel_rfl)
theorem U_sl_uint8 : PP.underlying T_sl_uint8 = some (.slice T_uint8) := by kernel_rfl
theorem C_api_Errno : PP.cellsOf T_api_Errno = 1 := by kernel_rfl
theorem U_api_Errno : PP.underlying T_api_Errno = some (.int .i64) := by kernel_rfl
theorem C_sl_sl_uint8 : PP.cellsOf T_sl_sl_uint8 = 1 := by kernel_rfl
theorem E_sl_sl_uint8 : Elem PP T_sl_sl_uint8 T_sl_uint8 1 24 (.slice none 0 0) := Elem.of (by kernel_rfl) (by kernel_rfl)
theorem U_sl_sl_uint8 : PP.underlying T_sl_sl_uint8 = some (.slice T_sl_uint8) := by kernel_rfl
theorem C_sl_api_Frame : PP.cellsOf T_sl_api_Frame = 1 := by kernel_rfl
theorem E_sl_api_Frame : Elem PP T_sl_api_Frame T_api_Frame 2 24 (.agg #[(.int .i64 0), (.string (⟨#[]⟩ : ByteArray))]) := Elem.of (by kernel_rfl) (by kernel_rfl)
theorem U_sl_api_Frame : PP.underlying T_sl_api_Frame = some (.slice T_api_Frame) := by kernel_rfl
theorem C_sl_int : PP.cellsOf T_sl_int = 1 := by kernel_rfl
theorem E_sl_int : Elem PP T_sl_int T_int 1 8 (.int .i64 0) := Elem.of (by kernel_rfl) (by kernel_rfl)
theorem U_sl_int : PP.underlying T_sl_int = some (.slice T_int) := by kernel_rfl
theorem C_uint32 : PP.cellsOf T_uint32 = 1 := by kernel_rfl
theorem U_uint32 : PP.underlying T_uint32 = some (.int .u32) := by kernel_rfl
theorem C_uint64 : PP.cellsOf T_uint64 = 1 := by kernel_rfl
theorem U_uint64 : PP.underlying T_uint64 = some (.int .u64) := by kernel_rfl
theorem FL_struct_rest_sl_uint8_wrong_api_Errno : fieldsOf PP T_struct_rest_sl_uint8_wrong_api_Errno = [(T_sl_uint8, 0, 1), (T_api_Errno, 1, 1)] := by kernel_rfl
theorem C_struct_rest_sl_uint8_wrong_api_Errno : PP.cellsOf T_struct_rest_sl_uint8_wrong_api_Errno = 2 := by kernel_rfl
theorem FL_frame_Decoder : fieldsOf PP T_frame_Decoder = [(T_sl_uint8, 0, 1), (T_api_Errno, 1, 1)] := by kernel_rfl
theorem C_frame_Decoder : PP.cellsOf T_frame_Decoder = 2 := by kernel_rfl
theorem C_16_uint32 : PP.cellsOf T_16_uint32 = 16 := by kernel_rfl
theorem U_16_uint32 : PP.underlying T_16_uint32 = some (.array 16 T_uint32) := by kernel_rfl
/-! ### haversack/haversacklaw18.FrameEncodes: function 3 -/
def law18_FrameEncodes_ann : Ann := (.seq 2 (.region [(List.range 2, 2)]) (.seq 2 (.seq 16386 (.region [(List.range 4, 16386)]) (.cond (.seq 4 (.region [(List.range 2, 4)]) (.exit 4)) .leaf)) (.seq 26 (.region [(List.range 7, 26)]) (.seq 122 (.region [(List.range 7, 122)]) (.seq 250 (.region [(List.range 4, 250)]) (.seq 242 (.seq 506 (.region [(List.range 1, 506)]) (.block (.loop 506 (.seq 506 (.seq 4294967802 (.region [(List.range 4, 4294967802)]) (.cond .leaf (.exit 242))) (.seq 506 (.block (.region [(List.range 4, 506)])) (.region [(List.range 3, 506)])))))) (.seq 752 (.region [(List.range 7, 752)]) (.seq 4 (.region [(List.range 15, 4)]) (.exit 4)))))))))
@[irreducible] def law18_FrameEncodes_X0 (f1 : Addr) (e4 : Int) (want5 : Option Addr) (want5n : Nat) (want5c : Nat) (g6 : Int) (first7 : Bool) : Fr := (mkFr 0 57 [(1, (.pointer (some f1))), (4, (.int .i64 e4)), (5, (.slice want5 want5n want5c)), (6, (.int .i64 g6)), (7, (.bool first7))])
@[irreducible] def law18_FrameEncodes_L11111010 (f1 : Addr) (b3 : Option Addr) (b3n : Nat) (b3c : Nat) (e4 : Int) (want5 : Option Addr) (want5n : Nat) (want5c : Nat) (g6 : Int) (first7 : Bool) (i8 : Int) (K : Ex → Fr → Heap → Prop) (h : Heap) : Prop := Lp PP true (sub (bodyOf Tryd.f3) [1, 1, 1, 1, 1, 0, 1, 0, 0]) (mkFr 0 57 [(1, (.pointer (some f1))), (3, (.slice b3 b3n b3c)), (4, (.int .i64 e4)), (5, (.slice want5 want5n want5c)), (6, (.int .i64 g6)), (7, (.bool first7)), (8, (.int .i64 i8))]) K h
@[irreducible] def law18_FrameEncodes_B11111010 (K : Ex → Fr → Heap → Prop) : Ex → Fr → Heap → Prop := seqK (fun fr h => Lp PP true (sub (bodyOf Tryd.f3) [1, 1, 1, 1, 1, 0, 1, 0, 0]) (fr.mask 506) K h) K
@[irreducible] def law18_FrameEncodes_K11111 (Q : Value → Heap → Prop) : Ex → Fr → Heap → Prop := seqK (fun fr h => ev PP true none (sub (bodyOf Tryd.f3) [1, 1, 1, 1, 1, 1]) (subA law18_FrameEncodes_ann [1, 1, 1, 1, 1, 1]) (fr.mask 242) (bodyK PP Tryd.f3 Q) h) (bodyK PP Tryd.f3 Q)
@[irreducible] def law18_FrameEncodes_K1111101 (Q : Value → Heap → Prop) : Ex → Fr → Heap → Prop := blockK 0 (law18_FrameEncodes_K11111 Q)
@[reducible] def law18_FrameEncodes_L11111010_txt (f1 : Addr) (b3 : Option Addr) (b3n : Nat) (b3c : Nat) (e4 : Int) (want5 : Option Addr) (want5n : Nat) (want5c : Nat) (g6 : Int) (first7 : Bool) (i8 : Int) (K : Ex → Fr → Heap → Prop) (h : Heap) : Prop :=
 let t32 : Bool := decide (i8 < (b3n : Int))
 br t32 (
 hwp PP (Instr.indexAt T_sl_uint8 (.slice b3 b3n b3c) (.int .i64 i8)) (fun v h1 => ∃ (t37 : Addr), v = (.pointer (some t37)) ∧
 wr t37 (.int .u8 7) (fun h2 =>
 let t34 : Int := IntKind.i64.wrap (i8 + 1)
 law18_FrameEncodes_L11111010 f1 b3 b3n b3c e4 want5 want5n want5c g6 first7 t34 K h2) h1) h) (
 K (.exit 0) (law18_FrameEncodes_X0 f1 e4 want5 want5n want5c g6 first7) h)
theorem law18_FrameEncodes_L11111010_eq (f1 : Addr) (b3 : Option Addr) (b3n : Nat) (b3c : Nat) (e4 : Int) (want5 : Option Addr) (want5n : Nat) (want5c : Nat) (g6 : Int) (first7 : Bool) (i8 : Int) (K : Ex → Fr → Heap → Prop) (h : Heap) : ev PP true none (sub (bodyOf Tryd.f3) [1, 1, 1, 1, 1, 0, 1, 0, 0]) (subA law18_FrameEncodes_ann [1, 1, 1, 1, 1, 0, 1, 0, 0]) (mkFr 0 57 [(1, (.pointer (some f1))), (3, (.slice b3 b3n b3c)), (4, (.int .i64 e4)), (5, (.slice want5 want5n want5c)), (6, (.int .i64 g6)), (7, (.bool first7)), (8, (.int .i64 i8))]) (seqK (fun fr h => Lp PP true (sub (bodyOf Tryd.f3) [1, 1, 1, 1, 1, 0, 1, 0, 0]) (fr.mask 506) K h) K) h = law18_FrameEncodes_L11111010_txt f1 b3 b3n b3c e4 want5 want5n want5c g6 first7 i8 K h := by kernel_rfl
theorem law18_FrameEncodes_L11111010_of {f1 : Addr} {b3 : Option Addr} {b3n : Nat} {b3c : Nat} {e4 : Int} {want5 : Option Addr} {want5n : Nat} {want5c : Nat} {g6 : Int} {first7 : Bool} {i8 : Int} {K : Ex → Fr → Heap → Prop} {h : Heap} (H : law18_FrameEncodes_L11111010_txt f1 b3 b3n b3c e4 want5 want5n want5c g6 first7 i8 K h) : law18_FrameEncodes_L11111010 f1 b3 b3n b3c e4 want5 want5n want5c g6 first7 i8 K h := by
   unfold law18_FrameEncodes_L11111010; refine Lp.of_ev (x := subA law18_FrameEncodes_ann [1, 1, 1, 1, 1, 0, 1, 0, 0]) (keep := 506) ?_; exact (law18_FrameEncodes_L11111010_eq f1 b3 b3n b3c e4 want5 want5n want5c g6 first7 i8 K h).symm ▸ H
theorem law18_FrameEncodes_at11111010_X0 (Q : Value → Heap → Prop) (f1 : Addr) (e4 : Int) (want5 : Option Addr) (want5n : Nat) (want5c : Nat) (g6 : Int) (first7 : Bool) (h : Heap) : (law18_FrameEncodes_K1111101 Q) (.exit 0) (law18_FrameEncodes_X0 f1 e4 want5 want5n want5c g6 first7) h = (
 ∃ (t39f0 : Int) (t39f1 : ByteArray), rdCells h f1 0 [(.int .i64 t39f0), (.string t39f1)] ∧
 SpecH PP F_frame_Encode [(.agg #[(.int .i64 t39f0), (.string t39f1)])] h (fun v h1 => ∃ (t40 : Option Addr) (t40n : Nat) (t40c : Nat) (t40_1 : Int), v = (.tuple #[(.slice t40 t40n t40c), (.int .i64 t40_1)]) ∧
 SpecH PP F_law18_awake [] h1 (fun v_1 h2 => ∃ (t43 : Bool), v_1 = (.bool t43) ∧
 br t43 (
 br first7 (
 let t50 : Bool := (e4 == g6)
 br t50 (
 SpecH PP F_keep_Bytes [(.slice t40 t40n t40c), (.slice want5 want5n want5c)] h2 (fun v_2 h3 => ∃ (t55 : Bool), v_2 = (.bool t55) ∧
 Q (.bool t55) h3)) (
 Q (.bool false) h2)) (
 Q (.bool false) h2)) (
 Q (.bool false) h2)))) := by kernel_rfl
def law18_FrameEncodes_main (f0f0 : Int) (f0f1 : ByteArray) (Q : Value → Heap → Prop) (h : Heap) : Prop :=
 let f1 : Addr := ⟨Array.size h, 0, none⟩
 let h1 : Heap := Array.push h (.cells #[(.int .i64 f0f0), (.string f0f1)] T_api_Frame (0, 0))
 ∃ (t12 : ByteArray), cellH h1 (Addr.add f1 1) = some (.string t12) ∧
 let t13 : Int := (ByteArray.size t12 : Int)
 let t14 : Bool := decide (t13 > 1048576)
 br t14 (
 SpecH PP F_law18_awake [] h1 (fun v h2 => ∃ (t15 : Bool), v = (.bool t15) ∧
 Q (.bool t15) h2)) (
 ∃ (t17f0 : Int) (t17f1 : ByteArray), rdCells h1 f1 0 [(.int .i64 t17f0), (.string t17f1)] ∧
 SpecH PP F_frame_Encode [(.agg #[(.int .i64 t17f0), (.string t17f1)])] h1 (fun v_1 h3 => ∃ (t18 : Option Addr) (t18n : Nat) (t18c : Nat) (t18_1 : Int), v_1 = (.tuple #[(.slice t18 t18n t18c), (.int .i64 t18_1)]) ∧
 ∃ (t22f0 : Int) (t22f1 : ByteArray), rdCells h3 f1 0 [(.int .i64 t22f0), (.string t22f1)] ∧
 SpecH PP F_ref18_Encode [(.agg #[(.int .i64 t22f0), (.string t22f1)])] h3 (fun v_2 h4 => ∃ (t23 : Option Addr) (t23n : Nat) (t23c : Nat) (t23_1 : Int), v_2 = (.tuple #[(.slice t23 t23n t23c), (.int .i64 t23_1)]) ∧
 SpecH PP F_keep_Bytes [(.slice t18 t18n t18c), (.slice t23 t23n t23c)] h4 (fun v_3 h5 => ∃ (t28 : Bool), v_3 = (.bool t28) ∧
 law18_FrameEncodes_L11111010 f1 t18 t18n t18c t18_1 t23 t23n t23c t23_1 t28 0 (law18_FrameEncodes_K1111101 Q) h5))))
theorem law18_FrameEncodes_eq (f0f0 : Int) (f0f1 : ByteArray) (Q : Value → Heap → Prop) (h : Heap) : ev PP true none (bodyOf Tryd.f3) law18_FrameEncodes_ann (initFr 57 [(.agg #[(.int .i64 f0f0), (.string f0f1)])]) (bodyK PP Tryd.f3 Q) h = law18_FrameEncodes_main f0f0 f0f1 Q h := by kernel_rfl
theorem law18_FrameEncodes_door {f0f0 : Int} {f0f1 : ByteArray} {Q : Value → Heap → Prop} {h : Heap} (H : law18_FrameEncodes_main f0f0 f0f1 Q h) : SpecH PP F_law18_FrameEncodes [(.agg #[(.int .i64 f0f0), (.string f0f1)])] h Q :=
   spec_of_ev Tryd.func3 rfl rfl ((law18_FrameEncodes_eq f0f0 f0f1 Q h).symm ▸ H)
/-! ### haversack/haversacklaw18.FrameFeeds: function 4 -/
def law18_FrameFeeds_ann : Ann := (.seq 1 (.region [(List.range 1, 1)]) (.seq 1 (.seq 1048577 (.region [(List.range 7, 1048577)]) (.join (.cond (.seq 4 (.region [(List.range 2, 4)]) (.exit 4)) .leaf))) (.seq 9 (.region [(List.range 2, 9)]) (.seq 9 (.seq 16777225 (.region [(List.range 2, 16777225)]) (.cond (.seq 4 (.region [(List.range 1, 4)]) (.exit 4)) .leaf)) (.seq 25 (.region [(List.range 1, 25)]) (.seq 57 (.region [(List.range 1, 57)]) (.seq 121 (.region [(List.range 1, 121)]) (.seq 0 (.seq 249 (.region [(List.range 1, 249)]) (.block (.loop 249 (.seq 249 (.seq 268435705 (.region [(List.range 4, 268435705)]) (.cond .leaf (.exit 0))) (.seq 249 (.block (.seq 505 (.region [(List.range 6, 505)]) (.seq 2041 (.region [(List.range 8, 2041)]) (.seq 1785 (.seq 281474976712441 (.region [(List.range 7, 281474976712441)]) (.cond (.seq 4 (.region [(List.range 1, 4)]) (.exit 4)) .leaf)) (.seq 1721 (.seq 1125899906844409 (.region [(List.range 2, 1125899906844409)]) (.cond (.seq 249 (.seq 590295810358705651961 (.region [(List.range 19, 590295810358705651961)]) (.join (.cond (.seq 4 (.region [(List.range 1, 4)]) (.exit 4)) .leaf))) (.exit 249)) .leaf)) (.seq 1721 (.region [(List.range 7, 1721)]) (.seq 11961 (.region [(List.range 9, 11961)]) (.seq 10393 (.seq 40564819207303340847894502582425 (.region [(List.range 24, 40564819207303340847894502582425)]) (.join (.cond (.seq 4 (.region [(List.range 1, 4)]) (.exit 4)) .leaf))) (.seq 8377 (.region [(List.range 3, 8377)]) (.region [(List.range 2, 249)])))))))))) (.join (.region [(List.range 3, 249)]))))))) (.seq 4 (.region [(List.range 2, 4)]) (.exit 4))))))))))
@[irreducible] def law18_FrameFeeds_Xret (t2 : Bool) : Fr := (mkFr 0 110 [(2, (.bool t2))])
@[irreducible] def law18_FrameFeeds_X0  : Fr := (mkFr 0 110 [])
@[irreducible] def law18_FrameFeeds_K1 (Q : Value → Heap → Prop) : Ex → Fr → Heap → Prop := seqK (fun fr h => ev PP true none (sub (bodyOf Tryd.f4) [1, 1]) (subA law18_FrameFeeds_ann [1, 1]) (fr.mask 1) (bodyK PP Tryd.f4 Q) h) (bodyK PP Tryd.f4 Q)
@[irreducible] def law18_FrameFeeds_J101 (xl0 : Option Addr) (xl0n : Nat) (xl0c : Nat) (t20 : Bool) (Q : Value → Heap → Prop) (h : Heap) : Prop := Jn PP true (sub (bodyOf Tryd.f4) [1, 0, 1]) (mkFr 0 110 [(0, (.slice xl0 xl0n xl0c)), (20, (.bool t20))]) (law18_FrameFeeds_K1 Q) h
@[irreducible] def law18_FrameFeeds_K1111111 (Q : Value → Heap → Prop) : Ex → Fr → Heap → Prop := seqK (fun fr h => ev PP true none (sub (bodyOf Tryd.f4) [1, 1, 1, 1, 1, 1, 1, 1]) (subA law18_FrameFeeds_ann [1, 1, 1, 1, 1, 1, 1, 1]) (fr.mask 0) (bodyK PP Tryd.f4 Q) h) (bodyK PP Tryd.f4 Q)
@[irreducible] def law18_FrameFeeds_K111111101 (Q : Value → Heap → Prop) : Ex → Fr → Heap → Prop := blockK 0 (law18_FrameFeeds_K1111111 Q)
@[irreducible] def law18_FrameFeeds_L1111111010 (xl0 : Option Addr) (xl0n : Nat) (xl0c : Nat) (d3 : Option Addr) (all4 : Option Addr) (all4n : Nat) (all4c : Nat) (told5 : Int) (wrong6 : Int) (i7 : Int) (K : Ex → Fr → Heap → Prop) (h : Heap) : Prop := Lp PP true (sub (bodyOf Tryd.f4) [1, 1, 1, 1, 1, 1, 1, 0, 1, 0, 0]) (mkFr 0 110 [(0, (.slice xl0 xl0n xl0c)), (3, (.pointer d3)), (4, (.slice all4 all4n all4c)), (5, (.int .i64 told5)), (6, (.int .i64 wrong6)), (7, (.int .i64 i7))]) K h
@[irreducible] def law18_FrameFeeds_B1111111010 (K : Ex → Fr → Heap → Prop) : Ex → Fr → Heap → Prop := seqK (fun fr h => Lp PP true (sub (bodyOf Tryd.f4) [1, 1, 1, 1, 1, 1, 1, 0, 1, 0, 0]) (fr.mask 249) K h) K
@[irreducible] def law18_FrameFeeds_K111111101001 (K : Ex → Fr → Heap → Prop) : Ex → Fr → Heap → Prop := seqK (fun fr h => Jn PP true (sub (bodyOf Tryd.f4) [1, 1, 1, 1, 1, 1, 1, 0, 1, 0, 0, 1, 1]) (fr.mask 249) (law18_FrameFeeds_B1111111010 K) h) (law18_FrameFeeds_B1111111010 K)
@[irreducible] def law18_FrameFeeds_K1111111010010 (K : Ex → Fr → Heap → Prop) : Ex → Fr → Heap → Prop := blockK 1 (law18_FrameFeeds_K111111101001 K)
@[irreducible] def law18_FrameFeeds_K11111110100100111 (K : Ex → Fr → Heap → Prop) : Ex → Fr → Heap → Prop := seqK (fun fr h => ev PP true none (sub (bodyOf Tryd.f4) [1, 1, 1, 1, 1, 1, 1, 0, 1, 0, 0, 1, 0, 0, 1, 1, 1, 1]) (subA law18_FrameFeeds_ann [1, 1, 1, 1, 1, 1, 1, 0, 1, 0, 0, 1, 0, 0, 1, 1, 1, 1]) (fr.mask 1721) (law18_FrameFeeds_K1111111010010 K) h) (law18_FrameFeeds_K1111111010010 K)
@[irreducible] def law18_FrameFeeds_K11111110100100111010 (K : Ex → Fr → Heap → Prop) : Ex → Fr → Heap → Prop := seqK (fun fr h => ev PP true none (sub (bodyOf Tryd.f4) [1, 1, 1, 1, 1, 1, 1, 0, 1, 0, 0, 1, 0, 0, 1, 1, 1, 0, 1, 0, 1]) (subA law18_FrameFeeds_ann [1, 1, 1, 1, 1, 1, 1, 0, 1, 0, 0, 1, 0, 0, 1, 1, 1, 0, 1, 0, 1]) (fr.mask 249) (law18_FrameFeeds_K11111110100100111 K) h) (law18_FrameFeeds_K11111110100100111 K)
@[irreducible] def law18_FrameFeeds_J1111111010010011101001 (xl0 : Option Addr) (xl0n : Nat) (xl0c : Nat) (d3 : Option Addr) (all4 : Option Addr) (all4n : Nat) (all4c : Nat) (told5 : Int) (wrong6 : Int) (i7 : Int) (t69 : Bool) (K : Ex → Fr → Heap → Prop) (h : Heap) : Prop := Jn PP true (sub (bodyOf Tryd.f4) [1, 1, 1, 1, 1, 1, 1, 0, 1, 0, 0, 1, 0, 0, 1, 1, 1, 0, 1, 0, 0, 1]) (mkFr 0 110 [(0, (.slice xl0 xl0n xl0c)), (3, (.pointer d3)), (4, (.slice all4 all4n all4c)), (5, (.int .i64 told5)), (6, (.int .i64 wrong6)), (7, (.int .i64 i7)), (69, (.bool t69))]) (law18_FrameFeeds_K11111110100100111010 K) h
@[irreducible] def law18_FrameFeeds_K11111110100100111111 (K : Ex → Fr → Heap → Prop) : Ex → Fr → Heap → Prop := seqK (fun fr h => ev PP true none (sub (bodyOf Tryd.f4) [1, 1, 1, 1, 1, 1, 1, 0, 1, 0, 0, 1, 0, 0, 1, 1, 1, 1, 1, 1, 1]) (subA law18_FrameFeeds_ann [1, 1, 1, 1, 1, 1, 1, 0, 1, 0, 0, 1, 0, 0, 1, 1, 1, 1, 1, 1, 1]) (fr.mask 10393) (law18_FrameFeeds_K1111111010010 K) h) (law18_FrameFeeds_K1111111010010 K)
@[irreducible] def law18_FrameFeeds_J1111111010010011111101 (xl0 : Option Addr) (xl0n : Nat) (xl0c : Nat) (d3 : Option Addr) (all4 : Option Addr) (all4n : Nat) (all4c : Nat) (i7 : Int) (want11 : Option Addr) (want11n : Nat) (want11c : Nat) (f13 : Int) (t105 : Bool) (K : Ex → Fr → Heap → Prop) (h : Heap) : Prop := Jn PP true (sub (bodyOf Tryd.f4) [1, 1, 1, 1, 1, 1, 1, 0, 1, 0, 0, 1, 0, 0, 1, 1, 1, 1, 1, 1, 0, 1]) (mkFr 0 110 [(0, (.slice xl0 xl0n xl0c)), (3, (.pointer d3)), (4, (.slice all4 all4n all4c)), (7, (.int .i64 i7)), (11, (.slice want11 want11n want11c)), (13, (.int .i64 f13)), (105, (.bool t105))]) (law18_FrameFeeds_K11111110100100111111 K) h
@[irreducible] def law18_FrameFeeds_J1111111010011 (xl0 : Option Addr) (xl0n : Nat) (xl0c : Nat) (d3 : Option Addr) (all4 : Option Addr) (all4n : Nat) (all4c : Nat) (told5 : Int) (wrong6 : Int) (i7 : Int) (K : Ex → Fr → Heap → Prop) (h : Heap) : Prop := Jn PP true (sub (bodyOf Tryd.f4) [1, 1, 1, 1, 1, 1, 1, 0, 1, 0, 0, 1, 1]) (mkFr 0 110 [(0, (.slice xl0 xl0n xl0c)), (3, (.pointer d3)), (4, (.slice all4 all4n all4c)), (5, (.int .i64 told5)), (6, (.int .i64 wrong6)), (7, (.int .i64 i7))]) (law18_FrameFeeds_B1111111010 K) h
@[reducible] def law18_FrameFeeds_J101_txt (xl0 : Option Addr) (xl0n : Nat) (xl0c : Nat) (t20 : Bool) (Q : Value → Heap → Prop) (h : Heap) : Prop :=
 br t20 (
 SpecH PP F_law18_awake [] h (fun v h1 => ∃ (t21 : Bool), v = (.bool t21) ∧
 Q (.bool t21) h1)) (
 SpecH PP F_frame_New [] h (fun v_1 h2 => ∃ (t22 : Option Addr), v_1 = (.pointer t22) ∧
 let t24 : Bool := (Option.isNone t22)
 br t24 (
 Q (.bool false) h2) (
 law18_FrameFeeds_L1111111010 xl0 xl0n xl0c t22 none 0 0 0 0 0 (law18_FrameFeeds_K111111101 Q) h2)))
theorem law18_FrameFeeds_J101_eq (xl0 : Option Addr) (xl0n : Nat) (xl0c : Nat) (t20 : Bool) (Q : Value → Heap → Prop) (h : Heap) : ev PP true none (sub (bodyOf Tryd.f4) [1, 0, 1]) (subA law18_FrameFeeds_ann [1, 0, 1]) (mkFr 0 110 [(0, (.slice xl0 xl0n xl0c)), (20, (.bool t20))]) (law18_FrameFeeds_K1 Q) h = law18_FrameFeeds_J101_txt xl0 xl0n xl0c t20 Q h := by kernel_rfl
theorem law18_FrameFeeds_J101_of {xl0 : Option Addr} {xl0n : Nat} {xl0c : Nat} {t20 : Bool} {Q : Value → Heap → Prop} {h : Heap} (H : law18_FrameFeeds_J101_txt xl0 xl0n xl0c t20 Q h) : law18_FrameFeeds_J101 xl0 xl0n xl0c t20 Q h := by
   unfold law18_FrameFeeds_J101; refine Jn.of_ev (x := subA law18_FrameFeeds_ann [1, 0, 1]) ?_; exact (law18_FrameFeeds_J101_eq xl0 xl0n xl0c t20 Q h).symm ▸ H
@[reducible] def law18_FrameFeeds_L1111111010_txt (xl0 : Option Addr) (xl0n : Nat) (xl0c : Nat) (d3 : Option Addr) (all4 : Option Addr) (all4n : Nat) (all4c : Nat) (told5 : Int) (wrong6 : Int) (i7 : Int) (K : Ex → Fr → Heap → Prop) (h : Heap) : Prop :=
 let t28 : Bool := decide (i7 < (xl0n : Int))
 br t28 (
 hwp PP (Instr.indexAt T_sl_sl_uint8 (.slice xl0 xl0n xl0c) (.int .i64 i7)) (fun v h1 => ∃ (t33 : Addr), v = (.pointer (some t33)) ∧
 ∃ (t34 : Option Addr) (t34n : Nat) (t34c : Nat), cellH h1 t33 = some (.slice t34 t34n t34c) ∧
 SpecH PP F_keep_Lend [(.slice t34 t34n t34c)] h1 (fun v_1 h2 => ∃ (t35 : Option Addr) (t35n : Nat) (t35c : Nat), v_1 = (.slice t35 t35n t35c) ∧
 SpecH PP F_frame_Decoder_Feed [(.pointer d3), (.slice t35 t35n t35c)] h2 (fun v_2 h3 => ∃ (t39 : Option Addr) (t39n : Nat) (t39c : Nat) (t39_1 : Int), v_2 = (.tuple #[(.slice t39 t39n t39c), (.int .i64 t39_1)]) ∧
 hwp PP (Instr.indexAt T_sl_sl_uint8 (.slice xl0 xl0n xl0c) (.int .i64 i7)) (fun v_3 h4 => ∃ (t45 : Addr), v_3 = (.pointer (some t45)) ∧
 ∃ (t46 : Option Addr) (t46n : Nat) (t46c : Nat), cellH h4 t45 = some (.slice t46 t46n t46c) ∧
 SpecH PP F_keep_Back [(.slice t35 t35n t35c), (.slice t46 t46n t46c)] h4 (fun v_4 h5 => ∃ (t47 : Bool), v_4 = (.bool t47) ∧
 let t48 : Bool := (!t47)
 br t48 (
 K .ret (law18_FrameFeeds_Xret false) h5) (
 let t50 : Bool := (wrong6 != 0)
 br t50 (
 let t53 : Bool := decide ((t39n : Int) > 0)
 br t53 (
 law18_FrameFeeds_J1111111010010011101001 xl0 xl0n xl0c d3 all4 all4n all4c told5 wrong6 i7 true K h5) (
 let t57 : Bool := (t39_1 != wrong6)
 br t57 (
 law18_FrameFeeds_J1111111010010011101001 xl0 xl0n xl0c d3 all4 all4n all4c told5 wrong6 i7 true K h5) (
 SpecH PP F_frame_Decoder_Wrong [(.pointer d3)] h5 (fun v_5 h6 => ∃ (t61 : Int), v_5 = (.int .i64 t61) ∧
 let t63 : Bool := (t61 != wrong6)
 br t63 (
 law18_FrameFeeds_J1111111010010011101001 xl0 xl0n xl0c d3 all4 all4n all4c told5 wrong6 i7 true K h6) (
 SpecH PP F_frame_Decoder_Wants [(.pointer d3)] h6 (fun v_6 h7 => ∃ (t67 : Int), v_6 = (.int .i64 t67) ∧
 let t68 : Bool := (t67 != 0)
 law18_FrameFeeds_J1111111010010011101001 xl0 xl0n xl0c d3 all4 all4n all4c told5 wrong6 i7 t68 K h7)))))) (
 hwp PP (Instr.indexAt T_sl_sl_uint8 (.slice xl0 xl0n xl0c) (.int .i64 i7)) (fun v_7 h8 => ∃ (t73 : Addr), v_7 = (.pointer (some t73)) ∧
 ∃ (t74 : Option Addr) (t74n : Nat) (t74c : Nat), cellH h8 t73 = some (.slice t74 t74n t74c) ∧
 hwp PP (Builtin.append_ #[T_sl_uint8, T_sl_uint8] T_sl_uint8 #[(.slice all4 all4n all4c), (.slice t74 t74n t74c)]) (fun v_8 h9 => ∃ (t75 : Option Addr) (t75n : Nat) (t75c : Nat), v_8 = (.slice t75 t75n t75c) ∧
 SpecH PP F_ref18_Read [(.slice t75 t75n t75c)] h9 (fun v_9 h10 => ∃ (t78 : Option Addr) (t78n : Nat) (t78c : Nat) (t78_1 : Int) (t78_2 : Int), v_9 = (.tuple #[(.slice t78 t78n t78c), (.int .i64 t78_1), (.int .i64 t78_2)]) ∧
 hwp PP (Instr.sliceAt T_sl_api_Frame (.slice t78 t78n t78c) (some (.int .i64 told5)) none none) (fun v_10 h11 => ∃ (t85 : Option Addr) (t85n : Nat) (t85c : Nat), v_10 = (.slice t85 t85n t85c) ∧
 SpecH PP F_ref18_Same [(.slice t39 t39n t39c), (.slice t85 t85n t85c)] h11 (fun v_11 h12 => ∃ (t86 : Bool), v_11 = (.bool t86) ∧
 let t87 : Bool := (!t86)
 br t87 (
 law18_FrameFeeds_J1111111010010011111101 xl0 xl0n xl0c d3 t75 t75n t75c i7 t78 t78n t78c t78_2 true K h12) (
 let t91 : Bool := (t39_1 != t78_2)
 br t91 (
 law18_FrameFeeds_J1111111010010011111101 xl0 xl0n xl0c d3 t75 t75n t75c i7 t78 t78n t78c t78_2 true K h12) (
 SpecH PP F_frame_Decoder_Wrong [(.pointer d3)] h12 (fun v_12 h13 => ∃ (t95 : Int), v_12 = (.int .i64 t95) ∧
 let t97 : Bool := (t95 != t78_2)
 br t97 (
 law18_FrameFeeds_J1111111010010011111101 xl0 xl0n xl0c d3 t75 t75n t75c i7 t78 t78n t78c t78_2 true K h13) (
 SpecH PP F_frame_Decoder_Wants [(.pointer d3)] h13 (fun v_13 h14 => ∃ (t101 : Int), v_13 = (.int .i64 t101) ∧
 SpecH PP F_ref18_Wants [(.slice t75 t75n t75c)] h14 (fun v_14 h15 => ∃ (t103 : Int), v_14 = (.int .i64 t103) ∧
 let t104 : Bool := (t101 != t103)
 law18_FrameFeeds_J1111111010010011111101 xl0 xl0n xl0c d3 t75 t75n t75c i7 t78 t78n t78c t78_2 t104 K h15)))))))) h10)) h8) h5)))) h3))) h) (
 K (.exit 0) (law18_FrameFeeds_X0) h)
theorem law18_FrameFeeds_L1111111010_eq (xl0 : Option Addr) (xl0n : Nat) (xl0c : Nat) (d3 : Option Addr) (all4 : Option Addr) (all4n : Nat) (all4c : Nat) (told5 : Int) (wrong6 : Int) (i7 : Int) (K : Ex → Fr → Heap → Prop) (h : Heap) : ev PP true none (sub (bodyOf Tryd.f4) [1, 1, 1, 1, 1, 1, 1, 0, 1, 0, 0]) (subA law18_FrameFeeds_ann [1, 1, 1, 1, 1, 1, 1, 0, 1, 0, 0]) (mkFr 0 110 [(0, (.slice xl0 xl0n xl0c)), (3, (.pointer d3)), (4, (.slice all4 all4n all4c)), (5, (.int .i64 told5)), (6, (.int .i64 wrong6)), (7, (.int .i64 i7))]) (seqK (fun fr h => Lp PP true (sub (bodyOf Tryd.f4) [1, 1, 1, 1, 1, 1, 1, 0, 1, 0, 0]) (fr.mask 249) K h) K) h = law18_FrameFeeds_L1111111010_txt xl0 xl0n xl0c d3 all4 all4n all4c told5 wrong6 i7 K h := by kernel_rfl
theorem law18_FrameFeeds_L1111111010_of {xl0 : Option Addr} {xl0n : Nat} {xl0c : Nat} {d3 : Option Addr} {all4 : Option Addr} {all4n : Nat} {all4c : Nat} {told5 : Int} {wrong6 : Int} {i7 : Int} {K : Ex → Fr → Heap → Prop} {h : Heap} (H : law18_FrameFeeds_L1111111010_txt xl0 xl0n xl0c d3 all4 all4n all4c told5 wrong6 i7 K h) : law18_FrameFeeds_L1111111010 xl0 xl0n xl0c d3 all4 all4n all4c told5 wrong6 i7 K h := by
   unfold law18_FrameFeeds_L1111111010; refine Lp.of_ev (x := subA law18_FrameFeeds_ann [1, 1, 1, 1, 1, 1, 1, 0, 1, 0, 0]) (keep := 249) ?_; exact (law18_FrameFeeds_L1111111010_eq xl0 xl0n xl0c d3 all4 all4n all4c told5 wrong6 i7 K h).symm ▸ H
theorem law18_FrameFeeds_at1111111010_Xret (Q : Value → Heap → Prop) (t2 : Bool) (h : Heap) : (law18_FrameFeeds_K111111101 Q) .ret (law18_FrameFeeds_Xret t2) h = (
 Q (.bool t2) h) := by kernel_rfl
@[reducible] def law18_FrameFeeds_J1111111010010011101001_txt (xl0 : Option Addr) (xl0n : Nat) (xl0c : Nat) (d3 : Option Addr) (all4 : Option Addr) (all4n : Nat) (all4c : Nat) (told5 : Int) (wrong6 : Int) (i7 : Int) (t69 : Bool) (K : Ex → Fr → Heap → Prop) (h : Heap) : Prop :=
 br t69 (
 K .ret (law18_FrameFeeds_Xret false) h) (
 law18_FrameFeeds_J1111111010011 xl0 xl0n xl0c d3 all4 all4n all4c told5 wrong6 i7 K h)
theorem law18_FrameFeeds_J1111111010010011101001_eq (xl0 : Option Addr) (xl0n : Nat) (xl0c : Nat) (d3 : Option Addr) (all4 : Option Addr) (all4n : Nat) (all4c : Nat) (told5 : Int) (wrong6 : Int) (i7 : Int) (t69 : Bool) (K : Ex → Fr → Heap → Prop) (h : Heap) : ev PP true none (sub (bodyOf Tryd.f4) [1, 1, 1, 1, 1, 1, 1, 0, 1, 0, 0, 1, 0, 0, 1, 1, 1, 0, 1, 0, 0, 1]) (subA law18_FrameFeeds_ann [1, 1, 1, 1, 1, 1, 1, 0, 1, 0, 0, 1, 0, 0, 1, 1, 1, 0, 1, 0, 0, 1]) (mkFr 0 110 [(0, (.slice xl0 xl0n xl0c)), (3, (.pointer d3)), (4, (.slice all4 all4n all4c)), (5, (.int .i64 told5)), (6, (.int .i64 wrong6)), (7, (.int .i64 i7)), (69, (.bool t69))]) (law18_FrameFeeds_K11111110100100111010 K) h = law18_FrameFeeds_J1111111010010011101001_txt xl0 xl0n xl0c d3 all4 all4n all4c told5 wrong6 i7 t69 K h := by kernel_rfl
theorem law18_FrameFeeds_J1111111010010011101001_of {xl0 : Option Addr} {xl0n : Nat} {xl0c : Nat} {d3 : Option Addr} {all4 : Option Addr} {all4n : Nat} {all4c : Nat} {told5 : Int} {wrong6 : Int} {i7 : Int} {t69 : Bool} {K : Ex → Fr → Heap → Prop} {h : Heap} (H : law18_FrameFeeds_J1111111010010011101001_txt xl0 xl0n xl0c d3 all4 all4n all4c told5 wrong6 i7 t69 K h) : law18_FrameFeeds_J1111111010010011101001 xl0 xl0n xl0c d3 all4 all4n all4c told5 wrong6 i7 t69 K h := by
   unfold law18_FrameFeeds_J1111111010010011101001; refine Jn.of_ev (x := subA law18_FrameFeeds_ann [1, 1, 1, 1, 1, 1, 1, 0, 1, 0, 0, 1, 0, 0, 1, 1, 1, 0, 1, 0, 0, 1]) ?_; exact (law18_FrameFeeds_J1111111010010011101001_eq xl0 xl0n xl0c d3 all4 all4n all4c told5 wrong6 i7 t69 K h).symm ▸ H
@[reducible] def law18_FrameFeeds_J1111111010010011111101_txt (xl0 : Option Addr) (xl0n : Nat) (xl0c : Nat) (d3 : Option Addr) (all4 : Option Addr) (all4n : Nat) (all4c : Nat) (i7 : Int) (want11 : Option Addr) (want11n : Nat) (want11c : Nat) (f13 : Int) (t105 : Bool) (K : Ex → Fr → Heap → Prop) (h : Heap) : Prop :=
 br t105 (
 K .ret (law18_FrameFeeds_Xret false) h) (
 law18_FrameFeeds_J1111111010011 xl0 xl0n xl0c d3 all4 all4n all4c (want11n : Int) f13 i7 K h)
theorem law18_FrameFeeds_J1111111010010011111101_eq (xl0 : Option Addr) (xl0n : Nat) (xl0c : Nat) (d3 : Option Addr) (all4 : Option Addr) (all4n : Nat) (all4c : Nat) (i7 : Int) (want11 : Option Addr) (want11n : Nat) (want11c : Nat) (f13 : Int) (t105 : Bool) (K : Ex → Fr → Heap → Prop) (h : Heap) : ev PP true none (sub (bodyOf Tryd.f4) [1, 1, 1, 1, 1, 1, 1, 0, 1, 0, 0, 1, 0, 0, 1, 1, 1, 1, 1, 1, 0, 1]) (subA law18_FrameFeeds_ann [1, 1, 1, 1, 1, 1, 1, 0, 1, 0, 0, 1, 0, 0, 1, 1, 1, 1, 1, 1, 0, 1]) (mkFr 0 110 [(0, (.slice xl0 xl0n xl0c)), (3, (.pointer d3)), (4, (.slice all4 all4n all4c)), (7, (.int .i64 i7)), (11, (.slice want11 want11n want11c)), (13, (.int .i64 f13)), (105, (.bool t105))]) (law18_FrameFeeds_K11111110100100111111 K) h = law18_FrameFeeds_J1111111010010011111101_txt xl0 xl0n xl0c d3 all4 all4n all4c i7 want11 want11n want11c f13 t105 K h := by kernel_rfl
theorem law18_FrameFeeds_J1111111010010011111101_of {xl0 : Option Addr} {xl0n : Nat} {xl0c : Nat} {d3 : Option Addr} {all4 : Option Addr} {all4n : Nat} {all4c : Nat} {i7 : Int} {want11 : Option Addr} {want11n : Nat} {want11c : Nat} {f13 : Int} {t105 : Bool} {K : Ex → Fr → Heap → Prop} {h : Heap} (H : law18_FrameFeeds_J1111111010010011111101_txt xl0 xl0n xl0c d3 all4 all4n all4c i7 want11 want11n want11c f13 t105 K h) : law18_FrameFeeds_J1111111010010011111101 xl0 xl0n xl0c d3 all4 all4n all4c i7 want11 want11n want11c f13 t105 K h := by
   unfold law18_FrameFeeds_J1111111010010011111101; refine Jn.of_ev (x := subA law18_FrameFeeds_ann [1, 1, 1, 1, 1, 1, 1, 0, 1, 0, 0, 1, 0, 0, 1, 1, 1, 1, 1, 1, 0, 1]) ?_; exact (law18_FrameFeeds_J1111111010010011111101_eq xl0 xl0n xl0c d3 all4 all4n all4c i7 want11 want11n want11c f13 t105 K h).symm ▸ H
theorem law18_FrameFeeds_at1111111010_X0 (Q : Value → Heap → Prop)  (h : Heap) : (law18_FrameFeeds_K111111101 Q) (.exit 0) (law18_FrameFeeds_X0 ) h = (
 SpecH PP F_law18_awake [] h (fun v h1 => ∃ (t109 : Bool), v = (.bool t109) ∧
 Q (.bool t109) h1)) := by kernel_rfl
@[reducible] def law18_FrameFeeds_J1111111010011_txt (xl0 : Option Addr) (xl0n : Nat) (xl0c : Nat) (d3 : Option Addr) (all4 : Option Addr) (all4n : Nat) (all4c : Nat) (told5 : Int) (wrong6 : Int) (i7 : Int) (K : Ex → Fr → Heap → Prop) (h : Heap) : Prop :=
 let t30 : Int := IntKind.i64.wrap (i7 + 1)
 law18_FrameFeeds_L1111111010 xl0 xl0n xl0c d3 all4 all4n all4c told5 wrong6 t30 K h
theorem law18_FrameFeeds_J1111111010011_eq (xl0 : Option Addr) (xl0n : Nat) (xl0c : Nat) (d3 : Option Addr) (all4 : Option Addr) (all4n : Nat) (all4c : Nat) (told5 : Int) (wrong6 : Int) (i7 : Int) (K : Ex → Fr → Heap → Prop) (h : Heap) : ev PP true none (sub (bodyOf Tryd.f4) [1, 1, 1, 1, 1, 1, 1, 0, 1, 0, 0, 1, 1]) (subA law18_FrameFeeds_ann [1, 1, 1, 1, 1, 1, 1, 0, 1, 0, 0, 1, 1]) (mkFr 0 110 [(0, (.slice xl0 xl0n xl0c)), (3, (.pointer d3)), (4, (.slice all4 all4n all4c)), (5, (.int .i64 told5)), (6, (.int .i64 wrong6)), (7, (.int .i64 i7))]) (law18_FrameFeeds_B1111111010 K) h = law18_FrameFeeds_J1111111010011_txt xl0 xl0n xl0c d3 all4 all4n all4c told5 wrong6 i7 K h := by kernel_rfl
theorem law18_FrameFeeds_J1111111010011_of {xl0 : Option Addr} {xl0n : Nat} {xl0c : Nat} {d3 : Option Addr} {all4 : Option Addr} {all4n : Nat} {all4c : Nat} {told5 : Int} {wrong6 : Int} {i7 : Int} {K : Ex → Fr → Heap → Prop} {h : Heap} (H : law18_FrameFeeds_J1111111010011_txt xl0 xl0n xl0c d3 all4 all4n all4c told5 wrong6 i7 K h) : law18_FrameFeeds_J1111111010011 xl0 xl0n xl0c d3 all4 all4n all4c told5 wrong6 i7 K h := by
   unfold law18_FrameFeeds_J1111111010011; refine Jn.of_ev (x := subA law18_FrameFeeds_ann [1, 1, 1, 1, 1, 1, 1, 0, 1, 0, 0, 1, 1]) ?_; exact (law18_FrameFeeds_J1111111010011_eq xl0 xl0n xl0c d3 all4 all4n all4c told5 wrong6 i7 K h).symm ▸ H
def law18_FrameFeeds_main (xl0 : Option Addr) (xl0n : Nat) (xl0c : Nat) (Q : Value → Heap → Prop) (h : Heap) : Prop :=
 SpecH PP F_law18_large [(.slice xl0 xl0n xl0c)] h (fun v h1 => ∃ (t15 : Bool), v = (.bool t15) ∧
 br t15 (
 law18_FrameFeeds_J101 xl0 xl0n xl0c true Q h1) (
 let t19 : Bool := decide ((xl0n : Int) > 2000)
 law18_FrameFeeds_J101 xl0 xl0n xl0c t19 Q h1))
theorem law18_FrameFeeds_eq (xl0 : Option Addr) (xl0n : Nat) (xl0c : Nat) (Q : Value → Heap → Prop) (h : Heap) : ev PP true none (bodyOf Tryd.f4) law18_FrameFeeds_ann (initFr 110 [(.slice xl0 xl0n xl0c)]) (bodyK PP Tryd.f4 Q) h = law18_FrameFeeds_main xl0 xl0n xl0c Q h := by kernel_rfl
theorem law18_FrameFeeds_door {xl0 : Option Addr} {xl0n : Nat} {xl0c : Nat} {Q : Value → Heap → Prop} {h : Heap} (H : law18_FrameFeeds_main xl0 xl0n xl0c Q h) : SpecH PP F_law18_FrameFeeds [(.slice xl0 xl0n xl0c)] h Q :=
   spec_of_ev Tryd.func4 rfl rfl ((law18_FrameFeeds_eq xl0 xl0n xl0c Q h).symm ▸ H)
/-! ### haversack/haversacklaw18.FrameParts: function 5 -/
def law18_FrameParts_ann : Ann := (.seq 3 (.region [(List.range 1, 3)]) (.seq 3 (.seq 16777219 (.region [(List.range 8, 16777219)]) (.join (.cond (.seq 16 (.region [(List.range 2, 16)]) (.exit 16)) .leaf))) (.seq 35 (.region [(List.range 2, 35)]) (.seq 99 (.region [(List.range 2, 99)]) (.seq 99 (.seq 8589934691 (.region [(List.range 6, 8589934691)]) (.join (.cond (.seq 16 (.region [(List.range 1, 16)]) (.exit 16)) .leaf))) (.seq 483 (.region [(List.range 8, 483)]) (.seq 995 (.region [(List.range 1, 995)]) (.seq 2019 (.region [(List.range 1, 2019)]) (.seq 2017 (.seq 4067 (.region [(List.range 1, 4067)]) (.block (.loop 4067 (.seq 4067 (.seq 8796093026275 (.region [(List.range 4, 8796093026275)]) (.cond .leaf (.exit 2017))) (.seq 4067 (.block (.seq 8163 (.region [(List.range 5, 8163)]) (.seq 8163 (.seq 576460752303431651 (.region [(List.range 10, 576460752303431651)]) (.cond (.exit 4067) .leaf)) (.seq 32739 (.region [(List.range 13, 32739)]) (.seq 24547 (.region [(List.range 4, 24547)]) (.seq 8163 (.seq 151115727451828646846435 (.region [(List.range 4, 151115727451828646846435)]) (.cond (.seq 16 (.region [(List.range 1, 16)]) (.exit 16)) .leaf)) (.region [(List.range 4, 4067)]))))))) (.join (.region [(List.range 3, 4067)]))))))) (.seq 99296 (.region [(List.range 10, 99296)]) (.seq 66528 (.region [(List.range 4, 66528)]) (.seq 16 (.region [(List.range 19, 16)]) (.exit 16)))))))))))))
@[irreducible] def law18_FrameParts_Xret (t4 : Bool) : Fr := (mkFr 0 110 [(4, (.bool t4))])
@[irreducible] def law18_FrameParts_X0 (b0 : Option Addr) (b0n : Nat) (b0c : Nat) (whole5 : Option Addr) (d6 : Option Addr) (want7 : Option Addr) (want7n : Nat) (want7c : Nat) (e8 : Int) (got9 : Option Addr) (got9n : Nat) (got9c : Nat) (at10 : Int) : Fr := (mkFr 0 110 [(0, (.slice b0 b0n b0c)), (5, (.pointer whole5)), (6, (.pointer d6)), (7, (.slice want7 want7n want7c)), (8, (.int .i64 e8)), (9, (.slice got9 got9n got9c)), (10, (.int .i64 at10))])
@[irreducible] def law18_FrameParts_K1 (Q : Value → Heap → Prop) : Ex → Fr → Heap → Prop := seqK (fun fr h => ev PP true none (sub (bodyOf Tryd.f5) [1, 1]) (subA law18_FrameParts_ann [1, 1]) (fr.mask 3) (bodyK PP Tryd.f5 Q) h) (bodyK PP Tryd.f5 Q)
@[irreducible] def law18_FrameParts_J101 (b0 : Option Addr) (b0n : Nat) (b0c : Nat) (cuts1 : Option Addr) (cuts1n : Nat) (cuts1c : Nat) (t24 : Bool) (Q : Value → Heap → Prop) (h : Heap) : Prop := Jn PP true (sub (bodyOf Tryd.f5) [1, 0, 1]) (mkFr 0 110 [(0, (.slice b0 b0n b0c)), (1, (.slice cuts1 cuts1n cuts1c)), (24, (.bool t24))]) (law18_FrameParts_K1 Q) h
@[irreducible] def law18_FrameParts_K1111 (Q : Value → Heap → Prop) : Ex → Fr → Heap → Prop := seqK (fun fr h => ev PP true none (sub (bodyOf Tryd.f5) [1, 1, 1, 1, 1]) (subA law18_FrameParts_ann [1, 1, 1, 1, 1]) (fr.mask 99) (bodyK PP Tryd.f5 Q) h) (bodyK PP Tryd.f5 Q)
@[irreducible] def law18_FrameParts_J111101 (b0 : Option Addr) (b0n : Nat) (b0c : Nat) (cuts1 : Option Addr) (cuts1n : Nat) (cuts1c : Nat) (whole5 : Option Addr) (d6 : Option Addr) (t33 : Bool) (Q : Value → Heap → Prop) (h : Heap) : Prop := Jn PP true (sub (bodyOf Tryd.f5) [1, 1, 1, 1, 0, 1]) (mkFr 0 110 [(0, (.slice b0 b0n b0c)), (1, (.slice cuts1 cuts1n cuts1c)), (5, (.pointer whole5)), (6, (.pointer d6)), (33, (.bool t33))]) (law18_FrameParts_K1111 Q) h
@[irreducible] def law18_FrameParts_K11111111 (Q : Value → Heap → Prop) : Ex → Fr → Heap → Prop := seqK (fun fr h => ev PP true none (sub (bodyOf Tryd.f5) [1, 1, 1, 1, 1, 1, 1, 1, 1]) (subA law18_FrameParts_ann [1, 1, 1, 1, 1, 1, 1, 1, 1]) (fr.mask 2017) (bodyK PP Tryd.f5 Q) h) (bodyK PP Tryd.f5 Q)
@[irreducible] def law18_FrameParts_K1111111101 (Q : Value → Heap → Prop) : Ex → Fr → Heap → Prop := blockK 0 (law18_FrameParts_K11111111 Q)
@[irreducible] def law18_FrameParts_L11111111010 (b0 : Option Addr) (b0n : Nat) (b0c : Nat) (cuts1 : Option Addr) (cuts1n : Nat) (cuts1c : Nat) (whole5 : Option Addr) (d6 : Option Addr) (want7 : Option Addr) (want7n : Nat) (want7c : Nat) (e8 : Int) (got9 : Option Addr) (got9n : Nat) (got9c : Nat) (at10 : Int) (i11 : Int) (K : Ex → Fr → Heap → Prop) (h : Heap) : Prop := Lp PP true (sub (bodyOf Tryd.f5) [1, 1, 1, 1, 1, 1, 1, 1, 0, 1, 0, 0]) (mkFr 0 110 [(0, (.slice b0 b0n b0c)), (1, (.slice cuts1 cuts1n cuts1c)), (5, (.pointer whole5)), (6, (.pointer d6)), (7, (.slice want7 want7n want7c)), (8, (.int .i64 e8)), (9, (.slice got9 got9n got9c)), (10, (.int .i64 at10)), (11, (.int .i64 i11))]) K h
@[irreducible] def law18_FrameParts_B11111111010 (K : Ex → Fr → Heap → Prop) : Ex → Fr → Heap → Prop := seqK (fun fr h => Lp PP true (sub (bodyOf Tryd.f5) [1, 1, 1, 1, 1, 1, 1, 1, 0, 1, 0, 0]) (fr.mask 4067) K h) K
@[irreducible] def law18_FrameParts_J11111111010011 (b0 : Option Addr) (b0n : Nat) (b0c : Nat) (cuts1 : Option Addr) (cuts1n : Nat) (cuts1c : Nat) (whole5 : Option Addr) (d6 : Option Addr) (want7 : Option Addr) (want7n : Nat) (want7c : Nat) (e8 : Int) (got9 : Option Addr) (got9n : Nat) (got9c : Nat) (at10 : Int) (i11 : Int) (K : Ex → Fr → Heap → Prop) (h : Heap) : Prop := Jn PP true (sub (bodyOf Tryd.f5) [1, 1, 1, 1, 1, 1, 1, 1, 0, 1, 0, 0, 1, 1]) (mkFr 0 110 [(0, (.slice b0 b0n b0c)), (1, (.slice cuts1 cuts1n cuts1c)), (5, (.pointer whole5)), (6, (.pointer d6)), (7, (.slice want7 want7n want7c)), (8, (.int .i64 e8)), (9, (.slice got9 got9n got9c)), (10, (.int .i64 at10)), (11, (.int .i64 i11))]) (law18_FrameParts_B11111111010 K) h
@[reducible] def law18_FrameParts_J101_txt (b0 : Option Addr) (b0n : Nat) (b0c : Nat) (cuts1 : Option Addr) (cuts1n : Nat) (cuts1c : Nat) (t24 : Bool) (Q : Value → Heap → Prop) (h : Heap) : Prop :=
 br t24 (
 SpecH PP F_law18_awake [] h (fun v h1 => ∃ (t25 : Bool), v = (.bool t25) ∧
 Q (.bool t25) h1)) (
 SpecH PP F_frame_New [] h (fun v_1 h2 => ∃ (t26 : Option Addr), v_1 = (.pointer t26) ∧
 SpecH PP F_frame_New [] h2 (fun v_2 h3 => ∃ (t27 : Option Addr), v_2 = (.pointer t27) ∧
 let t29 : Bool := (Option.isNone t26)
 br t29 (
 law18_FrameParts_J111101 b0 b0n b0c cuts1 cuts1n cuts1c t26 t27 true Q h3) (
 let t32 : Bool := (Option.isNone t27)
 law18_FrameParts_J111101 b0 b0n b0c cuts1 cuts1n cuts1c t26 t27 t32 Q h3))))
theorem law18_FrameParts_J101_eq (b0 : Option Addr) (b0n : Nat) (b0c : Nat) (cuts1 : Option Addr) (cuts1n : Nat) (cuts1c : Nat) (t24 : Bool) (Q : Value → Heap → Prop) (h : Heap) : ev PP true none (sub (bodyOf Tryd.f5) [1, 0, 1]) (subA law18_FrameParts_ann [1, 0, 1]) (mkFr 0 110 [(0, (.slice b0 b0n b0c)), (1, (.slice cuts1 cuts1n cuts1c)), (24, (.bool t24))]) (law18_FrameParts_K1 Q) h = law18_FrameParts_J101_txt b0 b0n b0c cuts1 cuts1n cuts1c t24 Q h := by kernel_rfl
theorem law18_FrameParts_J101_of {b0 : Option Addr} {b0n : Nat} {b0c : Nat} {cuts1 : Option Addr} {cuts1n : Nat} {cuts1c : Nat} {t24 : Bool} {Q : Value → Heap → Prop} {h : Heap} (H : law18_FrameParts_J101_txt b0 b0n b0c cuts1 cuts1n cuts1c t24 Q h) : law18_FrameParts_J101 b0 b0n b0c cuts1 cuts1n cuts1c t24 Q h := by
   unfold law18_FrameParts_J101; refine Jn.of_ev (x := subA law18_FrameParts_ann [1, 0, 1]) ?_; exact (law18_FrameParts_J101_eq b0 b0n b0c cuts1 cuts1n cuts1c t24 Q h).symm ▸ H
@[reducible] def law18_FrameParts_J111101_txt (b0 : Option Addr) (b0n : Nat) (b0c : Nat) (cuts1 : Option Addr) (cuts1n : Nat) (cuts1c : Nat) (whole5 : Option Addr) (d6 : Option Addr) (t33 : Bool) (Q : Value → Heap → Prop) (h : Heap) : Prop :=
 br t33 (
 Q (.bool false) h) (
 SpecH PP F_frame_Decoder_Feed [(.pointer whole5), (.slice b0 b0n b0c)] h (fun v h1 => ∃ (t37 : Option Addr) (t37n : Nat) (t37c : Nat) (t37_1 : Int), v = (.tuple #[(.slice t37 t37n t37c), (.int .i64 t37_1)]) ∧
 law18_FrameParts_L11111111010 b0 b0n b0c cuts1 cuts1n cuts1c whole5 d6 t37 t37n t37c t37_1 none 0 0 0 0 (law18_FrameParts_K1111111101 Q) h1))
theorem law18_FrameParts_J111101_eq (b0 : Option Addr) (b0n : Nat) (b0c : Nat) (cuts1 : Option Addr) (cuts1n : Nat) (cuts1c : Nat) (whole5 : Option Addr) (d6 : Option Addr) (t33 : Bool) (Q : Value → Heap → Prop) (h : Heap) : ev PP true none (sub (bodyOf Tryd.f5) [1, 1, 1, 1, 0, 1]) (subA law18_FrameParts_ann [1, 1, 1, 1, 0, 1]) (mkFr 0 110 [(0, (.slice b0 b0n b0c)), (1, (.slice cuts1 cuts1n cuts1c)), (5, (.pointer whole5)), (6, (.pointer d6)), (33, (.bool t33))]) (law18_FrameParts_K1111 Q) h = law18_FrameParts_J111101_txt b0 b0n b0c cuts1 cuts1n cuts1c whole5 d6 t33 Q h := by kernel_rfl
theorem law18_FrameParts_J111101_of {b0 : Option Addr} {b0n : Nat} {b0c : Nat} {cuts1 : Option Addr} {cuts1n : Nat} {cuts1c : Nat} {whole5 : Option Addr} {d6 : Option Addr} {t33 : Bool} {Q : Value → Heap → Prop} {h : Heap} (H : law18_FrameParts_J111101_txt b0 b0n b0c cuts1 cuts1n cuts1c whole5 d6 t33 Q h) : law18_FrameParts_J111101 b0 b0n b0c cuts1 cuts1n cuts1c whole5 d6 t33 Q h := by
   unfold law18_FrameParts_J111101; refine Jn.of_ev (x := subA law18_FrameParts_ann [1, 1, 1, 1, 0, 1]) ?_; exact (law18_FrameParts_J111101_eq b0 b0n b0c cuts1 cuts1n cuts1c whole5 d6 t33 Q h).symm ▸ H
@[reducible] def law18_FrameParts_L11111111010_txt (b0 : Option Addr) (b0n : Nat) (b0c : Nat) (cuts1 : Option Addr) (cuts1n : Nat) (cuts1c : Nat) (whole5 : Option Addr) (d6 : Option Addr) (want7 : Option Addr) (want7n : Nat) (want7c : Nat) (e8 : Int) (got9 : Option Addr) (got9n : Nat) (got9c : Nat) (at10 : Int) (i11 : Int) (K : Ex → Fr → Heap → Prop) (h : Heap) : Prop :=
 let t43 : Bool := decide (i11 < (cuts1n : Int))
 br t43 (
 hwp PP (Instr.indexAt T_sl_int (.slice cuts1 cuts1n cuts1c) (.int .i64 i11)) (fun v h1 => ∃ (t48 : Addr), v = (.pointer (some t48)) ∧
 ∃ (t49 : Int), cellH h1 t48 = some (.int .i64 t49) ∧
 let t51 : Bool := decide (t49 < 0)
 br t51 (
 law18_FrameParts_J11111111010011 b0 b0n b0c cuts1 cuts1n cuts1c whole5 d6 want7 want7n want7c e8 got9 got9n got9c at10 i11 K h1) (
 let t57 : Int := IntKind.i64.wrap ((b0n : Int) - at10)
 let t58 : Bool := decide (t49 > t57)
 br t58 (
 law18_FrameParts_J11111111010011 b0 b0n b0c cuts1 cuts1n cuts1c whole5 d6 want7 want7n want7c e8 got9 got9n got9c at10 i11 K h1) (
 let t66 : Int := IntKind.i64.wrap (at10 + t49)
 hwp PP (Instr.sliceAt T_sl_uint8 (.slice b0 b0n b0c) (some (.int .i64 at10)) (some (.int .i64 t66)) none) (fun v_1 h2 => ∃ (t67 : Option Addr) (t67n : Nat) (t67c : Nat), v_1 = (.slice t67 t67n t67c) ∧
 SpecH PP F_frame_Decoder_Feed [(.pointer d6), (.slice t67 t67n t67c)] h2 (fun v_2 h3 => ∃ (t68 : Option Addr) (t68n : Nat) (t68c : Nat) (t68_1 : Int), v_2 = (.tuple #[(.slice t68 t68n t68c), (.int .i64 t68_1)]) ∧
 hwp PP (Builtin.append_ #[T_sl_api_Frame, T_sl_api_Frame] T_sl_api_Frame #[(.slice got9 got9n got9c), (.slice t68 t68n t68c)]) (fun v_3 h4 => ∃ (t73 : Option Addr) (t73n : Nat) (t73c : Nat), v_3 = (.slice t73 t73n t73c) ∧
 SpecH PP F_frame_Decoder_Wrong [(.pointer d6)] h4 (fun v_4 h5 => ∃ (t76 : Int), v_4 = (.int .i64 t76) ∧
 let t77 : Bool := (t68_1 != t76)
 br t77 (
 K .ret (law18_FrameParts_Xret false) h5) (
 let t80 : Int := IntKind.i64.wrap (at10 + t49)
 law18_FrameParts_J11111111010011 b0 b0n b0c cuts1 cuts1n cuts1c whole5 d6 want7 want7n want7c e8 t73 t73n t73c t80 i11 K h5))) h3)) h1))) h) (
 K (.exit 0) (law18_FrameParts_X0 b0 b0n b0c whole5 d6 want7 want7n want7c e8 got9 got9n got9c at10) h)
theorem law18_FrameParts_L11111111010_eq (b0 : Option Addr) (b0n : Nat) (b0c : Nat) (cuts1 : Option Addr) (cuts1n : Nat) (cuts1c : Nat) (whole5 : Option Addr) (d6 : Option Addr) (want7 : Option Addr) (want7n : Nat) (want7c : Nat) (e8 : Int) (got9 : Option Addr) (got9n : Nat) (got9c : Nat) (at10 : Int) (i11 : Int) (K : Ex → Fr → Heap → Prop) (h : Heap) : ev PP true none (sub (bodyOf Tryd.f5) [1, 1, 1, 1, 1, 1, 1, 1, 0, 1, 0, 0]) (subA law18_FrameParts_ann [1, 1, 1, 1, 1, 1, 1, 1, 0, 1, 0, 0]) (mkFr 0 110 [(0, (.slice b0 b0n b0c)), (1, (.slice cuts1 cuts1n cuts1c)), (5, (.pointer whole5)), (6, (.pointer d6)), (7, (.slice want7 want7n want7c)), (8, (.int .i64 e8)), (9, (.slice got9 got9n got9c)), (10, (.int .i64 at10)), (11, (.int .i64 i11))]) (seqK (fun fr h => Lp PP true (sub (bodyOf Tryd.f5) [1, 1, 1, 1, 1, 1, 1, 1, 0, 1, 0, 0]) (fr.mask 4067) K h) K) h = law18_FrameParts_L11111111010_txt b0 b0n b0c cuts1 cuts1n cuts1c whole5 d6 want7 want7n want7c e8 got9 got9n got9c at10 i11 K h := by kernel_rfl
theorem law18_FrameParts_L11111111010_of {b0 : Option Addr} {b0n : Nat} {b0c : Nat} {cuts1 : Option Addr} {cuts1n : Nat} {cuts1c : Nat} {whole5 : Option Addr} {d6 : Option Addr} {want7 : Option Addr} {want7n : Nat} {want7c : Nat} {e8 : Int} {got9 : Option Addr} {got9n : Nat} {got9c : Nat} {at10 : Int} {i11 : Int} {K : Ex → Fr → Heap → Prop} {h : Heap} (H : law18_FrameParts_L11111111010_txt b0 b0n b0c cuts1 cuts1n cuts1c whole5 d6 want7 want7n want7c e8 got9 got9n got9c at10 i11 K h) : law18_FrameParts_L11111111010 b0 b0n b0c cuts1 cuts1n cuts1c whole5 d6 want7 want7n want7c e8 got9 got9n got9c at10 i11 K h := by
   unfold law18_FrameParts_L11111111010; refine Lp.of_ev (x := subA law18_FrameParts_ann [1, 1, 1, 1, 1, 1, 1, 1, 0, 1, 0, 0]) (keep := 4067) ?_; exact (law18_FrameParts_L11111111010_eq b0 b0n b0c cuts1 cuts1n cuts1c whole5 d6 want7 want7n want7c e8 got9 got9n got9c at10 i11 K h).symm ▸ H
theorem law18_FrameParts_at11111111010_Xret (Q : Value → Heap → Prop) (t4 : Bool) (h : Heap) : (law18_FrameParts_K1111111101 Q) .ret (law18_FrameParts_Xret t4) h = (
 Q (.bool t4) h) := by kernel_rfl
@[reducible] def law18_FrameParts_J11111111010011_txt (b0 : Option Addr) (b0n : Nat) (b0c : Nat) (cuts1 : Option Addr) (cuts1n : Nat) (cuts1c : Nat) (whole5 : Option Addr) (d6 : Option Addr) (want7 : Option Addr) (want7n : Nat) (want7c : Nat) (e8 : Int) (got9 : Option Addr) (got9n : Nat) (got9c : Nat) (at10 : Int) (i11 : Int) (K : Ex → Fr → Heap → Prop) (h : Heap) : Prop :=
 let t45 : Int := IntKind.i64.wrap (i11 + 1)
 law18_FrameParts_L11111111010 b0 b0n b0c cuts1 cuts1n cuts1c whole5 d6 want7 want7n want7c e8 got9 got9n got9c at10 t45 K h
theorem law18_FrameParts_J11111111010011_eq (b0 : Option Addr) (b0n : Nat) (b0c : Nat) (cuts1 : Option Addr) (cuts1n : Nat) (cuts1c : Nat) (whole5 : Option Addr) (d6 : Option Addr) (want7 : Option Addr) (want7n : Nat) (want7c : Nat) (e8 : Int) (got9 : Option Addr) (got9n : Nat) (got9c : Nat) (at10 : Int) (i11 : Int) (K : Ex → Fr → Heap → Prop) (h : Heap) : ev PP true none (sub (bodyOf Tryd.f5) [1, 1, 1, 1, 1, 1, 1, 1, 0, 1, 0, 0, 1, 1]) (subA law18_FrameParts_ann [1, 1, 1, 1, 1, 1, 1, 1, 0, 1, 0, 0, 1, 1]) (mkFr 0 110 [(0, (.slice b0 b0n b0c)), (1, (.slice cuts1 cuts1n cuts1c)), (5, (.pointer whole5)), (6, (.pointer d6)), (7, (.slice want7 want7n want7c)), (8, (.int .i64 e8)), (9, (.slice got9 got9n got9c)), (10, (.int .i64 at10)), (11, (.int .i64 i11))]) (law18_FrameParts_B11111111010 K) h = law18_FrameParts_J11111111010011_txt b0 b0n b0c cuts1 cuts1n cuts1c whole5 d6 want7 want7n want7c e8 got9 got9n got9c at10 i11 K h := by kernel_rfl
theorem law18_FrameParts_J11111111010011_of {b0 : Option Addr} {b0n : Nat} {b0c : Nat} {cuts1 : Option Addr} {cuts1n : Nat} {cuts1c : Nat} {whole5 : Option Addr} {d6 : Option Addr} {want7 : Option Addr} {want7n : Nat} {want7c : Nat} {e8 : Int} {got9 : Option Addr} {got9n : Nat} {got9c : Nat} {at10 : Int} {i11 : Int} {K : Ex → Fr → Heap → Prop} {h : Heap} (H : law18_FrameParts_J11111111010011_txt b0 b0n b0c cuts1 cuts1n cuts1c whole5 d6 want7 want7n want7c e8 got9 got9n got9c at10 i11 K h) : law18_FrameParts_J11111111010011 b0 b0n b0c cuts1 cuts1n cuts1c whole5 d6 want7 want7n want7c e8 got9 got9n got9c at10 i11 K h := by
   unfold law18_FrameParts_J11111111010011; refine Jn.of_ev (x := subA law18_FrameParts_ann [1, 1, 1, 1, 1, 1, 1, 1, 0, 1, 0, 0, 1, 1]) ?_; exact (law18_FrameParts_J11111111010011_eq b0 b0n b0c cuts1 cuts1n cuts1c whole5 d6 want7 want7n want7c e8 got9 got9n got9c at10 i11 K h).symm ▸ H
theorem law18_FrameParts_at11111111010_X0 (Q : Value → Heap → Prop) (b0 : Option Addr) (b0n : Nat) (b0c : Nat) (whole5 : Option Addr) (d6 : Option Addr) (want7 : Option Addr) (want7n : Nat) (want7c : Nat) (e8 : Int) (got9 : Option Addr) (got9n : Nat) (got9c : Nat) (at10 : Int) (h : Heap) : (law18_FrameParts_K1111111101 Q) (.exit 0) (law18_FrameParts_X0 b0 b0n b0c whole5 d6 want7 want7n want7c e8 got9 got9n got9c at10) h = (
 hwp PP (Instr.sliceAt T_sl_uint8 (.slice b0 b0n b0c) (some (.int .i64 at10)) none none) (fun v h1 => ∃ (t85 : Option Addr) (t85n : Nat) (t85c : Nat), v = (.slice t85 t85n t85c) ∧
 SpecH PP F_frame_Decoder_Feed [(.pointer d6), (.slice t85 t85n t85c)] h1 (fun v_1 h2 => ∃ (t86 : Option Addr) (t86n : Nat) (t86c : Nat) (t86_1 : Int), v_1 = (.tuple #[(.slice t86 t86n t86c), (.int .i64 t86_1)]) ∧
 hwp PP (Builtin.append_ #[T_sl_api_Frame, T_sl_api_Frame] T_sl_api_Frame #[(.slice got9 got9n got9c), (.slice t86 t86n t86c)]) (fun v_2 h3 => ∃ (t91 : Option Addr) (t91n : Nat) (t91c : Nat), v_2 = (.slice t91 t91n t91c) ∧
 SpecH PP F_law18_awake [] h3 (fun v_3 h4 => ∃ (t92 : Bool), v_3 = (.bool t92) ∧
 br t92 (
 SpecH PP F_ref18_Same [(.slice t91 t91n t91c), (.slice want7 want7n want7c)] h4 (fun v_4 h5 => ∃ (t96 : Bool), v_4 = (.bool t96) ∧
 br t96 (
 let t101 : Bool := (t86_1 == e8)
 br t101 (
 SpecH PP F_frame_Decoder_Wants [(.pointer d6)] h5 (fun v_5 h6 => ∃ (t105 : Int), v_5 = (.int .i64 t105) ∧
 SpecH PP F_frame_Decoder_Wants [(.pointer whole5)] h6 (fun v_6 h7 => ∃ (t107 : Int), v_6 = (.int .i64 t107) ∧
 let t108 : Bool := (t105 == t107)
 Q (.bool t108) h7))) (
 Q (.bool false) h5)) (
 Q (.bool false) h5))) (
 Q (.bool false) h4))) h2)) h) := by kernel_rfl
def law18_FrameParts_main (b0 : Option Addr) (b0n : Nat) (b0c : Nat) (cuts1 : Option Addr) (cuts1n : Nat) (cuts1c : Nat) (Q : Value → Heap → Prop) (h : Heap) : Prop :=
 let t19 : Bool := decide ((b0n : Int) > 1048576)
 br t19 (
 law18_FrameParts_J101 b0 b0n b0c cuts1 cuts1n cuts1c true Q h) (
 let t23 : Bool := decide ((cuts1n : Int) > 1048576)
 law18_FrameParts_J101 b0 b0n b0c cuts1 cuts1n cuts1c t23 Q h)
theorem law18_FrameParts_eq (b0 : Option Addr) (b0n : Nat) (b0c : Nat) (cuts1 : Option Addr) (cuts1n : Nat) (cuts1c : Nat) (Q : Value → Heap → Prop) (h : Heap) : ev PP true none (bodyOf Tryd.f5) law18_FrameParts_ann (initFr 110 [(.slice b0 b0n b0c), (.slice cuts1 cuts1n cuts1c)]) (bodyK PP Tryd.f5 Q) h = law18_FrameParts_main b0 b0n b0c cuts1 cuts1n cuts1c Q h := by kernel_rfl
theorem law18_FrameParts_door {b0 : Option Addr} {b0n : Nat} {b0c : Nat} {cuts1 : Option Addr} {cuts1n : Nat} {cuts1c : Nat} {Q : Value → Heap → Prop} {h : Heap} (H : law18_FrameParts_main b0 b0n b0c cuts1 cuts1n cuts1c Q h) : SpecH PP F_law18_FrameParts [(.slice b0 b0n b0c), (.slice cuts1 cuts1n cuts1c)] h Q :=
   spec_of_ev Tryd.func5 rfl rfl ((law18_FrameParts_eq b0 b0n b0c cuts1 cuts1n cuts1c Q h).symm ▸ H)
/-! ### haversack/haversacklaw18.FrameRound: function 6 -/
def law18_FrameRound_ann : Ann := (.seq 1 (.region [(List.range 1, 1)]) (.seq 1 (.seq 4097 (.region [(List.range 3, 4097)]) (.cond (.seq 4 (.region [(List.range 2, 4)]) (.exit 4)) .leaf)) (.seq 9 (.region [(List.range 1, 9)]) (.seq 9 (.seq 25 (.region [(List.range 1, 25)]) (.block (.loop 25 (.seq 25 (.seq 131097 (.region [(List.range 4, 131097)]) (.cond .leaf (.exit 9))) (.seq 25 (.block (.seq 25 (.seq 2147483673 (.region [(List.range 12, 2147483673)]) (.join (.cond (.seq 4 (.region [(List.range 2, 4)]) (.exit 4)) .leaf))) (.seq 121 (.region [(List.range 10, 121)]) (.seq 57 (.seq 4398046511225 (.region [(List.range 2, 4398046511225)]) (.cond (.seq 4 (.region [(List.range 15, 4)]) (.exit 4)) .leaf)) (.seq 57 (.seq 73786976294838206521 (.region [(List.range 10, 73786976294838206521)]) (.cond (.seq 4 (.region [(List.range 1, 4)]) (.exit 4)) .leaf)) (.region [(List.range 4, 25)])))))) (.region [(List.range 3, 25)])))))) (.seq 137 (.region [(List.range 2, 137)]) (.seq 137 (.seq 4722366482869645213833 (.region [(List.range 2, 4722366482869645213833)]) (.cond (.seq 4 (.region [(List.range 1, 4)]) (.exit 4)) .leaf)) (.seq 897 (.region [(List.range 8, 897)]) (.seq 4 (.region [(List.range 21, 4)]) (.exit 4)))))))))
@[irreducible] def law18_FrameRound_X0 (xl0 : Option Addr) (xl0n : Nat) (xl0c : Nat) (all3 : Option Addr) (all3n : Nat) (all3c : Nat) : Fr := (mkFr 0 99 [(0, (.slice xl0 xl0n xl0c)), (3, (.slice all3 all3n all3c))])
@[irreducible] def law18_FrameRound_Xret (t2 : Bool) : Fr := (mkFr 0 99 [(2, (.bool t2))])
@[irreducible] def law18_FrameRound_L111010 (xl0 : Option Addr) (xl0n : Nat) (xl0c : Nat) (all3 : Option Addr) (all3n : Nat) (all3c : Nat) (i4 : Int) (K : Ex → Fr → Heap → Prop) (h : Heap) : Prop := Lp PP true (sub (bodyOf Tryd.f6) [1, 1, 1, 0, 1, 0, 0]) (mkFr 0 99 [(0, (.slice xl0 xl0n xl0c)), (3, (.slice all3 all3n all3c)), (4, (.int .i64 i4))]) K h
@[irreducible] def law18_FrameRound_B111010 (K : Ex → Fr → Heap → Prop) : Ex → Fr → Heap → Prop := seqK (fun fr h => Lp PP true (sub (bodyOf Tryd.f6) [1, 1, 1, 0, 1, 0, 0]) (fr.mask 25) K h) K
@[irreducible] def law18_FrameRound_K11101001 (K : Ex → Fr → Heap → Prop) : Ex → Fr → Heap → Prop := seqK (fun fr h => ev PP true none (sub (bodyOf Tryd.f6) [1, 1, 1, 0, 1, 0, 0, 1, 1]) (subA law18_FrameRound_ann [1, 1, 1, 0, 1, 0, 0, 1, 1]) (fr.mask 25) (law18_FrameRound_B111010 K) h) (law18_FrameRound_B111010 K)
@[irreducible] def law18_FrameRound_K111010010 (K : Ex → Fr → Heap → Prop) : Ex → Fr → Heap → Prop := blockK 1 (law18_FrameRound_K11101001 K)
@[irreducible] def law18_FrameRound_K1110100100 (K : Ex → Fr → Heap → Prop) : Ex → Fr → Heap → Prop := seqK (fun fr h => ev PP true none (sub (bodyOf Tryd.f6) [1, 1, 1, 0, 1, 0, 0, 1, 0, 0, 1]) (subA law18_FrameRound_ann [1, 1, 1, 0, 1, 0, 0, 1, 0, 0, 1]) (fr.mask 25) (law18_FrameRound_K111010010 K) h) (law18_FrameRound_K111010010 K)
@[irreducible] def law18_FrameRound_J111010010001 (xl0 : Option Addr) (xl0n : Nat) (xl0c : Nat) (all3 : Option Addr) (all3n : Nat) (all3c : Nat) (i4 : Int) (t31 : Bool) (K : Ex → Fr → Heap → Prop) (h : Heap) : Prop := Jn PP true (sub (bodyOf Tryd.f6) [1, 1, 1, 0, 1, 0, 0, 1, 0, 0, 0, 1]) (mkFr 0 99 [(0, (.slice xl0 xl0n xl0c)), (3, (.slice all3 all3n all3c)), (4, (.int .i64 i4)), (31, (.bool t31))]) (law18_FrameRound_K1110100100 K) h
@[irreducible] def law18_FrameRound_K111 (Q : Value → Heap → Prop) : Ex → Fr → Heap → Prop := seqK (fun fr h => ev PP true none (sub (bodyOf Tryd.f6) [1, 1, 1, 1]) (subA law18_FrameRound_ann [1, 1, 1, 1]) (fr.mask 9) (bodyK PP Tryd.f6 Q) h) (bodyK PP Tryd.f6 Q)
@[irreducible] def law18_FrameRound_K11101 (Q : Value → Heap → Prop) : Ex → Fr → Heap → Prop := blockK 0 (law18_FrameRound_K111 Q)
@[reducible] def law18_FrameRound_L111010_txt (xl0 : Option Addr) (xl0n : Nat) (xl0c : Nat) (all3 : Option Addr) (all3n : Nat) (all3c : Nat) (i4 : Int) (K : Ex → Fr → Heap → Prop) (h : Heap) : Prop :=
 let t17 : Bool := decide (i4 < (xl0n : Int))
 br t17 (
 hwp PP (Instr.indexAt T_sl_api_Frame (.slice xl0 xl0n xl0c) (.int .i64 i4)) (fun v h1 => ∃ (t22 : Addr), v = (.pointer (some t22)) ∧
 ∃ (t24 : ByteArray), cellH h1 (Addr.add t22 1) = some (.string t24) ∧
 let t25 : Int := (ByteArray.size t24 : Int)
 let t26 : Bool := decide (t25 > 1048576)
 br t26 (
 law18_FrameRound_J111010010001 xl0 xl0n xl0c all3 all3n all3c i4 true K h1) (
 let t30 : Bool := decide ((all3n : Int) > 67108864)
 law18_FrameRound_J111010010001 xl0 xl0n xl0c all3 all3n all3c i4 t30 K h1)) h) (
 K (.exit 0) (law18_FrameRound_X0 xl0 xl0n xl0c all3 all3n all3c) h)
theorem law18_FrameRound_L111010_eq (xl0 : Option Addr) (xl0n : Nat) (xl0c : Nat) (all3 : Option Addr) (all3n : Nat) (all3c : Nat) (i4 : Int) (K : Ex → Fr → Heap → Prop) (h : Heap) : ev PP true none (sub (bodyOf Tryd.f6) [1, 1, 1, 0, 1, 0, 0]) (subA law18_FrameRound_ann [1, 1, 1, 0, 1, 0, 0]) (mkFr 0 99 [(0, (.slice xl0 xl0n xl0c)), (3, (.slice all3 all3n all3c)), (4, (.int .i64 i4))]) (seqK (fun fr h => Lp PP true (sub (bodyOf Tryd.f6) [1, 1, 1, 0, 1, 0, 0]) (fr.mask 25) K h) K) h = law18_FrameRound_L111010_txt xl0 xl0n xl0c all3 all3n all3c i4 K h := by kernel_rfl
theorem law18_FrameRound_L111010_of {xl0 : Option Addr} {xl0n : Nat} {xl0c : Nat} {all3 : Option Addr} {all3n : Nat} {all3c : Nat} {i4 : Int} {K : Ex → Fr → Heap → Prop} {h : Heap} (H : law18_FrameRound_L111010_txt xl0 xl0n xl0c all3 all3n all3c i4 K h) : law18_FrameRound_L111010 xl0 xl0n xl0c all3 all3n all3c i4 K h := by
   unfold law18_FrameRound_L111010; refine Lp.of_ev (x := subA law18_FrameRound_ann [1, 1, 1, 0, 1, 0, 0]) (keep := 25) ?_; exact (law18_FrameRound_L111010_eq xl0 xl0n xl0c all3 all3n all3c i4 K h).symm ▸ H
theorem law18_FrameRound_at111010_X0 (Q : Value → Heap → Prop) (xl0 : Option Addr) (xl0n : Nat) (xl0c : Nat) (all3 : Option Addr) (all3n : Nat) (all3c : Nat) (h : Heap) : (law18_FrameRound_K11101 Q) (.exit 0) (law18_FrameRound_X0 xl0 xl0n xl0c all3 all3n all3c) h = (
 SpecH PP F_frame_New [] h (fun v h1 => ∃ (t70 : Option Addr), v = (.pointer t70) ∧
 let t72 : Bool := (Option.isNone t70)
 br t72 (
 Q (.bool false) h1) (
 SpecH PP F_frame_Decoder_Feed [(.pointer t70), (.slice all3 all3n all3c)] h1 (fun v_1 h2 => ∃ (t76 : Option Addr) (t76n : Nat) (t76c : Nat) (t76_1 : Int), v_1 = (.tuple #[(.slice t76 t76n t76c), (.int .i64 t76_1)]) ∧
 SpecH PP F_law18_awake [] h2 (fun v_2 h3 => ∃ (t79 : Bool), v_2 = (.bool t79) ∧
 br t79 (
 let t82 : Bool := (t76_1 == 0)
 br t82 (
 SpecH PP F_ref18_Same [(.slice t76 t76n t76c), (.slice xl0 xl0n xl0c)] h3 (fun v_3 h4 => ∃ (t87 : Bool), v_3 = (.bool t87) ∧
 br t87 (
 SpecH PP F_frame_Decoder_Wants [(.pointer t70)] h4 (fun v_4 h5 => ∃ (t91 : Int), v_4 = (.int .i64 t91) ∧
 let t92 : Bool := (t91 == 9)
 br t92 (
 SpecH PP F_frame_Decoder_Wrong [(.pointer t70)] h5 (fun v_5 h6 => ∃ (t96 : Int), v_5 = (.int .i64 t96) ∧
 let t97 : Bool := (t96 == 0)
 Q (.bool t97) h6)) (
 Q (.bool false) h5))) (
 Q (.bool false) h4))) (
 Q (.bool false) h3)) (
 Q (.bool false) h3)))))) := by kernel_rfl
@[reducible] def law18_FrameRound_J111010010001_txt (xl0 : Option Addr) (xl0n : Nat) (xl0c : Nat) (all3 : Option Addr) (all3n : Nat) (all3c : Nat) (i4 : Int) (t31 : Bool) (K : Ex → Fr → Heap → Prop) (h : Heap) : Prop :=
 br t31 (
 SpecH PP F_law18_awake [] h (fun v h1 => ∃ (t32 : Bool), v = (.bool t32) ∧
 K .ret (law18_FrameRound_Xret t32) h1)) (
 hwp PP (Instr.indexAt T_sl_api_Frame (.slice xl0 xl0n xl0c) (.int .i64 i4)) (fun v_1 h2 => ∃ (t36 : Addr), v_1 = (.pointer (some t36)) ∧
 ∃ (t37f0 : Int) (t37f1 : ByteArray), rdCells h2 t36 0 [(.int .i64 t37f0), (.string t37f1)] ∧
 SpecH PP F_frame_Encode [(.agg #[(.int .i64 t37f0), (.string t37f1)])] h2 (fun v_2 h3 => ∃ (t38 : Option Addr) (t38n : Nat) (t38c : Nat) (t38_1 : Int), v_2 = (.tuple #[(.slice t38 t38n t38c), (.int .i64 t38_1)]) ∧
 let t42 : Bool := (t38_1 != 0)
 br t42 (
 SpecH PP F_law18_awake [] h3 (fun v_3 h4 => ∃ (t43 : Bool), v_3 = (.bool t43) ∧
 br t43 (
 let t47 : Bool := ((t38n : Int) == 0)
 br t47 (
 let t51 : Bool := (t38_1 == 182)
 br t51 (
 K .ret (law18_FrameRound_Xret true) h4) (
 let t54 : Bool := (t38_1 == 180)
 K .ret (law18_FrameRound_Xret t54) h4)) (
 K .ret (law18_FrameRound_Xret false) h4)) (
 K .ret (law18_FrameRound_Xret false) h4))) (
 hwp PP (Instr.indexAt T_sl_api_Frame (.slice xl0 xl0n xl0c) (.int .i64 i4)) (fun v_4 h5 => ∃ (t61 : Addr), v_4 = (.pointer (some t61)) ∧
 ∃ (t63 : ByteArray), cellH h5 (Addr.add t61 1) = some (.string t63) ∧
 let t64 : Int := (ByteArray.size t63 : Int)
 let t65 : Int := IntKind.i64.wrap (t64 + 9)
 let t66 : Bool := ((t38n : Int) != t65)
 br t66 (
 K .ret (law18_FrameRound_Xret false) h5) (
 hwp PP (Builtin.append_ #[T_sl_uint8, T_sl_uint8] T_sl_uint8 #[(.slice all3 all3n all3c), (.slice t38 t38n t38c)]) (fun v_5 h6 => ∃ (t69 : Option Addr) (t69n : Nat) (t69c : Nat), v_5 = (.slice t69 t69n t69c) ∧
 let t19 : Int := IntKind.i64.wrap (i4 + 1)
 law18_FrameRound_L111010 xl0 xl0n xl0c t69 t69n t69c t19 K h6) h5)) h3))) h)
theorem law18_FrameRound_J111010010001_eq (xl0 : Option Addr) (xl0n : Nat) (xl0c : Nat) (all3 : Option Addr) (all3n : Nat) (all3c : Nat) (i4 : Int) (t31 : Bool) (K : Ex → Fr → Heap → Prop) (h : Heap) : ev PP true none (sub (bodyOf Tryd.f6) [1, 1, 1, 0, 1, 0, 0, 1, 0, 0, 0, 1]) (subA law18_FrameRound_ann [1, 1, 1, 0, 1, 0, 0, 1, 0, 0, 0, 1]) (mkFr 0 99 [(0, (.slice xl0 xl0n xl0c)), (3, (.slice all3 all3n all3c)), (4, (.int .i64 i4)), (31, (.bool t31))]) (law18_FrameRound_K1110100100 K) h = law18_FrameRound_J111010010001_txt xl0 xl0n xl0c all3 all3n all3c i4 t31 K h := by kernel_rfl
theorem law18_FrameRound_J111010010001_of {xl0 : Option Addr} {xl0n : Nat} {xl0c : Nat} {all3 : Option Addr} {all3n : Nat} {all3c : Nat} {i4 : Int} {t31 : Bool} {K : Ex → Fr → Heap → Prop} {h : Heap} (H : law18_FrameRound_J111010010001_txt xl0 xl0n xl0c all3 all3n all3c i4 t31 K h) : law18_FrameRound_J111010010001 xl0 xl0n xl0c all3 all3n all3c i4 t31 K h := by
   unfold law18_FrameRound_J111010010001; refine Jn.of_ev (x := subA law18_FrameRound_ann [1, 1, 1, 0, 1, 0, 0, 1, 0, 0, 0, 1]) ?_; exact (law18_FrameRound_J111010010001_eq xl0 xl0n xl0c all3 all3n all3c i4 t31 K h).symm ▸ H
theorem law18_FrameRound_at111010_Xret (Q : Value → Heap → Prop) (t2 : Bool) (h : Heap) : (law18_FrameRound_K11101 Q) .ret (law18_FrameRound_Xret t2) h = (
 Q (.bool t2) h) := by kernel_rfl
def law18_FrameRound_main (xl0 : Option Addr) (xl0n : Nat) (xl0c : Nat) (Q : Value → Heap → Prop) (h : Heap) : Prop :=
 let t12 : Bool := decide ((xl0n : Int) > 1000)
 br t12 (
 SpecH PP F_law18_awake [] h (fun v h1 => ∃ (t13 : Bool), v = (.bool t13) ∧
 Q (.bool t13) h1)) (
 law18_FrameRound_L111010 xl0 xl0n xl0c none 0 0 0 (law18_FrameRound_K11101 Q) h)
theorem law18_FrameRound_eq (xl0 : Option Addr) (xl0n : Nat) (xl0c : Nat) (Q : Value → Heap → Prop) (h : Heap) : ev PP true none (bodyOf Tryd.f6) law18_FrameRound_ann (initFr 99 [(.slice xl0 xl0n xl0c)]) (bodyK PP Tryd.f6 Q) h = law18_FrameRound_main xl0 xl0n xl0c Q h := by kernel_rfl
theorem law18_FrameRound_door {xl0 : Option Addr} {xl0n : Nat} {xl0c : Nat} {Q : Value → Heap → Prop} {h : Heap} (H : law18_FrameRound_main xl0 xl0n xl0c Q h) : SpecH PP F_law18_FrameRound [(.slice xl0 xl0n xl0c)] h Q :=
   spec_of_ev Tryd.func6 rfl rfl ((law18_FrameRound_eq xl0 xl0n xl0c Q h).symm ▸ H)
/-! ### haversack/haversacklaw18.FrameTells: function 7 -/
def law18_FrameTells_ann : Ann := (.seq 60 (.region [(List.range 3, 60)]) (.seq 60 (.seq 536870972 (.region [(List.range 14, 536870972)]) (.join (.cond (.seq 256 (.region [(List.range 2, 256)]) (.exit 256)) .leaf))) (.seq 1596 (.region [(List.range 7, 1596)]) (.seq 7708 (.region [(List.range 7, 7708)]) (.seq 2588 (.seq 2251799813692956 (.region [(List.range 11, 2251799813692956)]) (.join (.cond (.seq 256 (.region [(List.range 10, 256)]) (.exit 256)) .leaf))) (.seq 2588 (.seq 4611686018427390492 (.region [(List.range 2, 4611686018427390492)]) (.cond (.region [(List.range 4, 2588)]) .leaf)) (.join (.seq 2588 (.region [(List.range 7, 2588)]) (.seq 2580 (.region [(List.range 10, 2580)]) (.seq 10772 (.region [(List.range 2, 10772)]) (.seq 10772 (.seq 9671406556917033397660180 (.region [(List.range 2, 9671406556917033397660180)]) (.cond (.seq 256 (.region [(List.range 1, 256)]) (.exit 256)) .leaf)) (.seq 49172 (.region [(List.range 10, 49172)]) (.seq 256 (.region [(List.range 20, 256)]) (.exit 256))))))))))))))
@[irreducible] def law18_FrameTells_K1 (Q : Value → Heap → Prop) : Ex → Fr → Heap → Prop := seqK (fun fr h => ev PP true none (sub (bodyOf Tryd.f7) [1, 1]) (subA law18_FrameTells_ann [1, 1]) (fr.mask 60) (bodyK PP Tryd.f7 Q) h) (bodyK PP Tryd.f7 Q)
@[irreducible] def law18_FrameTells_J101 (at2 : Int) (v3 : Int) (f4 : Addr) (g5 : Addr) (t29 : Bool) (Q : Value → Heap → Prop) (h : Heap) : Prop := Jn PP true (sub (bodyOf Tryd.f7) [1, 0, 1]) (mkFr 0 111 [(2, (.int .i64 at2)), (3, (.int .u8 v3)), (4, (.pointer (some f4))), (5, (.pointer (some g5))), (29, (.bool t29))]) (law18_FrameTells_K1 Q) h
@[irreducible] def law18_FrameTells_K1111 (Q : Value → Heap → Prop) : Ex → Fr → Heap → Prop := seqK (fun fr h => ev PP true none (sub (bodyOf Tryd.f7) [1, 1, 1, 1, 1]) (subA law18_FrameTells_ann [1, 1, 1, 1, 1]) (fr.mask 2588) (bodyK PP Tryd.f7 Q) h) (bodyK PP Tryd.f7 Q)
@[irreducible] def law18_FrameTells_J111101 (at2 : Int) (v3 : Int) (f4 : Addr) (a9 : Option Addr) (a9n : Nat) (a9c : Nat) (e10 : Int) (b11 : Option Addr) (b11n : Nat) (b11c : Nat) (xh12 : Int) (t51 : Bool) (Q : Value → Heap → Prop) (h : Heap) : Prop := Jn PP true (sub (bodyOf Tryd.f7) [1, 1, 1, 1, 0, 1]) (mkFr 0 111 [(2, (.int .i64 at2)), (3, (.int .u8 v3)), (4, (.pointer (some f4))), (9, (.slice a9 a9n a9c)), (10, (.int .i64 e10)), (11, (.slice b11 b11n b11c)), (12, (.int .i64 xh12)), (51, (.bool t51))]) (law18_FrameTells_K1111 Q) h
@[irreducible] def law18_FrameTells_J111111 (at2 : Int) (v3 : Int) (f4 : Addr) (a9 : Option Addr) (a9n : Nat) (a9c : Nat) (b11 : Option Addr) (b11n : Nat) (b11c : Nat) (Q : Value → Heap → Prop) (h : Heap) : Prop := Jn PP true (sub (bodyOf Tryd.f7) [1, 1, 1, 1, 1, 1]) (mkFr 0 111 [(2, (.int .i64 at2)), (3, (.int .u8 v3)), (4, (.pointer (some f4))), (9, (.slice a9 a9n a9c)), (11, (.slice b11 b11n b11c))]) (bodyK PP Tryd.f7 Q) h
@[reducible] def law18_FrameTells_J101_txt (at2 : Int) (v3 : Int) (f4 : Addr) (g5 : Addr) (t29 : Bool) (Q : Value → Heap → Prop) (h : Heap) : Prop :=
 br t29 (
 SpecH PP F_law18_awake [] h (fun v h1 => ∃ (t30 : Bool), v = (.bool t30) ∧
 Q (.bool t30) h1)) (
 ∃ (t32f0 : Int) (t32f1 : ByteArray), rdCells h f4 0 [(.int .i64 t32f0), (.string t32f1)] ∧
 SpecH PP F_frame_Encode [(.agg #[(.int .i64 t32f0), (.string t32f1)])] h (fun v_1 h2 => ∃ (t33 : Option Addr) (t33n : Nat) (t33c : Nat) (t33_1 : Int), v_1 = (.tuple #[(.slice t33 t33n t33c), (.int .i64 t33_1)]) ∧
 ∃ (t37f0 : Int) (t37f1 : ByteArray), rdCells h2 g5 0 [(.int .i64 t37f0), (.string t37f1)] ∧
 SpecH PP F_frame_Encode [(.agg #[(.int .i64 t37f0), (.string t37f1)])] h2 (fun v_2 h3 => ∃ (t38 : Option Addr) (t38n : Nat) (t38c : Nat) (t38_1 : Int), v_2 = (.tuple #[(.slice t38 t38n t38c), (.int .i64 t38_1)]) ∧
 let t42 : Bool := (t33_1 != 0)
 br t42 (
 law18_FrameTells_J111101 at2 v3 f4 t33 t33n t33c t33_1 t38 t38n t38c t38_1 true Q h3) (
 let t45 : Bool := (t38_1 != 0)
 br t45 (
 law18_FrameTells_J111101 at2 v3 f4 t33 t33n t33c t33_1 t38 t38n t38c t38_1 true Q h3) (
 let t50 : Bool := decide ((t38n : Int) < 9)
 law18_FrameTells_J111101 at2 v3 f4 t33 t33n t33c t33_1 t38 t38n t38c t38_1 t50 Q h3)))))
theorem law18_FrameTells_J101_eq (at2 : Int) (v3 : Int) (f4 : Addr) (g5 : Addr) (t29 : Bool) (Q : Value → Heap → Prop) (h : Heap) : ev PP true none (sub (bodyOf Tryd.f7) [1, 0, 1]) (subA law18_FrameTells_ann [1, 0, 1]) (mkFr 0 111 [(2, (.int .i64 at2)), (3, (.int .u8 v3)), (4, (.pointer (some f4))), (5, (.pointer (some g5))), (29, (.bool t29))]) (law18_FrameTells_K1 Q) h = law18_FrameTells_J101_txt at2 v3 f4 g5 t29 Q h := by kernel_rfl
theorem law18_FrameTells_J101_of {at2 : Int} {v3 : Int} {f4 : Addr} {g5 : Addr} {t29 : Bool} {Q : Value → Heap → Prop} {h : Heap} (H : law18_FrameTells_J101_txt at2 v3 f4 g5 t29 Q h) : law18_FrameTells_J101 at2 v3 f4 g5 t29 Q h := by
   unfold law18_FrameTells_J101; refine Jn.of_ev (x := subA law18_FrameTells_ann [1, 0, 1]) ?_; exact (law18_FrameTells_J101_eq at2 v3 f4 g5 t29 Q h).symm ▸ H
@[reducible] def law18_FrameTells_J111101_txt (at2 : Int) (v3 : Int) (f4 : Addr) (a9 : Option Addr) (a9n : Nat) (a9c : Nat) (e10 : Int) (b11 : Option Addr) (b11n : Nat) (b11c : Nat) (xh12 : Int) (t51 : Bool) (Q : Value → Heap → Prop) (h : Heap) : Prop :=
 br t51 (
 SpecH PP F_law18_awake [] h (fun v h1 => ∃ (t52 : Bool), v = (.bool t52) ∧
 br t52 (
 let t55 : Bool := (e10 != 0)
 br t55 (
 Q (.bool true) h1) (
 let t58 : Bool := (xh12 != 0)
 Q (.bool t58) h1)) (
 Q (.bool false) h1))) (
 let t62 : Bool := decide (at2 < 0)
 br t62 (
 let t64 : Int := IntKind.i64.wrap (at2 + 1)
 let t65 : Int := IntKind.i64.wrap (0 - t64)
 law18_FrameTells_J111111 t65 v3 f4 a9 a9n a9c b11 b11n b11c Q h) (
 law18_FrameTells_J111111 at2 v3 f4 a9 a9n a9c b11 b11n b11c Q h))
theorem law18_FrameTells_J111101_eq (at2 : Int) (v3 : Int) (f4 : Addr) (a9 : Option Addr) (a9n : Nat) (a9c : Nat) (e10 : Int) (b11 : Option Addr) (b11n : Nat) (b11c : Nat) (xh12 : Int) (t51 : Bool) (Q : Value → Heap → Prop) (h : Heap) : ev PP true none (sub (bodyOf Tryd.f7) [1, 1, 1, 1, 0, 1]) (subA law18_FrameTells_ann [1, 1, 1, 1, 0, 1]) (mkFr 0 111 [(2, (.int .i64 at2)), (3, (.int .u8 v3)), (4, (.pointer (some f4))), (9, (.slice a9 a9n a9c)), (10, (.int .i64 e10)), (11, (.slice b11 b11n b11c)), (12, (.int .i64 xh12)), (51, (.bool t51))]) (law18_FrameTells_K1111 Q) h = law18_FrameTells_J111101_txt at2 v3 f4 a9 a9n a9c e10 b11 b11n b11c xh12 t51 Q h := by kernel_rfl
theorem law18_FrameTells_J111101_of {at2 : Int} {v3 : Int} {f4 : Addr} {a9 : Option Addr} {a9n : Nat} {a9c : Nat} {e10 : Int} {b11 : Option Addr} {b11n : Nat} {b11c : Nat} {xh12 : Int} {t51 : Bool} {Q : Value → Heap → Prop} {h : Heap} (H : law18_FrameTells_J111101_txt at2 v3 f4 a9 a9n a9c e10 b11 b11n b11c xh12 t51 Q h) : law18_FrameTells_J111101 at2 v3 f4 a9 a9n a9c e10 b11 b11n b11c xh12 t51 Q h := by
   unfold law18_FrameTells_J111101; refine Jn.of_ev (x := subA law18_FrameTells_ann [1, 1, 1, 1, 0, 1]) ?_; exact (law18_FrameTells_J111101_eq at2 v3 f4 a9 a9n a9c e10 b11 b11n b11c xh12 t51 Q h).symm ▸ H
@[reducible] def law18_FrameTells_J111111_txt (at2 : Int) (v3 : Int) (f4 : Addr) (a9 : Option Addr) (a9n : Nat) (a9c : Nat) (b11 : Option Addr) (b11n : Nat) (b11c : Nat) (Q : Value → Heap → Prop) (h : Heap) : Prop :=
 let t69 : Int := IntKind.i64.wrap ((b11n : Int) - 4)
 br (!decide (t69 = 0)) (
 let t70 : Int := Int.tmod at2 t69
 let t71 : Int := IntKind.i64.wrap (4 + t70)
 hwp PP (Instr.indexAt T_sl_uint8 (.slice b11 b11n b11c) (.int .i64 t71)) (fun v h1 => ∃ (t76 : Addr), v = (.pointer (some t76)) ∧
 ∃ (t77 : Int), cellH h1 t76 = some (.int .u8 t77) ∧
 let t79 : Int := bXor .u8 t77 v3
 hwp PP (Instr.indexAt T_sl_uint8 (.slice b11 b11n b11c) (.int .i64 t71)) (fun v_1 h2 => ∃ (t80 : Addr), v_1 = (.pointer (some t80)) ∧
 wr t80 (.int .u8 t79) (fun h3 =>
 SpecH PP F_frame_New [] h3 (fun v_2 h4 => ∃ (t81 : Option Addr), v_2 = (.pointer t81) ∧
 let t83 : Bool := (Option.isNone t81)
 br t83 (
 Q (.bool false) h4) (
 hwp PP (Builtin.append_ #[T_sl_uint8, T_sl_uint8] T_sl_uint8 #[(.slice a9 a9n a9c), (.slice b11 b11n b11c)]) (fun v_3 h5 => ∃ (t88 : Option Addr) (t88n : Nat) (t88c : Nat), v_3 = (.slice t88 t88n t88c) ∧
 SpecH PP F_frame_Decoder_Feed [(.pointer t81), (.slice t88 t88n t88c)] h5 (fun v_4 h6 => ∃ (t89 : Option Addr) (t89n : Nat) (t89c : Nat) (t89_1 : Int), v_4 = (.tuple #[(.slice t89 t89n t89c), (.int .i64 t89_1)]) ∧
 SpecH PP F_law18_awake [] h6 (fun v_5 h7 => ∃ (t92 : Bool), v_5 = (.bool t92) ∧
 br t92 (
 ∃ (t95f0 : Int) (t95f1 : ByteArray), rdCells h7 f4 0 [(.int .i64 t95f0), (.string t95f1)] ∧
 let h8 : Heap := Array.push h7 (.cells #[(.int .i64 t95f0), (.string t95f1)] T_api_Frame (0, 0))
 SpecH PP F_ref18_Same [(.slice t89 t89n t89c), (.slice (some ⟨Array.size h7, 0, none⟩) 1 1)] h8 (fun v_6 h9 => ∃ (t97 : Bool), v_6 = (.bool t97) ∧
 br t97 (
 let t101 : Bool := (t89_1 == 181)
 br t101 (
 Q (.bool true) h9) (
 let t104 : Bool := (t89_1 == 182)
 br t104 (
 let t107 : Bool := (t71 == 4)
 Q (.bool t107) h9) (
 Q (.bool false) h9))) (
 Q (.bool false) h9))) (
 Q (.bool false) h7)))) h4))) h2) h1) h) False
theorem law18_FrameTells_J111111_eq (at2 : Int) (v3 : Int) (f4 : Addr) (a9 : Option Addr) (a9n : Nat) (a9c : Nat) (b11 : Option Addr) (b11n : Nat) (b11c : Nat) (Q : Value → Heap → Prop) (h : Heap) : ev PP true none (sub (bodyOf Tryd.f7) [1, 1, 1, 1, 1, 1]) (subA law18_FrameTells_ann [1, 1, 1, 1, 1, 1]) (mkFr 0 111 [(2, (.int .i64 at2)), (3, (.int .u8 v3)), (4, (.pointer (some f4))), (9, (.slice a9 a9n a9c)), (11, (.slice b11 b11n b11c))]) (bodyK PP Tryd.f7 Q) h = law18_FrameTells_J111111_txt at2 v3 f4 a9 a9n a9c b11 b11n b11c Q h := by kernel_rfl
theorem law18_FrameTells_J111111_of {at2 : Int} {v3 : Int} {f4 : Addr} {a9 : Option Addr} {a9n : Nat} {a9c : Nat} {b11 : Option Addr} {b11n : Nat} {b11c : Nat} {Q : Value → Heap → Prop} {h : Heap} (H : law18_FrameTells_J111111_txt at2 v3 f4 a9 a9n a9c b11 b11n b11c Q h) : law18_FrameTells_J111111 at2 v3 f4 a9 a9n a9c b11 b11n b11c Q h := by
   unfold law18_FrameTells_J111111; refine Jn.of_ev (x := subA law18_FrameTells_ann [1, 1, 1, 1, 1, 1]) ?_; exact (law18_FrameTells_J111111_eq at2 v3 f4 a9 a9n a9c b11 b11n b11c Q h).symm ▸ H
def law18_FrameTells_main (f0f0 : Int) (f0f1 : ByteArray) (g1f0 : Int) (g1f1 : ByteArray) (at2 : Int) (v3 : Int) (Q : Value → Heap → Prop) (h : Heap) : Prop :=
 let f4 : Addr := ⟨Array.size h, 0, none⟩
 let h1 : Heap := Array.push h (.cells #[(.int .i64 f0f0), (.string f0f1)] T_api_Frame (0, 0))
 let g5 : Addr := ⟨Array.size h1, 0, none⟩
 let h2 : Heap := Array.push h1 (.cells #[(.int .i64 g1f0), (.string g1f1)] T_api_Frame (0, 0))
 ∃ (t17 : ByteArray), cellH h2 (Addr.add f4 1) = some (.string t17) ∧
 let t18 : Int := (ByteArray.size t17 : Int)
 let t19 : Bool := decide (t18 > 1048576)
 br t19 (
 law18_FrameTells_J101 at2 v3 f4 g5 true Q h2) (
 ∃ (t22 : ByteArray), cellH h2 (Addr.add g5 1) = some (.string t22) ∧
 let t23 : Int := (ByteArray.size t22 : Int)
 let t24 : Bool := decide (t23 > 1048576)
 br t24 (
 law18_FrameTells_J101 at2 v3 f4 g5 true Q h2) (
 let t28 : Bool := (v3 == 0)
 law18_FrameTells_J101 at2 v3 f4 g5 t28 Q h2))
theorem law18_FrameTells_eq (f0f0 : Int) (f0f1 : ByteArray) (g1f0 : Int) (g1f1 : ByteArray) (at2 : Int) (v3 : Int) (Q : Value → Heap → Prop) (h : Heap) : ev PP true none (bodyOf Tryd.f7) law18_FrameTells_ann (initFr 111 [(.agg #[(.int .i64 f0f0), (.string f0f1)]), (.agg #[(.int .i64 g1f0), (.string g1f1)]), (.int .i64 at2), (.int .u8 v3)]) (bodyK PP Tryd.f7 Q) h = law18_FrameTells_main f0f0 f0f1 g1f0 g1f1 at2 v3 Q h := by kernel_rfl
theorem law18_FrameTells_door {f0f0 : Int} {f0f1 : ByteArray} {g1f0 : Int} {g1f1 : ByteArray} {at2 : Int} {v3 : Int} {Q : Value → Heap → Prop} {h : Heap} (H : law18_FrameTells_main f0f0 f0f1 g1f0 g1f1 at2 v3 Q h) : SpecH PP F_law18_FrameTells [(.agg #[(.int .i64 f0f0), (.string f0f1)]), (.agg #[(.int .i64 g1f0), (.string g1f1)]), (.int .i64 at2), (.int .u8 v3)] h Q :=
   spec_of_ev Tryd.func7 rfl rfl ((law18_FrameTells_eq f0f0 f0f1 g1f0 g1f1 at2 v3 Q h).symm ▸ H)
/-! ### haversack/haversacklaw18.FrameNil: function 8 -/
def law18_FrameNil_ann : Ann := (.seq 1 (.region [(List.range 1, 1)]) (.seq 1 (.seq 257 (.region [(List.range 3, 257)]) (.cond (.seq 4 (.region [(List.range 2, 4)]) (.exit 4)) .leaf)) (.seq 9 (.region [(List.range 1, 9)]) (.seq 56 (.region [(List.range 8, 56)]) (.seq 4 (.region [(List.range 21, 4)]) (.exit 4))))))
def law18_FrameNil_main (b0 : Option Addr) (b0n : Nat) (b0c : Nat) (Q : Value → Heap → Prop) (h : Heap) : Prop :=
 let t8 : Bool := decide ((b0n : Int) > 1048576)
 br t8 (
 SpecH PP F_law18_awake [] h (fun v h1 => ∃ (t9 : Bool), v = (.bool t9) ∧
 Q (.bool t9) h1)) (
 SpecH PP F_frame_Decoder_Feed [(.pointer none), (.slice b0 b0n b0c)] h (fun v_1 h2 => ∃ (t13 : Option Addr) (t13n : Nat) (t13c : Nat) (t13_1 : Int), v_1 = (.tuple #[(.slice t13 t13n t13c), (.int .i64 t13_1)]) ∧
 SpecH PP F_law18_awake [] h2 (fun v_2 h3 => ∃ (t16 : Bool), v_2 = (.bool t16) ∧
 br t16 (
 let t20 : Bool := ((t13n : Int) == 0)
 br t20 (
 let t24 : Bool := (t13_1 == 3)
 br t24 (
 SpecH PP F_frame_Decoder_Wants [(.pointer none)] h3 (fun v_3 h4 => ∃ (t28 : Int), v_3 = (.int .i64 t28) ∧
 let t29 : Bool := (t28 == 0)
 br t29 (
 SpecH PP F_frame_Decoder_Wrong [(.pointer none)] h4 (fun v_4 h5 => ∃ (t33 : Int), v_4 = (.int .i64 t33) ∧
 let t34 : Bool := (t33 == 3)
 Q (.bool t34) h5)) (
 Q (.bool false) h4))) (
 Q (.bool false) h3)) (
 Q (.bool false) h3)) (
 Q (.bool false) h3))))
theorem law18_FrameNil_eq (b0 : Option Addr) (b0n : Nat) (b0c : Nat) (Q : Value → Heap → Prop) (h : Heap) : ev PP true none (bodyOf Tryd.f8) law18_FrameNil_ann (initFr 36 [(.slice b0 b0n b0c)]) (bodyK PP Tryd.f8 Q) h = law18_FrameNil_main b0 b0n b0c Q h := by kernel_rfl
theorem law18_FrameNil_door {b0 : Option Addr} {b0n : Nat} {b0c : Nat} {Q : Value → Heap → Prop} {h : Heap} (H : law18_FrameNil_main b0 b0n b0c Q h) : SpecH PP F_law18_FrameNil [(.slice b0 b0n b0c)] h Q :=
   spec_of_ev Tryd.func8 rfl rfl ((law18_FrameNil_eq b0 b0n b0c Q h).symm ▸ H)
/-! ### haversack/haversacklaw18.awake: function 9 -/
def law18_awake_ann : Ann := (.seq 0 (.region [(List.range 1, 0)]) (.seq 6 (.region [(List.range 7, 6)]) (.seq 14 (.region [(List.range 2, 14)]) (.seq 14 (.seq 8388622 (.region [(List.range 7, 8388622)]) (.join (.cond (.seq 1 (.region [(List.range 1, 1)]) (.exit 1)) .leaf))) (.seq 62 (.region [(List.range 9, 62)]) (.seq 126 (.region [(List.range 3, 126)]) (.seq 510 (.region [(List.range 13, 510)]) (.seq 2046 (.region [(List.range 8, 2046)]) (.seq 1 (.region [(List.range 50, 1)]) (.exit 1))))))))))
@[irreducible] def law18_awake_K111 (Q : Value → Heap → Prop) : Ex → Fr → Heap → Prop := seqK (fun fr h => ev PP true none (sub (bodyOf Tryd.f9) [1, 1, 1, 1]) (subA law18_awake_ann [1, 1, 1, 1]) (fr.mask 14) (bodyK PP Tryd.f9 Q) h) (bodyK PP Tryd.f9 Q)
@[irreducible] def law18_awake_J11101 (b1 : Option Addr) (b1n : Nat) (b1c : Nat) (e2 : Int) (d3 : Option Addr) (t23 : Bool) (Q : Value → Heap → Prop) (h : Heap) : Prop := Jn PP true (sub (bodyOf Tryd.f9) [1, 1, 1, 0, 1]) (mkFr 0 99 [(1, (.slice b1 b1n b1c)), (2, (.int .i64 e2)), (3, (.pointer d3)), (23, (.bool t23))]) (law18_awake_K111 Q) h
@[reducible] def law18_awake_J11101_txt (b1 : Option Addr) (b1n : Nat) (b1c : Nat) (e2 : Int) (d3 : Option Addr) (t23 : Bool) (Q : Value → Heap → Prop) (h : Heap) : Prop :=
 br t23 (
 Q (.bool false) h) (
 hwp PP (Instr.sliceAt T_sl_uint8 (.slice b1 b1n b1c) none (some (.int .i64 5)) none) (fun v h1 => ∃ (t27 : Option Addr) (t27n : Nat) (t27c : Nat), v = (.slice t27 t27n t27c) ∧
 SpecH PP F_frame_Decoder_Feed [(.pointer d3), (.slice t27 t27n t27c)] h1 (fun v_1 h2 => ∃ (t28 : Option Addr) (t28n : Nat) (t28c : Nat) (t28_1 : Int), v_1 = (.tuple #[(.slice t28 t28n t28c), (.int .i64 t28_1)]) ∧
 SpecH PP F_frame_Decoder_Wants [(.pointer d3)] h2 (fun v_2 h3 => ∃ (t32 : Int), v_2 = (.int .i64 t32) ∧
 let h4 : Heap := Array.push h3 (.cells #[] T_uint8 (0, 0))
 hwp PP (Instr.sliceAt T_sl_uint8 (.slice b1 b1n b1c) (some (.int .i64 5)) none none) (fun v_3 h5 => ∃ (t37 : Option Addr) (t37n : Nat) (t37c : Nat), v_3 = (.slice t37 t37n t37c) ∧
 hwp PP (Builtin.append_ #[T_sl_uint8, T_sl_uint8] T_sl_uint8 #[(.slice (some ⟨Array.size h3, 0, none⟩) 0 0), (.slice t37 t37n t37c)]) (fun v_4 h6 => ∃ (t38 : Option Addr) (t38n : Nat) (t38c : Nat), v_4 = (.slice t38 t38n t38c) ∧
 let h7 : Heap := Array.push h6 (.cells #[(.int .u8 33), (.int .u8 78), (.int .u8 0), (.int .u8 0)] T_uint8 (0, 0))
 hwp PP (Builtin.append_ #[T_sl_uint8, T_sl_uint8] T_sl_uint8 #[(.slice t38 t38n t38c), (.slice (some ⟨Array.size h6, 0, none⟩) 4 4)]) (fun v_5 h8 => ∃ (t40 : Option Addr) (t40n : Nat) (t40c : Nat), v_5 = (.slice t40 t40n t40c) ∧
 SpecH PP F_frame_Decoder_Feed [(.pointer d3), (.slice t40 t40n t40c)] h8 (fun v_6 h9 => ∃ (t41 : Option Addr) (t41n : Nat) (t41c : Nat) (t41_1 : Int), v_6 = (.tuple #[(.slice t41 t41n t41c), (.int .i64 t41_1)]) ∧
 SpecH PP F_frame_Decoder_Feed [(.pointer d3), (.slice b1 b1n b1c)] h9 (fun v_7 h10 => ∃ (t47 : Option Addr) (t47n : Nat) (t47c : Nat) (t47_1 : Int), v_7 = (.tuple #[(.slice t47 t47n t47c), (.int .i64 t47_1)]) ∧
 let t51 : Bool := (e2 == 0)
 br t51 (
 let h11 : Heap := Array.push h10 (.cells #[(.int .u8 0), (.int .u8 0), (.int .u8 0), (.int .u8 0), (.int .u8 1), (.int .u8 27), (.int .u8 223), (.int .u8 5), (.int .u8 165)] T_uint8 (0, 0))
 SpecH PP F_keep_Bytes [(.slice b1 b1n b1c), (.slice (some ⟨Array.size h10, 0, none⟩) 9 9)] h11 (fun v_8 h12 => ∃ (t55 : Bool), v_8 = (.bool t55) ∧
 br t55 (
 let t60 : Bool := ((t28n : Int) == 0)
 br t60 (
 let t64 : Bool := (t28_1 == 0)
 br t64 (
 let t68 : Bool := (t32 == 4)
 br t68 (
 let h13 : Heap := Array.push h12 (.cells #[(.int .i64 1), (.string (⟨#[]⟩ : ByteArray))] T_api_Frame (0, 0))
 SpecH PP F_ref18_Same [(.slice t41 t41n t41c), (.slice (some ⟨Array.size h12, 0, none⟩) 1 1)] h13 (fun v_9 h14 => ∃ (t74 : Bool), v_9 = (.bool t74) ∧
 br t74 (
 let t78 : Bool := (t41_1 == 180)
 br t78 (
 let t83 : Bool := ((t47n : Int) == 0)
 br t83 (
 let t87 : Bool := (t47_1 == 180)
 br t87 (
 SpecH PP F_frame_Decoder_Wrong [(.pointer d3)] h14 (fun v_10 h15 => ∃ (t91 : Int), v_10 = (.int .i64 t91) ∧
 let t92 : Bool := (t91 == 180)
 br t92 (
 SpecH PP F_frame_Decoder_Wants [(.pointer d3)] h15 (fun v_11 h16 => ∃ (t96 : Int), v_11 = (.int .i64 t96) ∧
 let t97 : Bool := (t96 == 0)
 Q (.bool t97) h16)) (
 Q (.bool false) h15))) (
 Q (.bool false) h14)) (
 Q (.bool false) h14)) (
 Q (.bool false) h14)) (
 Q (.bool false) h14))) (
 Q (.bool false) h12)) (
 Q (.bool false) h12)) (
 Q (.bool false) h12)) (
 Q (.bool false) h12))) (
 Q (.bool false) h10)))) h7) h5) h4))) h)
theorem law18_awake_J11101_eq (b1 : Option Addr) (b1n : Nat) (b1c : Nat) (e2 : Int) (d3 : Option Addr) (t23 : Bool) (Q : Value → Heap → Prop) (h : Heap) : ev PP true none (sub (bodyOf Tryd.f9) [1, 1, 1, 0, 1]) (subA law18_awake_ann [1, 1, 1, 0, 1]) (mkFr 0 99 [(1, (.slice b1 b1n b1c)), (2, (.int .i64 e2)), (3, (.pointer d3)), (23, (.bool t23))]) (law18_awake_K111 Q) h = law18_awake_J11101_txt b1 b1n b1c e2 d3 t23 Q h := by kernel_rfl
theorem law18_awake_J11101_of {b1 : Option Addr} {b1n : Nat} {b1c : Nat} {e2 : Int} {d3 : Option Addr} {t23 : Bool} {Q : Value → Heap → Prop} {h : Heap} (H : law18_awake_J11101_txt b1 b1n b1c e2 d3 t23 Q h) : law18_awake_J11101 b1 b1n b1c e2 d3 t23 Q h := by
   unfold law18_awake_J11101; refine Jn.of_ev (x := subA law18_awake_ann [1, 1, 1, 0, 1]) ?_; exact (law18_awake_J11101_eq b1 b1n b1c e2 d3 t23 Q h).symm ▸ H
def law18_awake_main  (Q : Value → Heap → Prop) (h : Heap) : Prop :=
 SpecH PP F_frame_Encode [(.agg #[(.int .i64 1), (.string (⟨#[]⟩ : ByteArray))])] h (fun v h1 => ∃ (t13 : Option Addr) (t13n : Nat) (t13c : Nat) (t13_1 : Int), v = (.tuple #[(.slice t13 t13n t13c), (.int .i64 t13_1)]) ∧
 SpecH PP F_frame_New [] h1 (fun v_1 h2 => ∃ (t16 : Option Addr), v_1 = (.pointer t16) ∧
 let t18 : Bool := (Option.isNone t16)
 br t18 (
 law18_awake_J11101 t13 t13n t13c t13_1 t16 true Q h2) (
 let t22 : Bool := ((t13n : Int) != 9)
 law18_awake_J11101 t13 t13n t13c t13_1 t16 t22 Q h2)))
theorem law18_awake_eq  (Q : Value → Heap → Prop) (h : Heap) : ev PP true none (bodyOf Tryd.f9) law18_awake_ann (initFr 99 []) (bodyK PP Tryd.f9 Q) h = law18_awake_main  Q h := by kernel_rfl
theorem law18_awake_door  {Q : Value → Heap → Prop} {h : Heap} (H : law18_awake_main  Q h) : SpecH PP F_law18_awake [] h Q :=
   spec_of_ev Tryd.func9 rfl rfl ((law18_awake_eq  Q h).symm ▸ H)
/-! ### haversack/frame.Encode: function 10 -/
def frame_Encode_ann : Ann := (.seq 2 (.region [(List.range 3, 2)]) (.seq 2 (.block (.seq 34 (.region [(List.range 9, 34)]) (.join (.cond (.seq 12 (.region [(List.range 2, 12)]) (.exit 12)) (.seq 16386 (.region [(List.range 5, 16386)]) (.cond (.seq 12 (.region [(List.range 2, 12)]) (.exit 12)) .leaf)))))) (.seq 18 (.tree (.run [0, 5] (.alt 1 (.run [2, 3] (.alt 4 (.run [6, 7, 8, 9, 10] .done) (.alt 6 (.run [7] (.alt 4 (.run [8, 9, 10] .done) (.alt 8 (.run [4, 9, 10] .done) .nil))) .nil))) (.alt 6 (.run [7] (.alt 1 (.run [2, 3] (.alt 4 (.run [8, 9, 10] .done) (.alt 8 (.run [4, 9, 10] .done) .nil))) (.alt 8 (.run [1, 2, 3, 4, 9, 10] .done) .nil))) .nil))) 18) (.join (.seq 16 (.region [(List.range 5, 16)]) (.seq 12 (.region [(List.range 7, 12)]) (.exit 12)))))))
@[irreducible] def frame_Encode_K1 (Q : Value → Heap → Prop) : Ex → Fr → Heap → Prop := seqK (fun fr h => ev PP true none (sub (bodyOf Tryd.f10) [1, 1]) (subA frame_Encode_ann [1, 1]) (fr.mask 2) (bodyK PP Tryd.f10 Q) h) (bodyK PP Tryd.f10 Q)
@[irreducible] def frame_Encode_K10 (Q : Value → Heap → Prop) : Ex → Fr → Heap → Prop := blockK 0 (frame_Encode_K1 Q)
@[irreducible] def frame_Encode_J1001 (f1 : Addr) (t5 : Bool) (Q : Value → Heap → Prop) (h : Heap) : Prop := Jn PP true (sub (bodyOf Tryd.f10) [1, 0, 0, 1]) (mkFr 0 38 [(1, (.pointer (some f1))), (5, (.bool t5))]) (frame_Encode_K10 Q) h
@[irreducible] def frame_Encode_J111 (f1 : Addr) (b4 : Option Addr) (b4n : Nat) (b4c : Nat) (Q : Value → Heap → Prop) (h : Heap) : Prop := Jn PP true (sub (bodyOf Tryd.f10) [1, 1, 1]) (mkFr 0 38 [(1, (.pointer (some f1))), (4, (.slice b4 b4n b4c))]) (bodyK PP Tryd.f10 Q) h
@[reducible] def frame_Encode_J1001_txt (f1 : Addr) (t5 : Bool) (Q : Value → Heap → Prop) (h : Heap) : Prop :=
 br t5 (
 Q (.tuple #[(.slice none 0 0), (.int .i64 182)]) h) (
 ∃ (t16 : ByteArray), cellH h (Addr.add f1 1) = some (.string t16) ∧
 let t17 : Int := (ByteArray.size t16 : Int)
 let t18 : Bool := decide (t17 > 20000)
 br t18 (
 Q (.tuple #[(.slice none 0 0), (.int .i64 180)]) h) (
 (
 ∃ (t20_2 : ByteArray), cellH h (Addr.add f1 1) = some (.string t20_2) ∧
 let t21_2 : Int := (ByteArray.size t20_2 : Int)
 let t22_2 : Int := IntKind.u32.wrap t21_2
 (
 SpecH PP F_little_Put32 [(.slice none 0 0), (.int .u32 t22_2)] h (fun v_10 h16 => ∃ (t23_5 : Option Addr) (t23_5n : Nat) (t23_5c : Nat), v_10 = (.slice t23_5 t23_5n t23_5c) ∧
 ∃ (t25_2 : Int), cellH h16 f1 = some (.int .i64 t25_2) ∧
 let t26_2 : Int := IntKind.u8.wrap t25_2
 let h17 : Heap := Array.push h16 (.cells #[(.int .u8 t26_2)] T_uint8 (0, 0))
 hwp PP (Builtin.append_ #[T_sl_uint8, T_sl_uint8] T_sl_uint8 #[(.slice t23_5 t23_5n t23_5c), (.slice (some ⟨Array.size h16, 0, none⟩) 1 1)]) (fun v_11 h18 => ∃ (t28_5 : Option Addr) (t28_5n : Nat) (t28_5c : Nat), v_11 = (.slice t28_5 t28_5n t28_5c) ∧
 frame_Encode_J111 f1 t28_5 t28_5n t28_5c Q h18) h17)) ∧
 (
 ∃ (t25_1 : Int), cellH h f1 = some (.int .i64 t25_1) ∧
 let t26_1 : Int := IntKind.u8.wrap t25_1
 (
 SpecH PP F_little_Put32 [(.slice none 0 0), (.int .u32 t22_2)] h (fun v_8 h13 => ∃ (t23_4 : Option Addr) (t23_4n : Nat) (t23_4c : Nat), v_8 = (.slice t23_4 t23_4n t23_4c) ∧
 let h14 : Heap := Array.push h13 (.cells #[(.int .u8 t26_1)] T_uint8 (0, 0))
 hwp PP (Builtin.append_ #[T_sl_uint8, T_sl_uint8] T_sl_uint8 #[(.slice t23_4 t23_4n t23_4c), (.slice (some ⟨Array.size h13, 0, none⟩) 1 1)]) (fun v_9 h15 => ∃ (t28_4 : Option Addr) (t28_4n : Nat) (t28_4c : Nat), v_9 = (.slice t28_4 t28_4n t28_4c) ∧
 frame_Encode_J111 f1 t28_4 t28_4n t28_4c Q h15) h14)) ∧
 (
 let h10 : Heap := Array.push h (.cells #[(.int .u8 t26_1)] T_uint8 (0, 0))
 SpecH PP F_little_Put32 [(.slice none 0 0), (.int .u32 t22_2)] h10 (fun v_6 h11 => ∃ (t23_3 : Option Addr) (t23_3n : Nat) (t23_3c : Nat), v_6 = (.slice t23_3 t23_3n t23_3c) ∧
 hwp PP (Builtin.append_ #[T_sl_uint8, T_sl_uint8] T_sl_uint8 #[(.slice t23_3 t23_3n t23_3c), (.slice (some ⟨Array.size h, 0, none⟩) 1 1)]) (fun v_7 h12 => ∃ (t28_3 : Option Addr) (t28_3n : Nat) (t28_3c : Nat), v_7 = (.slice t28_3 t28_3n t28_3c) ∧
 frame_Encode_J111 f1 t28_3 t28_3n t28_3c Q h12) h11)) ∧
 True) ∧
 True) ∧
 (
 ∃ (t25 : Int), cellH h f1 = some (.int .i64 t25) ∧
 let t26 : Int := IntKind.u8.wrap t25
 (
 ∃ (t20_1 : ByteArray), cellH h (Addr.add f1 1) = some (.string t20_1) ∧
 let t21_1 : Int := (ByteArray.size t20_1 : Int)
 let t22_1 : Int := IntKind.u32.wrap t21_1
 (
 SpecH PP F_little_Put32 [(.slice none 0 0), (.int .u32 t22_1)] h (fun v_4 h7 => ∃ (t23_2 : Option Addr) (t23_2n : Nat) (t23_2c : Nat), v_4 = (.slice t23_2 t23_2n t23_2c) ∧
 let h8 : Heap := Array.push h7 (.cells #[(.int .u8 t26)] T_uint8 (0, 0))
 hwp PP (Builtin.append_ #[T_sl_uint8, T_sl_uint8] T_sl_uint8 #[(.slice t23_2 t23_2n t23_2c), (.slice (some ⟨Array.size h7, 0, none⟩) 1 1)]) (fun v_5 h9 => ∃ (t28_2 : Option Addr) (t28_2n : Nat) (t28_2c : Nat), v_5 = (.slice t28_2 t28_2n t28_2c) ∧
 frame_Encode_J111 f1 t28_2 t28_2n t28_2c Q h9) h8)) ∧
 (
 let h4 : Heap := Array.push h (.cells #[(.int .u8 t26)] T_uint8 (0, 0))
 SpecH PP F_little_Put32 [(.slice none 0 0), (.int .u32 t22_1)] h4 (fun v_2 h5 => ∃ (t23_1 : Option Addr) (t23_1n : Nat) (t23_1c : Nat), v_2 = (.slice t23_1 t23_1n t23_1c) ∧
 hwp PP (Builtin.append_ #[T_sl_uint8, T_sl_uint8] T_sl_uint8 #[(.slice t23_1 t23_1n t23_1c), (.slice (some ⟨Array.size h, 0, none⟩) 1 1)]) (fun v_3 h6 => ∃ (t28_1 : Option Addr) (t28_1n : Nat) (t28_1c : Nat), v_3 = (.slice t28_1 t28_1n t28_1c) ∧
 frame_Encode_J111 f1 t28_1 t28_1n t28_1c Q h6) h5)) ∧
 True) ∧
 (
 let h1 : Heap := Array.push h (.cells #[(.int .u8 t26)] T_uint8 (0, 0))
 ∃ (t20 : ByteArray), cellH h1 (Addr.add f1 1) = some (.string t20) ∧
 let t21 : Int := (ByteArray.size t20 : Int)
 let t22 : Int := IntKind.u32.wrap t21
 SpecH PP F_little_Put32 [(.slice none 0 0), (.int .u32 t22)] h1 (fun v h2 => ∃ (t23 : Option Addr) (t23n : Nat) (t23c : Nat), v = (.slice t23 t23n t23c) ∧
 hwp PP (Builtin.append_ #[T_sl_uint8, T_sl_uint8] T_sl_uint8 #[(.slice t23 t23n t23c), (.slice (some ⟨Array.size h, 0, none⟩) 1 1)]) (fun v_1 h3 => ∃ (t28 : Option Addr) (t28n : Nat) (t28c : Nat), v_1 = (.slice t28 t28n t28c) ∧
 frame_Encode_J111 f1 t28 t28n t28c Q h3) h2)) ∧
 True) ∧
 True))
theorem frame_Encode_J1001_eq (f1 : Addr) (t5 : Bool) (Q : Value → Heap → Prop) (h : Heap) : ev PP true none (sub (bodyOf Tryd.f10) [1, 0, 0, 1]) (subA frame_Encode_ann [1, 0, 0, 1]) (mkFr 0 38 [(1, (.pointer (some f1))), (5, (.bool t5))]) (frame_Encode_K10 Q) h = frame_Encode_J1001_txt f1 t5 Q h := by kernel_rfl
theorem frame_Encode_J1001_of {f1 : Addr} {t5 : Bool} {Q : Value → Heap → Prop} {h : Heap} (H : frame_Encode_J1001_txt f1 t5 Q h) : frame_Encode_J1001 f1 t5 Q h := by
   unfold frame_Encode_J1001; refine Jn.of_ev (x := subA frame_Encode_ann [1, 0, 0, 1]) ?_; exact (frame_Encode_J1001_eq f1 t5 Q h).symm ▸ H
@[reducible] def frame_Encode_J111_txt (f1 : Addr) (b4 : Option Addr) (b4n : Nat) (b4c : Nat) (Q : Value → Heap → Prop) (h : Heap) : Prop :=
 ∃ (t31 : ByteArray), cellH h (Addr.add f1 1) = some (.string t31) ∧
 hwp PP (Builtin.append_ #[T_sl_uint8, T_string] T_sl_uint8 #[(.slice b4 b4n b4c), (.string t31)]) (fun v h1 => ∃ (t32 : Option Addr) (t32n : Nat) (t32c : Nat), v = (.slice t32 t32n t32c) ∧
 hwp PP (Instr.sliceAt T_sl_uint8 (.slice t32 t32n t32c) (some (.int .i64 4)) none none) (fun v_1 h2 => ∃ (t35 : Option Addr) (t35n : Nat) (t35c : Nat), v_1 = (.slice t35 t35n t35c) ∧
 SpecH PP F_little_Sum [(.slice t35 t35n t35c)] h2 (fun v_2 h3 => ∃ (t36 : Int), v_2 = (.int .u32 t36) ∧
 SpecH PP F_little_Put32 [(.slice t32 t32n t32c), (.int .u32 t36)] h3 (fun v_3 h4 => ∃ (t37 : Option Addr) (t37n : Nat) (t37c : Nat), v_3 = (.slice t37 t37n t37c) ∧
 Q (.tuple #[(.slice t37 t37n t37c), (.int .i64 0)]) h4))) h1) h
theorem frame_Encode_J111_eq (f1 : Addr) (b4 : Option Addr) (b4n : Nat) (b4c : Nat) (Q : Value → Heap → Prop) (h : Heap) : ev PP true none (sub (bodyOf Tryd.f10) [1, 1, 1]) (subA frame_Encode_ann [1, 1, 1]) (mkFr 0 38 [(1, (.pointer (some f1))), (4, (.slice b4 b4n b4c))]) (bodyK PP Tryd.f10 Q) h = frame_Encode_J111_txt f1 b4 b4n b4c Q h := by kernel_rfl
theorem frame_Encode_J111_of {f1 : Addr} {b4 : Option Addr} {b4n : Nat} {b4c : Nat} {Q : Value → Heap → Prop} {h : Heap} (H : frame_Encode_J111_txt f1 b4 b4n b4c Q h) : frame_Encode_J111 f1 b4 b4n b4c Q h := by
   unfold frame_Encode_J111; refine Jn.of_ev (x := subA frame_Encode_ann [1, 1, 1]) ?_; exact (frame_Encode_J111_eq f1 b4 b4n b4c Q h).symm ▸ H
def frame_Encode_main (f0f0 : Int) (f0f1 : ByteArray) (Q : Value → Heap → Prop) (h : Heap) : Prop :=
 let f1 : Addr := ⟨Array.size h, 0, none⟩
 let h1 : Heap := Array.push h (.cells #[(.int .i64 f0f0), (.string f0f1)] T_api_Frame (0, 0))
 ∃ (t7 : Int), cellH h1 f1 = some (.int .i64 t7) ∧
 let t8 : Bool := decide (t7 < 1)
 br t8 (
 frame_Encode_J1001 f1 true Q h1) (
 ∃ (t11 : Int), cellH h1 f1 = some (.int .i64 t11) ∧
 let t12 : Bool := decide (t11 > 255)
 frame_Encode_J1001 f1 t12 Q h1)
theorem frame_Encode_eq (f0f0 : Int) (f0f1 : ByteArray) (Q : Value → Heap → Prop) (h : Heap) : ev PP true none (bodyOf Tryd.f10) frame_Encode_ann (initFr 38 [(.agg #[(.int .i64 f0f0), (.string f0f1)])]) (bodyK PP Tryd.f10 Q) h = frame_Encode_main f0f0 f0f1 Q h := by kernel_rfl
theorem frame_Encode_door {f0f0 : Int} {f0f1 : ByteArray} {Q : Value → Heap → Prop} {h : Heap} (H : frame_Encode_main f0f0 f0f1 Q h) : SpecH PP F_frame_Encode [(.agg #[(.int .i64 f0f0), (.string f0f1)])] h Q :=
   spec_of_ev Tryd.func10 rfl rfl ((frame_Encode_eq f0f0 f0f1 Q h).symm ▸ H)
/-! ### haversack/haversackref18.Encode: function 11 -/
def ref18_Encode_ann : Ann := (.seq 2 (.region [(List.range 3, 2)]) (.seq 2 (.seq 8194 (.region [(List.range 8, 8194)]) (.join (.cond (.seq 12 (.region [(List.range 2, 12)]) (.exit 12)) .leaf))) (.seq 2 (.seq 131074 (.region [(List.range 4, 131074)]) (.cond (.seq 12 (.region [(List.range 2, 12)]) (.exit 12)) .leaf)) (.seq 18 (.region [(List.range 8, 18)]) (.seq 48 (.region [(List.range 6, 48)]) (.seq 48 (.region [(List.range 4, 48)]) (.seq 12 (.region [(List.range 7, 12)]) (.exit 12))))))))
@[irreducible] def ref18_Encode_K1 (Q : Value → Heap → Prop) : Ex → Fr → Heap → Prop := seqK (fun fr h => ev PP true none (sub (bodyOf Tryd.f11) [1, 1]) (subA ref18_Encode_ann [1, 1]) (fr.mask 2) (bodyK PP Tryd.f11 Q) h) (bodyK PP Tryd.f11 Q)
@[irreducible] def ref18_Encode_J101 (f1 : Addr) (t13 : Bool) (Q : Value → Heap → Prop) (h : Heap) : Prop := Jn PP true (sub (bodyOf Tryd.f11) [1, 0, 1]) (mkFr 0 38 [(1, (.pointer (some f1))), (13, (.bool t13))]) (ref18_Encode_K1 Q) h
@[reducible] def ref18_Encode_J101_txt (f1 : Addr) (t13 : Bool) (Q : Value → Heap → Prop) (h : Heap) : Prop :=
 br t13 (
 Q (.tuple #[(.slice none 0 0), (.int .i64 182)]) h) (
 ∃ (t15 : ByteArray), cellH h (Addr.add f1 1) = some (.string t15) ∧
 let t16 : Int := (ByteArray.size t15 : Int)
 let t17 : Bool := decide (t16 > 20000)
 br t17 (
 Q (.tuple #[(.slice none 0 0), (.int .i64 180)]) h) (
 ∃ (t19 : Int), cellH h f1 = some (.int .i64 t19) ∧
 let t20 : Int := IntKind.u8.wrap t19
 let h1 : Heap := Array.push h (.cells #[(.int .u8 t20)] T_uint8 (0, 0))
 ∃ (t23 : ByteArray), cellH h1 (Addr.add f1 1) = some (.string t23) ∧
 hwp PP (Builtin.append_ #[T_sl_uint8, T_string] T_sl_uint8 #[(.slice (some ⟨Array.size h, 0, none⟩) 1 1), (.string t23)]) (fun v h2 => ∃ (t24 : Option Addr) (t24n : Nat) (t24c : Nat), v = (.slice t24 t24n t24c) ∧
 ∃ (t26 : ByteArray), cellH h2 (Addr.add f1 1) = some (.string t26) ∧
 let t27 : Int := (ByteArray.size t26 : Int)
 let t28 : Int := IntKind.u64.wrap t27
 SpecH PP F_ref02_Put [(.slice none 0 0), (.int .u64 t28), (.int .i64 4)] h2 (fun v_1 h3 => ∃ (t29 : Option Addr) (t29n : Nat) (t29c : Nat), v_1 = (.slice t29 t29n t29c) ∧
 hwp PP (Builtin.append_ #[T_sl_uint8, T_sl_uint8] T_sl_uint8 #[(.slice t29 t29n t29c), (.slice t24 t24n t24c)]) (fun v_2 h4 => ∃ (t32 : Option Addr) (t32n : Nat) (t32c : Nat), v_2 = (.slice t32 t32n t32c) ∧
 SpecH PP F_ref02_Sum [(.slice t24 t24n t24c)] h4 (fun v_3 h5 => ∃ (t35 : Int), v_3 = (.int .u32 t35) ∧
 let t36 : Int := IntKind.u64.wrap t35
 SpecH PP F_ref02_Put [(.slice t32 t32n t32c), (.int .u64 t36), (.int .i64 4)] h5 (fun v_4 h6 => ∃ (t37 : Option Addr) (t37n : Nat) (t37c : Nat), v_4 = (.slice t37 t37n t37c) ∧
 Q (.tuple #[(.slice t37 t37n t37c), (.int .i64 0)]) h6))) h3)) h1))
theorem ref18_Encode_J101_eq (f1 : Addr) (t13 : Bool) (Q : Value → Heap → Prop) (h : Heap) : ev PP true none (sub (bodyOf Tryd.f11) [1, 0, 1]) (subA ref18_Encode_ann [1, 0, 1]) (mkFr 0 38 [(1, (.pointer (some f1))), (13, (.bool t13))]) (ref18_Encode_K1 Q) h = ref18_Encode_J101_txt f1 t13 Q h := by kernel_rfl
theorem ref18_Encode_J101_of {f1 : Addr} {t13 : Bool} {Q : Value → Heap → Prop} {h : Heap} (H : ref18_Encode_J101_txt f1 t13 Q h) : ref18_Encode_J101 f1 t13 Q h := by
   unfold ref18_Encode_J101; refine Jn.of_ev (x := subA ref18_Encode_ann [1, 0, 1]) ?_; exact (ref18_Encode_J101_eq f1 t13 Q h).symm ▸ H
def ref18_Encode_main (f0f0 : Int) (f0f1 : ByteArray) (Q : Value → Heap → Prop) (h : Heap) : Prop :=
 let f1 : Addr := ⟨Array.size h, 0, none⟩
 let h1 : Heap := Array.push h (.cells #[(.int .i64 f0f0), (.string f0f1)] T_api_Frame (0, 0))
 ∃ (t7 : Int), cellH h1 f1 = some (.int .i64 t7) ∧
 let t8 : Bool := decide (t7 < 1)
 br t8 (
 ref18_Encode_J101 f1 true Q h1) (
 ∃ (t11 : Int), cellH h1 f1 = some (.int .i64 t11) ∧
 let t12 : Bool := decide (t11 > 255)
 ref18_Encode_J101 f1 t12 Q h1)
theorem ref18_Encode_eq (f0f0 : Int) (f0f1 : ByteArray) (Q : Value → Heap → Prop) (h : Heap) : ev PP true none (bodyOf Tryd.f11) ref18_Encode_ann (initFr 38 [(.agg #[(.int .i64 f0f0), (.string f0f1)])]) (bodyK PP Tryd.f11 Q) h = ref18_Encode_main f0f0 f0f1 Q h := by kernel_rfl
theorem ref18_Encode_door {f0f0 : Int} {f0f1 : ByteArray} {Q : Value → Heap → Prop} {h : Heap} (H : ref18_Encode_main f0f0 f0f1 Q h) : SpecH PP F_ref18_Encode [(.agg #[(.int .i64 f0f0), (.string f0f1)])] h Q :=
   spec_of_ev Tryd.func11 rfl rfl ((ref18_Encode_eq f0f0 f0f1 Q h).symm ▸ H)
/-! ### haversack/haversackkeep.Bytes: function 12 -/
def keep_Bytes_ann : Ann := (.seq 3 (.region [(List.range 1, 3)]) (.seq 3 (.seq 1027 (.region [(List.range 5, 1027)]) (.cond (.seq 16 (.region [(List.range 1, 16)]) (.exit 16)) .leaf)) (.seq 0 (.seq 35 (.region [(List.range 1, 35)]) (.block (.loop 35 (.seq 35 (.seq 16419 (.region [(List.range 4, 16419)]) (.cond .leaf (.exit 0))) (.seq 35 (.block (.seq 33554467 (.region [(List.range 9, 33554467)]) (.cond (.seq 16 (.region [(List.range 1, 16)]) (.exit 16)) .leaf))) (.region [(List.range 3, 35)])))))) (.seq 16 (.region [(List.range 1, 16)]) (.exit 16)))))
@[irreducible] def keep_Bytes_Xret (t4 : Bool) : Fr := (mkFr 0 26 [(4, (.bool t4))])
@[irreducible] def keep_Bytes_X0  : Fr := (mkFr 0 26 [])
@[irreducible] def keep_Bytes_L11010 (a0 : Option Addr) (a0n : Nat) (a0c : Nat) (b1 : Option Addr) (b1n : Nat) (b1c : Nat) (i5 : Int) (K : Ex → Fr → Heap → Prop) (h : Heap) : Prop := Lp PP true (sub (bodyOf Tryd.f12) [1, 1, 0, 1, 0, 0]) (mkFr 0 26 [(0, (.slice a0 a0n a0c)), (1, (.slice b1 b1n b1c)), (5, (.int .i64 i5))]) K h
@[irreducible] def keep_Bytes_B11010 (K : Ex → Fr → Heap → Prop) : Ex → Fr → Heap → Prop := seqK (fun fr h => Lp PP true (sub (bodyOf Tryd.f12) [1, 1, 0, 1, 0, 0]) (fr.mask 35) K h) K
@[irreducible] def keep_Bytes_K11 (Q : Value → Heap → Prop) : Ex → Fr → Heap → Prop := seqK (fun fr h => ev PP true none (sub (bodyOf Tryd.f12) [1, 1, 1]) (subA keep_Bytes_ann [1, 1, 1]) (fr.mask 0) (bodyK PP Tryd.f12 Q) h) (bodyK PP Tryd.f12 Q)
@[irreducible] def keep_Bytes_K1101 (Q : Value → Heap → Prop) : Ex → Fr → Heap → Prop := blockK 0 (keep_Bytes_K11 Q)
@[reducible] def keep_Bytes_L11010_txt (a0 : Option Addr) (a0n : Nat) (a0c : Nat) (b1 : Option Addr) (b1n : Nat) (b1c : Nat) (i5 : Int) (K : Ex → Fr → Heap → Prop) (h : Heap) : Prop :=
 let t14 : Bool := decide (i5 < (a0n : Int))
 br t14 (
 hwp PP (Instr.indexAt T_sl_uint8 (.slice a0 a0n a0c) (.int .i64 i5)) (fun v h1 => ∃ (t19 : Addr), v = (.pointer (some t19)) ∧
 ∃ (t20 : Int), cellH h1 t19 = some (.int .u8 t20) ∧
 hwp PP (Instr.indexAt T_sl_uint8 (.slice b1 b1n b1c) (.int .i64 i5)) (fun v_1 h2 => ∃ (t23 : Addr), v_1 = (.pointer (some t23)) ∧
 ∃ (t24 : Int), cellH h2 t23 = some (.int .u8 t24) ∧
 let t25 : Bool := (t20 != t24)
 br t25 (
 K .ret (keep_Bytes_Xret false) h2) (
 let t16 : Int := IntKind.i64.wrap (i5 + 1)
 keep_Bytes_L11010 a0 a0n a0c b1 b1n b1c t16 K h2)) h1) h) (
 K (.exit 0) (keep_Bytes_X0) h)
theorem keep_Bytes_L11010_eq (a0 : Option Addr) (a0n : Nat) (a0c : Nat) (b1 : Option Addr) (b1n : Nat) (b1c : Nat) (i5 : Int) (K : Ex → Fr → Heap → Prop) (h : Heap) : ev PP true none (sub (bodyOf Tryd.f12) [1, 1, 0, 1, 0, 0]) (subA keep_Bytes_ann [1, 1, 0, 1, 0, 0]) (mkFr 0 26 [(0, (.slice a0 a0n a0c)), (1, (.slice b1 b1n b1c)), (5, (.int .i64 i5))]) (seqK (fun fr h => Lp PP true (sub (bodyOf Tryd.f12) [1, 1, 0, 1, 0, 0]) (fr.mask 35) K h) K) h = keep_Bytes_L11010_txt a0 a0n a0c b1 b1n b1c i5 K h := by kernel_rfl
theorem keep_Bytes_L11010_of {a0 : Option Addr} {a0n : Nat} {a0c : Nat} {b1 : Option Addr} {b1n : Nat} {b1c : Nat} {i5 : Int} {K : Ex → Fr → Heap → Prop} {h : Heap} (H : keep_Bytes_L11010_txt a0 a0n a0c b1 b1n b1c i5 K h) : keep_Bytes_L11010 a0 a0n a0c b1 b1n b1c i5 K h := by
   unfold keep_Bytes_L11010; refine Lp.of_ev (x := subA keep_Bytes_ann [1, 1, 0, 1, 0, 0]) (keep := 35) ?_; exact (keep_Bytes_L11010_eq a0 a0n a0c b1 b1n b1c i5 K h).symm ▸ H
theorem keep_Bytes_at11010_Xret (Q : Value → Heap → Prop) (t4 : Bool) (h : Heap) : (keep_Bytes_K1101 Q) .ret (keep_Bytes_Xret t4) h = (
 Q (.bool t4) h) := by kernel_rfl
theorem keep_Bytes_at11010_X0 (Q : Value → Heap → Prop)  (h : Heap) : (keep_Bytes_K1101 Q) (.exit 0) (keep_Bytes_X0 ) h = (
 Q (.bool true) h) := by kernel_rfl
def keep_Bytes_main (a0 : Option Addr) (a0n : Nat) (a0c : Nat) (b1 : Option Addr) (b1n : Nat) (b1c : Nat) (Q : Value → Heap → Prop) (h : Heap) : Prop :=
 let t10 : Bool := ((a0n : Int) != (b1n : Int))
 br t10 (
 Q (.bool false) h) (
 keep_Bytes_L11010 a0 a0n a0c b1 b1n b1c 0 (keep_Bytes_K1101 Q) h)
theorem keep_Bytes_eq (a0 : Option Addr) (a0n : Nat) (a0c : Nat) (b1 : Option Addr) (b1n : Nat) (b1c : Nat) (Q : Value → Heap → Prop) (h : Heap) : ev PP true none (bodyOf Tryd.f12) keep_Bytes_ann (initFr 26 [(.slice a0 a0n a0c), (.slice b1 b1n b1c)]) (bodyK PP Tryd.f12 Q) h = keep_Bytes_main a0 a0n a0c b1 b1n b1c Q h := by kernel_rfl
theorem keep_Bytes_door {a0 : Option Addr} {a0n : Nat} {a0c : Nat} {b1 : Option Addr} {b1n : Nat} {b1c : Nat} {Q : Value → Heap → Prop} {h : Heap} (H : keep_Bytes_main a0 a0n a0c b1 b1n b1c Q h) : SpecH PP F_keep_Bytes [(.slice a0 a0n a0c), (.slice b1 b1n b1c)] h Q :=
   spec_of_ev Tryd.func12 rfl rfl ((keep_Bytes_eq a0 a0n a0c b1 b1n b1c Q h).symm ▸ H)
/-! ### haversack/haversacklaw18.large: function 13 -/
def law18_large_ann : Ann := (.seq 1 (.region [(List.range 1, 1)]) (.seq 9 (.region [(List.range 3, 9)]) (.seq 8 (.seq 25 (.region [(List.range 1, 25)]) (.block (.loop 25 (.seq 25 (.seq 16409 (.region [(List.range 8, 16409)]) (.cond .leaf (.exit 8))) (.seq 25 (.block (.region [(List.range 8, 25)])) (.region [(List.range 3, 25)])))))) (.seq 4 (.region [(List.range 3, 4)]) (.exit 4)))))
@[irreducible] def law18_large_X0 (xn3 : Int) : Fr := (mkFr 0 26 [(3, (.int .i64 xn3))])
@[irreducible] def law18_large_L11010 (xl0 : Option Addr) (xl0n : Nat) (xl0c : Nat) (xn3 : Int) (i4 : Int) (K : Ex → Fr → Heap → Prop) (h : Heap) : Prop := Lp PP true (sub (bodyOf Tryd.f13) [1, 1, 0, 1, 0, 0]) (mkFr 0 26 [(0, (.slice xl0 xl0n xl0c)), (3, (.int .i64 xn3)), (4, (.int .i64 i4))]) K h
@[irreducible] def law18_large_B11010 (K : Ex → Fr → Heap → Prop) : Ex → Fr → Heap → Prop := seqK (fun fr h => Lp PP true (sub (bodyOf Tryd.f13) [1, 1, 0, 1, 0, 0]) (fr.mask 25) K h) K
@[irreducible] def law18_large_K11 (Q : Value → Heap → Prop) : Ex → Fr → Heap → Prop := seqK (fun fr h => ev PP true none (sub (bodyOf Tryd.f13) [1, 1, 1]) (subA law18_large_ann [1, 1, 1]) (fr.mask 8) (bodyK PP Tryd.f13 Q) h) (bodyK PP Tryd.f13 Q)
@[irreducible] def law18_large_K1101 (Q : Value → Heap → Prop) : Ex → Fr → Heap → Prop := blockK 0 (law18_large_K11 Q)
@[reducible] def law18_large_L11010_txt (xl0 : Option Addr) (xl0n : Nat) (xl0c : Nat) (xn3 : Int) (i4 : Int) (K : Ex → Fr → Heap → Prop) (h : Heap) : Prop :=
 let t10 : Bool := decide (i4 < (xl0n : Int))
 br t10 (
 let t13 : Bool := decide (xn3 ≤ 1048576)
 br t13 (
 hwp PP (Instr.indexAt T_sl_sl_uint8 (.slice xl0 xl0n xl0c) (.int .i64 i4)) (fun v h1 => ∃ (t20 : Addr), v = (.pointer (some t20)) ∧
 ∃ (t21 : Option Addr) (t21n : Nat) (t21c : Nat), cellH h1 t20 = some (.slice t21 t21n t21c) ∧
 let t23 : Int := IntKind.i64.wrap (xn3 + (t21n : Int))
 let t16 : Int := IntKind.i64.wrap (i4 + 1)
 law18_large_L11010 xl0 xl0n xl0c t23 t16 K h1) h) (
 K (.exit 0) (law18_large_X0 xn3) h)) (
 K (.exit 0) (law18_large_X0 xn3) h)
theorem law18_large_L11010_eq (xl0 : Option Addr) (xl0n : Nat) (xl0c : Nat) (xn3 : Int) (i4 : Int) (K : Ex → Fr → Heap → Prop) (h : Heap) : ev PP true none (sub (bodyOf Tryd.f13) [1, 1, 0, 1, 0, 0]) (subA law18_large_ann [1, 1, 0, 1, 0, 0]) (mkFr 0 26 [(0, (.slice xl0 xl0n xl0c)), (3, (.int .i64 xn3)), (4, (.int .i64 i4))]) (seqK (fun fr h => Lp PP true (sub (bodyOf Tryd.f13) [1, 1, 0, 1, 0, 0]) (fr.mask 25) K h) K) h = law18_large_L11010_txt xl0 xl0n xl0c xn3 i4 K h := by kernel_rfl
theorem law18_large_L11010_of {xl0 : Option Addr} {xl0n : Nat} {xl0c : Nat} {xn3 : Int} {i4 : Int} {K : Ex → Fr → Heap → Prop} {h : Heap} (H : law18_large_L11010_txt xl0 xl0n xl0c xn3 i4 K h) : law18_large_L11010 xl0 xl0n xl0c xn3 i4 K h := by
   unfold law18_large_L11010; refine Lp.of_ev (x := subA law18_large_ann [1, 1, 0, 1, 0, 0]) (keep := 25) ?_; exact (law18_large_L11010_eq xl0 xl0n xl0c xn3 i4 K h).symm ▸ H
theorem law18_large_at11010_X0 (Q : Value → Heap → Prop) (xn3 : Int) (h : Heap) : (law18_large_K1101 Q) (.exit 0) (law18_large_X0 xn3) h = (
 let t25 : Bool := decide (xn3 > 1048576)
 Q (.bool t25) h) := by kernel_rfl
def law18_large_main (xl0 : Option Addr) (xl0n : Nat) (xl0c : Nat) (Q : Value → Heap → Prop) (h : Heap) : Prop :=
 law18_large_L11010 xl0 xl0n xl0c (xl0n : Int) 0 (law18_large_K1101 Q) h
theorem law18_large_eq (xl0 : Option Addr) (xl0n : Nat) (xl0c : Nat) (Q : Value → Heap → Prop) (h : Heap) : ev PP true none (bodyOf Tryd.f13) law18_large_ann (initFr 26 [(.slice xl0 xl0n xl0c)]) (bodyK PP Tryd.f13 Q) h = law18_large_main xl0 xl0n xl0c Q h := by kernel_rfl
theorem law18_large_door {xl0 : Option Addr} {xl0n : Nat} {xl0c : Nat} {Q : Value → Heap → Prop} {h : Heap} (H : law18_large_main xl0 xl0n xl0c Q h) : SpecH PP F_law18_large [(.slice xl0 xl0n xl0c)] h Q :=
   spec_of_ev Tryd.func13 rfl rfl ((law18_large_eq xl0 xl0n xl0c Q h).symm ▸ H)
/-! ### haversack/frame.New: function 14 -/
def frame_New_ann : Ann := (.seq 0 (.region [(List.range 1, 0)]) (.seq 1 (.region [(List.range 3, 1)]) (.exit 1)))
def frame_New_main  (Q : Value → Heap → Prop) (h : Heap) : Prop :=
 let t2 : Addr := ⟨Array.size h, 0, none⟩
 let h1 : Heap := Array.push h (.cells #[(.slice none 0 0), (.int .i64 0)] T_frame_Decoder (0, 0))
 Q (.pointer (some t2)) h1
theorem frame_New_eq  (Q : Value → Heap → Prop) (h : Heap) : ev PP true none (bodyOf Tryd.f14) frame_New_ann (initFr 3 []) (bodyK PP Tryd.f14 Q) h = frame_New_main  Q h := by kernel_rfl
theorem frame_New_door  {Q : Value → Heap → Prop} {h : Heap} (H : frame_New_main  Q h) : SpecH PP F_frame_New [] h Q :=
   spec_of_ev Tryd.func14 rfl rfl ((frame_New_eq  Q h).symm ▸ H)
/-! ### haversack/haversackkeep.Lend: function 15 -/
def keep_Lend_ann : Ann := (.seq 1 (.region [(List.range 1, 1)]) (.seq 9 (.region [(List.range 5, 9)]) (.seq 9 (.region [(List.range 3, 9)]) (.seq 9 (.region [(List.range 5, 9)]) (.seq 9 (.region [(List.range 6, 9)]) (.seq 4 (.region [(List.range 5, 4)]) (.exit 4)))))))
def keep_Lend_main (b0 : Option Addr) (b0n : Nat) (b0c : Nat) (Q : Value → Heap → Prop) (h : Heap) : Prop :=
 let t6 : Int := IntKind.i64.wrap ((b0n : Int) + 2)
 hwp PP (Instr.makeSlice T_sl_uint8 (.int .i64 t6) (.int .i64 t6)) (fun v h1 => ∃ (t7 : Option Addr) (t7n : Nat) (t7c : Nat), v = (.slice t7 t7n t7c) ∧
 hwp PP (Builtin.copy_ #[T_sl_uint8, T_sl_uint8] T_int #[(.slice t7 t7n t7c), (.slice b0 b0n b0c)]) (fun v_1 h2 => ∃ (t10 : Int), v_1 = (.int .i64 t10) ∧
 hwp PP (Instr.indexAt T_sl_uint8 (.slice t7 t7n t7c) (.int .i64 (b0n : Int))) (fun v_2 h3 => ∃ (t14 : Addr), v_2 = (.pointer (some t14)) ∧
 wr t14 (.int .u8 165) (fun h4 =>
 let t18 : Int := IntKind.i64.wrap ((b0n : Int) + 1)
 hwp PP (Instr.indexAt T_sl_uint8 (.slice t7 t7n t7c) (.int .i64 t18)) (fun v_3 h5 => ∃ (t19 : Addr), v_3 = (.pointer (some t19)) ∧
 wr t19 (.int .u8 90) (fun h6 =>
 hwp PP (Instr.sliceAt T_sl_uint8 (.slice t7 t7n t7c) none (some (.int .i64 (b0n : Int))) none) (fun v_4 h7 => ∃ (t23 : Option Addr) (t23n : Nat) (t23c : Nat), v_4 = (.slice t23 t23n t23c) ∧
 Q (.slice t23 t23n t23c) h7) h6) h5) h4) h3) h2) h1) h
theorem keep_Lend_eq (b0 : Option Addr) (b0n : Nat) (b0c : Nat) (Q : Value → Heap → Prop) (h : Heap) : ev PP true none (bodyOf Tryd.f15) keep_Lend_ann (initFr 24 [(.slice b0 b0n b0c)]) (bodyK PP Tryd.f15 Q) h = keep_Lend_main b0 b0n b0c Q h := by kernel_rfl
theorem keep_Lend_door {b0 : Option Addr} {b0n : Nat} {b0c : Nat} {Q : Value → Heap → Prop} {h : Heap} (H : keep_Lend_main b0 b0n b0c Q h) : SpecH PP F_keep_Lend [(.slice b0 b0n b0c)] h Q :=
   spec_of_ev Tryd.func15 rfl rfl ((keep_Lend_eq b0 b0n b0c Q h).symm ▸ H)
/-! ### (*haversack/frame.Decoder).Feed: function 16 -/
def frame_Decoder_Feed_ann : Ann := (.seq 3 (.region [(List.range 2, 3)]) (.scope [(0, 65), (1, 65)] (.seq 3 (.seq 2051 (.region [(List.range 2, 2051)]) (.cond (.seq 48 (.region [(List.range 2, 48)]) (.exit 48)) .leaf)) (.seq 67 (.region [(List.range 1, 67)]) (.seq 67 (.region [(List.range 1, 67)]) (.seq 67 (.region [(List.range 1, 67)]) (.seq 67 (.region [(List.range 1, 67)]) (.seq 67 (.seq 65603 (.region [(List.range 5, 65603)]) (.cond (.seq 48 (.region [(List.range 6, 48)]) (.exit 48)) .leaf)) (.seq 65 (.region [(List.range 10, 65)]) (.seq 65 .leaf (.join (.seq 65 (.seq 34359738433 (.region [(List.range 6, 34359738433)]) (.cond (.exit 65) .leaf)) (.seq 321 (.region [(List.range 9, 321)]) (.seq 321 (.seq 35184372089153 (.region [(List.range 2, 35184372089153)]) (.cond (.seq 65 (.region [(List.range 4, 65)]) (.exit 65)) .leaf)) (.seq 193 (.region [(List.range 3, 193)]) (.seq 193 (.seq 36893488147419103425 (.region [(List.range 15, 36893488147419103425)]) (.join (.cond (.seq 65 (.region [(List.range 4, 65)]) (.exit 65)) .leaf))) (.seq 193 (.seq 75557863725914323419329 (.region [(List.range 8, 75557863725914323419329)]) (.cond (.exit 65) .leaf)) (.seq 705 (.region [(List.range 11, 705)]) (.seq 193 (.seq 79228162514264337593543950529 (.region [(List.range 10, 79228162514264337593543950529)]) (.cond (.seq 65 (.region [(List.range 4, 65)]) (.exit 65)) .leaf)) (.seq 193 (.tree (.run [0, 1, 2, 3, 8, 9, 10, 11, 12, 13, 14] (.alt 4 (.run [5] (.alt 6 (.run [7, 15, 16, 17, 18, 19] .done) (.alt 15 (.run [6, 7, 16, 17, 18, 19] .done) .nil))) (.alt 15 (.run [4, 5, 6, 7, 16, 17, 18, 19] .done) .nil))) 193) (.join (.seq 65 (.region [(List.range 11, 65)]) (.seq 65 (.exit 65) (.seq 65 .leaf (.seq 65 (.region [(List.range 9, 65)]) (.seq 48 (.region [(List.range 7, 48)]) (.exit 48)))))))))))))))))))))))))))
@[irreducible] def frame_Decoder_Feed_Xret (t4 : Option Addr) (t4n : Nat) (t4c : Nat) (t5 : Int) : Fr := (mkFr 0 142 [(4, (.slice t4 t4n t4c)), (5, (.int .i64 t5))])
@[irreducible] def frame_Decoder_Feed_S1 (d0 : Option Addr) (b1 : Option Addr) (b1n : Nat) (b1c : Nat) (K : Ex → Fr → Heap → Prop) (h : Heap) : Prop := Sc PP true (sub (bodyOf Tryd.f16) [1, 0]) none (mkFr 0 142 [(0, (.pointer d0)), (1, (.slice b1 b1n b1c))]) K h
@[irreducible] def frame_Decoder_Feed_C1 (K : Ex → Fr → Heap → Prop) : Ex → Fr → Heap → Prop := scopeK (sub (bodyOf Tryd.f16) [1, 0]) (fun l fr h => Sc PP true (sub (bodyOf Tryd.f16) [1, 0]) (some l) (fr.mask (keepOf [(0, 65), (1, 65)] l)) K h) K
@[irreducible] def frame_Decoder_Feed_J1011111111 (d0 : Option Addr) (out6 : Option Addr) (out6n : Nat) (out6c : Nat) (K : Ex → Fr → Heap → Prop) (h : Heap) : Prop := Jn PP true (sub (bodyOf Tryd.f16) [1, 0, 1, 1, 1, 1, 1, 1, 1, 1]) (mkFr 0 142 [(0, (.pointer d0)), (6, (.slice out6 out6n out6c))]) (frame_Decoder_Feed_C1 K) h
@[irreducible] def frame_Decoder_Feed_G0_1 (d0 : Option Addr) (out6 : Option Addr) (out6n : Nat) (out6c : Nat) (K : Ex → Fr → Heap → Prop) (h : Heap) : Prop := Sc PP true (sub (bodyOf Tryd.f16) [1, 0]) (some 0) (mkFr 0 142 [(0, (.pointer d0)), (6, (.slice out6 out6n out6c))]) K h
@[irreducible] def frame_Decoder_Feed_K10111111111111 (K : Ex → Fr → Heap → Prop) : Ex → Fr → Heap → Prop := seqK (fun fr h => ev PP true none (sub (bodyOf Tryd.f16) [1, 0, 1, 1, 1, 1, 1, 1, 1, 1, 1, 1, 1, 1, 1]) (subA frame_Decoder_Feed_ann [1, 0, 1, 1, 1, 1, 1, 1, 1, 1, 1, 1, 1, 1, 1]) (fr.mask 193) (frame_Decoder_Feed_C1 K) h) (frame_Decoder_Feed_C1 K)
@[irreducible] def frame_Decoder_Feed_J1011111111111101 (d0 : Option Addr) (out6 : Option Addr) (out6n : Nat) (out6c : Nat) (xn7 : Int) (t65 : Bool) (K : Ex → Fr → Heap → Prop) (h : Heap) : Prop := Jn PP true (sub (bodyOf Tryd.f16) [1, 0, 1, 1, 1, 1, 1, 1, 1, 1, 1, 1, 1, 1, 0, 1]) (mkFr 0 142 [(0, (.pointer d0)), (6, (.slice out6 out6n out6c)), (7, (.int .i64 xn7)), (65, (.bool t65))]) (frame_Decoder_Feed_K10111111111111 K) h
@[irreducible] def frame_Decoder_Feed_J1011111111111111111 (d0 : Option Addr) (out6 : Option Addr) (out6n : Nat) (out6c : Nat) (xn7 : Int) (K : Ex → Fr → Heap → Prop) (h : Heap) : Prop := Jn PP true (sub (bodyOf Tryd.f16) [1, 0, 1, 1, 1, 1, 1, 1, 1, 1, 1, 1, 1, 1, 1, 1, 1, 1, 1]) (mkFr 0 142 [(0, (.pointer d0)), (6, (.slice out6 out6n out6c)), (7, (.int .i64 xn7))]) (frame_Decoder_Feed_C1 K) h
@[irreducible] def frame_Decoder_Feed_G1_1 (d0 : Option Addr) (out6 : Option Addr) (out6n : Nat) (out6c : Nat) (K : Ex → Fr → Heap → Prop) (h : Heap) : Prop := Sc PP true (sub (bodyOf Tryd.f16) [1, 0]) (some 1) (mkFr 0 142 [(0, (.pointer d0)), (6, (.slice out6 out6n out6c))]) K h
@[reducible] def frame_Decoder_Feed_S1_txt (d0 : Option Addr) (b1 : Option Addr) (b1n : Nat) (b1c : Nat) (K : Ex → Fr → Heap → Prop) (h : Heap) : Prop :=
 let t11 : Bool := (Option.isNone d0)
 br t11 (
 K .ret (frame_Decoder_Feed_Xret none 0 0 3) h) (
 nilc d0 (fun t13 =>
 ∃ (t15 : Int), cellH h (Addr.add t13 1) = some (.int .i64 t15) ∧
 let t16 : Bool := (t15 != 0)
 br t16 (
 nilc d0 (fun t18 =>
 ∃ (t20 : Int), cellH h (Addr.add t18 1) = some (.int .i64 t20) ∧
 K .ret (frame_Decoder_Feed_Xret none 0 0 t20) h)) (
 nilc d0 (fun t23 =>
 ∃ (t25 : Option Addr) (t25n : Nat) (t25c : Nat), cellH h t23 = some (.slice t25 t25n t25c) ∧
 hwp PP (Builtin.append_ #[T_sl_uint8, T_sl_uint8] T_sl_uint8 #[(.slice t25 t25n t25c), (.slice b1 b1n b1c)]) (fun v h1 => ∃ (t27 : Option Addr) (t27n : Nat) (t27c : Nat), v = (.slice t27 t27n t27c) ∧
 nilc d0 (fun t28 =>
 wr t28 (.slice t27 t27n t27c) (fun h2 =>
 frame_Decoder_Feed_J1011111111 d0 none 0 0 K h2) h1)) h))))
theorem frame_Decoder_Feed_S1_eq (d0 : Option Addr) (b1 : Option Addr) (b1n : Nat) (b1c : Nat) (K : Ex → Fr → Heap → Prop) (h : Heap) : ev PP true none (sub (bodyOf Tryd.f16) [1, 0]) (subA frame_Decoder_Feed_ann [1, 0]) (mkFr 0 142 [(0, (.pointer d0)), (1, (.slice b1 b1n b1c))]) (scopeK (sub (bodyOf Tryd.f16) [1, 0]) (fun l fr h => Sc PP true (sub (bodyOf Tryd.f16) [1, 0]) (some l) (fr.mask (keepOf [(0, 65), (1, 65)] l)) K h) K) h = frame_Decoder_Feed_S1_txt d0 b1 b1n b1c K h := by kernel_rfl
theorem frame_Decoder_Feed_S1_of {d0 : Option Addr} {b1 : Option Addr} {b1n : Nat} {b1c : Nat} {K : Ex → Fr → Heap → Prop} {h : Heap} (H : frame_Decoder_Feed_S1_txt d0 b1 b1n b1c K h) : frame_Decoder_Feed_S1 d0 b1 b1n b1c K h := by
   unfold frame_Decoder_Feed_S1; refine Sc.of_ev (x := subA frame_Decoder_Feed_ann [1, 0]) (keep := [(0, 65), (1, 65)]) ?_; exact (frame_Decoder_Feed_S1_eq d0 b1 b1n b1c K h).symm ▸ H
theorem frame_Decoder_Feed_at1_Xret (Q : Value → Heap → Prop) (t4 : Option Addr) (t4n : Nat) (t4c : Nat) (t5 : Int) (h : Heap) : (bodyK PP Tryd.f16 Q) .ret (frame_Decoder_Feed_Xret t4 t4n t4c t5) h = (
 Q (.tuple #[(.slice t4 t4n t4c), (.int .i64 t5)]) h) := by kernel_rfl
@[reducible] def frame_Decoder_Feed_J1011111111_txt (d0 : Option Addr) (out6 : Option Addr) (out6n : Nat) (out6c : Nat) (K : Ex → Fr → Heap → Prop) (h : Heap) : Prop :=
 nilc d0 (fun t31 =>
 ∃ (t33 : Option Addr) (t33n : Nat) (t33c : Nat), cellH h t31 = some (.slice t33 t33n t33c) ∧
 let t35 : Bool := decide ((t33n : Int) < 4)
 br t35 (
 frame_Decoder_Feed_G0_1 d0 out6 out6n out6c K h) (
 nilc d0 (fun t38 =>
 ∃ (t40 : Option Addr) (t40n : Nat) (t40c : Nat), cellH h t38 = some (.slice t40 t40n t40c) ∧
 SpecH PP F_little_Get32 [(.slice t40 t40n t40c), (.int .i64 0)] h (fun v h1 => ∃ (t41 : Int) (t41_1 : Int), v = (.tuple #[(.int .u32 t41), (.int .i64 t41_1)]) ∧
 let t45 : Bool := decide (t41 > 20000)
 br t45 (
 nilc d0 (fun t47 =>
 wr (Addr.add t47 1) (.int .i64 180) (fun h2 =>
 frame_Decoder_Feed_G0_1 d0 out6 out6n out6c K h2) h1)) (
 let t50 : Int := IntKind.i64.wrap t41
 nilc d0 (fun t52 =>
 ∃ (t54 : Option Addr) (t54n : Nat) (t54c : Nat), cellH h1 t52 = some (.slice t54 t54n t54c) ∧
 let t56 : Bool := decide ((t54n : Int) ≥ 5)
 br t56 (
 nilc d0 (fun t59 =>
 ∃ (t61 : Option Addr) (t61n : Nat) (t61c : Nat), cellH h1 t59 = some (.slice t61 t61n t61c) ∧
 hwp PP (Instr.indexAt T_sl_uint8 (.slice t61 t61n t61c) (.int .i64 4)) (fun v_1 h3 => ∃ (t62 : Addr), v_1 = (.pointer (some t62)) ∧
 ∃ (t63 : Int), cellH h3 t62 = some (.int .u8 t63) ∧
 let t64 : Bool := (t63 == 0)
 frame_Decoder_Feed_J1011111111111101 d0 out6 out6n out6c t50 t64 K h3) h1)) (
 frame_Decoder_Feed_J1011111111111101 d0 out6 out6n out6c t50 false K h1)))))))
theorem frame_Decoder_Feed_J1011111111_eq (d0 : Option Addr) (out6 : Option Addr) (out6n : Nat) (out6c : Nat) (K : Ex → Fr → Heap → Prop) (h : Heap) : ev PP true none (sub (bodyOf Tryd.f16) [1, 0, 1, 1, 1, 1, 1, 1, 1, 1]) (subA frame_Decoder_Feed_ann [1, 0, 1, 1, 1, 1, 1, 1, 1, 1]) (mkFr 0 142 [(0, (.pointer d0)), (6, (.slice out6 out6n out6c))]) (frame_Decoder_Feed_C1 K) h = frame_Decoder_Feed_J1011111111_txt d0 out6 out6n out6c K h := by kernel_rfl
theorem frame_Decoder_Feed_J1011111111_of {d0 : Option Addr} {out6 : Option Addr} {out6n : Nat} {out6c : Nat} {K : Ex → Fr → Heap → Prop} {h : Heap} (H : frame_Decoder_Feed_J1011111111_txt d0 out6 out6n out6c K h) : frame_Decoder_Feed_J1011111111 d0 out6 out6n out6c K h := by
   unfold frame_Decoder_Feed_J1011111111; refine Jn.of_ev (x := subA frame_Decoder_Feed_ann [1, 0, 1, 1, 1, 1, 1, 1, 1, 1]) ?_; exact (frame_Decoder_Feed_J1011111111_eq d0 out6 out6n out6c K h).symm ▸ H
@[reducible] def frame_Decoder_Feed_G0_1_txt (d0 : Option Addr) (out6 : Option Addr) (out6n : Nat) (out6c : Nat) (K : Ex → Fr → Heap → Prop) (h : Heap) : Prop :=
 nilc d0 (fun t131 =>
 ∃ (t133 : Option Addr) (t133n : Nat) (t133c : Nat), cellH h t131 = some (.slice t133 t133n t133c) ∧
 hwp PP (Builtin.append_ #[T_sl_uint8, T_sl_uint8] T_sl_uint8 #[(.slice none 0 0), (.slice t133 t133n t133c)]) (fun v h1 => ∃ (t134 : Option Addr) (t134n : Nat) (t134c : Nat), v = (.slice t134 t134n t134c) ∧
 nilc d0 (fun t135 =>
 wr t135 (.slice t134 t134n t134c) (fun h2 =>
 nilc d0 (fun t139 =>
 ∃ (t141 : Int), cellH h2 (Addr.add t139 1) = some (.int .i64 t141) ∧
 K .ret (frame_Decoder_Feed_Xret out6 out6n out6c t141) h2)) h1)) h)
theorem frame_Decoder_Feed_G0_1_eq (d0 : Option Addr) (out6 : Option Addr) (out6n : Nat) (out6c : Nat) (K : Ex → Fr → Heap → Prop) (h : Heap) : ev PP true (some 0) (sub (bodyOf Tryd.f16) [1, 0]) (subA frame_Decoder_Feed_ann [1, 0]) (mkFr 0 142 [(0, (.pointer d0)), (6, (.slice out6 out6n out6c))]) (scopeK (sub (bodyOf Tryd.f16) [1, 0]) (fun l fr h => Sc PP true (sub (bodyOf Tryd.f16) [1, 0]) (some l) (fr.mask (keepOf [(0, 65), (1, 65)] l)) K h) K) h = frame_Decoder_Feed_G0_1_txt d0 out6 out6n out6c K h := by kernel_rfl
theorem frame_Decoder_Feed_G0_1_of {d0 : Option Addr} {out6 : Option Addr} {out6n : Nat} {out6c : Nat} {K : Ex → Fr → Heap → Prop} {h : Heap} (H : frame_Decoder_Feed_G0_1_txt d0 out6 out6n out6c K h) : frame_Decoder_Feed_G0_1 d0 out6 out6n out6c K h := by
   unfold frame_Decoder_Feed_G0_1; refine Sc.of_ev (x := subA frame_Decoder_Feed_ann [1, 0]) (keep := [(0, 65), (1, 65)]) ?_; exact (frame_Decoder_Feed_G0_1_eq d0 out6 out6n out6c K h).symm ▸ H
@[reducible] def frame_Decoder_Feed_J1011111111111101_txt (d0 : Option Addr) (out6 : Option Addr) (out6n : Nat) (out6c : Nat) (xn7 : Int) (t65 : Bool) (K : Ex → Fr → Heap → Prop) (h : Heap) : Prop :=
 br t65 (
 nilc d0 (fun t67 =>
 wr (Addr.add t67 1) (.int .i64 182) (fun h1 =>
 frame_Decoder_Feed_G0_1 d0 out6 out6n out6c K h1) h)) (
 nilc d0 (fun t70 =>
 ∃ (t72 : Option Addr) (t72n : Nat) (t72c : Nat), cellH h t70 = some (.slice t72 t72n t72c) ∧
 let t75 : Int := IntKind.i64.wrap (xn7 + 9)
 let t76 : Bool := decide ((t72n : Int) < t75)
 br t76 (
 frame_Decoder_Feed_G0_1 d0 out6 out6n out6c K h) (
 nilc d0 (fun t79 =>
 ∃ (t81 : Option Addr) (t81n : Nat) (t81c : Nat), cellH h t79 = some (.slice t81 t81n t81c) ∧
 let t83 : Int := IntKind.i64.wrap (5 + xn7)
 SpecH PP F_little_Get32 [(.slice t81 t81n t81c), (.int .i64 t83)] h (fun v h2 => ∃ (t84 : Int) (t84_1 : Int), v = (.tuple #[(.int .u32 t84), (.int .i64 t84_1)]) ∧
 nilc d0 (fun t89 =>
 ∃ (t91 : Option Addr) (t91n : Nat) (t91c : Nat), cellH h2 t89 = some (.slice t91 t91n t91c) ∧
 let t93 : Int := IntKind.i64.wrap (5 + xn7)
 hwp PP (Instr.sliceAt T_sl_uint8 (.slice t91 t91n t91c) (some (.int .i64 4)) (some (.int .i64 t93)) none) (fun v_1 h3 => ∃ (t94 : Option Addr) (t94n : Nat) (t94c : Nat), v_1 = (.slice t94 t94n t94c) ∧
 SpecH PP F_little_Sum [(.slice t94 t94n t94c)] h3 (fun v_2 h4 => ∃ (t95 : Int), v_2 = (.int .u32 t95) ∧
 let t96 : Bool := (t84 != t95)
 br t96 (
 nilc d0 (fun t98 =>
 wr (Addr.add t98 1) (.int .i64 181) (fun h5 =>
 frame_Decoder_Feed_G0_1 d0 out6 out6n out6c K h5) h4)) (
 nilc d0 (fun t102 =>
 nilc d0 (fun t109 =>
 ∃ (t111 : Option Addr) (t111n : Nat) (t111c : Nat), cellH h4 t109 = some (.slice t111 t111n t111c) ∧
 let t113 : Int := IntKind.i64.wrap (5 + xn7)
 hwp PP (Instr.sliceAt T_sl_uint8 (.slice t111 t111n t111c) (some (.int .i64 5)) (some (.int .i64 t113)) none) (fun v_3 h6 => ∃ (t114 : Option Addr) (t114n : Nat) (t114c : Nat), v_3 = (.slice t114 t114n t114c) ∧
 (
 ∃ (t104_1 : Option Addr) (t104_1n : Nat) (t104_1c : Nat), cellH h6 t102 = some (.slice t104_1 t104_1n t104_1c) ∧
 hwp PP (Instr.indexAt T_sl_uint8 (.slice t104_1 t104_1n t104_1c) (.int .i64 4)) (fun v_7 h11 => ∃ (t105_1 : Addr), v_7 = (.pointer (some t105_1)) ∧
 (
 ∃ (t106_2 : Int), cellH h11 t105_1 = some (.int .u8 t106_2) ∧
 let t107_2 : Int := IntKind.i64.wrap t106_2
 hwp PP (Go.convert T_sl_uint8 T_string (.slice t114 t114n t114c)) (fun v_10 h15 => ∃ (t115_2 : ByteArray), v_10 = (.string t115_2) ∧
 let h16 : Heap := Array.push h15 (.cells #[(.int .i64 t107_2), (.string t115_2)] T_api_Frame (0, 0))
 hwp PP (Builtin.append_ #[T_sl_api_Frame, T_sl_api_Frame] T_sl_api_Frame #[(.slice out6 out6n out6c), (.slice (some ⟨Array.size h15, 0, none⟩) 1 1)]) (fun v_11 h17 => ∃ (t118_2 : Option Addr) (t118_2n : Nat) (t118_2c : Nat), v_11 = (.slice t118_2 t118_2n t118_2c) ∧
 frame_Decoder_Feed_J1011111111111111111 d0 t118_2 t118_2n t118_2c xn7 K h17) h16) h11) ∧
 (
 hwp PP (Go.convert T_sl_uint8 T_string (.slice t114 t114n t114c)) (fun v_8 h12 => ∃ (t115_1 : ByteArray), v_8 = (.string t115_1) ∧
 ∃ (t106_1 : Int), cellH h12 t105_1 = some (.int .u8 t106_1) ∧
 let t107_1 : Int := IntKind.i64.wrap t106_1
 let h13 : Heap := Array.push h12 (.cells #[(.int .i64 t107_1), (.string t115_1)] T_api_Frame (0, 0))
 hwp PP (Builtin.append_ #[T_sl_api_Frame, T_sl_api_Frame] T_sl_api_Frame #[(.slice out6 out6n out6c), (.slice (some ⟨Array.size h12, 0, none⟩) 1 1)]) (fun v_9 h14 => ∃ (t118_1 : Option Addr) (t118_1n : Nat) (t118_1c : Nat), v_9 = (.slice t118_1 t118_1n t118_1c) ∧
 frame_Decoder_Feed_J1011111111111111111 d0 t118_1 t118_1n t118_1c xn7 K h14) h13) h11) ∧
 True) h6) ∧
 (
 hwp PP (Go.convert T_sl_uint8 T_string (.slice t114 t114n t114c)) (fun v_4 h7 => ∃ (t115 : ByteArray), v_4 = (.string t115) ∧
 ∃ (t104 : Option Addr) (t104n : Nat) (t104c : Nat), cellH h7 t102 = some (.slice t104 t104n t104c) ∧
 hwp PP (Instr.indexAt T_sl_uint8 (.slice t104 t104n t104c) (.int .i64 4)) (fun v_5 h8 => ∃ (t105 : Addr), v_5 = (.pointer (some t105)) ∧
 ∃ (t106 : Int), cellH h8 t105 = some (.int .u8 t106) ∧
 let t107 : Int := IntKind.i64.wrap t106
 let h9 : Heap := Array.push h8 (.cells #[(.int .i64 t107), (.string t115)] T_api_Frame (0, 0))
 hwp PP (Builtin.append_ #[T_sl_api_Frame, T_sl_api_Frame] T_sl_api_Frame #[(.slice out6 out6n out6c), (.slice (some ⟨Array.size h8, 0, none⟩) 1 1)]) (fun v_6 h10 => ∃ (t118 : Option Addr) (t118n : Nat) (t118c : Nat), v_6 = (.slice t118 t118n t118c) ∧
 frame_Decoder_Feed_J1011111111111111111 d0 t118 t118n t118c xn7 K h10) h9) h7) h6) ∧
 True) h4))))) h2))))))
theorem frame_Decoder_Feed_J1011111111111101_eq (d0 : Option Addr) (out6 : Option Addr) (out6n : Nat) (out6c : Nat) (xn7 : Int) (t65 : Bool) (K : Ex → Fr → Heap → Prop) (h : Heap) : ev PP true none (sub (bodyOf Tryd.f16) [1, 0, 1, 1, 1, 1, 1, 1, 1, 1, 1, 1, 1, 1, 0, 1]) (subA frame_Decoder_Feed_ann [1, 0, 1, 1, 1, 1, 1, 1, 1, 1, 1, 1, 1, 1, 0, 1]) (mkFr 0 142 [(0, (.pointer d0)), (6, (.slice out6 out6n out6c)), (7, (.int .i64 xn7)), (65, (.bool t65))]) (frame_Decoder_Feed_K10111111111111 K) h = frame_Decoder_Feed_J1011111111111101_txt d0 out6 out6n out6c xn7 t65 K h := by kernel_rfl
theorem frame_Decoder_Feed_J1011111111111101_of {d0 : Option Addr} {out6 : Option Addr} {out6n : Nat} {out6c : Nat} {xn7 : Int} {t65 : Bool} {K : Ex → Fr → Heap → Prop} {h : Heap} (H : frame_Decoder_Feed_J1011111111111101_txt d0 out6 out6n out6c xn7 t65 K h) : frame_Decoder_Feed_J1011111111111101 d0 out6 out6n out6c xn7 t65 K h := by
   unfold frame_Decoder_Feed_J1011111111111101; refine Jn.of_ev (x := subA frame_Decoder_Feed_ann [1, 0, 1, 1, 1, 1, 1, 1, 1, 1, 1, 1, 1, 1, 0, 1]) ?_; exact (frame_Decoder_Feed_J1011111111111101_eq d0 out6 out6n out6c xn7 t65 K h).symm ▸ H
@[reducible] def frame_Decoder_Feed_J1011111111111111111_txt (d0 : Option Addr) (out6 : Option Addr) (out6n : Nat) (out6c : Nat) (xn7 : Int) (K : Ex → Fr → Heap → Prop) (h : Heap) : Prop :=
 nilc d0 (fun t121 =>
 ∃ (t123 : Option Addr) (t123n : Nat) (t123c : Nat), cellH h t121 = some (.slice t123 t123n t123c) ∧
 let t125 : Int := IntKind.i64.wrap (xn7 + 9)
 hwp PP (Instr.sliceAt T_sl_uint8 (.slice t123 t123n t123c) (some (.int .i64 t125)) none none) (fun v h1 => ∃ (t126 : Option Addr) (t126n : Nat) (t126c : Nat), v = (.slice t126 t126n t126c) ∧
 nilc d0 (fun t127 =>
 wr t127 (.slice t126 t126n t126c) (fun h2 =>
 frame_Decoder_Feed_G1_1 d0 out6 out6n out6c K h2) h1)) h)
theorem frame_Decoder_Feed_J1011111111111111111_eq (d0 : Option Addr) (out6 : Option Addr) (out6n : Nat) (out6c : Nat) (xn7 : Int) (K : Ex → Fr → Heap → Prop) (h : Heap) : ev PP true none (sub (bodyOf Tryd.f16) [1, 0, 1, 1, 1, 1, 1, 1, 1, 1, 1, 1, 1, 1, 1, 1, 1, 1, 1]) (subA frame_Decoder_Feed_ann [1, 0, 1, 1, 1, 1, 1, 1, 1, 1, 1, 1, 1, 1, 1, 1, 1, 1, 1]) (mkFr 0 142 [(0, (.pointer d0)), (6, (.slice out6 out6n out6c)), (7, (.int .i64 xn7))]) (frame_Decoder_Feed_C1 K) h = frame_Decoder_Feed_J1011111111111111111_txt d0 out6 out6n out6c xn7 K h := by kernel_rfl
theorem frame_Decoder_Feed_J1011111111111111111_of {d0 : Option Addr} {out6 : Option Addr} {out6n : Nat} {out6c : Nat} {xn7 : Int} {K : Ex → Fr → Heap → Prop} {h : Heap} (H : frame_Decoder_Feed_J1011111111111111111_txt d0 out6 out6n out6c xn7 K h) : frame_Decoder_Feed_J1011111111111111111 d0 out6 out6n out6c xn7 K h := by
   unfold frame_Decoder_Feed_J1011111111111111111; refine Jn.of_ev (x := subA frame_Decoder_Feed_ann [1, 0, 1, 1, 1, 1, 1, 1, 1, 1, 1, 1, 1, 1, 1, 1, 1, 1, 1]) ?_; exact (frame_Decoder_Feed_J1011111111111111111_eq d0 out6 out6n out6c xn7 K h).symm ▸ H
@[reducible] def frame_Decoder_Feed_G1_1_txt (d0 : Option Addr) (out6 : Option Addr) (out6n : Nat) (out6c : Nat) (K : Ex → Fr → Heap → Prop) (h : Heap) : Prop :=
 frame_Decoder_Feed_J1011111111 d0 out6 out6n out6c K h
theorem frame_Decoder_Feed_G1_1_eq (d0 : Option Addr) (out6 : Option Addr) (out6n : Nat) (out6c : Nat) (K : Ex → Fr → Heap → Prop) (h : Heap) : ev PP true (some 1) (sub (bodyOf Tryd.f16) [1, 0]) (subA frame_Decoder_Feed_ann [1, 0]) (mkFr 0 142 [(0, (.pointer d0)), (6, (.slice out6 out6n out6c))]) (scopeK (sub (bodyOf Tryd.f16) [1, 0]) (fun l fr h => Sc PP true (sub (bodyOf Tryd.f16) [1, 0]) (some l) (fr.mask (keepOf [(0, 65), (1, 65)] l)) K h) K) h = frame_Decoder_Feed_G1_1_txt d0 out6 out6n out6c K h := by kernel_rfl
theorem frame_Decoder_Feed_G1_1_of {d0 : Option Addr} {out6 : Option Addr} {out6n : Nat} {out6c : Nat} {K : Ex → Fr → Heap → Prop} {h : Heap} (H : frame_Decoder_Feed_G1_1_txt d0 out6 out6n out6c K h) : frame_Decoder_Feed_G1_1 d0 out6 out6n out6c K h := by
   unfold frame_Decoder_Feed_G1_1; refine Sc.of_ev (x := subA frame_Decoder_Feed_ann [1, 0]) (keep := [(0, 65), (1, 65)]) ?_; exact (frame_Decoder_Feed_G1_1_eq d0 out6 out6n out6c K h).symm ▸ H
def frame_Decoder_Feed_main (d0 : Option Addr) (b1 : Option Addr) (b1n : Nat) (b1c : Nat) (Q : Value → Heap → Prop) (h : Heap) : Prop :=
 frame_Decoder_Feed_S1 d0 b1 b1n b1c (bodyK PP Tryd.f16 Q) h
theorem frame_Decoder_Feed_eq (d0 : Option Addr) (b1 : Option Addr) (b1n : Nat) (b1c : Nat) (Q : Value → Heap → Prop) (h : Heap) : ev PP true none (bodyOf Tryd.f16) frame_Decoder_Feed_ann (initFr 142 [(.pointer d0), (.slice b1 b1n b1c)]) (bodyK PP Tryd.f16 Q) h = frame_Decoder_Feed_main d0 b1 b1n b1c Q h := by kernel_rfl
theorem frame_Decoder_Feed_door {d0 : Option Addr} {b1 : Option Addr} {b1n : Nat} {b1c : Nat} {Q : Value → Heap → Prop} {h : Heap} (H : frame_Decoder_Feed_main d0 b1 b1n b1c Q h) : SpecH PP F_frame_Decoder_Feed [(.pointer d0), (.slice b1 b1n b1c)] h Q :=
   spec_of_ev Tryd.func16 rfl rfl ((frame_Decoder_Feed_eq d0 b1 b1n b1c Q h).symm ▸ H)
/-! ### haversack/haversackkeep.Back: function 17 -/
def keep_Back_ann : Ann := (.seq 3 (.region [(List.range 1, 3)]) (.seq 35 (.region [(List.range 6, 35)]) (.seq 99 (.region [(List.range 16, 99)]) (.join (.seq 96 (.seq 227 (.region [(List.range 1, 227)]) (.block (.loop 227 (.seq 227 (.seq 4294967523 (.region [(List.range 4, 4294967523)]) (.cond .leaf (.exit 96))) (.seq 227 (.block (.region [(List.range 13, 227)])) (.join (.region [(List.range 3, 227)]))))))) (.seq 64 (.seq 352 (.region [(List.range 1, 352)]) (.block (.loop 352 (.seq 352 (.seq 1125899906842976 (.region [(List.range 4, 1125899906842976)]) (.cond .leaf (.exit 64))) (.seq 352 (.block (.region [(List.range 9, 352)])) (.region [(List.range 3, 352)])))))) (.seq 16 (.region [(List.range 2, 16)]) (.exit 16))))))))
@[irreducible] def keep_Back_X0 (all5 : Option Addr) (all5n : Nat) (all5c : Nat) (ok6 : Bool) : Fr := (mkFr 0 62 [(5, (.slice all5 all5n all5c)), (6, (.bool ok6))])
@[irreducible] def keep_Back_X2 (ok6 : Bool) : Fr := (mkFr 0 62 [(6, (.bool ok6))])
@[irreducible] def keep_Back_J111 (x0 : Option Addr) (x0n : Nat) (x0c : Nat) (b1 : Option Addr) (b1n : Nat) (b1c : Nat) (all5 : Option Addr) (all5n : Nat) (all5c : Nat) (ok6 : Bool) (Q : Value → Heap → Prop) (h : Heap) : Prop := Jn PP true (sub (bodyOf Tryd.f17) [1, 1, 1]) (mkFr 0 62 [(0, (.slice x0 x0n x0c)), (1, (.slice b1 b1n b1c)), (5, (.slice all5 all5n all5c)), (6, (.bool ok6))]) (bodyK PP Tryd.f17 Q) h
@[irreducible] def keep_Back_K111 (Q : Value → Heap → Prop) : Ex → Fr → Heap → Prop := seqK (fun fr h => ev PP true none (sub (bodyOf Tryd.f17) [1, 1, 1, 1]) (subA keep_Back_ann [1, 1, 1, 1]) (fr.mask 96) (bodyK PP Tryd.f17 Q) h) (bodyK PP Tryd.f17 Q)
@[irreducible] def keep_Back_K11101 (Q : Value → Heap → Prop) : Ex → Fr → Heap → Prop := blockK 0 (keep_Back_K111 Q)
@[irreducible] def keep_Back_L111010 (x0 : Option Addr) (x0n : Nat) (x0c : Nat) (b1 : Option Addr) (b1n : Nat) (b1c : Nat) (all5 : Option Addr) (all5n : Nat) (all5c : Nat) (ok6 : Bool) (i7 : Int) (K : Ex → Fr → Heap → Prop) (h : Heap) : Prop := Lp PP true (sub (bodyOf Tryd.f17) [1, 1, 1, 0, 1, 0, 0]) (mkFr 0 62 [(0, (.slice x0 x0n x0c)), (1, (.slice b1 b1n b1c)), (5, (.slice all5 all5n all5c)), (6, (.bool ok6)), (7, (.int .i64 i7))]) K h
@[irreducible] def keep_Back_B111010 (K : Ex → Fr → Heap → Prop) : Ex → Fr → Heap → Prop := seqK (fun fr h => Lp PP true (sub (bodyOf Tryd.f17) [1, 1, 1, 0, 1, 0, 0]) (fr.mask 227) K h) K
@[irreducible] def keep_Back_J111010011 (x0 : Option Addr) (x0n : Nat) (x0c : Nat) (b1 : Option Addr) (b1n : Nat) (b1c : Nat) (all5 : Option Addr) (all5n : Nat) (all5c : Nat) (ok6 : Bool) (i7 : Int) (K : Ex → Fr → Heap → Prop) (h : Heap) : Prop := Jn PP true (sub (bodyOf Tryd.f17) [1, 1, 1, 0, 1, 0, 0, 1, 1]) (mkFr 0 62 [(0, (.slice x0 x0n x0c)), (1, (.slice b1 b1n b1c)), (5, (.slice all5 all5n all5c)), (6, (.bool ok6)), (7, (.int .i64 i7))]) (keep_Back_B111010 K) h
@[irreducible] def keep_Back_K1111 (Q : Value → Heap → Prop) : Ex → Fr → Heap → Prop := seqK (fun fr h => ev PP true none (sub (bodyOf Tryd.f17) [1, 1, 1, 1, 1]) (subA keep_Back_ann [1, 1, 1, 1, 1]) (fr.mask 64) (bodyK PP Tryd.f17 Q) h) (bodyK PP Tryd.f17 Q)
@[irreducible] def keep_Back_K111101 (Q : Value → Heap → Prop) : Ex → Fr → Heap → Prop := blockK 2 (keep_Back_K1111 Q)
@[irreducible] def keep_Back_L1111010 (all5 : Option Addr) (all5n : Nat) (all5c : Nat) (ok6 : Bool) (i8 : Int) (K : Ex → Fr → Heap → Prop) (h : Heap) : Prop := Lp PP true (sub (bodyOf Tryd.f17) [1, 1, 1, 1, 0, 1, 0, 0]) (mkFr 0 62 [(5, (.slice all5 all5n all5c)), (6, (.bool ok6)), (8, (.int .i64 i8))]) K h
@[irreducible] def keep_Back_B1111010 (K : Ex → Fr → Heap → Prop) : Ex → Fr → Heap → Prop := seqK (fun fr h => Lp PP true (sub (bodyOf Tryd.f17) [1, 1, 1, 1, 0, 1, 0, 0]) (fr.mask 352) K h) K
@[reducible] def keep_Back_J111_txt (x0 : Option Addr) (x0n : Nat) (x0c : Nat) (b1 : Option Addr) (b1n : Nat) (b1c : Nat) (all5 : Option Addr) (all5n : Nat) (all5c : Nat) (ok6 : Bool) (Q : Value → Heap → Prop) (h : Heap) : Prop :=
 keep_Back_L111010 x0 x0n x0c b1 b1n b1c all5 all5n all5c ok6 0 (keep_Back_K11101 Q) h
theorem keep_Back_J111_eq (x0 : Option Addr) (x0n : Nat) (x0c : Nat) (b1 : Option Addr) (b1n : Nat) (b1c : Nat) (all5 : Option Addr) (all5n : Nat) (all5c : Nat) (ok6 : Bool) (Q : Value → Heap → Prop) (h : Heap) : ev PP true none (sub (bodyOf Tryd.f17) [1, 1, 1]) (subA keep_Back_ann [1, 1, 1]) (mkFr 0 62 [(0, (.slice x0 x0n x0c)), (1, (.slice b1 b1n b1c)), (5, (.slice all5 all5n all5c)), (6, (.bool ok6))]) (bodyK PP Tryd.f17 Q) h = keep_Back_J111_txt x0 x0n x0c b1 b1n b1c all5 all5n all5c ok6 Q h := by kernel_rfl
theorem keep_Back_J111_of {x0 : Option Addr} {x0n : Nat} {x0c : Nat} {b1 : Option Addr} {b1n : Nat} {b1c : Nat} {all5 : Option Addr} {all5n : Nat} {all5c : Nat} {ok6 : Bool} {Q : Value → Heap → Prop} {h : Heap} (H : keep_Back_J111_txt x0 x0n x0c b1 b1n b1c all5 all5n all5c ok6 Q h) : keep_Back_J111 x0 x0n x0c b1 b1n b1c all5 all5n all5c ok6 Q h := by
   unfold keep_Back_J111; refine Jn.of_ev (x := subA keep_Back_ann [1, 1, 1]) ?_; exact (keep_Back_J111_eq x0 x0n x0c b1 b1n b1c all5 all5n all5c ok6 Q h).symm ▸ H
@[reducible] def keep_Back_L111010_txt (x0 : Option Addr) (x0n : Nat) (x0c : Nat) (b1 : Option Addr) (b1n : Nat) (b1c : Nat) (all5 : Option Addr) (all5n : Nat) (all5c : Nat) (ok6 : Bool) (i7 : Int) (K : Ex → Fr → Heap → Prop) (h : Heap) : Prop :=
 let t32 : Bool := decide (i7 < (b1n : Int))
 br t32 (
 br ok6 (
 hwp PP (Instr.indexAt T_sl_uint8 (.slice x0 x0n x0c) (.int .i64 i7)) (fun v h1 => ∃ (t39 : Addr), v = (.pointer (some t39)) ∧
 ∃ (t40 : Int), cellH h1 t39 = some (.int .u8 t40) ∧
 hwp PP (Instr.indexAt T_sl_uint8 (.slice b1 b1n b1c) (.int .i64 i7)) (fun v_1 h2 => ∃ (t43 : Addr), v_1 = (.pointer (some t43)) ∧
 ∃ (t44 : Int), cellH h2 t43 = some (.int .u8 t44) ∧
 let t45 : Bool := (t40 == t44)
 keep_Back_J111010011 x0 x0n x0c b1 b1n b1c all5 all5n all5c t45 i7 K h2) h1) h) (
 keep_Back_J111010011 x0 x0n x0c b1 b1n b1c all5 all5n all5c false i7 K h)) (
 K (.exit 0) (keep_Back_X0 all5 all5n all5c ok6) h)
theorem keep_Back_L111010_eq (x0 : Option Addr) (x0n : Nat) (x0c : Nat) (b1 : Option Addr) (b1n : Nat) (b1c : Nat) (all5 : Option Addr) (all5n : Nat) (all5c : Nat) (ok6 : Bool) (i7 : Int) (K : Ex → Fr → Heap → Prop) (h : Heap) : ev PP true none (sub (bodyOf Tryd.f17) [1, 1, 1, 0, 1, 0, 0]) (subA keep_Back_ann [1, 1, 1, 0, 1, 0, 0]) (mkFr 0 62 [(0, (.slice x0 x0n x0c)), (1, (.slice b1 b1n b1c)), (5, (.slice all5 all5n all5c)), (6, (.bool ok6)), (7, (.int .i64 i7))]) (seqK (fun fr h => Lp PP true (sub (bodyOf Tryd.f17) [1, 1, 1, 0, 1, 0, 0]) (fr.mask 227) K h) K) h = keep_Back_L111010_txt x0 x0n x0c b1 b1n b1c all5 all5n all5c ok6 i7 K h := by kernel_rfl
theorem keep_Back_L111010_of {x0 : Option Addr} {x0n : Nat} {x0c : Nat} {b1 : Option Addr} {b1n : Nat} {b1c : Nat} {all5 : Option Addr} {all5n : Nat} {all5c : Nat} {ok6 : Bool} {i7 : Int} {K : Ex → Fr → Heap → Prop} {h : Heap} (H : keep_Back_L111010_txt x0 x0n x0c b1 b1n b1c all5 all5n all5c ok6 i7 K h) : keep_Back_L111010 x0 x0n x0c b1 b1n b1c all5 all5n all5c ok6 i7 K h := by
   unfold keep_Back_L111010; refine Lp.of_ev (x := subA keep_Back_ann [1, 1, 1, 0, 1, 0, 0]) (keep := 227) ?_; exact (keep_Back_L111010_eq x0 x0n x0c b1 b1n b1c all5 all5n all5c ok6 i7 K h).symm ▸ H
theorem keep_Back_at111010_X0 (Q : Value → Heap → Prop) (all5 : Option Addr) (all5n : Nat) (all5c : Nat) (ok6 : Bool) (h : Heap) : (keep_Back_K11101 Q) (.exit 0) (keep_Back_X0 all5 all5n all5c ok6) h = (
 keep_Back_L1111010 all5 all5n all5c ok6 0 (keep_Back_K111101 Q) h) := by kernel_rfl
@[reducible] def keep_Back_J111010011_txt (x0 : Option Addr) (x0n : Nat) (x0c : Nat) (b1 : Option Addr) (b1n : Nat) (b1c : Nat) (all5 : Option Addr) (all5n : Nat) (all5c : Nat) (ok6 : Bool) (i7 : Int) (K : Ex → Fr → Heap → Prop) (h : Heap) : Prop :=
 let t34 : Int := IntKind.i64.wrap (i7 + 1)
 keep_Back_L111010 x0 x0n x0c b1 b1n b1c all5 all5n all5c ok6 t34 K h
theorem keep_Back_J111010011_eq (x0 : Option Addr) (x0n : Nat) (x0c : Nat) (b1 : Option Addr) (b1n : Nat) (b1c : Nat) (all5 : Option Addr) (all5n : Nat) (all5c : Nat) (ok6 : Bool) (i7 : Int) (K : Ex → Fr → Heap → Prop) (h : Heap) : ev PP true none (sub (bodyOf Tryd.f17) [1, 1, 1, 0, 1, 0, 0, 1, 1]) (subA keep_Back_ann [1, 1, 1, 0, 1, 0, 0, 1, 1]) (mkFr 0 62 [(0, (.slice x0 x0n x0c)), (1, (.slice b1 b1n b1c)), (5, (.slice all5 all5n all5c)), (6, (.bool ok6)), (7, (.int .i64 i7))]) (keep_Back_B111010 K) h = keep_Back_J111010011_txt x0 x0n x0c b1 b1n b1c all5 all5n all5c ok6 i7 K h := by kernel_rfl
theorem keep_Back_J111010011_of {x0 : Option Addr} {x0n : Nat} {x0c : Nat} {b1 : Option Addr} {b1n : Nat} {b1c : Nat} {all5 : Option Addr} {all5n : Nat} {all5c : Nat} {ok6 : Bool} {i7 : Int} {K : Ex → Fr → Heap → Prop} {h : Heap} (H : keep_Back_J111010011_txt x0 x0n x0c b1 b1n b1c all5 all5n all5c ok6 i7 K h) : keep_Back_J111010011 x0 x0n x0c b1 b1n b1c all5 all5n all5c ok6 i7 K h := by
   unfold keep_Back_J111010011; refine Jn.of_ev (x := subA keep_Back_ann [1, 1, 1, 0, 1, 0, 0, 1, 1]) ?_; exact (keep_Back_J111010011_eq x0 x0n x0c b1 b1n b1c all5 all5n all5c ok6 i7 K h).symm ▸ H
@[reducible] def keep_Back_L1111010_txt (all5 : Option Addr) (all5n : Nat) (all5c : Nat) (ok6 : Bool) (i8 : Int) (K : Ex → Fr → Heap → Prop) (h : Heap) : Prop :=
 let t50 : Bool := decide (i8 < (all5n : Int))
 br t50 (
 hwp PP (Instr.indexAt T_sl_uint8 (.slice all5 all5n all5c) (.int .i64 i8)) (fun v h1 => ∃ (t57 : Addr), v = (.pointer (some t57)) ∧
 ∃ (t58 : Int), cellH h1 t57 = some (.int .u8 t58) ∧
 let t59 : Int := IntKind.u8.wrap (t58 + 77)
 hwp PP (Instr.indexAt T_sl_uint8 (.slice all5 all5n all5c) (.int .i64 i8)) (fun v_1 h2 => ∃ (t60 : Addr), v_1 = (.pointer (some t60)) ∧
 wr t60 (.int .u8 t59) (fun h3 =>
 let t52 : Int := IntKind.i64.wrap (i8 + 1)
 keep_Back_L1111010 all5 all5n all5c ok6 t52 K h3) h2) h1) h) (
 K (.exit 2) (keep_Back_X2 ok6) h)
theorem keep_Back_L1111010_eq (all5 : Option Addr) (all5n : Nat) (all5c : Nat) (ok6 : Bool) (i8 : Int) (K : Ex → Fr → Heap → Prop) (h : Heap) : ev PP true none (sub (bodyOf Tryd.f17) [1, 1, 1, 1, 0, 1, 0, 0]) (subA keep_Back_ann [1, 1, 1, 1, 0, 1, 0, 0]) (mkFr 0 62 [(5, (.slice all5 all5n all5c)), (6, (.bool ok6)), (8, (.int .i64 i8))]) (seqK (fun fr h => Lp PP true (sub (bodyOf Tryd.f17) [1, 1, 1, 1, 0, 1, 0, 0]) (fr.mask 352) K h) K) h = keep_Back_L1111010_txt all5 all5n all5c ok6 i8 K h := by kernel_rfl
theorem keep_Back_L1111010_of {all5 : Option Addr} {all5n : Nat} {all5c : Nat} {ok6 : Bool} {i8 : Int} {K : Ex → Fr → Heap → Prop} {h : Heap} (H : keep_Back_L1111010_txt all5 all5n all5c ok6 i8 K h) : keep_Back_L1111010 all5 all5n all5c ok6 i8 K h := by
   unfold keep_Back_L1111010; refine Lp.of_ev (x := subA keep_Back_ann [1, 1, 1, 1, 0, 1, 0, 0]) (keep := 352) ?_; exact (keep_Back_L1111010_eq all5 all5n all5c ok6 i8 K h).symm ▸ H
theorem keep_Back_at1111010_X2 (Q : Value → Heap → Prop) (ok6 : Bool) (h : Heap) : (keep_Back_K111101 Q) (.exit 2) (keep_Back_X2 ok6) h = (
 Q (.bool ok6) h) := by kernel_rfl
def keep_Back_main (x0 : Option Addr) (x0n : Nat) (x0c : Nat) (b1 : Option Addr) (b1n : Nat) (b1c : Nat) (Q : Value → Heap → Prop) (h : Heap) : Prop :=
 let t12 : Int := IntKind.i64.wrap ((b1n : Int) + 2)
 hwp PP (Instr.sliceAt T_sl_uint8 (.slice x0 x0n x0c) none (some (.int .i64 t12)) none) (fun v h1 => ∃ (t13 : Option Addr) (t13n : Nat) (t13c : Nat), v = (.slice t13 t13n t13c) ∧
 hwp PP (Instr.indexAt T_sl_uint8 (.slice t13 t13n t13c) (.int .i64 (b1n : Int))) (fun v_1 h2 => ∃ (t17 : Addr), v_1 = (.pointer (some t17)) ∧
 ∃ (t18 : Int), cellH h2 t17 = some (.int .u8 t18) ∧
 let t19 : Bool := (t18 == 165)
 br t19 (
 let t24 : Int := IntKind.i64.wrap ((b1n : Int) + 1)
 hwp PP (Instr.indexAt T_sl_uint8 (.slice t13 t13n t13c) (.int .i64 t24)) (fun v_2 h3 => ∃ (t25 : Addr), v_2 = (.pointer (some t25)) ∧
 ∃ (t26 : Int), cellH h3 t25 = some (.int .u8 t26) ∧
 let t27 : Bool := (t26 == 90)
 keep_Back_J111 x0 x0n x0c b1 b1n b1c t13 t13n t13c t27 Q h3) h2) (
 keep_Back_J111 x0 x0n x0c b1 b1n b1c t13 t13n t13c false Q h2)) h1) h
theorem keep_Back_eq (x0 : Option Addr) (x0n : Nat) (x0c : Nat) (b1 : Option Addr) (b1n : Nat) (b1c : Nat) (Q : Value → Heap → Prop) (h : Heap) : ev PP true none (bodyOf Tryd.f17) keep_Back_ann (initFr 62 [(.slice x0 x0n x0c), (.slice b1 b1n b1c)]) (bodyK PP Tryd.f17 Q) h = keep_Back_main x0 x0n x0c b1 b1n b1c Q h := by kernel_rfl
theorem keep_Back_door {x0 : Option Addr} {x0n : Nat} {x0c : Nat} {b1 : Option Addr} {b1n : Nat} {b1c : Nat} {Q : Value → Heap → Prop} {h : Heap} (H : keep_Back_main x0 x0n x0c b1 b1n b1c Q h) : SpecH PP F_keep_Back [(.slice x0 x0n x0c), (.slice b1 b1n b1c)] h Q :=
   spec_of_ev Tryd.func17 rfl rfl ((keep_Back_eq x0 x0n x0c b1 b1n b1c Q h).symm ▸ H)
/-! ### (*haversack/frame.Decoder).Wrong: function 18 -/
def frame_Decoder_Wrong_ann : Ann := (.seq 1 (.region [(List.range 1, 1)]) (.seq 1 (.seq 17 (.region [(List.range 2, 17)]) (.cond (.seq 4 (.region [(List.range 1, 4)]) (.exit 4)) .leaf)) (.seq 4 (.region [(List.range 5, 4)]) (.exit 4))))
def frame_Decoder_Wrong_main (d0 : Option Addr) (Q : Value → Heap → Prop) (h : Heap) : Prop :=
 let t4 : Bool := (Option.isNone d0)
 br t4 (
 Q (.int .i64 3) h) (
 nilc d0 (fun t6 =>
 ∃ (t8 : Int), cellH h (Addr.add t6 1) = some (.int .i64 t8) ∧
 Q (.int .i64 t8) h))
theorem frame_Decoder_Wrong_eq (d0 : Option Addr) (Q : Value → Heap → Prop) (h : Heap) : ev PP true none (bodyOf Tryd.f18) frame_Decoder_Wrong_ann (initFr 9 [(.pointer d0)]) (bodyK PP Tryd.f18 Q) h = frame_Decoder_Wrong_main d0 Q h := by kernel_rfl
theorem frame_Decoder_Wrong_door {d0 : Option Addr} {Q : Value → Heap → Prop} {h : Heap} (H : frame_Decoder_Wrong_main d0 Q h) : SpecH PP F_frame_Decoder_Wrong [(.pointer d0)] h Q :=
   spec_of_ev Tryd.func18 rfl rfl ((frame_Decoder_Wrong_eq d0 Q h).symm ▸ H)
/-! ### (*haversack/frame.Decoder).Wants: function 19 -/
def frame_Decoder_Wants_ann : Ann := (.seq 1 (.region [(List.range 1, 1)]) (.seq 1 (.seq 16385 (.region [(List.range 9, 16385)]) (.join (.cond (.seq 4 (.region [(List.range 1, 4)]) (.exit 4)) .leaf))) (.seq 9 (.region [(List.range 1, 9)]) (.seq 9 (.seq 57 (.region [(List.range 10, 57)]) (.seq 16777241 (.region [(List.range 2, 16777241)]) (.cond (.region [(List.range 5, 9)]) .leaf))) (.join (.seq 4 (.region [(List.range 8, 4)]) (.exit 4)))))))
@[irreducible] def frame_Decoder_Wants_K1 (Q : Value → Heap → Prop) : Ex → Fr → Heap → Prop := seqK (fun fr h => ev PP true none (sub (bodyOf Tryd.f19) [1, 1]) (subA frame_Decoder_Wants_ann [1, 1]) (fr.mask 1) (bodyK PP Tryd.f19 Q) h) (bodyK PP Tryd.f19 Q)
@[irreducible] def frame_Decoder_Wants_J101 (d0 : Option Addr) (t14 : Bool) (Q : Value → Heap → Prop) (h : Heap) : Prop := Jn PP true (sub (bodyOf Tryd.f19) [1, 0, 1]) (mkFr 0 36 [(0, (.pointer d0)), (14, (.bool t14))]) (frame_Decoder_Wants_K1 Q) h
@[irreducible] def frame_Decoder_Wants_J1111 (d0 : Option Addr) (xn3 : Int) (Q : Value → Heap → Prop) (h : Heap) : Prop := Jn PP true (sub (bodyOf Tryd.f19) [1, 1, 1, 1]) (mkFr 0 36 [(0, (.pointer d0)), (3, (.int .i64 xn3))]) (bodyK PP Tryd.f19 Q) h
@[reducible] def frame_Decoder_Wants_J101_txt (d0 : Option Addr) (t14 : Bool) (Q : Value → Heap → Prop) (h : Heap) : Prop :=
 br t14 (
 Q (.int .i64 0) h) (
 nilc d0 (fun t17 =>
 ∃ (t19 : Option Addr) (t19n : Nat) (t19c : Nat), cellH h t17 = some (.slice t19 t19n t19c) ∧
 SpecH PP F_little_Get32 [(.slice t19 t19n t19c), (.int .i64 0)] h (fun v h1 => ∃ (t20 : Int) (t20_1 : Int), v = (.tuple #[(.int .u32 t20), (.int .i64 t20_1)]) ∧
 let t24 : Bool := (t20_1 == 0)
 br t24 (
 let t27 : Int := IntKind.i64.wrap t20
 let t28 : Int := IntKind.i64.wrap (9 + t27)
 frame_Decoder_Wants_J1111 d0 t28 Q h1) (
 frame_Decoder_Wants_J1111 d0 9 Q h1))))
theorem frame_Decoder_Wants_J101_eq (d0 : Option Addr) (t14 : Bool) (Q : Value → Heap → Prop) (h : Heap) : ev PP true none (sub (bodyOf Tryd.f19) [1, 0, 1]) (subA frame_Decoder_Wants_ann [1, 0, 1]) (mkFr 0 36 [(0, (.pointer d0)), (14, (.bool t14))]) (frame_Decoder_Wants_K1 Q) h = frame_Decoder_Wants_J101_txt d0 t14 Q h := by kernel_rfl
theorem frame_Decoder_Wants_J101_of {d0 : Option Addr} {t14 : Bool} {Q : Value → Heap → Prop} {h : Heap} (H : frame_Decoder_Wants_J101_txt d0 t14 Q h) : frame_Decoder_Wants_J101 d0 t14 Q h := by
   unfold frame_Decoder_Wants_J101; refine Jn.of_ev (x := subA frame_Decoder_Wants_ann [1, 0, 1]) ?_; exact (frame_Decoder_Wants_J101_eq d0 t14 Q h).symm ▸ H
@[reducible] def frame_Decoder_Wants_J1111_txt (d0 : Option Addr) (xn3 : Int) (Q : Value → Heap → Prop) (h : Heap) : Prop :=
 nilc d0 (fun t31 =>
 ∃ (t33 : Option Addr) (t33n : Nat) (t33c : Nat), cellH h t31 = some (.slice t33 t33n t33c) ∧
 let t35 : Int := IntKind.i64.wrap (xn3 - (t33n : Int))
 Q (.int .i64 t35) h)
theorem frame_Decoder_Wants_J1111_eq (d0 : Option Addr) (xn3 : Int) (Q : Value → Heap → Prop) (h : Heap) : ev PP true none (sub (bodyOf Tryd.f19) [1, 1, 1, 1]) (subA frame_Decoder_Wants_ann [1, 1, 1, 1]) (mkFr 0 36 [(0, (.pointer d0)), (3, (.int .i64 xn3))]) (bodyK PP Tryd.f19 Q) h = frame_Decoder_Wants_J1111_txt d0 xn3 Q h := by kernel_rfl
theorem frame_Decoder_Wants_J1111_of {d0 : Option Addr} {xn3 : Int} {Q : Value → Heap → Prop} {h : Heap} (H : frame_Decoder_Wants_J1111_txt d0 xn3 Q h) : frame_Decoder_Wants_J1111 d0 xn3 Q h := by
   unfold frame_Decoder_Wants_J1111; refine Jn.of_ev (x := subA frame_Decoder_Wants_ann [1, 1, 1, 1]) ?_; exact (frame_Decoder_Wants_J1111_eq d0 xn3 Q h).symm ▸ H
def frame_Decoder_Wants_main (d0 : Option Addr) (Q : Value → Heap → Prop) (h : Heap) : Prop :=
 let t7 : Bool := (Option.isNone d0)
 br t7 (
 frame_Decoder_Wants_J101 d0 true Q h) (
 nilc d0 (fun t10 =>
 ∃ (t12 : Int), cellH h (Addr.add t10 1) = some (.int .i64 t12) ∧
 let t13 : Bool := (t12 != 0)
 frame_Decoder_Wants_J101 d0 t13 Q h))
theorem frame_Decoder_Wants_eq (d0 : Option Addr) (Q : Value → Heap → Prop) (h : Heap) : ev PP true none (bodyOf Tryd.f19) frame_Decoder_Wants_ann (initFr 36 [(.pointer d0)]) (bodyK PP Tryd.f19 Q) h = frame_Decoder_Wants_main d0 Q h := by kernel_rfl
theorem frame_Decoder_Wants_door {d0 : Option Addr} {Q : Value → Heap → Prop} {h : Heap} (H : frame_Decoder_Wants_main d0 Q h) : SpecH PP F_frame_Decoder_Wants [(.pointer d0)] h Q :=
   spec_of_ev Tryd.func19 rfl rfl ((frame_Decoder_Wants_eq d0 Q h).symm ▸ H)
/-! ### haversack/haversackref18.Read: function 20 -/
def ref18_Read_ann : Ann := (.seq 1 (.region [(List.range 3, 1)]) (.seq 33 (.region [(List.range 1, 33)]) (.seq 97 (.region [(List.range 1, 97)]) (.block (.loop 97 (.block (.seq 97 (.seq 65633 (.region [(List.range 5, 65633)]) (.cond (.seq 28 (.region [(List.range 5, 28)]) (.exit 28)) .leaf)) (.seq 225 (.region [(List.range 8, 225)]) (.seq 225 (.seq 67109089 (.region [(List.range 2, 67109089)]) (.cond (.seq 28 (.region [(List.range 5, 28)]) (.exit 28)) .leaf)) (.seq 609 (.region [(List.range 3, 609)]) (.seq 609 (.seq 8796093022817 (.region [(List.range 13, 8796093022817)]) (.join (.cond (.seq 28 (.region [(List.range 5, 28)]) (.exit 28)) .leaf))) (.seq 609 (.seq 4503599627371105 (.region [(List.range 7, 4503599627371105)]) (.cond (.seq 28 (.region [(List.range 5, 28)]) (.exit 28)) .leaf)) (.seq 1633 (.region [(List.range 11, 1633)]) (.seq 609 (.seq 37778931862957161710177 (.region [(List.range 12, 37778931862957161710177)]) (.cond (.seq 28 (.region [(List.range 5, 28)]) (.exit 28)) .leaf)) (.seq 609 (.tree (.run [0, 1, 2, 3, 4, 7, 8, 9, 10, 11, 12, 13, 14] (.alt 5 (.run [6, 15, 16, 17, 18, 19] .done) (.alt 15 (.run [5, 6, 16, 17, 18, 19] .done) .nil))) 609) (.join (.region [(List.range 5, 97)])))))))))))))))))
@[irreducible] def ref18_Read_Xret (t2 : Option Addr) (t2n : Nat) (t2c : Nat) (t3 : Int) (t4 : Int) : Fr := (mkFr 0 101 [(2, (.slice t2 t2n t2c)), (3, (.int .i64 t3)), (4, (.int .i64 t4))])
@[irreducible] def ref18_Read_L1110 (b0 : Option Addr) (b0n : Nat) (b0c : Nat) (out5 : Option Addr) (out5n : Nat) (out5c : Nat) (at6 : Int) (K : Ex → Fr → Heap → Prop) (h : Heap) : Prop := Lp PP true (sub (bodyOf Tryd.f20) [1, 1, 1, 0, 0]) (mkFr 0 101 [(0, (.slice b0 b0n b0c)), (5, (.slice out5 out5n out5c)), (6, (.int .i64 at6))]) K h
@[irreducible] def ref18_Read_B1110 (K : Ex → Fr → Heap → Prop) : Ex → Fr → Heap → Prop := seqK (fun fr h => Lp PP true (sub (bodyOf Tryd.f20) [1, 1, 1, 0, 0]) (fr.mask 97) K h) K
@[irreducible] def ref18_Read_K11100 (K : Ex → Fr → Heap → Prop) : Ex → Fr → Heap → Prop := blockK 1 (ref18_Read_B1110 K)
@[irreducible] def ref18_Read_K1110001111 (K : Ex → Fr → Heap → Prop) : Ex → Fr → Heap → Prop := seqK (fun fr h => ev PP true none (sub (bodyOf Tryd.f20) [1, 1, 1, 0, 0, 0, 1, 1, 1, 1, 1]) (subA ref18_Read_ann [1, 1, 1, 0, 0, 0, 1, 1, 1, 1, 1]) (fr.mask 609) (ref18_Read_K11100 K) h) (ref18_Read_K11100 K)
@[irreducible] def ref18_Read_J111000111101 (b0 : Option Addr) (b0n : Nat) (b0c : Nat) (out5 : Option Addr) (out5n : Nat) (out5c : Nat) (at6 : Int) (xn9 : Int) (t43 : Bool) (K : Ex → Fr → Heap → Prop) (h : Heap) : Prop := Jn PP true (sub (bodyOf Tryd.f20) [1, 1, 1, 0, 0, 0, 1, 1, 1, 1, 0, 1]) (mkFr 0 101 [(0, (.slice b0 b0n b0c)), (5, (.slice out5 out5n out5c)), (6, (.int .i64 at6)), (9, (.int .i64 xn9)), (43, (.bool t43))]) (ref18_Read_K1110001111 K) h
@[irreducible] def ref18_Read_K111 (Q : Value → Heap → Prop) : Ex → Fr → Heap → Prop := blockK 0 (bodyK PP Tryd.f20 Q)
@[irreducible] def ref18_Read_J111000111111111 (b0 : Option Addr) (b0n : Nat) (b0c : Nat) (out5 : Option Addr) (out5n : Nat) (out5c : Nat) (at6 : Int) (xn9 : Int) (K : Ex → Fr → Heap → Prop) (h : Heap) : Prop := Jn PP true (sub (bodyOf Tryd.f20) [1, 1, 1, 0, 0, 0, 1, 1, 1, 1, 1, 1, 1, 1, 1]) (mkFr 0 101 [(0, (.slice b0 b0n b0c)), (5, (.slice out5 out5n out5c)), (6, (.int .i64 at6)), (9, (.int .i64 xn9))]) (ref18_Read_K11100 K) h
@[reducible] def ref18_Read_L1110_txt (b0 : Option Addr) (b0n : Nat) (b0c : Nat) (out5 : Option Addr) (out5n : Nat) (out5c : Nat) (at6 : Int) (K : Ex → Fr → Heap → Prop) (h : Heap) : Prop :=
 let t15 : Int := IntKind.i64.wrap ((b0n : Int) - at6)
 let t16 : Bool := decide (t15 < 4)
 br t16 (
 K .ret (ref18_Read_Xret out5 out5n out5c at6 0) h) (
 SpecH PP F_ref02_Get [(.slice b0 b0n b0c), (.int .i64 at6), (.int .i64 4)] h (fun v h1 => ∃ (t22 : Int) (t22_1 : Int), v = (.tuple #[(.int .u64 t22), (.int .i64 t22_1)]) ∧
 let t26 : Bool := decide (t22 > 20000)
 br t26 (
 K .ret (ref18_Read_Xret out5 out5n out5c at6 180) h1) (
 let t30 : Int := IntKind.i64.wrap t22
 let t34 : Int := IntKind.i64.wrap ((b0n : Int) - at6)
 let t35 : Bool := decide (t34 ≥ 5)
 br t35 (
 let t39 : Int := IntKind.i64.wrap (at6 + 4)
 hwp PP (Instr.indexAt T_sl_uint8 (.slice b0 b0n b0c) (.int .i64 t39)) (fun v_1 h2 => ∃ (t40 : Addr), v_1 = (.pointer (some t40)) ∧
 ∃ (t41 : Int), cellH h2 t40 = some (.int .u8 t41) ∧
 let t42 : Bool := (t41 == 0)
 ref18_Read_J111000111101 b0 b0n b0c out5 out5n out5c at6 t30 t42 K h2) h1) (
 ref18_Read_J111000111101 b0 b0n b0c out5 out5n out5c at6 t30 false K h1))))
theorem ref18_Read_L1110_eq (b0 : Option Addr) (b0n : Nat) (b0c : Nat) (out5 : Option Addr) (out5n : Nat) (out5c : Nat) (at6 : Int) (K : Ex → Fr → Heap → Prop) (h : Heap) : ev PP true none (sub (bodyOf Tryd.f20) [1, 1, 1, 0, 0]) (subA ref18_Read_ann [1, 1, 1, 0, 0]) (mkFr 0 101 [(0, (.slice b0 b0n b0c)), (5, (.slice out5 out5n out5c)), (6, (.int .i64 at6))]) (seqK (fun fr h => Lp PP true (sub (bodyOf Tryd.f20) [1, 1, 1, 0, 0]) (fr.mask 97) K h) K) h = ref18_Read_L1110_txt b0 b0n b0c out5 out5n out5c at6 K h := by kernel_rfl
theorem ref18_Read_L1110_of {b0 : Option Addr} {b0n : Nat} {b0c : Nat} {out5 : Option Addr} {out5n : Nat} {out5c : Nat} {at6 : Int} {K : Ex → Fr → Heap → Prop} {h : Heap} (H : ref18_Read_L1110_txt b0 b0n b0c out5 out5n out5c at6 K h) : ref18_Read_L1110 b0 b0n b0c out5 out5n out5c at6 K h := by
   unfold ref18_Read_L1110; refine Lp.of_ev (x := subA ref18_Read_ann [1, 1, 1, 0, 0]) (keep := 97) ?_; exact (ref18_Read_L1110_eq b0 b0n b0c out5 out5n out5c at6 K h).symm ▸ H
theorem ref18_Read_at1110_Xret (Q : Value → Heap → Prop) (t2 : Option Addr) (t2n : Nat) (t2c : Nat) (t3 : Int) (t4 : Int) (h : Heap) : (ref18_Read_K111 Q) .ret (ref18_Read_Xret t2 t2n t2c t3 t4) h = (
 Q (.tuple #[(.slice t2 t2n t2c), (.int .i64 t3), (.int .i64 t4)]) h) := by kernel_rfl
@[reducible] def ref18_Read_J111000111101_txt (b0 : Option Addr) (b0n : Nat) (b0c : Nat) (out5 : Option Addr) (out5n : Nat) (out5c : Nat) (at6 : Int) (xn9 : Int) (t43 : Bool) (K : Ex → Fr → Heap → Prop) (h : Heap) : Prop :=
 br t43 (
 K .ret (ref18_Read_Xret out5 out5n out5c at6 182) h) (
 let t49 : Int := IntKind.i64.wrap ((b0n : Int) - at6)
 let t51 : Int := IntKind.i64.wrap (xn9 + 9)
 let t52 : Bool := decide (t49 < t51)
 br t52 (
 K .ret (ref18_Read_Xret out5 out5n out5c at6 0) h) (
 let t58 : Int := IntKind.i64.wrap (at6 + 5)
 let t60 : Int := IntKind.i64.wrap (t58 + xn9)
 SpecH PP F_ref02_Get [(.slice b0 b0n b0c), (.int .i64 t60), (.int .i64 4)] h (fun v h1 => ∃ (t61 : Int) (t61_1 : Int), v = (.tuple #[(.int .u64 t61), (.int .i64 t61_1)]) ∧
 let t65 : Int := IntKind.u32.wrap t61
 let t68 : Int := IntKind.i64.wrap (at6 + 4)
 let t70 : Int := IntKind.i64.wrap (at6 + 5)
 let t72 : Int := IntKind.i64.wrap (t70 + xn9)
 hwp PP (Instr.sliceAt T_sl_uint8 (.slice b0 b0n b0c) (some (.int .i64 t68)) (some (.int .i64 t72)) none) (fun v_1 h2 => ∃ (t73 : Option Addr) (t73n : Nat) (t73c : Nat), v_1 = (.slice t73 t73n t73c) ∧
 SpecH PP F_ref02_Sum [(.slice t73 t73n t73c)] h2 (fun v_2 h3 => ∃ (t74 : Int), v_2 = (.int .u32 t74) ∧
 let t75 : Bool := (t65 != t74)
 br t75 (
 K .ret (ref18_Read_Xret out5 out5n out5c at6 181) h3) (
 let t81 : Int := IntKind.i64.wrap (at6 + 4)
 hwp PP (Instr.indexAt T_sl_uint8 (.slice b0 b0n b0c) (.int .i64 t81)) (fun v_3 h4 => ∃ (t82 : Addr), v_3 = (.pointer (some t82)) ∧
 let t87 : Int := IntKind.i64.wrap (at6 + 5)
 let t89 : Int := IntKind.i64.wrap (at6 + 5)
 let t91 : Int := IntKind.i64.wrap (t89 + xn9)
 hwp PP (Instr.sliceAt T_sl_uint8 (.slice b0 b0n b0c) (some (.int .i64 t87)) (some (.int .i64 t91)) none) (fun v_4 h5 => ∃ (t92 : Option Addr) (t92n : Nat) (t92c : Nat), v_4 = (.slice t92 t92n t92c) ∧
 (
 ∃ (t83_1 : Int), cellH h5 t82 = some (.int .u8 t83_1) ∧
 let t84_1 : Int := IntKind.i64.wrap t83_1
 hwp PP (Go.convert T_sl_uint8 T_string (.slice t92 t92n t92c)) (fun v_7 h9 => ∃ (t93_1 : ByteArray), v_7 = (.string t93_1) ∧
 let h10 : Heap := Array.push h9 (.cells #[(.int .i64 t84_1), (.string t93_1)] T_api_Frame (0, 0))
 hwp PP (Builtin.append_ #[T_sl_api_Frame, T_sl_api_Frame] T_sl_api_Frame #[(.slice out5 out5n out5c), (.slice (some ⟨Array.size h9, 0, none⟩) 1 1)]) (fun v_8 h11 => ∃ (t96_1 : Option Addr) (t96_1n : Nat) (t96_1c : Nat), v_8 = (.slice t96_1 t96_1n t96_1c) ∧
 ref18_Read_J111000111111111 b0 b0n b0c t96_1 t96_1n t96_1c at6 xn9 K h11) h10) h5) ∧
 (
 hwp PP (Go.convert T_sl_uint8 T_string (.slice t92 t92n t92c)) (fun v_5 h6 => ∃ (t93 : ByteArray), v_5 = (.string t93) ∧
 ∃ (t83 : Int), cellH h6 t82 = some (.int .u8 t83) ∧
 let t84 : Int := IntKind.i64.wrap t83
 let h7 : Heap := Array.push h6 (.cells #[(.int .i64 t84), (.string t93)] T_api_Frame (0, 0))
 hwp PP (Builtin.append_ #[T_sl_api_Frame, T_sl_api_Frame] T_sl_api_Frame #[(.slice out5 out5n out5c), (.slice (some ⟨Array.size h6, 0, none⟩) 1 1)]) (fun v_6 h8 => ∃ (t96 : Option Addr) (t96n : Nat) (t96c : Nat), v_6 = (.slice t96 t96n t96c) ∧
 ref18_Read_J111000111111111 b0 b0n b0c t96 t96n t96c at6 xn9 K h8) h7) h5) ∧
 True) h4) h3))) h1)))
theorem ref18_Read_J111000111101_eq (b0 : Option Addr) (b0n : Nat) (b0c : Nat) (out5 : Option Addr) (out5n : Nat) (out5c : Nat) (at6 : Int) (xn9 : Int) (t43 : Bool) (K : Ex → Fr → Heap → Prop) (h : Heap) : ev PP true none (sub (bodyOf Tryd.f20) [1, 1, 1, 0, 0, 0, 1, 1, 1, 1, 0, 1]) (subA ref18_Read_ann [1, 1, 1, 0, 0, 0, 1, 1, 1, 1, 0, 1]) (mkFr 0 101 [(0, (.slice b0 b0n b0c)), (5, (.slice out5 out5n out5c)), (6, (.int .i64 at6)), (9, (.int .i64 xn9)), (43, (.bool t43))]) (ref18_Read_K1110001111 K) h = ref18_Read_J111000111101_txt b0 b0n b0c out5 out5n out5c at6 xn9 t43 K h := by kernel_rfl
theorem ref18_Read_J111000111101_of {b0 : Option Addr} {b0n : Nat} {b0c : Nat} {out5 : Option Addr} {out5n : Nat} {out5c : Nat} {at6 : Int} {xn9 : Int} {t43 : Bool} {K : Ex → Fr → Heap → Prop} {h : Heap} (H : ref18_Read_J111000111101_txt b0 b0n b0c out5 out5n out5c at6 xn9 t43 K h) : ref18_Read_J111000111101 b0 b0n b0c out5 out5n out5c at6 xn9 t43 K h := by
   unfold ref18_Read_J111000111101; refine Jn.of_ev (x := subA ref18_Read_ann [1, 1, 1, 0, 0, 0, 1, 1, 1, 1, 0, 1]) ?_; exact (ref18_Read_J111000111101_eq b0 b0n b0c out5 out5n out5c at6 xn9 t43 K h).symm ▸ H
@[reducible] def ref18_Read_J111000111111111_txt (b0 : Option Addr) (b0n : Nat) (b0c : Nat) (out5 : Option Addr) (out5n : Nat) (out5c : Nat) (at6 : Int) (xn9 : Int) (K : Ex → Fr → Heap → Prop) (h : Heap) : Prop :=
 let t99 : Int := IntKind.i64.wrap (at6 + xn9)
 let t100 : Int := IntKind.i64.wrap (t99 + 9)
 ref18_Read_L1110 b0 b0n b0c out5 out5n out5c t100 K h
theorem ref18_Read_J111000111111111_eq (b0 : Option Addr) (b0n : Nat) (b0c : Nat) (out5 : Option Addr) (out5n : Nat) (out5c : Nat) (at6 : Int) (xn9 : Int) (K : Ex → Fr → Heap → Prop) (h : Heap) : ev PP true none (sub (bodyOf Tryd.f20) [1, 1, 1, 0, 0, 0, 1, 1, 1, 1, 1, 1, 1, 1, 1]) (subA ref18_Read_ann [1, 1, 1, 0, 0, 0, 1, 1, 1, 1, 1, 1, 1, 1, 1]) (mkFr 0 101 [(0, (.slice b0 b0n b0c)), (5, (.slice out5 out5n out5c)), (6, (.int .i64 at6)), (9, (.int .i64 xn9))]) (ref18_Read_K11100 K) h = ref18_Read_J111000111111111_txt b0 b0n b0c out5 out5n out5c at6 xn9 K h := by kernel_rfl
theorem ref18_Read_J111000111111111_of {b0 : Option Addr} {b0n : Nat} {b0c : Nat} {out5 : Option Addr} {out5n : Nat} {out5c : Nat} {at6 : Int} {xn9 : Int} {K : Ex → Fr → Heap → Prop} {h : Heap} (H : ref18_Read_J111000111111111_txt b0 b0n b0c out5 out5n out5c at6 xn9 K h) : ref18_Read_J111000111111111 b0 b0n b0c out5 out5n out5c at6 xn9 K h := by
   unfold ref18_Read_J111000111111111; refine Jn.of_ev (x := subA ref18_Read_ann [1, 1, 1, 0, 0, 0, 1, 1, 1, 1, 1, 1, 1, 1, 1]) ?_; exact (ref18_Read_J111000111111111_eq b0 b0n b0c out5 out5n out5c at6 xn9 K h).symm ▸ H
def ref18_Read_main (b0 : Option Addr) (b0n : Nat) (b0c : Nat) (Q : Value → Heap → Prop) (h : Heap) : Prop :=
 ref18_Read_L1110 b0 b0n b0c none 0 0 0 (ref18_Read_K111 Q) h
theorem ref18_Read_eq (b0 : Option Addr) (b0n : Nat) (b0c : Nat) (Q : Value → Heap → Prop) (h : Heap) : ev PP true none (bodyOf Tryd.f20) ref18_Read_ann (initFr 101 [(.slice b0 b0n b0c)]) (bodyK PP Tryd.f20 Q) h = ref18_Read_main b0 b0n b0c Q h := by kernel_rfl
theorem ref18_Read_door {b0 : Option Addr} {b0n : Nat} {b0c : Nat} {Q : Value → Heap → Prop} {h : Heap} (H : ref18_Read_main b0 b0n b0c Q h) : SpecH PP F_ref18_Read [(.slice b0 b0n b0c)] h Q :=
   spec_of_ev Tryd.func20 rfl rfl ((ref18_Read_eq b0 b0n b0c Q h).symm ▸ H)
/-! ### haversack/haversackref18.Same: function 21 -/
def ref18_Same_ann : Ann := (.seq 3 (.region [(List.range 1, 3)]) (.seq 3 (.seq 1027 (.region [(List.range 5, 1027)]) (.cond (.seq 16 (.region [(List.range 1, 16)]) (.exit 16)) .leaf)) (.seq 0 (.seq 35 (.region [(List.range 1, 35)]) (.block (.loop 35 (.seq 35 (.seq 16419 (.region [(List.range 4, 16419)]) (.cond .leaf (.exit 0))) (.seq 35 (.block (.seq 33554467 (.region [(List.range 9, 33554467)]) (.cond (.seq 16 (.region [(List.range 1, 16)]) (.exit 16)) .leaf))) (.region [(List.range 3, 35)])))))) (.seq 16 (.region [(List.range 1, 16)]) (.exit 16)))))
@[irreducible] def ref18_Same_Xret (t4 : Bool) : Fr := (mkFr 0 26 [(4, (.bool t4))])
@[irreducible] def ref18_Same_X0  : Fr := (mkFr 0 26 [])
@[irreducible] def ref18_Same_L11010 (a0 : Option Addr) (a0n : Nat) (a0c : Nat) (b1 : Option Addr) (b1n : Nat) (b1c : Nat) (i5 : Int) (K : Ex → Fr → Heap → Prop) (h : Heap) : Prop := Lp PP true (sub (bodyOf Tryd.f21) [1, 1, 0, 1, 0, 0]) (mkFr 0 26 [(0, (.slice a0 a0n a0c)), (1, (.slice b1 b1n b1c)), (5, (.int .i64 i5))]) K h
@[irreducible] def ref18_Same_B11010 (K : Ex → Fr → Heap → Prop) : Ex → Fr → Heap → Prop := seqK (fun fr h => Lp PP true (sub (bodyOf Tryd.f21) [1, 1, 0, 1, 0, 0]) (fr.mask 35) K h) K
@[irreducible] def ref18_Same_K11 (Q : Value → Heap → Prop) : Ex → Fr → Heap → Prop := seqK (fun fr h => ev PP true none (sub (bodyOf Tryd.f21) [1, 1, 1]) (subA ref18_Same_ann [1, 1, 1]) (fr.mask 0) (bodyK PP Tryd.f21 Q) h) (bodyK PP Tryd.f21 Q)
@[irreducible] def ref18_Same_K1101 (Q : Value → Heap → Prop) : Ex → Fr → Heap → Prop := blockK 0 (ref18_Same_K11 Q)
@[reducible] def ref18_Same_L11010_txt (a0 : Option Addr) (a0n : Nat) (a0c : Nat) (b1 : Option Addr) (b1n : Nat) (b1c : Nat) (i5 : Int) (K : Ex → Fr → Heap → Prop) (h : Heap) : Prop :=
 let t14 : Bool := decide (i5 < (a0n : Int))
 br t14 (
 hwp PP (Instr.indexAt T_sl_api_Frame (.slice a0 a0n a0c) (.int .i64 i5)) (fun v h1 => ∃ (t19 : Addr), v = (.pointer (some t19)) ∧
 ∃ (t20f0 : Int) (t20f1 : ByteArray), rdCells h1 t19 0 [(.int .i64 t20f0), (.string t20f1)] ∧
 hwp PP (Instr.indexAt T_sl_api_Frame (.slice b1 b1n b1c) (.int .i64 i5)) (fun v_1 h2 => ∃ (t23 : Addr), v_1 = (.pointer (some t23)) ∧
 ∃ (t24f0 : Int) (t24f1 : ByteArray), rdCells h2 t23 0 [(.int .i64 t24f0), (.string t24f1)] ∧
 let t25 : Bool := (!((t20f0 == t24f0) && (decide (t20f1 = t24f1) && true)))
 br t25 (
 K .ret (ref18_Same_Xret false) h2) (
 let t16 : Int := IntKind.i64.wrap (i5 + 1)
 ref18_Same_L11010 a0 a0n a0c b1 b1n b1c t16 K h2)) h1) h) (
 K (.exit 0) (ref18_Same_X0) h)
theorem ref18_Same_L11010_eq (a0 : Option Addr) (a0n : Nat) (a0c : Nat) (b1 : Option Addr) (b1n : Nat) (b1c : Nat) (i5 : Int) (K : Ex → Fr → Heap → Prop) (h : Heap) : ev PP true none (sub (bodyOf Tryd.f21) [1, 1, 0, 1, 0, 0]) (subA ref18_Same_ann [1, 1, 0, 1, 0, 0]) (mkFr 0 26 [(0, (.slice a0 a0n a0c)), (1, (.slice b1 b1n b1c)), (5, (.int .i64 i5))]) (seqK (fun fr h => Lp PP true (sub (bodyOf Tryd.f21) [1, 1, 0, 1, 0, 0]) (fr.mask 35) K h) K) h = ref18_Same_L11010_txt a0 a0n a0c b1 b1n b1c i5 K h := by kernel_rfl
theorem ref18_Same_L11010_of {a0 : Option Addr} {a0n : Nat} {a0c : Nat} {b1 : Option Addr} {b1n : Nat} {b1c : Nat} {i5 : Int} {K : Ex → Fr → Heap → Prop} {h : Heap} (H : ref18_Same_L11010_txt a0 a0n a0c b1 b1n b1c i5 K h) : ref18_Same_L11010 a0 a0n a0c b1 b1n b1c i5 K h := by
   unfold ref18_Same_L11010; refine Lp.of_ev (x := subA ref18_Same_ann [1, 1, 0, 1, 0, 0]) (keep := 35) ?_; exact (ref18_Same_L11010_eq a0 a0n a0c b1 b1n b1c i5 K h).symm ▸ H
theorem ref18_Same_at11010_Xret (Q : Value → Heap → Prop) (t4 : Bool) (h : Heap) : (ref18_Same_K1101 Q) .ret (ref18_Same_Xret t4) h = (
 Q (.bool t4) h) := by kernel_rfl
theorem ref18_Same_at11010_X0 (Q : Value → Heap → Prop)  (h : Heap) : (ref18_Same_K1101 Q) (.exit 0) (ref18_Same_X0 ) h = (
 Q (.bool true) h) := by kernel_rfl
def ref18_Same_main (a0 : Option Addr) (a0n : Nat) (a0c : Nat) (b1 : Option Addr) (b1n : Nat) (b1c : Nat) (Q : Value → Heap → Prop) (h : Heap) : Prop :=
 let t10 : Bool := ((a0n : Int) != (b1n : Int))
 br t10 (
 Q (.bool false) h) (
 ref18_Same_L11010 a0 a0n a0c b1 b1n b1c 0 (ref18_Same_K1101 Q) h)
theorem ref18_Same_eq (a0 : Option Addr) (a0n : Nat) (a0c : Nat) (b1 : Option Addr) (b1n : Nat) (b1c : Nat) (Q : Value → Heap → Prop) (h : Heap) : ev PP true none (bodyOf Tryd.f21) ref18_Same_ann (initFr 26 [(.slice a0 a0n a0c), (.slice b1 b1n b1c)]) (bodyK PP Tryd.f21 Q) h = ref18_Same_main a0 a0n a0c b1 b1n b1c Q h := by kernel_rfl
theorem ref18_Same_door {a0 : Option Addr} {a0n : Nat} {a0c : Nat} {b1 : Option Addr} {b1n : Nat} {b1c : Nat} {Q : Value → Heap → Prop} {h : Heap} (H : ref18_Same_main a0 a0n a0c b1 b1n b1c Q h) : SpecH PP F_ref18_Same [(.slice a0 a0n a0c), (.slice b1 b1n b1c)] h Q :=
   spec_of_ev Tryd.func21 rfl rfl ((ref18_Same_eq a0 a0n a0c b1 b1n b1c Q h).symm ▸ H)
/-! ### haversack/haversackref18.Wants: function 22 -/
def ref18_Wants_ann : Ann := (.seq 1 (.region [(List.range 1, 1)]) (.seq 49 (.region [(List.range 9, 49)]) (.seq 17 (.seq 65553 (.region [(List.range 2, 65553)]) (.cond (.seq 4 (.region [(List.range 1, 4)]) (.exit 4)) .leaf)) (.seq 81 (.region [(List.range 5, 81)]) (.seq 81 (.seq 4194385 (.region [(List.range 2, 4194385)]) (.cond (.seq 4 (.region [(List.range 3, 4)]) (.exit 4)) .leaf)) (.seq 192 (.region [(List.range 8, 192)]) (.seq 4 (.region [(List.range 6, 4)]) (.exit 4))))))))
def ref18_Wants_main (b0 : Option Addr) (b0n : Nat) (b0c : Nat) (Q : Value → Heap → Prop) (h : Heap) : Prop :=
 SpecH PP F_ref18_Read [(.slice b0 b0n b0c)] h (fun v h1 => ∃ (t11 : Option Addr) (t11n : Nat) (t11c : Nat) (t11_1 : Int) (t11_2 : Int), v = (.tuple #[(.slice t11 t11n t11c), (.int .i64 t11_1), (.int .i64 t11_2)]) ∧
 let t16 : Bool := (t11_2 != 0)
 br t16 (
 Q (.int .i64 0) h1) (
 let t20 : Int := IntKind.i64.wrap ((b0n : Int) - t11_1)
 let t22 : Bool := decide (t20 < 4)
 br t22 (
 let t24 : Int := IntKind.i64.wrap (9 - t20)
 Q (.int .i64 t24) h1) (
 SpecH PP F_ref02_Get [(.slice b0 b0n b0c), (.int .i64 t11_1), (.int .i64 4)] h1 (fun v_1 h2 => ∃ (t28 : Int) (t28_1 : Int), v_1 = (.tuple #[(.int .u64 t28), (.int .i64 t28_1)]) ∧
 let t32 : Int := IntKind.i64.wrap t28
 let t33 : Int := IntKind.i64.wrap (t32 + 9)
 let t35 : Int := IntKind.i64.wrap (t33 - t20)
 Q (.int .i64 t35) h2))))
theorem ref18_Wants_eq (b0 : Option Addr) (b0n : Nat) (b0c : Nat) (Q : Value → Heap → Prop) (h : Heap) : ev PP true none (bodyOf Tryd.f22) ref18_Wants_ann (initFr 36 [(.slice b0 b0n b0c)]) (bodyK PP Tryd.f22 Q) h = ref18_Wants_main b0 b0n b0c Q h := by kernel_rfl
theorem ref18_Wants_door {b0 : Option Addr} {b0n : Nat} {b0c : Nat} {Q : Value → Heap → Prop} {h : Heap} (H : ref18_Wants_main b0 b0n b0c Q h) : SpecH PP F_ref18_Wants [(.slice b0 b0n b0c)] h Q :=
   spec_of_ev Tryd.func22 rfl rfl ((ref18_Wants_eq b0 b0n b0c Q h).symm ▸ H)
/-! ### haversack/little.Put32: function 23 -/
def little_Put32_ann : Ann := (.seq 3 (.region [(List.range 1, 3)]) (.seq 16 (.region [(List.range 5, 16)]) (.exit 16)))
def little_Put32_main (b0 : Option Addr) (b0n : Nat) (b0c : Nat) (v1 : Int) (Q : Value → Heap → Prop) (h : Heap) : Prop :=
 let t7 : Int := IntKind.u64.wrap v1
 SpecH PP F_little_put [(.slice b0 b0n b0c), (.int .u64 t7), (.int .i64 4)] h (fun v h1 => ∃ (t8 : Option Addr) (t8n : Nat) (t8c : Nat), v = (.slice t8 t8n t8c) ∧
 Q (.slice t8 t8n t8c) h1)
theorem little_Put32_eq (b0 : Option Addr) (b0n : Nat) (b0c : Nat) (v1 : Int) (Q : Value → Heap → Prop) (h : Heap) : ev PP true none (bodyOf Tryd.f23) little_Put32_ann (initFr 9 [(.slice b0 b0n b0c), (.int .u32 v1)]) (bodyK PP Tryd.f23 Q) h = little_Put32_main b0 b0n b0c v1 Q h := by kernel_rfl
theorem little_Put32_door {b0 : Option Addr} {b0n : Nat} {b0c : Nat} {v1 : Int} {Q : Value → Heap → Prop} {h : Heap} (H : little_Put32_main b0 b0n b0c v1 Q h) : SpecH PP F_little_Put32 [(.slice b0 b0n b0c), (.int .u32 v1)] h Q :=
   spec_of_ev Tryd.func23 rfl rfl ((little_Put32_eq b0 b0n b0c v1 Q h).symm ▸ H)
/-! ### haversack/little.Sum: function 24 -/
def little_Sum_ann : Ann := (.seq 1 (.region [(List.range 1, 1)]) (.seq 4 (.region [(List.range 3, 4)]) (.exit 4)))
def little_Sum_main (b0 : Option Addr) (b0n : Nat) (b0c : Nat) (Q : Value → Heap → Prop) (h : Heap) : Prop :=
 SpecH PP F_little_More [(.int .u32 0), (.slice b0 b0n b0c)] h (fun v h1 => ∃ (t4 : Int), v = (.int .u32 t4) ∧
 Q (.int .u32 t4) h1)
theorem little_Sum_eq (b0 : Option Addr) (b0n : Nat) (b0c : Nat) (Q : Value → Heap → Prop) (h : Heap) : ev PP true none (bodyOf Tryd.f24) little_Sum_ann (initFr 5 [(.slice b0 b0n b0c)]) (bodyK PP Tryd.f24 Q) h = little_Sum_main b0 b0n b0c Q h := by kernel_rfl
theorem little_Sum_door {b0 : Option Addr} {b0n : Nat} {b0c : Nat} {Q : Value → Heap → Prop} {h : Heap} (H : little_Sum_main b0 b0n b0c Q h) : SpecH PP F_little_Sum [(.slice b0 b0n b0c)] h Q :=
   spec_of_ev Tryd.func24 rfl rfl ((little_Sum_eq b0 b0n b0c Q h).symm ▸ H)
/-! ### haversack/haversackref02.Put: function 25 -/
def ref02_Put_ann : Ann := (.seq 7 (.region [(List.range 1, 7)]) (.seq 135 (.region [(List.range 6, 135)]) (.seq 135 (.region [(List.range 3, 135)]) (.seq 128 (.seq 391 (.region [(List.range 1, 391)]) (.block (.loop 391 (.seq 391 (.seq 524679 (.region [(List.range 3, 524679)]) (.cond .leaf (.exit 128))) (.seq 391 (.block (.region [(List.range 12, 391)])) (.region [(List.range 3, 391)])))))) (.seq 64 (.region [(List.range 2, 64)]) (.exit 64))))))
@[irreducible] def ref02_Put_X0 (out7 : Option Addr) (out7n : Nat) (out7c : Nat) : Fr := (mkFr 0 34 [(7, (.slice out7 out7n out7c))])
@[irreducible] def ref02_Put_L111010 (b0 : Option Addr) (b0n : Nat) (b0c : Nat) (v1 : Int) (xn2 : Int) (out7 : Option Addr) (out7n : Nat) (out7c : Nat) (i8 : Int) (K : Ex → Fr → Heap → Prop) (h : Heap) : Prop := Lp PP true (sub (bodyOf Tryd.f25) [1, 1, 1, 0, 1, 0, 0]) (mkFr 0 34 [(0, (.slice b0 b0n b0c)), (1, (.int .u64 v1)), (2, (.int .i64 xn2)), (7, (.slice out7 out7n out7c)), (8, (.int .i64 i8))]) K h
@[irreducible] def ref02_Put_B111010 (K : Ex → Fr → Heap → Prop) : Ex → Fr → Heap → Prop := seqK (fun fr h => Lp PP true (sub (bodyOf Tryd.f25) [1, 1, 1, 0, 1, 0, 0]) (fr.mask 391) K h) K
@[irreducible] def ref02_Put_K111 (Q : Value → Heap → Prop) : Ex → Fr → Heap → Prop := seqK (fun fr h => ev PP true none (sub (bodyOf Tryd.f25) [1, 1, 1, 1]) (subA ref02_Put_ann [1, 1, 1, 1]) (fr.mask 128) (bodyK PP Tryd.f25 Q) h) (bodyK PP Tryd.f25 Q)
@[irreducible] def ref02_Put_K11101 (Q : Value → Heap → Prop) : Ex → Fr → Heap → Prop := blockK 0 (ref02_Put_K111 Q)
@[reducible] def ref02_Put_L111010_txt (b0 : Option Addr) (b0n : Nat) (b0c : Nat) (v1 : Int) (xn2 : Int) (out7 : Option Addr) (out7n : Nat) (out7c : Nat) (i8 : Int) (K : Ex → Fr → Heap → Prop) (h : Heap) : Prop :=
 let t19 : Bool := decide (i8 < xn2)
 br t19 (
 let t26 : Int := IntKind.i64.wrap ((b0n : Int) + i8)
 let t29 : Int := IntKind.i64.wrap (8 * i8)
 br (decide (0 ≤ t29)) (
 let t30 : Int := sShr .u64 v1 t29
 let t31 : Int := IntKind.u8.wrap t30
 hwp PP (Instr.indexAt T_sl_uint8 (.slice out7 out7n out7c) (.int .i64 t26)) (fun v h1 => ∃ (t32 : Addr), v = (.pointer (some t32)) ∧
 wr t32 (.int .u8 t31) (fun h2 =>
 let t21 : Int := IntKind.i64.wrap (i8 + 1)
 ref02_Put_L111010 b0 b0n b0c v1 xn2 out7 out7n out7c t21 K h2) h1) h) False) (
 K (.exit 0) (ref02_Put_X0 out7 out7n out7c) h)
theorem ref02_Put_L111010_eq (b0 : Option Addr) (b0n : Nat) (b0c : Nat) (v1 : Int) (xn2 : Int) (out7 : Option Addr) (out7n : Nat) (out7c : Nat) (i8 : Int) (K : Ex → Fr → Heap → Prop) (h : Heap) : ev PP true none (sub (bodyOf Tryd.f25) [1, 1, 1, 0, 1, 0, 0]) (subA ref02_Put_ann [1, 1, 1, 0, 1, 0, 0]) (mkFr 0 34 [(0, (.slice b0 b0n b0c)), (1, (.int .u64 v1)), (2, (.int .i64 xn2)), (7, (.slice out7 out7n out7c)), (8, (.int .i64 i8))]) (seqK (fun fr h => Lp PP true (sub (bodyOf Tryd.f25) [1, 1, 1, 0, 1, 0, 0]) (fr.mask 391) K h) K) h = ref02_Put_L111010_txt b0 b0n b0c v1 xn2 out7 out7n out7c i8 K h := by kernel_rfl
theorem ref02_Put_L111010_of {b0 : Option Addr} {b0n : Nat} {b0c : Nat} {v1 : Int} {xn2 : Int} {out7 : Option Addr} {out7n : Nat} {out7c : Nat} {i8 : Int} {K : Ex → Fr → Heap → Prop} {h : Heap} (H : ref02_Put_L111010_txt b0 b0n b0c v1 xn2 out7 out7n out7c i8 K h) : ref02_Put_L111010 b0 b0n b0c v1 xn2 out7 out7n out7c i8 K h := by
   unfold ref02_Put_L111010; refine Lp.of_ev (x := subA ref02_Put_ann [1, 1, 1, 0, 1, 0, 0]) (keep := 391) ?_; exact (ref02_Put_L111010_eq b0 b0n b0c v1 xn2 out7 out7n out7c i8 K h).symm ▸ H
theorem ref02_Put_at111010_X0 (Q : Value → Heap → Prop) (out7 : Option Addr) (out7n : Nat) (out7c : Nat) (h : Heap) : (ref02_Put_K11101 Q) (.exit 0) (ref02_Put_X0 out7 out7n out7c) h = (
 Q (.slice out7 out7n out7c) h) := by kernel_rfl
def ref02_Put_main (b0 : Option Addr) (b0n : Nat) (b0c : Nat) (v1 : Int) (xn2 : Int) (Q : Value → Heap → Prop) (h : Heap) : Prop :=
 let t12 : Int := IntKind.i64.wrap ((b0n : Int) + xn2)
 hwp PP (Instr.makeSlice T_sl_uint8 (.int .i64 t12) (.int .i64 t12)) (fun v h1 => ∃ (t13 : Option Addr) (t13n : Nat) (t13c : Nat), v = (.slice t13 t13n t13c) ∧
 hwp PP (Builtin.copy_ #[T_sl_uint8, T_sl_uint8] T_int #[(.slice t13 t13n t13c), (.slice b0 b0n b0c)]) (fun v_1 h2 => ∃ (t16 : Int), v_1 = (.int .i64 t16) ∧
 ref02_Put_L111010 b0 b0n b0c v1 xn2 t13 t13n t13c 0 (ref02_Put_K11101 Q) h2) h1) h
theorem ref02_Put_eq (b0 : Option Addr) (b0n : Nat) (b0c : Nat) (v1 : Int) (xn2 : Int) (Q : Value → Heap → Prop) (h : Heap) : ev PP true none (bodyOf Tryd.f25) ref02_Put_ann (initFr 34 [(.slice b0 b0n b0c), (.int .u64 v1), (.int .i64 xn2)]) (bodyK PP Tryd.f25 Q) h = ref02_Put_main b0 b0n b0c v1 xn2 Q h := by kernel_rfl
theorem ref02_Put_door {b0 : Option Addr} {b0n : Nat} {b0c : Nat} {v1 : Int} {xn2 : Int} {Q : Value → Heap → Prop} {h : Heap} (H : ref02_Put_main b0 b0n b0c v1 xn2 Q h) : SpecH PP F_ref02_Put [(.slice b0 b0n b0c), (.int .u64 v1), (.int .i64 xn2)] h Q :=
   spec_of_ev Tryd.func25 rfl rfl ((ref02_Put_eq b0 b0n b0c v1 xn2 Q h).symm ▸ H)
/-! ### haversack/haversackref02.Sum: function 26 -/
def ref02_Sum_ann : Ann := (.seq 1 (.region [(List.range 1, 1)]) (.seq 4 (.region [(List.range 3, 4)]) (.exit 4)))
def ref02_Sum_main (b0 : Option Addr) (b0n : Nat) (b0c : Nat) (Q : Value → Heap → Prop) (h : Heap) : Prop :=
 SpecH PP F_ref02_More [(.int .u32 0), (.slice b0 b0n b0c)] h (fun v h1 => ∃ (t4 : Int), v = (.int .u32 t4) ∧
 Q (.int .u32 t4) h1)
theorem ref02_Sum_eq (b0 : Option Addr) (b0n : Nat) (b0c : Nat) (Q : Value → Heap → Prop) (h : Heap) : ev PP true none (bodyOf Tryd.f26) ref02_Sum_ann (initFr 5 [(.slice b0 b0n b0c)]) (bodyK PP Tryd.f26 Q) h = ref02_Sum_main b0 b0n b0c Q h := by kernel_rfl
theorem ref02_Sum_door {b0 : Option Addr} {b0n : Nat} {b0c : Nat} {Q : Value → Heap → Prop} {h : Heap} (H : ref02_Sum_main b0 b0n b0c Q h) : SpecH PP F_ref02_Sum [(.slice b0 b0n b0c)] h Q :=
   spec_of_ev Tryd.func26 rfl rfl ((ref02_Sum_eq b0 b0n b0c Q h).symm ▸ H)
/-! ### haversack/little.Get32: function 27 -/
def little_Get32_ann : Ann := (.seq 3 (.region [(List.range 2, 3)]) (.seq 192 (.region [(List.range 8, 192)]) (.seq 48 (.region [(List.range 5, 48)]) (.exit 48))))
def little_Get32_main (b0 : Option Addr) (b0n : Nat) (b0c : Nat) (at1 : Int) (Q : Value → Heap → Prop) (h : Heap) : Prop :=
 SpecH PP F_little_get [(.slice b0 b0n b0c), (.int .i64 at1), (.int .i64 4)] h (fun v h1 => ∃ (t11 : Int) (t11_1 : Int), v = (.tuple #[(.int .u64 t11), (.int .i64 t11_1)]) ∧
 let t15 : Int := IntKind.u32.wrap t11
 Q (.tuple #[(.int .u32 t15), (.int .i64 t11_1)]) h1)
theorem little_Get32_eq (b0 : Option Addr) (b0n : Nat) (b0c : Nat) (at1 : Int) (Q : Value → Heap → Prop) (h : Heap) : ev PP true none (bodyOf Tryd.f27) little_Get32_ann (initFr 17 [(.slice b0 b0n b0c), (.int .i64 at1)]) (bodyK PP Tryd.f27 Q) h = little_Get32_main b0 b0n b0c at1 Q h := by kernel_rfl
theorem little_Get32_door {b0 : Option Addr} {b0n : Nat} {b0c : Nat} {at1 : Int} {Q : Value → Heap → Prop} {h : Heap} (H : little_Get32_main b0 b0n b0c at1 Q h) : SpecH PP F_little_Get32 [(.slice b0 b0n b0c), (.int .i64 at1)] h Q :=
   spec_of_ev Tryd.func27 rfl rfl ((little_Get32_eq b0 b0n b0c at1 Q h).symm ▸ H)
/-! ### haversack/haversackref02.Get: function 28 -/
def ref02_Get_ann : Ann := (.seq 7 (.region [(List.range 2, 7)]) (.seq 7 (.seq 33554439 (.region [(List.range 16, 33554439)]) (.join (.cond (.seq 192 (.region [(List.range 2, 192)]) (.exit 192)) .leaf))) (.seq 263 (.region [(List.range 1, 263)]) (.seq 256 (.seq 775 (.region [(List.range 1, 775)]) (.block (.loop 775 (.seq 775 (.seq 268436231 (.region [(List.range 3, 268436231)]) (.cond .leaf (.exit 256))) (.seq 775 (.block (.region [(List.range 13, 775)])) (.region [(List.range 3, 775)])))))) (.seq 192 (.region [(List.range 3, 192)]) (.exit 192))))))
@[irreducible] def ref02_Get_X0 (v8 : Int) : Fr := (mkFr 0 44 [(8, (.int .u64 v8))])
@[irreducible] def ref02_Get_K1 (Q : Value → Heap → Prop) : Ex → Fr → Heap → Prop := seqK (fun fr h => ev PP true none (sub (bodyOf Tryd.f28) [1, 1]) (subA ref02_Get_ann [1, 1]) (fr.mask 7) (bodyK PP Tryd.f28 Q) h) (bodyK PP Tryd.f28 Q)
@[irreducible] def ref02_Get_J101 (b0 : Option Addr) (b0n : Nat) (b0c : Nat) (at1 : Int) (xn2 : Int) (t25 : Bool) (Q : Value → Heap → Prop) (h : Heap) : Prop := Jn PP true (sub (bodyOf Tryd.f28) [1, 0, 1]) (mkFr 0 44 [(0, (.slice b0 b0n b0c)), (1, (.int .i64 at1)), (2, (.int .i64 xn2)), (25, (.bool t25))]) (ref02_Get_K1 Q) h
@[irreducible] def ref02_Get_K111 (Q : Value → Heap → Prop) : Ex → Fr → Heap → Prop := seqK (fun fr h => ev PP true none (sub (bodyOf Tryd.f28) [1, 1, 1, 1]) (subA ref02_Get_ann [1, 1, 1, 1]) (fr.mask 256) (bodyK PP Tryd.f28 Q) h) (bodyK PP Tryd.f28 Q)
@[irreducible] def ref02_Get_K11101 (Q : Value → Heap → Prop) : Ex → Fr → Heap → Prop := blockK 0 (ref02_Get_K111 Q)
@[irreducible] def ref02_Get_L111010 (b0 : Option Addr) (b0n : Nat) (b0c : Nat) (at1 : Int) (xn2 : Int) (v8 : Int) (i9 : Int) (K : Ex → Fr → Heap → Prop) (h : Heap) : Prop := Lp PP true (sub (bodyOf Tryd.f28) [1, 1, 1, 0, 1, 0, 0]) (mkFr 0 44 [(0, (.slice b0 b0n b0c)), (1, (.int .i64 at1)), (2, (.int .i64 xn2)), (8, (.int .u64 v8)), (9, (.int .i64 i9))]) K h
@[irreducible] def ref02_Get_B111010 (K : Ex → Fr → Heap → Prop) : Ex → Fr → Heap → Prop := seqK (fun fr h => Lp PP true (sub (bodyOf Tryd.f28) [1, 1, 1, 0, 1, 0, 0]) (fr.mask 775) K h) K
@[reducible] def ref02_Get_J101_txt (b0 : Option Addr) (b0n : Nat) (b0c : Nat) (at1 : Int) (xn2 : Int) (t25 : Bool) (Q : Value → Heap → Prop) (h : Heap) : Prop :=
 br t25 (
 Q (.tuple #[(.int .u64 0), (.int .i64 20)]) h) (
 ref02_Get_L111010 b0 b0n b0c at1 xn2 0 0 (ref02_Get_K11101 Q) h)
theorem ref02_Get_J101_eq (b0 : Option Addr) (b0n : Nat) (b0c : Nat) (at1 : Int) (xn2 : Int) (t25 : Bool) (Q : Value → Heap → Prop) (h : Heap) : ev PP true none (sub (bodyOf Tryd.f28) [1, 0, 1]) (subA ref02_Get_ann [1, 0, 1]) (mkFr 0 44 [(0, (.slice b0 b0n b0c)), (1, (.int .i64 at1)), (2, (.int .i64 xn2)), (25, (.bool t25))]) (ref02_Get_K1 Q) h = ref02_Get_J101_txt b0 b0n b0c at1 xn2 t25 Q h := by kernel_rfl
theorem ref02_Get_J101_of {b0 : Option Addr} {b0n : Nat} {b0c : Nat} {at1 : Int} {xn2 : Int} {t25 : Bool} {Q : Value → Heap → Prop} {h : Heap} (H : ref02_Get_J101_txt b0 b0n b0c at1 xn2 t25 Q h) : ref02_Get_J101 b0 b0n b0c at1 xn2 t25 Q h := by
   unfold ref02_Get_J101; refine Jn.of_ev (x := subA ref02_Get_ann [1, 0, 1]) ?_; exact (ref02_Get_J101_eq b0 b0n b0c at1 xn2 t25 Q h).symm ▸ H
@[reducible] def ref02_Get_L111010_txt (b0 : Option Addr) (b0n : Nat) (b0c : Nat) (at1 : Int) (xn2 : Int) (v8 : Int) (i9 : Int) (K : Ex → Fr → Heap → Prop) (h : Heap) : Prop :=
 let t28 : Bool := decide (i9 < xn2)
 br t28 (
 let t35 : Int := IntKind.i64.wrap (at1 + i9)
 hwp PP (Instr.indexAt T_sl_uint8 (.slice b0 b0n b0c) (.int .i64 t35)) (fun v h1 => ∃ (t36 : Addr), v = (.pointer (some t36)) ∧
 ∃ (t37 : Int), cellH h1 t36 = some (.int .u8 t37) ∧
 let t38 : Int := IntKind.u64.wrap t37
 let t40 : Int := IntKind.i64.wrap (8 * i9)
 br (decide (0 ≤ t40)) (
 let t41 : Int := sShl .u64 t38 t40
 let t42 : Int := bOr .u64 v8 t41
 let t30 : Int := IntKind.i64.wrap (i9 + 1)
 ref02_Get_L111010 b0 b0n b0c at1 xn2 t42 t30 K h1) False) h) (
 K (.exit 0) (ref02_Get_X0 v8) h)
theorem ref02_Get_L111010_eq (b0 : Option Addr) (b0n : Nat) (b0c : Nat) (at1 : Int) (xn2 : Int) (v8 : Int) (i9 : Int) (K : Ex → Fr → Heap → Prop) (h : Heap) : ev PP true none (sub (bodyOf Tryd.f28) [1, 1, 1, 0, 1, 0, 0]) (subA ref02_Get_ann [1, 1, 1, 0, 1, 0, 0]) (mkFr 0 44 [(0, (.slice b0 b0n b0c)), (1, (.int .i64 at1)), (2, (.int .i64 xn2)), (8, (.int .u64 v8)), (9, (.int .i64 i9))]) (seqK (fun fr h => Lp PP true (sub (bodyOf Tryd.f28) [1, 1, 1, 0, 1, 0, 0]) (fr.mask 775) K h) K) h = ref02_Get_L111010_txt b0 b0n b0c at1 xn2 v8 i9 K h := by kernel_rfl
theorem ref02_Get_L111010_of {b0 : Option Addr} {b0n : Nat} {b0c : Nat} {at1 : Int} {xn2 : Int} {v8 : Int} {i9 : Int} {K : Ex → Fr → Heap → Prop} {h : Heap} (H : ref02_Get_L111010_txt b0 b0n b0c at1 xn2 v8 i9 K h) : ref02_Get_L111010 b0 b0n b0c at1 xn2 v8 i9 K h := by
   unfold ref02_Get_L111010; refine Lp.of_ev (x := subA ref02_Get_ann [1, 1, 1, 0, 1, 0, 0]) (keep := 775) ?_; exact (ref02_Get_L111010_eq b0 b0n b0c at1 xn2 v8 i9 K h).symm ▸ H
theorem ref02_Get_at111010_X0 (Q : Value → Heap → Prop) (v8 : Int) (h : Heap) : (ref02_Get_K11101 Q) (.exit 0) (ref02_Get_X0 v8) h = (
 Q (.tuple #[(.int .u64 v8), (.int .i64 0)]) h) := by kernel_rfl
def ref02_Get_main (b0 : Option Addr) (b0n : Nat) (b0c : Nat) (at1 : Int) (xn2 : Int) (Q : Value → Heap → Prop) (h : Heap) : Prop :=
 let t11 : Bool := decide (at1 < 0)
 br t11 (
 ref02_Get_J101 b0 b0n b0c at1 xn2 true Q h) (
 let t16 : Bool := decide (at1 > (b0n : Int))
 br t16 (
 ref02_Get_J101 b0 b0n b0c at1 xn2 true Q h) (
 let t22 : Int := IntKind.i64.wrap ((b0n : Int) - at1)
 let t24 : Bool := decide (t22 < xn2)
 ref02_Get_J101 b0 b0n b0c at1 xn2 t24 Q h))
theorem ref02_Get_eq (b0 : Option Addr) (b0n : Nat) (b0c : Nat) (at1 : Int) (xn2 : Int) (Q : Value → Heap → Prop) (h : Heap) : ev PP true none (bodyOf Tryd.f28) ref02_Get_ann (initFr 44 [(.slice b0 b0n b0c), (.int .i64 at1), (.int .i64 xn2)]) (bodyK PP Tryd.f28 Q) h = ref02_Get_main b0 b0n b0c at1 xn2 Q h := by kernel_rfl
theorem ref02_Get_door {b0 : Option Addr} {b0n : Nat} {b0c : Nat} {at1 : Int} {xn2 : Int} {Q : Value → Heap → Prop} {h : Heap} (H : ref02_Get_main b0 b0n b0c at1 xn2 Q h) : SpecH PP F_ref02_Get [(.slice b0 b0n b0c), (.int .i64 at1), (.int .i64 xn2)] h Q :=
   spec_of_ev Tryd.func28 rfl rfl ((ref02_Get_eq b0 b0n b0c at1 xn2 Q h).symm ▸ H)
/-! ### haversack/little.put: function 29 -/
def little_put_ann : Ann := (.seq 7 (.region [(List.range 1, 7)]) (.seq 135 (.region [(List.range 8, 135)]) (.seq 134 (.region [(List.range 3, 134)]) (.seq 128 (.seq 786562 (.region [(List.range 2, 786562)]) (.block (.loop 786562 (.seq 1835138 (.region [(List.range 1, 1835138)]) (.seq 786562 (.cond .leaf (.exit 128)) (.seq 786562 (.block (.seq 786562 (.region [(List.range 6, 786562)]) (.region [(List.range 3, 786562)]))) (.region [(List.range 2, 786562)]))))))) (.seq 64 (.region [(List.range 2, 64)]) (.exit 64))))))
@[irreducible] def little_put_X0 (out7 : Option Addr) (out7n : Nat) (out7c : Nat) : Fr := (mkFr 0 30 [(7, (.slice out7 out7n out7c))])
@[irreducible] def little_put_L111010 (v1 : Int) (out7 : Option Addr) (out7n : Nat) (out7c : Nat) (t18 : Int) (t19 : Int) (K : Ex → Fr → Heap → Prop) (h : Heap) : Prop := Lp PP true (sub (bodyOf Tryd.f29) [1, 1, 1, 0, 1, 0, 0]) (mkFr 0 30 [(1, (.int .u64 v1)), (7, (.slice out7 out7n out7c)), (18, (.int .i64 t18)), (19, (.int .i64 t19))]) K h
@[irreducible] def little_put_B111010 (K : Ex → Fr → Heap → Prop) : Ex → Fr → Heap → Prop := seqK (fun fr h => Lp PP true (sub (bodyOf Tryd.f29) [1, 1, 1, 0, 1, 0, 0]) (fr.mask 786562) K h) K
@[irreducible] def little_put_K111 (Q : Value → Heap → Prop) : Ex → Fr → Heap → Prop := seqK (fun fr h => ev PP true none (sub (bodyOf Tryd.f29) [1, 1, 1, 1]) (subA little_put_ann [1, 1, 1, 1]) (fr.mask 128) (bodyK PP Tryd.f29 Q) h) (bodyK PP Tryd.f29 Q)
@[irreducible] def little_put_K11101 (Q : Value → Heap → Prop) : Ex → Fr → Heap → Prop := blockK 0 (little_put_K111 Q)
@[reducible] def little_put_L111010_txt (v1 : Int) (out7 : Option Addr) (out7n : Nat) (out7c : Nat) (t18 : Int) (t19 : Int) (K : Ex → Fr → Heap → Prop) (h : Heap) : Prop :=
 let t20 : Bool := decide (t19 < t18)
 br t20 (
 let t23 : Int := IntKind.u8.wrap v1
 let h1 : Heap := Array.push h (.cells #[(.int .u8 t23)] T_uint8 (0, 0))
 hwp PP (Builtin.append_ #[T_sl_uint8, T_sl_uint8] T_sl_uint8 #[(.slice out7 out7n out7c), (.slice (some ⟨Array.size h, 0, none⟩) 1 1)]) (fun v h2 => ∃ (t25 : Option Addr) (t25n : Nat) (t25c : Nat), v = (.slice t25 t25n t25c) ∧
 let t27 : Int := sShr .u64 v1 8
 let t28 : Int := IntKind.i64.wrap (t19 + 1)
 little_put_L111010 t27 t25 t25n t25c t18 t28 K h2) h1) (
 K (.exit 0) (little_put_X0 out7 out7n out7c) h)
theorem little_put_L111010_eq (v1 : Int) (out7 : Option Addr) (out7n : Nat) (out7c : Nat) (t18 : Int) (t19 : Int) (K : Ex → Fr → Heap → Prop) (h : Heap) : ev PP true none (sub (bodyOf Tryd.f29) [1, 1, 1, 0, 1, 0, 0]) (subA little_put_ann [1, 1, 1, 0, 1, 0, 0]) (mkFr 0 30 [(1, (.int .u64 v1)), (7, (.slice out7 out7n out7c)), (18, (.int .i64 t18)), (19, (.int .i64 t19))]) (seqK (fun fr h => Lp PP true (sub (bodyOf Tryd.f29) [1, 1, 1, 0, 1, 0, 0]) (fr.mask 786562) K h) K) h = little_put_L111010_txt v1 out7 out7n out7c t18 t19 K h := by kernel_rfl
theorem little_put_L111010_of {v1 : Int} {out7 : Option Addr} {out7n : Nat} {out7c : Nat} {t18 : Int} {t19 : Int} {K : Ex → Fr → Heap → Prop} {h : Heap} (H : little_put_L111010_txt v1 out7 out7n out7c t18 t19 K h) : little_put_L111010 v1 out7 out7n out7c t18 t19 K h := by
   unfold little_put_L111010; refine Lp.of_ev (x := subA little_put_ann [1, 1, 1, 0, 1, 0, 0]) (keep := 786562) ?_; exact (little_put_L111010_eq v1 out7 out7n out7c t18 t19 K h).symm ▸ H
theorem little_put_at111010_X0 (Q : Value → Heap → Prop) (out7 : Option Addr) (out7n : Nat) (out7c : Nat) (h : Heap) : (little_put_K11101 Q) (.exit 0) (little_put_X0 out7 out7n out7c) h = (
 Q (.slice out7 out7n out7c) h) := by kernel_rfl
def little_put_main (b0 : Option Addr) (b0n : Nat) (b0c : Nat) (v1 : Int) (xn2 : Int) (Q : Value → Heap → Prop) (h : Heap) : Prop :=
 let t13 : Int := IntKind.i64.wrap ((b0n : Int) + xn2)
 hwp PP (Instr.makeSlice T_sl_uint8 (.int .i64 (b0n : Int)) (.int .i64 t13)) (fun v h1 => ∃ (t14 : Option Addr) (t14n : Nat) (t14c : Nat), v = (.slice t14 t14n t14c) ∧
 hwp PP (Builtin.copy_ #[T_sl_uint8, T_sl_uint8] T_int #[(.slice t14 t14n t14c), (.slice b0 b0n b0c)]) (fun v_1 h2 => ∃ (t17 : Int), v_1 = (.int .i64 t17) ∧
 little_put_L111010 v1 t14 t14n t14c xn2 0 (little_put_K11101 Q) h2) h1) h
theorem little_put_eq (b0 : Option Addr) (b0n : Nat) (b0c : Nat) (v1 : Int) (xn2 : Int) (Q : Value → Heap → Prop) (h : Heap) : ev PP true none (bodyOf Tryd.f29) little_put_ann (initFr 30 [(.slice b0 b0n b0c), (.int .u64 v1), (.int .i64 xn2)]) (bodyK PP Tryd.f29 Q) h = little_put_main b0 b0n b0c v1 xn2 Q h := by kernel_rfl
theorem little_put_door {b0 : Option Addr} {b0n : Nat} {b0c : Nat} {v1 : Int} {xn2 : Int} {Q : Value → Heap → Prop} {h : Heap} (H : little_put_main b0 b0n b0c v1 xn2 Q h) : SpecH PP F_little_put [(.slice b0 b0n b0c), (.int .u64 v1), (.int .i64 xn2)] h Q :=
   spec_of_ev Tryd.func29 rfl rfl ((little_put_eq b0 b0n b0c v1 xn2 Q h).symm ▸ H)
/-! ### haversack/little.More: function 30 -/
def little_More_ann : Ann := (.seq 3 (.region [(List.range 1, 3)]) (.seq 34 (.region [(List.range 3, 34)]) (.seq 32 (.seq 7200 (.region [(List.range 3, 7200)]) (.block (.loop 7200 (.seq 15392 (.region [(List.range 1, 15392)]) (.seq 7200 (.cond .leaf (.exit 32)) (.seq 7200 (.block (.seq 7328 (.region [(List.range 3, 7328)]) (.seq 7200 (.region [(List.range 5, 7200)]) (.seq 7200 (.region [(List.range 8, 7200)]) (.region [(List.range 8, 7200)]))))) (.region [(List.range 2, 7200)]))))))) (.seq 16 (.region [(List.range 3, 16)]) (.exit 16)))))
@[irreducible] def little_More_X0 (r5 : Int) : Fr := (mkFr 0 37 [(5, (.int .u32 r5))])
@[irreducible] def little_More_L11010 (r5 : Int) (t10 : Option Addr) (t10n : Nat) (t10c : Nat) (t11 : Int) (t12 : Int) (K : Ex → Fr → Heap → Prop) (h : Heap) : Prop := Lp PP true (sub (bodyOf Tryd.f30) [1, 1, 0, 1, 0, 0]) (mkFr 0 37 [(5, (.int .u32 r5)), (10, (.slice t10 t10n t10c)), (11, (.int .i64 t11)), (12, (.int .i64 t12))]) K h
@[irreducible] def little_More_B11010 (K : Ex → Fr → Heap → Prop) : Ex → Fr → Heap → Prop := seqK (fun fr h => Lp PP true (sub (bodyOf Tryd.f30) [1, 1, 0, 1, 0, 0]) (fr.mask 7200) K h) K
@[irreducible] def little_More_K11 (Q : Value → Heap → Prop) : Ex → Fr → Heap → Prop := seqK (fun fr h => ev PP true none (sub (bodyOf Tryd.f30) [1, 1, 1]) (subA little_More_ann [1, 1, 1]) (fr.mask 32) (bodyK PP Tryd.f30 Q) h) (bodyK PP Tryd.f30 Q)
@[irreducible] def little_More_K1101 (Q : Value → Heap → Prop) : Ex → Fr → Heap → Prop := blockK 0 (little_More_K11 Q)
@[reducible] def little_More_L11010_txt (r5 : Int) (t10 : Option Addr) (t10n : Nat) (t10c : Nat) (t11 : Int) (t12 : Int) (K : Ex → Fr → Heap → Prop) (h : Heap) : Prop :=
 let t13 : Bool := decide (t12 < t11)
 br t13 (
 hwp PP (Instr.indexAt T_sl_uint8 (.slice t10 t10n t10c) (.int .i64 t12)) (fun v h1 => ∃ (t14 : Addr), v = (.pointer (some t14)) ∧
 ∃ (t15 : Int), cellH h1 t14 = some (.int .u8 t15) ∧
 let t18 : Int := IntKind.u32.wrap t15
 let t19 : Int := bXor .u32 r5 t18
 let t21 : Int := sShr .u32 t19 4
 let t23 : Int := bAnd .u32 t19 15
 hwp PP (Instr.indexAt T_16_uint32 (.pointer (some ⟨G_little_steps, 0, none⟩)) (.int .u32 t23)) (fun v_1 h2 => ∃ (t24 : Addr), v_1 = (.pointer (some t24)) ∧
 ∃ (t25 : Int), cellH h2 t24 = some (.int .u32 t25) ∧
 let t26 : Int := bXor .u32 t21 t25
 let t28 : Int := sShr .u32 t26 4
 let t30 : Int := bAnd .u32 t26 15
 hwp PP (Instr.indexAt T_16_uint32 (.pointer (some ⟨G_little_steps, 0, none⟩)) (.int .u32 t30)) (fun v_2 h3 => ∃ (t31 : Addr), v_2 = (.pointer (some t31)) ∧
 ∃ (t32 : Int), cellH h3 t31 = some (.int .u32 t32) ∧
 let t33 : Int := bXor .u32 t28 t32
 let t34 : Int := IntKind.i64.wrap (t12 + 1)
 little_More_L11010 t33 t10 t10n t10c t11 t34 K h3) h2) h1) h) (
 K (.exit 0) (little_More_X0 r5) h)
theorem little_More_L11010_eq (r5 : Int) (t10 : Option Addr) (t10n : Nat) (t10c : Nat) (t11 : Int) (t12 : Int) (K : Ex → Fr → Heap → Prop) (h : Heap) : ev PP true none (sub (bodyOf Tryd.f30) [1, 1, 0, 1, 0, 0]) (subA little_More_ann [1, 1, 0, 1, 0, 0]) (mkFr 0 37 [(5, (.int .u32 r5)), (10, (.slice t10 t10n t10c)), (11, (.int .i64 t11)), (12, (.int .i64 t12))]) (seqK (fun fr h => Lp PP true (sub (bodyOf Tryd.f30) [1, 1, 0, 1, 0, 0]) (fr.mask 7200) K h) K) h = little_More_L11010_txt r5 t10 t10n t10c t11 t12 K h := by kernel_rfl
theorem little_More_L11010_of {r5 : Int} {t10 : Option Addr} {t10n : Nat} {t10c : Nat} {t11 : Int} {t12 : Int} {K : Ex → Fr → Heap → Prop} {h : Heap} (H : little_More_L11010_txt r5 t10 t10n t10c t11 t12 K h) : little_More_L11010 r5 t10 t10n t10c t11 t12 K h := by
   unfold little_More_L11010; refine Lp.of_ev (x := subA little_More_ann [1, 1, 0, 1, 0, 0]) (keep := 7200) ?_; exact (little_More_L11010_eq r5 t10 t10n t10c t11 t12 K h).symm ▸ H
theorem little_More_at11010_X0 (Q : Value → Heap → Prop) (r5 : Int) (h : Heap) : (little_More_K1101 Q) (.exit 0) (little_More_X0 r5) h = (
 let t36 : Int := bXor .u32 IntKind.u32.max r5
 Q (.int .u32 t36) h) := by kernel_rfl
def little_More_main (sum0 : Int) (b1 : Option Addr) (b1n : Nat) (b1c : Nat) (Q : Value → Heap → Prop) (h : Heap) : Prop :=
 let t9 : Int := bXor .u32 IntKind.u32.max sum0
 little_More_L11010 t9 b1 b1n b1c (b1n : Int) 0 (little_More_K1101 Q) h
theorem little_More_eq (sum0 : Int) (b1 : Option Addr) (b1n : Nat) (b1c : Nat) (Q : Value → Heap → Prop) (h : Heap) : ev PP true none (bodyOf Tryd.f30) little_More_ann (initFr 37 [(.int .u32 sum0), (.slice b1 b1n b1c)]) (bodyK PP Tryd.f30 Q) h = little_More_main sum0 b1 b1n b1c Q h := by kernel_rfl
theorem little_More_door {sum0 : Int} {b1 : Option Addr} {b1n : Nat} {b1c : Nat} {Q : Value → Heap → Prop} {h : Heap} (H : little_More_main sum0 b1 b1n b1c Q h) : SpecH PP F_little_More [(.int .u32 sum0), (.slice b1 b1n b1c)] h Q :=
   spec_of_ev Tryd.func30 rfl rfl ((little_More_eq sum0 b1 b1n b1c Q h).symm ▸ H)
/-! ### haversack/haversackref02.More: function 31 -/
def ref02_More_ann : Ann := (.seq 3 (.region [(List.range 1, 3)]) (.seq 34 (.region [(List.range 3, 34)]) (.seq 32 (.seq 98 (.region [(List.range 1, 98)]) (.block (.loop 98 (.seq 98 (.seq 16482 (.region [(List.range 4, 16482)]) (.cond .leaf (.exit 32))) (.seq 98 (.block (.seq 98 (.region [(List.range 8, 98)]) (.seq 226 (.region [(List.range 1, 226)]) (.block (.loop 226 (.seq 226 (.seq 33554658 (.region [(List.range 2, 33554658)]) (.cond .leaf (.exit 98))) (.seq 226 (.block (.seq 482 (.region [(List.range 3, 482)]) (.seq 482 (.region [(List.range 3, 482)]) (.seq 8589934818 (.region [(List.range 2, 8589934818)]) (.cond (.region [(List.range 3, 226)]) .leaf))))) (.join (.region [(List.range 3, 226)]))))))))) (.region [(List.range 3, 98)])))))) (.seq 16 (.region [(List.range 3, 16)]) (.exit 16)))))
@[irreducible] def ref02_More_X0 (r5 : Int) : Fr := (mkFr 0 38 [(5, (.int .u32 r5))])
@[irreducible] def ref02_More_X2 (b1 : Option Addr) (b1n : Nat) (b1c : Nat) (r5 : Int) (i6 : Int) : Fr := (mkFr 0 38 [(1, (.slice b1 b1n b1c)), (5, (.int .u32 r5)), (6, (.int .i64 i6))])
@[irreducible] def ref02_More_L11010 (b1 : Option Addr) (b1n : Nat) (b1c : Nat) (r5 : Int) (i6 : Int) (K : Ex → Fr → Heap → Prop) (h : Heap) : Prop := Lp PP true (sub (bodyOf Tryd.f31) [1, 1, 0, 1, 0, 0]) (mkFr 0 38 [(1, (.slice b1 b1n b1c)), (5, (.int .u32 r5)), (6, (.int .i64 i6))]) K h
@[irreducible] def ref02_More_B11010 (K : Ex → Fr → Heap → Prop) : Ex → Fr → Heap → Prop := seqK (fun fr h => Lp PP true (sub (bodyOf Tryd.f31) [1, 1, 0, 1, 0, 0]) (fr.mask 98) K h) K
@[irreducible] def ref02_More_K11 (Q : Value → Heap → Prop) : Ex → Fr → Heap → Prop := seqK (fun fr h => ev PP true none (sub (bodyOf Tryd.f31) [1, 1, 1]) (subA ref02_More_ann [1, 1, 1]) (fr.mask 32) (bodyK PP Tryd.f31 Q) h) (bodyK PP Tryd.f31 Q)
@[irreducible] def ref02_More_K1101 (Q : Value → Heap → Prop) : Ex → Fr → Heap → Prop := blockK 0 (ref02_More_K11 Q)
@[irreducible] def ref02_More_K1101001 (K : Ex → Fr → Heap → Prop) : Ex → Fr → Heap → Prop := seqK (fun fr h => ev PP true none (sub (bodyOf Tryd.f31) [1, 1, 0, 1, 0, 0, 1, 1]) (subA ref02_More_ann [1, 1, 0, 1, 0, 0, 1, 1]) (fr.mask 98) (ref02_More_B11010 K) h) (ref02_More_B11010 K)
@[irreducible] def ref02_More_K11010010 (K : Ex → Fr → Heap → Prop) : Ex → Fr → Heap → Prop := blockK 1 (ref02_More_K1101001 K)
@[irreducible] def ref02_More_K11010010011 (K : Ex → Fr → Heap → Prop) : Ex → Fr → Heap → Prop := blockK 2 (ref02_More_K11010010 K)
@[irreducible] def ref02_More_L110100100110 (b1 : Option Addr) (b1n : Nat) (b1c : Nat) (r5 : Int) (i6 : Int) (k7 : Int) (K : Ex → Fr → Heap → Prop) (h : Heap) : Prop := Lp PP true (sub (bodyOf Tryd.f31) [1, 1, 0, 1, 0, 0, 1, 0, 0, 1, 1, 0, 0]) (mkFr 0 38 [(1, (.slice b1 b1n b1c)), (5, (.int .u32 r5)), (6, (.int .i64 i6)), (7, (.int .i64 k7))]) K h
@[irreducible] def ref02_More_B110100100110 (K : Ex → Fr → Heap → Prop) : Ex → Fr → Heap → Prop := seqK (fun fr h => Lp PP true (sub (bodyOf Tryd.f31) [1, 1, 0, 1, 0, 0, 1, 0, 0, 1, 1, 0, 0]) (fr.mask 226) K h) K
@[irreducible] def ref02_More_J110100100110011 (b1 : Option Addr) (b1n : Nat) (b1c : Nat) (r5 : Int) (i6 : Int) (k7 : Int) (K : Ex → Fr → Heap → Prop) (h : Heap) : Prop := Jn PP true (sub (bodyOf Tryd.f31) [1, 1, 0, 1, 0, 0, 1, 0, 0, 1, 1, 0, 0, 1, 1]) (mkFr 0 38 [(1, (.slice b1 b1n b1c)), (5, (.int .u32 r5)), (6, (.int .i64 i6)), (7, (.int .i64 k7))]) (ref02_More_B110100100110 K) h
@[reducible] def ref02_More_L11010_txt (b1 : Option Addr) (b1n : Nat) (b1c : Nat) (r5 : Int) (i6 : Int) (K : Ex → Fr → Heap → Prop) (h : Heap) : Prop :=
 let t14 : Bool := decide (i6 < (b1n : Int))
 br t14 (
 hwp PP (Instr.indexAt T_sl_uint8 (.slice b1 b1n b1c) (.int .i64 i6)) (fun v h1 => ∃ (t20 : Addr), v = (.pointer (some t20)) ∧
 ∃ (t21 : Int), cellH h1 t20 = some (.int .u8 t21) ∧
 let t22 : Int := IntKind.u32.wrap t21
 let t23 : Int := bXor .u32 r5 t22
 ref02_More_L110100100110 b1 b1n b1c t23 i6 0 (ref02_More_K11010010011 K) h1) h) (
 K (.exit 0) (ref02_More_X0 r5) h)
theorem ref02_More_L11010_eq (b1 : Option Addr) (b1n : Nat) (b1c : Nat) (r5 : Int) (i6 : Int) (K : Ex → Fr → Heap → Prop) (h : Heap) : ev PP true none (sub (bodyOf Tryd.f31) [1, 1, 0, 1, 0, 0]) (subA ref02_More_ann [1, 1, 0, 1, 0, 0]) (mkFr 0 38 [(1, (.slice b1 b1n b1c)), (5, (.int .u32 r5)), (6, (.int .i64 i6))]) (seqK (fun fr h => Lp PP true (sub (bodyOf Tryd.f31) [1, 1, 0, 1, 0, 0]) (fr.mask 98) K h) K) h = ref02_More_L11010_txt b1 b1n b1c r5 i6 K h := by kernel_rfl
theorem ref02_More_L11010_of {b1 : Option Addr} {b1n : Nat} {b1c : Nat} {r5 : Int} {i6 : Int} {K : Ex → Fr → Heap → Prop} {h : Heap} (H : ref02_More_L11010_txt b1 b1n b1c r5 i6 K h) : ref02_More_L11010 b1 b1n b1c r5 i6 K h := by
   unfold ref02_More_L11010; refine Lp.of_ev (x := subA ref02_More_ann [1, 1, 0, 1, 0, 0]) (keep := 98) ?_; exact (ref02_More_L11010_eq b1 b1n b1c r5 i6 K h).symm ▸ H
theorem ref02_More_at11010_X0 (Q : Value → Heap → Prop) (r5 : Int) (h : Heap) : (ref02_More_K1101 Q) (.exit 0) (ref02_More_X0 r5) h = (
 let t37 : Int := bXor .u32 IntKind.u32.max r5
 Q (.int .u32 t37) h) := by kernel_rfl
@[reducible] def ref02_More_L110100100110_txt (b1 : Option Addr) (b1n : Nat) (b1c : Nat) (r5 : Int) (i6 : Int) (k7 : Int) (K : Ex → Fr → Heap → Prop) (h : Heap) : Prop :=
 let t25 : Bool := decide (k7 < 8)
 br t25 (
 let t29 : Int := bAnd .u32 r5 1
 let t31 : Int := sShr .u32 r5 1
 let t33 : Bool := (t29 == 1)
 br t33 (
 let t35 : Int := bXor .u32 t31 3988292384
 ref02_More_J110100100110011 b1 b1n b1c t35 i6 k7 K h) (
 ref02_More_J110100100110011 b1 b1n b1c t31 i6 k7 K h)) (
 K (.exit 2) (ref02_More_X2 b1 b1n b1c r5 i6) h)
theorem ref02_More_L110100100110_eq (b1 : Option Addr) (b1n : Nat) (b1c : Nat) (r5 : Int) (i6 : Int) (k7 : Int) (K : Ex → Fr → Heap → Prop) (h : Heap) : ev PP true none (sub (bodyOf Tryd.f31) [1, 1, 0, 1, 0, 0, 1, 0, 0, 1, 1, 0, 0]) (subA ref02_More_ann [1, 1, 0, 1, 0, 0, 1, 0, 0, 1, 1, 0, 0]) (mkFr 0 38 [(1, (.slice b1 b1n b1c)), (5, (.int .u32 r5)), (6, (.int .i64 i6)), (7, (.int .i64 k7))]) (seqK (fun fr h => Lp PP true (sub (bodyOf Tryd.f31) [1, 1, 0, 1, 0, 0, 1, 0, 0, 1, 1, 0, 0]) (fr.mask 226) K h) K) h = ref02_More_L110100100110_txt b1 b1n b1c r5 i6 k7 K h := by kernel_rfl
theorem ref02_More_L110100100110_of {b1 : Option Addr} {b1n : Nat} {b1c : Nat} {r5 : Int} {i6 : Int} {k7 : Int} {K : Ex → Fr → Heap → Prop} {h : Heap} (H : ref02_More_L110100100110_txt b1 b1n b1c r5 i6 k7 K h) : ref02_More_L110100100110 b1 b1n b1c r5 i6 k7 K h := by
   unfold ref02_More_L110100100110; refine Lp.of_ev (x := subA ref02_More_ann [1, 1, 0, 1, 0, 0, 1, 0, 0, 1, 1, 0, 0]) (keep := 226) ?_; exact (ref02_More_L110100100110_eq b1 b1n b1c r5 i6 k7 K h).symm ▸ H
theorem ref02_More_at110100100110_X2 (K : Ex → Fr → Heap → Prop) (b1 : Option Addr) (b1n : Nat) (b1c : Nat) (r5 : Int) (i6 : Int) (h : Heap) : (ref02_More_K11010010011 K) (.exit 2) (ref02_More_X2 b1 b1n b1c r5 i6) h = (
 let t16 : Int := IntKind.i64.wrap (i6 + 1)
 ref02_More_L11010 b1 b1n b1c r5 t16 K h) := by kernel_rfl
@[reducible] def ref02_More_J110100100110011_txt (b1 : Option Addr) (b1n : Nat) (b1c : Nat) (r5 : Int) (i6 : Int) (k7 : Int) (K : Ex → Fr → Heap → Prop) (h : Heap) : Prop :=
 let t27 : Int := IntKind.i64.wrap (k7 + 1)
 ref02_More_L110100100110 b1 b1n b1c r5 i6 t27 K h
theorem ref02_More_J110100100110011_eq (b1 : Option Addr) (b1n : Nat) (b1c : Nat) (r5 : Int) (i6 : Int) (k7 : Int) (K : Ex → Fr → Heap → Prop) (h : Heap) : ev PP true none (sub (bodyOf Tryd.f31) [1, 1, 0, 1, 0, 0, 1, 0, 0, 1, 1, 0, 0, 1, 1]) (subA ref02_More_ann [1, 1, 0, 1, 0, 0, 1, 0, 0, 1, 1, 0, 0, 1, 1]) (mkFr 0 38 [(1, (.slice b1 b1n b1c)), (5, (.int .u32 r5)), (6, (.int .i64 i6)), (7, (.int .i64 k7))]) (ref02_More_B110100100110 K) h = ref02_More_J110100100110011_txt b1 b1n b1c r5 i6 k7 K h := by kernel_rfl
theorem ref02_More_J110100100110011_of {b1 : Option Addr} {b1n : Nat} {b1c : Nat} {r5 : Int} {i6 : Int} {k7 : Int} {K : Ex → Fr → Heap → Prop} {h : Heap} (H : ref02_More_J110100100110011_txt b1 b1n b1c r5 i6 k7 K h) : ref02_More_J110100100110011 b1 b1n b1c r5 i6 k7 K h := by
   unfold ref02_More_J110100100110011; refine Jn.of_ev (x := subA ref02_More_ann [1, 1, 0, 1, 0, 0, 1, 0, 0, 1, 1, 0, 0, 1, 1]) ?_; exact (ref02_More_J110100100110011_eq b1 b1n b1c r5 i6 k7 K h).symm ▸ H
def ref02_More_main (sum0 : Int) (b1 : Option Addr) (b1n : Nat) (b1c : Nat) (Q : Value → Heap → Prop) (h : Heap) : Prop :=
 let t10 : Int := bXor .u32 IntKind.u32.max sum0
 ref02_More_L11010 b1 b1n b1c t10 0 (ref02_More_K1101 Q) h
theorem ref02_More_eq (sum0 : Int) (b1 : Option Addr) (b1n : Nat) (b1c : Nat) (Q : Value → Heap → Prop) (h : Heap) : ev PP true none (bodyOf Tryd.f31) ref02_More_ann (initFr 38 [(.int .u32 sum0), (.slice b1 b1n b1c)]) (bodyK PP Tryd.f31 Q) h = ref02_More_main sum0 b1 b1n b1c Q h := by kernel_rfl
theorem ref02_More_door {sum0 : Int} {b1 : Option Addr} {b1n : Nat} {b1c : Nat} {Q : Value → Heap → Prop} {h : Heap} (H : ref02_More_main sum0 b1 b1n b1c Q h) : SpecH PP F_ref02_More [(.int .u32 sum0), (.slice b1 b1n b1c)] h Q :=
   spec_of_ev Tryd.func31 rfl rfl ((ref02_More_eq sum0 b1 b1n b1c Q h).symm ▸ H)
/-! ### haversack/little.get: function 32 -/
def little_get_ann : Ann := (.seq 199 (.region [(List.range 2, 199)]) (.seq 199 (.seq 1048775 (.region [(List.range 10, 1048775)]) (.join (.cond (.seq 192 (.region [(List.range 2, 192)]) (.exit 192)) .leaf))) (.seq 455 (.region [(List.range 1, 455)]) (.seq 256 (.seq 134218176 (.region [(List.range 7, 134218176)]) (.block (.range 448 (.region [(List.range 1, 1280)]) (.block (.region [(List.range 6, 0)]))))) (.seq 192 (.region [(List.range 3, 192)]) (.exit 192))))))
@[irreducible] def little_get_K1 (Q : Value → Heap → Prop) : Ex → Fr → Heap → Prop := seqK (fun fr h => ev PP true none (sub (bodyOf Tryd.f32) [1, 1]) (subA little_get_ann [1, 1]) (fr.mask 199) (bodyKR PP Tryd.f32 Q) h) (bodyKR PP Tryd.f32 Q)
@[irreducible] def little_get_J101 (b0 : Option Addr) (b0n : Nat) (b0c : Nat) (at1 : Int) (xn2 : Int) (t6 : Int) (t7 : Int) (t20 : Bool) (Q : Value → Heap → Prop) (h : Heap) : Prop := Jn PP true (sub (bodyOf Tryd.f32) [1, 0, 1]) (mkFr 0 36 [(0, (.slice b0 b0n b0c)), (1, (.int .i64 at1)), (2, (.int .i64 xn2)), (6, (.int .u64 t6)), (7, (.int .i64 t7)), (20, (.bool t20))]) (little_get_K1 Q) h
@[irreducible] def little_get_K111 (Q : Value → Heap → Prop) : Ex → Fr → Heap → Prop := seqK (fun fr h => ev PP true none (sub (bodyOf Tryd.f32) [1, 1, 1, 1]) (subA little_get_ann [1, 1, 1, 1]) (fr.mask 256) (bodyKR PP Tryd.f32 Q) h) (bodyKR PP Tryd.f32 Q)
@[irreducible] def little_get_K11101 (Q : Value → Heap → Prop) : Ex → Fr → Heap → Prop := blockK 0 (little_get_K111 Q)
@[irreducible] def little_get_R111010 (t6 : Int) (t7 : Int) (v8 : Addr) (t28 : Value) (t29 : Int) (l : Nat) (K : Value → Heap → Prop) (h : Heap) : Prop := ev PP false none (sub (bodyOf Tryd.f32) [1, 1, 1, 0, 1, 0, 0]) (subA little_get_ann [1, 1, 1, 0, 1, 0, 0]) (setAll (mkFr 0 36 [(6, (.int .u64 t6)), (7, (.int .i64 t7)), (8, (.pointer (some v8)))]) [(28, t28), (29, (.int .u8 t29))]) (roundK PP l (sub (bodyOf Tryd.f32) [1, 1, 1, 0, 1, 0, 1]) (subA little_get_ann [1, 1, 1, 0, 1, 0, 1]) 1280 K) h
@[reducible] def little_get_J101_txt (b0 : Option Addr) (b0n : Nat) (b0c : Nat) (at1 : Int) (xn2 : Int) (t6 : Int) (t7 : Int) (t20 : Bool) (Q : Value → Heap → Prop) (h : Heap) : Prop :=
 br t20 (
 ∀ h1, Takes h h1 → Q (.tuple #[(.int .u64 0), (.int .i64 20)]) h1) (
 let v8 : Addr := ⟨Array.size h, 0, none⟩
 let h2 : Heap := Array.push h (.cells #[(.int .u64 0)] T_uint64 (0, 0))
 let t25 : Int := IntKind.i64.wrap (at1 + xn2)
 hwp PP (Instr.sliceAt T_sl_uint8 (.slice b0 b0n b0c) (some (.int .i64 at1)) (some (.int .i64 t25)) none) (fun v h3 => ∃ (t26 : Option Addr) (t26n : Nat) (t26c : Nat), v = (.slice t26 t26n t26c) ∧
 SpecH PP F_slices_Backward_byte_byte [(.slice t26 t26n t26c)] h3 (fun v_1 h4 => ∃ (t27 : Value), v_1 = t27 ∧
 rangeK PP t27 #[28, 29] (sub (bodyOf Tryd.f32) [1, 1, 1, 0, 1, 0, 0]) (sub (bodyOf Tryd.f32) [1, 1, 1, 0, 1, 0, 1]) (mkFr 0 36 [(6, (.int .u64 t6)), (7, (.int .i64 t7)), (8, (.pointer (some v8)))]) (little_get_K11101 Q) h4)) h2)
theorem little_get_J101_eq (b0 : Option Addr) (b0n : Nat) (b0c : Nat) (at1 : Int) (xn2 : Int) (t6 : Int) (t7 : Int) (t20 : Bool) (Q : Value → Heap → Prop) (h : Heap) : ev PP true none (sub (bodyOf Tryd.f32) [1, 0, 1]) (subA little_get_ann [1, 0, 1]) (mkFr 0 36 [(0, (.slice b0 b0n b0c)), (1, (.int .i64 at1)), (2, (.int .i64 xn2)), (6, (.int .u64 t6)), (7, (.int .i64 t7)), (20, (.bool t20))]) (little_get_K1 Q) h = little_get_J101_txt b0 b0n b0c at1 xn2 t6 t7 t20 Q h := by kernel_rfl
theorem little_get_J101_of {b0 : Option Addr} {b0n : Nat} {b0c : Nat} {at1 : Int} {xn2 : Int} {t6 : Int} {t7 : Int} {t20 : Bool} {Q : Value → Heap → Prop} {h : Heap} (H : little_get_J101_txt b0 b0n b0c at1 xn2 t6 t7 t20 Q h) : little_get_J101 b0 b0n b0c at1 xn2 t6 t7 t20 Q h := by
   unfold little_get_J101; refine Jn.of_ev (x := subA little_get_ann [1, 0, 1]) ?_; exact (little_get_J101_eq b0 b0n b0c at1 xn2 t6 t7 t20 Q h).symm ▸ H
theorem little_get_R111010_eq (t6 : Int) (t7 : Int) (v8 : Addr) (t28 : Value) (t29 : Int) (l : Nat) (K : Value → Heap → Prop) (h : Heap) : little_get_R111010 t6 t7 v8 t28 t29 l K h = (
 ∃ xL : Loop, h[l]? = some (.loop xL) ∧ xL.state = .ready ∧
 let h1 : Heap := h.setIfInBounds l (.loop { xL with state := .busy })
 ∃ (t30 : Int), cellH h1 v8 = some (.int .u64 t30) ∧
 let t31 : Int := sShl .u64 t30 8
 let t33 : Int := IntKind.u64.wrap t29
 let t34 : Int := bOr .u64 t31 t33
 wr v8 (.int .u64 t34) (fun h2 =>
 ∃ xL_1, h2[l]? = some (.loop xL_1) ∧ K (.bool true) (h2.setIfInBounds l (endL xL_1 none))) h1) := by kernel_rfl
theorem little_get_R111010_yield {t6 : Int} {t7 : Int} {v8 : Addr} {t28 : Value} {t29 : Int} {l : Nat} {K : Value → Heap → Prop} {h : Heap} {L : Loop} (hl : h[l]? = some (.loop L)) (hp : L.params = #[28, 29]) (ha : L.assign = (sub (bodyOf Tryd.f32) [1, 1, 1, 0, 1, 0, 0])) (hb : L.body = (sub (bodyOf Tryd.f32) [1, 1, 1, 0, 1, 0, 1])) (hf : FrRel (mkFr 0 36 [(6, (.int .u64 t6)), (7, (.int .i64 t7)), (8, (.pointer (some v8)))]) L.tmps) (H : little_get_R111010 t6 t7 v8 t28 t29 l K h) : callV PP (.func (.yield l) #[] #[]) [t28, (.int .u8 t29)] K h := by
   unfold little_get_R111010 at H
   refine yield_ok (ann := subA little_get_ann [1, 1, 1, 0, 1, 0, 0]) (annB := subA little_get_ann [1, 1, 1, 0, 1, 0, 1]) (m := 1280) hl (by rw [hp]; rfl) hf ?_
   rw [ha, hb, hp]; exact H
theorem little_get_R111010_outn0 (Q : Value → Heap → Prop) (t6 : Int) (t7 : Int) (v8 : Addr) (h : Heap) : (little_get_K11101 Q) .normal (mkFr 0 36 [(6, (.int .u64 t6)), (7, (.int .i64 t7)), (8, (.pointer (some v8)))]) h = (
 ∃ (t35 : Int), cellH h v8 = some (.int .u64 t35) ∧
 ∀ h1, Takes h h1 → Q (.tuple #[(.int .u64 t35), (.int .i64 0)]) h1) := by kernel_rfl
def little_get_main (b0 : Option Addr) (b0n : Nat) (b0c : Nat) (at1 : Int) (xn2 : Int) (Q : Value → Heap → Prop) (h : Heap) : Prop :=
 let t12 : Bool := decide (at1 < 0)
 br t12 (
 little_get_J101 b0 b0n b0c at1 xn2 0 0 true Q h) (
 let t18 : Int := IntKind.i64.wrap ((b0n : Int) - xn2)
 let t19 : Bool := decide (at1 > t18)
 little_get_J101 b0 b0n b0c at1 xn2 0 0 t19 Q h)
theorem little_get_eq (b0 : Option Addr) (b0n : Nat) (b0c : Nat) (at1 : Int) (xn2 : Int) (Q : Value → Heap → Prop) (h : Heap) : ev PP true none (bodyOf Tryd.f32) little_get_ann (initFr 36 [(.slice b0 b0n b0c), (.int .i64 at1), (.int .i64 xn2)]) (bodyKR PP Tryd.f32 Q) h = little_get_main b0 b0n b0c at1 xn2 Q h := by kernel_rfl
theorem little_get_door {b0 : Option Addr} {b0n : Nat} {b0c : Nat} {at1 : Int} {xn2 : Int} {Q : Value → Heap → Prop} {h : Heap} (H : little_get_main b0 b0n b0c at1 xn2 Q h) : SpecH PP F_little_get [(.slice b0 b0n b0c), (.int .i64 at1), (.int .i64 xn2)] h Q :=
   spec_of_evR Tryd.func32 rfl ((little_get_eq b0 b0n b0c at1 xn2 Q h).symm ▸ H)
/-! ### slices.Backward[[]byte,byte]: function 33 -/
def slices_Backward_byte_byte_ann : Ann := (.seq 2 (.region [(List.range 2, 2)]) (.seq 4 (.region [(List.range 2, 4)]) (.exit 4)))
def slices_Backward_byte_byte_main (s0 : Option Addr) (s0n : Nat) (s0c : Nat) (Q : Value → Heap → Prop) (h : Heap) : Prop :=
 let s1 : Addr := ⟨Array.size h, 0, none⟩
 let h1 : Heap := Array.push h (.cells #[(.slice s0 s0n s0c)] T_sl_uint8 (0, 0))
 Q (.func (.func F_slices_Backward_byte_byte_1) #[] #[(.pointer (some s1))]) h1
theorem slices_Backward_byte_byte_eq (s0 : Option Addr) (s0n : Nat) (s0c : Nat) (Q : Value → Heap → Prop) (h : Heap) : ev PP true none (bodyOf Tryd.f33) slices_Backward_byte_byte_ann (initFr 4 [(.slice s0 s0n s0c)]) (bodyK PP Tryd.f33 Q) h = slices_Backward_byte_byte_main s0 s0n s0c Q h := by kernel_rfl
theorem slices_Backward_byte_byte_door {s0 : Option Addr} {s0n : Nat} {s0c : Nat} {Q : Value → Heap → Prop} {h : Heap} (H : slices_Backward_byte_byte_main s0 s0n s0c Q h) : SpecH PP F_slices_Backward_byte_byte [(.slice s0 s0n s0c)] h Q :=
   spec_of_ev Tryd.func33 rfl rfl ((slices_Backward_byte_byte_eq s0 s0n s0c Q h).symm ▸ H)
/-! ### slices.Backward[[]byte,byte]$1: function 34 -/
def slices_Backward_byte_byte_1_ann : Ann := (.seq 11 (.region [(List.range 4, 11)]) (.block (.loop 11 (.seq 11 (.seq 267 (.region [(List.range 2, 267)]) (.cond .leaf (.exit 0))) (.seq 11 (.block (.seq 262155 (.region [(List.range 8, 262155)]) (.cond (.exit 0) .leaf))) (.region [(List.range 3, 11)]))))))
@[irreducible] def slices_Backward_byte_byte_1_Xret  : Fr := (mkFr 0 19 [])
@[irreducible] def slices_Backward_byte_byte_1_X0  : Fr := (mkFr 0 19 [])
@[irreducible] def slices_Backward_byte_byte_1_L10 (yield0 : Value) (t1 : Addr) (i3 : Int) (K : Ex → Fr → Heap → Prop) (h : Heap) : Prop := Lp PP true (sub (bodyOf Tryd.f34) [1, 0, 0]) (mkFr 0 19 [(0, yield0), (1, (.pointer (some t1))), (3, (.int .i64 i3))]) K h
@[irreducible] def slices_Backward_byte_byte_1_B10 (K : Ex → Fr → Heap → Prop) : Ex → Fr → Heap → Prop := seqK (fun fr h => Lp PP true (sub (bodyOf Tryd.f34) [1, 0, 0]) (fr.mask 11) K h) K
@[irreducible] def slices_Backward_byte_byte_1_K1 (Q : Value → Heap → Prop) : Ex → Fr → Heap → Prop := blockK 0 (bodyK PP Tryd.f34 Q)
@[reducible] def slices_Backward_byte_byte_1_L10_txt (yield0 : Value) (t1 : Addr) (i3 : Int) (K : Ex → Fr → Heap → Prop) (h : Heap) : Prop :=
 let t8 : Bool := decide (i3 ≥ 0)
 br t8 (
 ∃ (t13 : Option Addr) (t13n : Nat) (t13c : Nat), cellH h t1 = some (.slice t13 t13n t13c) ∧
 hwp PP (Instr.indexAt T_sl_uint8 (.slice t13 t13n t13c) (.int .i64 i3)) (fun v h1 => ∃ (t15 : Addr), v = (.pointer (some t15)) ∧
 ∃ (t16 : Int), cellH h1 t15 = some (.int .u8 t16) ∧
 callV PP yield0 [(.int .i64 i3), (.int .u8 t16)] (fun v_1 h2 => ∃ (t17 : Bool), v_1 = (.bool t17) ∧
 let t18 : Bool := (!t17)
 br t18 (
 K .ret (slices_Backward_byte_byte_1_Xret) h2) (
 let t10 : Int := IntKind.i64.wrap (i3 - 1)
 slices_Backward_byte_byte_1_L10 yield0 t1 t10 K h2)) h1) h) (
 K (.exit 0) (slices_Backward_byte_byte_1_X0) h)
theorem slices_Backward_byte_byte_1_L10_eq (yield0 : Value) (t1 : Addr) (i3 : Int) (K : Ex → Fr → Heap → Prop) (h : Heap) : ev PP true none (sub (bodyOf Tryd.f34) [1, 0, 0]) (subA slices_Backward_byte_byte_1_ann [1, 0, 0]) (mkFr 0 19 [(0, yield0), (1, (.pointer (some t1))), (3, (.int .i64 i3))]) (seqK (fun fr h => Lp PP true (sub (bodyOf Tryd.f34) [1, 0, 0]) (fr.mask 11) K h) K) h = slices_Backward_byte_byte_1_L10_txt yield0 t1 i3 K h := by kernel_rfl
theorem slices_Backward_byte_byte_1_L10_of {yield0 : Value} {t1 : Addr} {i3 : Int} {K : Ex → Fr → Heap → Prop} {h : Heap} (H : slices_Backward_byte_byte_1_L10_txt yield0 t1 i3 K h) : slices_Backward_byte_byte_1_L10 yield0 t1 i3 K h := by
   unfold slices_Backward_byte_byte_1_L10; refine Lp.of_ev (x := subA slices_Backward_byte_byte_1_ann [1, 0, 0]) (keep := 11) ?_; exact (slices_Backward_byte_byte_1_L10_eq yield0 t1 i3 K h).symm ▸ H
theorem slices_Backward_byte_byte_1_at10_Xret (Q : Value → Heap → Prop)  (h : Heap) : (slices_Backward_byte_byte_1_K1 Q) .ret (slices_Backward_byte_byte_1_Xret ) h = (
 Q (.tuple #[]) h) := by kernel_rfl
theorem slices_Backward_byte_byte_1_at10_X0 (Q : Value → Heap → Prop)  (h : Heap) : (slices_Backward_byte_byte_1_K1 Q) (.exit 0) (slices_Backward_byte_byte_1_X0 ) h = (
 Q (.tuple #[]) h) := by kernel_rfl
def slices_Backward_byte_byte_1_main (yield0 : Value) (t1 : Addr) (Q : Value → Heap → Prop) (h : Heap) : Prop :=
 ∃ (t4 : Option Addr) (t4n : Nat) (t4c : Nat), cellH h t1 = some (.slice t4 t4n t4c) ∧
 let t6 : Int := IntKind.i64.wrap ((t4n : Int) - 1)
 slices_Backward_byte_byte_1_L10 yield0 t1 t6 (slices_Backward_byte_byte_1_K1 Q) h
theorem slices_Backward_byte_byte_1_eq (yield0 : Value) (t1 : Addr) (Q : Value → Heap → Prop) (h : Heap) : ev PP true none (bodyOf Tryd.f34) slices_Backward_byte_byte_1_ann (initFr 19 [yield0, (.pointer (some t1))]) (bodyK PP Tryd.f34 Q) h = slices_Backward_byte_byte_1_main yield0 t1 Q h := by kernel_rfl
theorem slices_Backward_byte_byte_1_door {yield0 : Value} {t1 : Addr} {Q : Value → Heap → Prop} {h : Heap} (H : slices_Backward_byte_byte_1_main yield0 t1 Q h) : SpecH PP F_slices_Backward_byte_byte_1 [yield0, (.pointer (some t1))] h Q :=
   spec_of_ev Tryd.func34 rfl rfl ((slices_Backward_byte_byte_1_eq yield0 t1 Q h).symm ▸ H)
end Go.Proofs.YtdjjchfhccmjgaaDoor
