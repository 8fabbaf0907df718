/- What the functions of this text come to, as predicates on heaps (printed by my own program out of the dump), each with its proof against the program. -/
import Derived.Test.YtjliiiejcalglaaDoorHwLib
import Derived.Test.YtjliiiejcalglaaDoorHwGen
import Derived.Test.YtjliiiejcalglaaDoorHwArr
import Derived.Test.YtjliiiejcalglaaDoorProg
set_option linter.unusedVariables false
set_option maxRecDepth 100000
namespace Go.Proofs.YtjliiiejcalglaaDoor
open Go Go.HW
noncomputable abbrev PP : Program := Tryd.prog
abbrev T_int : TypeId := 3
abbrev T_bool : TypeId := 4
abbrev T_uint8 : TypeId := 5
abbrev T_sl_uint8 : TypeId := 22
abbrev T_32_uint8 : TypeId := 24
abbrev T_sl_sl_uint8 : TypeId := 29
abbrev T_sl_bool : TypeId := 30
abbrev T_64_uint8 : TypeId := 38
abbrev T_uint32 : TypeId := 40
abbrev T_8_uint32 : TypeId := 41
abbrev T_uint64 : TypeId := 43
abbrev T_struct_h_8_uint32_rest_sl_uint8_n_uint64 : TypeId := 44
abbrev T_hmac_Hash : TypeId := 45
abbrev T_8_uint8 : TypeId := 46
abbrev T_64_uint32 : TypeId := 47
abbrev F_law15_HmacSums : FuncId := 3
abbrev F_law15_HmacParts : FuncId := 4
abbrev F_law15_HmacWhole : FuncId := 5
abbrev F_law15_HmacSame : FuncId := 6
abbrev F_keep_Lend : FuncId := 7
abbrev F_hmac_Sum : FuncId := 8
abbrev F_hmac_Mac : FuncId := 9
abbrev F_keep_Back : FuncId := 10
abbrev F_law15_awake : FuncId := 11
abbrev F_ref15_Sum : FuncId := 12
abbrev F_ref15_Mac : FuncId := 13
abbrev F_hmac_New : FuncId := 14
abbrev F_hmac_Hash_Write : FuncId := 15
abbrev F_hmac_Hash_Sum : FuncId := 16
abbrev F_hmac_Same : FuncId := 17
abbrev F_law15_begins : FuncId := 18
abbrev F_ref15_padded : FuncId := 19
abbrev F_ref15_block : FuncId := 20
abbrev F_hmac_Hash_block : FuncId := 21
abbrev F_ref15_schedule : FuncId := 22
abbrev F_ref15_k : FuncId := 23
abbrev F_ref15_turn : FuncId := 24
abbrev F_hmac_right : FuncId := 25
abbrev F_math_bits_RotateLeft32 : FuncId := 26
abbrev G_hmac_k : Nat := 0
theorem C_int : PP.cellsOf T_int = 1 := by kernel_rfl
theorem U_int : PP.underlying T_int = some (.int .i64) := by kernel_rfl
theorem C_bool : PP.cellsOf T_bool = 1 := by kernel_rfl
theorem U_bool : PP.underlying T_bool = some .bool := by kernel_rfl
theorem C_uint8 : PP.cellsOf T_uint8 = 1 := by kernel_rfl
theorem U_uint8 : PP.underlying T_uint8 = some (.int .u8) := by kernel_rfl
theorem C_sl_uint8 : PP.cellsOf T_sl_uint8 = 1 := by kernel_rfl
theorem E_sl_uint8 : Elem PP T_sl_uint8 T_uint8 1 1 (.int .u8 0) := Elem.of (by kernel_rfl) (by kernel_rfl)
theorem U_sl_uint8 : PP.underlying T_sl_uint8 = some (.slice T_uint8) := by kernel_rfl
theorem C_32_uint8 : PP.cellsOf T_32_uint8 = 32 := by kernel_rfl
theorem A_32_uint8 : Arr PP T_32_uint8 T_uint8 32 1 := Arr.of (by kernel_rfl) (by kernel_rfl)
theorem U_32_uint8 : PP.underlying T_32_uint8 = some (.array 32 T_uint8) := by kernel_rfl
theorem C_sl_sl_uint8 : PP.cellsOf T_sl_sl_uint8 = 1 := by kernel_rfl
theorem E_sl_sl_uint8 : Elem PP T_sl_sl_uint8 T_sl_uint8 1 24 (.slice none 0 0) := Elem.of (by kernel_rfl) (by kernel_rfl)
theorem U_sl_sl_uint8 : PP.underlying T_sl_sl_uint8 = some (.slice T_sl_uint8) := by kernel_rfl
theorem C_sl_bool : PP.cellsOf T_sl_bool = 1 := by kernel_rfl
theorem E_sl_bool : Elem PP T_sl_bool T_bool 1 1 (.bool false) := Elem.of (by kernel_rfl) (by kernel_rfl)
theorem U_sl_bool : PP.underlying T_sl_bool = some (.slice T_bool) := by kernel_rfl
theorem C_64_uint8 : PP.cellsOf T_64_uint8 = 64 := by kernel_rfl
theorem A_64_uint8 : Arr PP T_64_uint8 T_uint8 64 1 := Arr.of (by kernel_rfl) (by kernel_rfl)
theorem U_64_uint8 : PP.underlying T_64_uint8 = some (.array 64 T_uint8) := by kernel_rfl
theorem C_uint32 : PP.cellsOf T_uint32 = 1 := by kernel_rfl
theorem U_uint32 : PP.underlying T_uint32 = some (.int .u32) := by kernel_rfl
theorem C_8_uint32 : PP.cellsOf T_8_uint32 = 8 := by kernel_rfl
theorem A_8_uint32 : Arr PP T_8_uint32 T_uint32 8 1 := Arr.of (by kernel_rfl) (by kernel_rfl)
theorem U_8_uint32 : PP.underlying T_8_uint32 = some (.array 8 T_uint32) := by kernel_rfl
theorem C_uint64 : PP.cellsOf T_uint64 = 1 := by kernel_rfl
theorem U_uint64 : PP.underlying T_uint64 = some (.int .u64) := by kernel_rfl
theorem FL_struct_h_8_uint32_rest_sl_uint8_n_uint64 : fieldsOf PP T_struct_h_8_uint32_rest_sl_uint8_n_uint64 = [(T_8_uint32, 0, 8), (T_sl_uint8, 8, 1), (T_uint64, 9, 1)] := by kernel_rfl
theorem C_struct_h_8_uint32_rest_sl_uint8_n_uint64 : PP.cellsOf T_struct_h_8_uint32_rest_sl_uint8_n_uint64 = 10 := by kernel_rfl
theorem FL_hmac_Hash : fieldsOf PP T_hmac_Hash = [(T_8_uint32, 0, 8), (T_sl_uint8, 8, 1), (T_uint64, 9, 1)] := by kernel_rfl
theorem C_hmac_Hash : PP.cellsOf T_hmac_Hash = 10 := by kernel_rfl
theorem C_8_uint8 : PP.cellsOf T_8_uint8 = 8 := by kernel_rfl
theorem A_8_uint8 : Arr PP T_8_uint8 T_uint8 8 1 := Arr.of (by kernel_rfl) (by kernel_rfl)
theorem U_8_uint8 : PP.underlying T_8_uint8 = some (.array 8 T_uint8) := by kernel_rfl
theorem C_64_uint32 : PP.cellsOf T_64_uint32 = 64 := by kernel_rfl
theorem A_64_uint32 : Arr PP T_64_uint32 T_uint32 64 1 := Arr.of (by kernel_rfl) (by kernel_rfl)
theorem U_64_uint32 : PP.underlying T_64_uint32 = some (.array 64 T_uint32) := by kernel_rfl
/-! ### haversack/haversacklaw15.HmacSums: function 3 -/
namespace law15_HmacSums
def ann : Ann := (.seq 3 (.region [(List.range 1, 3)]) (.seq 3 (.seq 262147 (.region [(List.range 8, 262147)]) (.join (.cond (.seq 16 (.region [(List.range 1, 16)]) (.exit 16)) .leaf))) (.seq 35 (.region [(List.range 3, 35)]) (.seq 99 (.region [(List.range 3, 99)]) (.seq 227 (.region [(List.range 4, 227)]) (.seq 483 (.region [(List.range 5, 483)]) (.seq 963 (.region [(List.range 4, 963)]) (.seq 1923 (.region [(List.range 4, 1923)]) (.seq 16 (.tree (.run [0, 1, 2, 3, 4, 5, 6, 7, 9] (.alt 8 (.run [10, 11, 12, 13, 15, 16] (.alt 14 (.run [17, 18, 19, 20] .done) (.alt 17 (.run [14, 18, 19, 20] .done) .nil))) (.alt 10 (.run [8, 11, 12, 13, 15, 16] (.alt 14 (.run [17, 18, 19, 20] .done) (.alt 17 (.run [14, 18, 19, 20] .done) .nil))) .nil))) 16) (.exit 16))))))))))
noncomputable abbrev cd (n : Nat) : Code := sub (bodyOf Tryd.f3) (pth n)
abbrev an (n : Nat) : Ann := subA ann (pth n)
@[irreducible] def K1 (Q : VP) : EP := seqK (fun fr h => ev PP true none (cd 7) (an 7) (fr.mask 3) (bodyK PP Tryd.f3 Q) h) (bodyK PP Tryd.f3 Q)
@[irreducible] def J1 (key0 : OA) (key0n key0c : Nat) (b1 : OA) (b1n b1c : Nat) (t18 : Bool) (Q : VP) (h : Heap) : Prop := Jn PP true (cd 13) (mkFr 0 54 [(0, (.slice key0 key0n key0c)), (1, (.slice b1 b1n b1c)), (18, (.bool t18))]) (K1 Q) h
theorem J1_of {key0 : OA} {key0n key0c : Nat} {b1 : OA} {b1n b1c : Nat} {t18 : Bool} {Q : VP} {h : Heap} (H :
 br t18 (
 Q (.bool true) h) (
 SpecH PP F_keep_Lend [(.slice b1 b1n b1c)] h (fun v h1 => ∃ (t20 : OA) (t20n t20c : Nat), v = (.slice t20 t20n t20c) ∧
 SpecH PP F_keep_Lend [(.slice key0 key0n key0c)] h1 (fun v_1 h2 => ∃ (t22 : OA) (t22n t22c : Nat), v_1 = (.slice t22 t22n t22c) ∧
 SpecH PP F_hmac_Sum [(.slice t20 t20n t20c)] h2 (fun v_2 h3 => ∃ (t24 : List Value), v_2 = (.agg (t24).toArray) ∧
 let s7 : Addr := ⟨Array.size h3, 0, none⟩
 let h4 : Heap := Array.push h3 (.cells (Array.replicate 32 (.int .u8 0)) T_32_uint8 (0, 0))
 br (decide (Array.size (List.toArray t24) = 32)) (wrCells s7 0 t24 (fun h5 =>
 SpecH PP F_hmac_Mac [(.slice t22 t22n t22c), (.slice t20 t20n t20c)] h5 (fun v_3 h6 => ∃ (t27 : List Value), v_3 = (.agg (t27).toArray) ∧
 let m8 : Addr := ⟨Array.size h6, 0, none⟩
 let h7 : Heap := Array.push h6 (.cells (Array.replicate 32 (.int .u8 0)) T_32_uint8 (0, 0))
 br (decide (Array.size (List.toArray t27) = 32)) (wrCells m8 0 t27 (fun h8 =>
 SpecH PP F_keep_Back [(.slice t20 t20n t20c), (.slice b1 b1n b1c)] h8 (fun v_4 h9 => ∃ (t30 : Bool), v_4 = (.bool t30) ∧
 SpecH PP F_keep_Back [(.slice t22 t22n t22c), (.slice key0 key0n key0c)] h9 (fun v_5 h10 => ∃ (t33 : Bool), v_5 = (.bool t33) ∧
 SpecH PP F_law15_awake [] h10 (fun v_6 h11 => ∃ (t34 : Bool), v_6 = (.bool t34) ∧
 br t34 (
 br t30 (
 br t33 (
 (
 ∃ (t42_1 : List Value), List.length t42_1 = 32 ∧ rdCells h11 s7 0 t42_1 ∧
 SpecH PP F_ref15_Sum [(.slice b1 b1n b1c)] h11 (fun v_13 h18 => ∃ (t44_1 : List Value), v_13 = (.agg (t44_1).toArray) ∧
 hwp PP (do eqGuard .eql T_32_uint8 (.tmp 42) (.tmp 44) (.agg (t42_1).toArray) (.agg (t44_1).toArray); Go.binOp .eql T_32_uint8 (.agg (t42_1).toArray) (.agg (t44_1).toArray)) (fun v_14 h19 => ∃ (t45_1 : Bool), v_14 = (.bool t45_1) ∧
 br t45_1 (
 (
 ∃ (t48_3 : List Value), List.length t48_3 = 32 ∧ rdCells h19 m8 0 t48_3 ∧
 SpecH PP F_ref15_Mac [(.slice key0 key0n key0c), (.slice b1 b1n b1c)] h19 (fun v_17 h22 => ∃ (t51_3 : List Value), v_17 = (.agg (t51_3).toArray) ∧
 hwp PP (do eqGuard .eql T_32_uint8 (.tmp 48) (.tmp 51) (.agg (t48_3).toArray) (.agg (t51_3).toArray); Go.binOp .eql T_32_uint8 (.agg (t48_3).toArray) (.agg (t51_3).toArray)) (fun v_18 h23 => ∃ (t52_3 : Bool), v_18 = (.bool t52_3) ∧
 Q (.bool t52_3) h23) h22)) ∧
 (
 SpecH PP F_ref15_Mac [(.slice key0 key0n key0c), (.slice b1 b1n b1c)] h19 (fun v_15 h20 => ∃ (t51_2 : List Value), v_15 = (.agg (t51_2).toArray) ∧
 ∃ (t48_2 : List Value), List.length t48_2 = 32 ∧ rdCells h20 m8 0 t48_2 ∧
 hwp PP (do eqGuard .eql T_32_uint8 (.tmp 48) (.tmp 51) (.agg (t48_2).toArray) (.agg (t51_2).toArray); Go.binOp .eql T_32_uint8 (.agg (t48_2).toArray) (.agg (t51_2).toArray)) (fun v_16 h21 => ∃ (t52_2 : Bool), v_16 = (.bool t52_2) ∧
 Q (.bool t52_2) h21) h20)) ∧
 True) (
 (
 Q (.bool false) h19) ∧
 (
 Q (.bool false) h19) ∧
 True)) h18)) ∧
 (
 SpecH PP F_ref15_Sum [(.slice b1 b1n b1c)] h11 (fun v_7 h12 => ∃ (t44 : List Value), v_7 = (.agg (t44).toArray) ∧
 ∃ (t42 : List Value), List.length t42 = 32 ∧ rdCells h12 s7 0 t42 ∧
 hwp PP (do eqGuard .eql T_32_uint8 (.tmp 42) (.tmp 44) (.agg (t42).toArray) (.agg (t44).toArray); Go.binOp .eql T_32_uint8 (.agg (t42).toArray) (.agg (t44).toArray)) (fun v_8 h13 => ∃ (t45 : Bool), v_8 = (.bool t45) ∧
 br t45 (
 (
 ∃ (t48_1 : List Value), List.length t48_1 = 32 ∧ rdCells h13 m8 0 t48_1 ∧
 SpecH PP F_ref15_Mac [(.slice key0 key0n key0c), (.slice b1 b1n b1c)] h13 (fun v_11 h16 => ∃ (t51_1 : List Value), v_11 = (.agg (t51_1).toArray) ∧
 hwp PP (do eqGuard .eql T_32_uint8 (.tmp 48) (.tmp 51) (.agg (t48_1).toArray) (.agg (t51_1).toArray); Go.binOp .eql T_32_uint8 (.agg (t48_1).toArray) (.agg (t51_1).toArray)) (fun v_12 h17 => ∃ (t52_1 : Bool), v_12 = (.bool t52_1) ∧
 Q (.bool t52_1) h17) h16)) ∧
 (
 SpecH PP F_ref15_Mac [(.slice key0 key0n key0c), (.slice b1 b1n b1c)] h13 (fun v_9 h14 => ∃ (t51 : List Value), v_9 = (.agg (t51).toArray) ∧
 ∃ (t48 : List Value), List.length t48 = 32 ∧ rdCells h14 m8 0 t48 ∧
 hwp PP (do eqGuard .eql T_32_uint8 (.tmp 48) (.tmp 51) (.agg (t48).toArray) (.agg (t51).toArray); Go.binOp .eql T_32_uint8 (.agg (t48).toArray) (.agg (t51).toArray)) (fun v_10 h15 => ∃ (t52 : Bool), v_10 = (.bool t52) ∧
 Q (.bool t52) h15) h14)) ∧
 True) (
 (
 Q (.bool false) h13) ∧
 (
 Q (.bool false) h13) ∧
 True)) h12)) ∧
 True) (
 (
 (
 Q (.bool false) h11) ∧
 (
 Q (.bool false) h11) ∧
 True) ∧
 (
 (
 Q (.bool false) h11) ∧
 (
 Q (.bool false) h11) ∧
 True) ∧
 True)) (
 (
 (
 Q (.bool false) h11) ∧
 (
 Q (.bool false) h11) ∧
 True) ∧
 (
 (
 Q (.bool false) h11) ∧
 (
 Q (.bool false) h11) ∧
 True) ∧
 True)) (
 (
 (
 Q (.bool false) h11) ∧
 (
 Q (.bool false) h11) ∧
 True) ∧
 (
 (
 Q (.bool false) h11) ∧
 (
 Q (.bool false) h11) ∧
 True) ∧
 True))))) h7) False)) h4) False))))) : J1 key0 key0n key0c b1 b1n b1c t18 Q h := by unfold J1; exact Jn.of_txt (an 13) (by kernel_rfl) H
theorem door {key0 : OA} {key0n key0c : Nat} {b1 : OA} {b1n b1c : Nat} {Q : VP} {h : Heap} (H :
 let t13 : Bool := decide ((key0n : Int) > 262144)
 br t13 (
 J1 key0 key0n key0c b1 b1n b1c true Q h) (
 let t17 : Bool := decide ((b1n : Int) > 262144)
 J1 key0 key0n key0c b1 b1n b1c t17 Q h)) : SpecH PP F_law15_HmacSums [(.slice key0 key0n key0c), (.slice b1 b1n b1c)] h Q :=
   spec_of_txt (ann := ann) Tryd.func3 rfl rfl (by kernel_rfl) H
end law15_HmacSums
/-! ### haversack/haversacklaw15.HmacParts: function 4 -/
namespace law15_HmacParts
def ann : Ann := (.seq 3 (.region [(List.range 1, 3)]) (.seq 3 (.seq 131075 (.region [(List.range 8, 131075)]) (.join (.cond (.seq 16 (.region [(List.range 1, 16)]) (.exit 16)) .leaf))) (.seq 35 (.region [(List.range 2, 35)]) (.seq 99 (.region [(List.range 2, 99)]) (.seq 99 (.seq 33554531 (.region [(List.range 6, 33554531)]) (.join (.cond (.seq 16 (.region [(List.range 1, 16)]) (.exit 16)) .leaf))) (.seq 99 (.region [(List.range 4, 99)]) (.seq 227 (.region [(List.range 1, 227)]) (.seq 224 (.seq 483 (.region [(List.range 1, 483)]) (.block (.loop 483 (.seq 483 (.seq 8589935075 (.region [(List.range 4, 8589935075)]) (.cond .leaf (.exit 224))) (.seq 483 (.block (.seq 483 (.seq 2199023256035 (.region [(List.range 6, 2199023256035)]) (.cond (.seq 16 (.region [(List.range 1, 16)]) (.exit 16)) .leaf)) (.seq 995 (.region [(List.range 6, 995)]) (.seq 995 (.region [(List.range 3, 995)]) (.seq 483 (.seq 72057594037928419 (.region [(List.range 7, 72057594037928419)]) (.cond (.seq 16 (.region [(List.range 1, 16)]) (.exit 16)) .leaf)) (.seq 483 (.region [(List.range 7, 483)]) (.seq 604462909807314587353571 (.region [(List.range 17, 604462909807314587353571)]) (.join (.cond (.seq 16 (.region [(List.range 1, 16)]) (.exit 16)) .leaf))))))))) (.region [(List.range 3, 483)])))))) (.seq 16 (.region [(List.range 17, 16)]) (.exit 16))))))))))
noncomputable abbrev cd (n : Nat) : Code := sub (bodyOf Tryd.f4) (pth n)
abbrev an (n : Nat) : Ann := subA ann (pth n)
@[irreducible] def Xret (t4 : Bool) : Fr := (mkFr 0 96 [(4, (.bool t4))])
@[irreducible] def X0 (xh5 other6 all7 : OA) (all7n all7c : Nat) : Fr := (mkFr 0 96 [(5, (.pointer xh5)), (6, (.pointer other6)), (7, (.slice all7 all7n all7c))])
@[irreducible] def K1 (Q : VP) : EP := seqK (fun fr h => ev PP true none (cd 7) (an 7) (fr.mask 3) (bodyK PP Tryd.f4 Q) h) (bodyK PP Tryd.f4 Q)
@[irreducible] def J1 (parts0 : OA) (parts0n parts0c : Nat) (ask1 : OA) (ask1n ask1c : Nat) (t17 : Bool) (Q : VP) (h : Heap) : Prop := Jn PP true (cd 13) (mkFr 0 96 [(0, (.slice parts0 parts0n parts0c)), (1, (.slice ask1 ask1n ask1c)), (17, (.bool t17))]) (K1 Q) h
@[irreducible] def K2 (Q : VP) : EP := seqK (fun fr h => ev PP true none (cd 63) (an 63) (fr.mask 99) (bodyK PP Tryd.f4 Q) h) (bodyK PP Tryd.f4 Q)
@[irreducible] def J2 (parts0 : OA) (parts0n parts0c : Nat) (ask1 : OA) (ask1n ask1c : Nat) (xh5 other6 : OA) (t25 : Bool) (Q : VP) (h : Heap) : Prop := Jn PP true (cd 125) (mkFr 0 96 [(0, (.slice parts0 parts0n parts0c)), (1, (.slice ask1 ask1n ask1c)), (5, (.pointer xh5)), (6, (.pointer other6)), (25, (.bool t25))]) (K2 Q) h
@[irreducible] def K4 (Q : VP) : EP := seqK (fun fr h => ev PP true none (cd 511) (an 511) (fr.mask 224) (bodyK PP Tryd.f4 Q) h) (bodyK PP Tryd.f4 Q)
@[irreducible] def K3 (Q : VP) : EP := blockK 0 (K4 Q)
@[irreducible] def L1 (parts0 : OA) (parts0n parts0c : Nat) (ask1 : OA) (ask1n ask1c : Nat) (xh5 other6 all7 : OA) (all7n all7c : Nat) (i8 : Int) (K : EP) (h : Heap) : Prop := Lp PP true (cd 4084) (mkFr 0 96 [(0, (.slice parts0 parts0n parts0c)), (1, (.slice ask1 ask1n ask1c)), (5, (.pointer xh5)), (6, (.pointer other6)), (7, (.slice all7 all7n all7c)), (8, (.int .i64 i8))]) K h
@[irreducible] def B1 (K : EP) : EP := seqK (fun fr h => Lp PP true (cd 4084) (fr.mask 483) K h) K
@[irreducible] def K6 (K : EP) : EP := seqK (fun fr h => ev PP true none (cd 16339) (an 16339) (fr.mask 483) (B1 K) h) (B1 K)
@[irreducible] def K5 (K : EP) : EP := blockK 1 (K6 K)
@[irreducible] def J3 (parts0 : OA) (parts0n parts0c : Nat) (ask1 : OA) (ask1n ask1c : Nat) (xh5 other6 all7 : OA) (all7n all7c : Nat) (i8 : Int) (t79 : Bool) (K : EP) (h : Heap) : Prop := Jn PP true (cd 2091327) (mkFr 0 96 [(0, (.slice parts0 parts0n parts0c)), (1, (.slice ask1 ask1n ask1c)), (5, (.pointer xh5)), (6, (.pointer other6)), (7, (.slice all7 all7n all7c)), (8, (.int .i64 i8)), (79, (.bool t79))]) (K5 K) h
theorem J1_of {parts0 : OA} {parts0n parts0c : Nat} {ask1 : OA} {ask1n ask1c : Nat} {t17 : Bool} {Q : VP} {h : Heap} (H :
 br t17 (
 Q (.bool true) h) (
 SpecH PP F_hmac_New [] h (fun v h1 => ∃ (t18 : OA), v = (.pointer t18) ∧
 SpecH PP F_hmac_New [] h1 (fun v_1 h2 => ∃ (t19 : OA), v_1 = (.pointer t19) ∧
 let t21 : Bool := (Option.isNone t18)
 br t21 (
 J2 parts0 parts0n parts0c ask1 ask1n ask1c t18 t19 true Q h2) (
 let t24 : Bool := (Option.isNone t19)
 J2 parts0 parts0n parts0c ask1 ask1n ask1c t18 t19 t24 Q h2))))) : J1 parts0 parts0n parts0c ask1 ask1n ask1c t17 Q h := by unfold J1; exact Jn.of_txt (an 13) (by kernel_rfl) H
theorem J2_of {parts0 : OA} {parts0n parts0c : Nat} {ask1 : OA} {ask1n ask1c : Nat} {xh5 other6 : OA} {t25 : Bool} {Q : VP} {h : Heap} (H :
 br t25 (
 Q (.bool false) h) (
 let h1 : Heap := Array.push h (.cells #[(.int .u8 111), (.int .u8 116), (.int .u8 104), (.int .u8 101), (.int .u8 114)] T_uint8 (0, 0))
 hwp PP (Go.convert T_sl_uint8 T_sl_uint8 (.slice (some ⟨Array.size h, 0, none⟩) 5 5)) (fun v h2 => ∃ (t28 : OA) (t28n t28c : Nat), v = (.slice t28 t28n t28c) ∧
 SpecH PP F_hmac_Hash_Write [(.pointer other6), (.slice t28 t28n t28c)] h2 (fun v_1 h3 => v_1 = (.tuple #[]) ∧
 L1 parts0 parts0n parts0c ask1 ask1n ask1c xh5 other6 none 0 0 0 (K3 Q) h3)) h1)) : J2 parts0 parts0n parts0c ask1 ask1n ask1c xh5 other6 t25 Q h := by unfold J2; exact Jn.of_txt (an 125) (by kernel_rfl) H
theorem L1_of {parts0 : OA} {parts0n parts0c : Nat} {ask1 : OA} {ask1n ask1c : Nat} {xh5 other6 all7 : OA} {all7n all7c : Nat} {i8 : Int} {K : EP} {h : Heap} (H :
 let t33 : Bool := decide (i8 < (parts0n : Int))
 br t33 (
 hwp PP (Instr.indexAt T_sl_sl_uint8 (.slice parts0 parts0n parts0c) (.int .i64 i8)) (fun v h1 => ∃ (t38 : Addr), v = (.pointer (some t38)) ∧
 ∃ (t39 : OA) (t39n t39c : Nat), cellH h1 t38 = some (.slice t39 t39n t39c) ∧
 let t41 : Bool := decide ((t39n : Int) > 4096)
 br t41 (
 K .ret (Xret true) h1) (
 hwp PP (Instr.indexAt T_sl_sl_uint8 (.slice parts0 parts0n parts0c) (.int .i64 i8)) (fun v_1 h2 => ∃ (t44 : Addr), v_1 = (.pointer (some t44)) ∧
 ∃ (t45 : OA) (t45n t45c : Nat), cellH h2 t44 = some (.slice t45 t45n t45c) ∧
 SpecH PP F_keep_Lend [(.slice t45 t45n t45c)] h2 (fun v_2 h3 => ∃ (t46 : OA) (t46n t46c : Nat), v_2 = (.slice t46 t46n t46c) ∧
 SpecH PP F_hmac_Hash_Write [(.pointer xh5), (.slice t46 t46n t46c)] h3 (fun v_3 h4 => v_3 = (.tuple #[]) ∧
 hwp PP (Instr.indexAt T_sl_sl_uint8 (.slice parts0 parts0n parts0c) (.int .i64 i8)) (fun v_4 h5 => ∃ (t53 : Addr), v_4 = (.pointer (some t53)) ∧
 ∃ (t54 : OA) (t54n t54c : Nat), cellH h5 t53 = some (.slice t54 t54n t54c) ∧
 SpecH PP F_keep_Back [(.slice t46 t46n t46c), (.slice t54 t54n t54c)] h5 (fun v_5 h6 => ∃ (t55 : Bool), v_5 = (.bool t55) ∧
 let t56 : Bool := (!t55)
 br t56 (
 K .ret (Xret false) h6) (
 hwp PP (Instr.indexAt T_sl_sl_uint8 (.slice parts0 parts0n parts0c) (.int .i64 i8)) (fun v_6 h7 => ∃ (t60 : Addr), v_6 = (.pointer (some t60)) ∧
 ∃ (t61 : OA) (t61n t61c : Nat), cellH h7 t60 = some (.slice t61 t61n t61c) ∧
 hwp PP (Builtin.append_ #[T_sl_uint8, T_sl_uint8] T_sl_uint8 #[(.slice all7 all7n all7c), (.slice t61 t61n t61c)]) (fun v_7 h8 => ∃ (t62 : OA) (t62n t62c : Nat), v_7 = (.slice t62 t62n t62c) ∧
 let t66 : Bool := decide (i8 < (ask1n : Int))
 br t66 (
 hwp PP (Instr.indexAt T_sl_bool (.slice ask1 ask1n ask1c) (.int .i64 i8)) (fun v_8 h9 => ∃ (t70 : Addr), v_8 = (.pointer (some t70)) ∧
 ∃ (t71 : Bool), cellH h9 t70 = some (.bool t71) ∧
 br t71 (
 SpecH PP F_hmac_Hash_Sum [(.pointer xh5)] h9 (fun v_9 h10 => ∃ (t75 : List Value), v_9 = (.agg (t75).toArray) ∧
 SpecH PP F_ref15_Sum [(.slice t62 t62n t62c)] h10 (fun v_10 h11 => ∃ (t77 : List Value), v_10 = (.agg (t77).toArray) ∧
 hwp PP (do eqGuard .neq T_32_uint8 (.tmp 75) (.tmp 77) (.agg (t75).toArray) (.agg (t77).toArray); Go.binOp .neq T_32_uint8 (.agg (t75).toArray) (.agg (t77).toArray)) (fun v_11 h12 => ∃ (t78 : Bool), v_11 = (.bool t78) ∧
 J3 parts0 parts0n parts0c ask1 ask1n ask1c xh5 other6 t62 t62n t62c i8 t78 K h12) h11))) (
 J3 parts0 parts0n parts0c ask1 ask1n ask1c xh5 other6 t62 t62n t62c i8 false K h9)) h8) (
 J3 parts0 parts0n parts0c ask1 ask1n ask1c xh5 other6 t62 t62n t62c i8 false K h8)) h7) h6))) h4))) h1)) h) (
 K (.exit 0) (X0 xh5 other6 all7 all7n all7c) h)) : L1 parts0 parts0n parts0c ask1 ask1n ask1c xh5 other6 all7 all7n all7c i8 K h := by unfold L1; exact Lp.of_txt (an 4084) 483 (by kernel_rfl) H
theorem L1_Xret {Q : VP} {t4 : Bool} {h : Heap} (H :
 Q (.bool t4) h) : (K3 Q) .ret (Xret t4) h := of_eq_txt (by kernel_rfl) H
theorem J3_of {parts0 : OA} {parts0n parts0c : Nat} {ask1 : OA} {ask1n ask1c : Nat} {xh5 other6 all7 : OA} {all7n all7c : Nat} {i8 : Int} {t79 : Bool} {K : EP} {h : Heap} (H :
 br t79 (
 K .ret (Xret false) h) (
 let t35 : Int := IntKind.i64.wrap (i8 + 1)
 L1 parts0 parts0n parts0c ask1 ask1n ask1c xh5 other6 all7 all7n all7c t35 K h)) : J3 parts0 parts0n parts0c ask1 ask1n ask1c xh5 other6 all7 all7n all7c i8 t79 K h := by unfold J3; exact Jn.of_txt (an 2091327) (by kernel_rfl) H
theorem L1_X0 {Q : VP} {xh5 other6 all7 : OA} {all7n all7c : Nat} {h : Heap} (H :
 SpecH PP F_law15_awake [] h (fun v h1 => ∃ (t80 : Bool), v = (.bool t80) ∧
 br t80 (
 SpecH PP F_hmac_Hash_Sum [(.pointer xh5)] h1 (fun v_1 h2 => ∃ (t83 : List Value), v_1 = (.agg (t83).toArray) ∧
 SpecH PP F_ref15_Sum [(.slice all7 all7n all7c)] h2 (fun v_2 h3 => ∃ (t85 : List Value), v_2 = (.agg (t85).toArray) ∧
 hwp PP (do eqGuard .eql T_32_uint8 (.tmp 83) (.tmp 85) (.agg (t83).toArray) (.agg (t85).toArray); Go.binOp .eql T_32_uint8 (.agg (t83).toArray) (.agg (t85).toArray)) (fun v_3 h4 => ∃ (t86 : Bool), v_3 = (.bool t86) ∧
 br t86 (
 SpecH PP F_hmac_Hash_Sum [(.pointer other6)] h4 (fun v_4 h5 => ∃ (t90 : List Value), v_4 = (.agg (t90).toArray) ∧
 let h6 : Heap := Array.push h5 (.cells #[(.int .u8 111), (.int .u8 116), (.int .u8 104), (.int .u8 101), (.int .u8 114)] T_uint8 (0, 0))
 hwp PP (Go.convert T_sl_uint8 T_sl_uint8 (.slice (some ⟨Array.size h5, 0, none⟩) 5 5)) (fun v_5 h7 => ∃ (t92 : OA) (t92n t92c : Nat), v_5 = (.slice t92 t92n t92c) ∧
 SpecH PP F_hmac_Sum [(.slice t92 t92n t92c)] h7 (fun v_6 h8 => ∃ (t93 : List Value), v_6 = (.agg (t93).toArray) ∧
 hwp PP (do eqGuard .eql T_32_uint8 (.tmp 90) (.tmp 93) (.agg (t90).toArray) (.agg (t93).toArray); Go.binOp .eql T_32_uint8 (.agg (t90).toArray) (.agg (t93).toArray)) (fun v_7 h9 => ∃ (t94 : Bool), v_7 = (.bool t94) ∧
 Q (.bool t94) h9) h8)) h6)) (
 Q (.bool false) h4)) h3))) (
 Q (.bool false) h1))) : (K3 Q) (.exit 0) (X0 xh5 other6 all7 all7n all7c) h := of_eq_txt (by kernel_rfl) H
theorem door {parts0 : OA} {parts0n parts0c : Nat} {ask1 : OA} {ask1n ask1c : Nat} {Q : VP} {h : Heap} (H :
 let t12 : Bool := decide ((parts0n : Int) > 200)
 br t12 (
 J1 parts0 parts0n parts0c ask1 ask1n ask1c true Q h) (
 let t16 : Bool := decide ((ask1n : Int) > 1000)
 J1 parts0 parts0n parts0c ask1 ask1n ask1c t16 Q h)) : SpecH PP F_law15_HmacParts [(.slice parts0 parts0n parts0c), (.slice ask1 ask1n ask1c)] h Q :=
   spec_of_txt (ann := ann) Tryd.func4 rfl rfl (by kernel_rfl) H
end law15_HmacParts
/-! ### haversack/haversacklaw15.HmacWhole: function 5 -/
namespace law15_HmacWhole
def ann : Ann := (.seq 15 (.region [(List.range 1, 15)]) (.seq 15 (.seq 67108879 (.region [(List.range 13, 67108879)]) (.join (.cond (.seq 256 (.region [(List.range 1, 256)]) (.exit 256)) .leaf))) (.seq 527 (.region [(List.range 2, 527)]) (.seq 527 (.seq 536871439 (.region [(List.range 2, 536871439)]) (.cond (.seq 256 (.region [(List.range 1, 256)]) (.exit 256)) .leaf)) (.seq 527 (.region [(List.range 3, 527)]) (.seq 527 (.region [(List.range 3, 527)]) (.seq 1551 (.region [(List.range 1, 1551)]) (.seq 1551 (.region [(List.range 4, 1551)]) (.seq 1549 (.region [(List.range 4, 1549)]) (.seq 2573 (.region [(List.range 4, 2573)]) (.seq 13 (.seq 18014398509481997 (.tree (.run [0] (.alt 1 (.run [2, 3, 4, 6] (.alt 5 (.run [7, 8, 9, 10] .done) (.alt 7 (.run [5, 8, 9, 10] .done) .nil))) (.alt 2 (.run [1, 3, 4, 6] (.alt 5 (.run [7, 8, 9, 10] .done) (.alt 7 (.run [5, 8, 9, 10] .done) .nil))) .nil))) 18014398509481997) (.join (.cond (.seq 256 (.region [(List.range 1, 256)]) (.exit 256)) .leaf))) (.seq 4109 (.region [(List.range 1, 4109)]) (.seq 4109 (.region [(List.range 4, 4109)]) (.seq 4101 (.seq 12301 (.region [(List.range 1, 12301)]) (.block (.loop 12301 (.seq 12301 (.seq 36893488147419115533 (.region [(List.range 8, 36893488147419115533)]) (.cond .leaf (.exit 4101))) (.seq 12301 (.block (.region [(List.range 4, 12301)])) (.region [(List.range 3, 12301)])))))) (.seq 256 (.region [(List.range 11, 256)]) (.exit 256))))))))))))))))
noncomputable abbrev cd (n : Nat) : Code := sub (bodyOf Tryd.f5) (pth n)
abbrev an (n : Nat) : Ann := subA ann (pth n)
@[irreducible] def X0 (a0 : OA) (a0n a0c : Nat) (key2 : OA) (key2n key2c : Nat) (wide12 : OA) (wide12n wide12c : Nat) : Fr := (mkFr 0 81 [(0, (.slice a0 a0n a0c)), (2, (.slice key2 key2n key2c)), (12, (.slice wide12 wide12n wide12c))])
@[irreducible] def K1 (Q : VP) : EP := seqK (fun fr h => ev PP true none (cd 7) (an 7) (fr.mask 15) (bodyK PP Tryd.f5 Q) h) (bodyK PP Tryd.f5 Q)
@[irreducible] def J1 (a0 : OA) (a0n a0c : Nat) (b1 : OA) (b1n b1c : Nat) (key2 : OA) (key2n key2c : Nat) (more3 : Int) (t26 : Bool) (Q : VP) (h : Heap) : Prop := Jn PP true (cd 13) (mkFr 0 81 [(0, (.slice a0 a0n a0c)), (1, (.slice b1 b1n b1c)), (2, (.slice key2 key2n key2c)), (3, (.int .i64 more3)), (26, (.bool t26))]) (K1 Q) h
@[irreducible] def K2 (Q : VP) : EP := seqK (fun fr h => ev PP true none (cd 4095) (an 4095) (fr.mask 13) (bodyK PP Tryd.f5 Q) h) (bodyK PP Tryd.f5 Q)
@[irreducible] def J2 (a0 : OA) (a0n a0c : Nat) (key2 : OA) (key2n key2c : Nat) (more3 : Int) (t54 : Bool) (Q : VP) (h : Heap) : Prop := Jn PP true (cd 8189) (mkFr 0 81 [(0, (.slice a0 a0n a0c)), (2, (.slice key2 key2n key2c)), (3, (.int .i64 more3)), (54, (.bool t54))]) (K2 Q) h
@[irreducible] def K4 (Q : VP) : EP := seqK (fun fr h => ev PP true none (cd 32767) (an 32767) (fr.mask 4101) (bodyK PP Tryd.f5 Q) h) (bodyK PP Tryd.f5 Q)
@[irreducible] def K3 (Q : VP) : EP := blockK 0 (K4 Q)
@[irreducible] def L1 (a0 : OA) (a0n a0c : Nat) (key2 : OA) (key2n key2c : Nat) (more3 : Int) (wide12 : OA) (wide12n wide12c : Nat) (i13 : Int) (K : EP) (h : Heap) : Prop := Lp PP true (cd 262132) (mkFr 0 81 [(0, (.slice a0 a0n a0c)), (2, (.slice key2 key2n key2c)), (3, (.int .i64 more3)), (12, (.slice wide12 wide12n wide12c)), (13, (.int .i64 i13))]) K h
@[irreducible] def B1 (K : EP) : EP := seqK (fun fr h => Lp PP true (cd 262132) (fr.mask 12301) K h) K
theorem J1_of {a0 : OA} {a0n a0c : Nat} {b1 : OA} {b1n b1c : Nat} {key2 : OA} {key2n key2c : Nat} {more3 : Int} {t26 : Bool} {Q : VP} {h : Heap} (H :
 br t26 (
 Q (.bool true) h) (
 SpecH PP F_hmac_New [] h (fun v h1 => ∃ (t27 : OA), v = (.pointer t27) ∧
 let t29 : Bool := (Option.isNone t27)
 br t29 (
 Q (.bool false) h1) (
 SpecH PP F_hmac_Hash_Write [(.pointer t27), (.slice a0 a0n a0c)] h1 (fun v_1 h2 => v_1 = (.tuple #[]) ∧
 SpecH PP F_hmac_Hash_Write [(.pointer t27), (.slice b1 b1n b1c)] h2 (fun v_2 h3 => v_2 = (.tuple #[]) ∧
 hwp PP (Builtin.append_ #[T_sl_uint8, T_sl_uint8] T_sl_uint8 #[(.slice none 0 0), (.slice a0 a0n a0c)]) (fun v_3 h4 => ∃ (t38 : OA) (t38n t38c : Nat), v_3 = (.slice t38 t38n t38c) ∧
 hwp PP (Builtin.append_ #[T_sl_uint8, T_sl_uint8] T_sl_uint8 #[(.slice t38 t38n t38c), (.slice b1 b1n b1c)]) (fun v_4 h5 => ∃ (t41 : OA) (t41n t41c : Nat), v_4 = (.slice t41 t41n t41c) ∧
 SpecH PP F_hmac_Sum [(.slice t41 t41n t41c)] h5 (fun v_5 h6 => ∃ (t43 : List Value), v_5 = (.agg (t43).toArray) ∧
 let whole11 : Addr := ⟨Array.size h6, 0, none⟩
 let h7 : Heap := Array.push h6 (.cells (Array.replicate 32 (.int .u8 0)) T_32_uint8 (0, 0))
 br (decide (Array.size (List.toArray t43) = 32)) (wrCells whole11 0 t43 (fun h8 =>
 (
 SpecH PP F_hmac_Hash_Sum [(.pointer t27)] h8 (fun v_12 h15 => ∃ (t45_1 : List Value), v_12 = (.agg (t45_1).toArray) ∧
 ∃ (t46_1 : List Value), List.length t46_1 = 32 ∧ rdCells h15 whole11 0 t46_1 ∧
 hwp PP (do eqGuard .neq T_32_uint8 (.tmp 45) (.tmp 46) (.agg (t45_1).toArray) (.agg (t46_1).toArray); Go.binOp .neq T_32_uint8 (.agg (t45_1).toArray) (.agg (t46_1).toArray)) (fun v_13 h16 => ∃ (t47_1 : Bool), v_13 = (.bool t47_1) ∧
 br t47_1 (
 (
 J2 a0 a0n a0c key2 key2n key2c more3 true Q h16) ∧
 (
 J2 a0 a0n a0c key2 key2n key2c more3 true Q h16) ∧
 True) (
 (
 ∃ (t49_3 : List Value), List.length t49_3 = 32 ∧ rdCells h16 whole11 0 t49_3 ∧
 SpecH PP F_hmac_Hash_Sum [(.pointer t27)] h16 (fun v_16 h19 => ∃ (t51_3 : List Value), v_16 = (.agg (t51_3).toArray) ∧
 SpecH PP F_hmac_Same [(.agg (t49_3).toArray), (.agg (t51_3).toArray)] h19 (fun v_17 h20 => ∃ (t52_3 : Bool), v_17 = (.bool t52_3) ∧
 let t53_3 : Bool := (!t52_3)
 J2 a0 a0n a0c key2 key2n key2c more3 t53_3 Q h20))) ∧
 (
 SpecH PP F_hmac_Hash_Sum [(.pointer t27)] h16 (fun v_14 h17 => ∃ (t51_2 : List Value), v_14 = (.agg (t51_2).toArray) ∧
 ∃ (t49_2 : List Value), List.length t49_2 = 32 ∧ rdCells h17 whole11 0 t49_2 ∧
 SpecH PP F_hmac_Same [(.agg (t49_2).toArray), (.agg (t51_2).toArray)] h17 (fun v_15 h18 => ∃ (t52_2 : Bool), v_15 = (.bool t52_2) ∧
 let t53_2 : Bool := (!t52_2)
 J2 a0 a0n a0c key2 key2n key2c more3 t53_2 Q h18))) ∧
 True)) h15)) ∧
 (
 ∃ (t46 : List Value), List.length t46 = 32 ∧ rdCells h8 whole11 0 t46 ∧
 SpecH PP F_hmac_Hash_Sum [(.pointer t27)] h8 (fun v_6 h9 => ∃ (t45 : List Value), v_6 = (.agg (t45).toArray) ∧
 hwp PP (do eqGuard .neq T_32_uint8 (.tmp 45) (.tmp 46) (.agg (t45).toArray) (.agg (t46).toArray); Go.binOp .neq T_32_uint8 (.agg (t45).toArray) (.agg (t46).toArray)) (fun v_7 h10 => ∃ (t47 : Bool), v_7 = (.bool t47) ∧
 br t47 (
 (
 J2 a0 a0n a0c key2 key2n key2c more3 true Q h10) ∧
 (
 J2 a0 a0n a0c key2 key2n key2c more3 true Q h10) ∧
 True) (
 (
 ∃ (t49_1 : List Value), List.length t49_1 = 32 ∧ rdCells h10 whole11 0 t49_1 ∧
 SpecH PP F_hmac_Hash_Sum [(.pointer t27)] h10 (fun v_10 h13 => ∃ (t51_1 : List Value), v_10 = (.agg (t51_1).toArray) ∧
 SpecH PP F_hmac_Same [(.agg (t49_1).toArray), (.agg (t51_1).toArray)] h13 (fun v_11 h14 => ∃ (t52_1 : Bool), v_11 = (.bool t52_1) ∧
 let t53_1 : Bool := (!t52_1)
 J2 a0 a0n a0c key2 key2n key2c more3 t53_1 Q h14))) ∧
 (
 SpecH PP F_hmac_Hash_Sum [(.pointer t27)] h10 (fun v_8 h11 => ∃ (t51 : List Value), v_8 = (.agg (t51).toArray) ∧
 ∃ (t49 : List Value), List.length t49 = 32 ∧ rdCells h11 whole11 0 t49 ∧
 SpecH PP F_hmac_Same [(.agg (t49).toArray), (.agg (t51).toArray)] h11 (fun v_9 h12 => ∃ (t52 : Bool), v_9 = (.bool t52) ∧
 let t53 : Bool := (!t52)
 J2 a0 a0n a0c key2 key2n key2c more3 t53 Q h12))) ∧
 True)) h9)) ∧
 True) h7) False)) h4) h3)))))) : J1 a0 a0n a0c b1 b1n b1c key2 key2n key2c more3 t26 Q h := by unfold J1; exact Jn.of_txt (an 13) (by kernel_rfl) H
theorem J2_of {a0 : OA} {a0n a0c : Nat} {key2 : OA} {key2n key2c : Nat} {more3 : Int} {t54 : Bool} {Q : VP} {h : Heap} (H :
 br t54 (
 Q (.bool false) h) (
 hwp PP (Builtin.append_ #[T_sl_uint8, T_sl_uint8] T_sl_uint8 #[(.slice none 0 0), (.slice key2 key2n key2c)]) (fun v h1 => ∃ (t57 : OA) (t57n t57c : Nat), v = (.slice t57 t57n t57c) ∧
 L1 a0 a0n a0c key2 key2n key2c more3 t57 t57n t57c 0 (K3 Q) h1) h)) : J2 a0 a0n a0c key2 key2n key2c more3 t54 Q h := by unfold J2; exact Jn.of_txt (an 8189) (by kernel_rfl) H
theorem L1_of {a0 : OA} {a0n a0c : Nat} {key2 : OA} {key2n key2c : Nat} {more3 : Int} {wide12 : OA} {wide12n wide12c : Nat} {i13 : Int} {K : EP} {h : Heap} (H :
 let t60 : Bool := decide (i13 < more3)
 br t60 (
 let t64 : Bool := decide ((wide12n : Int) < 64)
 br t64 (
 let h1 : Heap := Array.push h (.cells #[(.int .u8 0)] T_uint8 (0, 0))
 hwp PP (Builtin.append_ #[T_sl_uint8, T_sl_uint8] T_sl_uint8 #[(.slice wide12 wide12n wide12c), (.slice (some ⟨Array.size h, 0, none⟩) 1 1)]) (fun v h2 => ∃ (t70 : OA) (t70n t70c : Nat), v = (.slice t70 t70n t70c) ∧
 let t67 : Int := IntKind.i64.wrap (i13 + 1)
 L1 a0 a0n a0c key2 key2n key2c more3 t70 t70n t70c t67 K h2) h1) (
 K (.exit 0) (X0 a0 a0n a0c key2 key2n key2c wide12 wide12n wide12c) h)) (
 K (.exit 0) (X0 a0 a0n a0c key2 key2n key2c wide12 wide12n wide12c) h)) : L1 a0 a0n a0c key2 key2n key2c more3 wide12 wide12n wide12c i13 K h := by unfold L1; exact Lp.of_txt (an 262132) 12301 (by kernel_rfl) H
theorem L1_X0 {Q : VP} {a0 : OA} {a0n a0c : Nat} {key2 : OA} {key2n key2c : Nat} {wide12 : OA} {wide12n wide12c : Nat} {h : Heap} (H :
 SpecH PP F_law15_awake [] h (fun v h1 => ∃ (t71 : Bool), v = (.bool t71) ∧
 br t71 (
 SpecH PP F_hmac_Mac [(.slice wide12 wide12n wide12c), (.slice a0 a0n a0c)] h1 (fun v_1 h2 => ∃ (t75 : List Value), v_1 = (.agg (t75).toArray) ∧
 SpecH PP F_hmac_Mac [(.slice key2 key2n key2c), (.slice a0 a0n a0c)] h2 (fun v_2 h3 => ∃ (t78 : List Value), v_2 = (.agg (t78).toArray) ∧
 hwp PP (do eqGuard .eql T_32_uint8 (.tmp 75) (.tmp 78) (.agg (t75).toArray) (.agg (t78).toArray); Go.binOp .eql T_32_uint8 (.agg (t75).toArray) (.agg (t78).toArray)) (fun v_3 h4 => ∃ (t79 : Bool), v_3 = (.bool t79) ∧
 Q (.bool t79) h4) h3))) (
 Q (.bool false) h1))) : (K3 Q) (.exit 0) (X0 a0 a0n a0c key2 key2n key2c wide12 wide12n wide12c) h := of_eq_txt (by kernel_rfl) H
theorem door {a0 : OA} {a0n a0c : Nat} {b1 : OA} {b1n b1c : Nat} {key2 : OA} {key2n key2c : Nat} {more3 : Int} {Q : VP} {h : Heap} (H :
 let t16 : Bool := decide ((a0n : Int) > 262144)
 br t16 (
 J1 a0 a0n a0c b1 b1n b1c key2 key2n key2c more3 true Q h) (
 let t20 : Bool := decide ((b1n : Int) > 262144)
 br t20 (
 J1 a0 a0n a0c b1 b1n b1c key2 key2n key2c more3 true Q h) (
 let t25 : Bool := decide ((key2n : Int) > 262144)
 J1 a0 a0n a0c b1 b1n b1c key2 key2n key2c more3 t25 Q h))) : SpecH PP F_law15_HmacWhole [(.slice a0 a0n a0c), (.slice b1 b1n b1c), (.slice key2 key2n key2c), (.int .i64 more3)] h Q :=
   spec_of_txt (ann := ann) Tryd.func5 rfl rfl (by kernel_rfl) H
end law15_HmacWhole
/-! ### haversack/haversacklaw15.HmacSame: function 6 -/
namespace law15_HmacSame
def ann : Ann := (.seq 12 (.region [(List.range 3, 12)]) (.seq 44 (.region [(List.range 1, 44)]) (.seq 44 (.region [(List.range 3, 44)]) (.seq 108 (.region [(List.range 1, 108)]) (.seq 108 (.seq 236 (.region [(List.range 1, 236)]) (.block (.loop 236 (.seq 236 (.seq 4332 (.region [(List.range 2, 4332)]) (.cond .leaf (.exit 108))) (.seq 236 (.block (.region [(List.range 11, 236)])) (.join (.region [(List.range 3, 236)]))))))) (.seq 16 (.region [(List.range 20, 16)]) (.exit 16)))))))
noncomputable abbrev cd (n : Nat) : Code := sub (bodyOf Tryd.f6) (pth n)
abbrev an (n : Nat) : Ann := subA ann (pth n)
@[irreducible] def X0 (a2 b3 : Addr) (xh5 : OA) (same6 : Bool) : Fr := (mkFr 0 44 [(2, (.pointer (some a2))), (3, (.pointer (some b3))), (5, (.pointer xh5)), (6, (.bool same6))])
@[irreducible] def L1 (a2 b3 : Addr) (xh5 : OA) (same6 : Bool) (i7 : Int) (K : EP) (h : Heap) : Prop := Lp PP true (cd 500) (mkFr 0 44 [(2, (.pointer (some a2))), (3, (.pointer (some b3))), (5, (.pointer xh5)), (6, (.bool same6)), (7, (.int .i64 i7))]) K h
@[irreducible] def B1 (K : EP) : EP := seqK (fun fr h => Lp PP true (cd 500) (fr.mask 236) K h) K
@[irreducible] def J1 (a2 b3 : Addr) (xh5 : OA) (same6 : Bool) (i7 : Int) (K : EP) (h : Heap) : Prop := Jn PP true (cd 2003) (mkFr 0 44 [(2, (.pointer (some a2))), (3, (.pointer (some b3))), (5, (.pointer xh5)), (6, (.bool same6)), (7, (.int .i64 i7))]) (B1 K) h
@[irreducible] def K2 (Q : VP) : EP := seqK (fun fr h => ev PP true none (cd 63) (an 63) (fr.mask 108) (bodyK PP Tryd.f6 Q) h) (bodyK PP Tryd.f6 Q)
@[irreducible] def K1 (Q : VP) : EP := blockK 0 (K2 Q)
theorem L1_of {a2 b3 : Addr} {xh5 : OA} {same6 : Bool} {i7 : Int} {K : EP} {h : Heap} (H :
 let t12 : Bool := decide (i7 < 32)
 br t12 (
 br same6 (
 hwp PP (Instr.indexAt T_32_uint8 (.pointer (some a2)) (.int .i64 i7)) (fun v h1 => ∃ (t18 : Addr), v = (.pointer (some t18)) ∧
 ∃ (t19 : Int), cellH h1 t18 = some (.int .u8 t19) ∧
 hwp PP (Instr.indexAt T_32_uint8 (.pointer (some b3)) (.int .i64 i7)) (fun v_1 h2 => ∃ (t21 : Addr), v_1 = (.pointer (some t21)) ∧
 ∃ (t22 : Int), cellH h2 t21 = some (.int .u8 t22) ∧
 let t23 : Bool := (t19 == t22)
 J1 a2 b3 xh5 t23 i7 K h2) h1) h) (
 J1 a2 b3 xh5 false i7 K h)) (
 K (.exit 0) (X0 a2 b3 xh5 same6) h)) : L1 a2 b3 xh5 same6 i7 K h := by unfold L1; exact Lp.of_txt (an 500) 236 (by kernel_rfl) H
theorem L1_X0 {Q : VP} {a2 b3 : Addr} {xh5 : OA} {same6 : Bool} {h : Heap} (H :
 SpecH PP F_law15_awake [] h (fun v h1 => ∃ (t25 : Bool), v = (.bool t25) ∧
 br t25 (
 ∃ (t27 : List Value), List.length t27 = 32 ∧ rdCells h1 a2 0 t27 ∧
 ∃ (t28 : List Value), List.length t28 = 32 ∧ rdCells h1 b3 0 t28 ∧
 SpecH PP F_hmac_Same [(.agg (t27).toArray), (.agg (t28).toArray)] h1 (fun v_1 h2 => ∃ (t29 : Bool), v_1 = (.bool t29) ∧
 let t31 : Bool := (t29 == same6)
 br t31 (
 ∃ (t34 : List Value), List.length t34 = 32 ∧ rdCells h2 a2 0 t34 ∧
 ∃ (t35 : List Value), List.length t35 = 32 ∧ rdCells h2 a2 0 t35 ∧
 SpecH PP F_hmac_Same [(.agg (t34).toArray), (.agg (t35).toArray)] h2 (fun v_2 h3 => ∃ (t36 : Bool), v_2 = (.bool t36) ∧
 br t36 (
 SpecH PP F_hmac_Hash_Sum [(.pointer xh5)] h3 (fun v_3 h4 => ∃ (t40 : List Value), v_3 = (.agg (t40).toArray) ∧
 hwp PP (do eqGuard .eql T_32_uint8 (.tmp 40) (.tmp 41) (.agg (t40).toArray) (.agg ([(.int .u8 0), (.int .u8 0), (.int .u8 0), (.int .u8 0), (.int .u8 0), (.int .u8 0), (.int .u8 0), (.int .u8 0), (.int .u8 0), (.int .u8 0), (.int .u8 0), (.int .u8 0), (.int .u8 0), (.int .u8 0), (.int .u8 0), (.int .u8 0), (.int .u8 0), (.int .u8 0), (.int .u8 0), (.int .u8 0), (.int .u8 0), (.int .u8 0), (.int .u8 0), (.int .u8 0), (.int .u8 0), (.int .u8 0), (.int .u8 0), (.int .u8 0), (.int .u8 0), (.int .u8 0), (.int .u8 0), (.int .u8 0)]).toArray); Go.binOp .eql T_32_uint8 (.agg (t40).toArray) (.agg ([(.int .u8 0), (.int .u8 0), (.int .u8 0), (.int .u8 0), (.int .u8 0), (.int .u8 0), (.int .u8 0), (.int .u8 0), (.int .u8 0), (.int .u8 0), (.int .u8 0), (.int .u8 0), (.int .u8 0), (.int .u8 0), (.int .u8 0), (.int .u8 0), (.int .u8 0), (.int .u8 0), (.int .u8 0), (.int .u8 0), (.int .u8 0), (.int .u8 0), (.int .u8 0), (.int .u8 0), (.int .u8 0), (.int .u8 0), (.int .u8 0), (.int .u8 0), (.int .u8 0), (.int .u8 0), (.int .u8 0), (.int .u8 0)]).toArray)) (fun v_4 h5 => ∃ (t42 : Bool), v_4 = (.bool t42) ∧
 Q (.bool t42) h5) h4)) (
 Q (.bool false) h3))) (
 Q (.bool false) h2))) (
 Q (.bool false) h1))) : (K1 Q) (.exit 0) (X0 a2 b3 xh5 same6) h := of_eq_txt (by kernel_rfl) H
theorem J1_of {a2 b3 : Addr} {xh5 : OA} {same6 : Bool} {i7 : Int} {K : EP} {h : Heap} (H :
 let t14 : Int := IntKind.i64.wrap (i7 + 1)
 L1 a2 b3 xh5 same6 t14 K h) : J1 a2 b3 xh5 same6 i7 K h := by unfold J1; exact Jn.of_txt (an 2003) (by kernel_rfl) H
theorem door {a0 b1 : List Value} {Q : VP} {h : Heap} (H :
 let a2 : Addr := ⟨Array.size h, 0, none⟩
 let h1 : Heap := Array.push h (.cells (a0).toArray T_32_uint8 (0, 0))
 let b3 : Addr := ⟨Array.size h1, 0, none⟩
 let h2 : Heap := Array.push h1 (.cells (b1).toArray T_32_uint8 (0, 0))
 hwp PP (Instr.sliceAt T_32_uint8 (.pointer (some a2)) none none none) (fun v h3 => ∃ (t9 : OA) (t9n t9c : Nat), v = (.slice t9 t9n t9c) ∧
 SpecH PP F_hmac_Hash_Write [(.pointer none), (.slice t9 t9n t9c)] h3 (fun v_1 h4 => v_1 = (.tuple #[]) ∧
 L1 a2 b3 none true 0 (K1 Q) h4)) h2) : SpecH PP F_law15_HmacSame [(.agg (a0).toArray), (.agg (b1).toArray)] h Q :=
   spec_of_txt (ann := ann) Tryd.func6 rfl rfl (by kernel_rfl) H
end law15_HmacSame
/-! ### haversack/haversackkeep.Lend: function 7 -/
namespace keep_Lend
def ann : Ann := (.seq 1 (.region [(List.range 1, 1)]) (.seq 9 (.region [(List.range 5, 9)]) (.seq 9 (.region [(List.range 3, 9)]) (.seq 9 (.region [(List.range 5, 9)]) (.seq 9 (.region [(List.range 6, 9)]) (.seq 4 (.region [(List.range 5, 4)]) (.exit 4)))))))
noncomputable abbrev cd (n : Nat) : Code := sub (bodyOf Tryd.f7) (pth n)
abbrev an (n : Nat) : Ann := subA ann (pth n)
theorem door {b0 : OA} {b0n b0c : Nat} {Q : VP} {h : Heap} (H :
 let t6 : Int := IntKind.i64.wrap ((b0n : Int) + 2)
 hwp PP (Instr.makeSlice T_sl_uint8 (.int .i64 t6) (.int .i64 t6)) (fun v h1 => ∃ (t7 : OA) (t7n t7c : Nat), v = (.slice t7 t7n t7c) ∧
 hwp PP (Builtin.copy_ #[T_sl_uint8, T_sl_uint8] T_int #[(.slice t7 t7n t7c), (.slice b0 b0n b0c)]) (fun v_1 h2 => ∃ (t10 : Int), v_1 = (.int .i64 t10) ∧
 hwp PP (Instr.indexAt T_sl_uint8 (.slice t7 t7n t7c) (.int .i64 (b0n : Int))) (fun v_2 h3 => ∃ (t14 : Addr), v_2 = (.pointer (some t14)) ∧
 wr t14 (.int .u8 165) (fun h4 =>
 let t18 : Int := IntKind.i64.wrap ((b0n : Int) + 1)
 hwp PP (Instr.indexAt T_sl_uint8 (.slice t7 t7n t7c) (.int .i64 t18)) (fun v_3 h5 => ∃ (t19 : Addr), v_3 = (.pointer (some t19)) ∧
 wr t19 (.int .u8 90) (fun h6 =>
 hwp PP (Instr.sliceAt T_sl_uint8 (.slice t7 t7n t7c) none (some (.int .i64 (b0n : Int))) none) (fun v_4 h7 => ∃ (t23 : OA) (t23n t23c : Nat), v_4 = (.slice t23 t23n t23c) ∧
 Q (.slice t23 t23n t23c) h7) h6) h5) h4) h3) h2) h1) h) : SpecH PP F_keep_Lend [(.slice b0 b0n b0c)] h Q :=
   spec_of_txt (ann := ann) Tryd.func7 rfl rfl (by kernel_rfl) H
end keep_Lend
/-! ### haversack/hmac.Sum: function 8 -/
namespace hmac_Sum
def ann : Ann := (.seq 5 (.region [(List.range 1, 5)]) (.seq 13 (.region [(List.range 2, 13)]) (.seq 12 (.region [(List.range 3, 12)]) (.seq 4 (.region [(List.range 3, 4)]) (.exit 4)))))
noncomputable abbrev cd (n : Nat) : Code := sub (bodyOf Tryd.f8) (pth n)
abbrev an (n : Nat) : Ann := subA ann (pth n)
theorem door {b0 : OA} {b0n b0c : Nat} {Q : VP} {h : Heap} (H :
 let t2 : Addr := ⟨Array.size h, 0, none⟩
 let h1 : Heap := Array.push h (.cells (Array.replicate 32 (.int .u8 0)) T_32_uint8 (0, 0))
 SpecH PP F_hmac_New [] h1 (fun v h2 => ∃ (t4 : OA), v = (.pointer t4) ∧
 SpecH PP F_hmac_Hash_Write [(.pointer t4), (.slice b0 b0n b0c)] h2 (fun v_1 h3 => v_1 = (.tuple #[]) ∧
 SpecH PP F_hmac_Hash_Sum [(.pointer t4)] h3 (fun v_2 h4 => ∃ (t9 : List Value), v_2 = (.agg (t9).toArray) ∧
 br (decide (Array.size (List.toArray t9) = 32)) (wrCells t2 0 t9 (fun h5 =>
 ∃ (t2_1 : List Value), List.length t2_1 = 32 ∧ rdCells h5 t2 0 t2_1 ∧
 Q (.agg (t2_1).toArray) h5) h4) False)))) : SpecH PP F_hmac_Sum [(.slice b0 b0n b0c)] h Q :=
   spec_of_txt (ann := ann) Tryd.func8 rfl rfl (by kernel_rfl) H
end hmac_Sum
/-! ### haversack/hmac.Mac: function 9 -/
namespace hmac_Mac
def ann : Ann := (.seq 19 (.region [(List.range 1, 19)]) (.seq 51 (.region [(List.range 1, 51)]) (.seq 51 (.seq 16435 (.region [(List.range 3, 16435)]) (.cond (.seq 114 (.region [(List.range 4, 114)]) (.region [(List.range 2, 51)])) .leaf)) (.join (.seq 50 (.region [(List.range 3, 50)]) (.seq 434 (.region [(List.range 4, 434)]) (.seq 402 (.seq 25166226 (.region [(List.range 2, 25166226)]) (.block (.loop 25166226 (.seq 58720658 (.region [(List.range 1, 58720658)]) (.seq 25166226 (.cond .leaf (.exit 402)) (.seq 25166226 (.block (.seq 25167250 (.region [(List.range 2, 25167250)]) (.seq 25167250 (.region [(List.range 5, 25167250)]) (.region [(List.range 5, 25166226)])))) (.region [(List.range 2, 25166226)]))))))) (.seq 400 (.region [(List.range 3, 400)]) (.seq 2320 (.region [(List.range 4, 2320)]) (.seq 272 (.region [(List.range 3, 272)]) (.seq 16 (.region [(List.range 3, 16)]) (.exit 16))))))))))))
noncomputable abbrev cd (n : Nat) : Code := sub (bodyOf Tryd.f9) (pth n)
abbrev an (n : Nat) : Ann := subA ann (pth n)
@[irreducible] def X0 (b1 : OA) (b1n b1c : Nat) (t4 : Addr) (in7 out8 : OA) : Fr := (mkFr 0 48 [(1, (.slice b1 b1n b1c)), (4, (.pointer (some t4))), (7, (.pointer in7)), (8, (.pointer out8))])
@[irreducible] def J1 (key0 : OA) (key0n key0c : Nat) (b1 : OA) (b1n b1c : Nat) (t4 block5 : Addr) (Q : VP) (h : Heap) : Prop := Jn PP true (cd 15) (mkFr 0 48 [(0, (.slice key0 key0n key0c)), (1, (.slice b1 b1n b1c)), (4, (.pointer (some t4))), (5, (.pointer (some block5)))]) (bodyK PP Tryd.f9 Q) h
@[irreducible] def K2 (Q : VP) : EP := seqK (fun fr h => ev PP true none (cd 127) (an 127) (fr.mask 402) (bodyK PP Tryd.f9 Q) h) (bodyK PP Tryd.f9 Q)
@[irreducible] def K1 (Q : VP) : EP := blockK 0 (K2 Q)
@[irreducible] def L1 (b1 : OA) (b1n b1c : Nat) (t4 : Addr) (in7 out8 : OA) (t23 : List Value) (t24 : Int) (K : EP) (h : Heap) : Prop := Lp PP true (cd 1012) (mkFr 0 48 [(1, (.slice b1 b1n b1c)), (4, (.pointer (some t4))), (7, (.pointer in7)), (8, (.pointer out8)), (23, (.agg (t23).toArray)), (24, (.int .i64 t24))]) K h
@[irreducible] def B1 (K : EP) : EP := seqK (fun fr h => Lp PP true (cd 1012) (fr.mask 25166226) K h) K
theorem J1_of {key0 : OA} {key0n key0c : Nat} {b1 : OA} {b1n b1c : Nat} {t4 block5 : Addr} {Q : VP} {h : Heap} (H :
 hwp PP (Instr.sliceAt T_64_uint8 (.pointer (some block5)) none none none) (fun v h1 => ∃ (t18 : OA) (t18n t18c : Nat), v = (.slice t18 t18n t18c) ∧
 hwp PP (Builtin.copy_ #[T_sl_uint8, T_sl_uint8] T_int #[(.slice t18 t18n t18c), (.slice key0 key0n key0c)]) (fun v_1 h2 => ∃ (t20 : Int), v_1 = (.int .i64 t20) ∧
 SpecH PP F_hmac_New [] h2 (fun v_2 h3 => ∃ (t21 : OA), v_2 = (.pointer t21) ∧
 SpecH PP F_hmac_New [] h3 (fun v_3 h4 => ∃ (t22 : OA), v_3 = (.pointer t22) ∧
 ∃ (t23 : List Value), List.length t23 = 64 ∧ rdCells h4 block5 0 t23 ∧
 L1 b1 b1n b1c t4 t21 t22 t23 0 (K1 Q) h4))) h1) h) : J1 key0 key0n key0c b1 b1n b1c t4 block5 Q h := by unfold J1; exact Jn.of_txt (an 15) (by kernel_rfl) H
theorem L1_of {b1 : OA} {b1n b1c : Nat} {t4 : Addr} {in7 out8 : OA} {t23 : List Value} {t24 : Int} {K : EP} {h : Heap} (H :
 let t25 : Bool := decide (t24 < 64)
 br t25 (
 hwp PP (Instr.index T_64_uint8 (.agg (t23).toArray) (.int .i64 t24)) (fun v h1 => ∃ (t26 : Int), v = (.int .u8 t26) ∧
 let t29 : Int := bXor .u8 t26 54
 let h2 : Heap := Array.push h1 (.cells #[(.int .u8 t29)] T_uint8 (0, 0))
 SpecH PP F_hmac_Hash_Write [(.pointer in7), (.slice (some ⟨Array.size h1, 0, none⟩) 1 1)] h2 (fun v_1 h3 => v_1 = (.tuple #[]) ∧
 let t34 : Int := bXor .u8 t26 92
 let h4 : Heap := Array.push h3 (.cells #[(.int .u8 t34)] T_uint8 (0, 0))
 SpecH PP F_hmac_Hash_Write [(.pointer out8), (.slice (some ⟨Array.size h3, 0, none⟩) 1 1)] h4 (fun v_2 h5 => v_2 = (.tuple #[]) ∧
 let t37 : Int := IntKind.i64.wrap (t24 + 1)
 L1 b1 b1n b1c t4 in7 out8 t23 t37 K h5))) h) (
 K (.exit 0) (X0 b1 b1n b1c t4 in7 out8) h)) : L1 b1 b1n b1c t4 in7 out8 t23 t24 K h := by unfold L1; exact Lp.of_txt (an 1012) 25166226 (by kernel_rfl) H
theorem L1_X0 {Q : VP} {b1 : OA} {b1n b1c : Nat} {t4 : Addr} {in7 out8 : OA} {h : Heap} (H :
 SpecH PP F_hmac_Hash_Write [(.pointer in7), (.slice b1 b1n b1c)] h (fun v h1 => v = (.tuple #[]) ∧
 SpecH PP F_hmac_Hash_Sum [(.pointer in7)] h1 (fun v_1 h2 => ∃ (t42 : List Value), v_1 = (.agg (t42).toArray) ∧
 let d11 : Addr := ⟨Array.size h2, 0, none⟩
 let h3 : Heap := Array.push h2 (.cells (Array.replicate 32 (.int .u8 0)) T_32_uint8 (0, 0))
 br (decide (Array.size (List.toArray t42) = 32)) (wrCells d11 0 t42 (fun h4 =>
 hwp PP (Instr.sliceAt T_32_uint8 (.pointer (some d11)) none none none) (fun v_2 h5 => ∃ (t44 : OA) (t44n t44c : Nat), v_2 = (.slice t44 t44n t44c) ∧
 SpecH PP F_hmac_Hash_Write [(.pointer out8), (.slice t44 t44n t44c)] h5 (fun v_3 h6 => v_3 = (.tuple #[]) ∧
 SpecH PP F_hmac_Hash_Sum [(.pointer out8)] h6 (fun v_4 h7 => ∃ (t47 : List Value), v_4 = (.agg (t47).toArray) ∧
 br (decide (Array.size (List.toArray t47) = 32)) (wrCells t4 0 t47 (fun h8 =>
 ∃ (t4_1 : List Value), List.length t4_1 = 32 ∧ rdCells h8 t4 0 t4_1 ∧
 Q (.agg (t4_1).toArray) h8) h7) False))) h4) h3) False))) : (K1 Q) (.exit 0) (X0 b1 b1n b1c t4 in7 out8) h := of_eq_txt (by kernel_rfl) H
theorem door {key0 : OA} {key0n key0c : Nat} {b1 : OA} {b1n b1c : Nat} {Q : VP} {h : Heap} (H :
 let t4 : Addr := ⟨Array.size h, 0, none⟩
 let h1 : Heap := Array.push h (.cells (Array.replicate 32 (.int .u8 0)) T_32_uint8 (0, 0))
 let block5 : Addr := ⟨Array.size h1, 0, none⟩
 let h2 : Heap := Array.push h1 (.cells (Array.replicate 64 (.int .u8 0)) T_64_uint8 (0, 0))
 let t14 : Bool := decide ((key0n : Int) > 64)
 br t14 (
 SpecH PP F_hmac_Sum [(.slice key0 key0n key0c)] h2 (fun v h3 => ∃ (t16 : List Value), v = (.agg (t16).toArray) ∧
 let d6 : Addr := ⟨Array.size h3, 0, none⟩
 let h4 : Heap := Array.push h3 (.cells (Array.replicate 32 (.int .u8 0)) T_32_uint8 (0, 0))
 br (decide (Array.size (List.toArray t16) = 32)) (wrCells d6 0 t16 (fun h5 =>
 hwp PP (Instr.sliceAt T_32_uint8 (.pointer (some d6)) none none none) (fun v_1 h6 => ∃ (t17 : OA) (t17n t17c : Nat), v_1 = (.slice t17 t17n t17c) ∧
 J1 t17 t17n t17c b1 b1n b1c t4 block5 Q h6) h5) h4) False)) (
 J1 key0 key0n key0c b1 b1n b1c t4 block5 Q h2)) : SpecH PP F_hmac_Mac [(.slice key0 key0n key0c), (.slice b1 b1n b1c)] h Q :=
   spec_of_txt (ann := ann) Tryd.func9 rfl rfl (by kernel_rfl) H
end hmac_Mac
/-! ### haversack/haversackkeep.Back: function 10 -/
namespace keep_Back
def ann : Ann := (.seq 3 (.region [(List.range 1, 3)]) (.seq 35 (.region [(List.range 6, 35)]) (.seq 99 (.region [(List.range 16, 99)]) (.join (.seq 96 (.seq 227 (.region [(List.range 1, 227)]) (.block (.loop 227 (.seq 227 (.seq 4294967523 (.region [(List.range 4, 4294967523)]) (.cond .leaf (.exit 96))) (.seq 227 (.block (.region [(List.range 13, 227)])) (.join (.region [(List.range 3, 227)]))))))) (.seq 64 (.seq 352 (.region [(List.range 1, 352)]) (.block (.loop 352 (.seq 352 (.seq 1125899906842976 (.region [(List.range 4, 1125899906842976)]) (.cond .leaf (.exit 64))) (.seq 352 (.block (.region [(List.range 9, 352)])) (.region [(List.range 3, 352)])))))) (.seq 16 (.region [(List.range 2, 16)]) (.exit 16))))))))
noncomputable abbrev cd (n : Nat) : Code := sub (bodyOf Tryd.f10) (pth n)
abbrev an (n : Nat) : Ann := subA ann (pth n)
@[irreducible] def X0 (all5 : OA) (all5n all5c : Nat) (ok6 : Bool) : Fr := (mkFr 0 62 [(5, (.slice all5 all5n all5c)), (6, (.bool ok6))])
@[irreducible] def X2 (ok6 : Bool) : Fr := (mkFr 0 62 [(6, (.bool ok6))])
@[irreducible] def J1 (x0 : OA) (x0n x0c : Nat) (b1 : OA) (b1n b1c : Nat) (all5 : OA) (all5n all5c : Nat) (ok6 : Bool) (Q : VP) (h : Heap) : Prop := Jn PP true (cd 15) (mkFr 0 62 [(0, (.slice x0 x0n x0c)), (1, (.slice b1 b1n b1c)), (5, (.slice all5 all5n all5c)), (6, (.bool ok6))]) (bodyK PP Tryd.f10 Q) h
@[irreducible] def K2 (Q : VP) : EP := seqK (fun fr h => ev PP true none (cd 31) (an 31) (fr.mask 96) (bodyK PP Tryd.f10 Q) h) (bodyK PP Tryd.f10 Q)
@[irreducible] def K1 (Q : VP) : EP := blockK 0 (K2 Q)
@[irreducible] def L1 (x0 : OA) (x0n x0c : Nat) (b1 : OA) (b1n b1c : Nat) (all5 : OA) (all5n all5c : Nat) (ok6 : Bool) (i7 : Int) (K : EP) (h : Heap) : Prop := Lp PP true (cd 244) (mkFr 0 62 [(0, (.slice x0 x0n x0c)), (1, (.slice b1 b1n b1c)), (5, (.slice all5 all5n all5c)), (6, (.bool ok6)), (7, (.int .i64 i7))]) K h
@[irreducible] def B1 (K : EP) : EP := seqK (fun fr h => Lp PP true (cd 244) (fr.mask 227) K h) K
@[irreducible] def J2 (x0 : OA) (x0n x0c : Nat) (b1 : OA) (b1n b1c : Nat) (all5 : OA) (all5n all5c : Nat) (ok6 : Bool) (i7 : Int) (K : EP) (h : Heap) : Prop := Jn PP true (cd 979) (mkFr 0 62 [(0, (.slice x0 x0n x0c)), (1, (.slice b1 b1n b1c)), (5, (.slice all5 all5n all5c)), (6, (.bool ok6)), (7, (.int .i64 i7))]) (B1 K) h
@[irreducible] def K4 (Q : VP) : EP := seqK (fun fr h => ev PP true none (cd 63) (an 63) (fr.mask 64) (bodyK PP Tryd.f10 Q) h) (bodyK PP Tryd.f10 Q)
@[irreducible] def K3 (Q : VP) : EP := blockK 2 (K4 Q)
@[irreducible] def L2 (all5 : OA) (all5n all5c : Nat) (ok6 : Bool) (i8 : Int) (K : EP) (h : Heap) : Prop := Lp PP true (cd 500) (mkFr 0 62 [(5, (.slice all5 all5n all5c)), (6, (.bool ok6)), (8, (.int .i64 i8))]) K h
@[irreducible] def B2 (K : EP) : EP := seqK (fun fr h => Lp PP true (cd 500) (fr.mask 352) K h) K
theorem J1_of {x0 : OA} {x0n x0c : Nat} {b1 : OA} {b1n b1c : Nat} {all5 : OA} {all5n all5c : Nat} {ok6 : Bool} {Q : VP} {h : Heap} (H :
 L1 x0 x0n x0c b1 b1n b1c all5 all5n all5c ok6 0 (K1 Q) h) : J1 x0 x0n x0c b1 b1n b1c all5 all5n all5c ok6 Q h := by unfold J1; exact Jn.of_txt (an 15) (by kernel_rfl) H
theorem L1_of {x0 : OA} {x0n x0c : Nat} {b1 : OA} {b1n b1c : Nat} {all5 : OA} {all5n all5c : Nat} {ok6 : Bool} {i7 : Int} {K : EP} {h : Heap} (H :
 let t32 : Bool := decide (i7 < (b1n : Int))
 br t32 (
 br ok6 (
 hwp PP (Instr.indexAt T_sl_uint8 (.slice x0 x0n x0c) (.int .i64 i7)) (fun v h1 => ∃ (t39 : Addr), v = (.pointer (some t39)) ∧
 ∃ (t40 : Int), cellH h1 t39 = some (.int .u8 t40) ∧
 hwp PP (Instr.indexAt T_sl_uint8 (.slice b1 b1n b1c) (.int .i64 i7)) (fun v_1 h2 => ∃ (t43 : Addr), v_1 = (.pointer (some t43)) ∧
 ∃ (t44 : Int), cellH h2 t43 = some (.int .u8 t44) ∧
 let t45 : Bool := (t40 == t44)
 J2 x0 x0n x0c b1 b1n b1c all5 all5n all5c t45 i7 K h2) h1) h) (
 J2 x0 x0n x0c b1 b1n b1c all5 all5n all5c false i7 K h)) (
 K (.exit 0) (X0 all5 all5n all5c ok6) h)) : L1 x0 x0n x0c b1 b1n b1c all5 all5n all5c ok6 i7 K h := by unfold L1; exact Lp.of_txt (an 244) 227 (by kernel_rfl) H
theorem L1_X0 {Q : VP} {all5 : OA} {all5n all5c : Nat} {ok6 : Bool} {h : Heap} (H :
 L2 all5 all5n all5c ok6 0 (K3 Q) h) : (K1 Q) (.exit 0) (X0 all5 all5n all5c ok6) h := of_eq_txt (by kernel_rfl) H
theorem J2_of {x0 : OA} {x0n x0c : Nat} {b1 : OA} {b1n b1c : Nat} {all5 : OA} {all5n all5c : Nat} {ok6 : Bool} {i7 : Int} {K : EP} {h : Heap} (H :
 let t34 : Int := IntKind.i64.wrap (i7 + 1)
 L1 x0 x0n x0c b1 b1n b1c all5 all5n all5c ok6 t34 K h) : J2 x0 x0n x0c b1 b1n b1c all5 all5n all5c ok6 i7 K h := by unfold J2; exact Jn.of_txt (an 979) (by kernel_rfl) H
theorem L2_of {all5 : OA} {all5n all5c : Nat} {ok6 : Bool} {i8 : Int} {K : EP} {h : Heap} (H :
 let t50 : Bool := decide (i8 < (all5n : Int))
 br t50 (
 hwp PP (Instr.indexAt T_sl_uint8 (.slice all5 all5n all5c) (.int .i64 i8)) (fun v h1 => ∃ (t57 : Addr), v = (.pointer (some t57)) ∧
 ∃ (t58 : Int), cellH h1 t57 = some (.int .u8 t58) ∧
 let t59 : Int := IntKind.u8.wrap (t58 + 77)
 hwp PP (Instr.indexAt T_sl_uint8 (.slice all5 all5n all5c) (.int .i64 i8)) (fun v_1 h2 => ∃ (t60 : Addr), v_1 = (.pointer (some t60)) ∧
 wr t60 (.int .u8 t59) (fun h3 =>
 let t52 : Int := IntKind.i64.wrap (i8 + 1)
 L2 all5 all5n all5c ok6 t52 K h3) h2) h1) h) (
 K (.exit 2) (X2 ok6) h)) : L2 all5 all5n all5c ok6 i8 K h := by unfold L2; exact Lp.of_txt (an 500) 352 (by kernel_rfl) H
theorem L2_X2 {Q : VP} {ok6 : Bool} {h : Heap} (H :
 Q (.bool ok6) h) : (K3 Q) (.exit 2) (X2 ok6) h := of_eq_txt (by kernel_rfl) H
theorem door {x0 : OA} {x0n x0c : Nat} {b1 : OA} {b1n b1c : Nat} {Q : VP} {h : Heap} (H :
 let t12 : Int := IntKind.i64.wrap ((b1n : Int) + 2)
 hwp PP (Instr.sliceAt T_sl_uint8 (.slice x0 x0n x0c) none (some (.int .i64 t12)) none) (fun v h1 => ∃ (t13 : OA) (t13n t13c : Nat), v = (.slice t13 t13n t13c) ∧
 hwp PP (Instr.indexAt T_sl_uint8 (.slice t13 t13n t13c) (.int .i64 (b1n : Int))) (fun v_1 h2 => ∃ (t17 : Addr), v_1 = (.pointer (some t17)) ∧
 ∃ (t18 : Int), cellH h2 t17 = some (.int .u8 t18) ∧
 let t19 : Bool := (t18 == 165)
 br t19 (
 let t24 : Int := IntKind.i64.wrap ((b1n : Int) + 1)
 hwp PP (Instr.indexAt T_sl_uint8 (.slice t13 t13n t13c) (.int .i64 t24)) (fun v_2 h3 => ∃ (t25 : Addr), v_2 = (.pointer (some t25)) ∧
 ∃ (t26 : Int), cellH h3 t25 = some (.int .u8 t26) ∧
 let t27 : Bool := (t26 == 90)
 J1 x0 x0n x0c b1 b1n b1c t13 t13n t13c t27 Q h3) h2) (
 J1 x0 x0n x0c b1 b1n b1c t13 t13n t13c false Q h2)) h1) h) : SpecH PP F_keep_Back [(.slice x0 x0n x0c), (.slice b1 b1n b1c)] h Q :=
   spec_of_txt (ann := ann) Tryd.func10 rfl rfl (by kernel_rfl) H
end keep_Back
/-! ### haversack/haversacklaw15.awake: function 11 -/
namespace law15_awake
def ann : Ann := (.seq 0 (.region [(List.range 1, 0)]) (.seq 2 (.region [(List.range 2, 2)]) (.seq 2 (.seq 66 (.region [(List.range 2, 66)]) (.cond (.seq 1 (.region [(List.range 1, 1)]) (.exit 1)) .leaf)) (.seq 2 (.region [(List.range 4, 2)]) (.seq 6 (.region [(List.range 4, 6)]) (.seq 6 (.region [(List.range 4, 6)]) (.seq 12 (.region [(List.range 4, 12)]) (.seq 1 (.region [(List.range 15, 1)]) (.exit 1)))))))))
noncomputable abbrev cd (n : Nat) : Code := sub (bodyOf Tryd.f11) (pth n)
abbrev an (n : Nat) : Ann := subA ann (pth n)
theorem door  {Q : VP} {h : Heap} (H :
 SpecH PP F_hmac_New [] h (fun v h1 => ∃ (t4 : OA), v = (.pointer t4) ∧
 let t6 : Bool := (Option.isNone t4)
 br t6 (
 Q (.bool false) h1) (
 let h2 : Heap := Array.push h1 (.cells #[(.int .u8 97)] T_uint8 (0, 0))
 hwp PP (Go.convert T_sl_uint8 T_sl_uint8 (.slice (some ⟨Array.size h1, 0, none⟩) 1 1)) (fun v_1 h3 => ∃ (t9 : OA) (t9n t9c : Nat), v_1 = (.slice t9 t9n t9c) ∧
 SpecH PP F_hmac_Hash_Write [(.pointer t4), (.slice t9 t9n t9c)] h3 (fun v_2 h4 => v_2 = (.tuple #[]) ∧
 SpecH PP F_hmac_Hash_Sum [(.pointer t4)] h4 (fun v_3 h5 => ∃ (t12 : List Value), v_3 = (.agg (t12).toArray) ∧
 let one2 : Addr := ⟨Array.size h5, 0, none⟩
 let h6 : Heap := Array.push h5 (.cells (Array.replicate 32 (.int .u8 0)) T_32_uint8 (0, 0))
 br (decide (Array.size (List.toArray t12) = 32)) (wrCells one2 0 t12 (fun h7 =>
 let h8 : Heap := Array.push h7 (.cells #[(.int .u8 98), (.int .u8 99)] T_uint8 (0, 0))
 hwp PP (Go.convert T_sl_uint8 T_sl_uint8 (.slice (some ⟨Array.size h7, 0, none⟩) 2 2)) (fun v_4 h9 => ∃ (t15 : OA) (t15n t15c : Nat), v_4 = (.slice t15 t15n t15c) ∧
 SpecH PP F_hmac_Hash_Write [(.pointer t4), (.slice t15 t15n t15c)] h9 (fun v_5 h10 => v_5 = (.tuple #[]) ∧
 SpecH PP F_hmac_Hash_Sum [(.pointer t4)] h10 (fun v_6 h11 => ∃ (t18 : List Value), v_6 = (.agg (t18).toArray) ∧
 let two3 : Addr := ⟨Array.size h11, 0, none⟩
 let h12 : Heap := Array.push h11 (.cells (Array.replicate 32 (.int .u8 0)) T_32_uint8 (0, 0))
 br (decide (Array.size (List.toArray t18) = 32)) (wrCells two3 0 t18 (fun h13 =>
 SpecH PP F_hmac_Sum [(.slice none 0 0)] h13 (fun v_7 h14 => ∃ (t19 : List Value), v_7 = (.agg (t19).toArray) ∧
 SpecH PP F_law15_begins [(.agg (t19).toArray), (.int .u8 227), (.int .u8 176), (.int .u8 196), (.int .u8 66)] h14 (fun v_8 h15 => ∃ (t20 : Bool), v_8 = (.bool t20) ∧
 br t20 (
 ∃ (t22 : List Value), List.length t22 = 32 ∧ rdCells h15 one2 0 t22 ∧
 SpecH PP F_law15_begins [(.agg (t22).toArray), (.int .u8 202), (.int .u8 151), (.int .u8 129), (.int .u8 18)] h15 (fun v_9 h16 => ∃ (t23 : Bool), v_9 = (.bool t23) ∧
 br t23 (
 ∃ (t26 : List Value), List.length t26 = 32 ∧ rdCells h16 two3 0 t26 ∧
 SpecH PP F_law15_begins [(.agg (t26).toArray), (.int .u8 186), (.int .u8 120), (.int .u8 22), (.int .u8 191)] h16 (fun v_10 h17 => ∃ (t27 : Bool), v_10 = (.bool t27) ∧
 br t27 (
 SpecH PP F_hmac_Mac [(.slice none 0 0), (.slice none 0 0)] h17 (fun v_11 h18 => ∃ (t30 : List Value), v_11 = (.agg (t30).toArray) ∧
 SpecH PP F_law15_begins [(.agg (t30).toArray), (.int .u8 182), (.int .u8 19), (.int .u8 103), (.int .u8 154)] h18 (fun v_12 h19 => ∃ (t31 : Bool), v_12 = (.bool t31) ∧
 Q (.bool t31) h19))) (
 Q (.bool false) h17))) (
 Q (.bool false) h16))) (
 Q (.bool false) h15)))) h12) False))) h8) h6) False))) h2))) : SpecH PP F_law15_awake [] h Q :=
   spec_of_txt (ann := ann) Tryd.func11 rfl rfl (by kernel_rfl) H
end law15_awake
/-! ### haversack/haversackref15.Sum: function 12 -/
namespace ref15_Sum
def ann : Ann := (.seq 5 (.region [(List.range 1, 5)]) (.seq 13 (.region [(List.range 3, 13)]) (.seq 28 (.region [(List.range 3, 28)]) (.seq 12 (.seq 60 (.region [(List.range 1, 60)]) (.block (.loop 60 (.seq 60 (.seq 32828 (.region [(List.range 4, 32828)]) (.cond .leaf (.exit 12))) (.seq 60 (.block (.region [(List.range 8, 60)])) (.region [(List.range 3, 60)])))))) (.seq 76 (.region [(List.range 1, 76)]) (.seq 68 (.seq 204 (.region [(List.range 1, 204)]) (.block (.loop 204 (.seq 204 (.seq 67109068 (.region [(List.range 2, 67109068)]) (.cond .leaf (.exit 68))) (.seq 204 (.block (.seq 460 (.region [(List.range 1, 460)]) (.block (.loop 460 (.seq 460 (.seq 1073742284 (.region [(List.range 2, 1073742284)]) (.cond .leaf (.exit 204))) (.seq 460 (.block (.seq 460 (.region [(List.range 11, 460)]) (.region [(List.range 7, 460)]))) (.region [(List.range 3, 460)]))))))) (.region [(List.range 3, 204)])))))) (.seq 4 (.region [(List.range 2, 4)]) (.exit 4))))))))
noncomputable abbrev cd (n : Nat) : Code := sub (bodyOf Tryd.f12) (pth n)
abbrev an (n : Nat) : Ann := subA ann (pth n)
@[irreducible] def X0 (t2 xh3 : Addr) : Fr := (mkFr 0 50 [(2, (.pointer (some t2))), (3, (.pointer (some xh3)))])
@[irreducible] def X2 (t2 out6 : Addr) : Fr := (mkFr 0 50 [(2, (.pointer (some t2))), (6, (.pointer (some out6)))])
@[irreducible] def X4 (t2 xh3 out6 : Addr) (i7 : Int) : Fr := (mkFr 0 50 [(2, (.pointer (some t2))), (3, (.pointer (some xh3))), (6, (.pointer (some out6))), (7, (.int .i64 i7))])
@[irreducible] def L1 (t2 xh3 : Addr) (all4 : OA) (all4n all4c : Nat) (i5 : Int) (K : EP) (h : Heap) : Prop := Lp PP true (cd 244) (mkFr 0 50 [(2, (.pointer (some t2))), (3, (.pointer (some xh3))), (4, (.slice all4 all4n all4c)), (5, (.int .i64 i5))]) K h
@[irreducible] def B1 (K : EP) : EP := seqK (fun fr h => Lp PP true (cd 244) (fr.mask 60) K h) K
@[irreducible] def K3 (Q : VP) : EP := seqK (fun fr h => ev PP true none (cd 31) (an 31) (fr.mask 12) (bodyK PP Tryd.f12 Q) h) (bodyK PP Tryd.f12 Q)
@[irreducible] def K1 (Q : VP) : EP := blockK 0 (K3 Q)
@[irreducible] def K4 (Q : VP) : EP := seqK (fun fr h => ev PP true none (cd 127) (an 127) (fr.mask 68) (bodyK PP Tryd.f12 Q) h) (bodyK PP Tryd.f12 Q)
@[irreducible] def K2 (Q : VP) : EP := blockK 2 (K4 Q)
@[irreducible] def L2 (t2 xh3 out6 : Addr) (i7 : Int) (K : EP) (h : Heap) : Prop := Lp PP true (cd 1012) (mkFr 0 50 [(2, (.pointer (some t2))), (3, (.pointer (some xh3))), (6, (.pointer (some out6))), (7, (.int .i64 i7))]) K h
@[irreducible] def B2 (K : EP) : EP := seqK (fun fr h => Lp PP true (cd 1012) (fr.mask 204) K h) K
@[irreducible] def K7 (K : EP) : EP := seqK (fun fr h => ev PP true none (cd 4051) (an 4051) (fr.mask 204) (B2 K) h) (B2 K)
@[irreducible] def K6 (K : EP) : EP := blockK 3 (K7 K)
@[irreducible] def K5 (K : EP) : EP := blockK 4 (K6 K)
@[irreducible] def L3 (t2 xh3 out6 : Addr) (i7 xn8 : Int) (K : EP) (h : Heap) : Prop := Lp PP true (cd 64804) (mkFr 0 50 [(2, (.pointer (some t2))), (3, (.pointer (some xh3))), (6, (.pointer (some out6))), (7, (.int .i64 i7)), (8, (.int .i64 xn8))]) K h
@[irreducible] def B3 (K : EP) : EP := seqK (fun fr h => Lp PP true (cd 64804) (fr.mask 460) K h) K
theorem L1_of {t2 xh3 : Addr} {all4 : OA} {all4n all4c : Nat} {i5 : Int} {K : EP} {h : Heap} (H :
 let t15 : Bool := decide (i5 < (all4n : Int))
 br t15 (
 ∃ (t18f0 t18f1 t18f2 t18f3 t18f4 t18f5 t18f6 t18f7 : Int), rdCells h xh3 0 [(.int .u32 t18f0), (.int .u32 t18f1), (.int .u32 t18f2), (.int .u32 t18f3), (.int .u32 t18f4), (.int .u32 t18f5), (.int .u32 t18f6), (.int .u32 t18f7)] ∧
 let t22 : Int := IntKind.i64.wrap (i5 + 64)
 hwp PP (Instr.sliceAt T_sl_uint8 (.slice all4 all4n all4c) (some (.int .i64 i5)) (some (.int .i64 t22)) none) (fun v h1 => ∃ (t23 : OA) (t23n t23c : Nat), v = (.slice t23 t23n t23c) ∧
 SpecH PP F_ref15_block [(.agg #[(.int .u32 t18f0), (.int .u32 t18f1), (.int .u32 t18f2), (.int .u32 t18f3), (.int .u32 t18f4), (.int .u32 t18f5), (.int .u32 t18f6), (.int .u32 t18f7)]), (.slice t23 t23n t23c)] h1 (fun v_1 h2 => ∃ (t24f0 t24f1 t24f2 t24f3 t24f4 t24f5 t24f6 t24f7 : Int), v_1 = (.agg #[(.int .u32 t24f0), (.int .u32 t24f1), (.int .u32 t24f2), (.int .u32 t24f3), (.int .u32 t24f4), (.int .u32 t24f5), (.int .u32 t24f6), (.int .u32 t24f7)]) ∧
 wrCells xh3 0 [(.int .u32 t24f0), (.int .u32 t24f1), (.int .u32 t24f2), (.int .u32 t24f3), (.int .u32 t24f4), (.int .u32 t24f5), (.int .u32 t24f6), (.int .u32 t24f7)] (fun h3 =>
 let t17 : Int := IntKind.i64.wrap (i5 + 64)
 L1 t2 xh3 all4 all4n all4c t17 K h3) h2)) h) (
 K (.exit 0) (X0 t2 xh3) h)) : L1 t2 xh3 all4 all4n all4c i5 K h := by unfold L1; exact Lp.of_txt (an 244) 60 (by kernel_rfl) H
theorem L1_X0 {Q : VP} {t2 xh3 : Addr} {h : Heap} (H :
 let out6 : Addr := ⟨Array.size h, 0, none⟩
 let h1 : Heap := Array.push h (.cells (Array.replicate 32 (.int .u8 0)) T_32_uint8 (0, 0))
 L2 t2 xh3 out6 0 (K2 Q) h1) : (K1 Q) (.exit 0) (X0 t2 xh3) h := of_eq_txt (by kernel_rfl) H
theorem L2_of {t2 xh3 out6 : Addr} {i7 : Int} {K : EP} {h : Heap} (H :
 let t26 : Bool := decide (i7 < 8)
 br t26 (
 L3 t2 xh3 out6 i7 3 (K5 K) h) (
 K (.exit 2) (X2 t2 out6) h)) : L2 t2 xh3 out6 i7 K h := by unfold L2; exact Lp.of_txt (an 1012) 204 (by kernel_rfl) H
theorem L2_X2 {Q : VP} {t2 out6 : Addr} {h : Heap} (H :
 ∃ (t49 : List Value), List.length t49 = 32 ∧ rdCells h out6 0 t49 ∧
 br (decide (Array.size (List.toArray t49) = 32)) (wrCells t2 0 t49 (fun h1 =>
 ∃ (t2_1 : List Value), List.length t2_1 = 32 ∧ rdCells h1 t2 0 t2_1 ∧
 Q (.agg (t2_1).toArray) h1) h) False) : (K2 Q) (.exit 2) (X2 t2 out6) h := of_eq_txt (by kernel_rfl) H
theorem L3_of {t2 xh3 out6 : Addr} {i7 xn8 : Int} {K : EP} {h : Heap} (H :
 let t30 : Bool := decide (xn8 ≥ 0)
 br t30 (
 let t34 : Int := IntKind.i64.wrap (4 * i7)
 let t36 : Int := IntKind.i64.wrap (t34 + xn8)
 hwp PP (Instr.indexAt T_8_uint32 (.pointer (some xh3)) (.int .i64 i7)) (fun v h1 => ∃ (t38 : Addr), v = (.pointer (some t38)) ∧
 ∃ (t39 : Int), cellH h1 t38 = some (.int .u32 t39) ∧
 let t40 : Int := Int.tmod t39 256
 let t41 : Int := IntKind.u8.wrap t40
 hwp PP (Instr.indexAt T_32_uint8 (.pointer (some out6)) (.int .i64 t36)) (fun v_1 h2 => ∃ (t42 : Addr), v_1 = (.pointer (some t42)) ∧
 wr t42 (.int .u8 t41) (fun h3 =>
 hwp PP (Instr.indexAt T_8_uint32 (.pointer (some xh3)) (.int .i64 i7)) (fun v_2 h4 => ∃ (t45 : Addr), v_2 = (.pointer (some t45)) ∧
 ∃ (t46 : Int), cellH h4 t45 = some (.int .u32 t46) ∧
 let t47 : Int := IntKind.u32.wrap (Int.tdiv t46 256)
 hwp PP (Instr.indexAt T_8_uint32 (.pointer (some xh3)) (.int .i64 i7)) (fun v_3 h5 => ∃ (t48 : Addr), v_3 = (.pointer (some t48)) ∧
 wr t48 (.int .u32 t47) (fun h6 =>
 let t32 : Int := IntKind.i64.wrap (xn8 - 1)
 L3 t2 xh3 out6 i7 t32 K h6) h5) h4) h3) h2) h1) h) (
 K (.exit 4) (X4 t2 xh3 out6 i7) h)) : L3 t2 xh3 out6 i7 xn8 K h := by unfold L3; exact Lp.of_txt (an 64804) 460 (by kernel_rfl) H
theorem L3_X4 {K : EP} {t2 xh3 out6 : Addr} {i7 : Int} {h : Heap} (H :
 let t28 : Int := IntKind.i64.wrap (i7 + 1)
 L2 t2 xh3 out6 t28 K h) : (K5 K) (.exit 4) (X4 t2 xh3 out6 i7) h := of_eq_txt (by kernel_rfl) H
theorem door {b0 : OA} {b0n b0c : Nat} {Q : VP} {h : Heap} (H :
 let t2 : Addr := ⟨Array.size h, 0, none⟩
 let h1 : Heap := Array.push h (.cells (Array.replicate 32 (.int .u8 0)) T_32_uint8 (0, 0))
 let xh3 : Addr := ⟨Array.size h1, 0, none⟩
 let h2 : Heap := Array.push h1 (.cells #[(.int .u32 0), (.int .u32 0), (.int .u32 0), (.int .u32 0), (.int .u32 0), (.int .u32 0), (.int .u32 0), (.int .u32 0)] T_8_uint32 (0, 0))
 wrCells xh3 0 [(.int .u32 1779033703), (.int .u32 3144134277), (.int .u32 1013904242), (.int .u32 2773480762), (.int .u32 1359893119), (.int .u32 2600822924), (.int .u32 528734635), (.int .u32 1541459225)] (fun h3 =>
 SpecH PP F_ref15_padded [(.slice b0 b0n b0c)] h3 (fun v h4 => ∃ (t11 : OA) (t11n t11c : Nat), v = (.slice t11 t11n t11c) ∧
 L1 t2 xh3 t11 t11n t11c 0 (K1 Q) h4)) h2) : SpecH PP F_ref15_Sum [(.slice b0 b0n b0c)] h Q :=
   spec_of_txt (ann := ann) Tryd.func12 rfl rfl (by kernel_rfl) H
end ref15_Sum
/-! ### haversack/haversackref15.Mac: function 13 -/
namespace ref15_Mac
def ann : Ann := (.seq 19 (.region [(List.range 1, 19)]) (.seq 19 (.seq 8211 (.region [(List.range 3, 8211)]) (.cond (.seq 50 (.region [(List.range 4, 50)]) (.region [(List.range 2, 19)])) .leaf)) (.join (.seq 83 (.region [(List.range 1, 83)]) (.seq 211 (.region [(List.range 1, 211)]) (.seq 210 (.seq 467 (.region [(List.range 1, 467)]) (.block (.loop 467 (.seq 467 (.seq 262611 (.region [(List.range 2, 262611)]) (.cond .leaf (.exit 210))) (.seq 467 (.block (.seq 979 (.region [(List.range 1, 979)]) (.seq 979 (.seq 16778195 (.region [(List.range 4, 16778195)]) (.cond (.region [(List.range 5, 979)]) .leaf)) (.join (.seq 979 (.region [(List.range 6, 979)]) (.region [(List.range 6, 467)])))))) (.region [(List.range 3, 467)])))))) (.seq 1168 (.region [(List.range 6, 1168)]) (.seq 16 (.region [(List.range 5, 16)]) (.exit 16)))))))))
noncomputable abbrev cd (n : Nat) : Code := sub (bodyOf Tryd.f13) (pth n)
abbrev an (n : Nat) : Ann := subA ann (pth n)
@[irreducible] def X0 (b1 : OA) (b1n b1c : Nat) (t4 : Addr) (in6 : OA) (in6n in6c : Nat) (out7 : OA) (out7n out7c : Nat) : Fr := (mkFr 0 47 [(1, (.slice b1 b1n b1c)), (4, (.pointer (some t4))), (6, (.slice in6 in6n in6c)), (7, (.slice out7 out7n out7c))])
@[irreducible] def J1 (key0 : OA) (key0n key0c : Nat) (b1 : OA) (b1n b1c : Nat) (t4 : Addr) (Q : VP) (h : Heap) : Prop := Jn PP true (cd 7) (mkFr 0 47 [(0, (.slice key0 key0n key0c)), (1, (.slice b1 b1n b1c)), (4, (.pointer (some t4)))]) (bodyK PP Tryd.f13 Q) h
@[irreducible] def K2 (Q : VP) : EP := seqK (fun fr h => ev PP true none (cd 63) (an 63) (fr.mask 210) (bodyK PP Tryd.f13 Q) h) (bodyK PP Tryd.f13 Q)
@[irreducible] def K1 (Q : VP) : EP := blockK 0 (K2 Q)
@[irreducible] def L1 (key0 : OA) (key0n key0c : Nat) (b1 : OA) (b1n b1c : Nat) (t4 : Addr) (in6 : OA) (in6n in6c : Nat) (out7 : OA) (out7n out7c : Nat) (i8 : Int) (K : EP) (h : Heap) : Prop := Lp PP true (cd 500) (mkFr 0 47 [(0, (.slice key0 key0n key0c)), (1, (.slice b1 b1n b1c)), (4, (.pointer (some t4))), (6, (.slice in6 in6n in6c)), (7, (.slice out7 out7n out7c)), (8, (.int .i64 i8))]) K h
@[irreducible] def B1 (K : EP) : EP := seqK (fun fr h => Lp PP true (cd 500) (fr.mask 467) K h) K
@[irreducible] def K4 (K : EP) : EP := seqK (fun fr h => ev PP true none (cd 2003) (an 2003) (fr.mask 467) (B1 K) h) (B1 K)
@[irreducible] def K3 (K : EP) : EP := blockK 1 (K4 K)
@[irreducible] def J2 (key0 : OA) (key0n key0c : Nat) (b1 : OA) (b1n b1c : Nat) (t4 : Addr) (in6 : OA) (in6n in6c : Nat) (out7 : OA) (out7n out7c : Nat) (i8 c9 : Int) (K : EP) (h : Heap) : Prop := Jn PP true (cd 16019) (mkFr 0 47 [(0, (.slice key0 key0n key0c)), (1, (.slice b1 b1n b1c)), (4, (.pointer (some t4))), (6, (.slice in6 in6n in6c)), (7, (.slice out7 out7n out7c)), (8, (.int .i64 i8)), (9, (.int .u8 c9))]) (K3 K) h
theorem J1_of {key0 : OA} {key0n key0c : Nat} {b1 : OA} {b1n b1c : Nat} {t4 : Addr} {Q : VP} {h : Heap} (H :
 L1 key0 key0n key0c b1 b1n b1c t4 none 0 0 none 0 0 0 (K1 Q) h) : J1 key0 key0n key0c b1 b1n b1c t4 Q h := by unfold J1; exact Jn.of_txt (an 7) (by kernel_rfl) H
theorem L1_of {key0 : OA} {key0n key0c : Nat} {b1 : OA} {b1n b1c : Nat} {t4 : Addr} {in6 : OA} {in6n in6c : Nat} {out7 : OA} {out7n out7c : Nat} {i8 : Int} {K : EP} {h : Heap} (H :
 let t18 : Bool := decide (i8 < 64)
 br t18 (
 let t24 : Bool := decide (i8 < (key0n : Int))
 br t24 (
 hwp PP (Instr.indexAt T_sl_uint8 (.slice key0 key0n key0c) (.int .i64 i8)) (fun v h1 => ∃ (t27 : Addr), v = (.pointer (some t27)) ∧
 ∃ (t28 : Int), cellH h1 t27 = some (.int .u8 t28) ∧
 J2 key0 key0n key0c b1 b1n b1c t4 in6 in6n in6c out7 out7n out7c i8 t28 K h1) h) (
 J2 key0 key0n key0c b1 b1n b1c t4 in6 in6n in6c out7 out7n out7c i8 0 K h)) (
 K (.exit 0) (X0 b1 b1n b1c t4 in6 in6n in6c out7 out7n out7c) h)) : L1 key0 key0n key0c b1 b1n b1c t4 in6 in6n in6c out7 out7n out7c i8 K h := by unfold L1; exact Lp.of_txt (an 500) 467 (by kernel_rfl) H
theorem L1_X0 {Q : VP} {b1 : OA} {b1n b1c : Nat} {t4 : Addr} {in6 : OA} {in6n in6c : Nat} {out7 : OA} {out7n out7c : Nat} {h : Heap} (H :
 hwp PP (Builtin.append_ #[T_sl_uint8, T_sl_uint8] T_sl_uint8 #[(.slice in6 in6n in6c), (.slice b1 b1n b1c)]) (fun v h1 => ∃ (t41 : OA) (t41n t41c : Nat), v = (.slice t41 t41n t41c) ∧
 SpecH PP F_ref15_Sum [(.slice t41 t41n t41c)] h1 (fun v_1 h2 => ∃ (t42 : List Value), v_1 = (.agg (t42).toArray) ∧
 let inner10 : Addr := ⟨Array.size h2, 0, none⟩
 let h3 : Heap := Array.push h2 (.cells (Array.replicate 32 (.int .u8 0)) T_32_uint8 (0, 0))
 br (decide (Array.size (List.toArray t42) = 32)) (wrCells inner10 0 t42 (fun h4 =>
 hwp PP (Instr.sliceAt T_32_uint8 (.pointer (some inner10)) none none none) (fun v_2 h5 => ∃ (t44 : OA) (t44n t44c : Nat), v_2 = (.slice t44 t44n t44c) ∧
 hwp PP (Builtin.append_ #[T_sl_uint8, T_sl_uint8] T_sl_uint8 #[(.slice out7 out7n out7c), (.slice t44 t44n t44c)]) (fun v_3 h6 => ∃ (t45 : OA) (t45n t45c : Nat), v_3 = (.slice t45 t45n t45c) ∧
 SpecH PP F_ref15_Sum [(.slice t45 t45n t45c)] h6 (fun v_4 h7 => ∃ (t46 : List Value), v_4 = (.agg (t46).toArray) ∧
 br (decide (Array.size (List.toArray t46) = 32)) (wrCells t4 0 t46 (fun h8 =>
 ∃ (t4_1 : List Value), List.length t4_1 = 32 ∧ rdCells h8 t4 0 t4_1 ∧
 Q (.agg (t4_1).toArray) h8) h7) False)) h5) h4) h3) False)) h) : (K1 Q) (.exit 0) (X0 b1 b1n b1c t4 in6 in6n in6c out7 out7n out7c) h := of_eq_txt (by kernel_rfl) H
theorem J2_of {key0 : OA} {key0n key0c : Nat} {b1 : OA} {b1n b1c : Nat} {t4 : Addr} {in6 : OA} {in6n in6c : Nat} {out7 : OA} {out7n out7c : Nat} {i8 c9 : Int} {K : EP} {h : Heap} (H :
 let t31 : Int := bXor .u8 c9 54
 let h1 : Heap := Array.push h (.cells #[(.int .u8 t31)] T_uint8 (0, 0))
 hwp PP (Builtin.append_ #[T_sl_uint8, T_sl_uint8] T_sl_uint8 #[(.slice in6 in6n in6c), (.slice (some ⟨Array.size h, 0, none⟩) 1 1)]) (fun v h2 => ∃ (t33 : OA) (t33n t33c : Nat), v = (.slice t33 t33n t33c) ∧
 let t36 : Int := bXor .u8 c9 92
 let h3 : Heap := Array.push h2 (.cells #[(.int .u8 t36)] T_uint8 (0, 0))
 hwp PP (Builtin.append_ #[T_sl_uint8, T_sl_uint8] T_sl_uint8 #[(.slice out7 out7n out7c), (.slice (some ⟨Array.size h2, 0, none⟩) 1 1)]) (fun v_1 h4 => ∃ (t38 : OA) (t38n t38c : Nat), v_1 = (.slice t38 t38n t38c) ∧
 let t20 : Int := IntKind.i64.wrap (i8 + 1)
 L1 key0 key0n key0c b1 b1n b1c t4 t33 t33n t33c t38 t38n t38c t20 K h4) h3) h1) : J2 key0 key0n key0c b1 b1n b1c t4 in6 in6n in6c out7 out7n out7c i8 c9 K h := by unfold J2; exact Jn.of_txt (an 16019) (by kernel_rfl) H
theorem door {key0 : OA} {key0n key0c : Nat} {b1 : OA} {b1n b1c : Nat} {Q : VP} {h : Heap} (H :
 let t4 : Addr := ⟨Array.size h, 0, none⟩
 let h1 : Heap := Array.push h (.cells (Array.replicate 32 (.int .u8 0)) T_32_uint8 (0, 0))
 let t13 : Bool := decide ((key0n : Int) > 64)
 br t13 (
 SpecH PP F_ref15_Sum [(.slice key0 key0n key0c)] h1 (fun v h2 => ∃ (t15 : List Value), v = (.agg (t15).toArray) ∧
 let short5 : Addr := ⟨Array.size h2, 0, none⟩
 let h3 : Heap := Array.push h2 (.cells (Array.replicate 32 (.int .u8 0)) T_32_uint8 (0, 0))
 br (decide (Array.size (List.toArray t15) = 32)) (wrCells short5 0 t15 (fun h4 =>
 hwp PP (Instr.sliceAt T_32_uint8 (.pointer (some short5)) none none none) (fun v_1 h5 => ∃ (t16 : OA) (t16n t16c : Nat), v_1 = (.slice t16 t16n t16c) ∧
 J1 t16 t16n t16c b1 b1n b1c t4 Q h5) h4) h3) False)) (
 J1 key0 key0n key0c b1 b1n b1c t4 Q h1)) : SpecH PP F_ref15_Mac [(.slice key0 key0n key0c), (.slice b1 b1n b1c)] h Q :=
   spec_of_txt (ann := ann) Tryd.func13 rfl rfl (by kernel_rfl) H
end ref15_Mac
/-! ### haversack/hmac.New: function 14 -/
namespace hmac_New
def ann : Ann := (.seq 0 (.region [(List.range 1, 0)]) (.seq 1 (.region [(List.range 4, 1)]) (.exit 1)))
noncomputable abbrev cd (n : Nat) : Code := sub (bodyOf Tryd.f14) (pth n)
abbrev an (n : Nat) : Ann := subA ann (pth n)
theorem door  {Q : VP} {h : Heap} (H :
 let t3 : Addr := ⟨Array.size h, 0, none⟩
 let h1 : Heap := Array.push h (.cells #[(.int .u32 1779033703), (.int .u32 3144134277), (.int .u32 1013904242), (.int .u32 2773480762), (.int .u32 1359893119), (.int .u32 2600822924), (.int .u32 528734635), (.int .u32 1541459225), (.slice none 0 0), (.int .u64 0)] T_hmac_Hash (0, 0))
 Q (.pointer (some t3)) h1) : SpecH PP F_hmac_New [] h Q :=
   spec_of_txt (ann := ann) Tryd.func14 rfl rfl (by kernel_rfl) H
end hmac_New
/-! ### (*haversack/hmac.Hash).Write: function 15 -/
namespace hmac_Hash_Write
def ann : Ann := (.seq 3 (.seq 35 (.region [(List.range 2, 35)]) (.cond (.exit 0) .leaf)) (.seq 3 (.region [(List.range 11, 3)]) (.seq 1 (.region [(List.range 10, 1)]) (.block (.loop 1 (.seq 1 (.seq 1073741825 (.region [(List.range 6, 1073741825)]) (.cond .leaf (.exit 0))) (.block (.seq 1 (.region [(List.range 7, 1)]) (.region [(List.range 9, 1)])))))))))
noncomputable abbrev cd (n : Nat) : Code := sub (bodyOf Tryd.f15) (pth n)
abbrev an (n : Nat) : Ann := subA ann (pth n)
@[irreducible] def X0  : Fr := (mkFr 0 46 [])
@[irreducible] def L1 (xh0 : OA) (K : EP) (h : Heap) : Prop := Lp PP true (cd 60) (mkFr 0 46 [(0, (.pointer xh0))]) K h
@[irreducible] def B1 (K : EP) : EP := seqK (fun fr h => Lp PP true (cd 60) (fr.mask 1) K h) K
@[irreducible] def K1 (Q : VP) : EP := blockK 0 (bodyK PP Tryd.f15 Q)
theorem L1_of {xh0 : OA} {K : EP} {h : Heap} (H :
 nilc xh0 (fun t26 =>
 ∃ (t28 : OA) (t28n t28c : Nat), cellH h (Addr.add t26 8) = some (.slice t28 t28n t28c) ∧
 let t30 : Bool := decide ((t28n : Int) ≥ 64)
 br t30 (
 nilc xh0 (fun t33 =>
 ∃ (t35 : OA) (t35n t35c : Nat), cellH h (Addr.add t33 8) = some (.slice t35 t35n t35c) ∧
 hwp PP (Instr.sliceAt T_sl_uint8 (.slice t35 t35n t35c) none (some (.int .i64 64)) none) (fun v h1 => ∃ (t36 : OA) (t36n t36c : Nat), v = (.slice t36 t36n t36c) ∧
 SpecH PP F_hmac_Hash_block [(.pointer xh0), (.slice t36 t36n t36c)] h1 (fun v_1 h2 => v_1 = (.tuple #[]) ∧
 nilc xh0 (fun t40 =>
 ∃ (t42 : OA) (t42n t42c : Nat), cellH h2 (Addr.add t40 8) = some (.slice t42 t42n t42c) ∧
 hwp PP (Instr.sliceAt T_sl_uint8 (.slice t42 t42n t42c) (some (.int .i64 64)) none none) (fun v_2 h3 => ∃ (t43 : OA) (t43n t43c : Nat), v_2 = (.slice t43 t43n t43c) ∧
 nilc xh0 (fun t44 =>
 wr (Addr.add t44 8) (.slice t43 t43n t43c) (fun h4 =>
 L1 xh0 K h4) h3)) h2))) h)) (
 K (.exit 0) (X0) h))) : L1 xh0 K h := by unfold L1; exact Lp.of_txt (an 60) 1 (by kernel_rfl) H
theorem L1_X0 {Q : VP}  {h : Heap} (H :
 Q (.tuple #[]) h) : (K1 Q) (.exit 0) (X0 ) h := of_eq_txt (by kernel_rfl) H
theorem door {xh0 b1 : OA} {b1n b1c : Nat} {Q : VP} {h : Heap} (H :
 let t5 : Bool := (Option.isNone xh0)
 br t5 (
 Q (.tuple #[]) h) (
 nilc xh0 (fun t7 =>
 ∃ (t9 : Int), cellH h (Addr.add t7 9) = some (.int .u64 t9) ∧
 let t12 : Int := IntKind.u64.wrap (b1n : Int)
 let t13 : Int := IntKind.u64.wrap (t9 + t12)
 nilc xh0 (fun t14 =>
 wr (Addr.add t14 9) (.int .u64 t13) (fun h1 =>
 nilc xh0 (fun t18 =>
 ∃ (t20 : OA) (t20n t20c : Nat), cellH h1 (Addr.add t18 8) = some (.slice t20 t20n t20c) ∧
 hwp PP (Builtin.append_ #[T_sl_uint8, T_sl_uint8] T_sl_uint8 #[(.slice t20 t20n t20c), (.slice b1 b1n b1c)]) (fun v h2 => ∃ (t22 : OA) (t22n t22c : Nat), v = (.slice t22 t22n t22c) ∧
 nilc xh0 (fun t23 =>
 wr (Addr.add t23 8) (.slice t22 t22n t22c) (fun h3 =>
 L1 xh0 (K1 Q) h3) h2)) h1)) h)))) : SpecH PP F_hmac_Hash_Write [(.pointer xh0), (.slice b1 b1n b1c)] h Q :=
   spec_of_txt (ann := ann) Tryd.func15 rfl rfl (by kernel_rfl) H
end hmac_Hash_Write
/-! ### (*haversack/hmac.Hash).Sum: function 16 -/
namespace hmac_Hash_Sum
def ann : Ann := (.seq 5 (.region [(List.range 1, 5)]) (.seq 13 (.region [(List.range 1, 13)]) (.seq 13 (.seq 4109 (.region [(List.range 2, 4109)]) (.cond (.seq 4 (.region [(List.range 2, 4)]) (.exit 4)) .leaf)) (.seq 29 (.tree (.run [0, 1, 2, 4, 5, 6, 9, 10, 11, 12] (.alt 3 (.alt 7 (.run [8, 13, 14, 15, 16] .done) (.alt 8 (.alt 7 (.run [13, 14, 15, 16] .done) (.alt 13 (.run [7, 14, 15, 16] .done) .nil)) .nil)) (.alt 7 (.alt 3 (.run [8, 13, 14, 15, 16] .done) (.alt 8 (.alt 3 (.run [13, 14, 15, 16] .done) (.alt 13 (.run [3, 14, 15, 16] .done) .nil)) .nil)) (.alt 8 (.alt 3 (.alt 7 (.run [13, 14, 15, 16] .done) (.alt 13 (.run [7, 14, 15, 16] .done) .nil)) (.alt 7 (.alt 3 (.run [13, 14, 15, 16] .done) (.alt 13 (.run [3, 14, 15, 16] .done) .nil)) (.alt 13 (.run [3, 7, 14, 15, 16] .done) .nil))) .nil)))) 29) (.join (.seq 60 (.region [(List.range 6, 60)]) (.seq 60 (.region [(List.range 3, 60)]) (.seq 60 (.block (.loop 60 (.seq 60 (.seq 8796093022268 (.region [(List.range 6, 8796093022268)]) (.cond .leaf (.exit 60))) (.block (.region [(List.range 3, 60)]))))) (.seq 124 (.region [(List.range 1, 124)]) (.seq 92 (.seq 252 (.region [(List.range 1, 252)]) (.block (.loop 252 (.seq 252 (.seq 281474976710908 (.region [(List.range 2, 281474976710908)]) (.cond .leaf (.exit 92))) (.seq 252 (.block (.region [(List.range 8, 252)])) (.region [(List.range 3, 252)])))))) (.seq 28 (.region [(List.range 3, 28)]) (.seq 12 (.seq 55340232221128654860 (.region [(List.range 5, 55340232221128654860)]) (.block (.loop 55340232221128654860 (.seq 129127208515966861324 (.region [(List.range 1, 129127208515966861324)]) (.seq 55340232221128654860 (.cond .leaf (.exit 12)) (.seq 55340232221128654860 (.block (.seq 55340232221128655628 (.region [(List.range 4, 55340232221128655628)]) (.seq 645636042579834307340 (.region [(List.range 1, 645636042579834307340)]) (.block (.loop 645636042579834307340 (.seq 1826227663297245610764 (.region [(List.range 1, 1826227663297245610764)]) (.seq 645636042579834307340 (.cond .leaf (.exit 55340232221128654860)) (.seq 645636042579834307340 (.block (.seq 645636042579834308364 (.region [(List.range 2, 645636042579834308364)]) (.region [(List.range 12, 645636042579834307340)]))) (.region [(List.range 2, 645636042579834307340)]))))))))) (.region [(List.range 2, 55340232221128654860)]))))))) (.seq 4 (.region [(List.range 2, 4)]) (.exit 4))))))))))))))
noncomputable abbrev cd (n : Nat) : Code := sub (bodyOf Tryd.f16) (pth n)
abbrev an (n : Nat) : Ann := subA ann (pth n)
@[irreducible] def X0 (t2 out3 x4 : Addr) (xn5 : Int) : Fr := (mkFr 0 86 [(2, (.pointer (some t2))), (3, (.pointer (some out3))), (4, (.pointer (some x4))), (5, (.int .u64 xn5))])
@[irreducible] def X2 (t2 out3 x4 : Addr) (length6 : OA) (length6n length6c : Nat) : Fr := (mkFr 0 86 [(2, (.pointer (some t2))), (3, (.pointer (some out3))), (4, (.pointer (some x4))), (6, (.slice length6 length6n length6c))])
@[irreducible] def X4 (t2 out3 : Addr) : Fr := (mkFr 0 86 [(2, (.pointer (some t2))), (3, (.pointer (some out3)))])
@[irreducible] def X6 (t2 out3 : Addr) (t64f0 t64f1 t64f2 t64f3 t64f4 t64f5 t64f6 t64f7 t65 : Int) : Fr := (mkFr 0 86 [(2, (.pointer (some t2))), (3, (.pointer (some out3))), (64, (.agg #[(.int .u32 t64f0), (.int .u32 t64f1), (.int .u32 t64f2), (.int .u32 t64f3), (.int .u32 t64f4), (.int .u32 t64f5), (.int .u32 t64f6), (.int .u32 t64f7)])), (65, (.int .i64 t65))])
@[irreducible] def J1 (xh0 : OA) (t2 out3 x4 : Addr) (Q : VP) (h : Heap) : Prop := Jn PP true (cd 31) (mkFr 0 86 [(0, (.pointer xh0)), (2, (.pointer (some t2))), (3, (.pointer (some out3))), (4, (.pointer (some x4)))]) (bodyK PP Tryd.f16 Q) h
@[irreducible] def K2 (Q : VP) : EP := seqK (fun fr h => ev PP true none (cd 255) (an 255) (fr.mask 60) (bodyK PP Tryd.f16 Q) h) (bodyK PP Tryd.f16 Q)
@[irreducible] def K1 (Q : VP) : EP := blockK 0 (K2 Q)
@[irreducible] def L1 (t2 out3 x4 : Addr) (xn5 : Int) (K : EP) (h : Heap) : Prop := Lp PP true (cd 1016) (mkFr 0 86 [(2, (.pointer (some t2))), (3, (.pointer (some out3))), (4, (.pointer (some x4))), (5, (.int .u64 xn5))]) K h
@[irreducible] def B1 (K : EP) : EP := seqK (fun fr h => Lp PP true (cd 1016) (fr.mask 60) K h) K
@[irreducible] def K4 (Q : VP) : EP := seqK (fun fr h => ev PP true none (cd 1023) (an 1023) (fr.mask 92) (bodyK PP Tryd.f16 Q) h) (bodyK PP Tryd.f16 Q)
@[irreducible] def K3 (Q : VP) : EP := blockK 2 (K4 Q)
@[irreducible] def L2 (t2 out3 x4 : Addr) (xn5 : Int) (length6 : OA) (length6n length6c : Nat) (i7 : Int) (K : EP) (h : Heap) : Prop := Lp PP true (cd 8180) (mkFr 0 86 [(2, (.pointer (some t2))), (3, (.pointer (some out3))), (4, (.pointer (some x4))), (5, (.int .u64 xn5)), (6, (.slice length6 length6n length6c)), (7, (.int .i64 i7))]) K h
@[irreducible] def B2 (K : EP) : EP := seqK (fun fr h => Lp PP true (cd 8180) (fr.mask 252) K h) K
@[irreducible] def K6 (Q : VP) : EP := seqK (fun fr h => ev PP true none (cd 4095) (an 4095) (fr.mask 12) (bodyK PP Tryd.f16 Q) h) (bodyK PP Tryd.f16 Q)
@[irreducible] def K5 (Q : VP) : EP := blockK 4 (K6 Q)
@[irreducible] def L3 (t2 out3 : Addr) (t64f0 t64f1 t64f2 t64f3 t64f4 t64f5 t64f6 t64f7 t65 : Int) (K : EP) (h : Heap) : Prop := Lp PP true (cd 32756) (mkFr 0 86 [(2, (.pointer (some t2))), (3, (.pointer (some out3))), (64, (.agg #[(.int .u32 t64f0), (.int .u32 t64f1), (.int .u32 t64f2), (.int .u32 t64f3), (.int .u32 t64f4), (.int .u32 t64f5), (.int .u32 t64f6), (.int .u32 t64f7)])), (65, (.int .i64 t65))]) K h
@[irreducible] def B3 (K : EP) : EP := seqK (fun fr h => Lp PP true (cd 32756) (fr.mask 55340232221128654860) K h) K
@[irreducible] def K9 (K : EP) : EP := seqK (fun fr h => ev PP true none (cd 262055) (an 262055) (fr.mask 55340232221128654860) (B3 K) h) (B3 K)
@[irreducible] def K8 (K : EP) : EP := blockK 5 (K9 K)
@[irreducible] def K7 (K : EP) : EP := blockK 6 (K8 K)
@[irreducible] def L4 (t2 out3 : Addr) (i8 v9 t64f0 t64f1 t64f2 t64f3 t64f4 t64f5 t64f6 t64f7 t65 t69 : Int) (K : EP) (h : Heap) : Prop := Lp PP true (cd 8385740) (mkFr 0 86 [(2, (.pointer (some t2))), (3, (.pointer (some out3))), (8, (.int .i64 i8)), (9, (.int .u32 v9)), (64, (.agg #[(.int .u32 t64f0), (.int .u32 t64f1), (.int .u32 t64f2), (.int .u32 t64f3), (.int .u32 t64f4), (.int .u32 t64f5), (.int .u32 t64f6), (.int .u32 t64f7)])), (65, (.int .i64 t65)), (69, (.int .i64 t69))]) K h
@[irreducible] def B4 (K : EP) : EP := seqK (fun fr h => Lp PP true (cd 8385740) (fr.mask 645636042579834307340) K h) K
theorem J1_of {xh0 : OA} {t2 out3 x4 : Addr} {Q : VP} {h : Heap} (H :
 nilc xh0 (fun t31 =>
 ∃ (t33 : Int), cellH h (Addr.add t31 9) = some (.int .u64 t33) ∧
 let t34 : Int := IntKind.u64.wrap (8 * t33)
 let h1 : Heap := Array.push h (.cells #[(.int .u8 128)] T_uint8 (0, 0))
 SpecH PP F_hmac_Hash_Write [(.pointer (some x4)), (.slice (some ⟨Array.size h, 0, none⟩) 1 1)] h1 (fun v h2 => v = (.tuple #[]) ∧
 L1 t2 out3 x4 t34 (K1 Q) h2))) : J1 xh0 t2 out3 x4 Q h := by unfold J1; exact Jn.of_txt (an 31) (by kernel_rfl) H
theorem L1_of {t2 out3 x4 : Addr} {xn5 : Int} {K : EP} {h : Heap} (H :
 ∃ (t41 : OA) (t41n t41c : Nat), cellH h (Addr.add x4 8) = some (.slice t41 t41n t41c) ∧
 let t43 : Bool := ((t41n : Int) != 56)
 br t43 (
 let h1 : Heap := Array.push h (.cells #[(.int .u8 0)] T_uint8 (0, 0))
 SpecH PP F_hmac_Hash_Write [(.pointer (some x4)), (.slice (some ⟨Array.size h, 0, none⟩) 1 1)] h1 (fun v h2 => v = (.tuple #[]) ∧
 L1 t2 out3 x4 xn5 K h2)) (
 K (.exit 0) (X0 t2 out3 x4 xn5) h)) : L1 t2 out3 x4 xn5 K h := by unfold L1; exact Lp.of_txt (an 1016) 60 (by kernel_rfl) H
theorem L1_X0 {Q : VP} {t2 out3 x4 : Addr} {xn5 : Int} {h : Heap} (H :
 L2 t2 out3 x4 xn5 none 0 0 56 (K3 Q) h) : (K1 Q) (.exit 0) (X0 t2 out3 x4 xn5) h := of_eq_txt (by kernel_rfl) H
theorem L2_of {t2 out3 x4 : Addr} {xn5 : Int} {length6 : OA} {length6n length6c : Nat} {i7 : Int} {K : EP} {h : Heap} (H :
 let t48 : Bool := decide (i7 ≥ 0)
 br t48 (
 br (decide (0 ≤ i7)) (
 let t54 : Int := sShr .u64 xn5 i7
 let t55 : Int := IntKind.u8.wrap t54
 let h1 : Heap := Array.push h (.cells #[(.int .u8 t55)] T_uint8 (0, 0))
 hwp PP (Builtin.append_ #[T_sl_uint8, T_sl_uint8] T_sl_uint8 #[(.slice length6 length6n length6c), (.slice (some ⟨Array.size h, 0, none⟩) 1 1)]) (fun v h2 => ∃ (t57 : OA) (t57n t57c : Nat), v = (.slice t57 t57n t57c) ∧
 let t50 : Int := IntKind.i64.wrap (i7 - 8)
 L2 t2 out3 x4 xn5 t57 t57n t57c t50 K h2) h1) False) (
 K (.exit 2) (X2 t2 out3 x4 length6 length6n length6c) h)) : L2 t2 out3 x4 xn5 length6 length6n length6c i7 K h := by unfold L2; exact Lp.of_txt (an 8180) 252 (by kernel_rfl) H
theorem L2_X2 {Q : VP} {t2 out3 x4 : Addr} {length6 : OA} {length6n length6c : Nat} {h : Heap} (H :
 SpecH PP F_hmac_Hash_Write [(.pointer (some x4)), (.slice length6 length6n length6c)] h (fun v h1 => v = (.tuple #[]) ∧
 ∃ (t64f0 t64f1 t64f2 t64f3 t64f4 t64f5 t64f6 t64f7 : Int), rdCells h1 x4 0 [(.int .u32 t64f0), (.int .u32 t64f1), (.int .u32 t64f2), (.int .u32 t64f3), (.int .u32 t64f4), (.int .u32 t64f5), (.int .u32 t64f6), (.int .u32 t64f7)] ∧
 L3 t2 out3 t64f0 t64f1 t64f2 t64f3 t64f4 t64f5 t64f6 t64f7 0 (K5 Q) h1)) : (K3 Q) (.exit 2) (X2 t2 out3 x4 length6 length6n length6c) h := of_eq_txt (by kernel_rfl) H
theorem L3_of {t2 out3 : Addr} {t64f0 t64f1 t64f2 t64f3 t64f4 t64f5 t64f6 t64f7 t65 : Int} {K : EP} {h : Heap} (H :
 let t66 : Bool := decide (t65 < 8)
 br t66 (
 hwp PP (Instr.index T_8_uint32 (.agg #[(.int .u32 t64f0), (.int .u32 t64f1), (.int .u32 t64f2), (.int .u32 t64f3), (.int .u32 t64f4), (.int .u32 t64f5), (.int .u32 t64f6), (.int .u32 t64f7)]) (.int .i64 t65)) (fun v h1 => ∃ (t68 : Int), v = (.int .u32 t68) ∧
 L4 t2 out3 t65 t68 t64f0 t64f1 t64f2 t64f3 t64f4 t64f5 t64f6 t64f7 t65 0 (K7 K) h1) h) (
 K (.exit 4) (X4 t2 out3) h)) : L3 t2 out3 t64f0 t64f1 t64f2 t64f3 t64f4 t64f5 t64f6 t64f7 t65 K h := by unfold L3; exact Lp.of_txt (an 32756) 55340232221128654860 (by kernel_rfl) H
theorem L3_X4 {Q : VP} {t2 out3 : Addr} {h : Heap} (H :
 ∃ (t85 : List Value), List.length t85 = 32 ∧ rdCells h out3 0 t85 ∧
 br (decide (Array.size (List.toArray t85) = 32)) (wrCells t2 0 t85 (fun h1 =>
 ∃ (t2_1 : List Value), List.length t2_1 = 32 ∧ rdCells h1 t2 0 t2_1 ∧
 Q (.agg (t2_1).toArray) h1) h) False) : (K5 Q) (.exit 4) (X4 t2 out3) h := of_eq_txt (by kernel_rfl) H
theorem L4_of {t2 out3 : Addr} {i8 v9 t64f0 t64f1 t64f2 t64f3 t64f4 t64f5 t64f6 t64f7 t65 t69 : Int} {K : EP} {h : Heap} (H :
 let t70 : Bool := decide (t69 < 4)
 br t70 (
 let t73 : Int := IntKind.i64.wrap (4 * i8)
 let t75 : Int := IntKind.i64.wrap (t73 + t69)
 let t78 : Int := IntKind.i64.wrap (8 * t69)
 let t79 : Int := IntKind.i64.wrap (24 - t78)
 br (decide (0 ≤ t79)) (
 let t80 : Int := sShr .u32 v9 t79
 let t81 : Int := IntKind.u8.wrap t80
 hwp PP (Instr.indexAt T_32_uint8 (.pointer (some out3)) (.int .i64 t75)) (fun v h1 => ∃ (t82 : Addr), v = (.pointer (some t82)) ∧
 wr t82 (.int .u8 t81) (fun h2 =>
 let t83 : Int := IntKind.i64.wrap (t69 + 1)
 L4 t2 out3 i8 v9 t64f0 t64f1 t64f2 t64f3 t64f4 t64f5 t64f6 t64f7 t65 t83 K h2) h1) h) False) (
 K (.exit 6) (X6 t2 out3 t64f0 t64f1 t64f2 t64f3 t64f4 t64f5 t64f6 t64f7 t65) h)) : L4 t2 out3 i8 v9 t64f0 t64f1 t64f2 t64f3 t64f4 t64f5 t64f6 t64f7 t65 t69 K h := by unfold L4; exact Lp.of_txt (an 8385740) 645636042579834307340 (by kernel_rfl) H
theorem L4_X6 {K : EP} {t2 out3 : Addr} {t64f0 t64f1 t64f2 t64f3 t64f4 t64f5 t64f6 t64f7 t65 : Int} {h : Heap} (H :
 let t84 : Int := IntKind.i64.wrap (t65 + 1)
 L3 t2 out3 t64f0 t64f1 t64f2 t64f3 t64f4 t64f5 t64f6 t64f7 t84 K h) : (K7 K) (.exit 6) (X6 t2 out3 t64f0 t64f1 t64f2 t64f3 t64f4 t64f5 t64f6 t64f7 t65) h := of_eq_txt (by kernel_rfl) H
theorem door {xh0 : OA} {Q : VP} {h : Heap} (H :
 let t2 : Addr := ⟨Array.size h, 0, none⟩
 let h1 : Heap := Array.push h (.cells (Array.replicate 32 (.int .u8 0)) T_32_uint8 (0, 0))
 let out3 : Addr := ⟨Array.size h1, 0, none⟩
 let h2 : Heap := Array.push h1 (.cells (Array.replicate 32 (.int .u8 0)) T_32_uint8 (0, 0))
 let t12 : Bool := (Option.isNone xh0)
 br t12 (
 ∃ (t13 : List Value), List.length t13 = 32 ∧ rdCells h2 out3 0 t13 ∧
 br (decide (Array.size (List.toArray t13) = 32)) (wrCells t2 0 t13 (fun h3 =>
 ∃ (t2_1 : List Value), List.length t2_1 = 32 ∧ rdCells h3 t2 0 t2_1 ∧
 Q (.agg (t2_1).toArray) h3) h2) False) (
 nilc xh0 (fun t15 =>
 nilc xh0 (fun t19 =>
 nilc xh0 (fun t24 =>
 ∃ (t26 : OA) (t26n t26c : Nat), cellH h2 (Addr.add t24 8) = some (.slice t26 t26n t26c) ∧
 (
 ∃ (t17_7f0 t17_7f1 t17_7f2 t17_7f3 t17_7f4 t17_7f5 t17_7f6 t17_7f7 : Int), rdCells h2 t15 0 [(.int .u32 t17_7f0), (.int .u32 t17_7f1), (.int .u32 t17_7f2), (.int .u32 t17_7f3), (.int .u32 t17_7f4), (.int .u32 t17_7f5), (.int .u32 t17_7f6), (.int .u32 t17_7f7)] ∧
 (
 ∃ (t21_7 : Int), cellH h2 (Addr.add t19 9) = some (.int .u64 t21_7) ∧
 let h28 : Heap := Array.push h2 (.cells #[] T_uint8 (0, 0))
 hwp PP (Builtin.append_ #[T_sl_uint8, T_sl_uint8] T_sl_uint8 #[(.slice (some ⟨Array.size h2, 0, none⟩) 0 0), (.slice t26 t26n t26c)]) (fun v_10 h29 => ∃ (t27_10 : OA) (t27_10n t27_10c : Nat), v_10 = (.slice t27_10 t27_10n t27_10c) ∧
 let t29_10 : Addr := ⟨Array.size h29, 0, none⟩
 let h30 : Heap := Array.push h29 (.cells #[(.int .u32 t17_7f0), (.int .u32 t17_7f1), (.int .u32 t17_7f2), (.int .u32 t17_7f3), (.int .u32 t17_7f4), (.int .u32 t17_7f5), (.int .u32 t17_7f6), (.int .u32 t17_7f7), (.slice t27_10 t27_10n t27_10c), (.int .u64 t21_7)] T_hmac_Hash (0, 0))
 J1 xh0 t2 out3 t29_10 Q h30) h28) ∧
 (
 let h23 : Heap := Array.push h2 (.cells #[] T_uint8 (0, 0))
 (
 ∃ (t21_6 : Int), cellH h23 (Addr.add t19 9) = some (.int .u64 t21_6) ∧
 hwp PP (Builtin.append_ #[T_sl_uint8, T_sl_uint8] T_sl_uint8 #[(.slice (some ⟨Array.size h2, 0, none⟩) 0 0), (.slice t26 t26n t26c)]) (fun v_9 h26 => ∃ (t27_9 : OA) (t27_9n t27_9c : Nat), v_9 = (.slice t27_9 t27_9n t27_9c) ∧
 let t29_9 : Addr := ⟨Array.size h26, 0, none⟩
 let h27 : Heap := Array.push h26 (.cells #[(.int .u32 t17_7f0), (.int .u32 t17_7f1), (.int .u32 t17_7f2), (.int .u32 t17_7f3), (.int .u32 t17_7f4), (.int .u32 t17_7f5), (.int .u32 t17_7f6), (.int .u32 t17_7f7), (.slice t27_9 t27_9n t27_9c), (.int .u64 t21_6)] T_hmac_Hash (0, 0))
 J1 xh0 t2 out3 t29_9 Q h27) h23) ∧
 (
 hwp PP (Builtin.append_ #[T_sl_uint8, T_sl_uint8] T_sl_uint8 #[(.slice (some ⟨Array.size h2, 0, none⟩) 0 0), (.slice t26 t26n t26c)]) (fun v_8 h24 => ∃ (t27_8 : OA) (t27_8n t27_8c : Nat), v_8 = (.slice t27_8 t27_8n t27_8c) ∧
 ∃ (t21_5 : Int), cellH h24 (Addr.add t19 9) = some (.int .u64 t21_5) ∧
 let t29_8 : Addr := ⟨Array.size h24, 0, none⟩
 let h25 : Heap := Array.push h24 (.cells #[(.int .u32 t17_7f0), (.int .u32 t17_7f1), (.int .u32 t17_7f2), (.int .u32 t17_7f3), (.int .u32 t17_7f4), (.int .u32 t17_7f5), (.int .u32 t17_7f6), (.int .u32 t17_7f7), (.slice t27_8 t27_8n t27_8c), (.int .u64 t21_5)] T_hmac_Hash (0, 0))
 J1 xh0 t2 out3 t29_8 Q h25) h23) ∧
 True) ∧
 True) ∧
 (
 ∃ (t21_4 : Int), cellH h2 (Addr.add t19 9) = some (.int .u64 t21_4) ∧
 (
 ∃ (t17_6f0 t17_6f1 t17_6f2 t17_6f3 t17_6f4 t17_6f5 t17_6f6 t17_6f7 : Int), rdCells h2 t15 0 [(.int .u32 t17_6f0), (.int .u32 t17_6f1), (.int .u32 t17_6f2), (.int .u32 t17_6f3), (.int .u32 t17_6f4), (.int .u32 t17_6f5), (.int .u32 t17_6f6), (.int .u32 t17_6f7)] ∧
 let h20 : Heap := Array.push h2 (.cells #[] T_uint8 (0, 0))
 hwp PP (Builtin.append_ #[T_sl_uint8, T_sl_uint8] T_sl_uint8 #[(.slice (some ⟨Array.size h2, 0, none⟩) 0 0), (.slice t26 t26n t26c)]) (fun v_7 h21 => ∃ (t27_7 : OA) (t27_7n t27_7c : Nat), v_7 = (.slice t27_7 t27_7n t27_7c) ∧
 let t29_7 : Addr := ⟨Array.size h21, 0, none⟩
 let h22 : Heap := Array.push h21 (.cells #[(.int .u32 t17_6f0), (.int .u32 t17_6f1), (.int .u32 t17_6f2), (.int .u32 t17_6f3), (.int .u32 t17_6f4), (.int .u32 t17_6f5), (.int .u32 t17_6f6), (.int .u32 t17_6f7), (.slice t27_7 t27_7n t27_7c), (.int .u64 t21_4)] T_hmac_Hash (0, 0))
 J1 xh0 t2 out3 t29_7 Q h22) h20) ∧
 (
 let h15 : Heap := Array.push h2 (.cells #[] T_uint8 (0, 0))
 (
 ∃ (t17_5f0 t17_5f1 t17_5f2 t17_5f3 t17_5f4 t17_5f5 t17_5f6 t17_5f7 : Int), rdCells h15 t15 0 [(.int .u32 t17_5f0), (.int .u32 t17_5f1), (.int .u32 t17_5f2), (.int .u32 t17_5f3), (.int .u32 t17_5f4), (.int .u32 t17_5f5), (.int .u32 t17_5f6), (.int .u32 t17_5f7)] ∧
 hwp PP (Builtin.append_ #[T_sl_uint8, T_sl_uint8] T_sl_uint8 #[(.slice (some ⟨Array.size h2, 0, none⟩) 0 0), (.slice t26 t26n t26c)]) (fun v_6 h18 => ∃ (t27_6 : OA) (t27_6n t27_6c : Nat), v_6 = (.slice t27_6 t27_6n t27_6c) ∧
 let t29_6 : Addr := ⟨Array.size h18, 0, none⟩
 let h19 : Heap := Array.push h18 (.cells #[(.int .u32 t17_5f0), (.int .u32 t17_5f1), (.int .u32 t17_5f2), (.int .u32 t17_5f3), (.int .u32 t17_5f4), (.int .u32 t17_5f5), (.int .u32 t17_5f6), (.int .u32 t17_5f7), (.slice t27_6 t27_6n t27_6c), (.int .u64 t21_4)] T_hmac_Hash (0, 0))
 J1 xh0 t2 out3 t29_6 Q h19) h15) ∧
 (
 hwp PP (Builtin.append_ #[T_sl_uint8, T_sl_uint8] T_sl_uint8 #[(.slice (some ⟨Array.size h2, 0, none⟩) 0 0), (.slice t26 t26n t26c)]) (fun v_5 h16 => ∃ (t27_5 : OA) (t27_5n t27_5c : Nat), v_5 = (.slice t27_5 t27_5n t27_5c) ∧
 ∃ (t17_4f0 t17_4f1 t17_4f2 t17_4f3 t17_4f4 t17_4f5 t17_4f6 t17_4f7 : Int), rdCells h16 t15 0 [(.int .u32 t17_4f0), (.int .u32 t17_4f1), (.int .u32 t17_4f2), (.int .u32 t17_4f3), (.int .u32 t17_4f4), (.int .u32 t17_4f5), (.int .u32 t17_4f6), (.int .u32 t17_4f7)] ∧
 let t29_5 : Addr := ⟨Array.size h16, 0, none⟩
 let h17 : Heap := Array.push h16 (.cells #[(.int .u32 t17_4f0), (.int .u32 t17_4f1), (.int .u32 t17_4f2), (.int .u32 t17_4f3), (.int .u32 t17_4f4), (.int .u32 t17_4f5), (.int .u32 t17_4f6), (.int .u32 t17_4f7), (.slice t27_5 t27_5n t27_5c), (.int .u64 t21_4)] T_hmac_Hash (0, 0))
 J1 xh0 t2 out3 t29_5 Q h17) h15) ∧
 True) ∧
 True) ∧
 (
 let h4 : Heap := Array.push h2 (.cells #[] T_uint8 (0, 0))
 (
 ∃ (t17_3f0 t17_3f1 t17_3f2 t17_3f3 t17_3f4 t17_3f5 t17_3f6 t17_3f7 : Int), rdCells h4 t15 0 [(.int .u32 t17_3f0), (.int .u32 t17_3f1), (.int .u32 t17_3f2), (.int .u32 t17_3f3), (.int .u32 t17_3f4), (.int .u32 t17_3f5), (.int .u32 t17_3f6), (.int .u32 t17_3f7)] ∧
 (
 ∃ (t21_3 : Int), cellH h4 (Addr.add t19 9) = some (.int .u64 t21_3) ∧
 hwp PP (Builtin.append_ #[T_sl_uint8, T_sl_uint8] T_sl_uint8 #[(.slice (some ⟨Array.size h2, 0, none⟩) 0 0), (.slice t26 t26n t26c)]) (fun v_4 h13 => ∃ (t27_4 : OA) (t27_4n t27_4c : Nat), v_4 = (.slice t27_4 t27_4n t27_4c) ∧
 let t29_4 : Addr := ⟨Array.size h13, 0, none⟩
 let h14 : Heap := Array.push h13 (.cells #[(.int .u32 t17_3f0), (.int .u32 t17_3f1), (.int .u32 t17_3f2), (.int .u32 t17_3f3), (.int .u32 t17_3f4), (.int .u32 t17_3f5), (.int .u32 t17_3f6), (.int .u32 t17_3f7), (.slice t27_4 t27_4n t27_4c), (.int .u64 t21_3)] T_hmac_Hash (0, 0))
 J1 xh0 t2 out3 t29_4 Q h14) h4) ∧
 (
 hwp PP (Builtin.append_ #[T_sl_uint8, T_sl_uint8] T_sl_uint8 #[(.slice (some ⟨Array.size h2, 0, none⟩) 0 0), (.slice t26 t26n t26c)]) (fun v_3 h11 => ∃ (t27_3 : OA) (t27_3n t27_3c : Nat), v_3 = (.slice t27_3 t27_3n t27_3c) ∧
 ∃ (t21_2 : Int), cellH h11 (Addr.add t19 9) = some (.int .u64 t21_2) ∧
 let t29_3 : Addr := ⟨Array.size h11, 0, none⟩
 let h12 : Heap := Array.push h11 (.cells #[(.int .u32 t17_3f0), (.int .u32 t17_3f1), (.int .u32 t17_3f2), (.int .u32 t17_3f3), (.int .u32 t17_3f4), (.int .u32 t17_3f5), (.int .u32 t17_3f6), (.int .u32 t17_3f7), (.slice t27_3 t27_3n t27_3c), (.int .u64 t21_2)] T_hmac_Hash (0, 0))
 J1 xh0 t2 out3 t29_3 Q h12) h4) ∧
 True) ∧
 (
 ∃ (t21_1 : Int), cellH h4 (Addr.add t19 9) = some (.int .u64 t21_1) ∧
 (
 ∃ (t17_2f0 t17_2f1 t17_2f2 t17_2f3 t17_2f4 t17_2f5 t17_2f6 t17_2f7 : Int), rdCells h4 t15 0 [(.int .u32 t17_2f0), (.int .u32 t17_2f1), (.int .u32 t17_2f2), (.int .u32 t17_2f3), (.int .u32 t17_2f4), (.int .u32 t17_2f5), (.int .u32 t17_2f6), (.int .u32 t17_2f7)] ∧
 hwp PP (Builtin.append_ #[T_sl_uint8, T_sl_uint8] T_sl_uint8 #[(.slice (some ⟨Array.size h2, 0, none⟩) 0 0), (.slice t26 t26n t26c)]) (fun v_2 h9 => ∃ (t27_2 : OA) (t27_2n t27_2c : Nat), v_2 = (.slice t27_2 t27_2n t27_2c) ∧
 let t29_2 : Addr := ⟨Array.size h9, 0, none⟩
 let h10 : Heap := Array.push h9 (.cells #[(.int .u32 t17_2f0), (.int .u32 t17_2f1), (.int .u32 t17_2f2), (.int .u32 t17_2f3), (.int .u32 t17_2f4), (.int .u32 t17_2f5), (.int .u32 t17_2f6), (.int .u32 t17_2f7), (.slice t27_2 t27_2n t27_2c), (.int .u64 t21_1)] T_hmac_Hash (0, 0))
 J1 xh0 t2 out3 t29_2 Q h10) h4) ∧
 (
 hwp PP (Builtin.append_ #[T_sl_uint8, T_sl_uint8] T_sl_uint8 #[(.slice (some ⟨Array.size h2, 0, none⟩) 0 0), (.slice t26 t26n t26c)]) (fun v_1 h7 => ∃ (t27_1 : OA) (t27_1n t27_1c : Nat), v_1 = (.slice t27_1 t27_1n t27_1c) ∧
 ∃ (t17_1f0 t17_1f1 t17_1f2 t17_1f3 t17_1f4 t17_1f5 t17_1f6 t17_1f7 : Int), rdCells h7 t15 0 [(.int .u32 t17_1f0), (.int .u32 t17_1f1), (.int .u32 t17_1f2), (.int .u32 t17_1f3), (.int .u32 t17_1f4), (.int .u32 t17_1f5), (.int .u32 t17_1f6), (.int .u32 t17_1f7)] ∧
 let t29_1 : Addr := ⟨Array.size h7, 0, none⟩
 let h8 : Heap := Array.push h7 (.cells #[(.int .u32 t17_1f0), (.int .u32 t17_1f1), (.int .u32 t17_1f2), (.int .u32 t17_1f3), (.int .u32 t17_1f4), (.int .u32 t17_1f5), (.int .u32 t17_1f6), (.int .u32 t17_1f7), (.slice t27_1 t27_1n t27_1c), (.int .u64 t21_1)] T_hmac_Hash (0, 0))
 J1 xh0 t2 out3 t29_1 Q h8) h4) ∧
 True) ∧
 (
 hwp PP (Builtin.append_ #[T_sl_uint8, T_sl_uint8] T_sl_uint8 #[(.slice (some ⟨Array.size h2, 0, none⟩) 0 0), (.slice t26 t26n t26c)]) (fun v h5 => ∃ (t27 : OA) (t27n t27c : Nat), v = (.slice t27 t27n t27c) ∧
 ∃ (t17f0 t17f1 t17f2 t17f3 t17f4 t17f5 t17f6 t17f7 : Int), rdCells h5 t15 0 [(.int .u32 t17f0), (.int .u32 t17f1), (.int .u32 t17f2), (.int .u32 t17f3), (.int .u32 t17f4), (.int .u32 t17f5), (.int .u32 t17f6), (.int .u32 t17f7)] ∧
 ∃ (t21 : Int), cellH h5 (Addr.add t19 9) = some (.int .u64 t21) ∧
 let t29 : Addr := ⟨Array.size h5, 0, none⟩
 let h6 : Heap := Array.push h5 (.cells #[(.int .u32 t17f0), (.int .u32 t17f1), (.int .u32 t17f2), (.int .u32 t17f3), (.int .u32 t17f4), (.int .u32 t17f5), (.int .u32 t17f6), (.int .u32 t17f7), (.slice t27 t27n t27c), (.int .u64 t21)] T_hmac_Hash (0, 0))
 J1 xh0 t2 out3 t29 Q h6) h4) ∧
 True) ∧
 True))))) : SpecH PP F_hmac_Hash_Sum [(.pointer xh0)] h Q :=
   spec_of_txt (ann := ann) Tryd.func16 rfl rfl (by kernel_rfl) H
end hmac_Hash_Sum
/-! ### haversack/hmac.Same: function 17 -/
namespace hmac_Same
def ann : Ann := (.seq 12 (.region [(List.range 3, 12)]) (.seq 16 (.region [(List.range 4, 16)]) (.exit 16)))
noncomputable abbrev cd (n : Nat) : Code := sub (bodyOf Tryd.f17) (pth n)
abbrev an (n : Nat) : Ann := subA ann (pth n)
theorem door {a0 b1 : List Value} {Q : VP} {h : Heap} (H :
 let a2 : Addr := ⟨Array.size h, 0, none⟩
 let h1 : Heap := Array.push h (.cells (a0).toArray T_32_uint8 (0, 0))
 let b3 : Addr := ⟨Array.size h1, 0, none⟩
 let h2 : Heap := Array.push h1 (.cells (b1).toArray T_32_uint8 (0, 0))
 ∃ (t5 : List Value), List.length t5 = 32 ∧ rdCells h2 a2 0 t5 ∧
 ∃ (t6 : List Value), List.length t6 = 32 ∧ rdCells h2 b3 0 t6 ∧
 hwp PP (do eqGuard .eql T_32_uint8 (.tmp 5) (.tmp 6) (.agg (t5).toArray) (.agg (t6).toArray); Go.binOp .eql T_32_uint8 (.agg (t5).toArray) (.agg (t6).toArray)) (fun v h3 => ∃ (t7 : Bool), v = (.bool t7) ∧
 Q (.bool t7) h3) h2) : SpecH PP F_hmac_Same [(.agg (a0).toArray), (.agg (b1).toArray)] h Q :=
   spec_of_txt (ann := ann) Tryd.func17 rfl rfl (by kernel_rfl) H
end hmac_Same
/-! ### haversack/haversacklaw15.begins: function 18 -/
namespace law15_begins
def ann : Ann := (.seq 62 (.region [(List.range 2, 62)]) (.seq 1024 (.region [(List.range 23, 1024)]) (.exit 1024)))
noncomputable abbrev cd (n : Nat) : Code := sub (bodyOf Tryd.f18) (pth n)
abbrev an (n : Nat) : Ann := subA ann (pth n)
theorem door {d0 : List Value} {a1 b2 c3 e4 : Int} {Q : VP} {h : Heap} (H :
 let d5 : Addr := ⟨Array.size h, 0, none⟩
 let h1 : Heap := Array.push h (.cells (d0).toArray T_32_uint8 (0, 0))
 hwp PP (Instr.indexAt T_32_uint8 (.pointer (some d5)) (.int .i64 0)) (fun v h2 => ∃ (t11 : Addr), v = (.pointer (some t11)) ∧
 ∃ (t12 : Int), cellH h2 t11 = some (.int .u8 t12) ∧
 let t14 : Bool := (t12 == a1)
 br t14 (
 hwp PP (Instr.indexAt T_32_uint8 (.pointer (some d5)) (.int .i64 1)) (fun v_1 h3 => ∃ (t16 : Addr), v_1 = (.pointer (some t16)) ∧
 ∃ (t17 : Int), cellH h3 t16 = some (.int .u8 t17) ∧
 let t19 : Bool := (t17 == b2)
 br t19 (
 hwp PP (Instr.indexAt T_32_uint8 (.pointer (some d5)) (.int .i64 2)) (fun v_2 h4 => ∃ (t22 : Addr), v_2 = (.pointer (some t22)) ∧
 ∃ (t23 : Int), cellH h4 t22 = some (.int .u8 t23) ∧
 let t25 : Bool := (t23 == c3)
 br t25 (
 hwp PP (Instr.indexAt T_32_uint8 (.pointer (some d5)) (.int .i64 3)) (fun v_3 h5 => ∃ (t28 : Addr), v_3 = (.pointer (some t28)) ∧
 ∃ (t29 : Int), cellH h5 t28 = some (.int .u8 t29) ∧
 let t31 : Bool := (t29 == e4)
 Q (.bool t31) h5) h4) (
 Q (.bool false) h4)) h3) (
 Q (.bool false) h3)) h2) (
 Q (.bool false) h2)) h1) : SpecH PP F_law15_begins [(.agg (d0).toArray), (.int .u8 a1), (.int .u8 b2), (.int .u8 c3), (.int .u8 e4)] h Q :=
   spec_of_txt (ann := ann) Tryd.func18 rfl rfl (by kernel_rfl) H
end law15_begins
/-! ### haversack/haversackref15.padded: function 19 -/
namespace ref15_padded
def ann : Ann := (.seq 1 (.region [(List.range 1, 1)]) (.seq 9 (.region [(List.range 1, 9)]) (.seq 9 (.region [(List.range 4, 9)]) (.seq 9 (.region [(List.range 4, 9)]) (.seq 9 (.block (.loop 9 (.seq 9 (.seq 65545 (.region [(List.range 4, 65545)]) (.cond .leaf (.exit 9))) (.block (.region [(List.range 4, 9)]))))) (.seq 24 (.region [(List.range 4, 24)]) (.seq 56 (.region [(List.range 1, 56)]) (.seq 40 (.seq 120 (.region [(List.range 1, 120)]) (.block (.loop 120 (.seq 120 (.seq 16777336 (.region [(List.range 2, 16777336)]) (.cond .leaf (.exit 40))) (.seq 120 (.block (.seq 120 (.region [(List.range 6, 120)]) (.region [(List.range 3, 120)]))) (.region [(List.range 3, 120)])))))) (.seq 4 (.region [(List.range 4, 4)]) (.exit 4))))))))))
noncomputable abbrev cd (n : Nat) : Code := sub (bodyOf Tryd.f19) (pth n)
abbrev an (n : Nat) : Ann := subA ann (pth n)
@[irreducible] def X0 (b0 : OA) (b0n b0c : Nat) (out3 : OA) (out3n out3c : Nat) : Fr := (mkFr 0 37 [(0, (.slice b0 b0n b0c)), (3, (.slice out3 out3n out3c))])
@[irreducible] def X2 (out3 : OA) (out3n out3c : Nat) (length5 : Addr) : Fr := (mkFr 0 37 [(3, (.slice out3 out3n out3c)), (5, (.pointer (some length5)))])
@[irreducible] def L1 (b0 : OA) (b0n b0c : Nat) (out3 : OA) (out3n out3c : Nat) (K : EP) (h : Heap) : Prop := Lp PP true (cd 248) (mkFr 0 37 [(0, (.slice b0 b0n b0c)), (3, (.slice out3 out3n out3c))]) K h
@[irreducible] def B1 (K : EP) : EP := seqK (fun fr h => Lp PP true (cd 248) (fr.mask 9) K h) K
@[irreducible] def K3 (Q : VP) : EP := seqK (fun fr h => ev PP true none (cd 63) (an 63) (fr.mask 9) (bodyK PP Tryd.f19 Q) h) (bodyK PP Tryd.f19 Q)
@[irreducible] def K1 (Q : VP) : EP := blockK 0 (K3 Q)
@[irreducible] def K4 (Q : VP) : EP := seqK (fun fr h => ev PP true none (cd 511) (an 511) (fr.mask 40) (bodyK PP Tryd.f19 Q) h) (bodyK PP Tryd.f19 Q)
@[irreducible] def K2 (Q : VP) : EP := blockK 2 (K4 Q)
@[irreducible] def L2 (out3 : OA) (out3n out3c : Nat) (xn4 : Int) (length5 : Addr) (i6 : Int) (K : EP) (h : Heap) : Prop := Lp PP true (cd 4084) (mkFr 0 37 [(3, (.slice out3 out3n out3c)), (4, (.int .i64 xn4)), (5, (.pointer (some length5))), (6, (.int .i64 i6))]) K h
@[irreducible] def B2 (K : EP) : EP := seqK (fun fr h => Lp PP true (cd 4084) (fr.mask 120) K h) K
theorem L1_of {b0 : OA} {b0n b0c : Nat} {out3 : OA} {out3n out3c : Nat} {K : EP} {h : Heap} (H :
 let t15 : Int := Int.tmod (out3n : Int) 64
 let t16 : Bool := (t15 != 56)
 br t16 (
 let h1 : Heap := Array.push h (.cells #[(.int .u8 0)] T_uint8 (0, 0))
 hwp PP (Builtin.append_ #[T_sl_uint8, T_sl_uint8] T_sl_uint8 #[(.slice out3 out3n out3c), (.slice (some ⟨Array.size h, 0, none⟩) 1 1)]) (fun v h2 => ∃ (t19 : OA) (t19n t19c : Nat), v = (.slice t19 t19n t19c) ∧
 L1 b0 b0n b0c t19 t19n t19c K h2) h1) (
 K (.exit 0) (X0 b0 b0n b0c out3 out3n out3c) h)) : L1 b0 b0n b0c out3 out3n out3c K h := by unfold L1; exact Lp.of_txt (an 248) 9 (by kernel_rfl) H
theorem L1_X0 {Q : VP} {b0 : OA} {b0n b0c : Nat} {out3 : OA} {out3n out3c : Nat} {h : Heap} (H :
 let t22 : Int := IntKind.i64.wrap (8 * (b0n : Int))
 let length5 : Addr := ⟨Array.size h, 0, none⟩
 let h1 : Heap := Array.push h (.cells #[(.int .u8 0), (.int .u8 0), (.int .u8 0), (.int .u8 0), (.int .u8 0), (.int .u8 0), (.int .u8 0), (.int .u8 0)] T_8_uint8 (0, 0))
 L2 out3 out3n out3c t22 length5 7 (K2 Q) h1) : (K1 Q) (.exit 0) (X0 b0 b0n b0c out3 out3n out3c) h := of_eq_txt (by kernel_rfl) H
theorem L2_of {out3 : OA} {out3n out3c : Nat} {xn4 : Int} {length5 : Addr} {i6 : Int} {K : EP} {h : Heap} (H :
 let t24 : Bool := decide (i6 ≥ 0)
 br t24 (
 let t29 : Int := Int.tmod xn4 256
 let t30 : Int := IntKind.u8.wrap t29
 hwp PP (Instr.indexAt T_8_uint8 (.pointer (some length5)) (.int .i64 i6)) (fun v h1 => ∃ (t31 : Addr), v = (.pointer (some t31)) ∧
 wr t31 (.int .u8 t30) (fun h2 =>
 let t33 : Int := IntKind.i64.wrap (Int.tdiv xn4 256)
 let t26 : Int := IntKind.i64.wrap (i6 - 1)
 L2 out3 out3n out3c t33 length5 t26 K h2) h1) h) (
 K (.exit 2) (X2 out3 out3n out3c length5) h)) : L2 out3 out3n out3c xn4 length5 i6 K h := by unfold L2; exact Lp.of_txt (an 4084) 120 (by kernel_rfl) H
theorem L2_X2 {Q : VP} {out3 : OA} {out3n out3c : Nat} {length5 : Addr} {h : Heap} (H :
 hwp PP (Instr.sliceAt T_8_uint8 (.pointer (some length5)) none none none) (fun v h1 => ∃ (t35 : OA) (t35n t35c : Nat), v = (.slice t35 t35n t35c) ∧
 hwp PP (Builtin.append_ #[T_sl_uint8, T_sl_uint8] T_sl_uint8 #[(.slice out3 out3n out3c), (.slice t35 t35n t35c)]) (fun v_1 h2 => ∃ (t36 : OA) (t36n t36c : Nat), v_1 = (.slice t36 t36n t36c) ∧
 Q (.slice t36 t36n t36c) h2) h1) h) : (K2 Q) (.exit 2) (X2 out3 out3n out3c length5) h := of_eq_txt (by kernel_rfl) H
theorem door {b0 : OA} {b0n b0c : Nat} {Q : VP} {h : Heap} (H :
 hwp PP (Builtin.append_ #[T_sl_uint8, T_sl_uint8] T_sl_uint8 #[(.slice none 0 0), (.slice b0 b0n b0c)]) (fun v h1 => ∃ (t9 : OA) (t9n t9c : Nat), v = (.slice t9 t9n t9c) ∧
 let h2 : Heap := Array.push h1 (.cells #[(.int .u8 128)] T_uint8 (0, 0))
 hwp PP (Builtin.append_ #[T_sl_uint8, T_sl_uint8] T_sl_uint8 #[(.slice t9 t9n t9c), (.slice (some ⟨Array.size h1, 0, none⟩) 1 1)]) (fun v_1 h3 => ∃ (t12 : OA) (t12n t12c : Nat), v_1 = (.slice t12 t12n t12c) ∧
 L1 b0 b0n b0c t12 t12n t12c (K1 Q) h3) h2) h) : SpecH PP F_ref15_padded [(.slice b0 b0n b0c)] h Q :=
   spec_of_txt (ann := ann) Tryd.func19 rfl rfl (by kernel_rfl) H
end ref15_padded
/-! ### haversack/haversackref15.block: function 20 -/
namespace ref15_block
def ann : Ann := (.seq 22 (.region [(List.range 2, 22)]) (.seq 52 (.region [(List.range 4, 52)]) (.seq 116 (.region [(List.range 3, 116)]) (.seq 244 (.region [(List.range 3, 244)]) (.seq 148 (.seq 500 (.region [(List.range 1, 500)]) (.block (.loop 500 (.seq 500 (.seq 524788 (.region [(List.range 2, 524788)]) (.cond .leaf (.exit 148))) (.seq 500 (.block (.seq 1012 (.region [(List.range 3, 1012)]) (.seq 2036 (.region [(List.range 3, 2036)]) (.seq 3572 (.region [(List.range 31, 3572)]) (.seq 6644 (.region [(List.range 25, 6644)]) (.region [(List.range 21, 500)])))))) (.region [(List.range 3, 500)])))))) (.seq 144 (.seq 8340 (.region [(List.range 1, 8340)]) (.block (.loop 8340 (.seq 8340 (.seq 2535301200456458802993406419092 (.region [(List.range 2, 2535301200456458802993406419092)]) (.cond .leaf (.exit 144))) (.seq 8340 (.block (.region [(List.range 10, 8340)])) (.region [(List.range 3, 8340)])))))) (.seq 16 (.region [(List.range 2, 16)]) (.exit 16))))))))
noncomputable abbrev cd (n : Nat) : Code := sub (bodyOf Tryd.f20) (pth n)
abbrev an (n : Nat) : Ann := subA ann (pth n)
@[irreducible] def X0 (xh2 t4 x7 : Addr) : Fr := (mkFr 0 114 [(2, (.pointer (some xh2))), (4, (.pointer (some t4))), (7, (.pointer (some x7)))])
@[irreducible] def X2 (t4 x7 : Addr) : Fr := (mkFr 0 114 [(4, (.pointer (some t4))), (7, (.pointer (some x7)))])
@[irreducible] def L1 (xh2 t4 w5 keys6 x7 : Addr) (i8 : Int) (K : EP) (h : Heap) : Prop := Lp PP true (cd 500) (mkFr 0 114 [(2, (.pointer (some xh2))), (4, (.pointer (some t4))), (5, (.pointer (some w5))), (6, (.pointer (some keys6))), (7, (.pointer (some x7))), (8, (.int .i64 i8))]) K h
@[irreducible] def B1 (K : EP) : EP := seqK (fun fr h => Lp PP true (cd 500) (fr.mask 500) K h) K
@[irreducible] def K3 (Q : VP) : EP := seqK (fun fr h => ev PP true none (cd 63) (an 63) (fr.mask 148) (bodyK PP Tryd.f20 Q) h) (bodyK PP Tryd.f20 Q)
@[irreducible] def K1 (Q : VP) : EP := blockK 0 (K3 Q)
@[irreducible] def K4 (Q : VP) : EP := seqK (fun fr h => ev PP true none (cd 127) (an 127) (fr.mask 144) (bodyK PP Tryd.f20 Q) h) (bodyK PP Tryd.f20 Q)
@[irreducible] def K2 (Q : VP) : EP := blockK 2 (K4 Q)
@[irreducible] def L2 (xh2 t4 x7 : Addr) (i13 : Int) (K : EP) (h : Heap) : Prop := Lp PP true (cd 1012) (mkFr 0 114 [(2, (.pointer (some xh2))), (4, (.pointer (some t4))), (7, (.pointer (some x7))), (13, (.int .i64 i13))]) K h
@[irreducible] def B2 (K : EP) : EP := seqK (fun fr h => Lp PP true (cd 1012) (fr.mask 8340) K h) K
theorem L1_of {xh2 t4 w5 keys6 x7 : Addr} {i8 : Int} {K : EP} {h : Heap} (H :
 let t19 : Bool := decide (i8 < 64)
 br t19 (
 hwp PP (Instr.indexAt T_8_uint32 (.pointer (some x7)) (.int .i64 4)) (fun v h1 => ∃ (t22 : Addr), v = (.pointer (some t22)) ∧
 ∃ (t23 : Int), cellH h1 t22 = some (.int .u32 t23) ∧
 hwp PP (Instr.indexAt T_8_uint32 (.pointer (some x7)) (.int .i64 0)) (fun v_1 h2 => ∃ (t24 : Addr), v_1 = (.pointer (some t24)) ∧
 ∃ (t25 : Int), cellH h2 t24 = some (.int .u32 t25) ∧
 hwp PP (Instr.indexAt T_8_uint32 (.pointer (some x7)) (.int .i64 7)) (fun v_2 h3 => ∃ (t26 : Addr), v_2 = (.pointer (some t26)) ∧
 ∃ (t27 : Int), cellH h3 t26 = some (.int .u32 t27) ∧
 ∃ v_3, PureAt PP F_ref15_turn [(.int .u32 t23), (.int .i64 6)] v_3 ∧
 ∃ (t29 : Int), v_3 = (.int .u32 t29) ∧
 ∃ v_4, PureAt PP F_ref15_turn [(.int .u32 t23), (.int .i64 11)] v_4 ∧
 ∃ (t31 : Int), v_4 = (.int .u32 t31) ∧
 let t32 : Int := bXor .u32 t29 t31
 ∃ v_5, PureAt PP F_ref15_turn [(.int .u32 t23), (.int .i64 25)] v_5 ∧
 ∃ (t34 : Int), v_5 = (.int .u32 t34) ∧
 let t35 : Int := bXor .u32 t32 t34
 let t36 : Int := IntKind.u32.wrap (t27 + t35)
 hwp PP (Instr.indexAt T_8_uint32 (.pointer (some x7)) (.int .i64 5)) (fun v_6 h4 => ∃ (t38 : Addr), v_6 = (.pointer (some t38)) ∧
 ∃ (t39 : Int), cellH h4 t38 = some (.int .u32 t39) ∧
 let t40 : Int := bAnd .u32 t23 t39
 let t42 : Int := bXor .u32 IntKind.u32.max t23
 hwp PP (Instr.indexAt T_8_uint32 (.pointer (some x7)) (.int .i64 6)) (fun v_7 h5 => ∃ (t43 : Addr), v_7 = (.pointer (some t43)) ∧
 ∃ (t44 : Int), cellH h5 t43 = some (.int .u32 t44) ∧
 let t45 : Int := bAnd .u32 t42 t44
 let t46 : Int := bXor .u32 t40 t45
 let t47 : Int := IntKind.u32.wrap (t36 + t46)
 hwp PP (Instr.indexAt T_64_uint32 (.pointer (some keys6)) (.int .i64 i8)) (fun v_8 h6 => ∃ (t49 : Addr), v_8 = (.pointer (some t49)) ∧
 ∃ (t50 : Int), cellH h6 t49 = some (.int .u32 t50) ∧
 let t51 : Int := IntKind.u32.wrap (t47 + t50)
 hwp PP (Instr.indexAt T_64_uint32 (.pointer (some w5)) (.int .i64 i8)) (fun v_9 h7 => ∃ (t53 : Addr), v_9 = (.pointer (some t53)) ∧
 ∃ (t54 : Int), cellH h7 t53 = some (.int .u32 t54) ∧
 let t55 : Int := IntKind.u32.wrap (t51 + t54)
 ∃ v_10, PureAt PP F_ref15_turn [(.int .u32 t25), (.int .i64 2)] v_10 ∧
 ∃ (t57 : Int), v_10 = (.int .u32 t57) ∧
 ∃ v_11, PureAt PP F_ref15_turn [(.int .u32 t25), (.int .i64 13)] v_11 ∧
 ∃ (t59 : Int), v_11 = (.int .u32 t59) ∧
 let t60 : Int := bXor .u32 t57 t59
 ∃ v_12, PureAt PP F_ref15_turn [(.int .u32 t25), (.int .i64 22)] v_12 ∧
 ∃ (t62 : Int), v_12 = (.int .u32 t62) ∧
 let t63 : Int := bXor .u32 t60 t62
 hwp PP (Instr.indexAt T_8_uint32 (.pointer (some x7)) (.int .i64 1)) (fun v_13 h8 => ∃ (t65 : Addr), v_13 = (.pointer (some t65)) ∧
 ∃ (t66 : Int), cellH h8 t65 = some (.int .u32 t66) ∧
 let t67 : Int := bAnd .u32 t25 t66
 hwp PP (Instr.indexAt T_8_uint32 (.pointer (some x7)) (.int .i64 2)) (fun v_14 h9 => ∃ (t69 : Addr), v_14 = (.pointer (some t69)) ∧
 ∃ (t70 : Int), cellH h9 t69 = some (.int .u32 t70) ∧
 let t71 : Int := bAnd .u32 t25 t70
 let t72 : Int := bXor .u32 t67 t71
 hwp PP (Instr.indexAt T_8_uint32 (.pointer (some x7)) (.int .i64 1)) (fun v_15 h10 => ∃ (t73 : Addr), v_15 = (.pointer (some t73)) ∧
 ∃ (t74 : Int), cellH h10 t73 = some (.int .u32 t74) ∧
 hwp PP (Instr.indexAt T_8_uint32 (.pointer (some x7)) (.int .i64 2)) (fun v_16 h11 => ∃ (t75 : Addr), v_16 = (.pointer (some t75)) ∧
 ∃ (t76 : Int), cellH h11 t75 = some (.int .u32 t76) ∧
 let t77 : Int := bAnd .u32 t74 t76
 let t78 : Int := bXor .u32 t72 t77
 let t79 : Int := IntKind.u32.wrap (t63 + t78)
 let t82 : Int := IntKind.u32.wrap (t55 + t79)
 hwp PP (Instr.indexAt T_8_uint32 (.pointer (some x7)) (.int .i64 0)) (fun v_17 h12 => ∃ (t83 : Addr), v_17 = (.pointer (some t83)) ∧
 ∃ (t84 : Int), cellH h12 t83 = some (.int .u32 t84) ∧
 hwp PP (Instr.indexAt T_8_uint32 (.pointer (some x7)) (.int .i64 1)) (fun v_18 h13 => ∃ (t85 : Addr), v_18 = (.pointer (some t85)) ∧
 ∃ (t86 : Int), cellH h13 t85 = some (.int .u32 t86) ∧
 hwp PP (Instr.indexAt T_8_uint32 (.pointer (some x7)) (.int .i64 2)) (fun v_19 h14 => ∃ (t87 : Addr), v_19 = (.pointer (some t87)) ∧
 ∃ (t88 : Int), cellH h14 t87 = some (.int .u32 t88) ∧
 hwp PP (Instr.indexAt T_8_uint32 (.pointer (some x7)) (.int .i64 3)) (fun v_20 h15 => ∃ (t89 : Addr), v_20 = (.pointer (some t89)) ∧
 ∃ (t90 : Int), cellH h15 t89 = some (.int .u32 t90) ∧
 let t92 : Int := IntKind.u32.wrap (t90 + t55)
 hwp PP (Instr.indexAt T_8_uint32 (.pointer (some x7)) (.int .i64 4)) (fun v_21 h16 => ∃ (t93 : Addr), v_21 = (.pointer (some t93)) ∧
 ∃ (t94 : Int), cellH h16 t93 = some (.int .u32 t94) ∧
 hwp PP (Instr.indexAt T_8_uint32 (.pointer (some x7)) (.int .i64 5)) (fun v_22 h17 => ∃ (t95 : Addr), v_22 = (.pointer (some t95)) ∧
 ∃ (t96 : Int), cellH h17 t95 = some (.int .u32 t96) ∧
 hwp PP (Instr.indexAt T_8_uint32 (.pointer (some x7)) (.int .i64 6)) (fun v_23 h18 => ∃ (t97 : Addr), v_23 = (.pointer (some t97)) ∧
 ∃ (t98 : Int), cellH h18 t97 = some (.int .u32 t98) ∧
 wrCells x7 0 [(.int .u32 t82), (.int .u32 t84), (.int .u32 t86), (.int .u32 t88), (.int .u32 t92), (.int .u32 t94), (.int .u32 t96), (.int .u32 t98)] (fun h19 =>
 let t21 : Int := IntKind.i64.wrap (i8 + 1)
 L1 xh2 t4 w5 keys6 x7 t21 K h19) h18) h17) h16) h15) h14) h13) h12) h11) h10) h9) h8) h7) h6) h5) h4) h3) h2) h1) h) (
 K (.exit 0) (X0 xh2 t4 x7) h)) : L1 xh2 t4 w5 keys6 x7 i8 K h := by unfold L1; exact Lp.of_txt (an 500) 500 (by kernel_rfl) H
theorem L1_X0 {Q : VP} {xh2 t4 x7 : Addr} {h : Heap} (H :
 L2 xh2 t4 x7 0 (K2 Q) h) : (K1 Q) (.exit 0) (X0 xh2 t4 x7) h := of_eq_txt (by kernel_rfl) H
theorem L2_of {xh2 t4 x7 : Addr} {i13 : Int} {K : EP} {h : Heap} (H :
 let t101 : Bool := decide (i13 < 8)
 br t101 (
 hwp PP (Instr.indexAt T_8_uint32 (.pointer (some x7)) (.int .i64 i13)) (fun v h1 => ∃ (t106 : Addr), v = (.pointer (some t106)) ∧
 ∃ (t107 : Int), cellH h1 t106 = some (.int .u32 t107) ∧
 hwp PP (Instr.indexAt T_8_uint32 (.pointer (some xh2)) (.int .i64 i13)) (fun v_1 h2 => ∃ (t109 : Addr), v_1 = (.pointer (some t109)) ∧
 ∃ (t110 : Int), cellH h2 t109 = some (.int .u32 t110) ∧
 let t111 : Int := IntKind.u32.wrap (t107 + t110)
 hwp PP (Instr.indexAt T_8_uint32 (.pointer (some x7)) (.int .i64 i13)) (fun v_2 h3 => ∃ (t112 : Addr), v_2 = (.pointer (some t112)) ∧
 wr t112 (.int .u32 t111) (fun h4 =>
 let t103 : Int := IntKind.i64.wrap (i13 + 1)
 L2 xh2 t4 x7 t103 K h4) h3) h2) h1) h) (
 K (.exit 2) (X2 t4 x7) h)) : L2 xh2 t4 x7 i13 K h := by unfold L2; exact Lp.of_txt (an 1012) 8340 (by kernel_rfl) H
theorem L2_X2 {Q : VP} {t4 x7 : Addr} {h : Heap} (H :
 ∃ (t113f0 t113f1 t113f2 t113f3 t113f4 t113f5 t113f6 t113f7 : Int), rdCells h x7 0 [(.int .u32 t113f0), (.int .u32 t113f1), (.int .u32 t113f2), (.int .u32 t113f3), (.int .u32 t113f4), (.int .u32 t113f5), (.int .u32 t113f6), (.int .u32 t113f7)] ∧
 wrCells t4 0 [(.int .u32 t113f0), (.int .u32 t113f1), (.int .u32 t113f2), (.int .u32 t113f3), (.int .u32 t113f4), (.int .u32 t113f5), (.int .u32 t113f6), (.int .u32 t113f7)] (fun h1 =>
 ∃ (t4_1f0 t4_1f1 t4_1f2 t4_1f3 t4_1f4 t4_1f5 t4_1f6 t4_1f7 : Int), rdCells h1 t4 0 [(.int .u32 t4_1f0), (.int .u32 t4_1f1), (.int .u32 t4_1f2), (.int .u32 t4_1f3), (.int .u32 t4_1f4), (.int .u32 t4_1f5), (.int .u32 t4_1f6), (.int .u32 t4_1f7)] ∧
 Q (.agg #[(.int .u32 t4_1f0), (.int .u32 t4_1f1), (.int .u32 t4_1f2), (.int .u32 t4_1f3), (.int .u32 t4_1f4), (.int .u32 t4_1f5), (.int .u32 t4_1f6), (.int .u32 t4_1f7)]) h1) h) : (K2 Q) (.exit 2) (X2 t4 x7) h := of_eq_txt (by kernel_rfl) H
theorem door {xh0f0 xh0f1 xh0f2 xh0f3 xh0f4 xh0f5 xh0f6 xh0f7 : Int} {b1 : OA} {b1n b1c : Nat} {Q : VP} {h : Heap} (H :
 let xh2 : Addr := ⟨Array.size h, 0, none⟩
 let h1 : Heap := Array.push h (.cells #[(.int .u32 xh0f0), (.int .u32 xh0f1), (.int .u32 xh0f2), (.int .u32 xh0f3), (.int .u32 xh0f4), (.int .u32 xh0f5), (.int .u32 xh0f6), (.int .u32 xh0f7)] T_8_uint32 (0, 0))
 let t4 : Addr := ⟨Array.size h1, 0, none⟩
 let h2 : Heap := Array.push h1 (.cells #[(.int .u32 0), (.int .u32 0), (.int .u32 0), (.int .u32 0), (.int .u32 0), (.int .u32 0), (.int .u32 0), (.int .u32 0)] T_8_uint32 (0, 0))
 SpecH PP F_ref15_schedule [(.slice b1 b1n b1c)] h2 (fun v h3 => ∃ (t15 : List Value), v = (.agg (t15).toArray) ∧
 let w5 : Addr := ⟨Array.size h3, 0, none⟩
 let h4 : Heap := Array.push h3 (.cells (Array.replicate 64 (.int .u32 0)) T_64_uint32 (0, 0))
 br (decide (Array.size (List.toArray t15) = 64)) (wrCells w5 0 t15 (fun h5 =>
 SpecH PP F_ref15_k [] h5 (fun v_1 h6 => ∃ (t16 : List Value), v_1 = (.agg (t16).toArray) ∧
 let keys6 : Addr := ⟨Array.size h6, 0, none⟩
 let h7 : Heap := Array.push h6 (.cells (Array.replicate 64 (.int .u32 0)) T_64_uint32 (0, 0))
 br (decide (Array.size (List.toArray t16) = 64)) (wrCells keys6 0 t16 (fun h8 =>
 ∃ (t17f0 t17f1 t17f2 t17f3 t17f4 t17f5 t17f6 t17f7 : Int), rdCells h8 xh2 0 [(.int .u32 t17f0), (.int .u32 t17f1), (.int .u32 t17f2), (.int .u32 t17f3), (.int .u32 t17f4), (.int .u32 t17f5), (.int .u32 t17f6), (.int .u32 t17f7)] ∧
 let x7 : Addr := ⟨Array.size h8, 0, none⟩
 let h9 : Heap := Array.push h8 (.cells #[(.int .u32 0), (.int .u32 0), (.int .u32 0), (.int .u32 0), (.int .u32 0), (.int .u32 0), (.int .u32 0), (.int .u32 0)] T_8_uint32 (0, 0))
 wrCells x7 0 [(.int .u32 t17f0), (.int .u32 t17f1), (.int .u32 t17f2), (.int .u32 t17f3), (.int .u32 t17f4), (.int .u32 t17f5), (.int .u32 t17f6), (.int .u32 t17f7)] (fun h10 =>
 L1 xh2 t4 w5 keys6 x7 0 (K1 Q) h10) h9) h7) False)) h4) False)) : SpecH PP F_ref15_block [(.agg #[(.int .u32 xh0f0), (.int .u32 xh0f1), (.int .u32 xh0f2), (.int .u32 xh0f3), (.int .u32 xh0f4), (.int .u32 xh0f5), (.int .u32 xh0f6), (.int .u32 xh0f7)]), (.slice b1 b1n b1c)] h Q :=
   spec_of_txt (ann := ann) Tryd.func20 rfl rfl (by kernel_rfl) H
end ref15_block
/-! ### (*haversack/hmac.Hash).block: function 21 -/
namespace hmac_Hash_block
def ann : Ann := (.seq 19 (.region [(List.range 1, 19)]) (.seq 17 (.seq 1048595 (.region [(List.range 1, 1048595)]) (.block (.loop 1048595 (.seq 3145747 (.region [(List.range 1, 3145747)]) (.seq 1048595 (.cond .leaf (.exit 17)) (.seq 1048595 (.block (.seq 1048627 (.region [(List.range 2, 1048627)]) (.region [(List.range 36, 1048595)]))) (.region [(List.range 2, 1048595)]))))))) (.seq 17 (.seq 81 (.region [(List.range 1, 81)]) (.block (.loop 81 (.seq 81 (.seq 1152921504606847057 (.region [(List.range 2, 1152921504606847057)]) (.cond .leaf (.exit 17))) (.seq 81 (.block (.seq 465 (.region [(List.range 10, 465)]) (.region [(List.range 30, 81)]))) (.region [(List.range 3, 81)])))))) (.seq 529 (.region [(List.range 6, 529)]) (.seq 513 (.seq 20282409603651670423947251286545 (.region [(List.range 1, 20282409603651670423947251286545)]) (.block (.loop 20282409603651670423947251286545 (.seq 60847228810955011271841753858577 (.region [(List.range 1, 60847228810955011271841753858577)]) (.seq 20282409603651670423947251286545 (.cond .leaf (.exit 513)) (.seq 20282409603651670423947251286545 (.block (.seq 20282409603651670423947251287569 (.region [(List.range 2, 20282409603651670423947251287569)]) (.seq 20282409603651670423947251416593 (.region [(List.range 18, 20282409603651670423947251416593)]) (.seq 20282409603651670423947251546641 (.region [(List.range 29, 20282409603651670423947251546641)]) (.seq 20282409603651670423947251808785 (.region [(List.range 19, 20282409603651670423947251808785)]) (.region [(List.range 15, 20282409603651670423947251286545)])))))) (.region [(List.range 2, 20282409603651670423947251286545)]))))))) (.seq 1532495540865888858358347027150309183618739122183602689 (.region [(List.range 1, 1532495540865888858358347027150309183618739122183602689)]) (.block (.loop 1532495540865888858358347027150309183618739122183602689 (.seq 4597486622597666575075041081450927550856217366550807041 (.region [(List.range 1, 4597486622597666575075041081450927550856217366550807041)]) (.seq 1532495540865888858358347027150309183618739122183602689 (.cond .leaf (.exit 0)) (.seq 1532495540865888858358347027150309183618739122183602689 (.block (.seq 1532495540865888858358347027150309183618739122184126977 (.region [(List.range 2, 1532495540865888858358347027150309183618739122184126977)]) (.region [(List.range 14, 1532495540865888858358347027150309183618739122183602689)]))) (.region [(List.range 2, 1532495540865888858358347027150309183618739122183602689)]))))))))))))
noncomputable abbrev cd (n : Nat) : Code := sub (bodyOf Tryd.f21) (pth n)
abbrev an (n : Nat) : Ann := subA ann (pth n)
@[irreducible] def X0 (xh0 : OA) (w4 : Addr) : Fr := (mkFr 0 197 [(0, (.pointer xh0)), (4, (.pointer (some w4)))])
@[irreducible] def X2 (xh0 : OA) (w4 : Addr) : Fr := (mkFr 0 197 [(0, (.pointer xh0)), (4, (.pointer (some w4)))])
@[irreducible] def X4 (xh0 : OA) (s9 : Addr) : Fr := (mkFr 0 197 [(0, (.pointer xh0)), (9, (.pointer (some s9)))])
@[irreducible] def X6  : Fr := (mkFr 0 197 [])
@[irreducible] def L1 (xh0 p1 : OA) (p1n p1c : Nat) (w4 : Addr) (t20 : Int) (K : EP) (h : Heap) : Prop := Lp PP true (cd 52) (mkFr 0 197 [(0, (.pointer xh0)), (1, (.slice p1 p1n p1c)), (4, (.pointer (some w4))), (20, (.int .i64 t20))]) K h
@[irreducible] def B1 (K : EP) : EP := seqK (fun fr h => Lp PP true (cd 52) (fr.mask 1048595) K h) K
@[irreducible] def K3 (Q : VP) : EP := seqK (fun fr h => ev PP true none (cd 7) (an 7) (fr.mask 17) (bodyK PP Tryd.f21 Q) h) (bodyK PP Tryd.f21 Q)
@[irreducible] def K1 (Q : VP) : EP := blockK 0 (K3 Q)
@[irreducible] def K4 (Q : VP) : EP := seqK (fun fr h => ev PP true none (cd 15) (an 15) (fr.mask 17) (bodyK PP Tryd.f21 Q) h) (bodyK PP Tryd.f21 Q)
@[irreducible] def K2 (Q : VP) : EP := blockK 2 (K4 Q)
@[irreducible] def L2 (xh0 : OA) (w4 : Addr) (i6 : Int) (K : EP) (h : Heap) : Prop := Lp PP true (cd 116) (mkFr 0 197 [(0, (.pointer xh0)), (4, (.pointer (some w4))), (6, (.int .i64 i6))]) K h
@[irreducible] def B2 (K : EP) : EP := seqK (fun fr h => Lp PP true (cd 116) (fr.mask 81) K h) K
@[irreducible] def K6 (Q : VP) : EP := seqK (fun fr h => ev PP true none (cd 63) (an 63) (fr.mask 513) (bodyK PP Tryd.f21 Q) h) (bodyK PP Tryd.f21 Q)
@[irreducible] def K5 (Q : VP) : EP := blockK 4 (K6 Q)
@[irreducible] def L3 (xh0 : OA) (w4 s9 : Addr) (t104 : Int) (K : EP) (h : Heap) : Prop := Lp PP true (cd 500) (mkFr 0 197 [(0, (.pointer xh0)), (4, (.pointer (some w4))), (9, (.pointer (some s9))), (104, (.int .i64 t104))]) K h
@[irreducible] def B3 (K : EP) : EP := seqK (fun fr h => Lp PP true (cd 500) (fr.mask 20282409603651670423947251286545) K h) K
@[irreducible] def K7 (Q : VP) : EP := blockK 6 (bodyK PP Tryd.f21 Q)
@[irreducible] def L4 (xh0 : OA) (s9 : Addr) (t180 : Int) (K : EP) (h : Heap) : Prop := Lp PP true (cd 508) (mkFr 0 197 [(0, (.pointer xh0)), (9, (.pointer (some s9))), (180, (.int .i64 t180))]) K h
@[irreducible] def B4 (K : EP) : EP := seqK (fun fr h => Lp PP true (cd 508) (fr.mask 1532495540865888858358347027150309183618739122183602689) K h) K
theorem L1_of {xh0 p1 : OA} {p1n p1c : Nat} {w4 : Addr} {t20 : Int} {K : EP} {h : Heap} (H :
 let t21 : Bool := decide (t20 < 16)
 br t21 (
 let t26 : Int := IntKind.i64.wrap (4 * t20)
 hwp PP (Instr.indexAt T_sl_uint8 (.slice p1 p1n p1c) (.int .i64 t26)) (fun v h1 => ∃ (t27 : Addr), v = (.pointer (some t27)) ∧
 ∃ (t28 : Int), cellH h1 t27 = some (.int .u8 t28) ∧
 let t29 : Int := IntKind.u32.wrap t28
 let t30 : Int := sShl .u32 t29 24
 let t33 : Int := IntKind.i64.wrap (4 * t20)
 let t34 : Int := IntKind.i64.wrap (t33 + 1)
 hwp PP (Instr.indexAt T_sl_uint8 (.slice p1 p1n p1c) (.int .i64 t34)) (fun v_1 h2 => ∃ (t35 : Addr), v_1 = (.pointer (some t35)) ∧
 ∃ (t36 : Int), cellH h2 t35 = some (.int .u8 t36) ∧
 let t37 : Int := IntKind.u32.wrap t36
 let t38 : Int := sShl .u32 t37 16
 let t39 : Int := bOr .u32 t30 t38
 let t42 : Int := IntKind.i64.wrap (4 * t20)
 let t43 : Int := IntKind.i64.wrap (t42 + 2)
 hwp PP (Instr.indexAt T_sl_uint8 (.slice p1 p1n p1c) (.int .i64 t43)) (fun v_2 h3 => ∃ (t44 : Addr), v_2 = (.pointer (some t44)) ∧
 ∃ (t45 : Int), cellH h3 t44 = some (.int .u8 t45) ∧
 let t46 : Int := IntKind.u32.wrap t45
 let t47 : Int := sShl .u32 t46 8
 let t48 : Int := bOr .u32 t39 t47
 let t51 : Int := IntKind.i64.wrap (4 * t20)
 let t52 : Int := IntKind.i64.wrap (t51 + 3)
 hwp PP (Instr.indexAt T_sl_uint8 (.slice p1 p1n p1c) (.int .i64 t52)) (fun v_3 h4 => ∃ (t53 : Addr), v_3 = (.pointer (some t53)) ∧
 ∃ (t54 : Int), cellH h4 t53 = some (.int .u8 t54) ∧
 let t55 : Int := IntKind.u32.wrap t54
 let t56 : Int := bOr .u32 t48 t55
 hwp PP (Instr.indexAt T_64_uint32 (.pointer (some w4)) (.int .i64 t20)) (fun v_4 h5 => ∃ (t57 : Addr), v_4 = (.pointer (some t57)) ∧
 wr t57 (.int .u32 t56) (fun h6 =>
 let t58 : Int := IntKind.i64.wrap (t20 + 1)
 L1 xh0 p1 p1n p1c w4 t58 K h6) h5) h4) h3) h2) h1) h) (
 K (.exit 0) (X0 xh0 w4) h)) : L1 xh0 p1 p1n p1c w4 t20 K h := by unfold L1; exact Lp.of_txt (an 52) 1048595 (by kernel_rfl) H
theorem L1_X0 {Q : VP} {xh0 : OA} {w4 : Addr} {h : Heap} (H :
 L2 xh0 w4 16 (K2 Q) h) : (K1 Q) (.exit 0) (X0 xh0 w4) h := of_eq_txt (by kernel_rfl) H
theorem L2_of {xh0 : OA} {w4 : Addr} {i6 : Int} {K : EP} {h : Heap} (H :
 let t60 : Bool := decide (i6 < 64)
 br t60 (
 let t64 : Int := IntKind.i64.wrap (i6 - 15)
 hwp PP (Instr.indexAt T_64_uint32 (.pointer (some w4)) (.int .i64 t64)) (fun v h1 => ∃ (t65 : Addr), v = (.pointer (some t65)) ∧
 ∃ (t66 : Int), cellH h1 t65 = some (.int .u32 t66) ∧
 let t68 : Int := IntKind.i64.wrap (i6 - 2)
 hwp PP (Instr.indexAt T_64_uint32 (.pointer (some w4)) (.int .i64 t68)) (fun v_1 h2 => ∃ (t69 : Addr), v_1 = (.pointer (some t69)) ∧
 ∃ (t70 : Int), cellH h2 t69 = some (.int .u32 t70) ∧
 let t73 : Int := IntKind.i64.wrap (i6 - 16)
 hwp PP (Instr.indexAt T_64_uint32 (.pointer (some w4)) (.int .i64 t73)) (fun v_2 h3 => ∃ (t74 : Addr), v_2 = (.pointer (some t74)) ∧
 ∃ (t75 : Int), cellH h3 t74 = some (.int .u32 t75) ∧
 ∃ v_3, PureAt PP F_hmac_right [(.int .u32 t66), (.int .i64 7)] v_3 ∧
 ∃ (t77 : Int), v_3 = (.int .u32 t77) ∧
 ∃ v_4, PureAt PP F_hmac_right [(.int .u32 t66), (.int .i64 18)] v_4 ∧
 ∃ (t79 : Int), v_4 = (.int .u32 t79) ∧
 let t80 : Int := bXor .u32 t77 t79
 let t82 : Int := sShr .u32 t66 3
 let t83 : Int := bXor .u32 t80 t82
 let t84 : Int := IntKind.u32.wrap (t75 + t83)
 let t86 : Int := IntKind.i64.wrap (i6 - 7)
 hwp PP (Instr.indexAt T_64_uint32 (.pointer (some w4)) (.int .i64 t86)) (fun v_5 h4 => ∃ (t87 : Addr), v_5 = (.pointer (some t87)) ∧
 ∃ (t88 : Int), cellH h4 t87 = some (.int .u32 t88) ∧
 let t89 : Int := IntKind.u32.wrap (t84 + t88)
 ∃ v_6, PureAt PP F_hmac_right [(.int .u32 t70), (.int .i64 17)] v_6 ∧
 ∃ (t91 : Int), v_6 = (.int .u32 t91) ∧
 ∃ v_7, PureAt PP F_hmac_right [(.int .u32 t70), (.int .i64 19)] v_7 ∧
 ∃ (t93 : Int), v_7 = (.int .u32 t93) ∧
 let t94 : Int := bXor .u32 t91 t93
 let t96 : Int := sShr .u32 t70 10
 let t97 : Int := bXor .u32 t94 t96
 let t98 : Int := IntKind.u32.wrap (t89 + t97)
 hwp PP (Instr.indexAt T_64_uint32 (.pointer (some w4)) (.int .i64 i6)) (fun v_8 h5 => ∃ (t99 : Addr), v_8 = (.pointer (some t99)) ∧
 wr t99 (.int .u32 t98) (fun h6 =>
 let t62 : Int := IntKind.i64.wrap (i6 + 1)
 L2 xh0 w4 t62 K h6) h5) h4) h3) h2) h1) h) (
 K (.exit 2) (X2 xh0 w4) h)) : L2 xh0 w4 i6 K h := by unfold L2; exact Lp.of_txt (an 116) 81 (by kernel_rfl) H
theorem L2_X2 {Q : VP} {xh0 : OA} {w4 : Addr} {h : Heap} (H :
 nilc xh0 (fun t101 =>
 ∃ (t103f0 t103f1 t103f2 t103f3 t103f4 t103f5 t103f6 t103f7 : Int), rdCells h t101 0 [(.int .u32 t103f0), (.int .u32 t103f1), (.int .u32 t103f2), (.int .u32 t103f3), (.int .u32 t103f4), (.int .u32 t103f5), (.int .u32 t103f6), (.int .u32 t103f7)] ∧
 let s9 : Addr := ⟨Array.size h, 0, none⟩
 let h1 : Heap := Array.push h (.cells #[(.int .u32 0), (.int .u32 0), (.int .u32 0), (.int .u32 0), (.int .u32 0), (.int .u32 0), (.int .u32 0), (.int .u32 0)] T_8_uint32 (0, 0))
 wrCells s9 0 [(.int .u32 t103f0), (.int .u32 t103f1), (.int .u32 t103f2), (.int .u32 t103f3), (.int .u32 t103f4), (.int .u32 t103f5), (.int .u32 t103f6), (.int .u32 t103f7)] (fun h2 =>
 L3 xh0 w4 s9 0 (K5 Q) h2) h1)) : (K2 Q) (.exit 2) (X2 xh0 w4) h := of_eq_txt (by kernel_rfl) H
theorem L3_of {xh0 : OA} {w4 s9 : Addr} {t104 : Int} {K : EP} {h : Heap} (H :
 let t105 : Bool := decide (t104 < 64)
 br t105 (
 hwp PP (Instr.indexAt T_8_uint32 (.pointer (some s9)) (.int .i64 0)) (fun v h1 => ∃ (t107 : Addr), v = (.pointer (some t107)) ∧
 ∃ (t108 : Int), cellH h1 t107 = some (.int .u32 t108) ∧
 hwp PP (Instr.indexAt T_8_uint32 (.pointer (some s9)) (.int .i64 1)) (fun v_1 h2 => ∃ (t109 : Addr), v_1 = (.pointer (some t109)) ∧
 ∃ (t110 : Int), cellH h2 t109 = some (.int .u32 t110) ∧
 hwp PP (Instr.indexAt T_8_uint32 (.pointer (some s9)) (.int .i64 2)) (fun v_2 h3 => ∃ (t111 : Addr), v_2 = (.pointer (some t111)) ∧
 ∃ (t112 : Int), cellH h3 t111 = some (.int .u32 t112) ∧
 hwp PP (Instr.indexAt T_8_uint32 (.pointer (some s9)) (.int .i64 4)) (fun v_3 h4 => ∃ (t113 : Addr), v_3 = (.pointer (some t113)) ∧
 ∃ (t114 : Int), cellH h4 t113 = some (.int .u32 t114) ∧
 hwp PP (Instr.indexAt T_8_uint32 (.pointer (some s9)) (.int .i64 5)) (fun v_4 h5 => ∃ (t115 : Addr), v_4 = (.pointer (some t115)) ∧
 ∃ (t116 : Int), cellH h5 t115 = some (.int .u32 t116) ∧
 hwp PP (Instr.indexAt T_8_uint32 (.pointer (some s9)) (.int .i64 6)) (fun v_5 h6 => ∃ (t117 : Addr), v_5 = (.pointer (some t117)) ∧
 ∃ (t118 : Int), cellH h6 t117 = some (.int .u32 t118) ∧
 hwp PP (Instr.indexAt T_8_uint32 (.pointer (some s9)) (.int .i64 7)) (fun v_6 h7 => ∃ (t119 : Addr), v_6 = (.pointer (some t119)) ∧
 ∃ (t120 : Int), cellH h7 t119 = some (.int .u32 t120) ∧
 ∃ v_7, PureAt PP F_hmac_right [(.int .u32 t114), (.int .i64 6)] v_7 ∧
 ∃ (t122 : Int), v_7 = (.int .u32 t122) ∧
 ∃ v_8, PureAt PP F_hmac_right [(.int .u32 t114), (.int .i64 11)] v_8 ∧
 ∃ (t124 : Int), v_8 = (.int .u32 t124) ∧
 let t125 : Int := bXor .u32 t122 t124
 ∃ v_9, PureAt PP F_hmac_right [(.int .u32 t114), (.int .i64 25)] v_9 ∧
 ∃ (t127 : Int), v_9 = (.int .u32 t127) ∧
 let t128 : Int := bXor .u32 t125 t127
 let t129 : Int := IntKind.u32.wrap (t120 + t128)
 let t132 : Int := bAnd .u32 t114 t116
 let t134 : Int := bXor .u32 IntKind.u32.max t114
 let t136 : Int := bAnd .u32 t134 t118
 let t137 : Int := bOr .u32 t132 t136
 let t138 : Int := IntKind.u32.wrap (t129 + t137)
 hwp PP (Instr.indexAt T_64_uint32 (.pointer (some ⟨G_hmac_k, 0, none⟩)) (.int .i64 t104)) (fun v_10 h8 => ∃ (t140 : Addr), v_10 = (.pointer (some t140)) ∧
 ∃ (t141 : Int), cellH h8 t140 = some (.int .u32 t141) ∧
 let t142 : Int := IntKind.u32.wrap (t138 + t141)
 hwp PP (Instr.indexAt T_64_uint32 (.pointer (some w4)) (.int .i64 t104)) (fun v_11 h9 => ∃ (t144 : Addr), v_11 = (.pointer (some t144)) ∧
 ∃ (t145 : Int), cellH h9 t144 = some (.int .u32 t145) ∧
 let t146 : Int := IntKind.u32.wrap (t142 + t145)
 ∃ v_12, PureAt PP F_hmac_right [(.int .u32 t108), (.int .i64 2)] v_12 ∧
 ∃ (t148 : Int), v_12 = (.int .u32 t148) ∧
 ∃ v_13, PureAt PP F_hmac_right [(.int .u32 t108), (.int .i64 13)] v_13 ∧
 ∃ (t150 : Int), v_13 = (.int .u32 t150) ∧
 let t151 : Int := bXor .u32 t148 t150
 ∃ v_14, PureAt PP F_hmac_right [(.int .u32 t108), (.int .i64 22)] v_14 ∧
 ∃ (t153 : Int), v_14 = (.int .u32 t153) ∧
 let t154 : Int := bXor .u32 t151 t153
 let t157 : Int := bAnd .u32 t108 t110
 let t161 : Int := bOr .u32 t108 t110
 let t162 : Int := bAnd .u32 t112 t161
 let t163 : Int := bOr .u32 t157 t162
 let t164 : Int := IntKind.u32.wrap (t154 + t163)
 let t167 : Int := IntKind.u32.wrap (t146 + t164)
 hwp PP (Instr.indexAt T_8_uint32 (.pointer (some s9)) (.int .i64 3)) (fun v_15 h10 => ∃ (t171 : Addr), v_15 = (.pointer (some t171)) ∧
 ∃ (t172 : Int), cellH h10 t171 = some (.int .u32 t172) ∧
 let t174 : Int := IntKind.u32.wrap (t172 + t146)
 wrCells s9 0 [(.int .u32 t167), (.int .u32 t108), (.int .u32 t110), (.int .u32 t112), (.int .u32 t174), (.int .u32 t114), (.int .u32 t116), (.int .u32 t118)] (fun h11 =>
 let t179 : Int := IntKind.i64.wrap (t104 + 1)
 L3 xh0 w4 s9 t179 K h11) h10) h9) h8) h7) h6) h5) h4) h3) h2) h1) h) (
 K (.exit 4) (X4 xh0 s9) h)) : L3 xh0 w4 s9 t104 K h := by unfold L3; exact Lp.of_txt (an 500) 20282409603651670423947251286545 (by kernel_rfl) H
theorem L3_X4 {Q : VP} {xh0 : OA} {s9 : Addr} {h : Heap} (H :
 L4 xh0 s9 0 (K7 Q) h) : (K5 Q) (.exit 4) (X4 xh0 s9) h := of_eq_txt (by kernel_rfl) H
theorem L4_of {xh0 : OA} {s9 : Addr} {t180 : Int} {K : EP} {h : Heap} (H :
 let t181 : Bool := decide (t180 < 8)
 br t181 (
 nilc xh0 (fun t185 =>
 hwp PP (Instr.indexAt T_8_uint32 (.pointer (some t185)) (.int .i64 t180)) (fun v h1 => ∃ (t187 : Addr), v = (.pointer (some t187)) ∧
 ∃ (t188 : Int), cellH h1 t187 = some (.int .u32 t188) ∧
 hwp PP (Instr.indexAt T_8_uint32 (.pointer (some s9)) (.int .i64 t180)) (fun v_1 h2 => ∃ (t190 : Addr), v_1 = (.pointer (some t190)) ∧
 ∃ (t191 : Int), cellH h2 t190 = some (.int .u32 t191) ∧
 let t192 : Int := IntKind.u32.wrap (t188 + t191)
 nilc xh0 (fun t193 =>
 hwp PP (Instr.indexAt T_8_uint32 (.pointer (some t193)) (.int .i64 t180)) (fun v_2 h3 => ∃ (t195 : Addr), v_2 = (.pointer (some t195)) ∧
 wr t195 (.int .u32 t192) (fun h4 =>
 let t196 : Int := IntKind.i64.wrap (t180 + 1)
 L4 xh0 s9 t196 K h4) h3) h2)) h1) h)) (
 K (.exit 6) (X6) h)) : L4 xh0 s9 t180 K h := by unfold L4; exact Lp.of_txt (an 508) 1532495540865888858358347027150309183618739122183602689 (by kernel_rfl) H
theorem L4_X6 {Q : VP}  {h : Heap} (H :
 Q (.tuple #[]) h) : (K7 Q) (.exit 6) (X6 ) h := of_eq_txt (by kernel_rfl) H
theorem door {xh0 p1 : OA} {p1n p1c : Nat} {Q : VP} {h : Heap} (H :
 let w4 : Addr := ⟨Array.size h, 0, none⟩
 let h1 : Heap := Array.push h (.cells (Array.replicate 64 (.int .u32 0)) T_64_uint32 (0, 0))
 L1 xh0 p1 p1n p1c w4 0 (K1 Q) h1) : SpecH PP F_hmac_Hash_block [(.pointer xh0), (.slice p1 p1n p1c)] h Q :=
   spec_of_txt (ann := ann) Tryd.func21 rfl rfl (by kernel_rfl) H
end hmac_Hash_block
/-! ### haversack/haversackref15.schedule: function 22 -/
namespace ref15_schedule
def ann : Ann := (.seq 5 (.region [(List.range 1, 5)]) (.seq 13 (.region [(List.range 1, 13)]) (.seq 12 (.seq 29 (.region [(List.range 1, 29)]) (.block (.loop 29 (.seq 29 (.seq 4125 (.region [(List.range 2, 4125)]) (.cond .leaf (.exit 12))) (.seq 29 (.block (.seq 61 (.region [(List.range 1, 61)]) (.block (.loop 61 (.seq 61 (.seq 65597 (.region [(List.range 2, 65597)]) (.cond .leaf (.exit 29))) (.seq 61 (.block (.region [(List.range 16, 61)])) (.region [(List.range 3, 61)]))))))) (.region [(List.range 3, 29)])))))) (.seq 12 (.seq 76 (.region [(List.range 1, 76)]) (.block (.loop 76 (.seq 76 (.seq 34359738444 (.region [(List.range 2, 34359738444)]) (.cond .leaf (.exit 12))) (.seq 76 (.block (.seq 204 (.region [(List.range 5, 204)]) (.seq 460 (.region [(List.range 5, 460)]) (.seq 844 (.region [(List.range 9, 844)]) (.seq 1612 (.region [(List.range 9, 1612)]) (.region [(List.range 16, 76)])))))) (.region [(List.range 3, 76)])))))) (.seq 4 (.region [(List.range 2, 4)]) (.exit 4))))))
noncomputable abbrev cd (n : Nat) : Code := sub (bodyOf Tryd.f22) (pth n)
abbrev an (n : Nat) : Ann := subA ann (pth n)
@[irreducible] def X0 (t2 w3 : Addr) : Fr := (mkFr 0 78 [(2, (.pointer (some t2))), (3, (.pointer (some w3)))])
@[irreducible] def X2 (b0 : OA) (b0n b0c : Nat) (t2 w3 : Addr) (i4 : Int) : Fr := (mkFr 0 78 [(0, (.slice b0 b0n b0c)), (2, (.pointer (some t2))), (3, (.pointer (some w3))), (4, (.int .i64 i4))])
@[irreducible] def X4 (t2 w3 : Addr) : Fr := (mkFr 0 78 [(2, (.pointer (some t2))), (3, (.pointer (some w3)))])
@[irreducible] def L1 (b0 : OA) (b0n b0c : Nat) (t2 w3 : Addr) (i4 : Int) (K : EP) (h : Heap) : Prop := Lp PP true (cd 116) (mkFr 0 78 [(0, (.slice b0 b0n b0c)), (2, (.pointer (some t2))), (3, (.pointer (some w3))), (4, (.int .i64 i4))]) K h
@[irreducible] def B1 (K : EP) : EP := seqK (fun fr h => Lp PP true (cd 116) (fr.mask 29) K h) K
@[irreducible] def K4 (Q : VP) : EP := seqK (fun fr h => ev PP true none (cd 15) (an 15) (fr.mask 12) (bodyK PP Tryd.f22 Q) h) (bodyK PP Tryd.f22 Q)
@[irreducible] def K1 (Q : VP) : EP := blockK 0 (K4 Q)
@[irreducible] def K7 (K : EP) : EP := seqK (fun fr h => ev PP true none (cd 467) (an 467) (fr.mask 29) (B1 K) h) (B1 K)
@[irreducible] def K5 (K : EP) : EP := blockK 1 (K7 K)
@[irreducible] def K2 (K : EP) : EP := blockK 2 (K5 K)
@[irreducible] def K6 (Q : VP) : EP := seqK (fun fr h => ev PP true none (cd 31) (an 31) (fr.mask 12) (bodyK PP Tryd.f22 Q) h) (bodyK PP Tryd.f22 Q)
@[irreducible] def K3 (Q : VP) : EP := blockK 4 (K6 Q)
@[irreducible] def L2 (b0 : OA) (b0n b0c : Nat) (t2 w3 : Addr) (i4 xn5 : Int) (K : EP) (h : Heap) : Prop := Lp PP true (cd 7460) (mkFr 0 78 [(0, (.slice b0 b0n b0c)), (2, (.pointer (some t2))), (3, (.pointer (some w3))), (4, (.int .i64 i4)), (5, (.int .i64 xn5))]) K h
@[irreducible] def B2 (K : EP) : EP := seqK (fun fr h => Lp PP true (cd 7460) (fr.mask 61) K h) K
@[irreducible] def L3 (t2 w3 : Addr) (i6 : Int) (K : EP) (h : Heap) : Prop := Lp PP true (cd 244) (mkFr 0 78 [(2, (.pointer (some t2))), (3, (.pointer (some w3))), (6, (.int .i64 i6))]) K h
@[irreducible] def B3 (K : EP) : EP := seqK (fun fr h => Lp PP true (cd 244) (fr.mask 76) K h) K
theorem L1_of {b0 : OA} {b0n b0c : Nat} {t2 w3 : Addr} {i4 : Int} {K : EP} {h : Heap} (H :
 let t12 : Bool := decide (i4 < 16)
 br t12 (
 L2 b0 b0n b0c t2 w3 i4 0 (K2 K) h) (
 K (.exit 0) (X0 t2 w3) h)) : L1 b0 b0n b0c t2 w3 i4 K h := by unfold L1; exact Lp.of_txt (an 116) 29 (by kernel_rfl) H
theorem L1_X0 {Q : VP} {t2 w3 : Addr} {h : Heap} (H :
 L3 t2 w3 16 (K3 Q) h) : (K1 Q) (.exit 0) (X0 t2 w3) h := of_eq_txt (by kernel_rfl) H
theorem L2_of {b0 : OA} {b0n b0c : Nat} {t2 w3 : Addr} {i4 xn5 : Int} {K : EP} {h : Heap} (H :
 let t16 : Bool := decide (xn5 < 4)
 br t16 (
 hwp PP (Instr.indexAt T_64_uint32 (.pointer (some w3)) (.int .i64 i4)) (fun v h1 => ∃ (t21 : Addr), v = (.pointer (some t21)) ∧
 ∃ (t22 : Int), cellH h1 t21 = some (.int .u32 t22) ∧
 let t23 : Int := IntKind.u32.wrap (256 * t22)
 let t26 : Int := IntKind.i64.wrap (4 * i4)
 let t28 : Int := IntKind.i64.wrap (t26 + xn5)
 hwp PP (Instr.indexAt T_sl_uint8 (.slice b0 b0n b0c) (.int .i64 t28)) (fun v_1 h2 => ∃ (t29 : Addr), v_1 = (.pointer (some t29)) ∧
 ∃ (t30 : Int), cellH h2 t29 = some (.int .u8 t30) ∧
 let t31 : Int := IntKind.u32.wrap t30
 let t32 : Int := IntKind.u32.wrap (t23 + t31)
 hwp PP (Instr.indexAt T_64_uint32 (.pointer (some w3)) (.int .i64 i4)) (fun v_2 h3 => ∃ (t33 : Addr), v_2 = (.pointer (some t33)) ∧
 wr t33 (.int .u32 t32) (fun h4 =>
 let t18 : Int := IntKind.i64.wrap (xn5 + 1)
 L2 b0 b0n b0c t2 w3 i4 t18 K h4) h3) h2) h1) h) (
 K (.exit 2) (X2 b0 b0n b0c t2 w3 i4) h)) : L2 b0 b0n b0c t2 w3 i4 xn5 K h := by unfold L2; exact Lp.of_txt (an 7460) 61 (by kernel_rfl) H
theorem L2_X2 {K : EP} {b0 : OA} {b0n b0c : Nat} {t2 w3 : Addr} {i4 : Int} {h : Heap} (H :
 let t14 : Int := IntKind.i64.wrap (i4 + 1)
 L1 b0 b0n b0c t2 w3 t14 K h) : (K2 K) (.exit 2) (X2 b0 b0n b0c t2 w3 i4) h := of_eq_txt (by kernel_rfl) H
theorem L3_of {t2 w3 : Addr} {i6 : Int} {K : EP} {h : Heap} (H :
 let t35 : Bool := decide (i6 < 64)
 br t35 (
 let t39 : Int := IntKind.i64.wrap (i6 - 15)
 hwp PP (Instr.indexAt T_64_uint32 (.pointer (some w3)) (.int .i64 t39)) (fun v h1 => ∃ (t40 : Addr), v = (.pointer (some t40)) ∧
 ∃ (t41 : Int), cellH h1 t40 = some (.int .u32 t41) ∧
 let t43 : Int := IntKind.i64.wrap (i6 - 2)
 hwp PP (Instr.indexAt T_64_uint32 (.pointer (some w3)) (.int .i64 t43)) (fun v_1 h2 => ∃ (t44 : Addr), v_1 = (.pointer (some t44)) ∧
 ∃ (t45 : Int), cellH h2 t44 = some (.int .u32 t45) ∧
 ∃ v_2, PureAt PP F_ref15_turn [(.int .u32 t41), (.int .i64 7)] v_2 ∧
 ∃ (t47 : Int), v_2 = (.int .u32 t47) ∧
 ∃ v_3, PureAt PP F_ref15_turn [(.int .u32 t41), (.int .i64 18)] v_3 ∧
 ∃ (t49 : Int), v_3 = (.int .u32 t49) ∧
 let t50 : Int := bXor .u32 t47 t49
 let t52 : Int := sShr .u32 t41 3
 let t53 : Int := bXor .u32 t50 t52
 ∃ v_4, PureAt PP F_ref15_turn [(.int .u32 t45), (.int .i64 17)] v_4 ∧
 ∃ (t55 : Int), v_4 = (.int .u32 t55) ∧
 ∃ v_5, PureAt PP F_ref15_turn [(.int .u32 t45), (.int .i64 19)] v_5 ∧
 ∃ (t57 : Int), v_5 = (.int .u32 t57) ∧
 let t58 : Int := bXor .u32 t55 t57
 let t60 : Int := sShr .u32 t45 10
 let t61 : Int := bXor .u32 t58 t60
 let t64 : Int := IntKind.i64.wrap (i6 - 16)
 hwp PP (Instr.indexAt T_64_uint32 (.pointer (some w3)) (.int .i64 t64)) (fun v_6 h3 => ∃ (t65 : Addr), v_6 = (.pointer (some t65)) ∧
 ∃ (t66 : Int), cellH h3 t65 = some (.int .u32 t66) ∧
 let t68 : Int := IntKind.u32.wrap (t66 + t53)
 let t70 : Int := IntKind.i64.wrap (i6 - 7)
 hwp PP (Instr.indexAt T_64_uint32 (.pointer (some w3)) (.int .i64 t70)) (fun v_7 h4 => ∃ (t71 : Addr), v_7 = (.pointer (some t71)) ∧
 ∃ (t72 : Int), cellH h4 t71 = some (.int .u32 t72) ∧
 let t73 : Int := IntKind.u32.wrap (t68 + t72)
 let t75 : Int := IntKind.u32.wrap (t73 + t61)
 hwp PP (Instr.indexAt T_64_uint32 (.pointer (some w3)) (.int .i64 i6)) (fun v_8 h5 => ∃ (t76 : Addr), v_8 = (.pointer (some t76)) ∧
 wr t76 (.int .u32 t75) (fun h6 =>
 let t37 : Int := IntKind.i64.wrap (i6 + 1)
 L3 t2 w3 t37 K h6) h5) h4) h3) h2) h1) h) (
 K (.exit 4) (X4 t2 w3) h)) : L3 t2 w3 i6 K h := by unfold L3; exact Lp.of_txt (an 244) 76 (by kernel_rfl) H
theorem L3_X4 {Q : VP} {t2 w3 : Addr} {h : Heap} (H :
 ∃ (t77 : List Value), List.length t77 = 64 ∧ rdCells h w3 0 t77 ∧
 br (decide (Array.size (List.toArray t77) = 64)) (wrCells t2 0 t77 (fun h1 =>
 ∃ (t2_1 : List Value), List.length t2_1 = 64 ∧ rdCells h1 t2 0 t2_1 ∧
 Q (.agg (t2_1).toArray) h1) h) False) : (K3 Q) (.exit 4) (X4 t2 w3) h := of_eq_txt (by kernel_rfl) H
theorem door {b0 : OA} {b0n b0c : Nat} {Q : VP} {h : Heap} (H :
 let t2 : Addr := ⟨Array.size h, 0, none⟩
 let h1 : Heap := Array.push h (.cells (Array.replicate 64 (.int .u32 0)) T_64_uint32 (0, 0))
 let w3 : Addr := ⟨Array.size h1, 0, none⟩
 let h2 : Heap := Array.push h1 (.cells (Array.replicate 64 (.int .u32 0)) T_64_uint32 (0, 0))
 L1 b0 b0n b0c t2 w3 0 (K1 Q) h2) : SpecH PP F_ref15_schedule [(.slice b0 b0n b0c)] h Q :=
   spec_of_txt (ann := ann) Tryd.func22 rfl rfl (by kernel_rfl) H
end ref15_schedule
/-! ### haversack/haversackref15.k: function 23 -/
namespace ref15_k
def ann : Ann := (.seq 1 (.region [(List.range 1, 1)]) (.seq 1 (.region [(List.range 2, 1)]) (.exit 1)))
noncomputable abbrev cd (n : Nat) : Code := sub (bodyOf Tryd.f23) (pth n)
abbrev an (n : Nat) : Ann := subA ann (pth n)
theorem door  {Q : VP} {h : Heap} (H :
 let t0 : Addr := ⟨Array.size h, 0, none⟩
 let h1 : Heap := Array.push h (.cells (Array.replicate 64 (.int .u32 0)) T_64_uint32 (0, 0))
 wrCells t0 0 [(.int .u32 1116352408), (.int .u32 1899447441), (.int .u32 3049323471), (.int .u32 3921009573), (.int .u32 961987163), (.int .u32 1508970993), (.int .u32 2453635748), (.int .u32 2870763221), (.int .u32 3624381080), (.int .u32 310598401), (.int .u32 607225278), (.int .u32 1426881987), (.int .u32 1925078388), (.int .u32 2162078206), (.int .u32 2614888103), (.int .u32 3248222580), (.int .u32 3835390401), (.int .u32 4022224774), (.int .u32 264347078), (.int .u32 604807628), (.int .u32 770255983), (.int .u32 1249150122), (.int .u32 1555081692), (.int .u32 1996064986), (.int .u32 2554220882), (.int .u32 2821834349), (.int .u32 2952996808), (.int .u32 3210313671), (.int .u32 3336571891), (.int .u32 3584528711), (.int .u32 113926993), (.int .u32 338241895), (.int .u32 666307205), (.int .u32 773529912), (.int .u32 1294757372), (.int .u32 1396182291), (.int .u32 1695183700), (.int .u32 1986661051), (.int .u32 2177026350), (.int .u32 2456956037), (.int .u32 2730485921), (.int .u32 2820302411), (.int .u32 3259730800), (.int .u32 3345764771), (.int .u32 3516065817), (.int .u32 3600352804), (.int .u32 4094571909), (.int .u32 275423344), (.int .u32 430227734), (.int .u32 506948616), (.int .u32 659060556), (.int .u32 883997877), (.int .u32 958139571), (.int .u32 1322822218), (.int .u32 1537002063), (.int .u32 1747873779), (.int .u32 1955562222), (.int .u32 2024104815), (.int .u32 2227730452), (.int .u32 2361852424), (.int .u32 2428436474), (.int .u32 2756734187), (.int .u32 3204031479), (.int .u32 3329325298)] (fun h2 =>
 ∃ (t0_1 : List Value), List.length t0_1 = 64 ∧ rdCells h2 t0 0 t0_1 ∧
 Q (.agg (t0_1).toArray) h2) h1) : SpecH PP F_ref15_k [] h Q :=
   spec_of_txt (ann := ann) Tryd.func23 rfl rfl (by kernel_rfl) H
end ref15_k
/-! ### haversack/haversackref15.turn: function 24 -/
namespace ref15_turn
def ann : Ann := (.seq 3 (.region [(List.range 1, 3)]) (.seq 16 (.region [(List.range 9, 16)]) (.exit 16)))
noncomputable abbrev cd (n : Nat) : Code := sub (bodyOf Tryd.f24) (pth n)
abbrev an (n : Nat) : Ann := subA ann (pth n)
theorem door {x0 xn1 : Int} {Q : VP} {h : Heap} (H :
 br (decide (0 ≤ xn1)) (
 let t7 : Int := sShr .u32 x0 xn1
 let t10 : Int := IntKind.i64.wrap (32 - xn1)
 br (decide (0 ≤ t10)) (
 let t11 : Int := sShl .u32 x0 t10
 let t12 : Int := bOr .u32 t7 t11
 Q (.int .u32 t12) h) False) False) : SpecH PP F_ref15_turn [(.int .u32 x0), (.int .i64 xn1)] h Q :=
   spec_of_txt (ann := ann) Tryd.func24 rfl rfl (by kernel_rfl) H
end ref15_turn
/-! ### haversack/hmac.right: function 25 -/
namespace hmac_right
def ann : Ann := (.seq 3 (.region [(List.range 1, 3)]) (.seq 16 (.region [(List.range 5, 16)]) (.exit 16)))
noncomputable abbrev cd (n : Nat) : Code := sub (bodyOf Tryd.f25) (pth n)
abbrev an (n : Nat) : Ann := subA ann (pth n)
theorem door {x0 xn1 : Int} {Q : VP} {h : Heap} (H :
 let t7 : Int := IntKind.i64.wrap (0 - xn1)
 ∃ v, PureAt PP F_math_bits_RotateLeft32 [(.int .u32 x0), (.int .i64 t7)] v ∧
 ∃ (t8 : Int), v = (.int .u32 t8) ∧
 Q (.int .u32 t8) h) : SpecH PP F_hmac_right [(.int .u32 x0), (.int .i64 xn1)] h Q :=
   spec_of_txt (ann := ann) Tryd.func25 rfl rfl (by kernel_rfl) H
end hmac_right
/-! ### math/bits.RotateLeft32: function 26 -/
namespace math_bits_RotateLeft32
def ann : Ann := (.seq 3 (.region [(List.range 1, 3)]) (.seq 33 (.region [(List.range 4, 33)]) (.seq 16 (.region [(List.range 9, 16)]) (.exit 16))))
noncomputable abbrev cd (n : Nat) : Code := sub (bodyOf Tryd.f26) (pth n)
abbrev an (n : Nat) : Ann := subA ann (pth n)
theorem door {x0 k1 : Int} {Q : VP} {h : Heap} (H :
 let t7 : Int := IntKind.u64.wrap k1
 let t8 : Int := bAnd .u64 t7 31
 br (decide (0 ≤ t8)) (
 let t11 : Int := sShl .u32 x0 t8
 let t14 : Int := IntKind.u64.wrap (32 - t8)
 br (decide (0 ≤ t14)) (
 let t15 : Int := sShr .u32 x0 t14
 let t16 : Int := bOr .u32 t11 t15
 Q (.int .u32 t16) h) False) False) : SpecH PP F_math_bits_RotateLeft32 [(.int .u32 x0), (.int .i64 k1)] h Q :=
   spec_of_txt (ann := ann) Tryd.func26 rfl rfl (by kernel_rfl) H
end math_bits_RotateLeft32
end Go.Proofs.YtjliiiejcalglaaDoor
