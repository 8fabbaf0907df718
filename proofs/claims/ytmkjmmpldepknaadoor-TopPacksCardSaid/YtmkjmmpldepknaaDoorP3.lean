/- Texts of the proof, laid together: What the functions of this text come to, as predicates on heaps (printed by my own program out of the dump), each with its proof against the program. -/
import Derived.Test.YtmkjmmpldepknaaDoorP1
import Derived.Test.YtmkjmmpldepknaaDoorP2
import Derived.Test.YtmkjmmpldepknaaDoorProg
set_option linter.unusedVariables false
set_option linter.unusedSimpArgs false
set_option linter.unusedSectionVars false
set_option maxRecDepth 100000
namespace Go.Proofs.YtmkjmmpldepknaaDoor
open Go Go.HW
abbrev rg (n m : Nat) : Ann := .region [(List.range n, m)]
noncomputable abbrev cdF (f : Func) (n : Nat) : Code := sub (bodyOf f) (pth n)
abbrev anF (a : Ann) (n : Nat) : Ann := subA a (pth n)
noncomputable abbrev PP : Program := Tryd.prog
abbrev y18 : TypeId := 3
abbrev y15 : TypeId := 5
abbrev T_string : TypeId := 9
abbrev y45 : TypeId := 22
abbrev y13 : TypeId := 24
abbrev y44 : TypeId := 25
abbrev T_3_sl_uint8 : TypeId := 30
abbrev y14 : TypeId := 35
abbrev y112 : TypeId := 45
abbrev T_2_sl_uint8 : TypeId := 46
abbrev y38 : TypeId := 51
abbrev y150 : TypeId := 59
abbrev y34 : TypeId := 71
abbrev y82 : TypeId := 73
abbrev y99 : TypeId := 76
abbrev y154 : TypeId := 79
abbrev y119 : TypeId := 81
abbrev T_sl_sl_int : TypeId := 82
abbrev y171 : TypeId := 86
abbrev y131 : TypeId := 88
abbrev y11 : TypeId := 92
abbrev y17 : TypeId := 94
abbrev y54 : TypeId := 99
abbrev y73 : TypeId := 103
abbrev y98 : TypeId := 104
abbrev y170 : TypeId := 107
abbrev y64 : TypeId := 116
abbrev T_4096_int : TypeId := 136
abbrev y80 : TypeId := 138
abbrev y117 : TypeId := 157
abbrev z358 : FuncId := 3
abbrev z360 : FuncId := 4
abbrev z356 : FuncId := 5
abbrev z362 : FuncId := 6
abbrev z302 : FuncId := 7
abbrev z210 : FuncId := 8
abbrev z208 : FuncId := 9
abbrev z214 : FuncId := 10
abbrev z242 : FuncId := 11
abbrev z276 : FuncId := 12
abbrev z244 : FuncId := 13
abbrev z364 : FuncId := 14
abbrev z250 : FuncId := 15
abbrev z252 : FuncId := 16
abbrev z200 : FuncId := 17
abbrev z248 : FuncId := 18
abbrev z246 : FuncId := 19
abbrev z212 : FuncId := 20
abbrev z218 : FuncId := 21
abbrev z216 : FuncId := 22
abbrev z366 : FuncId := 23
abbrev z312 : FuncId := 24
abbrev z300 : FuncId := 25
abbrev z332 : FuncId := 26
abbrev z342 : FuncId := 27
abbrev z182 : FuncId := 28
abbrev z198 : FuncId := 29
abbrev z222 : FuncId := 30
abbrev z196 : FuncId := 31
abbrev z224 : FuncId := 32
abbrev z220 : FuncId := 33
abbrev z232 : FuncId := 34
abbrev z284 : FuncId := 35
abbrev z258 : FuncId := 36
abbrev z188 : FuncId := 37
abbrev z326 : FuncId := 38
abbrev z304 : FuncId := 39
abbrev z202 : FuncId := 40
abbrev z204 : FuncId := 41
abbrev z206 : FuncId := 42
abbrev z336 : FuncId := 43
abbrev z320 : FuncId := 44
abbrev z228 : FuncId := 45
abbrev z314 : FuncId := 46
abbrev z234 : FuncId := 47
abbrev z344 : FuncId := 48
abbrev z328 : FuncId := 49
abbrev z288 : FuncId := 50
abbrev z278 : FuncId := 51
abbrev z180 : FuncId := 52
abbrev z260 : FuncId := 53
abbrev z296 : FuncId := 54
abbrev z324 : FuncId := 56
abbrev z226 : FuncId := 57
abbrev z238 : FuncId := 58
abbrev z240 : FuncId := 59
abbrev z318 : FuncId := 61
abbrev z350 : FuncId := 62
abbrev z334 : FuncId := 63
abbrev z290 : FuncId := 64
abbrev z280 : FuncId := 65
abbrev z192 : FuncId := 66
abbrev z272 : FuncId := 67
abbrev z268 : FuncId := 68
abbrev z270 : FuncId := 69
abbrev z256 : FuncId := 70
abbrev z264 : FuncId := 71
abbrev z298 : FuncId := 72
abbrev z310 : FuncId := 73
abbrev z346 : FuncId := 74
abbrev z354 : FuncId := 75
abbrev z338 : FuncId := 76
abbrev z194 : FuncId := 77
abbrev z254 : FuncId := 78
abbrev z184 : FuncId := 79
abbrev z266 : FuncId := 80
abbrev z236 : FuncId := 81
abbrev z274 : FuncId := 82
abbrev z230 : FuncId := 83
abbrev z262 : FuncId := 84
abbrev z282 : FuncId := 85
abbrev z308 : FuncId := 86
abbrev z306 : FuncId := 87
abbrev z348 : FuncId := 88
abbrev z190 : FuncId := 89
abbrev z340 : FuncId := 90
abbrev z186 : FuncId := 91
abbrev z292 : FuncId := 92
abbrev z352 : FuncId := 93
abbrev z294 : FuncId := 94
abbrev z286 : FuncId := 95
abbrev z330 : FuncId := 96
abbrev G_lens_order : Nat := 0
abbrev G_lens_wide : Nat := 1
abbrev G_lens_from : Nat := 2
theorem U_int : PP.underlying y18 = some (.int .i64) := by kernel_rfl
theorem U_uint8 : PP.underlying y15 = some (.int .u8) := by kernel_rfl
theorem U_string : PP.underlying T_string = some .string := by kernel_rfl
theorem y157 : Elem PP y45 y38 3 24 (.agg #[.int .u8 0, .int .i64 0, .int .i64 0]) := Elem.of (by kernel_rfl) (by kernel_rfl)
theorem y33 : Elem PP y13 y15 1 1 (.int .u8 0) := Elem.of (by kernel_rfl) (by kernel_rfl)
theorem U_sl_uint8 : PP.underlying y13 = some (.slice y15) := by kernel_rfl
theorem A_3_sl_uint8 : Arr PP T_3_sl_uint8 y13 3 1 := Arr.of (by kernel_rfl) (by kernel_rfl)
theorem y25 : Elem PP y14 y18 1 8 (.int .i64 0) := Elem.of (by kernel_rfl) (by kernel_rfl)
theorem A_2_sl_uint8 : Arr PP T_2_sl_uint8 y13 2 1 := Arr.of (by kernel_rfl) (by kernel_rfl)
theorem FL_api_Token : fieldsOf PP y38 = [(y15, 0, 1), (y18, 1, 1), (y18, 2, 1)] := by kernel_rfl
theorem y121 : Elem PP y154 y112 1 8 .nilFunc := Elem.of (by kernel_rfl) (by kernel_rfl)
theorem E_sl_sl_int : Elem PP T_sl_sl_int y14 1 24 (.slice none 0 0) := Elem.of (by kernel_rfl) (by kernel_rfl)
theorem y152 : Elem PP y131 y150 1 4 (.int .u32 0) := Elem.of (by kernel_rfl) (by kernel_rfl)
theorem y104 : Elem PP y11 y17 2 32 (.agg #[.int .i64 0, (.slice none 0 0)]) := Elem.of (by kernel_rfl) (by kernel_rfl)
theorem y175 : Elem PP y54 y73 2 16 (.agg #[.int .i64 0, .int .i64 0]) := Elem.of (by kernel_rfl) (by kernel_rfl)
theorem C_19_int : PP.cellsOf y98 = 19 := by kernel_rfl
theorem A_19_int : Arr PP y98 y18 19 1 := Arr.of (by kernel_rfl) (by kernel_rfl)
theorem U_19_int : PP.underlying y98 = some (.array 19 y18) := by kernel_rfl
theorem y142 : Arr PP y64 y18 16 1 := Arr.of (by kernel_rfl) (by kernel_rfl)
theorem A_4096_int : Arr PP T_4096_int y18 4096 1 := Arr.of (by kernel_rfl) (by kernel_rfl)
namespace z357
def ann : Ann := (.seq 1 (rg 1 1) (.seq 1 (.seq 262145 (rg 3 262145) (.cond (.seq 4 (rg 2 4) (.exit 4)) .leaf)) (.seq 25 (rg 7 25) (.seq 121 (rg 7 121) (.seq 504 (rg 7 504) (.seq 488 (.seq 68719477240 (rg 2 68719477240) (.cond (.seq 4 (rg 22 4) (.exit 4)) .leaf)) (.seq 2024 (rg 7 2024) (.seq 680 (.seq 4722366482869645214376 (rg 10 4722366482869645214376) (.join (.cond (.seq 4 (rg 1 4) (.exit 4)) .leaf))) (.seq 0 (.seq 2728 (rg 1 2728) (.block (.loop 2728 (.seq 2728 (.seq 18889465931478580857512 (rg 2 18889465931478580857512) (.cond .leaf (.exit 0))) (.seq 2728 (.block (.seq 6824 (rg 7 6824) (.seq 64168 (rg 11 64168) (.seq 20282409603651670423947251288744 (rg 14 20282409603651670423947251288744) (.join (.cond (.seq 4 (rg 1 4) (.exit 4)) .leaf)))))) (rg 3 2728)))))) (.seq 4 (rg 2 4) (.exit 4)))))))))))
noncomputable abbrev cd := cdF Tryd.f3
abbrev an := anF ann
@[irreducible] def X0  : Fr := (mkFr 0 106 [])
@[irreducible] def Xret (t2 : Bool) : Fr := (mkFr 0 106 [(2, .bool t2)])
@[irreducible] def K1 (Q : VP) : EP := seqK (fun fr h => ev PP true none (cd 511) (an 511) (fr.mask 680) (bodyK PP Tryd.f3 Q) h) (bodyK PP Tryd.f3 Q)
@[irreducible] def J1 (data3 : OA) (data3n data3c : Nat) (a5 : OA) (a5n a5c : Nat) (b7 : OA) (b7n b7c : Nat) (c9 : OA) (c9n c9c : Nat) (t72 : Bool) (Q : VP) (h : Heap) : Prop := Jn PP true (cd 1021) (mkFr 0 106 [(3, (.slice data3 data3n data3c)), (5, (.slice a5 a5n a5c)), (7, (.slice b7 b7n b7c)), (9, (.slice c9 c9n c9c)), (72, .bool t72)]) (K1 Q) h
@[irreducible] def K3 (Q : VP) : EP := seqK (fun fr h => ev PP true none (cd 1023) (an 1023) (fr.mask 0) (bodyK PP Tryd.f3 Q) h) (bodyK PP Tryd.f3 Q)
@[irreducible] def K2 (Q : VP) : EP := blockK 0 (K3 Q)
@[irreducible] def L1 (data3 : OA) (data3n data3c : Nat) (a5 : OA) (a5n a5c : Nat) (b7 : OA) (b7n b7c : Nat) (c9 : OA) (c9n c9c : Nat) (k11 : Int) (K : EP) (h : Heap) : Prop := Lp PP true (cd 8180) (mkFr 0 106 [(3, (.slice data3 data3n data3c)), (5, (.slice a5 a5n a5c)), (7, (.slice b7 b7n b7c)), (9, (.slice c9 c9n c9c)), (11, .int .i64 k11)]) K h
@[irreducible] def B1 (K : EP) : EP := seqK (fun fr h => Lp PP true (cd 8180) (fr.mask 2728) K h) K
@[irreducible] def K5 (K : EP) : EP := seqK (fun fr h => ev PP true none (cd 32723) (an 32723) (fr.mask 2728) (B1 K) h) (B1 K)
@[irreducible] def K4 (K : EP) : EP := blockK 1 (K5 K)
@[irreducible] def J2 (data3 : OA) (data3n data3c : Nat) (a5 : OA) (a5n a5c : Nat) (b7 : OA) (b7n b7c : Nat) (c9 : OA) (c9n c9c : Nat) (k11 : Int) (t104 : Bool) (K : EP) (h : Heap) : Prop := Jn PP true (cd 523559) (mkFr 0 106 [(3, (.slice data3 data3n data3c)), (5, (.slice a5 a5n a5c)), (7, (.slice b7 b7n b7c)), (9, (.slice c9 c9n c9c)), (11, .int .i64 k11), (104, .bool t104)]) (K4 K) h
theorem J1_of {data3 : OA} {data3n data3c : Nat} {a5 : OA} {a5n a5c : Nat} {b7 : OA} {b7n b7c : Nat} {c9 : OA} {c9n c9c : Nat} {t72 : Bool} {Q : VP} {h : Heap} (H :
br t72 (
Q (.bool false) h) (
L1 data3 data3n data3c a5 a5n a5c b7 b7n b7c c9 c9n c9c 0 (K2 Q) h)) : J1 data3 data3n data3c a5 a5n a5c b7 b7n b7c c9 c9n c9c t72 Q h := by unfold J1; exact Jn.of_txt (an 1021) (by kernel_rfl) H
theorem L1_of {data3 : OA} {data3n data3c : Nat} {a5 : OA} {a5n a5c : Nat} {b7 : OA} {b7n b7c : Nat} {c9 : OA} {c9n c9c : Nat} {k11 : Int} {K : EP} {h : Heap} (H :
let t74 : Bool := decide (k11 < 3)
br t74 (
hwp PP (Instr.index T_3_sl_uint8 (.agg #[(.slice a5 a5n a5c), (.slice b7 b7n b7c), (.slice c9 c9n c9c)]) (.int .i64 k11)) (fun v h1 => ∃ (t82 : OA) (t82n t82c : Nat), v = (.slice t82 t82n t82c) ∧
SpecH PP z242 [(.slice t82 t82n t82c), (.int .i64 (data3n : Int))] h1 (fun v_1 h2 => ∃ (t87 : OA) (t87n t87c : Nat) (t87_1 t87_2 : Int), v_1 = (.tuple #[(.slice t87 t87n t87c), .int .i64 t87_1, .int .i64 t87_2]) ∧
let t92 : Bool := (t87_2 != 0)
br t92 (
J2 data3 data3n data3c a5 a5n a5c b7 b7n b7c c9 c9n c9c k11 true K h2) (
let t97 : Bool := (t87_1 != (t82n : Int))
br t97 (
J2 data3 data3n data3c a5 a5n a5c b7 b7n b7c c9 c9n c9c k11 true K h2) (
SpecH PP z276 [(.slice t87 t87n t87c), (.slice data3 data3n data3c)] h2 (fun v_2 h3 => ∃ (t102 : Bool), v_2 = (.bool t102) ∧
let t103 : Bool := (!t102)
J2 data3 data3n data3c a5 a5n a5c b7 b7n b7c c9 c9n c9c k11 t103 K h3))))) h) (
K (.exit 0) (X0) h)) : L1 data3 data3n data3c a5 a5n a5c b7 b7n b7c c9 c9n c9c k11 K h := by unfold L1; exact Lp.of_txt (an 8180) 2728 (by kernel_rfl) H
theorem L1_X0 {Q : VP}  {h : Heap} (H :
SpecH PP z362 [] h (fun v h1 => ∃ (t105 : Bool), v = (.bool t105) ∧
Q (.bool t105) h1)) : (K2 Q) (.exit 0) (X0 ) h := y19 (by kernel_rfl) H
theorem J2_of {data3 : OA} {data3n data3c : Nat} {a5 : OA} {a5n a5c : Nat} {b7 : OA} {b7n b7c : Nat} {c9 : OA} {c9n c9c : Nat} {k11 : Int} {t104 : Bool} {K : EP} {h : Heap} (H :
br t104 (
K .ret (Xret false) h) (
let t76 : Int := IntKind.i64.wrap (k11 + 1)
L1 data3 data3n data3c a5 a5n a5c b7 b7n b7c c9 c9n c9c t76 K h)) : J2 data3 data3n data3c a5 a5n a5c b7 b7n b7c c9 c9n c9c k11 t104 K h := by unfold J2; exact Jn.of_txt (an 523559) (by kernel_rfl) H
theorem door {t0 : OA} {t0n t0c : Nat} {Q : VP} {h : Heap} (H :
let t18 : Bool := decide ((t0n : Int) > 20000)
br t18 (
SpecH PP z362 [] h (fun v h1 => ∃ (t19 : Bool), v = (.bool t19) ∧
Q (.bool t19) h1)) (
SpecH PP z302 [(.slice t0 t0n t0c), .int .i64 16384] h (fun v_1 h2 => ∃ (t22 : OA) (t22n t22c : Nat) (t22_1 : Int), v_1 = (.tuple #[(.slice t22 t22n t22c), .int .i64 t22_1]) ∧
SpecH PP z210 [(.slice t0 t0n t0c)] h2 (fun v_2 h3 => ∃ (t27 : OA) (t27n t27c : Nat) (t27_1 : Int), v_2 = (.tuple #[(.slice t27 t27n t27c), .int .i64 t27_1]) ∧
SpecH PP z208 [(.slice t0 t0n t0c)] h3 (fun v_3 h4 => ∃ (t32 : OA) (t32n t32c : Nat) (t32_1 : Int), v_3 = (.tuple #[(.slice t32 t32n t32c), .int .i64 t32_1]) ∧
let t36 : Bool := (t22_1 != 0)
br t36 (
SpecH PP z362 [] h4 (fun v_4 h5 => ∃ (t37 : Bool), v_4 = (.bool t37) ∧
br t37 (
let t41 : Bool := (t27_1 == t22_1)
br t41 (
let t46 : Bool := (t32_1 == t22_1)
br t46 (
let t51 : Bool := ((t27n : Int) == 0)
br t51 (
let t56 : Bool := ((t32n : Int) == 0)
Q (.bool t56) h5) (
Q (.bool false) h5)) (
Q (.bool false) h5)) (
Q (.bool false) h5)) (
Q (.bool false) h5))) (
SpecH PP z214 [(.slice t22 t22n t22c)] h4 (fun v_5 h6 => ∃ (t60 : OA) (t60n t60c : Nat) (t60_1 : Int), v_5 = (.tuple #[(.slice t60 t60n t60c), .int .i64 t60_1]) ∧
let t64 : Bool := (t27_1 != 0)
br t64 (
J1 t22 t22n t22c t27 t27n t27c t32 t32n t32c t60 t60n t60c true Q h6) (
let t67 : Bool := (t32_1 != 0)
br t67 (
J1 t22 t22n t22c t27 t27n t27c t32 t32n t32c t60 t60n t60c true Q h6) (
let t71 : Bool := (t60_1 != 0)
J1 t22 t22n t22c t27 t27n t27c t32 t32n t32c t60 t60n t60c t71 Q h6))))))))) : SpecH PP z358 [(.slice t0 t0n t0c)] h Q :=
  y12 (ann := ann) Tryd.func3 rfl rfl (by kernel_rfl) H
end z357
namespace z359
def ann : Ann := (.seq 7 (rg 1 7) (.seq 7 (.seq 1099511627783 (rg 16 1099511627783) (.join (.cond (.seq 64 (rg 2 64) (.exit 64)) .leaf))) (.seq 903 (rg 10 903) (.seq 3975 (rg 7 3975) (.seq 1927 (.seq 2361183241434822608775 (rg 18 2361183241434822608775) (.join (.cond (.seq 64 (rg 1 64) (.exit 64)) .leaf))) (.seq 6023 (rg 1 6023) (.seq 14215 (rg 1 14215) (.seq 30599 (rg 1 30599) (.seq 22403 (.seq 63367 (rg 1 63367) (.block (.loop 63367 (.seq 46983 (.seq 604462909807314587416455 (rg 8 604462909807314587416455) (.cond .leaf (.exit 22403))) (.seq 63367 (.block (.seq 112519 (rg 8 112519) (.seq 505735 (rg 13 505735) (.seq 374663 (rg 4 374663) (.seq 128903 (rg 2 128903) (rg 4 63367)))))) (rg 3 63367)))))) (.seq 22403 (.seq 1298074214633706907132624082327427 (rg 4 1298074214633706907132624082327427) (.cond (.seq 64 (rg 1 64) (.exit 64)) .leaf)) (.seq 18048 (.seq 2596148429267413814265248164632451 (rg 1 2596148429267413814265248164632451) (.block (.seq 7788445287802241442795744493852547 (rg 2 7788445287802241442795744493852547) (.cond (.seq 546179 (rg 3 546179) (.seq 3691907 (rg 7 3691907) (.seq 23614849 (rg 10 23614849) (.seq 64 (rg 35 64) (.exit 64))))) (.seq 5846006549323611672814739330865132078623730189952 (rg 2 5846006549323611672814739330865132078623730189952) (.cond (.seq 64 (rg 16 64) (.exit 64)) .leaf)))))) (.seq 64 (rg 17 64) (.exit 64)))))))))))))
noncomputable abbrev cd := cdF Tryd.f4
abbrev an := anF ann
@[irreducible] def X0 (b0 : OA) (b0n b0c : Nat) (y27 : Int) (out7 : OA) (out7n out7c : Nat) (xn8 e9 : Int) (s10 got12 : OA) (got12n got12c : Nat) (last14 : Int) : Fr := (mkFr 0 195 [(0, (.slice b0 b0n b0c)), (1, .int .i64 y27), (7, (.slice out7 out7n out7c)), (8, .int .i64 xn8), (9, .int .i64 e9), (10, .pointer s10), (12, (.slice got12 got12n got12c)), (14, .int .i64 last14)])
@[irreducible] def K1 (Q : VP) : EP := seqK (fun fr h => ev PP true none (cd 7) (an 7) (fr.mask 7) (bodyK PP Tryd.f4 Q) h) (bodyK PP Tryd.f4 Q)
@[irreducible] def J1 (b0 : OA) (b0n b0c : Nat) (y27 : Int) (cuts2 : OA) (y91 y95 : Nat) (t40 : Bool) (Q : VP) (h : Heap) : Prop := Jn PP true (cd 13) (mkFr 0 195 [(0, (.slice b0 b0n b0c)), (1, .int .i64 y27), (2, (.slice cuts2 y91 y95)), (40, .bool t40)]) (K1 Q) h
@[irreducible] def K2 (Q : VP) : EP := seqK (fun fr h => ev PP true none (cd 63) (an 63) (fr.mask 1927) (bodyK PP Tryd.f4 Q) h) (bodyK PP Tryd.f4 Q)
@[irreducible] def J2 (b0 : OA) (b0n b0c : Nat) (y27 : Int) (cuts2 : OA) (y91 y95 : Nat) (out7 : OA) (out7n out7c : Nat) (xn8 e9 : Int) (s10 : OA) (t71 : Bool) (Q : VP) (h : Heap) : Prop := Jn PP true (cd 125) (mkFr 0 195 [(0, (.slice b0 b0n b0c)), (1, .int .i64 y27), (2, (.slice cuts2 y91 y95)), (7, (.slice out7 out7n out7c)), (8, .int .i64 xn8), (9, .int .i64 e9), (10, .pointer s10), (71, .bool t71)]) (K2 Q) h
@[irreducible] def K4 (Q : VP) : EP := seqK (fun fr h => ev PP true none (cd 1023) (an 1023) (fr.mask 22403) (bodyK PP Tryd.f4 Q) h) (bodyK PP Tryd.f4 Q)
@[irreducible] def K3 (Q : VP) : EP := blockK 0 (K4 Q)
@[irreducible] def L1 (b0 : OA) (b0n b0c : Nat) (y27 : Int) (cuts2 : OA) (y91 y95 : Nat) (out7 : OA) (out7n out7c : Nat) (xn8 e9 : Int) (s10 got12 : OA) (got12n got12c : Nat) (at13 last14 i15 : Int) (K : EP) (h : Heap) : Prop := Lp PP true (cd 8180) (mkFr 0 195 [(0, (.slice b0 b0n b0c)), (1, .int .i64 y27), (2, (.slice cuts2 y91 y95)), (7, (.slice out7 out7n out7c)), (8, .int .i64 xn8), (9, .int .i64 e9), (10, .pointer s10), (12, (.slice got12 got12n got12c)), (13, .int .i64 at13), (14, .int .i64 last14), (15, .int .i64 i15)]) K h
theorem J1_of {b0 : OA} {b0n b0c : Nat} {y27 : Int} {cuts2 : OA} {y91 y95 : Nat} {t40 : Bool} {Q : VP} {h : Heap} (H :
br t40 (
SpecH PP z362 [] h (fun v h1 => ∃ (t41 : Bool), v = (.bool t41) ∧
Q (.bool t41) h1)) (
SpecH PP z242 [(.slice b0 b0n b0c), .int .i64 y27] h (fun v_1 h2 => ∃ (t45 : OA) (t45n t45c : Nat) (t45_1 t45_2 : Int), v_1 = (.tuple #[(.slice t45 t45n t45c), .int .i64 t45_1, .int .i64 t45_2]) ∧
SpecH PP z244 [.int .i64 y27] h2 (fun v_2 h3 => ∃ (t51 : OA) (t51_1 : Int), v_2 = (.tuple #[.pointer t51, .int .i64 t51_1]) ∧
let t55 : Bool := (Option.isNone t51)
br t55 (
J2 b0 b0n b0c y27 cuts2 y91 y95 t45 t45n t45c t45_1 t45_2 t51 true Q h3) (
let t58 : Bool := (t51_1 != 0)
br t58 (
J2 b0 b0n b0c y27 cuts2 y91 y95 t45 t45n t45c t45_1 t45_2 t51 true Q h3) (
let t64 : Bool := decide ((t45n : Int) > y27)
br t64 (
J2 b0 b0n b0c y27 cuts2 y91 y95 t45 t45n t45c t45_1 t45_2 t51 true Q h3) (
let t70 : Bool := decide (t45_1 > (b0n : Int))
J2 b0 b0n b0c y27 cuts2 y91 y95 t45 t45n t45c t45_1 t45_2 t51 t70 Q h3))))))) : J1 b0 b0n b0c y27 cuts2 y91 y95 t40 Q h := by unfold J1; exact Jn.of_txt (an 13) (by kernel_rfl) H
theorem J2_of {b0 : OA} {b0n b0c : Nat} {y27 : Int} {cuts2 : OA} {y91 y95 : Nat} {out7 : OA} {out7n out7c : Nat} {xn8 e9 : Int} {s10 : OA} {t71 : Bool} {Q : VP} {h : Heap} (H :
br t71 (
Q (.bool false) h) (
L1 b0 b0n b0c y27 cuts2 y91 y95 out7 out7n out7c xn8 e9 s10 none 0 0 0 0 0 (K3 Q) h)) : J2 b0 b0n b0c y27 cuts2 y91 y95 out7 out7n out7c xn8 e9 s10 t71 Q h := by unfold J2; exact Jn.of_txt (an 125) (by kernel_rfl) H
theorem L1_of {b0 : OA} {b0n b0c : Nat} {y27 : Int} {cuts2 : OA} {y91 y95 : Nat} {out7 : OA} {out7n out7c : Nat} {xn8 e9 : Int} {s10 got12 : OA} {got12n got12c : Nat} {at13 last14 i15 : Int} {K : EP} {h : Heap} (H :
let t75 : Bool := decide (i15 ≤ (y91 : Int))
br t75 (
let t78 : Bool := (last14 == 0)
br t78 (
let t87 : Int := IntKind.i64.wrap ((b0n : Int) - at13)
SpecH PP z364 [(.slice cuts2 y91 y95), .int .i64 i15, .int .i64 t87] h (fun v h1 => ∃ (t88 : Int), v = (.int .i64 t88) ∧
let t95 : Int := IntKind.i64.wrap (at13 + t88)
hwp PP (Instr.sliceAt y13 (.slice b0 b0n b0c) (some (.int .i64 at13)) (some (.int .i64 t95)) none) (fun v_1 h2 => ∃ (t96 : OA) (t96n t96c : Nat), v_1 = (.slice t96 t96n t96c) ∧
SpecH PP z250 [.pointer s10, (.slice t96 t96n t96c)] h2 (fun v_2 h3 => ∃ (t97 : OA) (t97n t97c : Nat) (t97_1 : Int), v_2 = (.tuple #[(.slice t97 t97n t97c), .int .i64 t97_1]) ∧
hwp PP (Builtin.append_ #[y13, y13] y13 #[(.slice got12 got12n got12c), (.slice t97 t97n t97c)]) (fun v_3 h4 => ∃ (t102 : OA) (t102n t102c : Nat), v_3 = (.slice t102 t102n t102c) ∧
let t106 : Int := IntKind.i64.wrap (at13 + t88)
let t81 : Int := IntKind.i64.wrap (i15 + 1)
L1 b0 b0n b0c y27 cuts2 y91 y95 out7 out7n out7c xn8 e9 s10 t102 t102n t102c t106 t97_1 t81 K h4) h3)) h1)) (
K (.exit 0) (X0 b0 b0n b0c y27 out7 out7n out7c xn8 e9 s10 got12 got12n got12c last14) h)) (
K (.exit 0) (X0 b0 b0n b0c y27 out7 out7n out7c xn8 e9 s10 got12 got12n got12c last14) h)) : L1 b0 b0n b0c y27 cuts2 y91 y95 out7 out7n out7c xn8 e9 s10 got12 got12n got12c at13 last14 i15 K h := by unfold L1; exact Lp.of_txt (an 8180) 63367 (by kernel_rfl) H
theorem L1_X0 {Q : VP} {b0 : OA} {b0n b0c : Nat} {y27 : Int} {out7 : OA} {out7n out7c : Nat} {xn8 e9 : Int} {s10 got12 : OA} {got12n got12c : Nat} {last14 : Int} {h : Heap} (H :
let t110 : Bool := decide ((got12n : Int) > y27)
br t110 (
Q (.bool false) h) (
let t113 : Bool := (e9 == 0)
br t113 (
SpecH PP z252 [.pointer s10] h (fun v h1 => ∃ (t115 : OA) (t115n t115c : Nat), v = (.slice t115 t115n t115c) ∧
SpecH PP z200 [(.slice out7 out7n out7c)] h1 (fun v_1 h2 => ∃ (t118 : OA) (t118n t118c : Nat) (t118_1 : Int), v_1 = (.tuple #[(.slice t118 t118n t118c), .int .i64 t118_1]) ∧
SpecH PP z242 [(.slice t118 t118n t118c), .int .i64 y27] h2 (fun v_2 h3 => ∃ (t124 : OA) (t124n t124c : Nat) (t124_1 t124_2 : Int), v_2 = (.tuple #[(.slice t124 t124n t124c), .int .i64 t124_1, .int .i64 t124_2]) ∧
SpecH PP z362 [] h3 (fun v_3 h4 => ∃ (t128 : Bool), v_3 = (.bool t128) ∧
br t128 (
let t131 : Bool := (last14 == 0)
br t131 (
SpecH PP z248 [.pointer s10] h4 (fun v_4 h5 => ∃ (t135 : Bool), v_4 = (.bool t135) ∧
br t135 (
SpecH PP z276 [(.slice got12 got12n got12c), (.slice out7 out7n out7c)] h5 (fun v_5 h6 => ∃ (t140 : Bool), v_5 = (.bool t140) ∧
br t140 (
hwp PP (Instr.sliceAt y13 (.slice b0 b0n b0c) (some (.int .i64 xn8)) none none) (fun v_6 h7 => ∃ (t146 : OA) (t146n t146c : Nat), v_6 = (.slice t146 t146n t146c) ∧
SpecH PP z276 [(.slice t115 t115n t115c), (.slice t146 t146n t146c)] h7 (fun v_7 h8 => ∃ (t147 : Bool), v_7 = (.bool t147) ∧
br t147 (
let t151 : Bool := (t118_1 == 0)
br t151 (
let t155 : Bool := (t124_2 == 0)
br t155 (
SpecH PP z276 [(.slice t124 t124n t124c), (.slice out7 out7n out7c)] h8 (fun v_8 h9 => ∃ (t160 : Bool), v_8 = (.bool t160) ∧
Q (.bool t160) h9)) (
Q (.bool false) h8)) (
Q (.bool false) h8)) (
Q (.bool false) h8))) h6) (
Q (.bool false) h6))) (
Q (.bool false) h5))) (
Q (.bool false) h4)) (
Q (.bool false) h4)))))) (
let t163 : Bool := (e9 == 55)
br t163 (
SpecH PP z362 [] h (fun v_9 h10 => ∃ (t164 : Bool), v_9 = (.bool t164) ∧
br t164 (
let t167 : Bool := (last14 == 0)
br t167 (
SpecH PP z248 [.pointer s10] h10 (fun v_10 h11 => ∃ (t171 : Bool), v_10 = (.bool t171) ∧
let t172 : Bool := (!t171)
br t172 (
SpecH PP z246 [.pointer s10] h11 (fun v_11 h12 => ∃ (t176 : Int), v_11 = (.int .i64 t176) ∧
let t177 : Bool := (t176 == 55)
Q (.bool t177) h12)) (
Q (.bool false) h11))) (
Q (.bool false) h10)) (
Q (.bool false) h10))) (
SpecH PP z362 [] h (fun v_12 h13 => ∃ (t179 : Bool), v_12 = (.bool t179) ∧
br t179 (
let t183 : Bool := (last14 == e9)
br t183 (
SpecH PP z248 [.pointer s10] h13 (fun v_13 h14 => ∃ (t187 : Bool), v_13 = (.bool t187) ∧
let t188 : Bool := (!t187)
br t188 (
let t193 : Bool := ((out7n : Int) == 0)
Q (.bool t193) h14) (
Q (.bool false) h14))) (
Q (.bool false) h13)) (
Q (.bool false) h13)))))) : (K3 Q) (.exit 0) (X0 b0 b0n b0c y27 out7 out7n out7c xn8 e9 s10 got12 got12n got12c last14) h := y19 (by kernel_rfl) H
theorem door {b0 : OA} {b0n b0c : Nat} {y27 : Int} {cuts2 : OA} {y91 y95 : Nat} {Q : VP} {h : Heap} (H :
let t27 : Bool := decide ((b0n : Int) > 1048576)
br t27 (
J1 b0 b0n b0c y27 cuts2 y91 y95 true Q h) (
let t31 : Bool := decide ((y91 : Int) > 200)
br t31 (
J1 b0 b0n b0c y27 cuts2 y91 y95 true Q h) (
let t35 : Bool := decide (y27 < 0)
br t35 (
J1 b0 b0n b0c y27 cuts2 y91 y95 true Q h) (
let t39 : Bool := decide (y27 > 16384)
J1 b0 b0n b0c y27 cuts2 y91 y95 t39 Q h)))) : SpecH PP z360 [(.slice b0 b0n b0c), .int .i64 y27, (.slice cuts2 y91 y95)] h Q :=
  y12 (ann := ann) Tryd.func4 rfl rfl (by kernel_rfl) H
end z359
namespace z355
def ann : Ann := (.seq 7 (rg 1 7) (.seq 7 (.seq 1099511627783 (rg 13 1099511627783) (.join (.cond (.seq 64 (rg 2 64) (.exit 64)) .leaf))) (.seq 391 (rg 7 391) (.seq 903 (rg 2 903) (.seq 647 (.seq 9007199254741639 (rg 6 9007199254741639) (.join (.cond (.seq 64 (rg 1 64) (.exit 64)) .leaf))) (.seq 1671 (rg 1 1671) (.seq 3719 (rg 1 3719) (.seq 1669 (.seq 7815 (rg 1 7815) (.block (.loop 7815 (.seq 7815 (.seq 144115188075863687 (rg 4 144115188075863687) (.cond .leaf (.exit 1669))) (.seq 7815 (.block (.seq 16007 (rg 8 16007) (.seq 65159 (rg 13 65159) (.seq 32391 (.seq 604462909807314587385479 (rg 2 604462909807314587385479) (.cond (.seq 64 (rg 1 64) (.exit 64)) .leaf)) (.seq 16007 (rg 4 16007) (rg 4 7815)))))) (rg 3 7815)))))) (.seq 197765 (rg 7 197765) (.seq 132229 (rg 4 132229) (.seq 0 (.seq 394373 (rg 1 394373) (.block (.loop 394373 (.seq 394373 (.seq 39614081257132168796772369541 (rg 2 39614081257132168796772369541) (.cond .leaf (.exit 0))) (.seq 394373 (.block (.seq 918661 (rg 6 918661) (.seq 8258693 (rg 11 8258693) (.seq 33424517 (rg 10 33424517) (.seq 918661 (.seq 89202980794122492566142873090593446024840325 (rg 28 89202980794122492566142873090593446024840325) (.join (.cond (.seq 64 (rg 1 64) (.exit 64)) .leaf))) (.seq 713623846352979940529142984724747568192291973 (rg 3 713623846352979940529142984724747568192291973) (.cond (.seq 134612101 (rg 12 134612101) (.seq 1461501637330902918203684832716283019655932937349 (rg 2 1461501637330902918203684832716283019655932937349) (.cond (.seq 64 (rg 1 64) (.exit 64)) .leaf))) .leaf))))))) (.join (rg 3 394373))))))) (.seq 64 (rg 2 64) (.exit 64)))))))))))))
noncomputable abbrev cd := cdF Tryd.f5
abbrev an := anF ann
@[irreducible] def Xret (t6 : Bool) : Fr := (mkFr 0 162 [(6, .bool t6)])
@[irreducible] def X0 (y9 : OA) (y6 y7 : Nat) (y35 : OA) (y29 y30 : Nat) (y66 : OA) (y49 y50 : Nat) (s9 y65 : OA) (y51 y53 : Nat) : Fr := (mkFr 0 162 [(0, (.slice y9 y6 y7)), (2, (.slice y35 y29 y30)), (7, (.slice y66 y49 y50)), (9, .pointer s9), (10, (.slice y65 y51 y53))])
@[irreducible] def X2  : Fr := (mkFr 0 162 [])
@[irreducible] def K1 (Q : VP) : EP := seqK (fun fr h => ev PP true none (cd 7) (an 7) (fr.mask 7) (bodyK PP Tryd.f5 Q) h) (bodyK PP Tryd.f5 Q)
@[irreducible] def J1 (y9 : OA) (y6 y7 : Nat) (cuts1 : OA) (y61 y68 : Nat) (y35 : OA) (y29 y30 : Nat) (t40 : Bool) (Q : VP) (h : Heap) : Prop := Jn PP true (cd 13) (mkFr 0 162 [(0, (.slice y9 y6 y7)), (1, (.slice cuts1 y61 y68)), (2, (.slice y35 y29 y30)), (40, .bool t40)]) (K1 Q) h
@[irreducible] def K2 (Q : VP) : EP := seqK (fun fr h => ev PP true none (cd 63) (an 63) (fr.mask 647) (bodyK PP Tryd.f5 Q) h) (bodyK PP Tryd.f5 Q)
@[irreducible] def J2 (y9 : OA) (y6 y7 : Nat) (cuts1 : OA) (y61 y68 : Nat) (y35 : OA) (y29 y30 : Nat) (y66 : OA) (y49 y50 : Nat) (s9 : OA) (t53 : Bool) (Q : VP) (h : Heap) : Prop := Jn PP true (cd 125) (mkFr 0 162 [(0, (.slice y9 y6 y7)), (1, (.slice cuts1 y61 y68)), (2, (.slice y35 y29 y30)), (7, (.slice y66 y49 y50)), (9, .pointer s9), (53, .bool t53)]) (K2 Q) h
@[irreducible] def K4 (Q : VP) : EP := seqK (fun fr h => ev PP true none (cd 511) (an 511) (fr.mask 1669) (bodyK PP Tryd.f5 Q) h) (bodyK PP Tryd.f5 Q)
@[irreducible] def K3 (Q : VP) : EP := blockK 0 (K4 Q)
@[irreducible] def L1 (y9 : OA) (y6 y7 : Nat) (cuts1 : OA) (y61 y68 : Nat) (y35 : OA) (y29 y30 : Nat) (y66 : OA) (y49 y50 : Nat) (s9 y65 : OA) (y51 y53 : Nat) (at11 i12 : Int) (K : EP) (h : Heap) : Prop := Lp PP true (cd 4084) (mkFr 0 162 [(0, (.slice y9 y6 y7)), (1, (.slice cuts1 y61 y68)), (2, (.slice y35 y29 y30)), (7, (.slice y66 y49 y50)), (9, .pointer s9), (10, (.slice y65 y51 y53)), (11, .int .i64 at11), (12, .int .i64 i12)]) K h
@[irreducible] def K6 (Q : VP) : EP := seqK (fun fr h => ev PP true none (cd 4095) (an 4095) (fr.mask 0) (bodyK PP Tryd.f5 Q) h) (bodyK PP Tryd.f5 Q)
@[irreducible] def K5 (Q : VP) : EP := blockK 2 (K6 Q)
@[irreducible] def L2 (y9 : OA) (y6 y7 : Nat) (y35 : OA) (y29 y30 : Nat) (y66 : OA) (y49 y50 : Nat) (y65 : OA) (y51 y53 : Nat) (f17 k18 : Int) (K : EP) (h : Heap) : Prop := Lp PP true (cd 32756) (mkFr 0 162 [(0, (.slice y9 y6 y7)), (2, (.slice y35 y29 y30)), (7, (.slice y66 y49 y50)), (10, (.slice y65 y51 y53)), (17, .int .i64 f17), (18, .int .i64 k18)]) K h
@[irreducible] def B2 (K : EP) : EP := seqK (fun fr h => Lp PP true (cd 32756) (fr.mask 394373) K h) K
@[irreducible] def K9 (K : EP) : EP := seqK (fun fr h => Jn PP true (cd 131027) (fr.mask 394373) (B2 K) h) (B2 K)
@[irreducible] def K8 (K : EP) : EP := blockK 3 (K9 K)
@[irreducible] def K7 (K : EP) : EP := seqK (fun fr h => ev PP true none (cd 4192847) (an 4192847) (fr.mask 918661) (K8 K) h) (K8 K)
@[irreducible] def J3 (y9 : OA) (y6 y7 : Nat) (y35 : OA) (y29 y30 : Nat) (y66 : OA) (y49 y50 : Nat) (y65 : OA) (y51 y53 : Nat) (f17 k18 : Int) (b19 : OA) (b19n b19c : Nat) (t146 : Bool) (K : EP) (h : Heap) : Prop := Jn PP true (cd 8385693) (mkFr 0 162 [(0, (.slice y9 y6 y7)), (2, (.slice y35 y29 y30)), (7, (.slice y66 y49 y50)), (10, (.slice y65 y51 y53)), (17, .int .i64 f17), (18, .int .i64 k18), (19, (.slice b19 b19n b19c)), (146, .bool t146)]) (K7 K) h
@[irreducible] def J4 (y9 : OA) (y6 y7 : Nat) (y35 : OA) (y29 y30 : Nat) (y66 : OA) (y49 y50 : Nat) (y65 : OA) (y51 y53 : Nat) (f17 k18 : Int) (K : EP) (h : Heap) : Prop := Jn PP true (cd 131027) (mkFr 0 162 [(0, (.slice y9 y6 y7)), (2, (.slice y35 y29 y30)), (7, (.slice y66 y49 y50)), (10, (.slice y65 y51 y53)), (17, .int .i64 f17), (18, .int .i64 k18)]) (B2 K) h
theorem J1_of {y9 : OA} {y6 y7 : Nat} {cuts1 : OA} {y61 y68 : Nat} {y35 : OA} {y29 y30 : Nat} {t40 : Bool} {Q : VP} {h : Heap} (H :
br t40 (
SpecH PP z362 [] h (fun v h1 => ∃ (t41 : Bool), v = (.bool t41) ∧
Q (.bool t41) h1)) (
SpecH PP z200 [(.slice y9 y6 y7)] h (fun v_1 h2 => ∃ (t44 : OA) (t44n t44c : Nat) (t44_1 : Int), v_1 = (.tuple #[(.slice t44 t44n t44c), .int .i64 t44_1]) ∧
SpecH PP z212 [] h2 (fun v_2 h3 => ∃ (t47 : OA), v_2 = (.pointer t47) ∧
let t49 : Bool := (t44_1 != 0)
br t49 (
J2 y9 y6 y7 cuts1 y61 y68 y35 y29 y30 t44 t44n t44c t47 true Q h3) (
let t52 : Bool := (Option.isNone t47)
J2 y9 y6 y7 cuts1 y61 y68 y35 y29 y30 t44 t44n t44c t47 t52 Q h3))))) : J1 y9 y6 y7 cuts1 y61 y68 y35 y29 y30 t40 Q h := by unfold J1; exact Jn.of_txt (an 13) (by kernel_rfl) H
theorem J2_of {y9 : OA} {y6 y7 : Nat} {cuts1 : OA} {y61 y68 : Nat} {y35 : OA} {y29 y30 : Nat} {y66 : OA} {y49 y50 : Nat} {s9 : OA} {t53 : Bool} {Q : VP} {h : Heap} (H :
br t53 (
Q (.bool false) h) (
L1 y9 y6 y7 cuts1 y61 y68 y35 y29 y30 y66 y49 y50 s9 none 0 0 0 0 (K3 Q) h)) : J2 y9 y6 y7 cuts1 y61 y68 y35 y29 y30 y66 y49 y50 s9 t53 Q h := by unfold J2; exact Jn.of_txt (an 125) (by kernel_rfl) H
theorem L1_of {y9 : OA} {y6 y7 : Nat} {cuts1 : OA} {y61 y68 : Nat} {y35 : OA} {y29 y30 : Nat} {y66 : OA} {y49 y50 : Nat} {s9 y65 : OA} {y51 y53 : Nat} {at11 i12 : Int} {K : EP} {h : Heap} (H :
let t57 : Bool := decide (i12 ≤ (y61 : Int))
br t57 (
let t65 : Int := IntKind.i64.wrap ((y6 : Int) - at11)
SpecH PP z364 [(.slice cuts1 y61 y68), .int .i64 i12, .int .i64 t65] h (fun v h1 => ∃ (t66 : Int), v = (.int .i64 t66) ∧
let t73 : Int := IntKind.i64.wrap (at11 + t66)
hwp PP (Instr.sliceAt y13 (.slice y9 y6 y7) (some (.int .i64 at11)) (some (.int .i64 t73)) none) (fun v_1 h2 => ∃ (t74 : OA) (t74n t74c : Nat), v_1 = (.slice t74 t74n t74c) ∧
SpecH PP z218 [.pointer s9, (.slice t74 t74n t74c)] h2 (fun v_2 h3 => ∃ (t75 : OA) (t75n t75c : Nat) (t75_1 : Int), v_2 = (.tuple #[(.slice t75 t75n t75c), .int .i64 t75_1]) ∧
let t79 : Bool := (t75_1 != 0)
br t79 (
K .ret (Xret false) h3) (
hwp PP (Builtin.append_ #[y13, y13] y13 #[(.slice y65 y51 y53), (.slice t75 t75n t75c)]) (fun v_3 h4 => ∃ (t82 : OA) (t82n t82c : Nat), v_3 = (.slice t82 t82n t82c) ∧
let t85 : Int := IntKind.i64.wrap (at11 + t66)
let t59 : Int := IntKind.i64.wrap (i12 + 1)
L1 y9 y6 y7 cuts1 y61 y68 y35 y29 y30 y66 y49 y50 s9 t82 t82n t82c t85 t59 K h4) h3))) h1)) (
K (.exit 0) (X0 y9 y6 y7 y35 y29 y30 y66 y49 y50 s9 y65 y51 y53) h)) : L1 y9 y6 y7 cuts1 y61 y68 y35 y29 y30 y66 y49 y50 s9 y65 y51 y53 at11 i12 K h := by unfold L1; exact Lp.of_txt (an 4084) 7815 (by kernel_rfl) H
theorem L1_X0 {Q : VP} {y9 : OA} {y6 y7 : Nat} {y35 : OA} {y29 y30 : Nat} {y66 : OA} {y49 y50 : Nat} {s9 y65 : OA} {y51 y53 : Nat} {h : Heap} (H :
SpecH PP z216 [.pointer s9] h (fun v h1 => ∃ (t88 : OA) (t88n t88c : Nat) (t88_1 : Int), v = (.tuple #[(.slice t88 t88n t88c), .int .i64 t88_1]) ∧
hwp PP (Builtin.append_ #[y13, y13] y13 #[(.slice y65 y51 y53), (.slice t88 t88n t88c)]) (fun v_1 h2 => ∃ (t93 : OA) (t93n t93c : Nat), v_1 = (.slice t93 t93n t93c) ∧
L2 y9 y6 y7 y35 y29 y30 y66 y49 y50 t93 t93n t93c t88_1 0 (K5 Q) h2) h1)) : (K3 Q) (.exit 0) (X0 y9 y6 y7 y35 y29 y30 y66 y49 y50 s9 y65 y51 y53) h := y19 (by kernel_rfl) H
theorem L2_of {y9 : OA} {y6 y7 : Nat} {y35 : OA} {y29 y30 : Nat} {y66 : OA} {y49 y50 : Nat} {y65 : OA} {y51 y53 : Nat} {f17 k18 : Int} {K : EP} {h : Heap} (H :
let t95 : Bool := decide (k18 < 2)
br t95 (
hwp PP (Instr.index T_2_sl_uint8 (.agg #[(.slice y66 y49 y50), (.slice y65 y51 y53)]) (.int .i64 k18)) (fun v h1 => ∃ (t102 : OA) (t102n t102c : Nat), v = (.slice t102 t102n t102c) ∧
SpecH PP z242 [(.slice t102 t102n t102c), (.int .i64 (y6 : Int))] h1 (fun v_1 h2 => ∃ (t107 : OA) (t107n t107c : Nat) (t107_1 t107_2 : Int), v_1 = (.tuple #[(.slice t107 t107n t107c), .int .i64 t107_1, .int .i64 t107_2]) ∧
SpecH PP z366 [(.slice t102 t102n t102c), (.slice y35 y29 y30), (.int .i64 (y6 : Int))] h2 (fun v_2 h3 => ∃ (t116 : OA) (t116n t116c : Nat) (t116_1 : Bool), v_2 = (.tuple #[(.slice t116 t116n t116c), .bool t116_1]) ∧
let t120 : Bool := (f17 != 0)
br t120 (
J3 y9 y6 y7 y35 y29 y30 y66 y49 y50 y65 y51 y53 f17 k18 t102 t102n t102c true K h3) (
let t123 : Bool := (t107_2 != 0)
br t123 (
J3 y9 y6 y7 y35 y29 y30 y66 y49 y50 y65 y51 y53 f17 k18 t102 t102n t102c true K h3) (
let t129 : Bool := (t107_1 != (t102n : Int))
br t129 (
J3 y9 y6 y7 y35 y29 y30 y66 y49 y50 y65 y51 y53 f17 k18 t102 t102n t102c true K h3) (
SpecH PP z276 [(.slice t107 t107n t107c), (.slice y9 y6 y7)] h3 (fun v_3 h4 => ∃ (t134 : Bool), v_3 = (.bool t134) ∧
let t135 : Bool := (!t134)
br t135 (
J3 y9 y6 y7 y35 y29 y30 y66 y49 y50 y65 y51 y53 f17 k18 t102 t102n t102c true K h4) (
let t139 : Bool := (!t116_1)
br t139 (
J3 y9 y6 y7 y35 y29 y30 y66 y49 y50 y65 y51 y53 f17 k18 t102 t102n t102c true K h4) (
SpecH PP z276 [(.slice t116 t116n t116c), (.slice y9 y6 y7)] h4 (fun v_4 h5 => ∃ (t144 : Bool), v_4 = (.bool t144) ∧
let t145 : Bool := (!t144)
J3 y9 y6 y7 y35 y29 y30 y66 y49 y50 y65 y51 y53 f17 k18 t102 t102n t102c t145 K h5)))))))))) h) (
K (.exit 2) (X2) h)) : L2 y9 y6 y7 y35 y29 y30 y66 y49 y50 y65 y51 y53 f17 k18 K h := by unfold L2; exact Lp.of_txt (an 32756) 394373 (by kernel_rfl) H
theorem J3_of {y9 : OA} {y6 y7 : Nat} {y35 : OA} {y29 y30 : Nat} {y66 : OA} {y49 y50 : Nat} {y65 : OA} {y51 y53 : Nat} {f17 k18 : Int} {b19 : OA} {b19n b19c : Nat} {t146 : Bool} {K : EP} {h : Heap} (H :
br t146 (
K .ret (Xret false) h) (
let t149 : Bool := decide ((y6 : Int) > 0)
br t149 (
let t154 : Int := IntKind.i64.wrap ((y6 : Int) - 1)
SpecH PP z242 [(.slice b19 b19n b19c), .int .i64 t154] h (fun v h1 => ∃ (t155 : OA) (t155n t155c : Nat) (t155_1 t155_2 : Int), v = (.tuple #[(.slice t155 t155n t155c), .int .i64 t155_1, .int .i64 t155_2]) ∧
let t160 : Bool := (t155_2 != 56)
br t160 (
K .ret (Xret false) h1) (
J4 y9 y6 y7 y35 y29 y30 y66 y49 y50 y65 y51 y53 f17 k18 K h1))) (
J4 y9 y6 y7 y35 y29 y30 y66 y49 y50 y65 y51 y53 f17 k18 K h))) : J3 y9 y6 y7 y35 y29 y30 y66 y49 y50 y65 y51 y53 f17 k18 b19 b19n b19c t146 K h := by unfold J3; exact Jn.of_txt (an 8385693) (by kernel_rfl) H
theorem L2_X2 {Q : VP}  {h : Heap} (H :
SpecH PP z362 [] h (fun v h1 => ∃ (t161 : Bool), v = (.bool t161) ∧
Q (.bool t161) h1)) : (K5 Q) (.exit 2) (X2 ) h := y19 (by kernel_rfl) H
theorem J4_of {y9 : OA} {y6 y7 : Nat} {y35 : OA} {y29 y30 : Nat} {y66 : OA} {y49 y50 : Nat} {y65 : OA} {y51 y53 : Nat} {f17 k18 : Int} {K : EP} {h : Heap} (H :
let t97 : Int := IntKind.i64.wrap (k18 + 1)
L2 y9 y6 y7 y35 y29 y30 y66 y49 y50 y65 y51 y53 f17 t97 K h) : J4 y9 y6 y7 y35 y29 y30 y66 y49 y50 y65 y51 y53 f17 k18 K h := by unfold J4; exact Jn.of_txt (an 131027) (by kernel_rfl) H
theorem door {y9 : OA} {y6 y7 : Nat} {cuts1 : OA} {y61 y68 : Nat} {y35 : OA} {y29 y30 : Nat} {Q : VP} {h : Heap} (H :
let t30 : Bool := decide ((y6 : Int) > 16384)
br t30 (
J1 y9 y6 y7 cuts1 y61 y68 y35 y29 y30 true Q h) (
let t34 : Bool := decide ((y61 : Int) > 200)
br t34 (
J1 y9 y6 y7 cuts1 y61 y68 y35 y29 y30 true Q h) (
let t39 : Bool := decide ((y29 : Int) > 200)
J1 y9 y6 y7 cuts1 y61 y68 y35 y29 y30 t39 Q h))) : SpecH PP z356 [(.slice y9 y6 y7), (.slice cuts1 y61 y68), (.slice y35 y29 y30)] h Q :=
  y12 (ann := ann) Tryd.func5 rfl rfl (by kernel_rfl) H
end z355
namespace z361
def ann : Ann := (.seq 0 (rg 1 0) (.seq 6 (rg 8 6) (.seq 62 (rg 9 62) (.seq 1 (rg 23 1) (.exit 1)))))
theorem door  {Q : VP} {h : Heap} (H :
let h1 : Heap := Array.push h (.cells #[.int .u8 97, .int .u8 98, .int .u8 99, .int .u8 97, .int .u8 98, .int .u8 99, .int .u8 97, .int .u8 98, .int .u8 99, .int .u8 97, .int .u8 98, .int .u8 99, .int .u8 97, .int .u8 98, .int .u8 99, .int .u8 97, .int .u8 98, .int .u8 99] y15 (0, 0))
hwp PP (Go.convert y13 y13 (.slice (some ⟨Array.size h, 0, none⟩) 18 18)) (fun v h2 => ∃ (t8 : OA) (t8n t8c : Nat), v = (.slice t8 t8n t8c) ∧
SpecH PP z200 [(.slice t8 t8n t8c)] h2 (fun v_1 h3 => ∃ (t9 : OA) (t9n t9c : Nat) (t9_1 : Int), v_1 = (.tuple #[(.slice t9 t9n t9c), .int .i64 t9_1]) ∧
SpecH PP z242 [(.slice t9 t9n t9c), .int .i64 18] h3 (fun v_2 h4 => ∃ (t14 : OA) (t14n t14c : Nat) (t14_1 t14_2 : Int), v_2 = (.tuple #[(.slice t14 t14n t14c), .int .i64 t14_1, .int .i64 t14_2]) ∧
let t19 : Bool := (t9_1 == 0)
br t19 (
let t22 : Bool := (t14_2 == 0)
br t22 (
let t28 : Bool := (t14_1 == (t9n : Int))
br t28 (
hwp PP (Go.convert y13 T_string (.slice t14 t14n t14c)) (fun v_3 h5 => ∃ (t32 : ByteArray), v_3 = (.string t32) ∧
let t33 : Bool := decide (t32 = (⟨#[97, 98, 99, 97, 98, 99, 97, 98, 99, 97, 98, 99, 97, 98, 99, 97, 98, 99]⟩ : ByteArray))
br t33 (
let t38 : Bool := decide ((t9n : Int) < 18)
Q (.bool t38) h5) (
Q (.bool false) h5)) h4) (
Q (.bool false) h4)) (
Q (.bool false) h4)) (
Q (.bool false) h4)))) h1) : SpecH PP z362 [] h Q :=
  y12 (ann := ann) Tryd.func6 rfl rfl (by kernel_rfl) H
end z361
namespace z301
def ann : Ann := (.seq 3 (rg 2 3) (.seq 3 (.seq 16387 (rg 6 16387) (.join (.cond (.seq 48 (rg 2 48) (.exit 48)) .leaf))) (.seq 67 (rg 1 67) (.seq 64 (.seq 229442 (rg 3 229442) (.block (.loop 229442 (.seq 491586 (rg 1 491586) (.seq 229442 (.cond .leaf (.exit 64)) (.seq 229442 (.block (.seq 229698 (rg 4 229698) (.seq 229698 (.block (.seq 2326850 (rg 6 2326850) (.cond (.seq 48 (rg 2 48) (.exit 48)) (.seq 134447426 (rg 9 134447426) (.cond (.seq 48 (rg 2 48) (.exit 48)) (.seq 68719706434 (rg 4 68719706434) (.cond (rg 6 229698) .leaf))))))) (.join (.seq 211106232762690 (rg 3 211106232762690) (.block (.loop 211106232762690 (.seq 492581209473346 (rg 1 492581209473346) (.seq 211106232762690 (.cond .leaf (.exit 229442)) (.seq 211106232762690 (.block (rg 12 211106232762690)) (rg 2 211106232762690))))))))))) (rg 2 229442))))))) (.seq 48 (rg 3 48) (.exit 48))))))
noncomputable abbrev cd := cdF Tryd.f7
abbrev an := anF ann
@[irreducible] def Xret (t4 : OA) (t4n t4c : Nat) (t5 : Int) : Fr := (mkFr 0 63 [(4, (.slice t4 t4n t4c)), (5, .int .i64 t5)])
@[irreducible] def X0 (out6 : OA) (out6n out6c : Nat) : Fr := (mkFr 0 63 [(6, (.slice out6 out6n out6c))])
@[irreducible] def X3 (y27 : Int) (out6 : OA) (out6n out6c : Nat) (t15 : OA) (t15n t15c : Nat) (t16 t17 : Int) : Fr := (mkFr 0 63 [(1, .int .i64 y27), (6, (.slice out6 out6n out6c)), (15, (.slice t15 t15n t15c)), (16, .int .i64 t16), (17, .int .i64 t17)])
@[irreducible] def K1 (Q : VP) : EP := seqK (fun fr h => ev PP true none (cd 7) (an 7) (fr.mask 3) (bodyK PP Tryd.f7 Q) h) (bodyK PP Tryd.f7 Q)
@[irreducible] def J1 (t0 : OA) (t0n t0c : Nat) (y27 : Int) (t14 : Bool) (Q : VP) (h : Heap) : Prop := Jn PP true (cd 13) (mkFr 0 63 [(0, (.slice t0 t0n t0c)), (1, .int .i64 y27), (14, .bool t14)]) (K1 Q) h
@[irreducible] def K3 (Q : VP) : EP := seqK (fun fr h => ev PP true none (cd 31) (an 31) (fr.mask 64) (bodyK PP Tryd.f7 Q) h) (bodyK PP Tryd.f7 Q)
@[irreducible] def K2 (Q : VP) : EP := blockK 0 (K3 Q)
@[irreducible] def L1 (y27 : Int) (out6 : OA) (out6n out6c : Nat) (t15 : OA) (t15n t15c : Nat) (t16 t17 : Int) (K : EP) (h : Heap) : Prop := Lp PP true (cd 244) (mkFr 0 63 [(1, .int .i64 y27), (6, (.slice out6 out6n out6c)), (15, (.slice t15 t15n t15c)), (16, .int .i64 t16), (17, .int .i64 t17)]) K h
@[irreducible] def B1 (K : EP) : EP := seqK (fun fr h => Lp PP true (cd 244) (fr.mask 229442) K h) K
@[irreducible] def K6 (K : EP) : EP := seqK (fun fr h => ev PP true none (cd 1959) (an 1959) (fr.mask 229442) (B1 K) h) (B1 K)
@[irreducible] def K4 (K : EP) : EP := blockK 1 (K6 K)
@[irreducible] def J2 (y27 : Int) (out6 : OA) (out6n out6c : Nat) (x8 : Addr) (t15 : OA) (t15n t15c : Nat) (t16 t17 : Int) (K : EP) (h : Heap) : Prop := Jn PP true (cd 15667) (mkFr 0 63 [(1, .int .i64 y27), (6, (.slice out6 out6n out6c)), (8, (.pointer (some x8))), (15, (.slice t15 t15n t15c)), (16, .int .i64 t16), (17, .int .i64 t17)]) (K4 K) h
@[irreducible] def K5 (K : EP) : EP := blockK 3 (K4 K)
@[irreducible] def L2 (y27 : Int) (out6 : OA) (out6n out6c : Nat) (x8 : Addr) (t15 : OA) (t15n t15c : Nat) (t16 t17 t46 t47 : Int) (K : EP) (h : Heap) : Prop := Lp PP true (cd 125340) (mkFr 0 63 [(1, .int .i64 y27), (6, (.slice out6 out6n out6c)), (8, (.pointer (some x8))), (15, (.slice t15 t15n t15c)), (16, .int .i64 t16), (17, .int .i64 t17), (46, .int .i64 t46), (47, .int .i64 t47)]) K h
theorem J1_of {t0 : OA} {t0n t0c : Nat} {y27 : Int} {t14 : Bool} {Q : VP} {h : Heap} (H :
br t14 (
Q (.tuple #[(.slice none 0 0), .int .i64 1]) h) (
L1 y27 none 0 0 t0 t0n t0c (t0n : Int) 0 (K2 Q) h)) : J1 t0 t0n t0c y27 t14 Q h := by unfold J1; exact Jn.of_txt (an 13) (by kernel_rfl) H
theorem L1_of {y27 : Int} {out6 : OA} {out6n out6c : Nat} {t15 : OA} {t15n t15c : Nat} {t16 t17 : Int} {K : EP} {h : Heap} (H :
let t18 : Bool := decide (t17 < t16)
br t18 (
hwp PP (Instr.indexAt y45 (.slice t15 t15n t15c) (.int .i64 t17)) (fun v h1 => ∃ (t19 : Addr), v = (.pointer (some t19)) ∧
∃ (t20f0 t20f1 t20f2 : Int), rdCells h1 t19 0 [.int .u8 t20f0, .int .i64 t20f1, .int .i64 t20f2] ∧
let x8 : Addr := ⟨Array.size h1, 0, none⟩
let h2 : Heap := Array.push h1 (.cells #[.int .u8 0, .int .i64 0, .int .i64 0] y38 (0, 0))
wrCells x8 0 [.int .u8 t20f0, .int .i64 t20f1, .int .i64 t20f2] (fun h3 =>
∃ (t22f0 t22f1 t22f2 : Int), rdCells h3 x8 0 [.int .u8 t22f0, .int .i64 t22f1, .int .i64 t22f2] ∧
SpecH PP z312 [(.agg #[.int .u8 t22f0, .int .i64 t22f1, .int .i64 t22f2]), (.int .i64 (out6n : Int))] h3 (fun v_1 h4 => ∃ (t25 : Bool), v_1 = (.bool t25) ∧
let t26 : Bool := (!t25)
br t26 (
K .ret (Xret none 0 0 60) h4) (
∃ (t31 : Int), cellH h4 (Addr.add x8 1) = some (.int .i64 t31) ∧
let t32 : Int := (if t31 > 1 then t31 else 1)
let t33 : Int := IntKind.i64.wrap ((out6n : Int) + t32)
let t35 : Bool := decide (t33 > y27)
br t35 (
K .ret (Xret none 0 0 2) h4) (
∃ (t38 : Int), cellH h4 (Addr.add x8 1) = some (.int .i64 t38) ∧
let t39 : Bool := (t38 == 0)
br t39 (
∃ (t42 : Int), cellH h4 x8 = some (.int .u8 t42) ∧
let h5 : Heap := Array.push h4 (.cells #[.int .u8 t42] y15 (0, 0))
hwp PP (Builtin.append_ #[y13, y13] y13 #[(.slice out6 out6n out6c), (.slice (some ⟨Array.size h4, 0, none⟩) 1 1)]) (fun v_2 h6 => ∃ (t44 : OA) (t44n t44c : Nat), v_2 = (.slice t44 t44n t44c) ∧
J2 y27 t44 t44n t44c x8 t15 t15n t15c t16 t17 K h6) h5) (
J2 y27 out6 out6n out6c x8 t15 t15n t15c t16 t17 K h4))))) h2) h) (
K (.exit 0) (X0 out6 out6n out6c) h)) : L1 y27 out6 out6n out6c t15 t15n t15c t16 t17 K h := by unfold L1; exact Lp.of_txt (an 244) 229442 (by kernel_rfl) H
theorem L1_Xret {Q : VP} {t4 : OA} {t4n t4c : Nat} {t5 : Int} {h : Heap} (H :
Q (.tuple #[(.slice t4 t4n t4c), .int .i64 t5]) h) : (K2 Q) .ret (Xret t4 t4n t4c t5) h := y19 (by kernel_rfl) H
theorem J2_of {y27 : Int} {out6 : OA} {out6n out6c : Nat} {x8 : Addr} {t15 : OA} {t15n t15c : Nat} {t16 t17 : Int} {K : EP} {h : Heap} (H :
∃ (t46 : Int), cellH h (Addr.add x8 1) = some (.int .i64 t46) ∧
L2 y27 out6 out6n out6c x8 t15 t15n t15c t16 t17 t46 0 (K5 K) h) : J2 y27 out6 out6n out6c x8 t15 t15n t15c t16 t17 K h := by unfold J2; exact Jn.of_txt (an 15667) (by kernel_rfl) H
theorem L1_X0 {Q : VP} {out6 : OA} {out6n out6c : Nat} {h : Heap} (H :
Q (.tuple #[(.slice out6 out6n out6c), .int .i64 0]) h) : (K2 Q) (.exit 0) (X0 out6 out6n out6c) h := y19 (by kernel_rfl) H
theorem L2_of {y27 : Int} {out6 : OA} {out6n out6c : Nat} {x8 : Addr} {t15 : OA} {t15n t15c : Nat} {t16 t17 t46 t47 : Int} {K : EP} {h : Heap} (H :
let t48 : Bool := decide (t47 < t46)
br t48 (
∃ (t54 : Int), cellH h (Addr.add x8 2) = some (.int .i64 t54) ∧
let t55 : Int := IntKind.i64.wrap ((out6n : Int) - t54)
hwp PP (Instr.indexAt y13 (.slice out6 out6n out6c) (.int .i64 t55)) (fun v h1 => ∃ (t56 : Addr), v = (.pointer (some t56)) ∧
∃ (t57 : Int), cellH h1 t56 = some (.int .u8 t57) ∧
let h2 : Heap := Array.push h1 (.cells #[.int .u8 t57] y15 (0, 0))
hwp PP (Builtin.append_ #[y13, y13] y13 #[(.slice out6 out6n out6c), (.slice (some ⟨Array.size h1, 0, none⟩) 1 1)]) (fun v_1 h3 => ∃ (t59 : OA) (t59n t59c : Nat), v_1 = (.slice t59 t59n t59c) ∧
let t60 : Int := IntKind.i64.wrap (t47 + 1)
L2 y27 t59 t59n t59c x8 t15 t15n t15c t16 t17 t46 t60 K h3) h2) h) (
K (.exit 3) (X3 y27 out6 out6n out6c t15 t15n t15c t16 t17) h)) : L2 y27 out6 out6n out6c x8 t15 t15n t15c t16 t17 t46 t47 K h := by unfold L2; exact Lp.of_txt (an 125340) 211106232762690 (by kernel_rfl) H
theorem L2_X3 {K : EP} {y27 : Int} {out6 : OA} {out6n out6c : Nat} {t15 : OA} {t15n t15c : Nat} {t16 t17 : Int} {h : Heap} (H :
let t61 : Int := IntKind.i64.wrap (t17 + 1)
L1 y27 out6 out6n out6c t15 t15n t15c t16 t61 K h) : (K5 K) (.exit 3) (X3 y27 out6 out6n out6c t15 t15n t15c t16 t17) h := y19 (by kernel_rfl) H
theorem door {t0 : OA} {t0n t0c : Nat} {y27 : Int} {Q : VP} {h : Heap} (H :
let t10 : Bool := decide (y27 < 0)
br t10 (
J1 t0 t0n t0c y27 true Q h) (
let t13 : Bool := decide (y27 > 16384)
J1 t0 t0n t0c y27 t13 Q h)) : SpecH PP z302 [(.slice t0 t0n t0c), .int .i64 y27] h Q :=
  y12 (ann := ann) Tryd.func7 rfl rfl (by kernel_rfl) H
end z301
namespace z209
def ann : Ann := (.seq 1 (rg 2 1) (.seq 1 (.seq 17 (rg 3 17) (.seq 1041 (rg 2 1041) (.cond (.seq 12 (rg 3 12) (.exit 12)) .leaf))) (.seq 33 (rg 11 33) (.seq 97 (rg 2 97) (.seq 97 (rg 2 97) (.seq 97 (rg 2 97) (.seq 64 (rg 6 64) (.seq 12 (rg 4 12) (.exit 12)))))))))
theorem door {t0 : OA} {t0n t0c : Nat} {Q : VP} {h : Heap} (H :
SpecH PP z300 [(.slice t0 t0n t0c)] h (fun v h1 => ∃ (t8 : Int), v = (.int .i64 t8) ∧
let t10 : Bool := (t8 != 0)
br t10 (
Q (.tuple #[(.slice none 0 0), .int .i64 t8]) h1) (
let h2 : Heap := Array.push h1 (.cells #[.int .i64 8] y18 (0, 0))
SpecH PP z342 [(.slice (some ⟨Array.size h1, 0, none⟩) 1 1), .int .i64 144] h2 (fun v_1 h3 => ∃ (t13 : OA) (t13n t13c : Nat), v_1 = (.slice t13 t13n t13c) ∧
let h4 : Heap := Array.push h3 (.cells #[.int .i64 9] y18 (0, 0))
SpecH PP z342 [(.slice (some ⟨Array.size h3, 0, none⟩) 1 1), .int .i64 112] h4 (fun v_2 h5 => ∃ (t15 : OA) (t15n t15c : Nat), v_2 = (.slice t15 t15n t15c) ∧
let h6 : Heap := Array.push h5 (.cells #[.int .i64 7] y18 (0, 0))
SpecH PP z342 [(.slice (some ⟨Array.size h5, 0, none⟩) 1 1), .int .i64 24] h6 (fun v_3 h7 => ∃ (t17 : OA) (t17n t17c : Nat), v_3 = (.slice t17 t17n t17c) ∧
let h8 : Heap := Array.push h7 (.cells #[.int .i64 8] y18 (0, 0))
SpecH PP z342 [(.slice (some ⟨Array.size h7, 0, none⟩) 1 1), .int .i64 8] h8 (fun v_4 h9 => ∃ (t19 : OA) (t19n t19c : Nat), v_4 = (.slice t19 t19n t19c) ∧
let h10 : Heap := Array.push h9 (.cells #[(.slice t13 t13n t13c), (.slice t15 t15n t15c), (.slice t17 t17n t17c), (.slice t19 t19n t19c)] y14 (0, 0))
SpecH PP z332 [(.slice (some ⟨Array.size h9, 0, none⟩) 4 4)] h10 (fun v_5 h11 => ∃ (t21 : OA) (t21n t21c : Nat), v_5 = (.slice t21 t21n t21c) ∧
SpecH PP z182 [] h11 (fun v_6 h12 => ∃ (t22 : OA), v_6 = (.pointer t22) ∧
SpecH PP z198 [.pointer t22, .int .u32 1, .int .i64 1] h12 (fun v_7 h13 => ∃ (t24 : Int), v_7 = (.int .i64 t24) ∧
SpecH PP z198 [.pointer t22, .int .u32 1, .int .i64 2] h13 (fun v_8 h14 => ∃ (t26 : Int), v_8 = (.int .i64 t26) ∧
let h15 : Heap := Array.push h14 (.cells #[.int .i64 5] y18 (0, 0))
SpecH PP z342 [(.slice (some ⟨Array.size h14, 0, none⟩) 1 1), .int .i64 32] h15 (fun v_9 h16 => ∃ (t31 : OA) (t31n t31c : Nat), v_9 = (.slice t31 t31n t31c) ∧
SpecH PP z222 [.pointer t22, (.slice t0 t0n t0c), (.slice t21 t21n t21c), (.slice t31 t31n t31c)] h16 (fun v_10 h17 => v_10 = (.tuple #[]) ∧
SpecH PP z196 [.pointer t22] h17 (fun v_11 h18 => ∃ (t34 : OA) (t34n t34c : Nat), v_11 = (.slice t34 t34n t34c) ∧
Q (.tuple #[(.slice t34 t34n t34c), .int .i64 0]) h18)))))))))))))) : SpecH PP z210 [(.slice t0 t0n t0c)] h Q :=
  y12 (ann := ann) Tryd.func8 rfl rfl (by kernel_rfl) H
end z209
namespace z207
def ann : Ann := (.seq 1 (rg 2 1) (.seq 1 (.seq 17 (rg 3 17) (.seq 16777233 (rg 2 16777233) (.cond (.seq 12 (rg 3 12) (.exit 12)) .leaf))) (.seq 97 (.tree (.alt 0 (.run [1, 2, 3] .done) (.alt 1 (.run [0, 2, 3] .done) .nil)) 97) (.join (.seq 97 (rg 3 97) (.seq 97 (.seq 7516192865 (rg 3 7516192865) (.block (.loop 7516192865 (.seq 16106127457 (rg 1 16106127457) (.seq 7516192865 (.cond .leaf (.exit 97)) (.seq 7516192865 (.block (.seq 7516193121 (rg 4 7516193121) (.seq 7516193121 (.seq 282394100065 (rg 3 282394100065) (.cond (.seq 7516192865 (rg 8 7516192865) (.exit 7516192865)) .leaf)) (.seq 7516193633 (rg 10 7516193633) (.seq 7516197473 (rg 10 7516197473) (.seq 7516196961 (rg 7 7516196961) (rg 7 7516192865))))))) (.join (rg 2 7516192865)))))))) (.seq 32833 (rg 7 32833) (.seq 163841 (rg 7 163841) (.seq 688129 (rg 2 688129) (.seq 688129 (rg 2 688129) (.seq 688129 (rg 2 688129) (.seq 688129 (.seq 1736705 (rg 5 1736705) (.seq 9903520314283042199194730497 (rg 2 9903520314283042199194730497) (.cond (.seq 12 (rg 3 12) (.exit 12)) .leaf))) (.seq 524288 (rg 5 524288) (.seq 12 (rg 4 12) (.exit 12)))))))))))))))
noncomputable abbrev cd := cdF Tryd.f9
abbrev an := anF ann
@[irreducible] def X0 (t0 : OA) (t0n t0c : Nat) (lits5 : OA) (y89 y90 : Nat) (y96 : OA) (y86 y87 : Nat) : Fr := (mkFr 0 102 [(0, (.slice t0 t0n t0c)), (5, (.slice lits5 y89 y90)), (6, (.slice y96 y86 y87))])
@[irreducible] def J1 (t0 : OA) (t0n t0c : Nat) (lits5 : OA) (y89 y90 : Nat) (y96 : OA) (y86 y87 : Nat) (Q : VP) (h : Heap) : Prop := Jn PP true (cd 15) (mkFr 0 102 [(0, (.slice t0 t0n t0c)), (5, (.slice lits5 y89 y90)), (6, (.slice y96 y86 y87))]) (bodyK PP Tryd.f9 Q) h
@[irreducible] def K2 (Q : VP) : EP := seqK (fun fr h => ev PP true none (cd 63) (an 63) (fr.mask 97) (bodyK PP Tryd.f9 Q) h) (bodyK PP Tryd.f9 Q)
@[irreducible] def K1 (Q : VP) : EP := blockK 0 (K2 Q)
@[irreducible] def L1 (t0 : OA) (t0n t0c : Nat) (lits5 : OA) (y89 y90 : Nat) (y96 : OA) (y86 y87 : Nat) (t30 : OA) (t30n t30c : Nat) (t31 t32 : Int) (K : EP) (h : Heap) : Prop := Lp PP true (cd 500) (mkFr 0 102 [(0, (.slice t0 t0n t0c)), (5, (.slice lits5 y89 y90)), (6, (.slice y96 y86 y87)), (30, (.slice t30 t30n t30c)), (31, .int .i64 t31), (32, .int .i64 t32)]) K h
@[irreducible] def B1 (K : EP) : EP := seqK (fun fr h => Lp PP true (cd 500) (fr.mask 7516192865) K h) K
@[irreducible] def J2 (t0 : OA) (t0n t0c : Nat) (lits5 : OA) (y89 y90 : Nat) (y96 : OA) (y86 y87 : Nat) (t30 : OA) (t30n t30c : Nat) (t31 t32 : Int) (K : EP) (h : Heap) : Prop := Jn PP true (cd 4007) (mkFr 0 102 [(0, (.slice t0 t0n t0c)), (5, (.slice lits5 y89 y90)), (6, (.slice y96 y86 y87)), (30, (.slice t30 t30n t30c)), (31, .int .i64 t31), (32, .int .i64 t32)]) (B1 K) h
theorem J1_of {t0 : OA} {t0n t0c : Nat} {lits5 : OA} {y89 y90 : Nat} {y96 : OA} {y86 y87 : Nat} {Q : VP} {h : Heap} (H :
hwp PP (Instr.indexAt y14 (.slice lits5 y89 y90) (.int .i64 256)) (fun v h1 => ∃ (t29 : Addr), v = (.pointer (some t29)) ∧
wr t29 (.int .i64 1) (fun h2 =>
L1 t0 t0n t0c lits5 y89 y90 y96 y86 y87 t0 t0n t0c (t0n : Int) 0 (K1 Q) h2) h1) h) : J1 t0 t0n t0c lits5 y89 y90 y96 y86 y87 Q h := by unfold J1; exact Jn.of_txt (an 15) (by kernel_rfl) H
theorem L1_of {t0 : OA} {t0n t0c : Nat} {lits5 : OA} {y89 y90 : Nat} {y96 : OA} {y86 y87 : Nat} {t30 : OA} {t30n t30c : Nat} {t31 t32 : Int} {K : EP} {h : Heap} (H :
let t33 : Bool := decide (t32 < t31)
br t33 (
hwp PP (Instr.indexAt y45 (.slice t30 t30n t30c) (.int .i64 t32)) (fun v h1 => ∃ (t34 : Addr), v = (.pointer (some t34)) ∧
∃ (t35f0 t35f1 t35f2 : Int), rdCells h1 t34 0 [.int .u8 t35f0, .int .i64 t35f1, .int .i64 t35f2] ∧
let x8 : Addr := ⟨Array.size h1, 0, none⟩
let h2 : Heap := Array.push h1 (.cells #[.int .u8 0, .int .i64 0, .int .i64 0] y38 (0, 0))
wrCells x8 0 [.int .u8 t35f0, .int .i64 t35f1, .int .i64 t35f2] (fun h3 =>
∃ (t37 : Int), cellH h3 (Addr.add x8 1) = some (.int .i64 t37) ∧
let t38 : Bool := (t37 == 0)
br t38 (
∃ (t41 : Int), cellH h3 x8 = some (.int .u8 t41) ∧
hwp PP (Instr.indexAt y14 (.slice lits5 y89 y90) (.int .u8 t41)) (fun v_1 h4 => ∃ (t42 : Addr), v_1 = (.pointer (some t42)) ∧
∃ (t43 : Int), cellH h4 t42 = some (.int .i64 t43) ∧
let t44 : Int := IntKind.i64.wrap (t43 + 1)
hwp PP (Instr.indexAt y14 (.slice lits5 y89 y90) (.int .u8 t41)) (fun v_2 h5 => ∃ (t45 : Addr), v_2 = (.pointer (some t45)) ∧
wr t45 (.int .i64 t44) (fun h6 =>
J2 t0 t0n t0c lits5 y89 y90 y96 y86 y87 t30 t30n t30c t31 t32 K h6) h5) h4) h3) (
∃ (t48 : Int), cellH h3 (Addr.add x8 1) = some (.int .i64 t48) ∧
SpecH PP z224 [.int .i64 t48] h3 (fun v_3 h7 => ∃ (t49 t49_1 t49_2 : Int), v_3 = (.tuple #[.int .i64 t49, .int .u32 t49_1, .int .i64 t49_2]) ∧
∃ (t55 : Int), cellH h7 (Addr.add x8 2) = some (.int .i64 t55) ∧
SpecH PP z220 [.int .i64 t55] h7 (fun v_4 h8 => ∃ (t56 t56_1 t56_2 : Int), v_4 = (.tuple #[.int .i64 t56, .int .u32 t56_1, .int .i64 t56_2]) ∧
hwp PP (Instr.indexAt y14 (.slice lits5 y89 y90) (.int .i64 t49)) (fun v_5 h9 => ∃ (t62 : Addr), v_5 = (.pointer (some t62)) ∧
∃ (t63 : Int), cellH h9 t62 = some (.int .i64 t63) ∧
let t64 : Int := IntKind.i64.wrap (t63 + 1)
hwp PP (Instr.indexAt y14 (.slice lits5 y89 y90) (.int .i64 t49)) (fun v_6 h10 => ∃ (t65 : Addr), v_6 = (.pointer (some t65)) ∧
wr t65 (.int .i64 t64) (fun h11 =>
hwp PP (Instr.indexAt y14 (.slice y96 y86 y87) (.int .i64 t56)) (fun v_7 h12 => ∃ (t68 : Addr), v_7 = (.pointer (some t68)) ∧
∃ (t69 : Int), cellH h12 t68 = some (.int .i64 t69) ∧
let t70 : Int := IntKind.i64.wrap (t69 + 1)
hwp PP (Instr.indexAt y14 (.slice y96 y86 y87) (.int .i64 t56)) (fun v_8 h13 => ∃ (t71 : Addr), v_8 = (.pointer (some t71)) ∧
wr t71 (.int .i64 t70) (fun h14 =>
J2 t0 t0n t0c lits5 y89 y90 y96 y86 y87 t30 t30n t30c t31 t32 K h14) h13) h12) h11) h10) h9) h8)))) h2) h) (
K (.exit 0) (X0 t0 t0n t0c lits5 y89 y90 y96 y86 y87) h)) : L1 t0 t0n t0c lits5 y89 y90 y96 y86 y87 t30 t30n t30c t31 t32 K h := by unfold L1; exact Lp.of_txt (an 500) 7516192865 (by kernel_rfl) H
theorem L1_X0 {Q : VP} {t0 : OA} {t0n t0c : Nat} {lits5 : OA} {y89 y90 : Nat} {y96 : OA} {y86 y87 : Nat} {h : Heap} (H :
SpecH PP z232 [(.slice lits5 y89 y90), .int .i64 15] h (fun v h1 => ∃ (t75 : OA) (t75n t75c : Nat) (t75_1 : Int), v = (.tuple #[(.slice t75 t75n t75c), .int .i64 t75_1]) ∧
SpecH PP z232 [(.slice y96 y86 y87), .int .i64 15] h1 (fun v_1 h2 => ∃ (t80 : OA) (t80n t80c : Nat) (t80_1 : Int), v_1 = (.tuple #[(.slice t80 t80n t80c), .int .i64 t80_1]) ∧
SpecH PP z182 [] h2 (fun v_2 h3 => ∃ (t83 : OA), v_2 = (.pointer t83) ∧
SpecH PP z198 [.pointer t83, .int .u32 1, .int .i64 1] h3 (fun v_3 h4 => ∃ (t85 : Int), v_3 = (.int .i64 t85) ∧
SpecH PP z198 [.pointer t83, .int .u32 2, .int .i64 2] h4 (fun v_4 h5 => ∃ (t87 : Int), v_4 = (.int .i64 t87) ∧
SpecH PP z284 [.pointer t83, (.slice t75 t75n t75c), (.slice t80 t80n t80c)] h5 (fun v_5 h6 => ∃ (t91 : Int), v_5 = (.int .i64 t91) ∧
let t93 : Bool := (t91 != 0)
br t93 (
Q (.tuple #[(.slice none 0 0), .int .i64 t91]) h6) (
SpecH PP z222 [.pointer t83, (.slice t0 t0n t0c), (.slice t75 t75n t75c), (.slice t80 t80n t80c)] h6 (fun v_6 h7 => v_6 = (.tuple #[]) ∧
SpecH PP z196 [.pointer t83] h7 (fun v_7 h8 => ∃ (t101 : OA) (t101n t101c : Nat), v_7 = (.slice t101 t101n t101c) ∧
Q (.tuple #[(.slice t101 t101n t101c), .int .i64 0]) h8)))))))))) : (K1 Q) (.exit 0) (X0 t0 t0n t0c lits5 y89 y90 y96 y86 y87) h := y19 (by kernel_rfl) H
theorem J2_of {t0 : OA} {t0n t0c : Nat} {lits5 : OA} {y89 y90 : Nat} {y96 : OA} {y86 y87 : Nat} {t30 : OA} {t30n t30c : Nat} {t31 t32 : Int} {K : EP} {h : Heap} (H :
let t72 : Int := IntKind.i64.wrap (t32 + 1)
L1 t0 t0n t0c lits5 y89 y90 y96 y86 y87 t30 t30n t30c t31 t72 K h) : J2 t0 t0n t0c lits5 y89 y90 y96 y86 y87 t30 t30n t30c t31 t32 K h := by unfold J2; exact Jn.of_txt (an 4007) (by kernel_rfl) H
theorem door {t0 : OA} {t0n t0c : Nat} {Q : VP} {h : Heap} (H :
SpecH PP z300 [(.slice t0 t0n t0c)] h (fun v h1 => ∃ (t22 : Int), v = (.int .i64 t22) ∧
let t24 : Bool := (t22 != 0)
br t24 (
Q (.tuple #[(.slice none 0 0), .int .i64 t22]) h1) (
(
hwp PP (Instr.makeSlice y14 (.int .i64 286) (.int .i64 286)) (fun v_3 h4 => ∃ (t26_1 : OA) (t26_1n t26_1c : Nat), v_3 = (.slice t26_1 t26_1n t26_1c) ∧
hwp PP (Instr.makeSlice y14 (.int .i64 30) (.int .i64 30)) (fun v_4 h5 => ∃ (t27_1 : OA) (t27_1n t27_1c : Nat), v_4 = (.slice t27_1 t27_1n t27_1c) ∧
J1 t0 t0n t0c t26_1 t26_1n t26_1c t27_1 t27_1n t27_1c Q h5) h4) h1) ∧
(
hwp PP (Instr.makeSlice y14 (.int .i64 30) (.int .i64 30)) (fun v_1 h2 => ∃ (t27 : OA) (t27n t27c : Nat), v_1 = (.slice t27 t27n t27c) ∧
hwp PP (Instr.makeSlice y14 (.int .i64 286) (.int .i64 286)) (fun v_2 h3 => ∃ (t26 : OA) (t26n t26c : Nat), v_2 = (.slice t26 t26n t26c) ∧
J1 t0 t0n t0c t26 t26n t26c t27 t27n t27c Q h3) h2) h1) ∧
True))) : SpecH PP z208 [(.slice t0 t0n t0c)] h Q :=
  y12 (ann := ann) Tryd.func9 rfl rfl (by kernel_rfl) H
end z207
namespace z213
def ann : Ann := (.seq 1 (rg 2 1) (.seq 1 (.seq 129 (rg 3 129) (.cond (.seq 12 (rg 2 12) (.exit 12)) .leaf)) (.seq 17 (rg 4 17) (.seq 12 (rg 17 12) (.exit 12)))))
theorem door {y9 : OA} {y6 y7 : Nat} {Q : VP} {h : Heap} (H :
let t7 : Bool := decide ((y6 : Int) > 16384)
br t7 (
Q (.tuple #[(.slice none 0 0), .int .i64 2]) h) (
let t10 : Int := IntKind.u16.wrap (y6 : Int)
let t12 : Int := IntKind.u8.wrap t10
let t14 : Int := sShr .u16 t10 8
let t15 : Int := IntKind.u8.wrap t14
let t17 : Int := bXor .u16 IntKind.u16.max t10
let t18 : Int := IntKind.u8.wrap t17
let t20 : Int := bXor .u16 IntKind.u16.max t10
let t21 : Int := sShr .u16 t20 8
let t22 : Int := IntKind.u8.wrap t21
let h1 : Heap := Array.push h (.cells #[.int .u8 1, .int .u8 t12, .int .u8 t15, .int .u8 t18, .int .u8 t22] y15 (0, 0))
hwp PP (Builtin.append_ #[y13, y13] y13 #[(.slice (some ⟨Array.size h, 0, none⟩) 5 5), (.slice y9 y6 y7)]) (fun v h2 => ∃ (t25 : OA) (t25n t25c : Nat), v = (.slice t25 t25n t25c) ∧
Q (.tuple #[(.slice t25 t25n t25c), .int .i64 0]) h2) h1)) : SpecH PP z214 [(.slice y9 y6 y7)] h Q :=
  y12 (ann := ann) Tryd.func10 rfl rfl (by kernel_rfl) H
end z213
namespace z241
def ann : Ann := (.seq 3 (rg 3 3) (.seq 3 (.seq 16387 (rg 6 16387) (.join (.cond (.seq 112 (rg 3 112) (.exit 112)) .leaf))) (.seq 384 (rg 8 384) (.seq 128 (.seq 4194688 (rg 2 4194688) (.cond (.seq 112 (rg 4 112) (.exit 112)) .leaf)) (.seq 112 (.tree (.run [0, 1, 2, 4, 5, 6, 7] (.alt 3 (.run [8, 9, 10, 11, 12, 13] .done) (.alt 8 (.run [3, 9, 10, 11, 12, 13] .done) .nil))) 112) (.exit 112))))))
noncomputable abbrev cd := cdF Tryd.f11
abbrev an := anF ann
@[irreducible] def K1 (Q : VP) : EP := seqK (fun fr h => ev PP true none (cd 7) (an 7) (fr.mask 3) (bodyK PP Tryd.f11 Q) h) (bodyK PP Tryd.f11 Q)
@[irreducible] def J1 (b0 : OA) (b0n b0c : Nat) (y41 : Int) (t14 : Bool) (Q : VP) (h : Heap) : Prop := Jn PP true (cd 13) (mkFr 0 35 [(0, (.slice b0 b0n b0c)), (1, .int .i64 y41), (14, .bool t14)]) (K1 Q) h
theorem J1_of {b0 : OA} {b0n b0c : Nat} {y41 : Int} {t14 : Bool} {Q : VP} {h : Heap} (H :
br t14 (
Q (.tuple #[(.slice none 0 0), .int .i64 0, .int .i64 1]) h) (
SpecH PP z258 [(.slice b0 b0n b0c), .int .i64 y41] h (fun v h1 => ∃ (t18 : OA) (t18_1 : Int), v = (.tuple #[.pointer t18, .int .i64 t18_1]) ∧
let t22 : Bool := (t18_1 != 0)
br t22 (
Q (.tuple #[(.slice none 0 0), .int .i64 0, .int .i64 t18_1]) h1) (
nilc t18 (fun t25 =>
nilc t18 (fun t29 =>
∃ (t31 : OA), cellH h1 t29 = some (.pointer t31) ∧
(
∃ (t27_1 : OA) (t27_1n t27_1c : Nat), cellH h1 (Addr.add t25 1) = some (.slice t27_1 t27_1n t27_1c) ∧
SpecH PP z188 [.pointer t31] h1 (fun v_2 h3 => ∃ (t32_1 : Int), v_2 = (.int .i64 t32_1) ∧
let t33_1 : Int := IntKind.i64.wrap (t32_1 + 7)
let t34_1 : Int := IntKind.i64.wrap (Int.tdiv t33_1 8)
Q (.tuple #[(.slice t27_1 t27_1n t27_1c), .int .i64 t34_1, .int .i64 0]) h3)) ∧
(
SpecH PP z188 [.pointer t31] h1 (fun v_1 h2 => ∃ (t32 : Int), v_1 = (.int .i64 t32) ∧
∃ (t27 : OA) (t27n t27c : Nat), cellH h2 (Addr.add t25 1) = some (.slice t27 t27n t27c) ∧
let t33 : Int := IntKind.i64.wrap (t32 + 7)
let t34 : Int := IntKind.i64.wrap (Int.tdiv t33 8)
Q (.tuple #[(.slice t27 t27n t27c), .int .i64 t34, .int .i64 0]) h2)) ∧
True)))))) : J1 b0 b0n b0c y41 t14 Q h := by unfold J1; exact Jn.of_txt (an 13) (by kernel_rfl) H
theorem door {b0 : OA} {b0n b0c : Nat} {y41 : Int} {Q : VP} {h : Heap} (H :
let t10 : Bool := decide (y41 < 0)
br t10 (
J1 b0 b0n b0c y41 true Q h) (
let t13 : Bool := decide (y41 > 16384)
J1 b0 b0n b0c y41 t13 Q h)) : SpecH PP z242 [(.slice b0 b0n b0c), .int .i64 y41] h Q :=
  y12 (ann := ann) Tryd.func11 rfl rfl (by kernel_rfl) H
end z241
namespace z275
def ann : Ann := (.seq 3 (rg 1 3) (.seq 3 (.seq 1027 (rg 5 1027) (.cond (.seq 16 (rg 1 16) (.exit 16)) .leaf)) (.seq 0 (.seq 35 (rg 1 35) (.block (.loop 35 (.seq 35 (.seq 16419 (rg 4 16419) (.cond .leaf (.exit 0))) (.seq 35 (.block (.seq 33554467 (rg 9 33554467) (.cond (.seq 16 (rg 1 16) (.exit 16)) .leaf))) (rg 3 35)))))) (.seq 16 (rg 1 16) (.exit 16)))))
noncomputable abbrev cd := cdF Tryd.f12
abbrev an := anF ann
@[irreducible] def Xret (t4 : Bool) : Fr := (mkFr 0 26 [(4, .bool t4)])
@[irreducible] def X0  : Fr := (mkFr 0 26 [])
@[irreducible] def L1 (a0 : OA) (a0n a0c : Nat) (b1 : OA) (b1n b1c : Nat) (i5 : Int) (K : EP) (h : Heap) : Prop := Lp PP true (cd 116) (mkFr 0 26 [(0, (.slice a0 a0n a0c)), (1, (.slice b1 b1n b1c)), (5, .int .i64 i5)]) K h
@[irreducible] def K2 (Q : VP) : EP := seqK (fun fr h => ev PP true none (cd 15) (an 15) (fr.mask 0) (bodyK PP Tryd.f12 Q) h) (bodyK PP Tryd.f12 Q)
@[irreducible] def K1 (Q : VP) : EP := blockK 0 (K2 Q)
theorem L1_of {a0 : OA} {a0n a0c : Nat} {b1 : OA} {b1n b1c : Nat} {i5 : Int} {K : EP} {h : Heap} (H :
let t14 : Bool := decide (i5 < (a0n : Int))
br t14 (
hwp PP (Instr.indexAt y13 (.slice a0 a0n a0c) (.int .i64 i5)) (fun v h1 => ∃ (t19 : Addr), v = (.pointer (some t19)) ∧
∃ (t20 : Int), cellH h1 t19 = some (.int .u8 t20) ∧
hwp PP (Instr.indexAt y13 (.slice b1 b1n b1c) (.int .i64 i5)) (fun v_1 h2 => ∃ (t23 : Addr), v_1 = (.pointer (some t23)) ∧
∃ (t24 : Int), cellH h2 t23 = some (.int .u8 t24) ∧
let t25 : Bool := (t20 != t24)
br t25 (
K .ret (Xret false) h2) (
let t16 : Int := IntKind.i64.wrap (i5 + 1)
L1 a0 a0n a0c b1 b1n b1c t16 K h2)) h1) h) (
K (.exit 0) (X0) h)) : L1 a0 a0n a0c b1 b1n b1c i5 K h := by unfold L1; exact Lp.of_txt (an 116) 35 (by kernel_rfl) H
theorem L1_Xret {Q : VP} {t4 : Bool} {h : Heap} (H :
Q (.bool t4) h) : (K1 Q) .ret (Xret t4) h := y19 (by kernel_rfl) H
theorem L1_X0 {Q : VP}  {h : Heap} (H :
Q (.bool true) h) : (K1 Q) (.exit 0) (X0 ) h := y19 (by kernel_rfl) H
theorem door {a0 : OA} {a0n a0c : Nat} {b1 : OA} {b1n b1c : Nat} {Q : VP} {h : Heap} (H :
let t10 : Bool := ((a0n : Int) != (b1n : Int))
br t10 (
Q (.bool false) h) (
L1 a0 a0n a0c b1 b1n b1c 0 (K1 Q) h)) : SpecH PP z276 [(.slice a0 a0n a0c), (.slice b1 b1n b1c)] h Q :=
  y12 (ann := ann) Tryd.func12 rfl rfl (by kernel_rfl) H
end z275
namespace z243
def ann : Ann := (.seq 1 (rg 2 1) (.seq 1 (.seq 513 (rg 6 513) (.join (.cond (.seq 12 (rg 2 12) (.exit 12)) .leaf))) (.seq 12 (rg 5 12) (.exit 12))))
noncomputable abbrev cd := cdF Tryd.f13
abbrev an := anF ann
@[irreducible] def K1 (Q : VP) : EP := seqK (fun fr h => ev PP true none (cd 7) (an 7) (fr.mask 1) (bodyK PP Tryd.f13 Q) h) (bodyK PP Tryd.f13 Q)
@[irreducible] def J1 (most0 : Int) (t9 : Bool) (Q : VP) (h : Heap) : Prop := Jn PP true (cd 13) (mkFr 0 13 [(0, .int .i64 most0), (9, .bool t9)]) (K1 Q) h
theorem J1_of {most0 : Int} {t9 : Bool} {Q : VP} {h : Heap} (H :
br t9 (
Q (.tuple #[.pointer none, .int .i64 1]) h) (
let t12 : Addr := ⟨Array.size h, 0, none⟩
let h1 : Heap := Array.push h (.cells #[.int .i64 most0, (.slice none 0 0), .int .i64 0, .int .i64 55, .int .i64 0] y99 (0, 0))
Q (.tuple #[(.pointer (some t12)), .int .i64 0]) h1)) : J1 most0 t9 Q h := by unfold J1; exact Jn.of_txt (an 13) (by kernel_rfl) H
theorem door {most0 : Int} {Q : VP} {h : Heap} (H :
let t5 : Bool := decide (most0 < 0)
br t5 (
J1 most0 true Q h) (
let t8 : Bool := decide (most0 > 16384)
J1 most0 t8 Q h)) : SpecH PP z244 [.int .i64 most0] h Q :=
  y12 (ann := ann) Tryd.func13 rfl rfl (by kernel_rfl) H
end z243
namespace z363
def ann : Ann := (.seq 7 (rg 1 7) (.seq 7 (.seq 1031 (rg 4 1031) (.cond (.seq 64 (rg 2 64) (.exit 64)) .leaf)) (.seq 64 (rg 8 64) (.exit 64))))
theorem door {cuts0 : OA} {cuts0n cuts0c : Nat} {i1 left2 : Int} {Q : VP} {h : Heap} (H :
let t10 : Bool := decide (i1 ≥ (cuts0n : Int))
br t10 (
Q (.int .i64 left2) h) (
hwp PP (Instr.indexAt y14 (.slice cuts0 cuts0n cuts0c) (.int .i64 i1)) (fun v h1 => ∃ (t15 : Addr), v = (.pointer (some t15)) ∧
∃ (t16 : Int), cellH h1 t15 = some (.int .i64 t16) ∧
let t17 : Int := (if t16 < left2 then t16 else left2)
let t18 : Int := (if t17 > 0 then t17 else 0)
Q (.int .i64 t18) h1) h)) : SpecH PP z364 [(.slice cuts0 cuts0n cuts0c), .int .i64 i1, .int .i64 left2] h Q :=
  y12 (ann := ann) Tryd.func14 rfl rfl (by kernel_rfl) H
end z363
namespace z249
def ann : Ann := (.seq 3 (rg 2 3) (.seq 3 (.seq 1027 (rg 2 1027) (.cond (.seq 48 (rg 2 48) (.exit 48)) .leaf)) (.seq 1 (rg 10 1) (.seq 1 (.seq 16777217 (rg 5 16777217) (.cond (.seq 48 (rg 2 48) (.exit 48)) .leaf)) (.seq 1 (.seq 536870913 (rg 5 536870913) (.cond (.seq 48 (rg 6 48) (.exit 48)) .leaf)) (.seq 193 (rg 14 193) (.seq 193 (rg 5 193) (.seq 193 (.seq 36028797018964161 (rg 6 36028797018964161) (.join (.cond (.seq 48 (rg 3 48) (.exit 48)) .leaf))) (.seq 65 (.seq 288230376151711809 (rg 2 288230376151711809) (.cond (rg 11 65) .leaf)) (.join (.seq 321 (rg 11 321) (.seq 256 (rg 9 256) (.seq 48 (rg 3 48) (.exit 48))))))))))))))
noncomputable abbrev cd := cdF Tryd.f15
abbrev an := anF ann
@[irreducible] def K1 (Q : VP) : EP := seqK (fun fr h => ev PP true none (cd 511) (an 511) (fr.mask 193) (bodyK PP Tryd.f15 Q) h) (bodyK PP Tryd.f15 Q)
@[irreducible] def J1 (s0 g6 : OA) (e7 : Int) (t55 : Bool) (Q : VP) (h : Heap) : Prop := Jn PP true (cd 1021) (mkFr 0 88 [(0, .pointer s0), (6, .pointer g6), (7, .int .i64 e7), (55, .bool t55)]) (K1 Q) h
@[irreducible] def J2 (s0 g6 : OA) (Q : VP) (h : Heap) : Prop := Jn PP true (cd 1023) (mkFr 0 88 [(0, .pointer s0), (6, .pointer g6)]) (bodyK PP Tryd.f15 Q) h
theorem J1_of {s0 g6 : OA} {e7 : Int} {t55 : Bool} {Q : VP} {h : Heap} (H :
br t55 (
Q (.tuple #[(.slice none 0 0), .int .i64 e7]) h) (
let t58 : Bool := (e7 == 0)
br t58 (
nilc g6 (fun t61 =>
∃ (t63 : OA), cellH h t61 = some (.pointer t63) ∧
SpecH PP z188 [.pointer t63] h (fun v h1 => ∃ (t64 : Int), v = (.int .i64 t64) ∧
let t65 : Int := IntKind.i64.wrap (t64 + 7)
let t66 : Int := IntKind.i64.wrap (Int.tdiv t65 8)
nilc s0 (fun t67 =>
wr (Addr.add t67 4) (.int .i64 t66) (fun h2 =>
J2 s0 g6 Q h2) h1)))) (
J2 s0 g6 Q h))) : J1 s0 g6 e7 t55 Q h := by unfold J1; exact Jn.of_txt (an 1021) (by kernel_rfl) H
theorem J2_of {s0 g6 : OA} {Q : VP} {h : Heap} (H :
nilc g6 (fun t70 =>
∃ (t72 : OA) (t72n t72c : Nat), cellH h (Addr.add t70 1) = some (.slice t72 t72n t72c) ∧
nilc s0 (fun t74 =>
∃ (t76 : Int), cellH h (Addr.add t74 2) = some (.int .i64 t76) ∧
hwp PP (Instr.sliceAt y13 (.slice t72 t72n t72c) (some (.int .i64 t76)) none none) (fun v h1 => ∃ (t77 : OA) (t77n t77c : Nat), v = (.slice t77 t77n t77c) ∧
SpecH PP z326 [(.slice t77 t77n t77c)] h1 (fun v_1 h2 => ∃ (t78 : OA) (t78n t78c : Nat), v_1 = (.slice t78 t78n t78c) ∧
nilc g6 (fun t81 =>
∃ (t83 : OA) (t83n t83c : Nat), cellH h2 (Addr.add t81 1) = some (.slice t83 t83n t83c) ∧
nilc s0 (fun t85 =>
wr (Addr.add t85 2) (.int .i64 (t83n : Int)) (fun h3 =>
Q (.tuple #[(.slice t78 t78n t78c), .int .i64 0]) h3) h2)))) h))) : J2 s0 g6 Q h := by unfold J2; exact Jn.of_txt (an 1023) (by kernel_rfl) H
theorem door {s0 b1 : OA} {b1n b1c : Nat} {Q : VP} {h : Heap} (H :
let t10 : Bool := (Option.isNone s0)
br t10 (
Q (.tuple #[(.slice none 0 0), .int .i64 3]) h) (
nilc s0 (fun t13 =>
∃ (t15 : OA) (t15n t15c : Nat), cellH h (Addr.add t13 1) = some (.slice t15 t15n t15c) ∧
hwp PP (Builtin.append_ #[y13, y13] y13 #[(.slice t15 t15n t15c), (.slice b1 b1n b1c)]) (fun v h1 => ∃ (t17 : OA) (t17n t17c : Nat), v = (.slice t17 t17n t17c) ∧
nilc s0 (fun t18 =>
wr (Addr.add t18 1) (.slice t17 t17n t17c) (fun h2 =>
nilc s0 (fun t21 =>
∃ (t23 : Int), cellH h2 (Addr.add t21 3) = some (.int .i64 t23) ∧
let t24 : Bool := (t23 == 0)
br t24 (
Q (.tuple #[(.slice none 0 0), .int .i64 0]) h2) (
nilc s0 (fun t26 =>
∃ (t28 : Int), cellH h2 (Addr.add t26 3) = some (.int .i64 t28) ∧
let t29 : Bool := (t28 != 55)
br t29 (
nilc s0 (fun t31 =>
∃ (t33 : Int), cellH h2 (Addr.add t31 3) = some (.int .i64 t33) ∧
Q (.tuple #[(.slice none 0 0), .int .i64 t33]) h2)) (
nilc s0 (fun t36 =>
∃ (t38 : OA) (t38n t38c : Nat), cellH h2 (Addr.add t36 1) = some (.slice t38 t38n t38c) ∧
nilc s0 (fun t40 =>
∃ (t42 : Int), cellH h2 t40 = some (.int .i64 t42) ∧
SpecH PP z258 [(.slice t38 t38n t38c), .int .i64 t42] h2 (fun v_1 h3 => ∃ (t43 : OA) (t43_1 : Int), v_1 = (.tuple #[.pointer t43, .int .i64 t43_1]) ∧
nilc s0 (fun t48 =>
wr (Addr.add t48 3) (.int .i64 t43_1) (fun h4 =>
let t51 : Bool := (t43_1 != 0)
br t51 (
let t54 : Bool := (t43_1 != 55)
J1 s0 t43 t43_1 t54 Q h4) (
J1 s0 t43 t43_1 false Q h4)) h3))))))))) h1)) h))) : SpecH PP z250 [.pointer s0, (.slice b1 b1n b1c)] h Q :=
  y12 (ann := ann) Tryd.func15 rfl rfl (by kernel_rfl) H
end z249
namespace z251
def ann : Ann := (.seq 1 (rg 1 1) (.seq 1 (.seq 33 (rg 3 33) (.cond (.seq 4 (rg 1 4) (.exit 4)) .leaf)) (.seq 4 (rg 11 4) (.exit 4))))
theorem door {s0 : OA} {Q : VP} {h : Heap} (H :
SpecH PP z248 [.pointer s0] h (fun v h1 => ∃ (t4 : Bool), v = (.bool t4) ∧
let t5 : Bool := (!t4)
br t5 (
Q (.slice none 0 0) h1) (
nilc s0 (fun t7 =>
∃ (t9 : OA) (t9n t9c : Nat), cellH h1 (Addr.add t7 1) = some (.slice t9 t9n t9c) ∧
nilc s0 (fun t11 =>
∃ (t13 : Int), cellH h1 (Addr.add t11 4) = some (.int .i64 t13) ∧
hwp PP (Instr.sliceAt y13 (.slice t9 t9n t9c) (some (.int .i64 t13)) none none) (fun v_1 h2 => ∃ (t14 : OA) (t14n t14c : Nat), v_1 = (.slice t14 t14n t14c) ∧
SpecH PP z326 [(.slice t14 t14n t14c)] h2 (fun v_2 h3 => ∃ (t15 : OA) (t15n t15c : Nat), v_2 = (.slice t15 t15n t15c) ∧
Q (.slice t15 t15n t15c) h3)) h1))))) : SpecH PP z252 [.pointer s0] h Q :=
  y12 (ann := ann) Tryd.func16 rfl rfl (by kernel_rfl) H
end z251
namespace z199
def ann : Ann := (.seq 2 (rg 3 2) (.seq 2 (.seq 4098 (rg 3 4098) (.cond (.seq 12 (rg 2 12) (.exit 12)) .leaf)) (.seq 18 (rg 4 18) (.seq 50 (rg 1 50) (.seq 32 (.seq 1835040 (rg 6 1835040) (.block (.loop 1835040 (.seq 3932192 (rg 1 3932192) (.seq 1835040 (.cond .leaf (.exit 32)) (.seq 1835040 (.block (.seq 1835168 (rg 3 1835168) (.seq 1835808 (rg 7 1835808) (.seq 2199025090848 (rg 13 2199025090848) (.join (.cond (rg 2 1835040) .leaf)))))) (.join (rg 2 1835040)))))))) (.seq 12 (rg 3 12) (.exit 12)))))))
noncomputable abbrev cd := cdF Tryd.f17
abbrev an := anF ann
@[irreducible] def X0 (y97 : OA) (y88 y92 : Nat) : Fr := (mkFr 0 45 [(5, (.slice y97 y88 y92))])
@[irreducible] def L1 (y97 : OA) (y88 y92 : Nat) (t18 : OA) (t18n t18c : Nat) (t19 t20 : Int) (K : EP) (h : Heap) : Prop := Lp PP true (cd 500) (mkFr 0 45 [(5, (.slice y97 y88 y92)), (18, (.slice t18 t18n t18c)), (19, .int .i64 t19), (20, .int .i64 t20)]) K h
@[irreducible] def B1 (K : EP) : EP := seqK (fun fr h => Lp PP true (cd 500) (fr.mask 1835040) K h) K
@[irreducible] def K4 (K : EP) : EP := seqK (fun fr h => Jn PP true (cd 4007) (fr.mask 1835040) (B1 K) h) (B1 K)
@[irreducible] def K2 (K : EP) : EP := blockK 1 (K4 K)
@[irreducible] def J1 (y97 : OA) (y88 y92 : Nat) (b8 : OA) (b8n b8c : Nat) (t18 : OA) (t18n t18c : Nat) (t19 t20 : Int) (t41 : Bool) (K : EP) (h : Heap) : Prop := Jn PP true (cd 64103) (mkFr 0 45 [(5, (.slice y97 y88 y92)), (8, (.slice b8 b8n b8c)), (18, (.slice t18 t18n t18c)), (19, .int .i64 t19), (20, .int .i64 t20), (41, .bool t41)]) (K2 K) h
@[irreducible] def K3 (Q : VP) : EP := seqK (fun fr h => ev PP true none (cd 63) (an 63) (fr.mask 32) (bodyK PP Tryd.f17 Q) h) (bodyK PP Tryd.f17 Q)
@[irreducible] def K1 (Q : VP) : EP := blockK 0 (K3 Q)
@[irreducible] def J2 (y97 : OA) (y88 y92 : Nat) (t18 : OA) (t18n t18c : Nat) (t19 t20 : Int) (K : EP) (h : Heap) : Prop := Jn PP true (cd 4007) (mkFr 0 45 [(5, (.slice y97 y88 y92)), (18, (.slice t18 t18n t18c)), (19, .int .i64 t19), (20, .int .i64 t20)]) (B1 K) h
theorem L1_of {y97 : OA} {y88 y92 : Nat} {t18 : OA} {t18n t18c : Nat} {t19 t20 : Int} {K : EP} {h : Heap} (H :
let t21 : Bool := decide (t20 < t19)
br t21 (
hwp PP (Instr.indexAt y154 (.slice t18 t18n t18c) (.int .i64 t20)) (fun v h1 => ∃ (t22 : Addr), v = (.pointer (some t22)) ∧
∃ (t23 : Value), cellH h1 t22 = some t23 ∧
callV PP t23 [] (fun v_1 h2 => ∃ (t26 : OA) (t26n t26c : Nat) (t26_1 : Int), v_1 = (.tuple #[(.slice t26 t26n t26c), .int .i64 t26_1]) ∧
let t30 : Bool := (t26_1 == 0)
br t30 (
let t33 : Bool := (Option.isNone y97)
br t33 (
J1 y97 y88 y92 t26 t26n t26c t18 t18n t18c t19 t20 true K h2) (
let t39 : Bool := decide ((t26n : Int) < (y88 : Int))
J1 y97 y88 y92 t26 t26n t26c t18 t18n t18c t19 t20 t39 K h2)) (
J1 y97 y88 y92 t26 t26n t26c t18 t18n t18c t19 t20 false K h2)) h1) h) (
K (.exit 0) (X0 y97 y88 y92) h)) : L1 y97 y88 y92 t18 t18n t18c t19 t20 K h := by unfold L1; exact Lp.of_txt (an 500) 1835040 (by kernel_rfl) H
theorem L1_X0 {Q : VP} {y97 : OA} {y88 y92 : Nat} {h : Heap} (H :
Q (.tuple #[(.slice y97 y88 y92), .int .i64 0]) h) : (K1 Q) (.exit 0) (X0 y97 y88 y92) h := y19 (by kernel_rfl) H
theorem J1_of {y97 : OA} {y88 y92 : Nat} {b8 : OA} {b8n b8c : Nat} {t18 : OA} {t18n t18c : Nat} {t19 t20 : Int} {t41 : Bool} {K : EP} {h : Heap} (H :
br t41 (
J2 b8 b8n b8c t18 t18n t18c t19 t20 K h) (
J2 y97 y88 y92 t18 t18n t18c t19 t20 K h)) : J1 y97 y88 y92 b8 b8n b8c t18 t18n t18c t19 t20 t41 K h := by unfold J1; exact Jn.of_txt (an 64103) (by kernel_rfl) H
theorem J2_of {y97 : OA} {y88 y92 : Nat} {t18 : OA} {t18n t18c : Nat} {t19 t20 : Int} {K : EP} {h : Heap} (H :
let t43 : Int := IntKind.i64.wrap (t20 + 1)
L1 y97 y88 y92 t18 t18n t18c t19 t43 K h) : J2 y97 y88 y92 t18 t18n t18c t19 t20 K h := by unfold J2; exact Jn.of_txt (an 4007) (by kernel_rfl) H
theorem door {y9 : OA} {y6 y7 : Nat} {Q : VP} {h : Heap} (H :
let data1 : Addr := ⟨Array.size h, 0, none⟩
let h1 : Heap := Array.push h (.cells #[(.slice y9 y6 y7)] y13 (0, 0))
∃ (t10 : OA) (t10n t10c : Nat), cellH h1 data1 = some (.slice t10 t10n t10c) ∧
let t12 : Bool := decide ((t10n : Int) > 16384)
br t12 (
Q (.tuple #[(.slice none 0 0), .int .i64 2]) h1) (
∃ (t13 : OA) (t13n t13c : Nat), cellH h1 data1 = some (.slice t13 t13n t13c) ∧
SpecH PP z304 [(.slice t13 t13n t13c)] h1 (fun v h2 => ∃ (t14 : OA) (t14n t14c : Nat), v = (.slice t14 t14n t14c) ∧
let t4 : Addr := ⟨Array.size h2, 0, none⟩
let h3 : Heap := Array.push h2 (.cells #[(.slice none 0 0)] y45 (0, 0))
wr t4 (.slice t14 t14n t14c) (fun h4 =>
let h5 : Heap := Array.push h4 (.cells #[(.func (.func z202) #[] #[(.pointer (some data1))]), (.func (.func z204) #[] #[(.pointer (some t4))]), (.func (.func z206) #[] #[(.pointer (some t4))])] y112 (0, 0))
L1 none 0 0 (some ⟨Array.size h4, 0, none⟩) 3 3 3 0 (K1 Q) h5) h3))) : SpecH PP z200 [(.slice y9 y6 y7)] h Q :=
  y12 (ann := ann) Tryd.func17 rfl rfl (by kernel_rfl) H
end z199
namespace z247
def ann : Ann := (.seq 1 (rg 1 1) (.seq 4 (rg 10 4) (.exit 4)))
theorem door {s0 : OA} {Q : VP} {h : Heap} (H :
let t4 : Bool := (!Option.isNone s0)
br t4 (
nilc s0 (fun t7 =>
∃ (t9 : Int), cellH h (Addr.add t7 3) = some (.int .i64 t9) ∧
let t10 : Bool := (t9 == 0)
Q (.bool t10) h)) (
Q (.bool false) h)) : SpecH PP z248 [.pointer s0] h Q :=
  y12 (ann := ann) Tryd.func18 rfl rfl (by kernel_rfl) H
end z247
namespace z245
def ann : Ann := (.seq 1 (rg 1 1) (.seq 1 (.seq 17 (rg 2 17) (.cond (.seq 4 (rg 1 4) (.exit 4)) .leaf)) (.seq 4 (rg 5 4) (.exit 4))))
theorem door {s0 : OA} {Q : VP} {h : Heap} (H :
let t4 : Bool := (Option.isNone s0)
br t4 (
Q (.int .i64 3) h) (
nilc s0 (fun t6 =>
∃ (t8 : Int), cellH h (Addr.add t6 3) = some (.int .i64 t8) ∧
Q (.int .i64 t8) h))) : SpecH PP z246 [.pointer s0] h Q :=
  y12 (ann := ann) Tryd.func19 rfl rfl (by kernel_rfl) H
end z245
namespace z211
def ann : Ann := (.seq 0 (rg 1 0) (.seq 1 (rg 3 1) (.exit 1)))
theorem door  {Q : VP} {h : Heap} (H :
let t2 : Addr := ⟨Array.size h, 0, none⟩
let h1 : Heap := Array.push h (.cells #[(.slice none 0 0), .int .i64 0, .bool false] y119 (0, 0))
Q (.pointer (some t2)) h1) : SpecH PP z212 [] h Q :=
  y12 (ann := ann) Tryd.func20 rfl rfl (by kernel_rfl) H
end z211
namespace z217
def ann : Ann := (.seq 3 (rg 2 3) (.seq 3 (.block (.seq 259 (rg 3 259) (.cond (.seq 48 (rg 2 48) (.exit 48)) (.seq 2051 (rg 5 2051) (.cond (.seq 48 (rg 2 48) (.exit 48)) (.seq 65539 (rg 15 65539) (.cond (.seq 48 (rg 2 48) (.exit 48)) .leaf))))))) (.seq 1 (rg 10 1) (.seq 1 (.seq 35184372088833 (rg 6 35184372088833) (.cond (.seq 48 (rg 2 48) (.exit 48)) .leaf)) (.seq 193 (rg 10 193) (.seq 65 (.seq 36028797018964161 (rg 2 36028797018964161) (.cond (.seq 48 (rg 3 48) (.exit 48)) .leaf)) (.seq 65 (rg 3 65) (.seq 65 (rg 13 65) (.seq 64 (rg 4 64) (.seq 48 (rg 3 48) (.exit 48)))))))))))
theorem door {s0 data1 : OA} {data1n data1c : Nat} {Q : VP} {h : Heap} (H :
let t10 : Bool := (Option.isNone s0)
br t10 (
Q (.tuple #[(.slice none 0 0), .int .i64 3]) h) (
nilc s0 (fun t13 =>
∃ (t15 : Bool), cellH h (Addr.add t13 2) = some (.bool t15) ∧
br t15 (
Q (.tuple #[(.slice none 0 0), .int .i64 1]) h) (
nilc s0 (fun t20 =>
∃ (t22 : Int), cellH h (Addr.add t20 1) = some (.int .i64 t22) ∧
let t23 : Int := IntKind.i64.wrap (16384 - t22)
nilc s0 (fun t25 =>
∃ (t27 : OA) (t27n t27c : Nat), cellH h t25 = some (.slice t27 t27n t27c) ∧
let t29 : Int := IntKind.i64.wrap (t23 - (t27n : Int))
let t30 : Bool := decide ((data1n : Int) > t29)
br t30 (
Q (.tuple #[(.slice none 0 0), .int .i64 2]) h) (
nilc s0 (fun t33 =>
∃ (t35 : OA) (t35n t35c : Nat), cellH h t33 = some (.slice t35 t35n t35c) ∧
hwp PP (Builtin.append_ #[y13, y13] y13 #[(.slice t35 t35n t35c), (.slice data1 data1n data1c)]) (fun v h1 => ∃ (t37 : OA) (t37n t37c : Nat), v = (.slice t37 t37n t37c) ∧
nilc s0 (fun t38 =>
wr t38 (.slice t37 t37n t37c) (fun h2 =>
nilc s0 (fun t41 =>
∃ (t43 : OA) (t43n t43c : Nat), cellH h2 t41 = some (.slice t43 t43n t43c) ∧
let t45 : Bool := decide ((t43n : Int) < 4096)
br t45 (
Q (.tuple #[(.slice none 0 0), .int .i64 0]) h2) (
nilc s0 (fun t48 =>
∃ (t50 : OA) (t50n t50c : Nat), cellH h2 t48 = some (.slice t50 t50n t50c) ∧
SpecH PP z214 [(.slice t50 t50n t50c)] h2 (fun v_1 h3 => ∃ (t51 : OA) (t51n t51c : Nat) (t51_1 : Int), v_1 = (.tuple #[(.slice t51 t51n t51c), .int .i64 t51_1]) ∧
let t55 : Bool := (t51_1 != 0)
br t55 (
Q (.tuple #[(.slice none 0 0), .int .i64 t51_1]) h3) (
hwp PP (Instr.indexAt y13 (.slice t51 t51n t51c) (.int .i64 0)) (fun v_2 h4 => ∃ (t58 : Addr), v_2 = (.pointer (some t58)) ∧
wr t58 (.int .u8 0) (fun h5 =>
nilc s0 (fun t60 =>
∃ (t62 : Int), cellH h5 (Addr.add t60 1) = some (.int .i64 t62) ∧
nilc s0 (fun t64 =>
∃ (t66 : OA) (t66n t66c : Nat), cellH h5 t64 = some (.slice t66 t66n t66c) ∧
let t68 : Int := IntKind.i64.wrap (t62 + (t66n : Int))
nilc s0 (fun t69 =>
wr (Addr.add t69 1) (.int .i64 t68) (fun h6 =>
nilc s0 (fun t72 =>
wr t72 (.slice none 0 0) (fun h7 =>
Q (.tuple #[(.slice t51 t51n t51c), .int .i64 0]) h7) h6)) h5)))) h4) h3)))))) h1)) h)))))))) : SpecH PP z218 [.pointer s0, (.slice data1 data1n data1c)] h Q :=
  y12 (ann := ann) Tryd.func21 rfl rfl (by kernel_rfl) H
end z217
namespace z215
def ann : Ann := (.seq 1 (rg 2 1) (.seq 1 (.block (.seq 17 (rg 3 17) (.cond (.seq 12 (rg 2 12) (.exit 12)) (.seq 129 (rg 5 129) (.cond (.seq 12 (rg 2 12) (.exit 12)) .leaf))))) (.seq 1 (rg 4 1) (.seq 12 (rg 9 12) (.exit 12)))))
theorem door {s0 : OA} {Q : VP} {h : Heap} (H :
let t6 : Bool := (Option.isNone s0)
br t6 (
Q (.tuple #[(.slice none 0 0), .int .i64 3]) h) (
nilc s0 (fun t9 =>
∃ (t11 : Bool), cellH h (Addr.add t9 2) = some (.bool t11) ∧
br t11 (
Q (.tuple #[(.slice none 0 0), .int .i64 1]) h) (
nilc s0 (fun t13 =>
wr (Addr.add t13 2) (.bool true) (fun h1 =>
nilc s0 (fun t16 =>
∃ (t18 : OA) (t18n t18c : Nat), cellH h1 t16 = some (.slice t18 t18n t18c) ∧
SpecH PP z200 [(.slice t18 t18n t18c)] h1 (fun v h2 => ∃ (t19 : OA) (t19n t19c : Nat) (t19_1 : Int), v = (.tuple #[(.slice t19 t19n t19c), .int .i64 t19_1]) ∧
Q (.tuple #[(.slice t19 t19n t19c), .int .i64 t19_1]) h2))) h))))) : SpecH PP z216 [.pointer s0] h Q :=
  y12 (ann := ann) Tryd.func22 rfl rfl (by kernel_rfl) H
end z215
namespace z365
def ann : Ann := (.seq 7 (rg 2 7) (.seq 771 (rg 7 771) (.seq 259 (.seq 67109123 (rg 6 67109123) (.join (.cond (.seq 192 (rg 2 192) (.exit 192)) .leaf))) (.seq 1283 (rg 1 1283) (.seq 3331 (rg 1 3331) (.seq 1280 (.seq 7427 (rg 1 7427) (.block (.loop 7427 (.seq 7427 (.seq 1073749251 (rg 4 1073749251) (.cond .leaf (.exit 1280))) (.seq 7427 (.block (.seq 15619 (rg 8 15619) (.seq 64771 (rg 13 64771) (.seq 32003 (.seq 4503599627402499 (rg 2 4503599627402499) (.cond (.seq 192 (rg 2 192) (.exit 192)) .leaf)) (.seq 15619 (rg 4 15619) (rg 4 7427)))))) (rg 3 7427)))))) (.seq 192 (rg 16 192) (.exit 192))))))))
noncomputable abbrev cd := cdF Tryd.f23
abbrev an := anF ann
@[irreducible] def Xret (t6 : OA) (t6n t6c : Nat) (t7 : Bool) : Fr := (mkFr 0 73 [(6, (.slice t6 t6n t6c)), (7, .bool t7)])
@[irreducible] def X0 (s8 out10 : OA) (out10n out10c : Nat) : Fr := (mkFr 0 73 [(8, .pointer s8), (10, (.slice out10 out10n out10c))])
@[irreducible] def K1 (Q : VP) : EP := seqK (fun fr h => ev PP true none (cd 15) (an 15) (fr.mask 259) (bodyK PP Tryd.f23 Q) h) (bodyK PP Tryd.f23 Q)
@[irreducible] def J1 (b0 : OA) (b0n b0c : Nat) (cuts1 : OA) (y61 y68 : Nat) (s8 : OA) (t26 : Bool) (Q : VP) (h : Heap) : Prop := Jn PP true (cd 29) (mkFr 0 73 [(0, (.slice b0 b0n b0c)), (1, (.slice cuts1 y61 y68)), (8, .pointer s8), (26, .bool t26)]) (K1 Q) h
@[irreducible] def K3 (Q : VP) : EP := seqK (fun fr h => ev PP true none (cd 127) (an 127) (fr.mask 1280) (bodyK PP Tryd.f23 Q) h) (bodyK PP Tryd.f23 Q)
@[irreducible] def K2 (Q : VP) : EP := blockK 0 (K3 Q)
@[irreducible] def L1 (b0 : OA) (b0n b0c : Nat) (cuts1 : OA) (y61 y68 : Nat) (s8 out10 : OA) (out10n out10c : Nat) (at11 i12 : Int) (K : EP) (h : Heap) : Prop := Lp PP true (cd 1012) (mkFr 0 73 [(0, (.slice b0 b0n b0c)), (1, (.slice cuts1 y61 y68)), (8, .pointer s8), (10, (.slice out10 out10n out10c)), (11, .int .i64 at11), (12, .int .i64 i12)]) K h
theorem J1_of {b0 : OA} {b0n b0c : Nat} {cuts1 : OA} {y61 y68 : Nat} {s8 : OA} {t26 : Bool} {Q : VP} {h : Heap} (H :
br t26 (
Q (.tuple #[(.slice none 0 0), .bool false]) h) (
L1 b0 b0n b0c cuts1 y61 y68 s8 none 0 0 0 0 (K2 Q) h)) : J1 b0 b0n b0c cuts1 y61 y68 s8 t26 Q h := by unfold J1; exact Jn.of_txt (an 29) (by kernel_rfl) H
theorem L1_of {b0 : OA} {b0n b0c : Nat} {cuts1 : OA} {y61 y68 : Nat} {s8 out10 : OA} {out10n out10c : Nat} {at11 i12 : Int} {K : EP} {h : Heap} (H :
let t30 : Bool := decide (i12 ≤ (y61 : Int))
br t30 (
let t38 : Int := IntKind.i64.wrap ((b0n : Int) - at11)
SpecH PP z364 [(.slice cuts1 y61 y68), .int .i64 i12, .int .i64 t38] h (fun v h1 => ∃ (t39 : Int), v = (.int .i64 t39) ∧
let t46 : Int := IntKind.i64.wrap (at11 + t39)
hwp PP (Instr.sliceAt y13 (.slice b0 b0n b0c) (some (.int .i64 at11)) (some (.int .i64 t46)) none) (fun v_1 h2 => ∃ (t47 : OA) (t47n t47c : Nat), v_1 = (.slice t47 t47n t47c) ∧
SpecH PP z250 [.pointer s8, (.slice t47 t47n t47c)] h2 (fun v_2 h3 => ∃ (t48 : OA) (t48n t48c : Nat) (t48_1 : Int), v_2 = (.tuple #[(.slice t48 t48n t48c), .int .i64 t48_1]) ∧
let t52 : Bool := (t48_1 != 0)
br t52 (
K .ret (Xret none 0 0 false) h3) (
hwp PP (Builtin.append_ #[y13, y13] y13 #[(.slice out10 out10n out10c), (.slice t48 t48n t48c)]) (fun v_3 h4 => ∃ (t55 : OA) (t55n t55c : Nat), v_3 = (.slice t55 t55n t55c) ∧
let t58 : Int := IntKind.i64.wrap (at11 + t39)
let t32 : Int := IntKind.i64.wrap (i12 + 1)
L1 b0 b0n b0c cuts1 y61 y68 s8 t55 t55n t55c t58 t32 K h4) h3))) h1)) (
K (.exit 0) (X0 s8 out10 out10n out10c) h)) : L1 b0 b0n b0c cuts1 y61 y68 s8 out10 out10n out10c at11 i12 K h := by unfold L1; exact Lp.of_txt (an 1012) 7427 (by kernel_rfl) H
theorem L1_X0 {Q : VP} {s8 out10 : OA} {out10n out10c : Nat} {h : Heap} (H :
SpecH PP z248 [.pointer s8] h (fun v h1 => ∃ (t61 : Bool), v = (.bool t61) ∧
br t61 (
SpecH PP z252 [.pointer s8] h1 (fun v_1 h2 => ∃ (t64 : OA) (t64n t64c : Nat), v_1 = (.slice t64 t64n t64c) ∧
let t66 : Bool := ((t64n : Int) == 0)
br t66 (
SpecH PP z246 [.pointer s8] h2 (fun v_2 h3 => ∃ (t70 : Int), v_2 = (.int .i64 t70) ∧
let t71 : Bool := (t70 == 0)
Q (.tuple #[(.slice out10 out10n out10c), .bool t71]) h3)) (
Q (.tuple #[(.slice out10 out10n out10c), .bool false]) h2))) (
Q (.tuple #[(.slice out10 out10n out10c), .bool false]) h1))) : (K2 Q) (.exit 0) (X0 s8 out10 out10n out10c) h := y19 (by kernel_rfl) H
theorem door {b0 : OA} {b0n b0c : Nat} {cuts1 : OA} {y61 y68 : Nat} {limit2 : Int} {Q : VP} {h : Heap} (H :
SpecH PP z244 [.int .i64 limit2] h (fun v h1 => ∃ (t18 : OA) (t18_1 : Int), v = (.tuple #[.pointer t18, .int .i64 t18_1]) ∧
let t22 : Bool := (Option.isNone t18)
br t22 (
J1 b0 b0n b0c cuts1 y61 y68 t18 true Q h1) (
let t25 : Bool := (t18_1 != 0)
J1 b0 b0n b0c cuts1 y61 y68 t18 t25 Q h1))) : SpecH PP z366 [(.slice b0 b0n b0c), (.slice cuts1 y61 y68), .int .i64 limit2] h Q :=
  y12 (ann := ann) Tryd.func23 rfl rfl (by kernel_rfl) H
end z365
namespace z311
def ann : Ann := (.seq 6 (rg 2 6) (.seq 6 (.seq 134 (rg 3 134) (.cond (.seq 16 (rg 4 16) (.exit 16)) .leaf)) (.seq 16 (rg 26 16) (.exit 16))))
theorem door {t0f0 t0f1 t0f2 said1 : Int} {Q : VP} {h : Heap} (H :
let t2 : Addr := ⟨Array.size h, 0, none⟩
let h1 : Heap := Array.push h (.cells #[.int .u8 t0f0, .int .i64 t0f1, .int .i64 t0f2] y38 (0, 0))
∃ (t6 : Int), cellH h1 (Addr.add t2 1) = some (.int .i64 t6) ∧
let t7 : Bool := (t6 == 0)
br t7 (
∃ (t9 : Int), cellH h1 (Addr.add t2 2) = some (.int .i64 t9) ∧
let t10 : Bool := (t9 == 0)
Q (.bool t10) h1) (
∃ (t12 : Int), cellH h1 t2 = some (.int .u8 t12) ∧
let t13 : Bool := (t12 == 0)
br t13 (
∃ (t16 : Int), cellH h1 (Addr.add t2 1) = some (.int .i64 t16) ∧
let t17 : Bool := decide (t16 ≥ 3)
br t17 (
∃ (t21 : Int), cellH h1 (Addr.add t2 1) = some (.int .i64 t21) ∧
let t22 : Bool := decide (t21 ≤ 258)
br t22 (
∃ (t26 : Int), cellH h1 (Addr.add t2 2) = some (.int .i64 t26) ∧
let t27 : Bool := decide (t26 ≥ 1)
br t27 (
∃ (t31 : Int), cellH h1 (Addr.add t2 2) = some (.int .i64 t31) ∧
let t33 : Int := (if said1 < 32768 then said1 else 32768)
let t34 : Bool := decide (t31 ≤ t33)
Q (.bool t34) h1) (
Q (.bool false) h1)) (
Q (.bool false) h1)) (
Q (.bool false) h1)) (
Q (.bool false) h1))) : SpecH PP z312 [(.agg #[.int .u8 t0f0, .int .i64 t0f1, .int .i64 t0f2]), .int .i64 said1] h Q :=
  y12 (ann := ann) Tryd.func24 rfl rfl (by kernel_rfl) H
end z311
namespace z299
def ann : Ann := (.seq 1 (rg 1 1) (.seq 9 (rg 1 9) (.seq 0 (.seq 456 (rg 3 456) (.block (.loop 456 (.seq 968 (rg 1 968) (.seq 456 (.cond .leaf (.exit 0)) (.seq 456 (.block (.seq 488 (rg 4 488) (.seq 488 (.seq 33256 (rg 4 33256) (.cond (.seq 4 (rg 1 4) (.exit 4)) .leaf)) (.seq 456 (rg 6 456) (.seq 4194760 (rg 2 4194760) (.cond (.seq 4 (rg 1 4) (.exit 4)) .leaf)))))) (rg 2 456))))))) (.seq 4 (rg 1 4) (.exit 4)))))
noncomputable abbrev cd := cdF Tryd.f25
abbrev an := anF ann
@[irreducible] def Xret (t2 : Int) : Fr := (mkFr 0 24 [(2, .int .i64 t2)])
@[irreducible] def X0  : Fr := (mkFr 0 24 [])
@[irreducible] def L1 (said3 : Int) (t6 : OA) (t6n t6c : Nat) (t7 t8 : Int) (K : EP) (h : Heap) : Prop := Lp PP true (cd 116) (mkFr 0 24 [(3, .int .i64 said3), (6, (.slice t6 t6n t6c)), (7, .int .i64 t7), (8, .int .i64 t8)]) K h
@[irreducible] def K2 (Q : VP) : EP := seqK (fun fr h => ev PP true none (cd 15) (an 15) (fr.mask 0) (bodyK PP Tryd.f25 Q) h) (bodyK PP Tryd.f25 Q)
@[irreducible] def K1 (Q : VP) : EP := blockK 0 (K2 Q)
theorem L1_of {said3 : Int} {t6 : OA} {t6n t6c : Nat} {t7 t8 : Int} {K : EP} {h : Heap} (H :
let t9 : Bool := decide (t8 < t7)
br t9 (
hwp PP (Instr.indexAt y45 (.slice t6 t6n t6c) (.int .i64 t8)) (fun v h1 => ∃ (t10 : Addr), v = (.pointer (some t10)) ∧
∃ (t11f0 t11f1 t11f2 : Int), rdCells h1 t10 0 [.int .u8 t11f0, .int .i64 t11f1, .int .i64 t11f2] ∧
let x5 : Addr := ⟨Array.size h1, 0, none⟩
let h2 : Heap := Array.push h1 (.cells #[.int .u8 0, .int .i64 0, .int .i64 0] y38 (0, 0))
wrCells x5 0 [.int .u8 t11f0, .int .i64 t11f1, .int .i64 t11f2] (fun h3 =>
∃ (t12f0 t12f1 t12f2 : Int), rdCells h3 x5 0 [.int .u8 t12f0, .int .i64 t12f1, .int .i64 t12f2] ∧
SpecH PP z312 [(.agg #[.int .u8 t12f0, .int .i64 t12f1, .int .i64 t12f2]), .int .i64 said3] h3 (fun v_1 h4 => ∃ (t14 : Bool), v_1 = (.bool t14) ∧
let t15 : Bool := (!t14)
br t15 (
K .ret (Xret 60) h4) (
∃ (t18 : Int), cellH h4 (Addr.add x5 1) = some (.int .i64 t18) ∧
let t19 : Int := (if t18 > 1 then t18 else 1)
let t20 : Int := IntKind.i64.wrap (said3 + t19)
let t22 : Bool := decide (t20 > 16384)
br t22 (
K .ret (Xret 2) h4) (
let t23 : Int := IntKind.i64.wrap (t8 + 1)
L1 t20 t6 t6n t6c t7 t23 K h4)))) h2) h) (
K (.exit 0) (X0) h)) : L1 said3 t6 t6n t6c t7 t8 K h := by unfold L1; exact Lp.of_txt (an 116) 456 (by kernel_rfl) H
theorem L1_Xret {Q : VP} {t2 : Int} {h : Heap} (H :
Q (.int .i64 t2) h) : (K1 Q) .ret (Xret t2) h := y19 (by kernel_rfl) H
theorem L1_X0 {Q : VP}  {h : Heap} (H :
Q (.int .i64 0) h) : (K1 Q) (.exit 0) (X0 ) h := y19 (by kernel_rfl) H
theorem door {t0 : OA} {t0n t0c : Nat} {Q : VP} {h : Heap} (H :
L1 0 t0 t0n t0c (t0n : Int) 0 (K1 Q) h) : SpecH PP z300 [(.slice t0 t0n t0c)] h Q :=
  y12 (ann := ann) Tryd.func25 rfl rfl (by kernel_rfl) H
end z299
namespace z331
def ann : Ann := (.seq 1 (rg 1 1) (.seq 9 (rg 1 9) (.seq 9 (.seq 3593 (rg 3 3593) (.block (.loop 3593 (.seq 7689 (rg 1 7689) (.seq 3593 (.cond .leaf (.exit 9)) (.seq 3593 (.block (.seq 3625 (rg 3 3625) (.seq 3593 (rg 5 3593) (.seq 1052169 (rg 2 1052169) (.cond (rg 2 3593) .leaf))))) (rg 2 3593))))))) (.seq 65 (rg 3 65) (.seq 64 (.seq 234881088 (rg 3 234881088) (.block (.loop 234881088 (.seq 503316544 (rg 1 503316544) (.seq 234881088 (.cond .leaf (.exit 64)) (.seq 234881088 (.block (.seq 234881344 (rg 3 234881344) (rg 4 234881088))) (rg 2 234881088))))))) (.seq 4 (rg 2 4) (.exit 4)))))))
noncomputable abbrev cd := cdF Tryd.f26
abbrev an := anF ann
@[irreducible] def X0 (y125 : OA) (y106 y114 : Nat) (size3 : Int) : Fr := (mkFr 0 36 [(0, (.slice y125 y106 y114)), (3, .int .i64 size3)])
@[irreducible] def X2 (y130 : OA) (y123 y122 : Nat) : Fr := (mkFr 0 36 [(6, (.slice y130 y123 y122))])
@[irreducible] def L1 (y125 : OA) (y106 y114 : Nat) (size3 : Int) (t9 : OA) (t9n t9c : Nat) (t10 t11 : Int) (K : EP) (h : Heap) : Prop := Lp PP true (cd 116) (mkFr 0 36 [(0, (.slice y125 y106 y114)), (3, .int .i64 size3), (9, (.slice t9 t9n t9c)), (10, .int .i64 t10), (11, .int .i64 t11)]) K h
@[irreducible] def K3 (Q : VP) : EP := seqK (fun fr h => ev PP true none (cd 15) (an 15) (fr.mask 9) (bodyK PP Tryd.f26 Q) h) (bodyK PP Tryd.f26 Q)
@[irreducible] def K1 (Q : VP) : EP := blockK 0 (K3 Q)
@[irreducible] def K4 (Q : VP) : EP := seqK (fun fr h => ev PP true none (cd 63) (an 63) (fr.mask 64) (bodyK PP Tryd.f26 Q) h) (bodyK PP Tryd.f26 Q)
@[irreducible] def K2 (Q : VP) : EP := blockK 2 (K4 Q)
@[irreducible] def L2 (y130 : OA) (y123 y122 : Nat) (t25 : OA) (t25n t25c : Nat) (t26 t27 : Int) (K : EP) (h : Heap) : Prop := Lp PP true (cd 500) (mkFr 0 36 [(6, (.slice y130 y123 y122)), (25, (.slice t25 t25n t25c)), (26, .int .i64 t26), (27, .int .i64 t27)]) K h
theorem L1_of {y125 : OA} {y106 y114 : Nat} {size3 : Int} {t9 : OA} {t9n t9c : Nat} {t10 t11 : Int} {K : EP} {h : Heap} (H :
let t12 : Bool := decide (t11 < t10)
br t12 (
hwp PP (Instr.indexAt T_sl_sl_int (.slice t9 t9n t9c) (.int .i64 t11)) (fun v h1 => ∃ (t13 : Addr), v = (.pointer (some t13)) ∧
∃ (t14 : OA) (t14n t14c : Nat), cellH h1 t13 = some (.slice t14 t14n t14c) ∧
let t18 : Int := IntKind.i64.wrap (size3 + (t14n : Int))
let t20 : Bool := decide (t18 < 0)
br t20 (
False) (
let t22 : Int := IntKind.i64.wrap (t11 + 1)
L1 y125 y106 y114 t18 t9 t9n t9c t10 t22 K h1)) h) (
K (.exit 0) (X0 y125 y106 y114 size3) h)) : L1 y125 y106 y114 size3 t9 t9n t9c t10 t11 K h := by unfold L1; exact Lp.of_txt (an 116) 3593 (by kernel_rfl) H
theorem L1_X0 {Q : VP} {y125 : OA} {y106 y114 : Nat} {size3 : Int} {h : Heap} (H :
SpecH PP z336 [(.slice none 0 0), .int .i64 size3] h (fun v h1 => ∃ (t24 : OA) (t24n t24c : Nat), v = (.slice t24 t24n t24c) ∧
L2 t24 t24n t24c y125 y106 y114 (y106 : Int) 0 (K2 Q) h1)) : (K1 Q) (.exit 0) (X0 y125 y106 y114 size3) h := y19 (by kernel_rfl) H
theorem L2_of {y130 : OA} {y123 y122 : Nat} {t25 : OA} {t25n t25c : Nat} {t26 t27 : Int} {K : EP} {h : Heap} (H :
let t28 : Bool := decide (t27 < t26)
br t28 (
hwp PP (Instr.indexAt T_sl_sl_int (.slice t25 t25n t25c) (.int .i64 t27)) (fun v h1 => ∃ (t29 : Addr), v = (.pointer (some t29)) ∧
∃ (t30 : OA) (t30n t30c : Nat), cellH h1 t29 = some (.slice t30 t30n t30c) ∧
hwp PP (Builtin.append_ #[y14, y14] y14 #[(.slice y130 y123 y122), (.slice t30 t30n t30c)]) (fun v_1 h2 => ∃ (t33 : OA) (t33n t33c : Nat), v_1 = (.slice t33 t33n t33c) ∧
let t34 : Int := IntKind.i64.wrap (t27 + 1)
L2 t33 t33n t33c t25 t25n t25c t26 t34 K h2) h1) h) (
K (.exit 2) (X2 y130 y123 y122) h)) : L2 y130 y123 y122 t25 t25n t25c t26 t27 K h := by unfold L2; exact Lp.of_txt (an 500) 234881088 (by kernel_rfl) H
theorem L2_X2 {Q : VP} {y130 : OA} {y123 y122 : Nat} {h : Heap} (H :
Q (.slice y130 y123 y122) h) : (K2 Q) (.exit 2) (X2 y130 y123 y122) h := y19 (by kernel_rfl) H
theorem door {y125 : OA} {y106 y114 : Nat} {Q : VP} {h : Heap} (H :
L1 y125 y106 y114 0 y125 y106 y114 (y106 : Int) 0 (K1 Q) h) : SpecH PP z332 [(.slice y125 y106 y114)] h Q :=
  y12 (ann := ann) Tryd.func26 rfl rfl (by kernel_rfl) H
end z331
namespace z341
def ann : Ann := (.seq 3 (rg 1 3) (.seq 3 (.seq 1027 (rg 2 1027) (.cond (rg 2 3) .leaf)) (.seq 97 (rg 11 97) (.seq 65 (.seq 67108929 (rg 6 67108929) (.join (.cond (rg 2 65) .leaf))) (.seq 129 (rg 4 129) (.seq 384 (rg 4 384) (.seq 128 (.block (.loop 384 (.seq 384 (.seq 137438953856 (rg 4 137438953856) (.cond .leaf (.exit 128))) (.block (rg 10 384))))) (.seq 16 (rg 2 16) (.exit 16)))))))))
noncomputable abbrev cd := cdF Tryd.f27
abbrev an := anF ann
@[irreducible] def X0 (y116 : OA) (y102 y109 : Nat) : Fr := (mkFr 0 48 [(7, (.slice y116 y102 y109))])
@[irreducible] def K1 (Q : VP) : EP := seqK (fun fr h => ev PP true none (cd 31) (an 31) (fr.mask 65) (bodyK PP Tryd.f27 Q) h) (bodyK PP Tryd.f27 Q)
@[irreducible] def J1 (x0 : OA) (x0n x0c : Nat) (lo6 : Int) (t26 : Bool) (Q : VP) (h : Heap) : Prop := Jn PP true (cd 61) (mkFr 0 48 [(0, (.slice x0 x0n x0c)), (6, .int .u64 lo6), (26, .bool t26)]) (K1 Q) h
@[irreducible] def K3 (Q : VP) : EP := seqK (fun fr h => ev PP true none (cd 255) (an 255) (fr.mask 128) (bodyK PP Tryd.f27 Q) h) (bodyK PP Tryd.f27 Q)
@[irreducible] def K2 (Q : VP) : EP := blockK 0 (K3 Q)
@[irreducible] def L1 (y116 : OA) (y102 y109 : Nat) (xn8 : Int) (K : EP) (h : Heap) : Prop := Lp PP true (cd 1016) (mkFr 0 48 [(7, (.slice y116 y102 y109)), (8, .int .i64 xn8)]) K h
theorem J1_of {x0 : OA} {x0n x0c : Nat} {lo6 : Int} {t26 : Bool} {Q : VP} {h : Heap} (H :
br t26 (
False) (
let t29 : Int := IntKind.i64.wrap lo6
hwp PP (Instr.makeSlice y14 (.int .i64 t29) (.int .i64 t29)) (fun v h1 => ∃ (t30 : OA) (t30n t30c : Nat), v = (.slice t30 t30n t30c) ∧
hwp PP (Builtin.copy_ #[y14, y14] y18 #[(.slice t30 t30n t30c), (.slice x0 x0n x0c)]) (fun v_1 h2 => ∃ (t33 : Int), v_1 = (.int .i64 t33) ∧
L1 t30 t30n t30c t33 (K2 Q) h2) h1) h)) : J1 x0 x0n x0c lo6 t26 Q h := by unfold J1; exact Jn.of_txt (an 61) (by kernel_rfl) H
theorem L1_of {y116 : OA} {y102 y109 : Nat} {xn8 : Int} {K : EP} {h : Heap} (H :
let t37 : Bool := decide (xn8 < (y102 : Int))
br t37 (
hwp PP (Instr.sliceAt y14 (.slice y116 y102 y109) (some (.int .i64 xn8)) none none) (fun v h1 => ∃ (t41 : OA) (t41n t41c : Nat), v = (.slice t41 t41n t41c) ∧
hwp PP (Instr.sliceAt y14 (.slice y116 y102 y109) none (some (.int .i64 xn8)) none) (fun v_1 h2 => ∃ (t44 : OA) (t44n t44c : Nat), v_1 = (.slice t44 t44n t44c) ∧
hwp PP (Builtin.copy_ #[y14, y14] y18 #[(.slice t41 t41n t41c), (.slice t44 t44n t44c)]) (fun v_2 h3 => ∃ (t45 : Int), v_2 = (.int .i64 t45) ∧
let t46 : Int := IntKind.i64.wrap (xn8 + t45)
L1 y116 y102 y109 t46 K h3) h2) h1) h) (
K (.exit 0) (X0 y116 y102 y109) h)) : L1 y116 y102 y109 xn8 K h := by unfold L1; exact Lp.of_txt (an 1016) 384 (by kernel_rfl) H
theorem L1_X0 {Q : VP} {y116 : OA} {y102 y109 : Nat} {h : Heap} (H :
Q (.slice y116 y102 y109) h) : (K2 Q) (.exit 0) (X0 y116 y102 y109) h := y19 (by kernel_rfl) H
theorem door {x0 : OA} {x0n x0c : Nat} {count1 : Int} {Q : VP} {h : Heap} (H :
let t10 : Bool := decide (count1 < 0)
br t10 (
False) (
let t15 : Int := IntKind.u64.wrap (x0n : Int)
let t17 : Int := IntKind.u64.wrap count1
∃ v, PureAt PP z320 [.int .u64 t15, .int .u64 t17] v ∧
∃ (t18 t18_1 : Int), v = (.tuple #[.int .u64 t18, .int .u64 t18_1]) ∧
let t22 : Bool := decide (t18 > 0)
br t22 (
J1 x0 x0n x0c t18_1 true Q h) (
let t25 : Bool := decide (t18_1 > 9223372036854775807)
J1 x0 x0n x0c t18_1 t25 Q h))) : SpecH PP z342 [(.slice x0 x0n x0c), .int .i64 count1] h Q :=
  y12 (ann := ann) Tryd.func27 rfl rfl (by kernel_rfl) H
end z341
namespace z181
def ann : Ann := (.seq 0 (rg 1 0) (.seq 1 (rg 3 1) (.exit 1)))
theorem door  {Q : VP} {h : Heap} (H :
let t2 : Addr := ⟨Array.size h, 0, none⟩
let h1 : Heap := Array.push h (.cells #[(.slice none 0 0), .int .i64 0] y171 (0, 0))
Q (.pointer (some t2)) h1) : SpecH PP z182 [] h Q :=
  y12 (ann := ann) Tryd.func28 rfl rfl (by kernel_rfl) H
end z181
namespace z197
def ann : Ann := (.seq 7 (rg 1 7) (.straight (.seq 7 (.block (.seq 519 (rg 3 519) (.cond (.seq 64 (rg 1 64) (.exit 64)) (.seq 4103 (rg 14 4103) (.join (.cond (.seq 64 (rg 1 64) (.exit 64)) .leaf)))))) (.seq 133 (rg 3 133) (.seq 133 .leaf (.seq 0 (.block (.loop 133 (.block (.seq 133 (.seq 536871045 (rg 2 536871045) (.cond (.exit 0) .leaf)) (.seq 133 (.seq 34359738501 (rg 6 34359738501) (.cond (rg 10 133) .leaf)) (.join (.seq 389 (rg 9 389) (.seq 389 (rg 27 389) (.seq 389 (rg 4 389) (.seq 389 (rg 4 389) (rg 9 133))))))))))) (.seq 64 (rg 1 64) (.exit 64))))))))
noncomputable abbrev cd := cdF Tryd.f29
abbrev an := anF ann
@[irreducible] def X1  : Fr := (mkFr 0 93 [])
@[irreducible] def K6 (Q : VP) : EP := noGotoK (bodyK PP Tryd.f29 Q)
@[irreducible] def K3 (Q : VP) : EP := seqK (fun fr h => ev PP true none (cd 13) (an 13) (fr.mask 7) (K6 Q) h) (K6 Q)
@[irreducible] def K1 (Q : VP) : EP := blockK 0 (K3 Q)
@[irreducible] def J1 (w0 : OA) (v1 xn2 : Int) (t12 : Bool) (Q : VP) (h : Heap) : Prop := Jn PP true (cd 199) (mkFr 0 93 [(0, .pointer w0), (1, .int .u32 v1), (2, .int .i64 xn2), (12, .bool t12)]) (K1 Q) h
@[irreducible] def K4 (Q : VP) : EP := seqK (fun fr h => ev PP true none (cd 111) (an 111) (fr.mask 0) (K6 Q) h) (K6 Q)
@[irreducible] def K2 (Q : VP) : EP := blockK 1 (K4 Q)
@[irreducible] def L1 (w0 : OA) (xn2 rest7 : Int) (K : EP) (h : Heap) : Prop := Lp PP true (cd 440) (mkFr 0 93 [(0, .pointer w0), (2, .int .i64 xn2), (7, .int .u64 rest7)]) K h
@[irreducible] def B1 (K : EP) : EP := seqK (fun fr h => Lp PP true (cd 440) (fr.mask 133) K h) K
@[irreducible] def K5 (K : EP) : EP := blockK 2 (B1 K)
@[irreducible] def J2 (w0 : OA) (xn2 rest7 : Int) (K : EP) (h : Heap) : Prop := Jn PP true (cd 3523) (mkFr 0 93 [(0, .pointer w0), (2, .int .i64 xn2), (7, .int .u64 rest7)]) (K5 K) h
theorem J1_of {w0 : OA} {v1 xn2 : Int} {t12 : Bool} {Q : VP} {h : Heap} (H :
br t12 (
Q (.int .i64 1) h) (
let t27 : Int := IntKind.u64.wrap v1
L1 w0 xn2 t27 (K2 Q) h)) : J1 w0 v1 xn2 t12 Q h := by unfold J1; exact Jn.of_txt (an 199) (by kernel_rfl) H
theorem L1_of {w0 : OA} {xn2 rest7 : Int} {K : EP} {h : Heap} (H :
let t29 : Bool := (xn2 == 0)
br t29 (
K (.exit 1) (X1) h) (
nilc w0 (fun t31 =>
∃ (t33 : Int), cellH h (Addr.add t31 1) = some (.int .i64 t33) ∧
let t34 : Int := Int.tmod t33 8
let t35 : Bool := (t34 == 0)
br t35 (
nilc w0 (fun t38 =>
∃ (t40 : OA) (t40n t40c : Nat), cellH h t38 = some (.slice t40 t40n t40c) ∧
let h1 : Heap := Array.push h (.cells #[.int .u8 0] y15 (0, 0))
hwp PP (Builtin.append_ #[y13, y13] y13 #[(.slice t40 t40n t40c), (.slice (some ⟨Array.size h, 0, none⟩) 1 1)]) (fun v h2 => ∃ (t42 : OA) (t42n t42c : Nat), v = (.slice t42 t42n t42c) ∧
nilc w0 (fun t43 =>
wr t43 (.slice t42 t42n t42c) (fun h3 =>
J2 w0 xn2 rest7 K h3) h2)) h1)) (
J2 w0 xn2 rest7 K h)))) : L1 w0 xn2 rest7 K h := by unfold L1; exact Lp.of_txt (an 440) 133 (by kernel_rfl) H
theorem L1_X1 {Q : VP}  {h : Heap} (H :
Q (.int .i64 0) h) : (K2 Q) (.exit 1) (X1 ) h := y19 (by kernel_rfl) H
theorem J2_of {w0 : OA} {xn2 rest7 : Int} {K : EP} {h : Heap} (H :
nilc w0 (fun t47 =>
∃ (t49 : Int), cellH h (Addr.add t47 1) = some (.int .i64 t49) ∧
let t50 : Int := Int.tmod t49 8
let t51 : Int := IntKind.i64.wrap (8 - t50)
let t52 : Int := (if t51 < xn2 then t51 else xn2)
nilc w0 (fun t54 =>
∃ (t56 : OA) (t56n t56c : Nat), cellH h t54 = some (.slice t56 t56n t56c) ∧
nilc w0 (fun t58 =>
∃ (t60 : OA) (t60n t60c : Nat), cellH h t58 = some (.slice t60 t60n t60c) ∧
let t62 : Int := IntKind.i64.wrap ((t60n : Int) - 1)
hwp PP (Instr.indexAt y13 (.slice t56 t56n t56c) (.int .i64 t62)) (fun v h1 => ∃ (t63 : Addr), v = (.pointer (some t63)) ∧
∃ (t64 : Int), cellH h1 t63 = some (.int .u8 t64) ∧
br (decide (0 ≤ t52)) (
let t67 : Int := sShl .u64 1 t52
let t68 : Int := IntKind.u64.wrap (t67 - 1)
let t69 : Int := bAnd .u64 rest7 t68
let t70 : Int := IntKind.u8.wrap t69
nilc w0 (fun t72 =>
∃ (t74 : Int), cellH h1 (Addr.add t72 1) = some (.int .i64 t74) ∧
let t75 : Int := Int.tmod t74 8
br (decide (0 ≤ t75)) (
let t76 : Int := sShl .u8 t70 t75
let t77 : Int := bOr .u8 t64 t76
hwp PP (Instr.indexAt y13 (.slice t56 t56n t56c) (.int .i64 t62)) (fun v_1 h2 => ∃ (t78 : Addr), v_1 = (.pointer (some t78)) ∧
wr t78 (.int .u8 t77) (fun h3 =>
br (decide (0 ≤ t52)) (
let t81 : Int := sShr .u64 rest7 t52
let t84 : Int := IntKind.i64.wrap (xn2 - t52)
nilc w0 (fun t86 =>
∃ (t88 : Int), cellH h3 (Addr.add t86 1) = some (.int .i64 t88) ∧
let t90 : Int := IntKind.i64.wrap (t88 + t52)
nilc w0 (fun t91 =>
wr (Addr.add t91 1) (.int .i64 t90) (fun h4 =>
L1 w0 t84 t81 K h4) h3))) False) h2) h1) False)) False) h)))) : J2 w0 xn2 rest7 K h := by unfold J2; exact Jn.of_txt (an 3523) (by kernel_rfl) H
theorem door {w0 : OA} {v1 xn2 : Int} {Q : VP} {h : Heap} (H :
let t11 : Bool := (Option.isNone w0)
br t11 (
Q (.int .i64 3) h) (
let t14 : Bool := decide (xn2 < 0)
br t14 (
J1 w0 v1 xn2 true Q h) (
let t17 : Bool := decide (xn2 > 32)
br t17 (
J1 w0 v1 xn2 true Q h) (
let t21 : Int := IntKind.u64.wrap v1
br (decide (0 ≤ xn2)) (
let t23 : Int := sShr .u64 t21 xn2
let t24 : Bool := (t23 != 0)
J1 w0 v1 xn2 t24 Q h) False)))) : SpecH PP z198 [.pointer w0, .int .u32 v1, .int .i64 xn2] h Q :=
  y12 (ann := ann) Tryd.func29 rfl rfl (by kernel_rfl) H
end z197
namespace z221
def ann : Ann := (.seq 271 (rg 7 271) (.seq 1295 (rg 7 1295) (.seq 261 (.seq 1879049485 (rg 3 1879049485) (.block (.loop 1879049485 (.seq 4026533133 (rg 1 4026533133) (.seq 1879049485 (.cond .leaf (.exit 261)) (.seq 1879049485 (.block (.seq 1879057677 (rg 4 1879057677) (.seq 1879057677 (.seq 70598534413 (rg 3 70598534413) (.cond (.seq 1879049485 (rg 12 1879049485) (.exit 1879049485)) .leaf)) (.seq 1879172365 (rg 10 1879172365) (.seq 1879155981 (rg 10 1879155981) (.seq 1879057677 (rg 4 1879057677) (.seq 1879278861 (rg 10 1879278861) (.seq 1879147789 (rg 10 1879147789) (rg 4 1879049485))))))))) (.join (rg 2 1879049485)))))))) (rg 8 0))))
noncomputable abbrev cd := cdF Tryd.f30
abbrev an := anF ann
@[irreducible] def X0 (w0 lit2 : OA) (lit2n lit2c : Nat) (lits8 : OA) (lits8n lits8c : Nat) : Fr := (mkFr 0 100 [(0, .pointer w0), (2, (.slice lit2 lit2n lit2c)), (8, (.slice lits8 lits8n lits8c))])
@[irreducible] def L1 (w0 lit2 : OA) (lit2n lit2c : Nat) (dist3 : OA) (y83 y84 : Nat) (lits8 : OA) (lits8n lits8c : Nat) (dists10 : OA) (y140 y139 : Nat) (t28 : OA) (t28n t28c : Nat) (t29 t30 : Int) (K : EP) (h : Heap) : Prop := Lp PP true (cd 116) (mkFr 0 100 [(0, .pointer w0), (2, (.slice lit2 lit2n lit2c)), (3, (.slice dist3 y83 y84)), (8, (.slice lits8 lits8n lits8c)), (10, (.slice dists10 y140 y139)), (28, (.slice t28 t28n t28c)), (29, .int .i64 t29), (30, .int .i64 t30)]) K h
@[irreducible] def B1 (K : EP) : EP := seqK (fun fr h => Lp PP true (cd 116) (fr.mask 1879049485) K h) K
@[irreducible] def J1 (w0 lit2 : OA) (lit2n lit2c : Nat) (dist3 : OA) (y83 y84 : Nat) (lits8 : OA) (lits8n lits8c : Nat) (dists10 : OA) (y140 y139 : Nat) (t28 : OA) (t28n t28c : Nat) (t29 t30 : Int) (K : EP) (h : Heap) : Prop := Jn PP true (cd 935) (mkFr 0 100 [(0, .pointer w0), (2, (.slice lit2 lit2n lit2c)), (3, (.slice dist3 y83 y84)), (8, (.slice lits8 lits8n lits8c)), (10, (.slice dists10 y140 y139)), (28, (.slice t28 t28n t28c)), (29, .int .i64 t29), (30, .int .i64 t30)]) (B1 K) h
@[irreducible] def K2 (Q : VP) : EP := seqK (fun fr h => ev PP true none (cd 15) (an 15) (fr.mask 261) (bodyK PP Tryd.f30 Q) h) (bodyK PP Tryd.f30 Q)
@[irreducible] def K1 (Q : VP) : EP := blockK 0 (K2 Q)
theorem L1_of {w0 lit2 : OA} {lit2n lit2c : Nat} {dist3 : OA} {y83 y84 : Nat} {lits8 : OA} {lits8n lits8c : Nat} {dists10 : OA} {y140 y139 : Nat} {t28 : OA} {t28n t28c : Nat} {t29 t30 : Int} {K : EP} {h : Heap} (H :
let t31 : Bool := decide (t30 < t29)
br t31 (
hwp PP (Instr.indexAt y45 (.slice t28 t28n t28c) (.int .i64 t30)) (fun v h1 => ∃ (t32 : Addr), v = (.pointer (some t32)) ∧
∃ (t33f0 t33f1 t33f2 : Int), rdCells h1 t32 0 [.int .u8 t33f0, .int .i64 t33f1, .int .i64 t33f2] ∧
let x13 : Addr := ⟨Array.size h1, 0, none⟩
let h2 : Heap := Array.push h1 (.cells #[.int .u8 0, .int .i64 0, .int .i64 0] y38 (0, 0))
wrCells x13 0 [.int .u8 t33f0, .int .i64 t33f1, .int .i64 t33f2] (fun h3 =>
∃ (t35 : Int), cellH h3 (Addr.add x13 1) = some (.int .i64 t35) ∧
let t36 : Bool := (t35 == 0)
br t36 (
∃ (t40 : Int), cellH h3 x13 = some (.int .u8 t40) ∧
hwp PP (Instr.indexAt y131 (.slice lits8 lits8n lits8c) (.int .u8 t40)) (fun v_1 h4 => ∃ (t41 : Addr), v_1 = (.pointer (some t41)) ∧
∃ (t42 : Int), cellH h4 t41 = some (.int .u32 t42) ∧
∃ (t45 : Int), cellH h4 x13 = some (.int .u8 t45) ∧
hwp PP (Instr.indexAt y14 (.slice lit2 lit2n lit2c) (.int .u8 t45)) (fun v_2 h5 => ∃ (t46 : Addr), v_2 = (.pointer (some t46)) ∧
∃ (t47 : Int), cellH h5 t46 = some (.int .i64 t47) ∧
SpecH PP z198 [.pointer w0, .int .u32 t42, .int .i64 t47] h5 (fun v_3 h6 => ∃ (t48 : Int), v_3 = (.int .i64 t48) ∧
J1 w0 lit2 lit2n lit2c dist3 y83 y84 lits8 lits8n lits8c dists10 y140 y139 t28 t28n t28c t29 t30 K h6)) h4) h3) (
∃ (t51 : Int), cellH h3 (Addr.add x13 1) = some (.int .i64 t51) ∧
SpecH PP z224 [.int .i64 t51] h3 (fun v_4 h7 => ∃ (t52 t52_1 t52_2 : Int), v_4 = (.tuple #[.int .i64 t52, .int .u32 t52_1, .int .i64 t52_2]) ∧
hwp PP (Instr.indexAt y131 (.slice lits8 lits8n lits8c) (.int .i64 t52)) (fun v_5 h8 => ∃ (t59 : Addr), v_5 = (.pointer (some t59)) ∧
∃ (t60 : Int), cellH h8 t59 = some (.int .u32 t60) ∧
hwp PP (Instr.indexAt y14 (.slice lit2 lit2n lit2c) (.int .i64 t52)) (fun v_6 h9 => ∃ (t63 : Addr), v_6 = (.pointer (some t63)) ∧
∃ (t64 : Int), cellH h9 t63 = some (.int .i64 t64) ∧
SpecH PP z198 [.pointer w0, .int .u32 t60, .int .i64 t64] h9 (fun v_7 h10 => ∃ (t65 : Int), v_7 = (.int .i64 t65) ∧
SpecH PP z198 [.pointer w0, .int .u32 t52_1, .int .i64 t52_2] h10 (fun v_8 h11 => ∃ (t69 : Int), v_8 = (.int .i64 t69) ∧
∃ (t72 : Int), cellH h11 (Addr.add x13 2) = some (.int .i64 t72) ∧
SpecH PP z220 [.int .i64 t72] h11 (fun v_9 h12 => ∃ (t73 t73_1 t73_2 : Int), v_9 = (.tuple #[.int .i64 t73, .int .u32 t73_1, .int .i64 t73_2]) ∧
hwp PP (Instr.indexAt y131 (.slice dists10 y140 y139) (.int .i64 t73)) (fun v_10 h13 => ∃ (t80 : Addr), v_10 = (.pointer (some t80)) ∧
∃ (t81 : Int), cellH h13 t80 = some (.int .u32 t81) ∧
hwp PP (Instr.indexAt y14 (.slice dist3 y83 y84) (.int .i64 t73)) (fun v_11 h14 => ∃ (t84 : Addr), v_11 = (.pointer (some t84)) ∧
∃ (t85 : Int), cellH h14 t84 = some (.int .i64 t85) ∧
SpecH PP z198 [.pointer w0, .int .u32 t81, .int .i64 t85] h14 (fun v_12 h15 => ∃ (t86 : Int), v_12 = (.int .i64 t86) ∧
SpecH PP z198 [.pointer w0, .int .u32 t73_1, .int .i64 t73_2] h15 (fun v_13 h16 => ∃ (t90 : Int), v_13 = (.int .i64 t90) ∧
J1 w0 lit2 lit2n lit2c dist3 y83 y84 lits8 lits8n lits8c dists10 y140 y139 t28 t28n t28c t29 t30 K h16))) h13) h12)))) h8) h7))) h2) h) (
K (.exit 0) (X0 w0 lit2 lit2n lit2c lits8 lits8n lits8c) h)) : L1 w0 lit2 lit2n lit2c dist3 y83 y84 lits8 lits8n lits8c dists10 y140 y139 t28 t28n t28c t29 t30 K h := by unfold L1; exact Lp.of_txt (an 116) 1879049485 (by kernel_rfl) H
theorem L1_X0 {Q : VP} {w0 lit2 : OA} {lit2n lit2c : Nat} {lits8 : OA} {lits8n lits8c : Nat} {h : Heap} (H :
hwp PP (Instr.indexAt y131 (.slice lits8 lits8n lits8c) (.int .i64 256)) (fun v h1 => ∃ (t94 : Addr), v = (.pointer (some t94)) ∧
∃ (t95 : Int), cellH h1 t94 = some (.int .u32 t95) ∧
hwp PP (Instr.indexAt y14 (.slice lit2 lit2n lit2c) (.int .i64 256)) (fun v_1 h2 => ∃ (t97 : Addr), v_1 = (.pointer (some t97)) ∧
∃ (t98 : Int), cellH h2 t97 = some (.int .i64 t98) ∧
SpecH PP z198 [.pointer w0, .int .u32 t95, .int .i64 t98] h2 (fun v_2 h3 => ∃ (t99 : Int), v_2 = (.int .i64 t99) ∧
Q (.tuple #[]) h3)) h1) h) : (K1 Q) (.exit 0) (X0 w0 lit2 lit2n lit2c lits8 lits8n lits8c) h := y19 (by kernel_rfl) H
theorem J1_of {w0 lit2 : OA} {lit2n lit2c : Nat} {dist3 : OA} {y83 y84 : Nat} {lits8 : OA} {lits8n lits8c : Nat} {dists10 : OA} {y140 y139 : Nat} {t28 : OA} {t28n t28c : Nat} {t29 t30 : Int} {K : EP} {h : Heap} (H :
let t91 : Int := IntKind.i64.wrap (t30 + 1)
L1 w0 lit2 lit2n lit2c dist3 y83 y84 lits8 lits8n lits8c dists10 y140 y139 t28 t28n t28c t29 t91 K h) : J1 w0 lit2 lit2n lit2c dist3 y83 y84 lits8 lits8n lits8c dists10 y140 y139 t28 t28n t28c t29 t30 K h := by unfold J1; exact Jn.of_txt (an 935) (by kernel_rfl) H
theorem door {w0 t1 : OA} {t1n t1c : Nat} {lit2 : OA} {lit2n lit2c : Nat} {dist3 : OA} {y83 y84 : Nat} {Q : VP} {h : Heap} (H :
SpecH PP z228 [(.slice lit2 lit2n lit2c)] h (fun v h1 => ∃ (t20 : OA) (t20n t20c : Nat) (t20_1 : Int), v = (.tuple #[(.slice t20 t20n t20c), .int .i64 t20_1]) ∧
SpecH PP z228 [(.slice dist3 y83 y84)] h1 (fun v_1 h2 => ∃ (t25 : OA) (t25n t25c : Nat) (t25_1 : Int), v_1 = (.tuple #[(.slice t25 t25n t25c), .int .i64 t25_1]) ∧
L1 w0 lit2 lit2n lit2c dist3 y83 y84 t20 t20n t20c t25 t25n t25c t1 t1n t1c (t1n : Int) 0 (K1 Q) h2))) : SpecH PP z222 [.pointer w0, (.slice t1 t1n t1c), (.slice lit2 lit2n lit2c), (.slice dist3 y83 y84)] h Q :=
  y12 (ann := ann) Tryd.func30 rfl rfl (by kernel_rfl) H
end z221
namespace z195
def ann : Ann := (.seq 1 (rg 1 1) (.seq 1 (.seq 33 (rg 2 33) (.cond (.seq 4 (rg 1 4) (.exit 4)) .leaf)) (.seq 9 (rg 7 9) (.seq 8 (rg 6 8) (.seq 4 (rg 2 4) (.exit 4))))))
theorem door {w0 : OA} {Q : VP} {h : Heap} (H :
let t5 : Bool := (Option.isNone w0)
br t5 (
Q (.slice none 0 0) h) (
nilc w0 (fun t7 =>
∃ (t9 : OA) (t9n t9c : Nat), cellH h t7 = some (.slice t9 t9n t9c) ∧
hwp PP (Instr.makeSlice y13 (.int .i64 (t9n : Int)) (.int .i64 (t9n : Int))) (fun v h1 => ∃ (t11 : OA) (t11n t11c : Nat), v = (.slice t11 t11n t11c) ∧
nilc w0 (fun t14 =>
∃ (t16 : OA) (t16n t16c : Nat), cellH h1 t14 = some (.slice t16 t16n t16c) ∧
hwp PP (Builtin.copy_ #[y13, y13] y18 #[(.slice t11 t11n t11c), (.slice t16 t16n t16c)]) (fun v_1 h2 => ∃ (t17 : Int), v_1 = (.int .i64 t17) ∧
Q (.slice t11 t11n t11c) h2) h1)) h))) : SpecH PP z196 [.pointer w0] h Q :=
  y12 (ann := ann) Tryd.func31 rfl rfl (by kernel_rfl) H
end z195
namespace z223
def ann : Ann := (.seq 1 (rg 3 1) (.seq 1 (.block (.seq 33 (rg 3 33) (.cond (.seq 28 (rg 3 28) (.exit 28)) (.seq 257 (rg 3 257) (.cond (.seq 28 (rg 5 28) (.exit 28)) .leaf))))) (.seq 1 (rg 3 1) (.seq 17 (rg 5 17) (.seq 28 (rg 18 28) (.exit 28))))))
theorem door {xn0 : Int} {Q : VP} {h : Heap} (H :
let t7 : Bool := (xn0 == 258)
br t7 (
Q (.tuple #[.int .i64 285, .int .u32 0, .int .i64 0]) h) (
let t10 : Bool := decide (xn0 < 11)
br t10 (
let t12 : Int := IntKind.i64.wrap (xn0 + 254)
Q (.tuple #[.int .i64 t12, .int .u32 0, .int .i64 0]) h) (
let t14 : Int := IntKind.i64.wrap (xn0 - 3)
let t16 : Int := IntKind.u64.wrap t14
SpecH PP z314 [.int .u64 t16] h (fun v h1 => ∃ (t17 : Int), v = (.int .i64 t17) ∧
let t18 : Int := IntKind.i64.wrap (t17 - 3)
let t20 : Int := IntKind.i64.wrap (4 * t18)
let t21 : Int := IntKind.i64.wrap (261 + t20)
br (decide (0 ≤ t18)) (
let t24 : Int := sShr .i64 t14 t18
let t25 : Int := IntKind.i64.wrap (t21 + t24)
let t26 : Int := IntKind.i64.wrap (t25 - 4)
br (decide (0 ≤ t18)) (
let t29 : Int := sShl .i64 1 t18
let t30 : Int := IntKind.i64.wrap (t29 - 1)
let t31 : Int := bAnd .i64 t14 t30
let t32 : Int := IntKind.u32.wrap t31
Q (.tuple #[.int .i64 t26, .int .u32 t32, .int .i64 t18]) h1) False) False)))) : SpecH PP z224 [.int .i64 xn0] h Q :=
  y12 (ann := ann) Tryd.func32 rfl rfl (by kernel_rfl) H
end z223
namespace z219
def ann : Ann := (.seq 1 (rg 3 1) (.seq 1 (rg 3 1) (.seq 1 (.seq 257 (rg 2 257) (.cond (.seq 28 (rg 4 28) (.exit 28)) .leaf)) (.seq 17 (rg 5 17) (.seq 28 (rg 18 28) (.exit 28))))))
theorem door {xn0 : Int} {Q : VP} {h : Heap} (H :
let t6 : Int := IntKind.i64.wrap (xn0 - 1)
let t8 : Bool := decide (t6 < 4)
br t8 (
Q (.tuple #[.int .i64 t6, .int .u32 0, .int .i64 0]) h) (
let t11 : Int := IntKind.u64.wrap t6
SpecH PP z314 [.int .u64 t11] h (fun v h1 => ∃ (t12 : Int), v = (.int .i64 t12) ∧
let t13 : Int := IntKind.i64.wrap (t12 - 2)
let t15 : Int := IntKind.i64.wrap (2 * t13)
let t16 : Int := IntKind.i64.wrap (2 + t15)
br (decide (0 ≤ t13)) (
let t19 : Int := sShr .i64 t6 t13
let t20 : Int := IntKind.i64.wrap (t16 + t19)
let t21 : Int := IntKind.i64.wrap (t20 - 2)
br (decide (0 ≤ t13)) (
let t24 : Int := sShl .i64 1 t13
let t25 : Int := IntKind.i64.wrap (t24 - 1)
let t26 : Int := bAnd .i64 t6 t25
let t27 : Int := IntKind.u32.wrap t26
Q (.tuple #[.int .i64 t21, .int .u32 t27, .int .i64 t13]) h1) False) False))) : SpecH PP z220 [.int .i64 xn0] h Q :=
  y12 (ann := ann) Tryd.func33 rfl rfl (by kernel_rfl) H
end z219
namespace z231
def ann : Ann := (.seq 3 (rg 2 3) (.seq 3 (.seq 8589934595 (rg 16 8589934595) (.join (.cond (.seq 48 (rg 2 48) (.exit 48)) .leaf))) (.seq 67 (rg 1 67) (.seq 67 (.seq 120259084355 (rg 3 120259084355) (.block (.loop 120259084355 (.seq 257698037827 (rg 1 257698037827) (.seq 120259084355 (.cond .leaf (.exit 67)) (.seq 120259084355 (.block (.seq 120259084739 (rg 5 120259084739) (.seq 120259084739 (.seq 70489003262403 (rg 6 70489003262403) (.join (.cond (.seq 48 (rg 2 48) (.exit 48)) .leaf))) (.seq 281595235795395 (rg 2 281595235795395) (.cond (rg 8 120259084355) .leaf))))) (.join (rg 2 120259084355)))))))) (.seq 67 (.seq 2305843009213694019 (rg 5 2305843009213694019) (.cond (.seq 48 (rg 2 48) (.exit 48)) .leaf)) (.seq 578 (rg 4 578) (.seq 578 (.seq 147573952589676413506 (rg 3 147573952589676413506) (.cond (rg 9 578) .leaf)) (.join (.seq 578 (.seq 302231454903657293677122 (rg 3 302231454903657293677122) (.cond (.seq 48 (rg 3 48) (.exit 48)) .leaf)) (.seq 1602 (rg 1 1602) (.seq 1602 (rg 3 1602) (.seq 3650 (rg 1 3650) (.seq 2624 (.seq 29014219670751100192951872 (rg 2 29014219670751100192951872) (.block (.loop 29014219670751100192951872 (.seq 67699845898419233783549504 (rg 1 67699845898419233783549504) (.seq 29014219670751100192951872 (.cond .leaf (.exit 2624)) (.seq 29014219670751100192951872 (.block (.seq 29014219670751100192955968 (rg 3 29014219670751100192955968) (.seq 29014219670751100192953920 (.seq 29014219670751100192964160 (rg 1 29014219670751100192964160) (.block (.loop 29014219670751100192964160 (.seq 29014219670751100192964160 (.seq 4980774376812272199789461056 (rg 5 4980774376812272199789461056) (.cond .leaf (.exit 29014219670751100192953920))) (.seq 29014219670751100192964160 (.block (.tree (.run [0, 1, 2, 3, 4, 6, 7, 8, 9, 10, 13, 14, 15, 16, 17, 18, 19, 20, 21, 22, 23] (.alt 5 (.alt 11 (.run [12, 24, 25, 26, 27, 28, 29] .done) (.alt 24 (.alt 11 (.run [12, 25, 26, 27, 28, 29] .done) (.alt 25 (.run [11, 12, 26, 27, 28, 29] .done) .nil)) .nil)) (.alt 11 (.alt 5 (.run [12, 24, 25, 26, 27, 28, 29] .done) (.alt 24 (.alt 5 (.run [12, 25, 26, 27, 28, 29] .done) (.alt 25 (.run [5, 12, 26, 27, 28, 29] .done) .nil)) .nil)) (.alt 24 (.alt 5 (.alt 11 (.run [12, 25, 26, 27, 28, 29] .done) (.alt 25 (.run [11, 12, 26, 27, 28, 29] .done) .nil)) (.alt 11 (.alt 5 (.run [12, 25, 26, 27, 28, 29] .done) (.alt 25 (.run [5, 12, 26, 27, 28, 29] .done) .nil)) (.alt 25 (.run [5, 11, 12, 26, 27, 28, 29] .done) .nil))) .nil)))) 29014219670751100192964160)) (.join (rg 3 29014219670751100192964160))))))) (.seq 29014219670751100192953920 (rg 3 29014219670751100192953920) (rg 2 29014219670751100192951872))))) (rg 2 29014219670751100192951872))))))) (.seq 512 (.seq 152446500380580431631591824129432158732800 (rg 8 152446500380580431631591824129432158732800) (.block (.loop 152446500380580431631591824129432158732800 (.seq 326671072244100924924839623134497482998272 (rg 1 326671072244100924924839623134497482998272) (.seq 152446500380580431631591824129432158732800 (.cond .leaf (.exit 512)) (.seq 152446500380580431631591824129432158732800 (.block (.seq 152446500380580431631591824129432158765568 (rg 4 152446500380580431631591824129432158765568) (.seq 19665598549094875680475345312696748476465664 (rg 4 19665598549094875680475345312696748476465664) (.block (.loop 19665598549094875680475345312696748476465664 (.seq 41966343747625498822011063585345109982446080 (rg 1 41966343747625498822011063585345109982446080) (.seq 19665598549094875680475345312696748476465664 (.cond .leaf (.exit 152446500380580431631591824129432158732800)) (.seq 19665598549094875680475345312696748476465664 (.block (.seq 19665598549094875680475345312696748476596736 (rg 3 19665598549094875680475345312696748476596736) (rg 7 19665598549094875680475345312696748476465664))) (rg 2 19665598549094875680475345312696748476465664))))))))) (rg 2 152446500380580431631591824129432158732800))))))) (.seq 48 (rg 3 48) (.exit 48))))))))))))))))
noncomputable abbrev cd := cdF Tryd.f34
abbrev an := anF ann
@[irreducible] def X0 (y63 : OA) (y39 y48 : Nat) (y41 : Int) (y26 : OA) (y21 y23 : Nat) : Fr := (mkFr 0 156 [(0, (.slice y63 y39 y48)), (1, .int .i64 y41), (6, (.slice y26 y21 y23))])
@[irreducible] def Xret (t4 : OA) (t4n t4c : Nat) (t5 : Int) : Fr := (mkFr 0 156 [(4, (.slice t4 t4n t4c)), (5, .int .i64 t5)])
@[irreducible] def X2 (y26 : OA) (y21 y23 : Nat) (out9 : OA) (y36 y37 : Nat) (xl11 : OA) (xl11n xl11c : Nat) : Fr := (mkFr 0 156 [(6, (.slice y26 y21 y23)), (9, (.slice out9 y36 y37)), (11, (.slice xl11 xl11n xl11c))])
@[irreducible] def X4 (y26 : OA) (y21 y23 : Nat) (out9 : OA) (y36 y37 : Nat) (y42 : Value) (y81 : OA) (y71 y70 : Nat) (t83 t84 : Int) : Fr := (mkFr 0 156 [(6, (.slice y26 y21 y23)), (9, (.slice out9 y36 y37)), (10, y42), (12, (.slice y81 y71 y70)), (83, .int .i64 t83), (84, .int .i64 t84)])
@[irreducible] def X6 (out9 : OA) (y36 y37 : Nat) : Fr := (mkFr 0 156 [(9, (.slice out9 y36 y37))])
@[irreducible] def X8 (out9 : OA) (y36 y37 : Nat) (t134 : OA) (t134n t134c : Nat) (t135 t136 : Int) : Fr := (mkFr 0 156 [(9, (.slice out9 y36 y37)), (134, (.slice t134 t134n t134c)), (135, .int .i64 t135), (136, .int .i64 t136)])
@[irreducible] def K1 (Q : VP) : EP := seqK (fun fr h => ev PP true none (cd 7) (an 7) (fr.mask 3) (bodyK PP Tryd.f34 Q) h) (bodyK PP Tryd.f34 Q)
@[irreducible] def J1 (y63 : OA) (y39 y48 : Nat) (y41 : Int) (t33 : Bool) (Q : VP) (h : Heap) : Prop := Jn PP true (cd 13) (mkFr 0 156 [(0, (.slice y63 y39 y48)), (1, .int .i64 y41), (33, .bool t33)]) (K1 Q) h
@[irreducible] def K3 (Q : VP) : EP := seqK (fun fr h => ev PP true none (cd 31) (an 31) (fr.mask 67) (bodyK PP Tryd.f34 Q) h) (bodyK PP Tryd.f34 Q)
@[irreducible] def K2 (Q : VP) : EP := blockK 0 (K3 Q)
@[irreducible] def L1 (y63 : OA) (y39 y48 : Nat) (y41 : Int) (y26 : OA) (y21 y23 : Nat) (t34 : OA) (t34n t34c : Nat) (t35 t36 : Int) (K : EP) (h : Heap) : Prop := Lp PP true (cd 244) (mkFr 0 156 [(0, (.slice y63 y39 y48)), (1, .int .i64 y41), (6, (.slice y26 y21 y23)), (34, (.slice t34 t34n t34c)), (35, .int .i64 t35), (36, .int .i64 t36)]) K h
@[irreducible] def B1 (K : EP) : EP := seqK (fun fr h => Lp PP true (cd 244) (fr.mask 120259084355) K h) K
@[irreducible] def K10 (K : EP) : EP := seqK (fun fr h => Jn PP true (cd 1959) (fr.mask 120259084355) (B1 K) h) (B1 K)
@[irreducible] def K6 (K : EP) : EP := blockK 1 (K10 K)
@[irreducible] def K4 (K : EP) : EP := seqK (fun fr h => ev PP true none (cd 15667) (an 15667) (fr.mask 120259084739) (K6 K) h) (K6 K)
@[irreducible] def J2 (y63 : OA) (y39 y48 : Nat) (y41 : Int) (y26 : OA) (y21 y23 : Nat) (i7 xn8 : Int) (t34 : OA) (t34n t34c : Nat) (t35 t36 : Int) (t46 : Bool) (K : EP) (h : Heap) : Prop := Jn PP true (cd 31333) (mkFr 0 156 [(0, (.slice y63 y39 y48)), (1, .int .i64 y41), (6, (.slice y26 y21 y23)), (7, .int .i64 i7), (8, .int .i64 xn8), (34, (.slice t34 t34n t34c)), (35, .int .i64 t35), (36, .int .i64 t36), (46, .bool t46)]) (K4 K) h
@[irreducible] def J3 (y41 : Int) (y26 : OA) (y21 y23 : Nat) (out9 : OA) (y36 y37 : Nat) (Q : VP) (h : Heap) : Prop := Jn PP true (cd 255) (mkFr 0 156 [(1, .int .i64 y41), (6, (.slice y26 y21 y23)), (9, (.slice out9 y36 y37))]) (bodyK PP Tryd.f34 Q) h
@[irreducible] def K7 (Q : VP) : EP := seqK (fun fr h => ev PP true none (cd 8191) (an 8191) (fr.mask 2624) (bodyK PP Tryd.f34 Q) h) (bodyK PP Tryd.f34 Q)
@[irreducible] def K5 (Q : VP) : EP := blockK 2 (K7 Q)
@[irreducible] def L2 (y26 : OA) (y21 y23 : Nat) (out9 : OA) (y36 y37 : Nat) (y42 : Value) (xl11 : OA) (xl11n xl11c : Nat) (t83 t84 : Int) (K : EP) (h : Heap) : Prop := Lp PP true (cd 65524) (mkFr 0 156 [(6, (.slice y26 y21 y23)), (9, (.slice out9 y36 y37)), (10, y42), (11, (.slice xl11 xl11n xl11c)), (83, .int .i64 t83), (84, .int .i64 t84)]) K h
@[irreducible] def B2 (K : EP) : EP := seqK (fun fr h => Lp PP true (cd 65524) (fr.mask 29014219670751100192951872) K h) K
@[irreducible] def J4 (y63 : OA) (y39 y48 : Nat) (y41 : Int) (y26 : OA) (y21 y23 : Nat) (t34 : OA) (t34n t34c : Nat) (t35 t36 : Int) (K : EP) (h : Heap) : Prop := Jn PP true (cd 1959) (mkFr 0 156 [(0, (.slice y63 y39 y48)), (1, .int .i64 y41), (6, (.slice y26 y21 y23)), (34, (.slice t34 t34n t34c)), (35, .int .i64 t35), (36, .int .i64 t36)]) (B1 K) h
@[irreducible] def K16 (K : EP) : EP := seqK (fun fr h => ev PP true none (cd 524199) (an 524199) (fr.mask 29014219670751100192951872) (B2 K) h) (B2 K)
@[irreducible] def K14 (K : EP) : EP := blockK 3 (K16 K)
@[irreducible] def K11 (K : EP) : EP := seqK (fun fr h => ev PP true none (cd 4193587) (an 4193587) (fr.mask 29014219670751100192953920) (K14 K) h) (K14 K)
@[irreducible] def K8 (K : EP) : EP := blockK 4 (K11 K)
@[irreducible] def K12 (Q : VP) : EP := seqK (fun fr h => ev PP true none (cd 16383) (an 16383) (fr.mask 512) (bodyK PP Tryd.f34 Q) h) (bodyK PP Tryd.f34 Q)
@[irreducible] def K9 (Q : VP) : EP := blockK 6 (K12 Q)
@[irreducible] def L3 (y26 : OA) (y21 y23 : Nat) (out9 : OA) (y36 y37 : Nat) (y42 : Value) (xl11 : OA) (xl11n xl11c : Nat) (y81 : OA) (y71 y70 : Nat) (i13 t83 t84 : Int) (K : EP) (h : Heap) : Prop := Lp PP true (cd 33548692) (mkFr 0 156 [(6, (.slice y26 y21 y23)), (9, (.slice out9 y36 y37)), (10, y42), (11, (.slice xl11 xl11n xl11c)), (12, (.slice y81 y71 y70)), (13, .int .i64 i13), (83, .int .i64 t83), (84, .int .i64 t84)]) K h
@[irreducible] def B3 (K : EP) : EP := seqK (fun fr h => Lp PP true (cd 33548692) (fr.mask 29014219670751100192964160) K h) K
@[irreducible] def L4 (out9 : OA) (y36 y37 : Nat) (t134 : OA) (t134n t134c : Nat) (t135 t136 : Int) (K : EP) (h : Heap) : Prop := Lp PP true (cd 131060) (mkFr 0 156 [(9, (.slice out9 y36 y37)), (134, (.slice t134 t134n t134c)), (135, .int .i64 t135), (136, .int .i64 t136)]) K h
@[irreducible] def B4 (K : EP) : EP := seqK (fun fr h => Lp PP true (cd 131060) (fr.mask 152446500380580431631591824129432158732800) K h) K
@[irreducible] def J5 (y26 : OA) (y21 y23 : Nat) (out9 : OA) (y36 y37 : Nat) (y42 : Value) (xl11 : OA) (xl11n xl11c : Nat) (y81 : OA) (y71 y70 : Nat) (i13 t83 t84 : Int) (K : EP) (h : Heap) : Prop := Jn PP true (cd 134194771) (mkFr 0 156 [(6, (.slice y26 y21 y23)), (9, (.slice out9 y36 y37)), (10, y42), (11, (.slice xl11 xl11n xl11c)), (12, (.slice y81 y71 y70)), (13, .int .i64 i13), (83, .int .i64 t83), (84, .int .i64 t84)]) (B3 K) h
@[irreducible] def K17 (K : EP) : EP := seqK (fun fr h => ev PP true none (cd 1048487) (an 1048487) (fr.mask 152446500380580431631591824129432158732800) (B4 K) h) (B4 K)
@[irreducible] def K15 (K : EP) : EP := blockK 7 (K17 K)
@[irreducible] def K13 (K : EP) : EP := blockK 8 (K15 K)
@[irreducible] def L5 (out9 : OA) (y36 y37 : Nat) (t134 : OA) (t134n t134c : Nat) (t135 t136 : Int) (t141 : OA) (t141n t141c : Nat) (t142 t143 : Int) (K : EP) (h : Heap) : Prop := Lp PP true (cd 33551564) (mkFr 0 156 [(9, (.slice out9 y36 y37)), (134, (.slice t134 t134n t134c)), (135, .int .i64 t135), (136, .int .i64 t136), (141, (.slice t141 t141n t141c)), (142, .int .i64 t142), (143, .int .i64 t143)]) K h
theorem J1_of {y63 : OA} {y39 y48 : Nat} {y41 : Int} {t33 : Bool} {Q : VP} {h : Heap} (H :
br t33 (
Q (.tuple #[(.slice none 0 0), .int .i64 1]) h) (
L1 y63 y39 y48 y41 none 0 0 y63 y39 y48 (y39 : Int) 0 (K2 Q) h)) : J1 y63 y39 y48 y41 t33 Q h := by unfold J1; exact Jn.of_txt (an 13) (by kernel_rfl) H
theorem L1_of {y63 : OA} {y39 y48 : Nat} {y41 : Int} {y26 : OA} {y21 y23 : Nat} {t34 : OA} {t34n t34c : Nat} {t35 t36 : Int} {K : EP} {h : Heap} (H :
let t37 : Bool := decide (t36 < t35)
br t37 (
hwp PP (Instr.indexAt y14 (.slice t34 t34n t34c) (.int .i64 t36)) (fun v h1 => ∃ (t39 : Addr), v = (.pointer (some t39)) ∧
∃ (t40 : Int), cellH h1 t39 = some (.int .i64 t40) ∧
let t42 : Bool := decide (t40 < 0)
br t42 (
J2 y63 y39 y48 y41 y26 y21 y23 t36 t40 t34 t34n t34c t35 t36 true K h1) (
let t45 : Bool := decide (t40 > 1000000000000)
J2 y63 y39 y48 y41 y26 y21 y23 t36 t40 t34 t34n t34c t35 t36 t45 K h1)) h) (
K (.exit 0) (X0 y63 y39 y48 y41 y26 y21 y23) h)) : L1 y63 y39 y48 y41 y26 y21 y23 t34 t34n t34c t35 t36 K h := by unfold L1; exact Lp.of_txt (an 244) 120259084355 (by kernel_rfl) H
theorem L1_X0 {Q : VP} {y63 : OA} {y39 y48 : Nat} {y41 : Int} {y26 : OA} {y21 y23 : Nat} {h : Heap} (H :
br (decide (0 ≤ y41)) (
let t60 : Int := sShl .i64 1 y41
let t61 : Bool := decide ((y21 : Int) > t60)
br t61 (
Q (.tuple #[(.slice none 0 0), .int .i64 30]) h) (
hwp PP (Instr.makeSlice y14 (.int .i64 (y39 : Int)) (.int .i64 (y39 : Int))) (fun v h1 => ∃ (t64 : OA) (t64n t64c : Nat), v = (.slice t64 t64n t64c) ∧
let t67 : Bool := ((y21 : Int) == 1)
br t67 (
hwp PP (Instr.indexAt y11 (.slice y26 y21 y23) (.int .i64 0)) (fun v_1 h2 => ∃ (t70 : Addr), v_1 = (.pointer (some t70)) ∧
∃ (t72 : OA) (t72n t72c : Nat), cellH h2 (Addr.add t70 1) = some (.slice t72 t72n t72c) ∧
hwp PP (Instr.indexAt y14 (.slice t72 t72n t72c) (.int .i64 0)) (fun v_2 h3 => ∃ (t73 : Addr), v_2 = (.pointer (some t73)) ∧
∃ (t74 : Int), cellH h3 t73 = some (.int .i64 t74) ∧
hwp PP (Instr.indexAt y14 (.slice t64 t64n t64c) (.int .i64 t74)) (fun v_3 h4 => ∃ (t75 : Addr), v_3 = (.pointer (some t75)) ∧
wr t75 (.int .i64 1) (fun h5 =>
J3 y41 y26 y21 y23 t64 t64n t64c Q h5) h4) h3) h2) h1) (
J3 y41 y26 y21 y23 t64 t64n t64c Q h1)) h)) False) : (K2 Q) (.exit 0) (X0 y63 y39 y48 y41 y26 y21 y23) h := y19 (by kernel_rfl) H
theorem J2_of {y63 : OA} {y39 y48 : Nat} {y41 : Int} {y26 : OA} {y21 y23 : Nat} {i7 xn8 : Int} {t34 : OA} {t34n t34c : Nat} {t35 t36 : Int} {t46 : Bool} {K : EP} {h : Heap} (H :
br t46 (
K .ret (Xret none 0 0 1) h) (
let t48 : Bool := decide (xn8 > 0)
br t48 (
let h1 : Heap := Array.push h (.cells #[.int .i64 i7] y18 (0, 0))
let h2 : Heap := Array.push h1 (.cells #[.int .i64 xn8, (.slice (some ⟨Array.size h, 0, none⟩) 1 1)] y17 (0, 0))
hwp PP (Builtin.append_ #[y11, y11] y11 #[(.slice y26 y21 y23), (.slice (some ⟨Array.size h1, 0, none⟩) 1 1)]) (fun v h3 => ∃ (t55 : OA) (t55n t55c : Nat), v = (.slice t55 t55n t55c) ∧
J4 y63 y39 y48 y41 t55 t55n t55c t34 t34n t34c t35 t36 K h3) h2) (
J4 y63 y39 y48 y41 y26 y21 y23 t34 t34n t34c t35 t36 K h))) : J2 y63 y39 y48 y41 y26 y21 y23 i7 xn8 t34 t34n t34c t35 t36 t46 K h := by unfold J2; exact Jn.of_txt (an 31333) (by kernel_rfl) H
theorem J3_of {y41 : Int} {y26 : OA} {y21 y23 : Nat} {out9 : OA} {y36 y37 : Nat} {Q : VP} {h : Heap} (H :
let t78 : Bool := decide ((y21 : Int) < 2)
br t78 (
Q (.tuple #[(.slice out9 y36 y37), .int .i64 0]) h) (
SpecH PP z344 [(.slice y26 y21 y23), (.func (.func z234) #[] #[])] h (fun v h1 => v = (.tuple #[]) ∧
L2 y26 y21 y23 out9 y36 y37 (.func (.func z234) #[] #[]) none 0 0 y41 0 (K5 Q) h1))) : J3 y41 y26 y21 y23 out9 y36 y37 Q h := by unfold J3; exact Jn.of_txt (an 255) (by kernel_rfl) H
theorem L2_of {y26 : OA} {y21 y23 : Nat} {out9 : OA} {y36 y37 : Nat} {y42 : Value} {xl11 : OA} {xl11n xl11c : Nat} {t83 t84 : Int} {K : EP} {h : Heap} (H :
let t85 : Bool := decide (t84 < t83)
br t85 (
SpecH PP z328 [(.slice y26 y21 y23)] h (fun v h1 => ∃ (t87 : OA) (t87n t87c : Nat), v = (.slice t87 t87n t87c) ∧
L3 y26 y21 y23 out9 y36 y37 y42 xl11 xl11n xl11c t87 t87n t87c 0 t83 t84 (K8 K) h1)) (
K (.exit 2) (X2 y26 y21 y23 out9 y36 y37 xl11 xl11n xl11c) h)) : L2 y26 y21 y23 out9 y36 y37 y42 xl11 xl11n xl11c t83 t84 K h := by unfold L2; exact Lp.of_txt (an 65524) 29014219670751100192951872 (by kernel_rfl) H
theorem L2_X2 {Q : VP} {y26 : OA} {y21 y23 : Nat} {out9 : OA} {y36 y37 : Nat} {xl11 : OA} {xl11n xl11c : Nat} {h : Heap} (H :
let t132 : Int := IntKind.i64.wrap (2 * (y21 : Int))
let t133 : Int := IntKind.i64.wrap (t132 - 2)
hwp PP (Instr.sliceAt y11 (.slice xl11 xl11n xl11c) none (some (.int .i64 t133)) none) (fun v h1 => ∃ (t134 : OA) (t134n t134c : Nat), v = (.slice t134 t134n t134c) ∧
L4 out9 y36 y37 t134 t134n t134c (t134n : Int) 0 (K9 Q) h1) h) : (K5 Q) (.exit 2) (X2 y26 y21 y23 out9 y36 y37 xl11 xl11n xl11c) h := y19 (by kernel_rfl) H
theorem J4_of {y63 : OA} {y39 y48 : Nat} {y41 : Int} {y26 : OA} {y21 y23 : Nat} {t34 : OA} {t34n t34c : Nat} {t35 t36 : Int} {K : EP} {h : Heap} (H :
let t56 : Int := IntKind.i64.wrap (t36 + 1)
L1 y63 y39 y48 y41 y26 y21 y23 t34 t34n t34c t35 t56 K h) : J4 y63 y39 y48 y41 y26 y21 y23 t34 t34n t34c t35 t36 K h := by unfold J4; exact Jn.of_txt (an 1959) (by kernel_rfl) H
theorem L3_of {y26 : OA} {y21 y23 : Nat} {out9 : OA} {y36 y37 : Nat} {y42 : Value} {xl11 : OA} {xl11n xl11c : Nat} {y81 : OA} {y71 y70 : Nat} {i13 t83 t84 : Int} {K : EP} {h : Heap} (H :
let t89 : Int := IntKind.i64.wrap (i13 + 1)
let t92 : Bool := decide (t89 < (xl11n : Int))
br t92 (
hwp PP (Instr.indexAt y11 (.slice xl11 xl11n xl11c) (.int .i64 i13)) (fun v h1 => ∃ (t98 : Addr), v = (.pointer (some t98)) ∧
let t103 : Int := IntKind.i64.wrap (i13 + 1)
hwp PP (Instr.indexAt y11 (.slice xl11 xl11n xl11c) (.int .i64 t103)) (fun v_1 h2 => ∃ (t104 : Addr), v_1 = (.pointer (some t104)) ∧
hwp PP (Instr.indexAt y11 (.slice xl11 xl11n xl11c) (.int .i64 i13)) (fun v_2 h3 => ∃ (t110 : Addr), v_2 = (.pointer (some t110)) ∧
∃ (t112 : OA) (t112n t112c : Nat), cellH h3 (Addr.add t110 1) = some (.slice t112 t112n t112c) ∧
let t115 : Int := IntKind.i64.wrap (i13 + 1)
hwp PP (Instr.indexAt y11 (.slice xl11 xl11n xl11c) (.int .i64 t115)) (fun v_3 h4 => ∃ (t116 : Addr), v_3 = (.pointer (some t116)) ∧
∃ (t118 : OA) (t118n t118c : Nat), cellH h4 (Addr.add t116 1) = some (.slice t118 t118n t118c) ∧
(
∃ (t100_7 : Int), cellH h4 t98 = some (.int .i64 t100_7) ∧
(
∃ (t106_7 : Int), cellH h4 t104 = some (.int .i64 t106_7) ∧
let t107_10 : Int := IntKind.i64.wrap (t100_7 + t106_7)
let h39 : Heap := Array.push h4 (.cells #[(.slice t112 t112n t112c), (.slice t118 t118n t118c)] y14 (0, 0))
SpecH PP z332 [(.slice (some ⟨Array.size h4, 0, none⟩) 2 2)] h39 (fun v_24 h40 => ∃ (t120_10 : OA) (t120_10n t120_10c : Nat), v_24 = (.slice t120_10 t120_10n t120_10c) ∧
let h41 : Heap := Array.push h40 (.cells #[.int .i64 t107_10, (.slice t120_10 t120_10n t120_10c)] y17 (0, 0))
hwp PP (Builtin.append_ #[y11, y11] y11 #[(.slice y81 y71 y70), (.slice (some ⟨Array.size h40, 0, none⟩) 1 1)]) (fun v_25 h42 => ∃ (t123_10 : OA) (t123_10n t123_10c : Nat), v_25 = (.slice t123_10 t123_10n t123_10c) ∧
J5 y26 y21 y23 out9 y36 y37 y42 xl11 xl11n xl11c t123_10 t123_10n t123_10c i13 t83 t84 K h42) h41)) ∧
(
let h32 : Heap := Array.push h4 (.cells #[(.slice t112 t112n t112c), (.slice t118 t118n t118c)] y14 (0, 0))
(
∃ (t106_6 : Int), cellH h32 t104 = some (.int .i64 t106_6) ∧
let t107_9 : Int := IntKind.i64.wrap (t100_7 + t106_6)
SpecH PP z332 [(.slice (some ⟨Array.size h4, 0, none⟩) 2 2)] h32 (fun v_22 h36 => ∃ (t120_9 : OA) (t120_9n t120_9c : Nat), v_22 = (.slice t120_9 t120_9n t120_9c) ∧
let h37 : Heap := Array.push h36 (.cells #[.int .i64 t107_9, (.slice t120_9 t120_9n t120_9c)] y17 (0, 0))
hwp PP (Builtin.append_ #[y11, y11] y11 #[(.slice y81 y71 y70), (.slice (some ⟨Array.size h36, 0, none⟩) 1 1)]) (fun v_23 h38 => ∃ (t123_9 : OA) (t123_9n t123_9c : Nat), v_23 = (.slice t123_9 t123_9n t123_9c) ∧
J5 y26 y21 y23 out9 y36 y37 y42 xl11 xl11n xl11c t123_9 t123_9n t123_9c i13 t83 t84 K h38) h37)) ∧
(
SpecH PP z332 [(.slice (some ⟨Array.size h4, 0, none⟩) 2 2)] h32 (fun v_20 h33 => ∃ (t120_8 : OA) (t120_8n t120_8c : Nat), v_20 = (.slice t120_8 t120_8n t120_8c) ∧
∃ (t106_5 : Int), cellH h33 t104 = some (.int .i64 t106_5) ∧
let t107_8 : Int := IntKind.i64.wrap (t100_7 + t106_5)
let h34 : Heap := Array.push h33 (.cells #[.int .i64 t107_8, (.slice t120_8 t120_8n t120_8c)] y17 (0, 0))
hwp PP (Builtin.append_ #[y11, y11] y11 #[(.slice y81 y71 y70), (.slice (some ⟨Array.size h33, 0, none⟩) 1 1)]) (fun v_21 h35 => ∃ (t123_8 : OA) (t123_8n t123_8c : Nat), v_21 = (.slice t123_8 t123_8n t123_8c) ∧
J5 y26 y21 y23 out9 y36 y37 y42 xl11 xl11n xl11c t123_8 t123_8n t123_8c i13 t83 t84 K h35) h34)) ∧
True) ∧
True) ∧
(
∃ (t106_4 : Int), cellH h4 t104 = some (.int .i64 t106_4) ∧
(
∃ (t100_6 : Int), cellH h4 t98 = some (.int .i64 t100_6) ∧
let t107_7 : Int := IntKind.i64.wrap (t100_6 + t106_4)
let h28 : Heap := Array.push h4 (.cells #[(.slice t112 t112n t112c), (.slice t118 t118n t118c)] y14 (0, 0))
SpecH PP z332 [(.slice (some ⟨Array.size h4, 0, none⟩) 2 2)] h28 (fun v_18 h29 => ∃ (t120_7 : OA) (t120_7n t120_7c : Nat), v_18 = (.slice t120_7 t120_7n t120_7c) ∧
let h30 : Heap := Array.push h29 (.cells #[.int .i64 t107_7, (.slice t120_7 t120_7n t120_7c)] y17 (0, 0))
hwp PP (Builtin.append_ #[y11, y11] y11 #[(.slice y81 y71 y70), (.slice (some ⟨Array.size h29, 0, none⟩) 1 1)]) (fun v_19 h31 => ∃ (t123_7 : OA) (t123_7n t123_7c : Nat), v_19 = (.slice t123_7 t123_7n t123_7c) ∧
J5 y26 y21 y23 out9 y36 y37 y42 xl11 xl11n xl11c t123_7 t123_7n t123_7c i13 t83 t84 K h31) h30)) ∧
(
let h21 : Heap := Array.push h4 (.cells #[(.slice t112 t112n t112c), (.slice t118 t118n t118c)] y14 (0, 0))
(
∃ (t100_5 : Int), cellH h21 t98 = some (.int .i64 t100_5) ∧
let t107_6 : Int := IntKind.i64.wrap (t100_5 + t106_4)
SpecH PP z332 [(.slice (some ⟨Array.size h4, 0, none⟩) 2 2)] h21 (fun v_16 h25 => ∃ (t120_6 : OA) (t120_6n t120_6c : Nat), v_16 = (.slice t120_6 t120_6n t120_6c) ∧
let h26 : Heap := Array.push h25 (.cells #[.int .i64 t107_6, (.slice t120_6 t120_6n t120_6c)] y17 (0, 0))
hwp PP (Builtin.append_ #[y11, y11] y11 #[(.slice y81 y71 y70), (.slice (some ⟨Array.size h25, 0, none⟩) 1 1)]) (fun v_17 h27 => ∃ (t123_6 : OA) (t123_6n t123_6c : Nat), v_17 = (.slice t123_6 t123_6n t123_6c) ∧
J5 y26 y21 y23 out9 y36 y37 y42 xl11 xl11n xl11c t123_6 t123_6n t123_6c i13 t83 t84 K h27) h26)) ∧
(
SpecH PP z332 [(.slice (some ⟨Array.size h4, 0, none⟩) 2 2)] h21 (fun v_14 h22 => ∃ (t120_5 : OA) (t120_5n t120_5c : Nat), v_14 = (.slice t120_5 t120_5n t120_5c) ∧
∃ (t100_4 : Int), cellH h22 t98 = some (.int .i64 t100_4) ∧
let t107_5 : Int := IntKind.i64.wrap (t100_4 + t106_4)
let h23 : Heap := Array.push h22 (.cells #[.int .i64 t107_5, (.slice t120_5 t120_5n t120_5c)] y17 (0, 0))
hwp PP (Builtin.append_ #[y11, y11] y11 #[(.slice y81 y71 y70), (.slice (some ⟨Array.size h22, 0, none⟩) 1 1)]) (fun v_15 h24 => ∃ (t123_5 : OA) (t123_5n t123_5c : Nat), v_15 = (.slice t123_5 t123_5n t123_5c) ∧
J5 y26 y21 y23 out9 y36 y37 y42 xl11 xl11n xl11c t123_5 t123_5n t123_5c i13 t83 t84 K h24) h23)) ∧
True) ∧
True) ∧
(
let h5 : Heap := Array.push h4 (.cells #[(.slice t112 t112n t112c), (.slice t118 t118n t118c)] y14 (0, 0))
(
∃ (t100_3 : Int), cellH h5 t98 = some (.int .i64 t100_3) ∧
(
∃ (t106_3 : Int), cellH h5 t104 = some (.int .i64 t106_3) ∧
let t107_4 : Int := IntKind.i64.wrap (t100_3 + t106_3)
SpecH PP z332 [(.slice (some ⟨Array.size h4, 0, none⟩) 2 2)] h5 (fun v_12 h18 => ∃ (t120_4 : OA) (t120_4n t120_4c : Nat), v_12 = (.slice t120_4 t120_4n t120_4c) ∧
let h19 : Heap := Array.push h18 (.cells #[.int .i64 t107_4, (.slice t120_4 t120_4n t120_4c)] y17 (0, 0))
hwp PP (Builtin.append_ #[y11, y11] y11 #[(.slice y81 y71 y70), (.slice (some ⟨Array.size h18, 0, none⟩) 1 1)]) (fun v_13 h20 => ∃ (t123_4 : OA) (t123_4n t123_4c : Nat), v_13 = (.slice t123_4 t123_4n t123_4c) ∧
J5 y26 y21 y23 out9 y36 y37 y42 xl11 xl11n xl11c t123_4 t123_4n t123_4c i13 t83 t84 K h20) h19)) ∧
(
SpecH PP z332 [(.slice (some ⟨Array.size h4, 0, none⟩) 2 2)] h5 (fun v_10 h15 => ∃ (t120_3 : OA) (t120_3n t120_3c : Nat), v_10 = (.slice t120_3 t120_3n t120_3c) ∧
∃ (t106_2 : Int), cellH h15 t104 = some (.int .i64 t106_2) ∧
let t107_3 : Int := IntKind.i64.wrap (t100_3 + t106_2)
let h16 : Heap := Array.push h15 (.cells #[.int .i64 t107_3, (.slice t120_3 t120_3n t120_3c)] y17 (0, 0))
hwp PP (Builtin.append_ #[y11, y11] y11 #[(.slice y81 y71 y70), (.slice (some ⟨Array.size h15, 0, none⟩) 1 1)]) (fun v_11 h17 => ∃ (t123_3 : OA) (t123_3n t123_3c : Nat), v_11 = (.slice t123_3 t123_3n t123_3c) ∧
J5 y26 y21 y23 out9 y36 y37 y42 xl11 xl11n xl11c t123_3 t123_3n t123_3c i13 t83 t84 K h17) h16)) ∧
True) ∧
(
∃ (t106_1 : Int), cellH h5 t104 = some (.int .i64 t106_1) ∧
(
∃ (t100_2 : Int), cellH h5 t98 = some (.int .i64 t100_2) ∧
let t107_2 : Int := IntKind.i64.wrap (t100_2 + t106_1)
SpecH PP z332 [(.slice (some ⟨Array.size h4, 0, none⟩) 2 2)] h5 (fun v_8 h12 => ∃ (t120_2 : OA) (t120_2n t120_2c : Nat), v_8 = (.slice t120_2 t120_2n t120_2c) ∧
let h13 : Heap := Array.push h12 (.cells #[.int .i64 t107_2, (.slice t120_2 t120_2n t120_2c)] y17 (0, 0))
hwp PP (Builtin.append_ #[y11, y11] y11 #[(.slice y81 y71 y70), (.slice (some ⟨Array.size h12, 0, none⟩) 1 1)]) (fun v_9 h14 => ∃ (t123_2 : OA) (t123_2n t123_2c : Nat), v_9 = (.slice t123_2 t123_2n t123_2c) ∧
J5 y26 y21 y23 out9 y36 y37 y42 xl11 xl11n xl11c t123_2 t123_2n t123_2c i13 t83 t84 K h14) h13)) ∧
(
SpecH PP z332 [(.slice (some ⟨Array.size h4, 0, none⟩) 2 2)] h5 (fun v_6 h9 => ∃ (t120_1 : OA) (t120_1n t120_1c : Nat), v_6 = (.slice t120_1 t120_1n t120_1c) ∧
∃ (t100_1 : Int), cellH h9 t98 = some (.int .i64 t100_1) ∧
let t107_1 : Int := IntKind.i64.wrap (t100_1 + t106_1)
let h10 : Heap := Array.push h9 (.cells #[.int .i64 t107_1, (.slice t120_1 t120_1n t120_1c)] y17 (0, 0))
hwp PP (Builtin.append_ #[y11, y11] y11 #[(.slice y81 y71 y70), (.slice (some ⟨Array.size h9, 0, none⟩) 1 1)]) (fun v_7 h11 => ∃ (t123_1 : OA) (t123_1n t123_1c : Nat), v_7 = (.slice t123_1 t123_1n t123_1c) ∧
J5 y26 y21 y23 out9 y36 y37 y42 xl11 xl11n xl11c t123_1 t123_1n t123_1c i13 t83 t84 K h11) h10)) ∧
True) ∧
(
SpecH PP z332 [(.slice (some ⟨Array.size h4, 0, none⟩) 2 2)] h5 (fun v_4 h6 => ∃ (t120 : OA) (t120n t120c : Nat), v_4 = (.slice t120 t120n t120c) ∧
∃ (t100 : Int), cellH h6 t98 = some (.int .i64 t100) ∧
∃ (t106 : Int), cellH h6 t104 = some (.int .i64 t106) ∧
let t107 : Int := IntKind.i64.wrap (t100 + t106)
let h7 : Heap := Array.push h6 (.cells #[.int .i64 t107, (.slice t120 t120n t120c)] y17 (0, 0))
hwp PP (Builtin.append_ #[y11, y11] y11 #[(.slice y81 y71 y70), (.slice (some ⟨Array.size h6, 0, none⟩) 1 1)]) (fun v_5 h8 => ∃ (t123 : OA) (t123n t123c : Nat), v_5 = (.slice t123 t123n t123c) ∧
J5 y26 y21 y23 out9 y36 y37 y42 xl11 xl11n xl11c t123 t123n t123c i13 t83 t84 K h8) h7)) ∧
True) ∧
True) h3) h2) h1) h) (
K (.exit 4) (X4 y26 y21 y23 out9 y36 y37 y42 y81 y71 y70 t83 t84) h)) : L3 y26 y21 y23 out9 y36 y37 y42 xl11 xl11n xl11c y81 y71 y70 i13 t83 t84 K h := by unfold L3; exact Lp.of_txt (an 33548692) 29014219670751100192964160 (by kernel_rfl) H
theorem L3_X4 {K : EP} {y26 : OA} {y21 y23 : Nat} {out9 : OA} {y36 y37 : Nat} {y42 : Value} {y81 : OA} {y71 y70 : Nat} {t83 t84 : Int} {h : Heap} (H :
SpecH PP z344 [(.slice y81 y71 y70), y42] h (fun v h1 => v = (.tuple #[]) ∧
let t128 : Int := IntKind.i64.wrap (t84 + 1)
L2 y26 y21 y23 out9 y36 y37 y42 y81 y71 y70 t83 t128 K h1)) : (K8 K) (.exit 4) (X4 y26 y21 y23 out9 y36 y37 y42 y81 y71 y70 t83 t84) h := y19 (by kernel_rfl) H
theorem L4_of {out9 : OA} {y36 y37 : Nat} {t134 : OA} {t134n t134c : Nat} {t135 t136 : Int} {K : EP} {h : Heap} (H :
let t137 : Bool := decide (t136 < t135)
br t137 (
hwp PP (Instr.indexAt y11 (.slice t134 t134n t134c) (.int .i64 t136)) (fun v h1 => ∃ (t138 : Addr), v = (.pointer (some t138)) ∧
∃ (t139f0 : Int) (t139f1 : OA) (t139f1n t139f1c : Nat), rdCells h1 t138 0 [.int .i64 t139f0, (.slice t139f1 t139f1n t139f1c)] ∧
let p15 : Addr := ⟨Array.size h1, 0, none⟩
let h2 : Heap := Array.push h1 (.cells #[.int .i64 0, (.slice none 0 0)] y17 (0, 0))
wrCells p15 0 [.int .i64 t139f0, (.slice t139f1 t139f1n t139f1c)] (fun h3 =>
∃ (t141 : OA) (t141n t141c : Nat), cellH h3 (Addr.add p15 1) = some (.slice t141 t141n t141c) ∧
L5 out9 y36 y37 t134 t134n t134c t135 t136 t141 t141n t141c (t141n : Int) 0 (K13 K) h3) h2) h) (
K (.exit 6) (X6 out9 y36 y37) h)) : L4 out9 y36 y37 t134 t134n t134c t135 t136 K h := by unfold L4; exact Lp.of_txt (an 131060) 152446500380580431631591824129432158732800 (by kernel_rfl) H
theorem L4_X6 {Q : VP} {out9 : OA} {y36 y37 : Nat} {h : Heap} (H :
Q (.tuple #[(.slice out9 y36 y37), .int .i64 0]) h) : (K9 Q) (.exit 6) (X6 out9 y36 y37) h := y19 (by kernel_rfl) H
theorem J5_of {y26 : OA} {y21 y23 : Nat} {out9 : OA} {y36 y37 : Nat} {y42 : Value} {xl11 : OA} {xl11n xl11c : Nat} {y81 : OA} {y71 y70 : Nat} {i13 t83 t84 : Int} {K : EP} {h : Heap} (H :
let t94 : Int := IntKind.i64.wrap (i13 + 2)
L3 y26 y21 y23 out9 y36 y37 y42 xl11 xl11n xl11c y81 y71 y70 t94 t83 t84 K h) : J5 y26 y21 y23 out9 y36 y37 y42 xl11 xl11n xl11c y81 y71 y70 i13 t83 t84 K h := by unfold J5; exact Jn.of_txt (an 134194771) (by kernel_rfl) H
theorem L5_of {out9 : OA} {y36 y37 : Nat} {t134 : OA} {t134n t134c : Nat} {t135 t136 : Int} {t141 : OA} {t141n t141c : Nat} {t142 t143 : Int} {K : EP} {h : Heap} (H :
let t144 : Bool := decide (t143 < t142)
br t144 (
hwp PP (Instr.indexAt y14 (.slice t141 t141n t141c) (.int .i64 t143)) (fun v h1 => ∃ (t145 : Addr), v = (.pointer (some t145)) ∧
∃ (t146 : Int), cellH h1 t145 = some (.int .i64 t146) ∧
hwp PP (Instr.indexAt y14 (.slice out9 y36 y37) (.int .i64 t146)) (fun v_1 h2 => ∃ (t149 : Addr), v_1 = (.pointer (some t149)) ∧
∃ (t150 : Int), cellH h2 t149 = some (.int .i64 t150) ∧
let t151 : Int := IntKind.i64.wrap (t150 + 1)
hwp PP (Instr.indexAt y14 (.slice out9 y36 y37) (.int .i64 t146)) (fun v_2 h3 => ∃ (t152 : Addr), v_2 = (.pointer (some t152)) ∧
wr t152 (.int .i64 t151) (fun h4 =>
let t153 : Int := IntKind.i64.wrap (t143 + 1)
L5 out9 y36 y37 t134 t134n t134c t135 t136 t141 t141n t141c t142 t153 K h4) h3) h2) h1) h) (
K (.exit 8) (X8 out9 y36 y37 t134 t134n t134c t135 t136) h)) : L5 out9 y36 y37 t134 t134n t134c t135 t136 t141 t141n t141c t142 t143 K h := by unfold L5; exact Lp.of_txt (an 33551564) 19665598549094875680475345312696748476465664 (by kernel_rfl) H
theorem L5_X8 {K : EP} {out9 : OA} {y36 y37 : Nat} {t134 : OA} {t134n t134c : Nat} {t135 t136 : Int} {h : Heap} (H :
let t154 : Int := IntKind.i64.wrap (t136 + 1)
L4 out9 y36 y37 t134 t134n t134c t135 t154 K h) : (K13 K) (.exit 8) (X8 out9 y36 y37 t134 t134n t134c t135 t136) h := y19 (by kernel_rfl) H
theorem door {y63 : OA} {y39 y48 : Nat} {y41 : Int} {Q : VP} {h : Heap} (H :
let t20 : Bool := ((y39 : Int) == 0)
br t20 (
J1 y63 y39 y48 y41 true Q h) (
let t24 : Bool := decide ((y39 : Int) > 288)
br t24 (
J1 y63 y39 y48 y41 true Q h) (
let t28 : Bool := decide (y41 < 1)
br t28 (
J1 y63 y39 y48 y41 true Q h) (
let t32 : Bool := decide (y41 > 15)
J1 y63 y39 y48 y41 t32 Q h)))) : SpecH PP z232 [(.slice y63 y39 y48), .int .i64 y41] h Q :=
  y12 (ann := ann) Tryd.func34 rfl rfl (by kernel_rfl) H
end z231
namespace z283
def ann : Ann := (.seq 7 (rg 1 7) (.seq 7 (.block (.seq 2097159 (rg 3 2097159) (.cond (.seq 64 (rg 1 64) (.exit 64)) (.seq 16777223 (rg 29 16777223) (.join (.cond (.seq 64 (rg 1 64) (.exit 64)) .leaf)))))) (.seq 135 (rg 10 135) (.seq 647 (rg 2 647) (.seq 647 (.seq 32281802128991715975 (rg 3 32281802128991715975) (.block (.loop 32281802128991715975 (.seq 69175290276410819207 (rg 1 69175290276410819207) (.seq 32281802128991715975 (.cond .leaf (.exit 647)) (.seq 32281802128991715975 (.block (.seq 32281802128991718023 (rg 4 32281802128991718023) (rg 8 32281802128991715975))) (rg 2 32281802128991715975))))))) (.seq 4231 (rg 7 4231) (.seq 20615 (rg 7 20615) (.seq 86151 (rg 1 86151) (.seq 86151 (.block (.loop 86151 (.seq 86151 (.seq 158456325028528675187087986823 (rg 12 158456325028528675187087986823) (.cond .leaf (.exit 86151))) (.block (rg 3 86151))))) (.seq 86149 (rg 6 86149) (.seq 86145 (rg 6 86145) (.seq 86145 (rg 5 86145) (.seq 20609 (.seq 2326148992623602777581662355490623617 (rg 4 2326148992623602777581662355490623617) (.block (.loop 2326148992623602777581662355490623617 (.seq 4984604984193434523389276476051312769 (rg 1 4984604984193434523389276476051312769) (.seq 2326148992623602777581662355490623617 (.cond .leaf (.exit 20609)) (.seq 2326148992623602777581662355490623617 (.block (.seq 2326148992623602777581662355490885761 (rg 3 2326148992623602777581662355490885761) (rg 7 2326148992623602777581662355490623617))) (rg 2 2326148992623602777581662355490623617))))))) (.seq 0 (.seq 38111625095145107907897956032358039703553 (rg 3 38111625095145107907897956032358039703553) (.block (.loop 38111625095145107907897956032358039703553 (.seq 81667768061025231231209905783624370769921 (rg 1 81667768061025231231209905783624370769921) (.seq 38111625095145107907897956032358039703553 (.cond .leaf (.exit 0)) (.seq 38111625095145107907897956032358039703553 (.block (.seq 38111625095145107907897956032358040752129 (rg 4 38111625095145107907897956032358040752129) (.seq 38111625095145107907897956032358040752129 (rg 12 38111625095145107907897956032358040752129) (rg 9 38111625095145107907897956032358039703553)))) (rg 2 38111625095145107907897956032358039703553))))))) (.seq 64 (rg 1 64) (.exit 64))))))))))))))))
noncomputable abbrev cd := cdF Tryd.f35
abbrev an := anF ann
@[irreducible] def X1 (w0 lit1 : OA) (y72 y79 : Nat) (y74 : OA) (y52 y59 : Nat) (y75 : OA) (y60 y62 : Nat) (counts9 : OA) (y127 y128 : Nat) : Fr := (mkFr 0 160 [(0, .pointer w0), (1, (.slice lit1 y72 y79)), (2, (.slice y74 y52 y59)), (7, (.slice y75 y60 y62)), (9, (.slice counts9 y127 y128))])
@[irreducible] def X3 (w0 lit1 : OA) (y72 y79 : Nat) (y74 : OA) (y52 y59 : Nat) (y75 : OA) (y60 y62 : Nat) (y69 : OA) (y58 y57 : Nat) (y85 : OA) (y77 y76 : Nat) (many16 : Int) : Fr := (mkFr 0 160 [(0, .pointer w0), (1, (.slice lit1 y72 y79)), (2, (.slice y74 y52 y59)), (7, (.slice y75 y60 y62)), (12, (.slice y69 y58 y57)), (14, (.slice y85 y77 y76)), (16, .int .i64 many16)])
@[irreducible] def X5 (w0 y75 : OA) (y60 y62 : Nat) (y69 : OA) (y58 y57 : Nat) (y85 : OA) (y77 y76 : Nat) : Fr := (mkFr 0 160 [(0, .pointer w0), (7, (.slice y75 y60 y62)), (12, (.slice y69 y58 y57)), (14, (.slice y85 y77 y76))])
@[irreducible] def X7  : Fr := (mkFr 0 160 [])
@[irreducible] def K3 (Q : VP) : EP := seqK (fun fr h => ev PP true none (cd 7) (an 7) (fr.mask 7) (bodyK PP Tryd.f35 Q) h) (bodyK PP Tryd.f35 Q)
@[irreducible] def K1 (Q : VP) : EP := blockK 0 (K3 Q)
@[irreducible] def J1 (w0 lit1 : OA) (y72 y79 : Nat) (y74 : OA) (y52 y59 : Nat) (t24 : Bool) (Q : VP) (h : Heap) : Prop := Jn PP true (cd 103) (mkFr 0 160 [(0, .pointer w0), (1, (.slice lit1 y72 y79)), (2, (.slice y74 y52 y59)), (24, .bool t24)]) (K1 Q) h
@[irreducible] def K4 (Q : VP) : EP := seqK (fun fr h => ev PP true none (cd 63) (an 63) (fr.mask 647) (bodyK PP Tryd.f35 Q) h) (bodyK PP Tryd.f35 Q)
@[irreducible] def K2 (Q : VP) : EP := blockK 1 (K4 Q)
@[irreducible] def L1 (w0 lit1 : OA) (y72 y79 : Nat) (y74 : OA) (y52 y59 : Nat) (y75 : OA) (y60 y62 : Nat) (counts9 : OA) (y127 y128 : Nat) (t62 : OA) (t62n t62c : Nat) (t63 t64 : Int) (K : EP) (h : Heap) : Prop := Lp PP true (cd 500) (mkFr 0 160 [(0, .pointer w0), (1, (.slice lit1 y72 y79)), (2, (.slice y74 y52 y59)), (7, (.slice y75 y60 y62)), (9, (.slice counts9 y127 y128)), (62, (.slice t62 t62n t62c)), (63, .int .i64 t63), (64, .int .i64 t64)]) K h
@[irreducible] def K6 (Q : VP) : EP := seqK (fun fr h => ev PP true none (cd 1023) (an 1023) (fr.mask 86151) (bodyK PP Tryd.f35 Q) h) (bodyK PP Tryd.f35 Q)
@[irreducible] def K5 (Q : VP) : EP := blockK 3 (K6 Q)
@[irreducible] def L2 (w0 lit1 : OA) (y72 y79 : Nat) (y74 : OA) (y52 y59 : Nat) (y75 : OA) (y60 y62 : Nat) (y69 : OA) (y58 y57 : Nat) (y85 : OA) (y77 y76 : Nat) (many16 : Int) (K : EP) (h : Heap) : Prop := Lp PP true (cd 4088) (mkFr 0 160 [(0, .pointer w0), (1, (.slice lit1 y72 y79)), (2, (.slice y74 y52 y59)), (7, (.slice y75 y60 y62)), (12, (.slice y69 y58 y57)), (14, (.slice y85 y77 y76)), (16, .int .i64 many16)]) K h
@[irreducible] def K8 (Q : VP) : EP := seqK (fun fr h => ev PP true none (cd 16383) (an 16383) (fr.mask 20609) (bodyK PP Tryd.f35 Q) h) (bodyK PP Tryd.f35 Q)
@[irreducible] def K7 (Q : VP) : EP := blockK 5 (K8 Q)
@[irreducible] def L3 (w0 y75 : OA) (y60 y62 : Nat) (y69 : OA) (y58 y57 : Nat) (y85 : OA) (y77 y76 : Nat) (t118 : OA) (t118n t118c : Nat) (t119 t120 : Int) (K : EP) (h : Heap) : Prop := Lp PP true (cd 131060) (mkFr 0 160 [(0, .pointer w0), (7, (.slice y75 y60 y62)), (12, (.slice y69 y58 y57)), (14, (.slice y85 y77 y76)), (118, (.slice t118 t118n t118c)), (119, .int .i64 t119), (120, .int .i64 t120)]) K h
@[irreducible] def K10 (Q : VP) : EP := seqK (fun fr h => ev PP true none (cd 32767) (an 32767) (fr.mask 0) (bodyK PP Tryd.f35 Q) h) (bodyK PP Tryd.f35 Q)
@[irreducible] def K9 (Q : VP) : EP := blockK 7 (K10 Q)
@[irreducible] def L4 (w0 y69 : OA) (y58 y57 : Nat) (y85 : OA) (y77 y76 : Nat) (t132 : OA) (t132n t132c : Nat) (t133 t134 : Int) (K : EP) (h : Heap) : Prop := Lp PP true (cd 262132) (mkFr 0 160 [(0, .pointer w0), (12, (.slice y69 y58 y57)), (14, (.slice y85 y77 y76)), (132, (.slice t132 t132n t132c)), (133, .int .i64 t133), (134, .int .i64 t134)]) K h
theorem J1_of {w0 lit1 : OA} {y72 y79 : Nat} {y74 : OA} {y52 y59 : Nat} {t24 : Bool} {Q : VP} {h : Heap} (H :
br t24 (
Q (.int .i64 1) h) (
let h1 : Heap := Array.push h (.cells #[(.slice lit1 y72 y79), (.slice y74 y52 y59)] y14 (0, 0))
SpecH PP z332 [(.slice (some ⟨Array.size h, 0, none⟩) 2 2)] h1 (fun v h2 => ∃ (t57 : OA) (t57n t57c : Nat), v = (.slice t57 t57n t57c) ∧
SpecH PP z278 [(.slice t57 t57n t57c)] h2 (fun v_1 h3 => ∃ (t58 : OA) (t58n t58c : Nat) (t58_1 : Int), v_1 = (.tuple #[(.slice t58 t58n t58c), .int .i64 t58_1]) ∧
hwp PP (Instr.makeSlice y14 (.int .i64 19) (.int .i64 19)) (fun v_2 h4 => ∃ (t61 : OA) (t61n t61c : Nat), v_2 = (.slice t61 t61n t61c) ∧
L1 w0 lit1 y72 y79 y74 y52 y59 t58 t58n t58c t61 t61n t61c t58 t58n t58c (t58n : Int) 0 (K2 Q) h4) h3)))) : J1 w0 lit1 y72 y79 y74 y52 y59 t24 Q h := by unfold J1; exact Jn.of_txt (an 103) (by kernel_rfl) H
theorem L1_of {w0 lit1 : OA} {y72 y79 : Nat} {y74 : OA} {y52 y59 : Nat} {y75 : OA} {y60 y62 : Nat} {counts9 : OA} {y127 y128 : Nat} {t62 : OA} {t62n t62c : Nat} {t63 t64 : Int} {K : EP} {h : Heap} (H :
let t65 : Bool := decide (t64 < t63)
br t65 (
hwp PP (Instr.indexAt y54 (.slice t62 t62n t62c) (.int .i64 t64)) (fun v h1 => ∃ (t66 : Addr), v = (.pointer (some t66)) ∧
∃ (t67f0 t67f1 : Int), rdCells h1 t66 0 [.int .i64 t67f0, .int .i64 t67f1] ∧
let s11 : Addr := ⟨Array.size h1, 0, none⟩
let h2 : Heap := Array.push h1 (.cells #[.int .i64 0, .int .i64 0] y73 (0, 0))
wrCells s11 0 [.int .i64 t67f0, .int .i64 t67f1] (fun h3 =>
∃ (t70 : Int), cellH h3 s11 = some (.int .i64 t70) ∧
hwp PP (Instr.indexAt y14 (.slice counts9 y127 y128) (.int .i64 t70)) (fun v_1 h4 => ∃ (t71 : Addr), v_1 = (.pointer (some t71)) ∧
∃ (t72 : Int), cellH h4 t71 = some (.int .i64 t72) ∧
let t73 : Int := IntKind.i64.wrap (t72 + 1)
hwp PP (Instr.indexAt y14 (.slice counts9 y127 y128) (.int .i64 t70)) (fun v_2 h5 => ∃ (t74 : Addr), v_2 = (.pointer (some t74)) ∧
wr t74 (.int .i64 t73) (fun h6 =>
let t75 : Int := IntKind.i64.wrap (t64 + 1)
L1 w0 lit1 y72 y79 y74 y52 y59 y75 y60 y62 counts9 y127 y128 t62 t62n t62c t63 t75 K h6) h5) h4) h3) h2) h) (
K (.exit 1) (X1 w0 lit1 y72 y79 y74 y52 y59 y75 y60 y62 counts9 y127 y128) h)) : L1 w0 lit1 y72 y79 y74 y52 y59 y75 y60 y62 counts9 y127 y128 t62 t62n t62c t63 t64 K h := by unfold L1; exact Lp.of_txt (an 500) 32281802128991715975 (by kernel_rfl) H
theorem L1_X1 {Q : VP} {w0 lit1 : OA} {y72 y79 : Nat} {y74 : OA} {y52 y59 : Nat} {y75 : OA} {y60 y62 : Nat} {counts9 : OA} {y127 y128 : Nat} {h : Heap} (H :
SpecH PP z232 [(.slice counts9 y127 y128), .int .i64 7] h (fun v h1 => ∃ (t78 : OA) (t78n t78c : Nat) (t78_1 : Int), v = (.tuple #[(.slice t78 t78n t78c), .int .i64 t78_1]) ∧
SpecH PP z228 [(.slice t78 t78n t78c)] h1 (fun v_1 h2 => ∃ (t83 : OA) (t83n t83c : Nat) (t83_1 : Int), v_1 = (.tuple #[(.slice t83 t83n t83c), .int .i64 t83_1]) ∧
L2 w0 lit1 y72 y79 y74 y52 y59 y75 y60 y62 t78 t78n t78c t83 t83n t83c 19 (K5 Q) h2))) : (K2 Q) (.exit 1) (X1 w0 lit1 y72 y79 y74 y52 y59 y75 y60 y62 counts9 y127 y128) h := y19 (by kernel_rfl) H
theorem L2_of {w0 lit1 : OA} {y72 y79 : Nat} {y74 : OA} {y52 y59 : Nat} {y75 : OA} {y60 y62 : Nat} {y69 : OA} {y58 y57 : Nat} {y85 : OA} {y77 y76 : Nat} {many16 : Int} {K : EP} {h : Heap} (H :
let t87 : Bool := decide (many16 > 4)
br t87 (
let t91 : Int := IntKind.i64.wrap (many16 - 1)
hwp PP (Instr.indexAt y98 (.pointer (some ⟨G_lens_order, 0, none⟩)) (.int .i64 t91)) (fun v h1 => ∃ (t92 : Addr), v = (.pointer (some t92)) ∧
∃ (t93 : Int), cellH h1 t92 = some (.int .i64 t93) ∧
hwp PP (Instr.indexAt y14 (.slice y69 y58 y57) (.int .i64 t93)) (fun v_1 h2 => ∃ (t94 : Addr), v_1 = (.pointer (some t94)) ∧
∃ (t95 : Int), cellH h2 t94 = some (.int .i64 t95) ∧
let t96 : Bool := (t95 == 0)
br t96 (
let t99 : Int := IntKind.i64.wrap (many16 - 1)
L2 w0 lit1 y72 y79 y74 y52 y59 y75 y60 y62 y69 y58 y57 y85 y77 y76 t99 K h2) (
K (.exit 3) (X3 w0 lit1 y72 y79 y74 y52 y59 y75 y60 y62 y69 y58 y57 y85 y77 y76 many16) h2)) h1) h) (
K (.exit 3) (X3 w0 lit1 y72 y79 y74 y52 y59 y75 y60 y62 y69 y58 y57 y85 y77 y76 many16) h)) : L2 w0 lit1 y72 y79 y74 y52 y59 y75 y60 y62 y69 y58 y57 y85 y77 y76 many16 K h := by unfold L2; exact Lp.of_txt (an 4088) 86151 (by kernel_rfl) H
theorem L2_X3 {Q : VP} {w0 lit1 : OA} {y72 y79 : Nat} {y74 : OA} {y52 y59 : Nat} {y75 : OA} {y60 y62 : Nat} {y69 : OA} {y58 y57 : Nat} {y85 : OA} {y77 y76 : Nat} {many16 : Int} {h : Heap} (H :
let t103 : Int := IntKind.i64.wrap ((y72 : Int) - 257)
let t104 : Int := IntKind.u32.wrap t103
SpecH PP z198 [.pointer w0, .int .u32 t104, .int .i64 5] h (fun v h1 => ∃ (t105 : Int), v = (.int .i64 t105) ∧
let t109 : Int := IntKind.i64.wrap ((y52 : Int) - 1)
let t110 : Int := IntKind.u32.wrap t109
SpecH PP z198 [.pointer w0, .int .u32 t110, .int .i64 5] h1 (fun v_1 h2 => ∃ (t111 : Int), v_1 = (.int .i64 t111) ∧
let t114 : Int := IntKind.i64.wrap (many16 - 4)
let t115 : Int := IntKind.u32.wrap t114
SpecH PP z198 [.pointer w0, .int .u32 t115, .int .i64 4] h2 (fun v_2 h3 => ∃ (t116 : Int), v_2 = (.int .i64 t116) ∧
hwp PP (Instr.sliceAt y98 (.pointer (some ⟨G_lens_order, 0, none⟩)) none (some (.int .i64 many16)) none) (fun v_3 h4 => ∃ (t118 : OA) (t118n t118c : Nat), v_3 = (.slice t118 t118n t118c) ∧
L3 w0 y75 y60 y62 y69 y58 y57 y85 y77 y76 t118 t118n t118c (t118n : Int) 0 (K7 Q) h4) h3)))) : (K5 Q) (.exit 3) (X3 w0 lit1 y72 y79 y74 y52 y59 y75 y60 y62 y69 y58 y57 y85 y77 y76 many16) h := y19 (by kernel_rfl) H
theorem L3_of {w0 y75 : OA} {y60 y62 : Nat} {y69 : OA} {y58 y57 : Nat} {y85 : OA} {y77 y76 : Nat} {t118 : OA} {t118n t118c : Nat} {t119 t120 : Int} {K : EP} {h : Heap} (H :
let t121 : Bool := decide (t120 < t119)
br t121 (
hwp PP (Instr.indexAt y14 (.slice t118 t118n t118c) (.int .i64 t120)) (fun v h1 => ∃ (t122 : Addr), v = (.pointer (some t122)) ∧
∃ (t123 : Int), cellH h1 t122 = some (.int .i64 t123) ∧
hwp PP (Instr.indexAt y14 (.slice y69 y58 y57) (.int .i64 t123)) (fun v_1 h2 => ∃ (t127 : Addr), v_1 = (.pointer (some t127)) ∧
∃ (t128 : Int), cellH h2 t127 = some (.int .i64 t128) ∧
let t129 : Int := IntKind.u32.wrap t128
SpecH PP z198 [.pointer w0, .int .u32 t129, .int .i64 3] h2 (fun v_2 h3 => ∃ (t130 : Int), v_2 = (.int .i64 t130) ∧
let t131 : Int := IntKind.i64.wrap (t120 + 1)
L3 w0 y75 y60 y62 y69 y58 y57 y85 y77 y76 t118 t118n t118c t119 t131 K h3)) h1) h) (
K (.exit 5) (X5 w0 y75 y60 y62 y69 y58 y57 y85 y77 y76) h)) : L3 w0 y75 y60 y62 y69 y58 y57 y85 y77 y76 t118 t118n t118c t119 t120 K h := by unfold L3; exact Lp.of_txt (an 131060) 2326148992623602777581662355490623617 (by kernel_rfl) H
theorem L3_X5 {Q : VP} {w0 y75 : OA} {y60 y62 : Nat} {y69 : OA} {y58 y57 : Nat} {y85 : OA} {y77 y76 : Nat} {h : Heap} (H :
L4 w0 y69 y58 y57 y85 y77 y76 y75 y60 y62 (y60 : Int) 0 (K9 Q) h) : (K7 Q) (.exit 5) (X5 w0 y75 y60 y62 y69 y58 y57 y85 y77 y76) h := y19 (by kernel_rfl) H
theorem L4_of {w0 y69 : OA} {y58 y57 : Nat} {y85 : OA} {y77 y76 : Nat} {t132 : OA} {t132n t132c : Nat} {t133 t134 : Int} {K : EP} {h : Heap} (H :
let t135 : Bool := decide (t134 < t133)
br t135 (
hwp PP (Instr.indexAt y54 (.slice t132 t132n t132c) (.int .i64 t134)) (fun v h1 => ∃ (t136 : Addr), v = (.pointer (some t136)) ∧
∃ (t137f0 t137f1 : Int), rdCells h1 t136 0 [.int .i64 t137f0, .int .i64 t137f1] ∧
let s20 : Addr := ⟨Array.size h1, 0, none⟩
let h2 : Heap := Array.push h1 (.cells #[.int .i64 0, .int .i64 0] y73 (0, 0))
wrCells s20 0 [.int .i64 t137f0, .int .i64 t137f1] (fun h3 =>
∃ (t141 : Int), cellH h3 s20 = some (.int .i64 t141) ∧
hwp PP (Instr.indexAt y131 (.slice y85 y77 y76) (.int .i64 t141)) (fun v_1 h4 => ∃ (t142 : Addr), v_1 = (.pointer (some t142)) ∧
∃ (t143 : Int), cellH h4 t142 = some (.int .u32 t143) ∧
∃ (t146 : Int), cellH h4 s20 = some (.int .i64 t146) ∧
hwp PP (Instr.indexAt y14 (.slice y69 y58 y57) (.int .i64 t146)) (fun v_2 h5 => ∃ (t147 : Addr), v_2 = (.pointer (some t147)) ∧
∃ (t148 : Int), cellH h5 t147 = some (.int .i64 t148) ∧
SpecH PP z198 [.pointer w0, .int .u32 t143, .int .i64 t148] h5 (fun v_3 h6 => ∃ (t149 : Int), v_3 = (.int .i64 t149) ∧
∃ (t152 : Int), cellH h6 (Addr.add s20 1) = some (.int .i64 t152) ∧
let t153 : Int := IntKind.u32.wrap t152
∃ (t155 : Int), cellH h6 s20 = some (.int .i64 t155) ∧
hwp PP (Instr.indexAt y98 (.pointer (some ⟨G_lens_wide, 0, none⟩)) (.int .i64 t155)) (fun v_4 h7 => ∃ (t156 : Addr), v_4 = (.pointer (some t156)) ∧
∃ (t157 : Int), cellH h7 t156 = some (.int .i64 t157) ∧
SpecH PP z198 [.pointer w0, .int .u32 t153, .int .i64 t157] h7 (fun v_5 h8 => ∃ (t158 : Int), v_5 = (.int .i64 t158) ∧
let t159 : Int := IntKind.i64.wrap (t134 + 1)
L4 w0 y69 y58 y57 y85 y77 y76 t132 t132n t132c t133 t159 K h8)) h6)) h4) h3) h2) h) (
K (.exit 7) (X7) h)) : L4 w0 y69 y58 y57 y85 y77 y76 t132 t132n t132c t133 t134 K h := by unfold L4; exact Lp.of_txt (an 262132) 38111625095145107907897956032358039703553 (by kernel_rfl) H
theorem L4_X7 {Q : VP}  {h : Heap} (H :
Q (.int .i64 0) h) : (K9 Q) (.exit 7) (X7 ) h := y19 (by kernel_rfl) H
theorem door {w0 lit1 : OA} {y72 y79 : Nat} {y74 : OA} {y52 y59 : Nat} {Q : VP} {h : Heap} (H :
let t23 : Bool := (Option.isNone w0)
br t23 (
Q (.int .i64 3) h) (
let t27 : Bool := decide ((y72 : Int) < 257)
br t27 (
J1 w0 lit1 y72 y79 y74 y52 y59 true Q h) (
let t31 : Bool := decide ((y72 : Int) > 286)
br t31 (
J1 w0 lit1 y72 y79 y74 y52 y59 true Q h) (
let t36 : Bool := decide ((y52 : Int) < 1)
br t36 (
J1 w0 lit1 y72 y79 y74 y52 y59 true Q h) (
let t41 : Bool := decide ((y52 : Int) > 30)
br t41 (
J1 w0 lit1 y72 y79 y74 y52 y59 true Q h) (
SpecH PP z288 [(.slice lit1 y72 y79)] h (fun v h1 => ∃ (t45 : Bool), v = (.bool t45) ∧
let t46 : Bool := (!t45)
br t46 (
J1 w0 lit1 y72 y79 y74 y52 y59 true Q h1) (
SpecH PP z288 [(.slice y74 y52 y59)] h1 (fun v_1 h2 => ∃ (t50 : Bool), v_1 = (.bool t50) ∧
let t51 : Bool := (!t50)
J1 w0 lit1 y72 y79 y74 y52 y59 t51 Q h2))))))))) : SpecH PP z284 [.pointer w0, (.slice lit1 y72 y79), (.slice y74 y52 y59)] h Q :=
  y12 (ann := ann) Tryd.func35 rfl rfl (by kernel_rfl) H
end z283
namespace z257
def ann : Ann := (.seq 3 (rg 2 3) (.seq 64 (rg 6 64) (.seq 48 (rg 5 48) (.exit 48))))
theorem door {b0 : OA} {b0n b0c : Nat} {y41 : Int} {Q : VP} {h : Heap} (H :
SpecH PP z180 [(.slice b0 b0n b0c)] h (fun v h1 => ∃ (t8 : OA), v = (.pointer t8) ∧
let t11 : Addr := ⟨Array.size h1, 0, none⟩
let h2 : Heap := Array.push h1 (.cells #[.pointer t8, (.slice none 0 0), .int .i64 y41] y82 (0, 0))
SpecH PP z260 [(.pointer (some t11))] h2 (fun v_1 h3 => ∃ (t14 : Int), v_1 = (.int .i64 t14) ∧
Q (.tuple #[(.pointer (some t11)), .int .i64 t14]) h3))) : SpecH PP z258 [(.slice b0 b0n b0c), .int .i64 y41] h Q :=
  y12 (ann := ann) Tryd.func36 rfl rfl (by kernel_rfl) H
end z257
namespace z187
def ann : Ann := (.seq 1 (rg 1 1) (.seq 1 (.seq 17 (rg 2 17) (.cond (.seq 4 (rg 1 4) (.exit 4)) .leaf)) (.seq 4 (rg 5 4) (.exit 4))))
theorem door {r0 : OA} {Q : VP} {h : Heap} (H :
let t4 : Bool := (Option.isNone r0)
br t4 (
Q (.int .i64 0) h) (
nilc r0 (fun t6 =>
∃ (t8 : Int), cellH h (Addr.add t6 1) = some (.int .i64 t8) ∧
Q (.int .i64 t8) h))) : SpecH PP z188 [.pointer r0] h Q :=
  y12 (ann := ann) Tryd.func37 rfl rfl (by kernel_rfl) H
end z187
namespace z325
def ann : Ann := (.seq 1 (rg 1 1) (.seq 1 (.seq 17 (rg 2 17) (.cond (.seq 4 (rg 1 4) (.exit 4)) .leaf)) (.seq 4 (rg 4 4) (.exit 4))))
theorem door {s0 : OA} {s0n s0c : Nat} {Q : VP} {h : Heap} (H :
let t4 : Bool := (Option.isNone s0)
br t4 (
Q (.slice none 0 0) h) (
let h1 : Heap := Array.push h (.cells #[] y15 (0, 0))
hwp PP (Builtin.append_ #[y13, y13] y13 #[(.slice (some ⟨Array.size h, 0, none⟩) 0 0), (.slice s0 s0n s0c)]) (fun v h2 => ∃ (t7 : OA) (t7n t7c : Nat), v = (.slice t7 t7n t7c) ∧
Q (.slice t7 t7n t7c) h2) h1)) : SpecH PP z326 [(.slice s0 s0n s0c)] h Q :=
  y12 (ann := ann) Tryd.func38 rfl rfl (by kernel_rfl) H
end z325
namespace z303
def ann : Ann := (.seq 5 (rg 1 5) (.seq 13 (rg 1 13) (.seq 8 (.seq 76 (rg 2 76) (.block (.range 12 (rg 2 24) (.block (rg 5 0))))) (.seq 4 (rg 2 4) (.exit 4)))))
noncomputable abbrev cd := cdF Tryd.f39
abbrev an := anF ann
@[irreducible] def R1 (t2 : OA) (t2n t2c : Nat) (out3 : Addr) (t7f0 t7f1 t7f2 : Int) (l : Nat) (K : VP) (h : Heap) : Prop := ev PP false none (cd 116) (an 116) (setAll (mkFr 0 13 [(2, (.slice t2 t2n t2c)), (3, (.pointer (some out3)))]) [(7, (.agg #[.int .u8 t7f0, .int .i64 t7f1, .int .i64 t7f2]))]) (roundK PP l (cd 117) (an 117) 24 K) h
@[irreducible] def K2 (Q : VP) : EP := seqK (fun fr h => ev PP true none (cd 15) (an 15) (fr.mask 8) (bodyKR PP Tryd.f39 Q) h) (bodyKR PP Tryd.f39 Q)
@[irreducible] def K1 (Q : VP) : EP := blockK 0 (K2 Q)
theorem R1_of {t2 : OA} {t2n t2c : Nat} {out3 : Addr} {t7f0 t7f1 t7f2 : Int} {l : Nat} {K : VP} {h : Heap} (H :
let t4 : Addr := ⟨Array.size h, 0, none⟩
let h1 : Heap := Array.push h (.cells #[.int .u8 0, .int .i64 0, .int .i64 0] y38 (0, 0))
wrCells t4 0 [.int .u8 t7f0, .int .i64 t7f1, .int .i64 t7f2] (fun h2 =>
∃ xL : Loop, h2[l]? = some (.loop xL) ∧ xL.state = .ready ∧
let h3 : Heap := h2.setIfInBounds l (.loop { xL with state := .busy })
∃ (t8 : OA) (t8n t8c : Nat), cellH h3 out3 = some (.slice t8 t8n t8c) ∧
∃ (t9f0 t9f1 t9f2 : Int), rdCells h3 t4 0 [.int .u8 t9f0, .int .i64 t9f1, .int .i64 t9f2] ∧
let h4 : Heap := Array.push h3 (.cells #[.int .u8 t9f0, .int .i64 t9f1, .int .i64 t9f2] y38 (0, 0))
hwp PP (Builtin.append_ #[y45, y45] y45 #[(.slice t8 t8n t8c), (.slice (some ⟨Array.size h3, 0, none⟩) 1 1)]) (fun v h5 => ∃ (t11 : OA) (t11n t11c : Nat), v = (.slice t11 t11n t11c) ∧
wr out3 (.slice t11 t11n t11c) (fun h6 =>
∃ xL_1, h6[l]? = some (.loop xL_1) ∧ K (.bool true) (h6.setIfInBounds l (endL xL_1 none))) h5) h4) h1) : R1 t2 t2n t2c out3 t7f0 t7f1 t7f2 l K h := y19 (by kernel_rfl) H
theorem R1_yield {t2 : OA} {t2n t2c : Nat} {out3 : Addr} {t7f0 t7f1 t7f2 : Int} {l : Nat} {K : VP} {h : Heap} {L : Loop} (hl : h[l]? = some (.loop L)) (hp : L.params = #[7]) (ha : L.assign = (cd 116)) (hb : L.body = (cd 117)) (hf : FrRel (mkFr 0 13 [(2, (.slice t2 t2n t2c)), (3, (.pointer (some out3)))]) L.tmps) (H : R1 t2 t2n t2c out3 t7f0 t7f1 t7f2 l K h) : callV PP (.func (.yield l) #[] #[]) [(.agg #[.int .u8 t7f0, .int .i64 t7f1, .int .i64 t7f2])] K h := by
  unfold R1 at H
  refine yield_ok (ann := an 116) (annB := an 117) (m := 24) hl (by rw [hp]; rfl) hf ?_
  rw [ha, hb, hp]; exact H
theorem R1_outn0 {Q : VP} {t2 : OA} {t2n t2c : Nat} {out3 : Addr} {h : Heap} (H :
∃ (t12 : OA) (t12n t12c : Nat), cellH h out3 = some (.slice t12 t12n t12c) ∧
∀ h1, Takes h h1 → Q (.slice t12 t12n t12c) h1) : (K1 Q) .normal (mkFr 0 13 [(2, (.slice t2 t2n t2c)), (3, (.pointer (some out3)))]) h := y19 (by kernel_rfl) H
theorem door {y9 : OA} {y6 y7 : Nat} {Q : VP} {h : Heap} (H :
let out3 : Addr := ⟨Array.size h, 0, none⟩
let h1 : Heap := Array.push h (.cells #[(.slice none 0 0)] y45 (0, 0))
SpecH PP z296 [(.slice y9 y6 y7)] h1 (fun v h2 => ∃ (t6 : Value), v = t6 ∧
rangeK PP t6 #[7] (cd 116) (cd 117) (mkFr 0 13 [(2, (.slice none 0 0)), (3, (.pointer (some out3)))]) (K1 Q) h2)) : SpecH PP z304 [(.slice y9 y6 y7)] h Q :=
  spec_of_txtR (ann := ann) Tryd.func39 rfl (by kernel_rfl) H
end z303
namespace z201
def ann : Ann := (.seq 1 (rg 2 1) (.seq 6 (rg 6 6) (.exit 6)))
theorem door {t0 : Addr} {Q : VP} {h : Heap} (H :
∃ (t3 : OA) (t3n t3c : Nat), cellH h t0 = some (.slice t3 t3n t3c) ∧
SpecH PP z214 [(.slice t3 t3n t3c)] h (fun v h1 => ∃ (t4 : OA) (t4n t4c : Nat) (t4_1 : Int), v = (.tuple #[(.slice t4 t4n t4c), .int .i64 t4_1]) ∧
Q (.tuple #[(.slice t4 t4n t4c), .int .i64 t4_1]) h1)) : SpecH PP z202 [(.pointer (some t0))] h Q :=
  y12 (ann := ann) Tryd.func40 rfl rfl (by kernel_rfl) H
end z201
namespace z203
def ann : Ann := (.seq 1 (rg 2 1) (.seq 6 (rg 6 6) (.exit 6)))
theorem door {t0 : Addr} {Q : VP} {h : Heap} (H :
∃ (t3 : OA) (t3n t3c : Nat), cellH h t0 = some (.slice t3 t3n t3c) ∧
SpecH PP z210 [(.slice t3 t3n t3c)] h (fun v h1 => ∃ (t4 : OA) (t4n t4c : Nat) (t4_1 : Int), v = (.tuple #[(.slice t4 t4n t4c), .int .i64 t4_1]) ∧
Q (.tuple #[(.slice t4 t4n t4c), .int .i64 t4_1]) h1)) : SpecH PP z204 [(.pointer (some t0))] h Q :=
  y12 (ann := ann) Tryd.func41 rfl rfl (by kernel_rfl) H
end z203
namespace z205
def ann : Ann := (.seq 1 (rg 2 1) (.seq 6 (rg 6 6) (.exit 6)))
theorem door {t0 : Addr} {Q : VP} {h : Heap} (H :
∃ (t3 : OA) (t3n t3c : Nat), cellH h t0 = some (.slice t3 t3n t3c) ∧
SpecH PP z208 [(.slice t3 t3n t3c)] h (fun v h1 => ∃ (t4 : OA) (t4n t4c : Nat) (t4_1 : Int), v = (.tuple #[(.slice t4 t4n t4c), .int .i64 t4_1]) ∧
Q (.tuple #[(.slice t4 t4n t4c), .int .i64 t4_1]) h1)) : SpecH PP z206 [(.pointer (some t0))] h Q :=
  y12 (ann := ann) Tryd.func42 rfl rfl (by kernel_rfl) H
end z205
namespace z335
def ann : Ann := (.seq 3 (rg 1 3) (.seq 3 (.seq 67 (rg 2 67) (.cond (rg 2 3) .leaf)) (.seq 1 (.seq 3 (rg 8 3) (.seq 65539 (rg 2 65539) (.cond (rg 10 1) .leaf))) (.join (.seq 16 (rg 2 16) (.exit 16))))))
noncomputable abbrev cd := cdF Tryd.f43
abbrev an := anF ann
@[irreducible] def J1 (s0 : OA) (s0n s0c : Nat) (Q : VP) (h : Heap) : Prop := Jn PP true (cd 15) (mkFr 0 27 [(0, (.slice s0 s0n s0c))]) (bodyK PP Tryd.f43 Q) h
theorem J1_of {s0 : OA} {s0n s0c : Nat} {Q : VP} {h : Heap} (H :
Q (.slice s0 s0n s0c) h) : J1 s0 s0n s0c Q h := by unfold J1; exact Jn.of_txt (an 15) (by kernel_rfl) H
theorem door {s0 : OA} {s0n s0c : Nat} {xn1 : Int} {Q : VP} {h : Heap} (H :
let t6 : Bool := decide (xn1 < 0)
br t6 (
False) (
let t13 : Int := IntKind.i64.wrap ((s0c : Int) - (s0n : Int))
let t14 : Int := IntKind.i64.wrap (xn1 - t13)
let t16 : Bool := decide (t14 > 0)
br t16 (
hwp PP (Instr.sliceAt y14 (.slice s0 s0n s0c) none (some (.int .i64 (s0c : Int))) none) (fun v h1 => ∃ (t20 : OA) (t20n t20c : Nat), v = (.slice t20 t20n t20c) ∧
hwp PP (Builtin.append_ #[y14, y18] y14 #[(.slice t20 t20n t20c), .int .i64 t14]) (fun v_1 h2 => ∃ (t22 : OA) (t22n t22c : Nat), v_1 = (.slice t22 t22n t22c) ∧
hwp PP (Instr.sliceAt y14 (.slice t22 t22n t22c) none (some (.int .i64 (s0n : Int))) none) (fun v_2 h3 => ∃ (t25 : OA) (t25n t25c : Nat), v_2 = (.slice t25 t25n t25c) ∧
J1 t25 t25n t25c Q h3) h2) h1) h) (
J1 s0 s0n s0c Q h))) : SpecH PP z336 [(.slice s0 s0n s0c), .int .i64 xn1] h Q :=
  y12 (ann := ann) Tryd.func43 rfl rfl (by kernel_rfl) H
end z335
namespace z319
def ann : Ann := (.seq 3 (rg 2 3) (.seq 3 (.cond (.seq 192 (rg 10 192) (.seq 48 (rg 6 48) (.exit 48))) .leaf) (.seq 768 (rg 8 768) (.seq 48 (rg 4 48) (.exit 48)))))
theorem door {x0 y1 : Int} {Q : VP} {h : Heap} (H :
∃ v, PureAt PP z324 [.int .u64 x0, .int .u64 y1] v ∧
∃ (t25 t25_1 : Int), v = (.tuple #[.int .u64 t25, .int .u64 t25_1]) ∧
Q (.tuple #[.int .u64 t25, .int .u64 t25_1]) h) : SpecH PP z320 [.int .u64 x0, .int .u64 y1] h Q :=
  y12 (ann := ann) Tryd.func44 rfl rfl (by kernel_rfl) H
end z319
namespace z227
def ann : Ann := (.seq 1 (rg 2 1) (.seq 1 (.seq 17 (rg 3 17) (.seq 8209 (rg 2 8209) (.cond (.seq 12 (rg 3 12) (.exit 12)) .leaf))) (.seq 33 (rg 9 33) (.seq 161 (rg 4 161) (.seq 128 (.seq 58720416 (rg 3 58720416) (.block (.loop 58720416 (.seq 125829280 (rg 1 125829280) (.seq 58720416 (.cond .leaf (.exit 128)) (.seq 58720416 (.block (.seq 58721184 (rg 5 58721184) (.seq 2206204832 (rg 2 2206204832) (.cond (.seq 58720928 (rg 9 58720928) (rg 6 58720416)) .leaf)))) (.join (rg 2 58720416)))))))) (.seq 12 (rg 3 12) (.exit 12)))))))
noncomputable abbrev cd := cdF Tryd.f45
abbrev an := anF ann
@[irreducible] def X0 (out7 : OA) (out7n out7c : Nat) : Fr := (mkFr 0 47 [(7, (.slice out7 out7n out7c))])
@[irreducible] def L1 (next5 : Addr) (out7 : OA) (out7n out7c : Nat) (t23 : OA) (t23n t23c : Nat) (t24 t25 : Int) (K : EP) (h : Heap) : Prop := Lp PP true (cd 500) (mkFr 0 47 [(5, (.pointer (some next5))), (7, (.slice out7 out7n out7c)), (23, (.slice t23 t23n t23c)), (24, .int .i64 t24), (25, .int .i64 t25)]) K h
@[irreducible] def B1 (K : EP) : EP := seqK (fun fr h => Lp PP true (cd 500) (fr.mask 58720416) K h) K
@[irreducible] def J1 (next5 : Addr) (out7 : OA) (out7n out7c : Nat) (t23 : OA) (t23n t23c : Nat) (t24 t25 : Int) (K : EP) (h : Heap) : Prop := Jn PP true (cd 4007) (mkFr 0 47 [(5, (.pointer (some next5))), (7, (.slice out7 out7n out7c)), (23, (.slice t23 t23n t23c)), (24, .int .i64 t24), (25, .int .i64 t25)]) (B1 K) h
@[irreducible] def K2 (Q : VP) : EP := seqK (fun fr h => ev PP true none (cd 63) (an 63) (fr.mask 128) (bodyK PP Tryd.f45 Q) h) (bodyK PP Tryd.f45 Q)
@[irreducible] def K1 (Q : VP) : EP := blockK 0 (K2 Q)
theorem L1_of {next5 : Addr} {out7 : OA} {out7n out7c : Nat} {t23 : OA} {t23n t23c : Nat} {t24 t25 : Int} {K : EP} {h : Heap} (H :
let t26 : Bool := decide (t25 < t24)
br t26 (
hwp PP (Instr.indexAt y14 (.slice t23 t23n t23c) (.int .i64 t25)) (fun v h1 => ∃ (t28 : Addr), v = (.pointer (some t28)) ∧
∃ (t29 : Int), cellH h1 t28 = some (.int .i64 t29) ∧
let t31 : Bool := decide (t29 > 0)
br t31 (
hwp PP (Instr.indexAt y64 (.pointer (some next5)) (.int .i64 t29)) (fun v_1 h2 => ∃ (t35 : Addr), v_1 = (.pointer (some t35)) ∧
∃ (t36 : Int), cellH h2 t35 = some (.int .i64 t36) ∧
SpecH PP z240 [.int .i64 t36, .int .i64 t29] h2 (fun v_2 h3 => ∃ (t38 : Int), v_2 = (.int .u32 t38) ∧
hwp PP (Instr.indexAt y131 (.slice out7 out7n out7c) (.int .i64 t25)) (fun v_3 h4 => ∃ (t39 : Addr), v_3 = (.pointer (some t39)) ∧
wr t39 (.int .u32 t38) (fun h5 =>
hwp PP (Instr.indexAt y64 (.pointer (some next5)) (.int .i64 t29)) (fun v_4 h6 => ∃ (t41 : Addr), v_4 = (.pointer (some t41)) ∧
∃ (t42 : Int), cellH h6 t41 = some (.int .i64 t42) ∧
let t43 : Int := IntKind.i64.wrap (t42 + 1)
hwp PP (Instr.indexAt y64 (.pointer (some next5)) (.int .i64 t29)) (fun v_5 h7 => ∃ (t44 : Addr), v_5 = (.pointer (some t44)) ∧
wr t44 (.int .i64 t43) (fun h8 =>
J1 next5 out7 out7n out7c t23 t23n t23c t24 t25 K h8) h7) h6) h5) h4) h3)) h1) (
J1 next5 out7 out7n out7c t23 t23n t23c t24 t25 K h1)) h) (
K (.exit 0) (X0 out7 out7n out7c) h)) : L1 next5 out7 out7n out7c t23 t23n t23c t24 t25 K h := by unfold L1; exact Lp.of_txt (an 500) 58720416 (by kernel_rfl) H
theorem L1_X0 {Q : VP} {out7 : OA} {out7n out7c : Nat} {h : Heap} (H :
Q (.tuple #[(.slice out7 out7n out7c), .int .i64 0]) h) : (K1 Q) (.exit 0) (X0 out7 out7n out7c) h := y19 (by kernel_rfl) H
theorem J1_of {next5 : Addr} {out7 : OA} {out7n out7c : Nat} {t23 : OA} {t23n t23c : Nat} {t24 t25 : Int} {K : EP} {h : Heap} (H :
let t45 : Int := IntKind.i64.wrap (t25 + 1)
L1 next5 out7 out7n out7c t23 t23n t23c t24 t45 K h) : J1 next5 out7 out7n out7c t23 t23n t23c t24 t25 K h := by unfold J1; exact Jn.of_txt (an 4007) (by kernel_rfl) H
theorem door {xl0 : OA} {xl0n xl0c : Nat} {Q : VP} {h : Heap} (H :
SpecH PP z226 [(.slice xl0 xl0n xl0c)] h (fun v h1 => ∃ (t11 : Int), v = (.int .i64 t11) ∧
let t13 : Bool := (t11 != 0)
br t13 (
Q (.tuple #[(.slice none 0 0), .int .i64 t11]) h1) (
SpecH PP z238 [(.slice xl0 xl0n xl0c)] h1 (fun v_1 h2 => ∃ (t17 t17_1 : List Value), v_1 = (.tuple #[(.agg (t17).toArray), (.agg (t17_1).toArray)]) ∧
let next5 : Addr := ⟨Array.size h2, 0, none⟩
let h3 : Heap := Array.push h2 (.cells (Array.replicate 16 (.int .i64 0)) y64 (0, 0))
let t6 : Addr := ⟨Array.size h3, 0, none⟩
let h4 : Heap := Array.push h3 (.cells (Array.replicate 16 (.int .i64 0)) y64 (0, 0))
br (decide (Array.size (List.toArray t17) = 16)) (wrCells next5 0 t17 (fun h5 =>
br (decide (Array.size (List.toArray t17_1) = 16)) (wrCells t6 0 t17_1 (fun h6 =>
hwp PP (Instr.makeSlice y131 (.int .i64 (xl0n : Int)) (.int .i64 (xl0n : Int))) (fun v_2 h7 => ∃ (t22 : OA) (t22n t22c : Nat), v_2 = (.slice t22 t22n t22c) ∧
L1 next5 t22 t22n t22c xl0 xl0n xl0c (xl0n : Int) 0 (K1 Q) h7) h6) h5) False) h4) False)))) : SpecH PP z228 [(.slice xl0 xl0n xl0c)] h Q :=
  y12 (ann := ann) Tryd.func45 rfl rfl (by kernel_rfl) H
end z227
namespace z313
def ann : Ann := (.seq 1 (rg 1 1) (.seq 1 (.cond (.seq 4 (rg 4 4) (.exit 4)) .leaf) (.seq 4 (rg 3 4) (.exit 4))))
theorem door {x0 : Int} {Q : VP} {h : Heap} (H :
SpecH PP z318 [.int .u64 x0] h (fun v h1 => ∃ (t7 : Int), v = (.int .i64 t7) ∧
Q (.int .i64 t7) h1)) : SpecH PP z314 [.int .u64 x0] h Q :=
  y12 (ann := ann) Tryd.func46 rfl rfl (by kernel_rfl) H
end z313
namespace z233
def ann : Ann := (.seq 12 (rg 3 12) (.seq 16 (rg 6 16) (.exit 16)))
theorem door {a0f0 : Int} {a0f1 : OA} {a0f1n a0f1c : Nat} {b1f0 : Int} {b1f1 : OA} {b1f1n b1f1c : Nat} {Q : VP} {h : Heap} (H :
let a2 : Addr := ⟨Array.size h, 0, none⟩
let h1 : Heap := Array.push h (.cells #[.int .i64 a0f0, (.slice a0f1 a0f1n a0f1c)] y17 (0, 0))
let b3 : Addr := ⟨Array.size h1, 0, none⟩
let h2 : Heap := Array.push h1 (.cells #[.int .i64 b1f0, (.slice b1f1 b1f1n b1f1c)] y17 (0, 0))
∃ (t6 : Int), cellH h2 a2 = some (.int .i64 t6) ∧
∃ (t8 : Int), cellH h2 b3 = some (.int .i64 t8) ∧
let t9 : Int := IntKind.i64.wrap (t6 - t8)
Q (.int .i64 t9) h2) : SpecH PP z234 [(.agg #[.int .i64 a0f0, (.slice a0f1 a0f1n a0f1c)]), (.agg #[.int .i64 b1f0, (.slice b1f1 b1f1n b1f1c)])] h Q :=
  y12 (ann := ann) Tryd.func47 rfl rfl (by kernel_rfl) H
end z233
namespace z343
def ann : Ann := (rg 5 0)
theorem door {x0 : OA} {x0n x0c : Nat} {cmp1 : Value} {Q : VP} {h : Heap} (H :
SpecH PP z350 [(.slice x0 x0n x0c), (.int .i64 (x0n : Int)), cmp1] h (fun v h1 => v = (.tuple #[]) ∧
Q (.tuple #[]) h1)) : SpecH PP z344 [(.slice x0 x0n x0c), cmp1] h Q :=
  y12 (ann := ann) Tryd.func48 rfl rfl (by kernel_rfl) H
end z343
namespace z327
def ann : Ann := (.seq 1 (rg 1 1) (.seq 1 (.seq 17 (rg 2 17) (.cond (.seq 4 (rg 1 4) (.exit 4)) .leaf)) (.seq 4 (rg 4 4) (.exit 4))))
theorem door {s0 : OA} {s0n s0c : Nat} {Q : VP} {h : Heap} (H :
let t4 : Bool := (Option.isNone s0)
br t4 (
Q (.slice none 0 0) h) (
let h1 : Heap := Array.push h (.cells #[] y17 (0, 0))
hwp PP (Builtin.append_ #[y11, y11] y11 #[(.slice (some ⟨Array.size h, 0, none⟩) 0 0), (.slice s0 s0n s0c)]) (fun v h2 => ∃ (t7 : OA) (t7n t7c : Nat), v = (.slice t7 t7n t7c) ∧
Q (.slice t7 t7n t7c) h2) h1)) : SpecH PP z328 [(.slice s0 s0n s0c)] h Q :=
  y12 (ann := ann) Tryd.func49 rfl rfl (by kernel_rfl) H
end z327
namespace z287
def ann : Ann := (.seq 1 (rg 1 1) (.seq 4 (rg 4 4) (.exit 4)))
theorem door {xl0 : OA} {xl0n xl0c : Nat} {Q : VP} {h : Heap} (H :
SpecH PP z334 [(.slice xl0 xl0n xl0c), (.func (.func z290) #[] #[])] h (fun v h1 => ∃ (t4 : Bool), v = (.bool t4) ∧
let t5 : Bool := (!t4)
Q (.bool t5) h1)) : SpecH PP z288 [(.slice xl0 xl0n xl0c)] h Q :=
  y12 (ann := ann) Tryd.func50 rfl rfl (by kernel_rfl) H
end z287
namespace z277
def ann : Ann := (.seq 1 (rg 2 1) (.seq 1 (.seq 65537 (rg 8 65537) (.join (.cond (.seq 12 (rg 2 12) (.exit 12)) .leaf))) (.seq 17 (rg 1 17) (.seq 49 (rg 2 49) (.seq 16 (.seq 113 (rg 1 113) (.block (.loop 113 (.seq 113 (.seq 2097265 (rg 4 2097265) (.cond .leaf (.exit 16))) (.block (.seq 497 (rg 6 497) (.seq 497 (.block (.loop 497 (.seq 497 (.seq 137438953969 (rg 12 137438953969) (.cond .leaf (.exit 497))) (.seq 497 (.block (rg 3 497)) (rg 3 497))))) (.seq 497 (.seq 8796093022705 (rg 2 8796093022705) (.cond (rg 6 497) (.seq 497 (rg 6 497) (rg 5 497)))) (.join (.seq 864691128455135473 (rg 2 864691128455135473) (.block (.loop 864691128455135473 (.seq 2017612633061982449 (rg 1 2017612633061982449) (.seq 864691128455135473 (.cond .leaf (.exit 113)) (.seq 864691128455135473 (.block (rg 6 864691128455135473)) (rg 2 864691128455135473)))))))))))))))) (.seq 12 (rg 3 12) (.exit 12)))))))
noncomputable abbrev cd := cdF Tryd.f51
abbrev an := anF ann
@[irreducible] def X0 (out4 : Addr) : Fr := (mkFr 0 68 [(4, (.pointer (some out4)))])
@[irreducible] def X2 (xl0 : OA) (xl0n xl0c : Nat) (out4 : Addr) (y55 : Value) (i6 v7 xn8 : Int) : Fr := (mkFr 0 68 [(0, (.slice xl0 xl0n xl0c)), (4, (.pointer (some out4))), (5, y55), (6, .int .i64 i6), (7, .int .i64 v7), (8, .int .i64 xn8)])
@[irreducible] def X4 (xl0 : OA) (xl0n xl0c : Nat) (out4 : Addr) (y55 : Value) (i6 : Int) : Fr := (mkFr 0 68 [(0, (.slice xl0 xl0n xl0c)), (4, (.pointer (some out4))), (5, y55), (6, .int .i64 i6)])
@[irreducible] def K1 (Q : VP) : EP := seqK (fun fr h => ev PP true none (cd 7) (an 7) (fr.mask 1) (bodyK PP Tryd.f51 Q) h) (bodyK PP Tryd.f51 Q)
@[irreducible] def J1 (xl0 : OA) (xl0n xl0c : Nat) (t16 : Bool) (Q : VP) (h : Heap) : Prop := Jn PP true (cd 13) (mkFr 0 68 [(0, (.slice xl0 xl0n xl0c)), (16, .bool t16)]) (K1 Q) h
@[irreducible] def K3 (Q : VP) : EP := seqK (fun fr h => ev PP true none (cd 63) (an 63) (fr.mask 16) (bodyK PP Tryd.f51 Q) h) (bodyK PP Tryd.f51 Q)
@[irreducible] def K2 (Q : VP) : EP := blockK 0 (K3 Q)
@[irreducible] def L1 (xl0 : OA) (xl0n xl0c : Nat) (out4 : Addr) (y55 : Value) (i6 : Int) (K : EP) (h : Heap) : Prop := Lp PP true (cd 500) (mkFr 0 68 [(0, (.slice xl0 xl0n xl0c)), (4, (.pointer (some out4))), (5, y55), (6, .int .i64 i6)]) K h
@[irreducible] def B1 (K : EP) : EP := seqK (fun fr h => Lp PP true (cd 500) (fr.mask 113) K h) K
@[irreducible] def K6 (K : EP) : EP := blockK 1 (B1 K)
@[irreducible] def K5 (K : EP) : EP := seqK (fun fr h => ev PP true none (cd 8011) (an 8011) (fr.mask 497) (K6 K) h) (K6 K)
@[irreducible] def K4 (K : EP) : EP := blockK 2 (K5 K)
@[irreducible] def L2 (xl0 : OA) (xl0n xl0c : Nat) (out4 : Addr) (y55 : Value) (i6 v7 xn8 : Int) (K : EP) (h : Heap) : Prop := Lp PP true (cd 32040) (mkFr 0 68 [(0, (.slice xl0 xl0n xl0c)), (4, (.pointer (some out4))), (5, y55), (6, .int .i64 i6), (7, .int .i64 v7), (8, .int .i64 xn8)]) K h
@[irreducible] def J2 (xl0 : OA) (xl0n xl0c : Nat) (out4 : Addr) (y55 : Value) (i6 v7 xn8 : Int) (K : EP) (h : Heap) : Prop := Jn PP true (cd 16023) (mkFr 0 68 [(0, (.slice xl0 xl0n xl0c)), (4, (.pointer (some out4))), (5, y55), (6, .int .i64 i6), (7, .int .i64 v7), (8, .int .i64 xn8)]) (K6 K) h
@[irreducible] def K7 (K : EP) : EP := blockK 4 (K6 K)
@[irreducible] def L3 (xl0 : OA) (xl0n xl0c : Nat) (out4 : Addr) (y55 : Value) (i6 v7 t58 t59 : Int) (K : EP) (h : Heap) : Prop := Lp PP true (cd 128188) (mkFr 0 68 [(0, (.slice xl0 xl0n xl0c)), (4, (.pointer (some out4))), (5, y55), (6, .int .i64 i6), (7, .int .i64 v7), (58, .int .i64 t58), (59, .int .i64 t59)]) K h
theorem J1_of {xl0 : OA} {xl0n xl0c : Nat} {t16 : Bool} {Q : VP} {h : Heap} (H :
br t16 (
Q (.tuple #[(.slice none 0 0), .int .i64 1]) h) (
let out4 : Addr := ⟨Array.size h, 0, none⟩
let h1 : Heap := Array.push h (.cells #[(.slice none 0 0)] y54 (0, 0))
L1 xl0 xl0n xl0c out4 (.func (.func z280) #[] #[(.pointer (some out4))]) 0 (K2 Q) h1)) : J1 xl0 xl0n xl0c t16 Q h := by unfold J1; exact Jn.of_txt (an 13) (by kernel_rfl) H
theorem L1_of {xl0 : OA} {xl0n xl0c : Nat} {out4 : Addr} {y55 : Value} {i6 : Int} {K : EP} {h : Heap} (H :
let t21 : Bool := decide (i6 < (xl0n : Int))
br t21 (
hwp PP (Instr.indexAt y14 (.slice xl0 xl0n xl0c) (.int .i64 i6)) (fun v h1 => ∃ (t24 : Addr), v = (.pointer (some t24)) ∧
∃ (t25 : Int), cellH h1 t24 = some (.int .i64 t25) ∧
L2 xl0 xl0n xl0c out4 y55 i6 t25 0 (K4 K) h1) h) (
K (.exit 0) (X0 out4) h)) : L1 xl0 xl0n xl0c out4 y55 i6 K h := by unfold L1; exact Lp.of_txt (an 500) 113 (by kernel_rfl) H
theorem L1_X0 {Q : VP} {out4 : Addr} {h : Heap} (H :
∃ (t67 : OA) (t67n t67c : Nat), cellH h out4 = some (.slice t67 t67n t67c) ∧
Q (.tuple #[(.slice t67 t67n t67c), .int .i64 0]) h) : (K2 Q) (.exit 0) (X0 out4) h := y19 (by kernel_rfl) H
theorem L2_of {xl0 : OA} {xl0n xl0c : Nat} {out4 : Addr} {y55 : Value} {i6 v7 xn8 : Int} {K : EP} {h : Heap} (H :
let t29 : Bool := decide (i6 < (xl0n : Int))
br t29 (
hwp PP (Instr.indexAt y14 (.slice xl0 xl0n xl0c) (.int .i64 i6)) (fun v h1 => ∃ (t33 : Addr), v = (.pointer (some t33)) ∧
∃ (t34 : Int), cellH h1 t33 = some (.int .i64 t34) ∧
let t36 : Bool := (t34 == v7)
br t36 (
let t41 : Int := IntKind.i64.wrap (xn8 + 1)
let t39 : Int := IntKind.i64.wrap (i6 + 1)
L2 xl0 xl0n xl0c out4 y55 t39 v7 t41 K h1) (
K (.exit 2) (X2 xl0 xl0n xl0c out4 y55 i6 v7 xn8) h1)) h) (
K (.exit 2) (X2 xl0 xl0n xl0c out4 y55 i6 v7 xn8) h)) : L2 xl0 xl0n xl0c out4 y55 i6 v7 xn8 K h := by unfold L2; exact Lp.of_txt (an 32040) 497 (by kernel_rfl) H
theorem L2_X2 {K : EP} {xl0 : OA} {xl0n xl0c : Nat} {out4 : Addr} {y55 : Value} {i6 v7 xn8 : Int} {h : Heap} (H :
let t43 : Bool := (v7 == 0)
br t43 (
callV PP y55 [.int .i64 xn8, .int .i64 18, .int .i64 138] (fun v h1 => ∃ (t47 : Int), v = (.int .i64 t47) ∧
callV PP y55 [.int .i64 t47, .int .i64 17, .int .i64 10] (fun v_1 h2 => ∃ (t48 : Int), v_1 = (.int .i64 t48) ∧
J2 xl0 xl0n xl0c out4 y55 i6 v7 t48 K h2) h1) h) (
∃ (t49 : OA) (t49n t49c : Nat), cellH h out4 = some (.slice t49 t49n t49c) ∧
let h3 : Heap := Array.push h (.cells #[.int .i64 v7, .int .i64 0] y73 (0, 0))
hwp PP (Builtin.append_ #[y54, y54] y54 #[(.slice t49 t49n t49c), (.slice (some ⟨Array.size h, 0, none⟩) 1 1)]) (fun v_2 h4 => ∃ (t53 : OA) (t53n t53c : Nat), v_2 = (.slice t53 t53n t53c) ∧
wr out4 (.slice t53 t53n t53c) (fun h5 =>
let t56 : Int := IntKind.i64.wrap (xn8 - 1)
callV PP y55 [.int .i64 t56, .int .i64 16, .int .i64 6] (fun v_3 h6 => ∃ (t57 : Int), v_3 = (.int .i64 t57) ∧
J2 xl0 xl0n xl0c out4 y55 i6 v7 t57 K h6) h5) h4) h3)) : (K4 K) (.exit 2) (X2 xl0 xl0n xl0c out4 y55 i6 v7 xn8) h := y19 (by kernel_rfl) H
theorem J2_of {xl0 : OA} {xl0n xl0c : Nat} {out4 : Addr} {y55 : Value} {i6 v7 xn8 : Int} {K : EP} {h : Heap} (H :
L3 xl0 xl0n xl0c out4 y55 i6 v7 xn8 0 (K7 K) h) : J2 xl0 xl0n xl0c out4 y55 i6 v7 xn8 K h := by unfold J2; exact Jn.of_txt (an 16023) (by kernel_rfl) H
theorem L3_of {xl0 : OA} {xl0n xl0c : Nat} {out4 : Addr} {y55 : Value} {i6 v7 t58 t59 : Int} {K : EP} {h : Heap} (H :
let t60 : Bool := decide (t59 < t58)
br t60 (
∃ (t61 : OA) (t61n t61c : Nat), cellH h out4 = some (.slice t61 t61n t61c) ∧
let h1 : Heap := Array.push h (.cells #[.int .i64 v7, .int .i64 0] y73 (0, 0))
hwp PP (Builtin.append_ #[y54, y54] y54 #[(.slice t61 t61n t61c), (.slice (some ⟨Array.size h, 0, none⟩) 1 1)]) (fun v h2 => ∃ (t65 : OA) (t65n t65c : Nat), v = (.slice t65 t65n t65c) ∧
wr out4 (.slice t65 t65n t65c) (fun h3 =>
let t66 : Int := IntKind.i64.wrap (t59 + 1)
L3 xl0 xl0n xl0c out4 y55 i6 v7 t58 t66 K h3) h2) h1) (
K (.exit 4) (X4 xl0 xl0n xl0c out4 y55 i6) h)) : L3 xl0 xl0n xl0c out4 y55 i6 v7 t58 t59 K h := by unfold L3; exact Lp.of_txt (an 128188) 864691128455135473 (by kernel_rfl) H
theorem L3_X4 {K : EP} {xl0 : OA} {xl0n xl0c : Nat} {out4 : Addr} {y55 : Value} {i6 : Int} {h : Heap} (H :
L1 xl0 xl0n xl0c out4 y55 i6 K h) : (K7 K) (.exit 4) (X4 xl0 xl0n xl0c out4 y55 i6) h := y19 (by kernel_rfl) H
theorem door {xl0 : OA} {xl0n xl0c : Nat} {Q : VP} {h : Heap} (H :
let t11 : Bool := decide ((xl0n : Int) > 316)
br t11 (
J1 xl0 xl0n xl0c true Q h) (
SpecH PP z288 [(.slice xl0 xl0n xl0c)] h (fun v h1 => ∃ (t14 : Bool), v = (.bool t14) ∧
let t15 : Bool := (!t14)
J1 xl0 xl0n xl0c t15 Q h1))) : SpecH PP z278 [(.slice xl0 xl0n xl0c)] h Q :=
  y12 (ann := ann) Tryd.func51 rfl rfl (by kernel_rfl) H
end z277
namespace z179
def ann : Ann := (.seq 1 (rg 1 1) (.seq 9 (rg 3 9) (.seq 8 (rg 3 8) (.seq 4 (rg 2 4) (.exit 4)))))
theorem door {b0 : OA} {b0n b0c : Nat} {Q : VP} {h : Heap} (H :
let t5 : Addr := ⟨Array.size h, 0, none⟩
let h1 : Heap := Array.push h (.cells #[(.slice none 0 0), .int .i64 0] y170 (0, 0))
SpecH PP z192 [(.pointer (some t5)), (.slice b0 b0n b0c)] h1 (fun v h2 => ∃ (t8 : Int), v = (.int .i64 t8) ∧
Q (.pointer (some t5)) h2)) : SpecH PP z180 [(.slice b0 b0n b0c)] h Q :=
  y12 (ann := ann) Tryd.func52 rfl rfl (by kernel_rfl) H
end z179
namespace z259
def ann : Ann := (.seq 1 (rg 1 1) (.straight (.seq 1 .leaf (.seq 0 (.block (.loop 1 (.block (.seq 25 (rg 7 25) (.seq 9 (.seq 32793 (rg 2 32793) (.cond (.seq 4 (rg 2 4) (.exit 4)) .leaf)) (.seq 57 (rg 7 57) (.seq 41 (.seq 8388665 (rg 2 8388665) (.cond (.seq 4 (rg 2 4) (.exit 4)) .leaf)) (.seq 25 (.seq 33554441 (rg 1 33554441) (.block (.seq 100663305 (rg 2 100663305) (.cond (rg 3 25) (.seq 1107296265 (rg 2 1107296265) (.cond (rg 6 25) (.seq 137438953481 (rg 2 137438953481) (.cond (.seq 457 (rg 9 457) (.seq 217 (rg 2 217) (.seq 140737488355545 (rg 2 140737488355545) (.cond (rg 5 25) .leaf)))) (rg 1 25))))))))) (.join (.seq 9 (.seq 9007199254741017 (rg 2 9007199254741017) (.cond (.seq 4 (rg 2 4) (.exit 4)) .leaf)) (.seq 0 (.seq 72057594037927937 (rg 2 72057594037927937) (.cond (.exit 1) .leaf)) (.exit 0)))))))))))) (.seq 4 (rg 1 4) (.exit 4))))))
noncomputable abbrev cd := cdF Tryd.f53
abbrev an := anF ann
@[irreducible] def Xret (t2 : Int) : Fr := (mkFr 0 57 [(2, .int .i64 t2)])
@[irreducible] def X0  : Fr := (mkFr 0 57 [])
@[irreducible] def L1 (g0 : OA) (K : EP) (h : Heap) : Prop := Lp PP true (cd 104) (mkFr 0 57 [(0, .pointer g0)]) K h
@[irreducible] def B1 (K : EP) : EP := seqK (fun fr h => Lp PP true (cd 104) (fr.mask 1) K h) K
@[irreducible] def K2 (K : EP) : EP := blockK 1 (B1 K)
@[irreducible] def J1 (g0 : OA) (last3 e4 : Int) (K : EP) (h : Heap) : Prop := Jn PP true (cd 6687) (mkFr 0 57 [(0, .pointer g0), (3, .int .i64 last3), (4, .int .i64 e4)]) (K2 K) h
@[irreducible] def K4 (Q : VP) : EP := noGotoK (bodyK PP Tryd.f53 Q)
@[irreducible] def K3 (Q : VP) : EP := seqK (fun fr h => ev PP true none (cd 27) (an 27) (fr.mask 0) (K4 Q) h) (K4 Q)
@[irreducible] def K1 (Q : VP) : EP := blockK 0 (K3 Q)
theorem L1_of {g0 : OA} {K : EP} {h : Heap} (H :
SpecH PP z272 [.pointer g0, .int .i64 1] h (fun v h1 => ∃ (t11 t11_1 : Int), v = (.tuple #[.int .i64 t11, .int .i64 t11_1]) ∧
let t15 : Bool := (t11_1 != 0)
br t15 (
K .ret (Xret t11_1) h1) (
SpecH PP z272 [.pointer g0, .int .i64 2] h1 (fun v_1 h2 => ∃ (t19 t19_1 : Int), v_1 = (.tuple #[.int .i64 t19, .int .i64 t19_1]) ∧
let t23 : Bool := (t19_1 != 0)
br t23 (
K .ret (Xret t19_1) h2) (
let t27 : Bool := (t19 == 0)
br t27 (
SpecH PP z268 [.pointer g0] h2 (fun v_2 h3 => ∃ (t29 : Int), v_2 = (.int .i64 t29) ∧
J1 g0 t11 t29 K h3)) (
let t31 : Bool := (t19 == 1)
br t31 (
SpecH PP z256 [] h2 (fun v_3 h4 => ∃ (t33 : OA) (t33n t33c : Nat) (t33_1 : OA) (t33_1n t33_1c : Nat), v_3 = (.tuple #[(.slice t33 t33n t33c), (.slice t33_1 t33_1n t33_1c)]) ∧
SpecH PP z270 [.pointer g0, (.slice t33 t33n t33c), (.slice t33_1 t33_1n t33_1c)] h4 (fun v_4 h5 => ∃ (t36 : Int), v_4 = (.int .i64 t36) ∧
J1 g0 t11 t36 K h5))) (
let t38 : Bool := (t19 == 2)
br t38 (
SpecH PP z264 [.pointer g0] h2 (fun v_5 h6 => ∃ (t41 : OA) (t41n t41c : Nat) (t41_1 : OA) (t41_1n t41_1c : Nat) (t41_2 : Int), v_5 = (.tuple #[(.slice t41 t41n t41c), (.slice t41_1 t41_1n t41_1c), .int .i64 t41_2]) ∧
let t47 : Bool := (t41_2 == 0)
br t47 (
SpecH PP z270 [.pointer g0, (.slice t41 t41n t41c), (.slice t41_1 t41_1n t41_1c)] h6 (fun v_6 h7 => ∃ (t51 : Int), v_6 = (.int .i64 t51) ∧
J1 g0 t11 t51 K h7)) (
J1 g0 t11 t41_2 K h6))) (
J1 g0 t11 50 K h2)))))))) : L1 g0 K h := by unfold L1; exact Lp.of_txt (an 104) 1 (by kernel_rfl) H
theorem L1_Xret {Q : VP} {t2 : Int} {h : Heap} (H :
Q (.int .i64 t2) h) : (K1 Q) .ret (Xret t2) h := y19 (by kernel_rfl) H
theorem J1_of {g0 : OA} {last3 e4 : Int} {K : EP} {h : Heap} (H :
let t53 : Bool := (e4 != 0)
br t53 (
K .ret (Xret e4) h) (
let t56 : Bool := (last3 == 0)
br t56 (
L1 g0 K h) (
K (.exit 0) (X0) h))) : J1 g0 last3 e4 K h := by unfold J1; exact Jn.of_txt (an 6687) (by kernel_rfl) H
theorem L1_X0 {Q : VP}  {h : Heap} (H :
Q (.int .i64 0) h) : (K1 Q) (.exit 0) (X0 ) h := y19 (by kernel_rfl) H
theorem door {g0 : OA} {Q : VP} {h : Heap} (H :
L1 g0 (K1 Q) h) : SpecH PP z260 [.pointer g0] h Q :=
  y12 (ann := ann) Tryd.func53 rfl rfl (by kernel_rfl) H
end z259
namespace z295
def ann : Ann := (.seq 1 (rg 1 1) (.seq 8 (rg 4 8) (.seq 4 (rg 2 4) (.exit 4))))
theorem door {y9 : OA} {y6 y7 : Nat} {Q : VP} {h : Heap} (H :
hwp PP (Builtin.append_ #[y13, y13] y13 #[(.slice none 0 0), (.slice y9 y6 y7)]) (fun v h1 => ∃ (t5 : OA) (t5n t5c : Nat), v = (.slice t5 t5n t5c) ∧
let own3 : Addr := ⟨Array.size h1, 0, none⟩
let h2 : Heap := Array.push h1 (.cells #[(.slice none 0 0)] y13 (0, 0))
wr own3 (.slice t5 t5n t5c) (fun h3 =>
Q (.func (.func z298) #[] #[(.pointer (some own3))]) h3) h2) h) : SpecH PP z296 [(.slice y9 y6 y7)] h Q :=
  y12 (ann := ann) Tryd.func54 rfl rfl (by kernel_rfl) H
end z295
namespace z321
end z321
namespace z323
def ann : Ann := (.seq 3 (rg 2 3) (.seq 67 (rg 3 67) (.seq 195 (rg 3 195) (.seq 451 (rg 3 451) (.seq 963 (rg 3 963) (.seq 1987 (rg 4 1987) (.seq 2755 (rg 7 2755) (.seq 6851 (rg 3 6851) (.seq 12995 (rg 3 12995) (.seq 12931 (rg 6 12931) (.seq 19 (rg 9 19) (.seq 48 (rg 4 48) (.exit 48)))))))))))))
theorem door {x0 y1 : Int} {Q : VP} {h : Heap} (H :
let t15 : Int := bAnd .u64 x0 4294967295
let t17 : Int := sShr .u64 x0 32
let t19 : Int := bAnd .u64 y1 4294967295
let t21 : Int := sShr .u64 y1 32
let t24 : Int := IntKind.u64.wrap (t15 * t19)
let t27 : Int := IntKind.u64.wrap (t17 * t19)
let t29 : Int := sShr .u64 t24 32
let t30 : Int := IntKind.u64.wrap (t27 + t29)
let t32 : Int := bAnd .u64 t30 4294967295
let t34 : Int := sShr .u64 t30 32
let t38 : Int := IntKind.u64.wrap (t15 * t21)
let t39 : Int := IntKind.u64.wrap (t32 + t38)
let t42 : Int := IntKind.u64.wrap (t17 * t21)
let t44 : Int := IntKind.u64.wrap (t42 + t34)
let t46 : Int := sShr .u64 t39 32
let t47 : Int := IntKind.u64.wrap (t44 + t46)
let t50 : Int := IntKind.u64.wrap (x0 * y1)
Q (.tuple #[.int .u64 t47, .int .u64 t50]) h) : SpecH PP z324 [.int .u64 x0, .int .u64 y1] h Q :=
  y12 (ann := ann) Tryd.func56 rfl rfl (by kernel_rfl) H
end z323
namespace z225
def ann : Ann := (.seq 1 (rg 1 1) (.seq 1 (.seq 16385 (rg 8 16385) (.join (.cond (.seq 4 (rg 1 4) (.exit 4)) .leaf))) (.seq 25 (rg 2 25) (.seq 24 (.seq 229400 (rg 3 229400) (.block (.loop 229400 (.seq 491544 (rg 1 491544) (.seq 229400 (.cond .leaf (.exit 24)) (.seq 229400 (.block (.seq 229464 (rg 3 229464) (.seq 229464 (.seq 67338328 (rg 6 67338328) (.join (.cond (.seq 4 (rg 1 4) (.exit 4)) .leaf))) (.seq 268664920 (rg 2 268664920) (.cond (.seq 229464 (rg 3 229464) (rg 6 229400)) .leaf))))) (.join (rg 2 229400)))))))) (.seq 0 (.block (.seq 137438953496 (rg 3 137438953496) (.cond (.seq 4 (rg 1 4) (.exit 4)) (.seq 1099511627776 (rg 11 1099511627776) (.join (.cond (.seq 4 (rg 1 4) (.exit 4)) .leaf)))))) (.seq 4 (rg 1 4) (.exit 4)))))))
noncomputable abbrev cd := cdF Tryd.f57
abbrev an := anF ann
@[irreducible] def X0 (used3 sum4 : Int) : Fr := (mkFr 0 51 [(3, .int .i64 used3), (4, .int .i64 sum4)])
@[irreducible] def Xret (t2 : Int) : Fr := (mkFr 0 51 [(2, .int .i64 t2)])
@[irreducible] def K1 (Q : VP) : EP := seqK (fun fr h => ev PP true none (cd 7) (an 7) (fr.mask 1) (bodyK PP Tryd.f57 Q) h) (bodyK PP Tryd.f57 Q)
@[irreducible] def J1 (xl0 : OA) (xl0n xl0c : Nat) (t14 : Bool) (Q : VP) (h : Heap) : Prop := Jn PP true (cd 13) (mkFr 0 51 [(0, (.slice xl0 xl0n xl0c)), (14, .bool t14)]) (K1 Q) h
@[irreducible] def K3 (Q : VP) : EP := seqK (fun fr h => ev PP true none (cd 31) (an 31) (fr.mask 24) (bodyK PP Tryd.f57 Q) h) (bodyK PP Tryd.f57 Q)
@[irreducible] def K2 (Q : VP) : EP := blockK 0 (K3 Q)
@[irreducible] def L1 (used3 sum4 : Int) (t15 : OA) (t15n t15c : Nat) (t16 t17 : Int) (K : EP) (h : Heap) : Prop := Lp PP true (cd 244) (mkFr 0 51 [(3, .int .i64 used3), (4, .int .i64 sum4), (15, (.slice t15 t15n t15c)), (16, .int .i64 t16), (17, .int .i64 t17)]) K h
@[irreducible] def B1 (K : EP) : EP := seqK (fun fr h => Lp PP true (cd 244) (fr.mask 229400) K h) K
@[irreducible] def K8 (K : EP) : EP := seqK (fun fr h => Jn PP true (cd 1959) (fr.mask 229400) (B1 K) h) (B1 K)
@[irreducible] def K6 (K : EP) : EP := blockK 1 (K8 K)
@[irreducible] def K4 (K : EP) : EP := seqK (fun fr h => ev PP true none (cd 15667) (an 15667) (fr.mask 229464) (K6 K) h) (K6 K)
@[irreducible] def J2 (used3 sum4 xn6 : Int) (t15 : OA) (t15n t15c : Nat) (t16 t17 : Int) (t26 : Bool) (K : EP) (h : Heap) : Prop := Jn PP true (cd 31333) (mkFr 0 51 [(3, .int .i64 used3), (4, .int .i64 sum4), (6, .int .i64 xn6), (15, (.slice t15 t15n t15c)), (16, .int .i64 t16), (17, .int .i64 t17), (26, .bool t26)]) (K4 K) h
@[irreducible] def K7 (Q : VP) : EP := seqK (fun fr h => ev PP true none (cd 63) (an 63) (fr.mask 0) (bodyK PP Tryd.f57 Q) h) (bodyK PP Tryd.f57 Q)
@[irreducible] def K5 (Q : VP) : EP := blockK 2 (K7 Q)
@[irreducible] def J3 (t40 : Bool) (Q : VP) (h : Heap) : Prop := Jn PP true (cd 999) (mkFr 0 51 [(40, .bool t40)]) (K5 Q) h
@[irreducible] def J4 (used3 sum4 : Int) (t15 : OA) (t15n t15c : Nat) (t16 t17 : Int) (K : EP) (h : Heap) : Prop := Jn PP true (cd 1959) (mkFr 0 51 [(3, .int .i64 used3), (4, .int .i64 sum4), (15, (.slice t15 t15n t15c)), (16, .int .i64 t16), (17, .int .i64 t17)]) (B1 K) h
theorem J1_of {xl0 : OA} {xl0n xl0c : Nat} {t14 : Bool} {Q : VP} {h : Heap} (H :
br t14 (
Q (.int .i64 1) h) (
L1 0 0 xl0 xl0n xl0c (xl0n : Int) 0 (K2 Q) h)) : J1 xl0 xl0n xl0c t14 Q h := by unfold J1; exact Jn.of_txt (an 13) (by kernel_rfl) H
theorem L1_of {used3 sum4 : Int} {t15 : OA} {t15n t15c : Nat} {t16 t17 : Int} {K : EP} {h : Heap} (H :
let t18 : Bool := decide (t17 < t16)
br t18 (
hwp PP (Instr.indexAt y14 (.slice t15 t15n t15c) (.int .i64 t17)) (fun v h1 => ∃ (t19 : Addr), v = (.pointer (some t19)) ∧
∃ (t20 : Int), cellH h1 t19 = some (.int .i64 t20) ∧
let t22 : Bool := decide (t20 < 0)
br t22 (
J2 used3 sum4 t20 t15 t15n t15c t16 t17 true K h1) (
let t25 : Bool := decide (t20 > 15)
J2 used3 sum4 t20 t15 t15n t15c t16 t17 t25 K h1)) h) (
K (.exit 0) (X0 used3 sum4) h)) : L1 used3 sum4 t15 t15n t15c t16 t17 K h := by unfold L1; exact Lp.of_txt (an 244) 229400 (by kernel_rfl) H
theorem L1_X0 {Q : VP} {used3 sum4 : Int} {h : Heap} (H :
let t39 : Bool := decide (sum4 > 32768)
br t39 (
Q (.int .i64 30) h) (
let t42 : Bool := decide (sum4 < 32768)
br t42 (
let t45 : Bool := (used3 != 1)
br t45 (
J3 true Q h) (
let t48 : Bool := (sum4 != 16384)
J3 t48 Q h)) (
J3 false Q h))) : (K2 Q) (.exit 0) (X0 used3 sum4) h := y19 (by kernel_rfl) H
theorem J2_of {used3 sum4 xn6 : Int} {t15 : OA} {t15n t15c : Nat} {t16 t17 : Int} {t26 : Bool} {K : EP} {h : Heap} (H :
br t26 (
K .ret (Xret 1) h) (
let t28 : Bool := decide (xn6 > 0)
br t28 (
let t30 : Int := IntKind.i64.wrap (used3 + 1)
let t33 : Int := IntKind.i64.wrap (15 - xn6)
br (decide (0 ≤ t33)) (
let t34 : Int := sShl .i64 1 t33
let t35 : Int := IntKind.i64.wrap (sum4 + t34)
J4 t30 t35 t15 t15n t15c t16 t17 K h) False) (
J4 used3 sum4 t15 t15n t15c t16 t17 K h))) : J2 used3 sum4 xn6 t15 t15n t15c t16 t17 t26 K h := by unfold J2; exact Jn.of_txt (an 31333) (by kernel_rfl) H
theorem J3_of {t40 : Bool} {Q : VP} {h : Heap} (H :
br t40 (
Q (.int .i64 31) h) (
Q (.int .i64 0) h)) : J3 t40 Q h := by unfold J3; exact Jn.of_txt (an 999) (by kernel_rfl) H
theorem J4_of {used3 sum4 : Int} {t15 : OA} {t15n t15c : Nat} {t16 t17 : Int} {K : EP} {h : Heap} (H :
let t36 : Int := IntKind.i64.wrap (t17 + 1)
L1 used3 sum4 t15 t15n t15c t16 t36 K h) : J4 used3 sum4 t15 t15n t15c t16 t17 K h := by unfold J4; exact Jn.of_txt (an 1959) (by kernel_rfl) H
theorem door {xl0 : OA} {xl0n xl0c : Nat} {Q : VP} {h : Heap} (H :
let t9 : Bool := ((xl0n : Int) == 0)
br t9 (
J1 xl0 xl0n xl0c true Q h) (
let t13 : Bool := decide ((xl0n : Int) > 288)
J1 xl0 xl0n xl0c t13 Q h)) : SpecH PP z226 [(.slice xl0 xl0n xl0c)] h Q :=
  y12 (ann := ann) Tryd.func57 rfl rfl (by kernel_rfl) H
end z225
namespace z237
def ann : Ann := (.seq 13 (rg 2 13) (.seq 12 (.seq 1804 (rg 3 1804) (.block (.loop 1804 (.seq 3852 (rg 1 3852) (.seq 1804 (.cond .leaf (.exit 12)) (.seq 1804 (.block (.seq 1836 (rg 3 1836) (.seq 34604 (rg 2 34604) (.cond (rg 6 1804) .leaf)))) (.join (rg 2 1804)))))))) (.seq 76 (rg 1 76) (.seq 12 (.seq 204 (rg 1 204) (.block (.loop 204 (.seq 204 (.seq 8388812 (rg 2 8388812) (.cond .leaf (.exit 12))) (.seq 204 (.block (.seq 204 (rg 8 204) (rg 4 204))) (rg 3 204)))))) (.seq 12 (.tree (.run [0] (.alt 1 (.run [2, 3] .done) (.alt 2 (.run [1, 3] .done) .nil))) 12) (.exit 12))))))
noncomputable abbrev cd := cdF Tryd.f58
abbrev an := anF ann
@[irreducible] def X0 (code2 y67 : Addr) : Fr := (mkFr 0 38 [(2, (.pointer (some code2))), (3, (.pointer (some y67)))])
@[irreducible] def X2 (code2 y67 : Addr) : Fr := (mkFr 0 38 [(2, (.pointer (some code2))), (3, (.pointer (some y67)))])
@[irreducible] def L1 (code2 y67 : Addr) (t8 : OA) (t8n t8c : Nat) (t9 t10 : Int) (K : EP) (h : Heap) : Prop := Lp PP true (cd 52) (mkFr 0 38 [(2, (.pointer (some code2))), (3, (.pointer (some y67))), (8, (.slice t8 t8n t8c)), (9, .int .i64 t9), (10, .int .i64 t10)]) K h
@[irreducible] def B1 (K : EP) : EP := seqK (fun fr h => Lp PP true (cd 52) (fr.mask 1804) K h) K
@[irreducible] def J1 (code2 y67 : Addr) (t8 : OA) (t8n t8c : Nat) (t9 t10 : Int) (K : EP) (h : Heap) : Prop := Jn PP true (cd 423) (mkFr 0 38 [(2, (.pointer (some code2))), (3, (.pointer (some y67))), (8, (.slice t8 t8n t8c)), (9, .int .i64 t9), (10, .int .i64 t10)]) (B1 K) h
@[irreducible] def K3 (Q : VP) : EP := seqK (fun fr h => ev PP true none (cd 7) (an 7) (fr.mask 12) (bodyK PP Tryd.f58 Q) h) (bodyK PP Tryd.f58 Q)
@[irreducible] def K1 (Q : VP) : EP := blockK 0 (K3 Q)
@[irreducible] def K4 (Q : VP) : EP := seqK (fun fr h => ev PP true none (cd 31) (an 31) (fr.mask 12) (bodyK PP Tryd.f58 Q) h) (bodyK PP Tryd.f58 Q)
@[irreducible] def K2 (Q : VP) : EP := blockK 2 (K4 Q)
@[irreducible] def L2 (code2 y67 : Addr) (c6 xn7 : Int) (K : EP) (h : Heap) : Prop := Lp PP true (cd 244) (mkFr 0 38 [(2, (.pointer (some code2))), (3, (.pointer (some y67))), (6, .int .i64 c6), (7, .int .i64 xn7)]) K h
theorem L1_of {code2 y67 : Addr} {t8 : OA} {t8n t8c : Nat} {t9 t10 : Int} {K : EP} {h : Heap} (H :
let t11 : Bool := decide (t10 < t9)
br t11 (
hwp PP (Instr.indexAt y14 (.slice t8 t8n t8c) (.int .i64 t10)) (fun v h1 => ∃ (t12 : Addr), v = (.pointer (some t12)) ∧
∃ (t13 : Int), cellH h1 t12 = some (.int .i64 t13) ∧
let t15 : Bool := decide (t13 > 0)
br t15 (
hwp PP (Instr.indexAt y64 (.pointer (some y67)) (.int .i64 t13)) (fun v_1 h2 => ∃ (t17 : Addr), v_1 = (.pointer (some t17)) ∧
∃ (t18 : Int), cellH h2 t17 = some (.int .i64 t18) ∧
let t19 : Int := IntKind.i64.wrap (t18 + 1)
hwp PP (Instr.indexAt y64 (.pointer (some y67)) (.int .i64 t13)) (fun v_2 h3 => ∃ (t20 : Addr), v_2 = (.pointer (some t20)) ∧
wr t20 (.int .i64 t19) (fun h4 =>
J1 code2 y67 t8 t8n t8c t9 t10 K h4) h3) h2) h1) (
J1 code2 y67 t8 t8n t8c t9 t10 K h1)) h) (
K (.exit 0) (X0 code2 y67) h)) : L1 code2 y67 t8 t8n t8c t9 t10 K h := by unfold L1; exact Lp.of_txt (an 52) 1804 (by kernel_rfl) H
theorem L1_X0 {Q : VP} {code2 y67 : Addr} {h : Heap} (H :
L2 code2 y67 0 1 (K2 Q) h) : (K1 Q) (.exit 0) (X0 code2 y67) h := y19 (by kernel_rfl) H
theorem J1_of {code2 y67 : Addr} {t8 : OA} {t8n t8c : Nat} {t9 t10 : Int} {K : EP} {h : Heap} (H :
let t21 : Int := IntKind.i64.wrap (t10 + 1)
L1 code2 y67 t8 t8n t8c t9 t21 K h) : J1 code2 y67 t8 t8n t8c t9 t10 K h := by unfold J1; exact Jn.of_txt (an 423) (by kernel_rfl) H
theorem L2_of {code2 y67 : Addr} {c6 xn7 : Int} {K : EP} {h : Heap} (H :
let t23 : Bool := decide (xn7 ≤ 15)
br t23 (
let t28 : Int := IntKind.i64.wrap (xn7 - 1)
hwp PP (Instr.indexAt y64 (.pointer (some y67)) (.int .i64 t28)) (fun v h1 => ∃ (t29 : Addr), v = (.pointer (some t29)) ∧
∃ (t30 : Int), cellH h1 t29 = some (.int .i64 t30) ∧
let t31 : Int := IntKind.i64.wrap (c6 + t30)
let t32 : Int := sShl .i64 t31 1
hwp PP (Instr.indexAt y64 (.pointer (some code2)) (.int .i64 xn7)) (fun v_1 h2 => ∃ (t35 : Addr), v_1 = (.pointer (some t35)) ∧
wr t35 (.int .i64 t32) (fun h3 =>
let t25 : Int := IntKind.i64.wrap (xn7 + 1)
L2 code2 y67 t32 t25 K h3) h2) h1) h) (
K (.exit 2) (X2 code2 y67) h)) : L2 code2 y67 c6 xn7 K h := by unfold L2; exact Lp.of_txt (an 244) 204 (by kernel_rfl) H
theorem L2_X2 {Q : VP} {code2 y67 : Addr} {h : Heap} (H :
∃ (t36 : List Value), List.length t36 = 16 ∧ rdCells h code2 0 t36 ∧
(
∃ (t37_1 : List Value), List.length t37_1 = 16 ∧ rdCells h y67 0 t37_1 ∧
br (decide (Array.size (List.toArray t36) = 16)) (wrCells code2 0 t36 (fun h3 =>
br (decide (Array.size (List.toArray t37_1) = 16)) (wrCells y67 0 t37_1 (fun h4 =>
∃ (code2_2 : List Value), List.length code2_2 = 16 ∧ rdCells h4 code2 0 code2_2 ∧
∃ (count3_2 : List Value), List.length count3_2 = 16 ∧ rdCells h4 y67 0 count3_2 ∧
Q (.tuple #[(.agg (code2_2).toArray), (.agg (count3_2).toArray)]) h4) h3) False) h) False) ∧
(
br (decide (Array.size (List.toArray t36) = 16)) (wrCells code2 0 t36 (fun h1 =>
∃ (t37 : List Value), List.length t37 = 16 ∧ rdCells h1 y67 0 t37 ∧
br (decide (Array.size (List.toArray t37) = 16)) (wrCells y67 0 t37 (fun h2 =>
∃ (code2_1 : List Value), List.length code2_1 = 16 ∧ rdCells h2 code2 0 code2_1 ∧
∃ (count3_1 : List Value), List.length count3_1 = 16 ∧ rdCells h2 y67 0 count3_1 ∧
Q (.tuple #[(.agg (code2_1).toArray), (.agg (count3_1).toArray)]) h2) h1) False) h) False) ∧
True) : (K2 Q) (.exit 2) (X2 code2 y67) h := y19 (by kernel_rfl) H
theorem door {xl0 : OA} {xl0n xl0c : Nat} {Q : VP} {h : Heap} (H :
let code2 : Addr := ⟨Array.size h, 0, none⟩
let h1 : Heap := Array.push h (.cells (Array.replicate 16 (.int .i64 0)) y64 (0, 0))
let y67 : Addr := ⟨Array.size h1, 0, none⟩
let h2 : Heap := Array.push h1 (.cells (Array.replicate 16 (.int .i64 0)) y64 (0, 0))
L1 code2 y67 xl0 xl0n xl0c (xl0n : Int) 0 (K1 Q) h2) : SpecH PP z238 [(.slice xl0 xl0n xl0c)] h Q :=
  y12 (ann := ann) Tryd.func58 rfl rfl (by kernel_rfl) H
end z237
namespace z239
def ann : Ann := (.seq 3 (rg 1 3) (.seq 35 (rg 1 35) (.seq 32 (.seq 225 (rg 2 225) (.block (.loop 225 (.seq 481 (rg 1 481) (.seq 225 (.cond .leaf (.exit 32)) (.seq 225 (.block (.seq 225 (rg 7 225) (rg 3 225))) (rg 2 225))))))) (.seq 16 (rg 2 16) (.exit 16)))))
noncomputable abbrev cd := cdF Tryd.f59
abbrev an := anF ann
@[irreducible] def X0 (v5 : Int) : Fr := (mkFr 0 19 [(5, .int .u32 v5)])
@[irreducible] def L1 (c0 v5 t6 t7 : Int) (K : EP) (h : Heap) : Prop := Lp PP true (cd 116) (mkFr 0 19 [(0, .int .i64 c0), (5, .int .u32 v5), (6, .int .i64 t6), (7, .int .i64 t7)]) K h
@[irreducible] def K2 (Q : VP) : EP := seqK (fun fr h => ev PP true none (cd 15) (an 15) (fr.mask 32) (bodyK PP Tryd.f59 Q) h) (bodyK PP Tryd.f59 Q)
@[irreducible] def K1 (Q : VP) : EP := blockK 0 (K2 Q)
theorem L1_of {c0 v5 t6 t7 : Int} {K : EP} {h : Heap} (H :
let t8 : Bool := decide (t7 < t6)
br t8 (
let t10 : Int := sShl .u32 v5 1
let t12 : Int := bAnd .i64 c0 1
let t13 : Int := IntKind.u32.wrap t12
let t14 : Int := bOr .u32 t10 t13
let t16 : Int := sShr .i64 c0 1
let t17 : Int := IntKind.i64.wrap (t7 + 1)
L1 t16 t14 t6 t17 K h) (
K (.exit 0) (X0 v5) h)) : L1 c0 v5 t6 t7 K h := by unfold L1; exact Lp.of_txt (an 116) 225 (by kernel_rfl) H
theorem L1_X0 {Q : VP} {v5 : Int} {h : Heap} (H :
Q (.int .u32 v5) h) : (K1 Q) (.exit 0) (X0 v5) h := y19 (by kernel_rfl) H
theorem door {c0 xn1 : Int} {Q : VP} {h : Heap} (H :
L1 c0 0 xn1 0 (K1 Q) h) : SpecH PP z240 [.int .i64 c0, .int .i64 xn1] h Q :=
  y12 (ann := ann) Tryd.func59 rfl rfl (by kernel_rfl) H
end z239
namespace z315
end z315
namespace z317
def ann : Ann := (.seq 5 (rg 1 5) (.seq 5 (.seq 21 (rg 2 21) (.cond (.seq 1 (rg 3 1) (rg 1 5)) .leaf)) (.join (.seq 5 (.seq 261 (rg 2 261) (.cond (.seq 5 (rg 3 5) (rg 3 5)) .leaf)) (.join (.seq 5 (.seq 16389 (rg 2 16389) (.cond (.seq 5 (rg 3 5) (rg 3 5)) .leaf)) (.join (.seq 4 (rg 7 4) (.exit 4)))))))))
noncomputable abbrev cd := cdF Tryd.f61
abbrev an := anF ann
@[irreducible] def J1 (x0 xn2 : Int) (Q : VP) (h : Heap) : Prop := Jn PP true (cd 7) (mkFr 0 25 [(0, .int .u64 x0), (2, .int .i64 xn2)]) (bodyK PP Tryd.f61 Q) h
@[irreducible] def J2 (x0 xn2 : Int) (Q : VP) (h : Heap) : Prop := Jn PP true (cd 15) (mkFr 0 25 [(0, .int .u64 x0), (2, .int .i64 xn2)]) (bodyK PP Tryd.f61 Q) h
@[irreducible] def J3 (x0 xn2 : Int) (Q : VP) (h : Heap) : Prop := Jn PP true (cd 31) (mkFr 0 25 [(0, .int .u64 x0), (2, .int .i64 xn2)]) (bodyK PP Tryd.f61 Q) h
theorem J1_of {x0 xn2 : Int} {Q : VP} {h : Heap} (H :
let t8 : Bool := decide (x0 ≥ 65536)
br t8 (
let t10 : Int := sShr .u64 x0 16
let t12 : Int := IntKind.i64.wrap (xn2 + 16)
J2 t10 t12 Q h) (
J2 x0 xn2 Q h)) : J1 x0 xn2 Q h := by unfold J1; exact Jn.of_txt (an 7) (by kernel_rfl) H
theorem J2_of {x0 xn2 : Int} {Q : VP} {h : Heap} (H :
let t14 : Bool := decide (x0 ≥ 256)
br t14 (
let t16 : Int := sShr .u64 x0 8
let t18 : Int := IntKind.i64.wrap (xn2 + 8)
J3 t16 t18 Q h) (
J3 x0 xn2 Q h)) : J2 x0 xn2 Q h := by unfold J2; exact Jn.of_txt (an 15) (by kernel_rfl) H
theorem J3_of {x0 xn2 : Int} {Q : VP} {h : Heap} (H :
let t21 : Int := IntKind.u8.wrap x0
hwp PP (Instr.index T_string (.string (⟨#[0, 1, 2, 2, 3, 3, 3, 3, 4, 4, 4, 4, 4, 4, 4, 4, 5, 5, 5, 5, 5, 5, 5, 5, 5, 5, 5, 5, 5, 5, 5, 5, 6, 6, 6, 6, 6, 6, 6, 6, 6, 6, 6, 6, 6, 6, 6, 6, 6, 6, 6, 6, 6, 6, 6, 6, 6, 6, 6, 6, 6, 6, 6, 6, 7, 7, 7, 7, 7, 7, 7, 7, 7, 7, 7, 7, 7, 7, 7, 7, 7, 7, 7, 7, 7, 7, 7, 7, 7, 7, 7, 7, 7, 7, 7, 7, 7, 7, 7, 7, 7, 7, 7, 7, 7, 7, 7, 7, 7, 7, 7, 7, 7, 7, 7, 7, 7, 7, 7, 7, 7, 7, 7, 7, 7, 7, 7, 7, 8, 8, 8, 8, 8, 8, 8, 8, 8, 8, 8, 8, 8, 8, 8, 8, 8, 8, 8, 8, 8, 8, 8, 8, 8, 8, 8, 8, 8, 8, 8, 8, 8, 8, 8, 8, 8, 8, 8, 8, 8, 8, 8, 8, 8, 8, 8, 8, 8, 8, 8, 8, 8, 8, 8, 8, 8, 8, 8, 8, 8, 8, 8, 8, 8, 8, 8, 8, 8, 8, 8, 8, 8, 8, 8, 8, 8, 8, 8, 8, 8, 8, 8, 8, 8, 8, 8, 8, 8, 8, 8, 8, 8, 8, 8, 8, 8, 8, 8, 8, 8, 8, 8, 8, 8, 8, 8, 8, 8, 8, 8, 8, 8, 8, 8, 8, 8, 8, 8, 8, 8, 8, 8, 8, 8, 8, 8, 8]⟩ : ByteArray)) (.int .u8 t21)) (fun v h1 => ∃ (t22 : Int), v = (.int .u8 t22) ∧
let t23 : Int := IntKind.i64.wrap t22
let t24 : Int := IntKind.i64.wrap (xn2 + t23)
Q (.int .i64 t24) h1) h) : J3 x0 xn2 Q h := by unfold J3; exact Jn.of_txt (an 31) (by kernel_rfl) H
theorem door {x0 : Int} {Q : VP} {h : Heap} (H :
let t4 : Bool := decide (x0 ≥ 4294967296)
br t4 (
let t6 : Int := sShr .u64 x0 32
J1 t6 32 Q h) (
J1 x0 0 Q h)) : SpecH PP z318 [.int .u64 x0] h Q :=
  y12 (ann := ann) Tryd.func61 rfl rfl (by kernel_rfl) H
end z317
namespace z349
def ann : Ann := (.seq 71 (rg 1 71) (.seq 455 (rg 3 455) (.seq 199 (.block (.loop 455 (.seq 455 (.seq 8647 (rg 3 8647) (.cond .leaf (.exit 199))) (.block (.seq 327 (rg 5 327) (.seq 455 (rg 2 455) (rg 4 455))))))) (.seq 71 (rg 5 71) (.block (.loop 71 (.seq 71 (.seq 1073741895 (rg 3 1073741895) (.cond .leaf (.exit 0))) (.block (.seq 455 (rg 4 455) (.seq 199 (.block (.loop 455 (.seq 455 (.seq 34359738823 (rg 3 34359738823) (.cond .leaf (.exit 199))) (.block (.seq 327 (rg 8 327) (.seq 455 (rg 2 455) (rg 5 455))))))) (.seq 71 (.seq 711 (rg 4 711) (.seq 18014398509482695 (rg 3 18014398509482695) (.cond (rg 6 71) .leaf))) (.join (rg 3 71)))))))))))))
noncomputable abbrev cd := cdF Tryd.f62
abbrev an := anF ann
@[irreducible] def X0 (y9 : OA) (y6 y7 : Nat) (xn1 : Int) (cmp2 : Value) (y31 a7 : Int) : Fr := (mkFr 0 63 [(0, (.slice y9 y6 y7)), (1, .int .i64 xn1), (2, cmp2), (6, .int .i64 y31), (7, .int .i64 a7)])
@[irreducible] def X2  : Fr := (mkFr 0 63 [])
@[irreducible] def X4 (y9 : OA) (y6 y7 : Nat) (xn1 : Int) (cmp2 : Value) (y31 a7 : Int) : Fr := (mkFr 0 63 [(0, (.slice y9 y6 y7)), (1, .int .i64 xn1), (2, cmp2), (6, .int .i64 y31), (7, .int .i64 a7)])
@[irreducible] def L1 (y9 : OA) (y6 y7 : Nat) (xn1 : Int) (cmp2 : Value) (y31 a7 b8 : Int) (K : EP) (h : Heap) : Prop := Lp PP true (cd 56) (mkFr 0 63 [(0, (.slice y9 y6 y7)), (1, .int .i64 xn1), (2, cmp2), (6, .int .i64 y31), (7, .int .i64 a7), (8, .int .i64 b8)]) K h
@[irreducible] def K3 (Q : VP) : EP := seqK (fun fr h => ev PP true none (cd 15) (an 15) (fr.mask 199) (bodyK PP Tryd.f62 Q) h) (bodyK PP Tryd.f62 Q)
@[irreducible] def K1 (Q : VP) : EP := blockK 0 (K3 Q)
@[irreducible] def K2 (Q : VP) : EP := blockK 2 (bodyK PP Tryd.f62 Q)
@[irreducible] def L2 (y9 : OA) (y6 y7 : Nat) (xn1 : Int) (cmp2 : Value) (y31 : Int) (K : EP) (h : Heap) : Prop := Lp PP true (cd 124) (mkFr 0 63 [(0, (.slice y9 y6 y7)), (1, .int .i64 xn1), (2, cmp2), (6, .int .i64 y31)]) K h
@[irreducible] def B2 (K : EP) : EP := seqK (fun fr h => Lp PP true (cd 124) (fr.mask 71) K h) K
@[irreducible] def K6 (K : EP) : EP := blockK 3 (B2 K)
@[irreducible] def K5 (K : EP) : EP := seqK (fun fr h => ev PP true none (cd 1995) (an 1995) (fr.mask 199) (K6 K) h) (K6 K)
@[irreducible] def K4 (K : EP) : EP := blockK 4 (K5 K)
@[irreducible] def L3 (y9 : OA) (y6 y7 : Nat) (xn1 : Int) (cmp2 : Value) (y31 a7 b8 : Int) (K : EP) (h : Heap) : Prop := Lp PP true (cd 7976) (mkFr 0 63 [(0, (.slice y9 y6 y7)), (1, .int .i64 xn1), (2, cmp2), (6, .int .i64 y31), (7, .int .i64 a7), (8, .int .i64 b8)]) K h
@[irreducible] def J1 (y9 : OA) (y6 y7 : Nat) (xn1 : Int) (cmp2 : Value) (y31 : Int) (K : EP) (h : Heap) : Prop := Jn PP true (cd 3991) (mkFr 0 63 [(0, (.slice y9 y6 y7)), (1, .int .i64 xn1), (2, cmp2), (6, .int .i64 y31)]) (K6 K) h
theorem L1_of {y9 : OA} {y6 y7 : Nat} {xn1 : Int} {cmp2 : Value} {y31 a7 b8 : Int} {K : EP} {h : Heap} (H :
let t13 : Bool := decide (b8 ≤ xn1)
br t13 (
SpecH PP z346 [(.slice y9 y6 y7), .int .i64 a7, .int .i64 b8, cmp2] h (fun v h1 => v = (.tuple #[]) ∧
let t22 : Int := IntKind.i64.wrap (b8 + y31)
L1 y9 y6 y7 xn1 cmp2 y31 b8 t22 K h1)) (
K (.exit 0) (X0 y9 y6 y7 xn1 cmp2 y31 a7) h)) : L1 y9 y6 y7 xn1 cmp2 y31 a7 b8 K h := by unfold L1; exact Lp.of_txt (an 56) 455 (by kernel_rfl) H
theorem L1_X0 {Q : VP} {y9 : OA} {y6 y7 : Nat} {xn1 : Int} {cmp2 : Value} {y31 a7 : Int} {h : Heap} (H :
SpecH PP z346 [(.slice y9 y6 y7), .int .i64 a7, .int .i64 xn1, cmp2] h (fun v h1 => v = (.tuple #[]) ∧
L2 y9 y6 y7 xn1 cmp2 y31 (K2 Q) h1)) : (K1 Q) (.exit 0) (X0 y9 y6 y7 xn1 cmp2 y31 a7) h := y19 (by kernel_rfl) H
theorem L2_of {y9 : OA} {y6 y7 : Nat} {xn1 : Int} {cmp2 : Value} {y31 : Int} {K : EP} {h : Heap} (H :
let t30 : Bool := decide (y31 < xn1)
br t30 (
let t32 : Int := IntKind.i64.wrap (2 * y31)
L3 y9 y6 y7 xn1 cmp2 y31 0 t32 (K4 K) h) (
K (.exit 2) (X2) h)) : L2 y9 y6 y7 xn1 cmp2 y31 K h := by unfold L2; exact Lp.of_txt (an 124) 71 (by kernel_rfl) H
theorem L2_X2 {Q : VP}  {h : Heap} (H :
Q (.tuple #[]) h) : (K2 Q) (.exit 2) (X2 ) h := y19 (by kernel_rfl) H
theorem L3_of {y9 : OA} {y6 y7 : Nat} {xn1 : Int} {cmp2 : Value} {y31 a7 b8 : Int} {K : EP} {h : Heap} (H :
let t35 : Bool := decide (b8 ≤ xn1)
br t35 (
let t40 : Int := IntKind.i64.wrap (a7 + y31)
SpecH PP z354 [(.slice y9 y6 y7), .int .i64 a7, .int .i64 t40, .int .i64 b8, cmp2] h (fun v h1 => v = (.tuple #[]) ∧
let t47 : Int := IntKind.i64.wrap (2 * y31)
let t48 : Int := IntKind.i64.wrap (b8 + t47)
L3 y9 y6 y7 xn1 cmp2 y31 b8 t48 K h1)) (
K (.exit 4) (X4 y9 y6 y7 xn1 cmp2 y31 a7) h)) : L3 y9 y6 y7 xn1 cmp2 y31 a7 b8 K h := by unfold L3; exact Lp.of_txt (an 7976) 455 (by kernel_rfl) H
theorem L3_X4 {K : EP} {y9 : OA} {y6 y7 : Nat} {xn1 : Int} {cmp2 : Value} {y31 a7 : Int} {h : Heap} (H :
let t51 : Int := IntKind.i64.wrap (a7 + y31)
let t54 : Bool := decide (t51 < xn1)
br t54 (
SpecH PP z354 [(.slice y9 y6 y7), .int .i64 a7, .int .i64 t51, .int .i64 xn1, cmp2] h (fun v h1 => v = (.tuple #[]) ∧
J1 y9 y6 y7 xn1 cmp2 y31 K h1)) (
J1 y9 y6 y7 xn1 cmp2 y31 K h)) : (K4 K) (.exit 4) (X4 y9 y6 y7 xn1 cmp2 y31 a7) h := y19 (by kernel_rfl) H
theorem J1_of {y9 : OA} {y6 y7 : Nat} {xn1 : Int} {cmp2 : Value} {y31 : Int} {K : EP} {h : Heap} (H :
let t62 : Int := IntKind.i64.wrap (y31 * 2)
L2 y9 y6 y7 xn1 cmp2 t62 K h) : J1 y9 y6 y7 xn1 cmp2 y31 K h := by unfold J1; exact Jn.of_txt (an 3991) (by kernel_rfl) H
theorem door {y9 : OA} {y6 y7 : Nat} {xn1 : Int} {cmp2 : Value} {Q : VP} {h : Heap} (H :
L1 y9 y6 y7 xn1 cmp2 20 0 20 (K1 Q) h) : SpecH PP z350 [(.slice y9 y6 y7), .int .i64 xn1, cmp2] h Q :=
  y12 (ann := ann) Tryd.func62 rfl rfl (by kernel_rfl) H
end z349
namespace z333
def ann : Ann := (.seq 3 (rg 1 3) (.seq 16 (rg 5 16) (.exit 16)))
theorem door {s0 : OA} {s0n s0c : Nat} {f1 : Value} {Q : VP} {h : Heap} (H :
SpecH PP z338 [(.slice s0 s0n s0c), f1] h (fun v h1 => ∃ (t7 : Int), v = (.int .i64 t7) ∧
let t8 : Bool := decide (t7 ≥ 0)
Q (.bool t8) h1)) : SpecH PP z334 [(.slice s0 s0n s0c), f1] h Q :=
  y12 (ann := ann) Tryd.func63 rfl rfl (by kernel_rfl) H
end z333
namespace z289
def ann : Ann := (.seq 1 (rg 1 1) (.seq 4 (rg 7 4) (.exit 4)))
theorem door {xn0 : Int} {Q : VP} {h : Heap} (H :
let t4 : Bool := decide (xn0 < 0)
br t4 (
Q (.bool true) h) (
let t7 : Bool := decide (xn0 > 15)
Q (.bool t7) h)) : SpecH PP z290 [.int .i64 xn0] h Q :=
  y12 (ann := ann) Tryd.func64 rfl rfl (by kernel_rfl) H
end z289
namespace z279
def ann : Ann := (.seq 15 (rg 1 15) (.seq 1 (.block (.loop 15 (.seq 15 (.seq 8207 (rg 5 8207) (.cond .leaf (.exit 1))) (.block (.seq 271 (rg 4 271) (.seq 271 (rg 11 271) (rg 4 15))))))) (.seq 128 (rg 2 128) (.exit 128))))
noncomputable abbrev cd := cdF Tryd.f65
abbrev an := anF ann
@[irreducible] def X0 (xn0 : Int) : Fr := (mkFr 0 31 [(0, .int .i64 xn0)])
@[irreducible] def L1 (xn0 sym1 top2 : Int) (t3 : Addr) (K : EP) (h : Heap) : Prop := Lp PP true (cd 24) (mkFr 0 31 [(0, .int .i64 xn0), (1, .int .i64 sym1), (2, .int .i64 top2), (3, (.pointer (some t3)))]) K h
@[irreducible] def K2 (Q : VP) : EP := seqK (fun fr h => ev PP true none (cd 7) (an 7) (fr.mask 1) (bodyK PP Tryd.f65 Q) h) (bodyK PP Tryd.f65 Q)
@[irreducible] def K1 (Q : VP) : EP := blockK 0 (K2 Q)
theorem L1_of {xn0 sym1 top2 : Int} {t3 : Addr} {K : EP} {h : Heap} (H :
hwp PP (Instr.indexAt y98 (.pointer (some ⟨G_lens_from, 0, none⟩)) (.int .i64 sym1)) (fun v h1 => ∃ (t11 : Addr), v = (.pointer (some t11)) ∧
∃ (t12 : Int), cellH h1 t11 = some (.int .i64 t12) ∧
let t13 : Bool := decide (xn0 ≥ t12)
br t13 (
let t16 : Int := (if top2 < xn0 then top2 else xn0)
∃ (t17 : OA) (t17n t17c : Nat), cellH h1 t3 = some (.slice t17 t17n t17c) ∧
hwp PP (Instr.indexAt y98 (.pointer (some ⟨G_lens_from, 0, none⟩)) (.int .i64 sym1)) (fun v_1 h2 => ∃ (t21 : Addr), v_1 = (.pointer (some t21)) ∧
∃ (t22 : Int), cellH h2 t21 = some (.int .i64 t22) ∧
let t23 : Int := IntKind.i64.wrap (t16 - t22)
let h3 : Heap := Array.push h2 (.cells #[.int .i64 sym1, .int .i64 t23] y73 (0, 0))
hwp PP (Builtin.append_ #[y54, y54] y54 #[(.slice t17 t17n t17c), (.slice (some ⟨Array.size h2, 0, none⟩) 1 1)]) (fun v_2 h4 => ∃ (t26 : OA) (t26n t26c : Nat), v_2 = (.slice t26 t26n t26c) ∧
wr t3 (.slice t26 t26n t26c) (fun h5 =>
let t29 : Int := IntKind.i64.wrap (xn0 - t16)
L1 t29 sym1 top2 t3 K h5) h4) h3) h1) (
K (.exit 0) (X0 xn0) h1)) h) : L1 xn0 sym1 top2 t3 K h := by unfold L1; exact Lp.of_txt (an 24) 15 (by kernel_rfl) H
theorem L1_X0 {Q : VP} {xn0 : Int} {h : Heap} (H :
Q (.int .i64 xn0) h) : (K1 Q) (.exit 0) (X0 xn0) h := y19 (by kernel_rfl) H
theorem door {xn0 sym1 top2 : Int} {t3 : Addr} {Q : VP} {h : Heap} (H :
L1 xn0 sym1 top2 t3 (K1 Q) h) : SpecH PP z280 [.int .i64 xn0, .int .i64 sym1, .int .i64 top2, (.pointer (some t3))] h Q :=
  y12 (ann := ann) Tryd.func65 rfl rfl (by kernel_rfl) H
end z279
namespace z191
def ann : Ann := (.seq 3 (rg 1 3) (.seq 3 (.seq 67 (rg 2 67) (.cond (.seq 16 (rg 1 16) (.exit 16)) .leaf)) (.seq 0 (rg 10 0) (.seq 16 (rg 1 16) (.exit 16)))))
theorem door {r0 b1 : OA} {b1n b1c : Nat} {Q : VP} {h : Heap} (H :
let t6 : Bool := (Option.isNone r0)
br t6 (
Q (.int .i64 3) h) (
nilc r0 (fun t9 =>
∃ (t11 : OA) (t11n t11c : Nat), cellH h t9 = some (.slice t11 t11n t11c) ∧
hwp PP (Builtin.append_ #[y13, y13] y13 #[(.slice t11 t11n t11c), (.slice b1 b1n b1c)]) (fun v h1 => ∃ (t13 : OA) (t13n t13c : Nat), v = (.slice t13 t13n t13c) ∧
nilc r0 (fun t14 =>
wr t14 (.slice t13 t13n t13c) (fun h2 =>
Q (.int .i64 0) h2) h1)) h))) : SpecH PP z192 [.pointer r0, (.slice b1 b1n b1c)] h Q :=
  y12 (ann := ann) Tryd.func66 rfl rfl (by kernel_rfl) H
end z191
namespace z271
def ann : Ann := (.seq 3 (rg 2 3) (.seq 192 (rg 11 192) (.seq 48 (rg 7 48) (.exit 48))))
theorem door {g0 : OA} {xn1 : Int} {Q : VP} {h : Heap} (H :
nilc g0 (fun t10 =>
∃ (t12 : OA), cellH h t10 = some (.pointer t12) ∧
SpecH PP z194 [.pointer t12, .int .i64 xn1] h (fun v h1 => ∃ (t14 t14_1 : Int), v = (.tuple #[.int .u32 t14, .int .i64 t14_1]) ∧
let t18 : Int := IntKind.i64.wrap t14
∃ v_1, PureAt PP z254 [.int .i64 t14_1, .int .i64 t14_1] v_1 ∧
∃ (t21 : Int), v_1 = (.int .i64 t21) ∧
Q (.tuple #[.int .i64 t18, .int .i64 t21]) h1))) : SpecH PP z272 [.pointer g0, .int .i64 xn1] h Q :=
  y12 (ann := ann) Tryd.func67 rfl rfl (by kernel_rfl) H
end z271
namespace z267
def ann : Ann := (.seq 1 (rg 1 1) (.seq 1 (rg 5 1) (.seq 25 (rg 7 25) (.seq 9 (.seq 1048601 (rg 2 1048601) (.cond (.seq 4 (rg 2 4) (.exit 4)) .leaf)) (.seq 57 (rg 7 57) (.seq 41 (.seq 268435513 (rg 2 268435513) (.cond (.seq 4 (rg 2 4) (.exit 4)) .leaf)) (.seq 9 (.seq 8589934601 (rg 4 8589934601) (.cond (.seq 4 (rg 1 4) (.exit 4)) .leaf)) (.seq 0 (.seq 51539607553 (rg 2 51539607553) (.block (.loop 51539607553 (.seq 120259084289 (rg 1 120259084289) (.seq 51539607553 (.cond .leaf (.exit 0)) (.seq 51539607553 (.block (.seq 51539607745 (rg 7 51539607745) (.seq 51539607617 (.seq 8847632629953 (rg 2 8847632629953) (.cond (.seq 4 (rg 2 4) (.exit 4)) .leaf)) (.seq 51539607809 (rg 5 51539607809) (.seq 1125951446450433 (rg 2 1125951446450433) (.cond (.seq 4 (rg 2 4) (.exit 4)) .leaf)))))) (rg 2 51539607553))))))) (.seq 4 (rg 1 4) (.exit 4))))))))))
noncomputable abbrev cd := cdF Tryd.f68
abbrev an := anF ann
@[irreducible] def Xret (t2 : Int) : Fr := (mkFr 0 53 [(2, .int .i64 t2)])
@[irreducible] def X0  : Fr := (mkFr 0 53 [])
@[irreducible] def L1 (g0 : OA) (t34 t35 : Int) (K : EP) (h : Heap) : Prop := Lp PP true (cd 4084) (mkFr 0 53 [(0, .pointer g0), (34, .int .i64 t34), (35, .int .i64 t35)]) K h
@[irreducible] def K2 (Q : VP) : EP := seqK (fun fr h => ev PP true none (cd 511) (an 511) (fr.mask 0) (bodyK PP Tryd.f68 Q) h) (bodyK PP Tryd.f68 Q)
@[irreducible] def K1 (Q : VP) : EP := blockK 0 (K2 Q)
theorem L1_of {g0 : OA} {t34 t35 : Int} {K : EP} {h : Heap} (H :
let t36 : Bool := decide (t35 < t34)
br t36 (
SpecH PP z272 [.pointer g0, .int .i64 8] h (fun v h1 => ∃ (t39 t39_1 : Int), v = (.tuple #[.int .i64 t39, .int .i64 t39_1]) ∧
let t43 : Bool := (t39_1 != 0)
br t43 (
K .ret (Xret t39_1) h1) (
let t47 : Int := IntKind.u8.wrap t39
SpecH PP z266 [.pointer g0, .int .u8 t47] h1 (fun v_1 h2 => ∃ (t48 : Int), v_1 = (.int .i64 t48) ∧
let t50 : Bool := (t48 != 0)
br t50 (
K .ret (Xret t48) h2) (
let t52 : Int := IntKind.i64.wrap (t35 + 1)
L1 g0 t34 t52 K h2))))) (
K (.exit 0) (X0) h)) : L1 g0 t34 t35 K h := by unfold L1; exact Lp.of_txt (an 4084) 51539607553 (by kernel_rfl) H
theorem L1_Xret {Q : VP} {t2 : Int} {h : Heap} (H :
Q (.int .i64 t2) h) : (K1 Q) .ret (Xret t2) h := y19 (by kernel_rfl) H
theorem L1_X0 {Q : VP}  {h : Heap} (H :
Q (.int .i64 0) h) : (K1 Q) (.exit 0) (X0 ) h := y19 (by kernel_rfl) H
theorem door {g0 : OA} {Q : VP} {h : Heap} (H :
nilc g0 (fun t10 =>
∃ (t12 : OA), cellH h t10 = some (.pointer t12) ∧
SpecH PP z184 [.pointer t12] h (fun v h1 => ∃ (t13 : Int), v = (.int .i64 t13) ∧
SpecH PP z272 [.pointer g0, .int .i64 16] h1 (fun v_1 h2 => ∃ (t16 t16_1 : Int), v_1 = (.tuple #[.int .i64 t16, .int .i64 t16_1]) ∧
let t20 : Bool := (t16_1 != 0)
br t20 (
Q (.int .i64 t16_1) h2) (
SpecH PP z272 [.pointer g0, .int .i64 16] h2 (fun v_2 h3 => ∃ (t24 t24_1 : Int), v_2 = (.tuple #[.int .i64 t24, .int .i64 t24_1]) ∧
let t28 : Bool := (t24_1 != 0)
br t28 (
Q (.int .i64 t24_1) h3) (
let t32 : Int := bXor .i64 t24 65535
let t33 : Bool := (t16 != t32)
br t33 (
Q (.int .i64 51) h3) (
L1 g0 t16 0 (K1 Q) h3)))))))) : SpecH PP z268 [.pointer g0] h Q :=
  y12 (ann := ann) Tryd.func68 rfl rfl (by kernel_rfl) H
end z267
namespace z269
def ann : Ann := (.seq 7 (rg 1 7) (.straight (.seq 133 (rg 7 133) (.seq 645 (rg 1 645) (.seq 641 (.seq 262789 (rg 2 262789) (.cond (rg 6 641) .leaf)) (.join (.seq 641 .leaf (.seq 0 (.block (.loop 641 (.block (.seq 3713 (rg 11 3713) (.seq 2689 (.block (.seq 137438957185 (rg 3 137438957185) (.cond (.seq 64 (rg 3 64) (.exit 64)) (.seq 4398046512769 (rg 3 4398046512769) (.cond (.exit 0) (.seq 35184372090497 (rg 3 35184372090497) (.cond (rg 5 2689) (rg 5 2689)))))))) (.join (.seq 641 (.seq 9007199254743681 (rg 2 9007199254743681) (.cond (.seq 64 (rg 2 64) (.exit 64)) .leaf)) (.exit 641)))))))) (.seq 64 (rg 1 64) (.exit 64))))))))))
noncomputable abbrev cd := cdF Tryd.f69
abbrev an := anF ann
@[irreducible] def Xret (t6 : Int) : Fr := (mkFr 0 55 [(6, .int .i64 t6)])
@[irreducible] def X0  : Fr := (mkFr 0 55 [])
@[irreducible] def K1 (Q : VP) : EP := noGotoK (bodyK PP Tryd.f69 Q)
@[irreducible] def J1 (g0 lits7 dists9 : OA) (Q : VP) (h : Heap) : Prop := Jn PP true (cd 55) (mkFr 0 55 [(0, .pointer g0), (7, .pointer lits7), (9, .pointer dists9)]) (K1 Q) h
@[irreducible] def K3 (Q : VP) : EP := seqK (fun fr h => ev PP true none (cd 223) (an 223) (fr.mask 0) (K1 Q) h) (K1 Q)
@[irreducible] def K2 (Q : VP) : EP := blockK 0 (K3 Q)
@[irreducible] def L1 (g0 lits7 dists9 : OA) (K : EP) (h : Heap) : Prop := Lp PP true (cd 888) (mkFr 0 55 [(0, .pointer g0), (7, .pointer lits7), (9, .pointer dists9)]) K h
@[irreducible] def B1 (K : EP) : EP := seqK (fun fr h => Lp PP true (cd 888) (fr.mask 641) K h) K
@[irreducible] def K4 (K : EP) : EP := blockK 1 (B1 K)
@[irreducible] def J2 (g0 lits7 dists9 : OA) (e11 : Int) (K : EP) (h : Heap) : Prop := Jn PP true (cd 7107) (mkFr 0 55 [(0, .pointer g0), (7, .pointer lits7), (9, .pointer dists9), (11, .int .i64 e11)]) (K4 K) h
theorem J1_of {g0 lits7 dists9 : OA} {Q : VP} {h : Heap} (H :
L1 g0 lits7 dists9 (K2 Q) h) : J1 g0 lits7 dists9 Q h := by unfold J1; exact Jn.of_txt (an 55) (by kernel_rfl) H
theorem L1_of {g0 lits7 dists9 : OA} {K : EP} {h : Heap} (H :
nilc g0 (fun t27 =>
∃ (t29 : OA), cellH h t27 = some (.pointer t29) ∧
SpecH PP z230 [.pointer lits7, .pointer t29] h (fun v h1 => ∃ (t30 t30_1 : Int), v = (.tuple #[.int .i64 t30, .int .i64 t30_1]) ∧
let t39 : Bool := (t30_1 != 0)
br t39 (
∃ v_1, PureAt PP z254 [.int .i64 t30_1, .int .i64 53] v_1 ∧
∃ (t41 : Int), v_1 = (.int .i64 t41) ∧
K .ret (Xret t41) h1) (
let t44 : Bool := (t30 == 256)
br t44 (
K (.exit 0) (X0) h1) (
let t47 : Bool := decide (t30 < 256)
br t47 (
let t50 : Int := IntKind.u8.wrap t30
SpecH PP z266 [.pointer g0, .int .u8 t50] h1 (fun v_2 h2 => ∃ (t51 : Int), v_2 = (.int .i64 t51) ∧
J2 g0 lits7 dists9 t51 K h2)) (
SpecH PP z262 [.pointer g0, .int .i64 t30, .pointer dists9] h1 (fun v_3 h3 => ∃ (t36 : Int), v_3 = (.int .i64 t36) ∧
J2 g0 lits7 dists9 t36 K h3))))))) : L1 g0 lits7 dists9 K h := by unfold L1; exact Lp.of_txt (an 888) 641 (by kernel_rfl) H
theorem L1_Xret {Q : VP} {t6 : Int} {h : Heap} (H :
Q (.int .i64 t6) h) : (K2 Q) .ret (Xret t6) h := y19 (by kernel_rfl) H
theorem J2_of {g0 lits7 dists9 : OA} {e11 : Int} {K : EP} {h : Heap} (H :
let t53 : Bool := (e11 != 0)
br t53 (
K .ret (Xret e11) h) (
L1 g0 lits7 dists9 K h)) : J2 g0 lits7 dists9 e11 K h := by unfold J2; exact Jn.of_txt (an 7107) (by kernel_rfl) H
theorem L1_X0 {Q : VP}  {h : Heap} (H :
Q (.int .i64 0) h) : (K2 Q) (.exit 0) (X0 ) h := y19 (by kernel_rfl) H
theorem door {g0 lit1 : OA} {y72 y79 : Nat} {y74 : OA} {y52 y59 : Nat} {Q : VP} {h : Heap} (H :
SpecH PP z236 [(.slice lit1 y72 y79)] h (fun v h1 => ∃ (t14 : OA) (t14_1 : Int), v = (.tuple #[.pointer t14, .int .i64 t14_1]) ∧
SpecH PP z274 [(.slice y74 y52 y59)] h1 (fun v_1 h2 => ∃ (t18 : Bool), v_1 = (.bool t18) ∧
br t18 (
SpecH PP z236 [(.slice y74 y52 y59)] h2 (fun v_2 h3 => ∃ (t21 : OA) (t21_1 : Int), v_2 = (.tuple #[.pointer t21, .int .i64 t21_1]) ∧
J1 g0 t14 t21 Q h3)) (
J1 g0 t14 none Q h2)))) : SpecH PP z270 [.pointer g0, (.slice lit1 y72 y79), (.slice y74 y52 y59)] h Q :=
  y12 (ann := ann) Tryd.func69 rfl rfl (by kernel_rfl) H
end z269
namespace z255
def ann : Ann := (.seq 1 (rg 2 1) (.seq 1 (.seq 9 (rg 1 9) (.block (.loop 9 (.seq 25 (rg 1 25) (.seq 9 (.cond .leaf (.exit 1)) (.seq 9 (.block (.seq 13 (rg 2 13) (.block (.seq 525 (rg 7 525) (.join (.cond (rg 4 9) (.seq 524297 (rg 3 524297) (.cond (rg 4 9) (rg 4 9))))))))) (.join (rg 2 9)))))))) (.seq 3 (rg 5 3) (.exit 3))))
noncomputable abbrev cd := cdF Tryd.f70
abbrev an := anF ann
@[irreducible] def X0 (lit0 : OA) (lit0n lit0c : Nat) : Fr := (mkFr 0 29 [(0, (.slice lit0 lit0n lit0c))])
@[irreducible] def L1 (lit0 : OA) (lit0n lit0c : Nat) (t3 : Int) (K : EP) (h : Heap) : Prop := Lp PP true (cd 52) (mkFr 0 29 [(0, (.slice lit0 lit0n lit0c)), (3, .int .i64 t3)]) K h
@[irreducible] def B1 (K : EP) : EP := seqK (fun fr h => Lp PP true (cd 52) (fr.mask 9) K h) K
@[irreducible] def K5 (K : EP) : EP := seqK (fun fr h => Jn PP true (cd 423) (fr.mask 9) (B1 K) h) (B1 K)
@[irreducible] def K4 (K : EP) : EP := blockK 1 (K5 K)
@[irreducible] def K2 (K : EP) : EP := blockK 2 (K4 K)
@[irreducible] def J1 (lit0 : OA) (lit0n lit0c : Nat) (i2 t3 : Int) (t9 : Bool) (K : EP) (h : Heap) : Prop := Jn PP true (cd 6757) (mkFr 0 29 [(0, (.slice lit0 lit0n lit0c)), (2, .int .i64 i2), (3, .int .i64 t3), (9, .bool t9)]) (K2 K) h
@[irreducible] def K3 (Q : VP) : EP := seqK (fun fr h => ev PP true none (cd 7) (an 7) (fr.mask 1) (bodyK PP Tryd.f70 Q) h) (bodyK PP Tryd.f70 Q)
@[irreducible] def K1 (Q : VP) : EP := blockK 0 (K3 Q)
@[irreducible] def J2 (lit0 : OA) (lit0n lit0c : Nat) (t3 : Int) (K : EP) (h : Heap) : Prop := Jn PP true (cd 423) (mkFr 0 29 [(0, (.slice lit0 lit0n lit0c)), (3, .int .i64 t3)]) (B1 K) h
theorem L1_of {lit0 : OA} {lit0n lit0c : Nat} {t3 : Int} {K : EP} {h : Heap} (H :
let t4 : Bool := decide (t3 < 288)
br t4 (
let t11 : Bool := decide (t3 < 144)
br t11 (
J1 lit0 lit0n lit0c t3 t3 true K h) (
let t14 : Bool := decide (t3 > 279)
J1 lit0 lit0n lit0c t3 t3 t14 K h)) (
K (.exit 0) (X0 lit0 lit0n lit0c) h)) : L1 lit0 lit0n lit0c t3 K h := by unfold L1; exact Lp.of_txt (an 52) 9 (by kernel_rfl) H
theorem L1_X0 {Q : VP} {lit0 : OA} {lit0n lit0c : Nat} {h : Heap} (H :
let h1 : Heap := Array.push h (.cells #[.int .i64 5] y18 (0, 0))
SpecH PP z342 [(.slice (some ⟨Array.size h, 0, none⟩) 1 1), .int .i64 32] h1 (fun v h2 => ∃ (t28 : OA) (t28n t28c : Nat), v = (.slice t28 t28n t28c) ∧
Q (.tuple #[(.slice lit0 lit0n lit0c), (.slice t28 t28n t28c)]) h2)) : (K1 Q) (.exit 0) (X0 lit0 lit0n lit0c) h := y19 (by kernel_rfl) H
theorem J1_of {lit0 : OA} {lit0n lit0c : Nat} {i2 t3 : Int} {t9 : Bool} {K : EP} {h : Heap} (H :
br t9 (
let h1 : Heap := Array.push h (.cells #[.int .i64 8] y18 (0, 0))
hwp PP (Builtin.append_ #[y14, y14] y14 #[(.slice lit0 lit0n lit0c), (.slice (some ⟨Array.size h, 0, none⟩) 1 1)]) (fun v h2 => ∃ (t18 : OA) (t18n t18c : Nat), v = (.slice t18 t18n t18c) ∧
J2 t18 t18n t18c t3 K h2) h1) (
let t21 : Bool := decide (i2 < 256)
br t21 (
let h3 : Heap := Array.push h (.cells #[.int .i64 9] y18 (0, 0))
hwp PP (Builtin.append_ #[y14, y14] y14 #[(.slice lit0 lit0n lit0c), (.slice (some ⟨Array.size h, 0, none⟩) 1 1)]) (fun v_1 h4 => ∃ (t24 : OA) (t24n t24c : Nat), v_1 = (.slice t24 t24n t24c) ∧
J2 t24 t24n t24c t3 K h4) h3) (
let h5 : Heap := Array.push h (.cells #[.int .i64 7] y18 (0, 0))
hwp PP (Builtin.append_ #[y14, y14] y14 #[(.slice lit0 lit0n lit0c), (.slice (some ⟨Array.size h, 0, none⟩) 1 1)]) (fun v_2 h6 => ∃ (t8 : OA) (t8n t8c : Nat), v_2 = (.slice t8 t8n t8c) ∧
J2 t8 t8n t8c t3 K h6) h5))) : J1 lit0 lit0n lit0c i2 t3 t9 K h := by unfold J1; exact Jn.of_txt (an 6757) (by kernel_rfl) H
theorem J2_of {lit0 : OA} {lit0n lit0c : Nat} {t3 : Int} {K : EP} {h : Heap} (H :
let t25 : Int := IntKind.i64.wrap (t3 + 1)
L1 lit0 lit0n lit0c t25 K h) : J2 lit0 lit0n lit0c t3 K h := by unfold J2; exact Jn.of_txt (an 423) (by kernel_rfl) H
theorem door  {Q : VP} {h : Heap} (H :
L1 none 0 0 0 (K1 Q) h) : SpecH PP z256 [] h Q :=
  y12 (ann := ann) Tryd.func70 rfl rfl (by kernel_rfl) H
end z255
namespace z263
def ann : Ann := (.seq 1 (rg 3 1) (.seq 28 (rg 12 28) (.seq 12 (.seq 32796 (rg 2 32796) (.cond (.seq 28 (rg 5 28) (.exit 28)) .leaf)) (.seq 12 (.seq 34359738380 (rg 18 34359738380) (.join (.cond (.seq 28 (rg 3 28) (.exit 28)) .leaf))) (.seq 28 (rg 5 28) (.exit 28))))))
noncomputable abbrev cd := cdF Tryd.f71
abbrev an := anF ann
@[irreducible] def K1 (Q : VP) : EP := seqK (fun fr h => ev PP true none (cd 31) (an 31) (fr.mask 12) (bodyK PP Tryd.f71 Q) h) (bodyK PP Tryd.f71 Q)
@[irreducible] def J1 (lit2 : OA) (lit2n lit2c : Nat) (dist3 : OA) (y83 y84 : Nat) (t35 : Bool) (Q : VP) (h : Heap) : Prop := Jn PP true (cd 61) (mkFr 0 38 [(2, (.slice lit2 lit2n lit2c)), (3, (.slice dist3 y83 y84)), (35, .bool t35)]) (K1 Q) h
theorem J1_of {lit2 : OA} {lit2n lit2c : Nat} {dist3 : OA} {y83 y84 : Nat} {t35 : Bool} {Q : VP} {h : Heap} (H :
br t35 (
Q (.tuple #[(.slice none 0 0), (.slice none 0 0), .int .i64 52]) h) (
Q (.tuple #[(.slice lit2 lit2n lit2c), (.slice dist3 y83 y84), .int .i64 0]) h)) : J1 lit2 lit2n lit2c dist3 y83 y84 t35 Q h := by unfold J1; exact Jn.of_txt (an 61) (by kernel_rfl) H
theorem door {g0 : OA} {Q : VP} {h : Heap} (H :
nilc g0 (fun t7 =>
∃ (t9 : OA), cellH h t7 = some (.pointer t9) ∧
SpecH PP z282 [.pointer t9] h (fun v h1 => ∃ (t10 : OA) (t10n t10c : Nat) (t10_1 : OA) (t10_1n t10_1c : Nat) (t10_2 : Int), v = (.tuple #[(.slice t10 t10n t10c), (.slice t10_1 t10_1n t10_1c), .int .i64 t10_2]) ∧
let t15 : Bool := (t10_2 != 0)
br t15 (
∃ v_1, PureAt PP z254 [.int .i64 t10_2, .int .i64 52] v_1 ∧
∃ (t17 : Int), v_1 = (.int .i64 t17) ∧
Q (.tuple #[(.slice none 0 0), (.slice none 0 0), .int .i64 t17]) h1) (
hwp PP (Instr.indexAt y14 (.slice t10 t10n t10c) (.int .i64 256)) (fun v_2 h2 => ∃ (t19 : Addr), v_2 = (.pointer (some t19)) ∧
∃ (t20 : Int), cellH h2 t19 = some (.int .i64 t20) ∧
let t21 : Bool := (t20 == 0)
br t21 (
J1 t10 t10n t10c t10_1 t10_1n t10_1c true Q h2) (
SpecH PP z226 [(.slice t10 t10n t10c)] h2 (fun v_3 h3 => ∃ (t24 : Int), v_3 = (.int .i64 t24) ∧
let t25 : Bool := (t24 != 0)
br t25 (
J1 t10 t10n t10c t10_1 t10_1n t10_1c true Q h3) (
SpecH PP z274 [(.slice t10_1 t10_1n t10_1c)] h3 (fun v_4 h4 => ∃ (t29 : Bool), v_4 = (.bool t29) ∧
br t29 (
SpecH PP z226 [(.slice t10_1 t10_1n t10_1c)] h4 (fun v_5 h5 => ∃ (t32 : Int), v_5 = (.int .i64 t32) ∧
let t33 : Bool := (t32 != 0)
J1 t10 t10n t10c t10_1 t10_1n t10_1c t33 Q h5)) (
J1 t10 t10n t10c t10_1 t10_1n t10_1c false Q h4)))))) h1)))) : SpecH PP z264 [.pointer g0] h Q :=
  y12 (ann := ann) Tryd.func71 rfl rfl (by kernel_rfl) H
end z263
namespace z297
def ann : Ann := (.seq 3 (.seq 8195 (rg 3 8195) (.cond (.exit 0) .leaf)) (.seq 11 (.tree (.run [1, 2] (.alt 0 (.run [3, 4, 5, 6] .done) (.alt 3 (.run [0, 4, 5, 6] .done) .nil))) 11) (.join (.seq 27 (rg 1 27) (.block (.loop 27 (.seq 27 (.seq 8388635 (rg 4 8388635) (.cond .leaf (.exit 0))) (.block (.seq 59 (rg 7 59) (.seq 123 (rg 1 123) (.seq 123 (.seq 507 (rg 8 507) (.seq 68719477243 (rg 2 68719477243) (.cond (.seq 1019 (rg 9 1019) (.seq 70368744178171 (rg 3 70368744178171) (.cond (rg 6 123) .leaf))) .leaf))) (.join (.seq 91 (.seq 18014398509482075 (rg 4 18014398509482075) (.cond (.exit 0) .leaf)) (rg 4 27))))))))))))))
noncomputable abbrev cd := cdF Tryd.f72
abbrev an := anF ann
@[irreducible] def X0  : Fr := (mkFr 0 58 [])
@[irreducible] def Xret  : Fr := (mkFr 0 58 [])
@[irreducible] def J1 (y108 : Value) (t1 f3 : Addr) (Q : VP) (h : Heap) : Prop := Jn PP true (cd 7) (mkFr 0 58 [(0, y108), (1, (.pointer (some t1))), (3, (.pointer (some f3)))]) (bodyK PP Tryd.f72 Q) h
@[irreducible] def K1 (Q : VP) : EP := blockK 0 (bodyK PP Tryd.f72 Q)
@[irreducible] def L1 (y108 : Value) (t1 f3 : Addr) (i4 : Int) (K : EP) (h : Heap) : Prop := Lp PP true (cd 60) (mkFr 0 58 [(0, y108), (1, (.pointer (some t1))), (3, (.pointer (some f3))), (4, .int .i64 i4)]) K h
@[irreducible] def B1 (K : EP) : EP := seqK (fun fr h => Lp PP true (cd 60) (fr.mask 27) K h) K
@[irreducible] def K2 (K : EP) : EP := blockK 1 (B1 K)
@[irreducible] def J2 (y108 : Value) (t1 f3 : Addr) (i4 : Int) (t5 : Addr) (step6 : Int) (K : EP) (h : Heap) : Prop := Jn PP true (cd 1943) (mkFr 0 58 [(0, y108), (1, (.pointer (some t1))), (3, (.pointer (some f3))), (4, .int .i64 i4), (5, (.pointer (some t5))), (6, .int .i64 step6)]) (K2 K) h
theorem J1_of {y108 : Value} {t1 f3 : Addr} {Q : VP} {h : Heap} (H :
L1 y108 t1 f3 0 (K1 Q) h) : J1 y108 t1 f3 Q h := by unfold J1; exact Jn.of_txt (an 7) (by kernel_rfl) H
theorem L1_of {y108 : Value} {t1 f3 : Addr} {i4 : Int} {K : EP} {h : Heap} (H :
∃ (t21 : OA) (t21n t21c : Nat), cellH h t1 = some (.slice t21 t21n t21c) ∧
let t23 : Bool := decide (i4 < (t21n : Int))
br t23 (
∃ (t24 : OA) (t24n t24c : Nat), cellH h t1 = some (.slice t24 t24n t24c) ∧
hwp PP (Instr.indexAt y13 (.slice t24 t24n t24c) (.int .i64 i4)) (fun v h1 => ∃ (t26 : Addr), v = (.pointer (some t26)) ∧
∃ (t27 : Int), cellH h1 t26 = some (.int .u8 t27) ∧
let t5 : Addr := ⟨Array.size h1, 0, none⟩
let h2 : Heap := Array.push h1 (.cells #[.int .u8 0, .int .i64 0, .int .i64 0] y38 (0, 0))
wrCells t5 0 [.int .u8 t27, .int .i64 0, .int .i64 0] (fun h3 =>
SpecH PP z310 [(.pointer (some f3)), .int .i64 i4] h3 (fun v_1 h4 => ∃ (t32 t32_1 : Int), v_1 = (.tuple #[.int .i64 t32, .int .i64 t32_1]) ∧
let t36 : Bool := decide (t32 > 0)
br t36 (
let t40 : Int := IntKind.i64.wrap (i4 + 1)
SpecH PP z310 [(.pointer (some f3)), .int .i64 t40] h4 (fun v_2 h5 => ∃ (t41 t41_1 : Int), v_2 = (.tuple #[.int .i64 t41, .int .i64 t41_1]) ∧
let t46 : Bool := decide (t41 ≤ t32)
br t46 (
wrCells t5 0 [.int .u8 0, .int .i64 t32, .int .i64 t32_1] (fun h6 =>
J2 y108 t1 f3 i4 t5 t32 K h6) h5) (
J2 y108 t1 f3 i4 t5 1 K h5))) (
J2 y108 t1 f3 i4 t5 1 K h4))) h2) h) (
K (.exit 0) (X0) h)) : L1 y108 t1 f3 i4 K h := by unfold L1; exact Lp.of_txt (an 60) 27 (by kernel_rfl) H
theorem L1_X0 {Q : VP}  {h : Heap} (H :
Q (.tuple #[]) h) : (K1 Q) (.exit 0) (X0 ) h := y19 (by kernel_rfl) H
theorem J2_of {y108 : Value} {t1 f3 : Addr} {i4 : Int} {t5 : Addr} {step6 : Int} {K : EP} {h : Heap} (H :
∃ (t52f0 t52f1 t52f2 : Int), rdCells h t5 0 [.int .u8 t52f0, .int .i64 t52f1, .int .i64 t52f2] ∧
callV PP y108 [(.agg #[.int .u8 t52f0, .int .i64 t52f1, .int .i64 t52f2])] (fun v h1 => ∃ (t53 : Bool), v = (.bool t53) ∧
let t54 : Bool := (!t53)
br t54 (
K .ret (Xret) h1) (
let t57 : Int := IntKind.i64.wrap (i4 + step6)
L1 y108 t1 f3 t57 K h1)) h) : J2 y108 t1 f3 i4 t5 step6 K h := by unfold J2; exact Jn.of_txt (an 1943) (by kernel_rfl) H
theorem L1_Xret {Q : VP}  {h : Heap} (H :
Q (.tuple #[]) h) : (K1 Q) .ret (Xret ) h := y19 (by kernel_rfl) H
theorem door {y108 : Value} {t1 : Addr} {Q : VP} {h : Heap} (H :
∃ (t11 : OA) (t11n t11c : Nat), cellH h t1 = some (.slice t11 t11n t11c) ∧
let t13 : Bool := decide ((t11n : Int) > 16384)
br t13 (
Q (.tuple #[]) h) (
∃ (t15 : OA) (t15n t15c : Nat), cellH h t1 = some (.slice t15 t15n t15c) ∧
(
∃ (t14_1 : OA) (t14_1n t14_1c : Nat), cellH h t1 = some (.slice t14_1 t14_1n t14_1c) ∧
hwp PP (Instr.makeSlice y14 (.int .i64 (t15n : Int)) (.int .i64 (t15n : Int))) (fun v_1 h3 => ∃ (t17_1 : OA) (t17_1n t17_1c : Nat), v_1 = (.slice t17_1 t17_1n t17_1c) ∧
let t19_1 : Addr := ⟨Array.size h3, 0, none⟩
let h4 : Heap := Array.push h3 (.cells (([(.slice t14_1 t14_1n t14_1c)] : List Value) ++ (List.replicate 4096 (.int .i64 0) : List Value) ++ ([(.slice t17_1 t17_1n t17_1c), .int .i64 0] : List Value)).toArray y80 (0, 0))
J1 y108 t1 t19_1 Q h4) h) ∧
(
hwp PP (Instr.makeSlice y14 (.int .i64 (t15n : Int)) (.int .i64 (t15n : Int))) (fun v h1 => ∃ (t17 : OA) (t17n t17c : Nat), v = (.slice t17 t17n t17c) ∧
∃ (t14 : OA) (t14n t14c : Nat), cellH h1 t1 = some (.slice t14 t14n t14c) ∧
let t19 : Addr := ⟨Array.size h1, 0, none⟩
let h2 : Heap := Array.push h1 (.cells (([(.slice t14 t14n t14c)] : List Value) ++ (List.replicate 4096 (.int .i64 0) : List Value) ++ ([(.slice t17 t17n t17c), .int .i64 0] : List Value)).toArray y80 (0, 0))
J1 y108 t1 t19 Q h2) h) ∧
True)) : SpecH PP z298 [y108, (.pointer (some t1))] h Q :=
  y12 (ann := ann) Tryd.func72 rfl rfl (by kernel_rfl) H
end z297
namespace z309
def ann : Ann := (.seq 51 (rg 2 51) (.straight (.seq 51 (.seq 65587 (rg 8 65587) (.cond (.seq 48 (rg 2 48) (.exit 48)) .leaf)) (.seq 51 (rg 3 51) (.seq 115 (rg 9 115) (.seq 115 .leaf (.seq 48 (.seq 243 (rg 10 243) (.block (.loop 243 (.seq 243 (.seq 274877907187 (rg 2 274877907187) (.cond .leaf (.exit 48))) (.seq 243 (.block (.seq 243 (.seq 1125899906842867 (rg 4 1125899906842867) (.cond (.exit 48) .leaf)) (.seq 242 (.seq 6755399441055987 (rg 2 6755399441055987) (.block (.loop 6755399441055987 (.seq 15762598695796979 (rg 1 15762598695796979) (.seq 6755399441055987 (.cond .leaf (.exit 242)) (.seq 6755399441055987 (.block (.seq 6755399441056243 (rg 2 6755399441056243) (.seq 9444739721138731483635 (rg 19 9444739721138731483635) (.cond (.seq 243 (.seq 1208925819614629174706675 (rg 7 1208925819614629174706675) (.join (.cond (rg 6 243) .leaf))) (.exit 243)) .leaf)))) (rg 2 6755399441055987))))))) (.seq 48 (.seq 309485009821345068724781298 (rg 3 309485009821345068724781298) (.cond (.seq 48 (rg 6 48) (.exit 48)) .leaf)) (.exit 48))))) (rg 9 243)))))) (.seq 48 (rg 4 48) (.exit 48)))))))))
noncomputable abbrev cd := cdF Tryd.f73
abbrev an := anF ann
@[irreducible] def X0 (y40 y78 : Int) : Fr := (mkFr 0 95 [(4, .int .i64 y40), (5, .int .i64 y78)])
@[irreducible] def X2 (i1 y40 y78 end6 at7 : Int) : Fr := (mkFr 0 95 [(1, .int .i64 i1), (4, .int .i64 y40), (5, .int .i64 y78), (6, .int .i64 end6), (7, .int .i64 at7)])
@[irreducible] def Xret (y40 y78 : Int) : Fr := (mkFr 0 95 [(4, .int .i64 y40), (5, .int .i64 y78)])
@[irreducible] def X1 (f0 : OA) (i1 y40 y78 end6 at7 : Int) : Fr := (mkFr 0 95 [(0, .pointer f0), (1, .int .i64 i1), (4, .int .i64 y40), (5, .int .i64 y78), (6, .int .i64 end6), (7, .int .i64 at7)])
@[irreducible] def L1 (f0 : OA) (i1 y40 y78 end6 at7 : Int) (K : EP) (h : Heap) : Prop := Lp PP true (cd 1780) (mkFr 0 95 [(0, .pointer f0), (1, .int .i64 i1), (4, .int .i64 y40), (5, .int .i64 y78), (6, .int .i64 end6), (7, .int .i64 at7)]) K h
@[irreducible] def B1 (K : EP) : EP := seqK (fun fr h => Lp PP true (cd 1780) (fr.mask 243) K h) K
@[irreducible] def K6 (Q : VP) : EP := noGotoK (bodyK PP Tryd.f73 Q)
@[irreducible] def K3 (Q : VP) : EP := seqK (fun fr h => ev PP true none (cd 223) (an 223) (fr.mask 48) (K6 Q) h) (K6 Q)
@[irreducible] def K1 (Q : VP) : EP := blockK 0 (K3 Q)
@[irreducible] def K9 (K : EP) : EP := seqK (fun fr h => ev PP true none (cd 7123) (an 7123) (fr.mask 243) (B1 K) h) (B1 K)
@[irreducible] def K7 (K : EP) : EP := blockK 1 (K9 K)
@[irreducible] def K4 (K : EP) : EP := seqK (fun fr h => ev PP true none (cd 56979) (an 56979) (fr.mask 242) (K7 K) h) (K7 K)
@[irreducible] def K2 (K : EP) : EP := blockK 2 (K4 K)
@[irreducible] def L2 (f0 : OA) (i1 y40 y78 end6 at7 t51 t52 : Int) (K : EP) (h : Heap) : Prop := Lp PP true (cd 455828) (mkFr 0 95 [(0, .pointer f0), (1, .int .i64 i1), (4, .int .i64 y40), (5, .int .i64 y78), (6, .int .i64 end6), (7, .int .i64 at7), (51, .int .i64 t51), (52, .int .i64 t52)]) K h
@[irreducible] def B2 (K : EP) : EP := seqK (fun fr h => Lp PP true (cd 455828) (fr.mask 6755399441055987) K h) K
@[irreducible] def K10 (K : EP) : EP := seqK (fun fr h => ev PP true none (cd 3646631) (an 3646631) (fr.mask 6755399441055987) (B2 K) h) (B2 K)
@[irreducible] def K8 (K : EP) : EP := blockK 3 (K10 K)
@[irreducible] def K5 (K : EP) : EP := seqK (fun fr h => ev PP true none (cd 116692173) (an 116692173) (fr.mask 243) (K8 K) h) (K8 K)
@[irreducible] def J1 (f0 : OA) (i1 y40 y78 end6 at7 xn8 : Int) (t80 : Bool) (K : EP) (h : Heap) : Prop := Jn PP true (cd 233384345) (mkFr 0 95 [(0, .pointer f0), (1, .int .i64 i1), (4, .int .i64 y40), (5, .int .i64 y78), (6, .int .i64 end6), (7, .int .i64 at7), (8, .int .i64 xn8), (80, .bool t80)]) (K5 K) h
theorem L1_of {f0 : OA} {i1 y40 y78 end6 at7 : Int} {K : EP} {h : Heap} (H :
let t38 : Bool := decide (at7 ≥ 0)
br t38 (
let t49 : Int := IntKind.i64.wrap (i1 - at7)
let t50 : Bool := decide (t49 > 32768)
br t50 (
K (.exit 0) (X0 y40 y78) h) (
L2 f0 i1 y40 y78 end6 at7 end6 0 (K2 K) h)) (
K (.exit 0) (X0 y40 y78) h)) : L1 f0 i1 y40 y78 end6 at7 K h := by unfold L1; exact Lp.of_txt (an 1780) 243 (by kernel_rfl) H
theorem L1_X0 {Q : VP} {y40 y78 : Int} {h : Heap} (H :
Q (.tuple #[.int .i64 y40, .int .i64 y78]) h) : (K1 Q) (.exit 0) (X0 y40 y78) h := y19 (by kernel_rfl) H
theorem L2_of {f0 : OA} {i1 y40 y78 end6 at7 t51 t52 : Int} {K : EP} {h : Heap} (H :
let t53 : Bool := decide (t52 < t51)
br t53 (
nilc f0 (fun t56 =>
∃ (t58 : OA) (t58n t58c : Nat), cellH h t56 = some (.slice t58 t58n t58c) ∧
let t61 : Int := IntKind.i64.wrap (at7 + t52)
hwp PP (Instr.indexAt y13 (.slice t58 t58n t58c) (.int .i64 t61)) (fun v h1 => ∃ (t62 : Addr), v = (.pointer (some t62)) ∧
∃ (t63 : Int), cellH h1 t62 = some (.int .u8 t63) ∧
nilc f0 (fun t65 =>
∃ (t67 : OA) (t67n t67c : Nat), cellH h1 t65 = some (.slice t67 t67n t67c) ∧
let t70 : Int := IntKind.i64.wrap (i1 + t52)
hwp PP (Instr.indexAt y13 (.slice t67 t67n t67c) (.int .i64 t70)) (fun v_1 h2 => ∃ (t71 : Addr), v_1 = (.pointer (some t71)) ∧
∃ (t72 : Int), cellH h2 t71 = some (.int .u8 t72) ∧
let t73 : Bool := (t63 != t72)
br t73 (
let t75 : Bool := decide (t52 ≥ 3)
br t75 (
let t79 : Bool := decide (t52 > y40)
J1 f0 i1 y40 y78 end6 at7 t52 t79 K h2) (
J1 f0 i1 y40 y78 end6 at7 t52 false K h2)) (
let t85 : Int := IntKind.i64.wrap (t52 + 1)
L2 f0 i1 y40 y78 end6 at7 t51 t85 K h2)) h1)) h)) (
K (.exit 2) (X2 i1 y40 y78 end6 at7) h)) : L2 f0 i1 y40 y78 end6 at7 t51 t52 K h := by unfold L2; exact Lp.of_txt (an 455828) 6755399441055987 (by kernel_rfl) H
theorem L2_X2 {K : EP} {i1 y40 y78 end6 at7 : Int} {h : Heap} (H :
let t88 : Bool := decide (end6 > y40)
br t88 (
let t92 : Int := IntKind.i64.wrap (i1 - at7)
K .ret (Xret end6 t92) h) (
K (.exit 0) (X0 y40 y78) h)) : (K2 K) (.exit 2) (X2 i1 y40 y78 end6 at7) h := y19 (by kernel_rfl) H
theorem J1_of {f0 : OA} {i1 y40 y78 end6 at7 xn8 : Int} {t80 : Bool} {K : EP} {h : Heap} (H :
br t80 (
let t84 : Int := IntKind.i64.wrap (i1 - at7)
K (.exit 1) (X1 f0 i1 xn8 t84 end6 at7) h) (
K (.exit 1) (X1 f0 i1 y40 y78 end6 at7) h)) : J1 f0 i1 y40 y78 end6 at7 xn8 t80 K h := by unfold J1; exact Jn.of_txt (an 233384345) (by kernel_rfl) H
theorem L1_Xret {Q : VP} {y40 y78 : Int} {h : Heap} (H :
Q (.tuple #[.int .i64 y40, .int .i64 y78]) h) : (K1 Q) .ret (Xret y40 y78) h := y19 (by kernel_rfl) H
theorem L2_X1 {K : EP} {f0 : OA} {i1 y40 y78 end6 at7 : Int} {h : Heap} (H :
nilc f0 (fun t40 =>
∃ (t42 : OA) (t42n t42c : Nat), cellH h (Addr.add t40 4097) = some (.slice t42 t42n t42c) ∧
hwp PP (Instr.indexAt y14 (.slice t42 t42n t42c) (.int .i64 at7)) (fun v h1 => ∃ (t44 : Addr), v = (.pointer (some t44)) ∧
∃ (t45 : Int), cellH h1 t44 = some (.int .i64 t45) ∧
let t46 : Int := IntKind.i64.wrap (t45 - 1)
L1 f0 i1 y40 y78 end6 t46 K h1) h)) : (K2 K) (.exit 1) (X1 f0 i1 y40 y78 end6 at7) h := y19 (by kernel_rfl) H
theorem door {f0 : OA} {i1 : Int} {Q : VP} {h : Heap} (H :
let t10 : Int := IntKind.i64.wrap (i1 + 3)
nilc f0 (fun t12 =>
∃ (t14 : OA) (t14n t14c : Nat), cellH h t12 = some (.slice t14 t14n t14c) ∧
let t16 : Bool := decide (t10 > (t14n : Int))
br t16 (
Q (.tuple #[.int .i64 0, .int .i64 0]) h) (
SpecH PP z308 [.pointer f0, .int .i64 i1] h (fun v h1 => v = (.tuple #[]) ∧
nilc f0 (fun t21 =>
∃ (t23 : OA) (t23n t23c : Nat), cellH h1 t21 = some (.slice t23 t23n t23c) ∧
let t26 : Int := IntKind.i64.wrap ((t23n : Int) - i1)
let t27 : Int := (if t26 < 258 then t26 else 258)
SpecH PP z306 [.pointer f0, .int .i64 i1] h1 (fun v_1 h2 => ∃ (t31 : Int), v_1 = (.int .i64 t31) ∧
nilc f0 (fun t32 =>
hwp PP (Instr.indexAt T_4096_int (.pointer (some (Addr.add t32 1))) (.int .i64 t31)) (fun v_2 h3 => ∃ (t34 : Addr), v_2 = (.pointer (some t34)) ∧
∃ (t35 : Int), cellH h3 t34 = some (.int .i64 t35) ∧
let t36 : Int := IntKind.i64.wrap (t35 - 1)
L1 f0 i1 0 0 t27 t36 (K1 Q) h3) h2))))))) : SpecH PP z310 [.pointer f0, .int .i64 i1] h Q :=
  y12 (ann := ann) Tryd.func73 rfl rfl (by kernel_rfl) H
end z309
namespace z345
def ann : Ann := (.seq 271 (rg 3 271) (.block (.loop 271 (.seq 271 (.seq 16655 (rg 3 16655) (.cond .leaf (.exit 0))) (.seq 271 (.block (.seq 783 (rg 2 783) (.block (.loop 783 (.seq 783 (.seq 17179869967 (rg 17 17179869967) (.cond .leaf (.exit 271))) (.seq 783 (.block (rg 18 783)) (rg 3 783))))))) (rg 3 271))))))
noncomputable abbrev cd := cdF Tryd.f74
abbrev an := anF ann
@[irreducible] def X0  : Fr := (mkFr 0 53 [])
@[irreducible] def X2 (y9 : OA) (y6 y7 : Nat) (a1 b2 : Int) (cmp3 : Value) (i8 : Int) : Fr := (mkFr 0 53 [(0, (.slice y9 y6 y7)), (1, .int .i64 a1), (2, .int .i64 b2), (3, cmp3), (8, .int .i64 i8)])
@[irreducible] def L1 (y9 : OA) (y6 y7 : Nat) (a1 b2 : Int) (cmp3 : Value) (i8 : Int) (K : EP) (h : Heap) : Prop := Lp PP true (cd 12) (mkFr 0 53 [(0, (.slice y9 y6 y7)), (1, .int .i64 a1), (2, .int .i64 b2), (3, cmp3), (8, .int .i64 i8)]) K h
@[irreducible] def B1 (K : EP) : EP := seqK (fun fr h => Lp PP true (cd 12) (fr.mask 271) K h) K
@[irreducible] def K1 (Q : VP) : EP := blockK 0 (bodyK PP Tryd.f74 Q)
@[irreducible] def K4 (K : EP) : EP := seqK (fun fr h => ev PP true none (cd 51) (an 51) (fr.mask 271) (B1 K) h) (B1 K)
@[irreducible] def K3 (K : EP) : EP := blockK 1 (K4 K)
@[irreducible] def K2 (K : EP) : EP := blockK 2 (K3 K)
@[irreducible] def L2 (y9 : OA) (y6 y7 : Nat) (a1 b2 : Int) (cmp3 : Value) (i8 j9 : Int) (K : EP) (h : Heap) : Prop := Lp PP true (cd 804) (mkFr 0 53 [(0, (.slice y9 y6 y7)), (1, .int .i64 a1), (2, .int .i64 b2), (3, cmp3), (8, .int .i64 i8), (9, .int .i64 j9)]) K h
theorem L1_of {y9 : OA} {y6 y7 : Nat} {a1 b2 : Int} {cmp3 : Value} {i8 : Int} {K : EP} {h : Heap} (H :
let t14 : Bool := decide (i8 < b2)
br t14 (
L2 y9 y6 y7 a1 b2 cmp3 i8 i8 (K2 K) h) (
K (.exit 0) (X0) h)) : L1 y9 y6 y7 a1 b2 cmp3 i8 K h := by unfold L1; exact Lp.of_txt (an 12) 271 (by kernel_rfl) H
theorem L1_X0 {Q : VP}  {h : Heap} (H :
Q (.tuple #[]) h) : (K1 Q) (.exit 0) (X0 ) h := y19 (by kernel_rfl) H
theorem L2_of {y9 : OA} {y6 y7 : Nat} {a1 b2 : Int} {cmp3 : Value} {i8 j9 : Int} {K : EP} {h : Heap} (H :
let t20 : Bool := decide (j9 > a1)
br t20 (
hwp PP (Instr.indexAt y11 (.slice y9 y6 y7) (.int .i64 j9)) (fun v h1 => ∃ (t25 : Addr), v = (.pointer (some t25)) ∧
∃ (t26f0 : Int) (t26f1 : OA) (t26f1n t26f1c : Nat), rdCells h1 t25 0 [.int .i64 t26f0, (.slice t26f1 t26f1n t26f1c)] ∧
let t29 : Int := IntKind.i64.wrap (j9 - 1)
hwp PP (Instr.indexAt y11 (.slice y9 y6 y7) (.int .i64 t29)) (fun v_1 h2 => ∃ (t30 : Addr), v_1 = (.pointer (some t30)) ∧
∃ (t31f0 : Int) (t31f1 : OA) (t31f1n t31f1c : Nat), rdCells h2 t30 0 [.int .i64 t31f0, (.slice t31f1 t31f1n t31f1c)] ∧
callV PP cmp3 [(.agg #[.int .i64 t26f0, (.slice t26f1 t26f1n t26f1c)]), (.agg #[.int .i64 t31f0, (.slice t31f1 t31f1n t31f1c)])] (fun v_2 h3 => ∃ (t32 : Int), v_2 = (.int .i64 t32) ∧
let t33 : Bool := decide (t32 < 0)
br t33 (
let t41 : Int := IntKind.i64.wrap (j9 - 1)
let t44 : Int := IntKind.i64.wrap (j9 - 1)
hwp PP (Instr.indexAt y11 (.slice y9 y6 y7) (.int .i64 t44)) (fun v_3 h4 => ∃ (t45 : Addr), v_3 = (.pointer (some t45)) ∧
∃ (t46f0 : Int) (t46f1 : OA) (t46f1n t46f1c : Nat), rdCells h4 t45 0 [.int .i64 t46f0, (.slice t46f1 t46f1n t46f1c)] ∧
hwp PP (Instr.indexAt y11 (.slice y9 y6 y7) (.int .i64 j9)) (fun v_4 h5 => ∃ (t49 : Addr), v_4 = (.pointer (some t49)) ∧
∃ (t50f0 : Int) (t50f1 : OA) (t50f1n t50f1c : Nat), rdCells h5 t49 0 [.int .i64 t50f0, (.slice t50f1 t50f1n t50f1c)] ∧
hwp PP (Instr.indexAt y11 (.slice y9 y6 y7) (.int .i64 j9)) (fun v_5 h6 => ∃ (t51 : Addr), v_5 = (.pointer (some t51)) ∧
wrCells t51 0 [.int .i64 t46f0, (.slice t46f1 t46f1n t46f1c)] (fun h7 =>
hwp PP (Instr.indexAt y11 (.slice y9 y6 y7) (.int .i64 t41)) (fun v_6 h8 => ∃ (t52 : Addr), v_6 = (.pointer (some t52)) ∧
wrCells t52 0 [.int .i64 t50f0, (.slice t50f1 t50f1n t50f1c)] (fun h9 =>
let t36 : Int := IntKind.i64.wrap (j9 - 1)
L2 y9 y6 y7 a1 b2 cmp3 i8 t36 K h9) h8) h7) h6) h5) h4) h3) (
K (.exit 2) (X2 y9 y6 y7 a1 b2 cmp3 i8) h3)) h2) h1) h) (
K (.exit 2) (X2 y9 y6 y7 a1 b2 cmp3 i8) h)) : L2 y9 y6 y7 a1 b2 cmp3 i8 j9 K h := by unfold L2; exact Lp.of_txt (an 804) 783 (by kernel_rfl) H
theorem L2_X2 {K : EP} {y9 : OA} {y6 y7 : Nat} {a1 b2 : Int} {cmp3 : Value} {i8 : Int} {h : Heap} (H :
let t16 : Int := IntKind.i64.wrap (i8 + 1)
L1 y9 y6 y7 a1 b2 cmp3 t16 K h) : (K2 K) (.exit 2) (X2 y9 y6 y7 a1 b2 cmp3 i8) h := y19 (by kernel_rfl) H
theorem door {y9 : OA} {y6 y7 : Nat} {a1 b2 : Int} {cmp3 : Value} {Q : VP} {h : Heap} (H :
let t11 : Int := IntKind.i64.wrap (a1 + 1)
L1 y9 y6 y7 a1 b2 cmp3 t11 (K1 Q) h) : SpecH PP z346 [(.slice y9 y6 y7), .int .i64 a1, .int .i64 b2, cmp3] h Q :=
  y12 (ann := ann) Tryd.func74 rfl rfl (by kernel_rfl) H
end z345

end Go.Proofs.YtmkjmmpldepknaaDoor
