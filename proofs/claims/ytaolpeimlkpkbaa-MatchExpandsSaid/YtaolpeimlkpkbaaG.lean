/- What the functions of this text come to, as predicates on heaps (printed by my own program out of the dump), each with its proof against the program. -/
import Derived.Test.YtaolpeimlkpkbaaHwLib
import Derived.Test.YtaolpeimlkpkbaaHwGen
import Derived.Test.YtaolpeimlkpkbaaHwArr
import Derived.Test.YtaolpeimlkpkbaaProg
set_option linter.unusedVariables false
set_option maxRecDepth 100000
namespace Go.Proofs.Ytaolpeimlkpkbaa
open Go Go.HW
noncomputable abbrev PP : Program := Try.prog
abbrev T_int : TypeId := 3
abbrev T_bool : TypeId := 4
abbrev T_uint8 : TypeId := 5
abbrev T_string : TypeId := 9
abbrev T_sl_api_Token : TypeId := 22
abbrev T_sl_uint8 : TypeId := 25
abbrev T_func_func_api_Token_bool : TypeId := 34
abbrev T_iter_Seq_haversack_api_Token : TypeId := 35
abbrev T_struct_Lit_uint8_Len_int_Dist_int : TypeId := 37
abbrev T_api_Token : TypeId := 38
abbrev T_sl_int : TypeId := 49
abbrev T_4096_int : TypeId := 50
abbrev T_struct_data_sl_uint8_last_4096_int_prev_sl_int_done_int : TypeId := 51
abbrev T_match_finder : TypeId := 52
abbrev F_law06_MatchExpands : FuncId := 3
abbrev F_law06_MatchFinds : FuncId := 4
abbrev F_law06_MatchCosts : FuncId := 5
abbrev F_law06_MatchRound : FuncId := 6
abbrev F_law06_MatchTwice : FuncId := 7
abbrev F_law06_MatchJoins : FuncId := 8
abbrev F_law06_awake : FuncId := 9
abbrev F_law06_lent : FuncId := 10
abbrev F_match_Expand : FuncId := 11
abbrev F_match_Check : FuncId := 12
abbrev F_law06_back : FuncId := 13
abbrev F_ref06_Expand : FuncId := 14
abbrev F_ref02_Same : FuncId := 15
abbrev F_ref06_Check : FuncId := 16
abbrev F_ref06_Find : FuncId := 17
abbrev F_match_Find : FuncId := 18
abbrev F_match_All : FuncId := 19
abbrev F_ref06_Same : FuncId := 20
abbrev F_match_Cost : FuncId := 21
abbrev F_ref06_Cost : FuncId := 22
abbrev F_match_right : FuncId := 23
abbrev F_ref06_may : FuncId := 24
abbrev F_ref06_Match : FuncId := 25
abbrev F_match_All_1 : FuncId := 26
abbrev F_match_finder_match : FuncId := 27
abbrev F_match_extra : FuncId := 28
abbrev F_ref06_lenBits : FuncId := 29
abbrev F_ref06_distBits : FuncId := 30
abbrev F_match_finder_know : FuncId := 31
abbrev F_match_finder_hash : FuncId := 32
theorem C_int : PP.cellsOf T_int = 1 := by kernel_rfl
theorem U_int : PP.underlying T_int = some (.int .i64) := by kernel_rfl
theorem C_bool : PP.cellsOf T_bool = 1 := by kernel_rfl
theorem U_bool : PP.underlying T_bool = some .bool := by kernel_rfl
theorem C_uint8 : PP.cellsOf T_uint8 = 1 := by kernel_rfl
theorem U_uint8 : PP.underlying T_uint8 = some (.int .u8) := by kernel_rfl
theorem C_string : PP.cellsOf T_string = 1 := by kernel_rfl
theorem U_string : PP.underlying T_string = some .string := by kernel_rfl
theorem C_sl_api_Token : PP.cellsOf T_sl_api_Token = 1 := by kernel_rfl
theorem E_sl_api_Token : Elem PP T_sl_api_Token T_api_Token 3 24 (.agg #[(.int .u8 0), (.int .i64 0), (.int .i64 0)]) := Elem.of (by kernel_rfl) (by kernel_rfl)
theorem U_sl_api_Token : PP.underlying T_sl_api_Token = some (.slice T_api_Token) := by kernel_rfl
theorem C_sl_uint8 : PP.cellsOf T_sl_uint8 = 1 := by kernel_rfl
theorem E_sl_uint8 : Elem PP T_sl_uint8 T_uint8 1 1 (.int .u8 0) := Elem.of (by kernel_rfl) (by kernel_rfl)
theorem U_sl_uint8 : PP.underlying T_sl_uint8 = some (.slice T_uint8) := by kernel_rfl
theorem C_func_func_api_Token_bool : PP.cellsOf T_func_func_api_Token_bool = 1 := by kernel_rfl
theorem C_iter_Seq_haversack_api_Token : PP.cellsOf T_iter_Seq_haversack_api_Token = 1 := by kernel_rfl
theorem FL_struct_Lit_uint8_Len_int_Dist_int : fieldsOf PP T_struct_Lit_uint8_Len_int_Dist_int = [(T_uint8, 0, 1), (T_int, 1, 1), (T_int, 2, 1)] := by kernel_rfl
theorem C_struct_Lit_uint8_Len_int_Dist_int : PP.cellsOf T_struct_Lit_uint8_Len_int_Dist_int = 3 := by kernel_rfl
theorem FL_api_Token : fieldsOf PP T_api_Token = [(T_uint8, 0, 1), (T_int, 1, 1), (T_int, 2, 1)] := by kernel_rfl
theorem C_api_Token : PP.cellsOf T_api_Token = 3 := by kernel_rfl
theorem C_sl_int : PP.cellsOf T_sl_int = 1 := by kernel_rfl
theorem E_sl_int : Elem PP T_sl_int T_int 1 8 (.int .i64 0) := Elem.of (by kernel_rfl) (by kernel_rfl)
theorem U_sl_int : PP.underlying T_sl_int = some (.slice T_int) := by kernel_rfl
theorem C_4096_int : PP.cellsOf T_4096_int = 4096 := by kernel_rfl
theorem A_4096_int : Arr PP T_4096_int T_int 4096 1 := Arr.of (by kernel_rfl) (by kernel_rfl)
theorem U_4096_int : PP.underlying T_4096_int = some (.array 4096 T_int) := by kernel_rfl
theorem FL_struct_data_sl_uint8_last_4096_int_prev_sl_int_done_int : fieldsOf PP T_struct_data_sl_uint8_last_4096_int_prev_sl_int_done_int = [(T_sl_uint8, 0, 1), (T_4096_int, 1, 4096), (T_sl_int, 4097, 1), (T_int, 4098, 1)] := by kernel_rfl
theorem C_struct_data_sl_uint8_last_4096_int_prev_sl_int_done_int : PP.cellsOf T_struct_data_sl_uint8_last_4096_int_prev_sl_int_done_int = 4099 := by kernel_rfl
theorem FL_match_finder : fieldsOf PP T_match_finder = [(T_sl_uint8, 0, 1), (T_4096_int, 1, 4096), (T_sl_int, 4097, 1), (T_int, 4098, 1)] := by kernel_rfl
theorem C_match_finder : PP.cellsOf T_match_finder = 4099 := by kernel_rfl
/-! ### haversack/haversacklaw06.MatchExpands: function 3 -/
namespace law06_MatchExpands
def ann : Ann := (.seq 3 (.region [(List.range 1, 3)]) (.seq 3 (.seq 262147 (.region [(List.range 3, 262147)]) (.cond (.seq 16 (.region [(List.range 2, 16)]) (.exit 16)) .leaf)) (.seq 35 (.region [(List.range 3, 35)]) (.seq 227 (.region [(List.range 8, 227)]) (.seq 483 (.region [(List.range 3, 483)]) (.seq 963 (.region [(List.range 4, 963)]) (.seq 4035 (.region [(List.range 8, 4035)]) (.seq 8131 (.region [(List.range 4, 8131)]) (.seq 8067 (.seq 16323 (.region [(List.range 1, 16323)]) (.block (.loop 16323 (.seq 16323 (.seq 35184372105155 (.region [(List.range 4, 35184372105155)]) (.cond .leaf (.exit 8067))) (.seq 16323 (.block (.region [(List.range 4, 16323)])) (.region [(List.range 3, 16323)])))))) (.seq 57217 (.region [(List.range 8, 57217)]) (.seq 16 (.region [(List.range 29, 16)]) (.exit 16))))))))))))
noncomputable abbrev cd (n : Nat) : Code := sub (bodyOf Try.f3) (pth n)
abbrev an (n : Nat) : Ann := subA ann (pth n)
@[irreducible] def X0 (t0 : OA) (t0n t0c : Nat) (bound1 e7 c8 : Int) (ok9 : Bool) (want10 : OA) (want10n want10c : Nat) (f11 : Int) (first12 : Bool) : Fr := (mkFr 0 85 [(0, (.slice t0 t0n t0c)), (1, (.int .i64 bound1)), (7, (.int .i64 e7)), (8, (.int .i64 c8)), (9, (.bool ok9)), (10, (.slice want10 want10n want10c)), (11, (.int .i64 f11)), (12, (.bool first12))])
@[irreducible] def L1 (t0 : OA) (t0n t0c : Nat) (bound1 : Int) (b6 : OA) (b6n b6c : Nat) (e7 c8 : Int) (ok9 : Bool) (want10 : OA) (want10n want10c : Nat) (f11 : Int) (first12 : Bool) (i13 : Int) (K : EP) (h : Heap) : Prop := Lp PP true (cd 8180) (mkFr 0 85 [(0, (.slice t0 t0n t0c)), (1, (.int .i64 bound1)), (6, (.slice b6 b6n b6c)), (7, (.int .i64 e7)), (8, (.int .i64 c8)), (9, (.bool ok9)), (10, (.slice want10 want10n want10c)), (11, (.int .i64 f11)), (12, (.bool first12)), (13, (.int .i64 i13))]) K h
@[irreducible] def B1 (K : EP) : EP := seqK (fun fr h => Lp PP true (cd 8180) (fr.mask 16323) K h) K
@[irreducible] def K2 (Q : VP) : EP := seqK (fun fr h => ev PP true none (cd 1023) (an 1023) (fr.mask 8067) (bodyK PP Try.f3 Q) h) (bodyK PP Try.f3 Q)
@[irreducible] def K1 (Q : VP) : EP := blockK 0 (K2 Q)
theorem L1_of {t0 : OA} {t0n t0c : Nat} {bound1 : Int} {b6 : OA} {b6n b6c : Nat} {e7 c8 : Int} {ok9 : Bool} {want10 : OA} {want10n want10c : Nat} {f11 : Int} {first12 : Bool} {i13 : Int} {K : EP} {h : Heap} (H :
 let t45 : Bool := decide (i13 < (b6n : Int))
 br t45 (
 hwp PP (Instr.indexAt T_sl_uint8 (.slice b6 b6n b6c) (.int .i64 i13)) (fun v h1 => ∃ (t50 : Addr), v = (.pointer (some t50)) ∧
 wr t50 (.int .u8 7) (fun h2 =>
 let t47 : Int := IntKind.i64.wrap (i13 + 1)
 L1 t0 t0n t0c bound1 b6 b6n b6c e7 c8 ok9 want10 want10n want10c f11 first12 t47 K h2) h1) h) (
 K (.exit 0) (X0 t0 t0n t0c bound1 e7 c8 ok9 want10 want10n want10c f11 first12) h)) : L1 t0 t0n t0c bound1 b6 b6n b6c e7 c8 ok9 want10 want10n want10c f11 first12 i13 K h := by unfold L1; exact Lp.of_txt (an 8180) 16323 (by kernel_rfl) H
theorem L1_X0 {Q : VP} {t0 : OA} {t0n t0c : Nat} {bound1 e7 c8 : Int} {ok9 : Bool} {want10 : OA} {want10n want10c : Nat} {f11 : Int} {first12 : Bool} {h : Heap} (H :
 SpecH PP F_match_Expand [(.slice t0 t0n t0c), (.int .i64 bound1)] h (fun v h1 => ∃ (t54 : OA) (t54n t54c : Nat) (t54_1 : Int), v = (.tuple #[(.slice t54 t54n t54c), (.int .i64 t54_1)]) ∧
 SpecH PP F_law06_awake [] h1 (fun v_1 h2 => ∃ (t57 : Bool), v_1 = (.bool t57) ∧
 br t57 (
 br ok9 (
 br first12 (
 SpecH PP F_ref02_Same [(.slice t54 t54n t54c), (.slice want10 want10n want10c)] h2 (fun v_2 h3 => ∃ (t67 : Bool), v_2 = (.bool t67) ∧
 br t67 (
 let t72 : Bool := (e7 == f11)
 br t72 (
 let t77 : Bool := (t54_1 == f11)
 br t77 (
 SpecH PP F_ref06_Check [(.slice t0 t0n t0c)] h3 (fun v_3 h4 => ∃ (t82 : Int), v_3 = (.int .i64 t82) ∧
 let t83 : Bool := (c8 == t82)
 Q (.bool t83) h4)) (
 Q (.bool false) h3)) (
 Q (.bool false) h3)) (
 Q (.bool false) h3))) (
 Q (.bool false) h2)) (
 Q (.bool false) h2)) (
 Q (.bool false) h2)))) : (K1 Q) (.exit 0) (X0 t0 t0n t0c bound1 e7 c8 ok9 want10 want10n want10c f11 first12) h := of_eq_txt (by kernel_rfl) H
theorem door {t0 : OA} {t0n t0c : Nat} {bound1 : Int} {Q : VP} {h : Heap} (H :
 let t18 : Bool := decide ((t0n : Int) > 1048576)
 br t18 (
 SpecH PP F_law06_awake [] h (fun v h1 => ∃ (t19 : Bool), v = (.bool t19) ∧
 Q (.bool t19) h1)) (
 SpecH PP F_law06_lent [(.slice t0 t0n t0c)] h (fun v_1 h2 => ∃ (t21 : OA) (t21n t21c : Nat), v_1 = (.slice t21 t21n t21c) ∧
 SpecH PP F_match_Expand [(.slice t21 t21n t21c), (.int .i64 bound1)] h2 (fun v_2 h3 => ∃ (t25 : OA) (t25n t25c : Nat) (t25_1 : Int), v_2 = (.tuple #[(.slice t25 t25n t25c), (.int .i64 t25_1)]) ∧
 SpecH PP F_match_Check [(.slice t21 t21n t21c)] h3 (fun v_3 h4 => ∃ (t29 : Int), v_3 = (.int .i64 t29) ∧
 SpecH PP F_law06_back [(.slice t21 t21n t21c), (.slice t0 t0n t0c)] h4 (fun v_4 h5 => ∃ (t32 : Bool), v_4 = (.bool t32) ∧
 SpecH PP F_ref06_Expand [(.slice t0 t0n t0c), (.int .i64 bound1)] h5 (fun v_5 h6 => ∃ (t36 : OA) (t36n t36c : Nat) (t36_1 : Int), v_5 = (.tuple #[(.slice t36 t36n t36c), (.int .i64 t36_1)]) ∧
 SpecH PP F_ref02_Same [(.slice t25 t25n t25c), (.slice t36 t36n t36c)] h6 (fun v_6 h7 => ∃ (t41 : Bool), v_6 = (.bool t41) ∧
 L1 t0 t0n t0c bound1 t25 t25n t25c t25_1 t29 t32 t36 t36n t36c t36_1 t41 0 (K1 Q) h7)))))))) : SpecH PP F_law06_MatchExpands [(.slice t0 t0n t0c), (.int .i64 bound1)] h Q :=
   spec_of_txt (ann := ann) Try.func3 rfl rfl (by kernel_rfl) H
end law06_MatchExpands
/-! ### haversack/haversacklaw06.MatchFinds: function 4 -/
namespace law06_MatchFinds
def ann : Ann := (.seq 25 (.region [(List.range 2, 25)]) (.seq 25 (.seq 65561 (.region [(List.range 3, 65561)]) (.cond (.seq 16 (.region [(List.range 2, 16)]) (.exit 16)) .leaf)) (.seq 57 (.region [(List.range 5, 57)]) (.seq 57 (.region [(List.range 3, 57)]) (.seq 57 (.region [(List.range 5, 57)]) (.seq 121 (.region [(List.range 4, 121)]) (.seq 249 (.region [(List.range 6, 249)]) (.seq 505 (.region [(List.range 6, 505)]) (.seq 1016 (.region [(List.range 15, 1016)]) (.join (.seq 984 (.seq 2040 (.region [(List.range 1, 2040)]) (.block (.loop 2040 (.seq 2040 (.seq 288230376151713784 (.region [(List.range 4, 288230376151713784)]) (.cond .leaf (.exit 984))) (.seq 2040 (.block (.region [(List.range 4, 2040)])) (.region [(List.range 3, 2040)])))))) (.seq 344 (.seq 37778931862957161709912 (.region [(List.range 12, 37778931862957161709912)]) (.join (.cond (.seq 16 (.region [(List.range 1, 16)]) (.exit 16)) .leaf))) (.seq 16 (.seq 2392 (.region [(List.range 2, 2392)]) (.block (.loop 2392 (.seq 2392 (.seq 151115727451828646840664 (.region [(List.range 2, 151115727451828646840664)]) (.cond .leaf (.exit 16))) (.seq 2392 (.block (.seq 6488 (.region [(List.range 2, 6488)]) (.seq 6488 (.seq 1208925819614629174712664 (.region [(List.range 1, 1208925819614629174712664)]) (.block (.range 6488 (.region [(List.range 2, 14424)]) (.block (.seq 6152 (.seq 9903520314283042199192999960 (.region [(List.range 12, 9903520314283042199192999960)]) (.join (.cond (.seq 0 (.region [(List.range 1, 0)]) (.exit 0)) .leaf))) (.seq 6152 (.region [(List.range 3, 6152)]) (.seq 5070602400912917605986812821504 (.region [(List.range 7, 5070602400912917605986812821504)]) (.cond (.exit 0) .leaf)))))))) (.join (.seq 41538374868278621028243970633763160 (.region [(List.range 13, 41538374868278621028243970633763160)]) (.join (.cond (.seq 16 (.region [(List.range 1, 16)]) (.exit 16)) .leaf))))))) (.seq 2392 (.seq 83076749736557242056487941267521880 (.region [(List.range 1, 83076749736557242056487941267521880)]) (.region [(List.range 2, 2392)])) (.region [(List.range 3, 2392)]))))))) (.seq 16 (.region [(List.range 2, 16)]) (.exit 16)))))))))))))))
noncomputable abbrev cd (n : Nat) : Code := sub (bodyOf Try.f4) (pth n)
abbrev an (n : Nat) : Ann := subA ann (pth n)
@[irreducible] def X0 (early3 t4 want6 : Addr) (t7 : OA) (t7n t7c : Nat) (seq8 : Value) (ok9 : Bool) : Fr := (mkFr 0 118 [(3, (.pointer (some early3))), (4, (.pointer (some t4))), (6, (.pointer (some want6))), (7, (.slice t7 t7n t7c)), (8, seq8), (9, (.bool ok9))])
@[irreducible] def X2 (t4 : Addr) : Fr := (mkFr 0 118 [(4, (.pointer (some t4)))])
@[irreducible] def Xret (early3 t4 want6 : Addr) (seq8 : Value) (k11 xn12 : Addr) : Fr := (mkFr 0 118 [(3, (.pointer (some early3))), (4, (.pointer (some t4))), (6, (.pointer (some want6))), (8, seq8), (11, (.pointer (some k11))), (12, (.pointer (some xn12)))])
@[irreducible] def Xretb (t4 : Addr) : Fr := (mkFr 0 118 [(4, (.pointer (some t4)))])
@[irreducible] def J1 (early3 t4 : Addr) (own5 : OA) (own5n own5c : Nat) (want6 : Addr) (t7 : OA) (t7n t7c : Nat) (seq8 : Value) (ok9 : Bool) (Q : VP) (h : Heap) : Prop := Jn PP true (cd 1023) (mkFr 0 118 [(3, (.pointer (some early3))), (4, (.pointer (some t4))), (5, (.slice own5 own5n own5c)), (6, (.pointer (some want6))), (7, (.slice t7 t7n t7c)), (8, seq8), (9, (.bool ok9))]) (bodyKR PP Try.f4 Q) h
@[irreducible] def K2 (Q : VP) : EP := seqK (fun fr h => ev PP true none (cd 2047) (an 2047) (fr.mask 984) (bodyKR PP Try.f4 Q) h) (bodyKR PP Try.f4 Q)
@[irreducible] def K1 (Q : VP) : EP := blockK 0 (K2 Q)
@[irreducible] def L1 (early3 t4 : Addr) (own5 : OA) (own5n own5c : Nat) (want6 : Addr) (t7 : OA) (t7n t7c : Nat) (seq8 : Value) (ok9 : Bool) (i10 : Int) (K : EP) (h : Heap) : Prop := Lp PP true (cd 16372) (mkFr 0 118 [(3, (.pointer (some early3))), (4, (.pointer (some t4))), (5, (.slice own5 own5n own5c)), (6, (.pointer (some want6))), (7, (.slice t7 t7n t7c)), (8, seq8), (9, (.bool ok9)), (10, (.int .i64 i10))]) K h
@[irreducible] def B1 (K : EP) : EP := seqK (fun fr h => Lp PP true (cd 16372) (fr.mask 2040) K h) K
@[irreducible] def K3 (Q : VP) : EP := seqK (fun fr h => ev PP true none (cd 4095) (an 4095) (fr.mask 344) (bodyKR PP Try.f4 Q) h) (bodyKR PP Try.f4 Q)
@[irreducible] def J2 (early3 t4 want6 : Addr) (seq8 : Value) (t75 : Bool) (Q : VP) (h : Heap) : Prop := Jn PP true (cd 8189) (mkFr 0 118 [(3, (.pointer (some early3))), (4, (.pointer (some t4))), (6, (.pointer (some want6))), (8, seq8), (75, (.bool t75))]) (K3 Q) h
@[irreducible] def K5 (Q : VP) : EP := seqK (fun fr h => ev PP true none (cd 8191) (an 8191) (fr.mask 16) (bodyKR PP Try.f4 Q) h) (bodyKR PP Try.f4 Q)
@[irreducible] def K4 (Q : VP) : EP := blockK 2 (K5 Q)
@[irreducible] def L2 (early3 t4 want6 : Addr) (seq8 : Value) (k11 : Addr) (K : EP) (h : Heap) : Prop := Lp PP true (cd 65524) (mkFr 0 118 [(3, (.pointer (some early3))), (4, (.pointer (some t4))), (6, (.pointer (some want6))), (8, seq8), (11, (.pointer (some k11)))]) K h
@[irreducible] def B2 (K : EP) : EP := seqK (fun fr h => Lp PP true (cd 65524) (fr.mask 2392) K h) K
@[irreducible] def R1 (early3 t4 want6 : Addr) (seq8 : Value) (k11 xn12 : Addr) (t81f0 t81f1 t81f2 : Int) (l : Nat) (K : VP) (h : Heap) : Prop := ev PP false none (cd 16774292) (an 16774292) (setAll (mkFr 0 118 [(3, (.pointer (some early3))), (4, (.pointer (some t4))), (6, (.pointer (some want6))), (8, seq8), (11, (.pointer (some k11))), (12, (.pointer (some xn12)))]) [(81, (.agg #[(.int .u8 t81f0), (.int .i64 t81f1), (.int .i64 t81f2)]))]) (roundK PP l (cd 16774293) (an 16774293) 14424 K) h
@[irreducible] def K10 (l : Nat) (K : VP) : EP := blockK 5 (roundEnd l K)
@[irreducible] def K7 (l : Nat) (K : VP) : EP := seqK (fun fr h => ev PP false none (cd 67097173) (an 67097173) (fr.mask 6152) (K10 l K) h) (K10 l K)
@[irreducible] def J3 (early3 t4 k11 xn12 : Addr) (t93 : Bool) (l : Nat) (K : VP) (h : Heap) : Prop := Jn PP false (cd 134194345) (mkFr 0 118 [(3, (.pointer (some early3))), (4, (.pointer (some t4))), (11, (.pointer (some k11))), (12, (.pointer (some xn12))), (93, (.bool t93))]) (K7 l K) h
@[irreducible] def K11 (K : EP) : EP := seqK (fun fr h => ev PP true none (cd 262099) (an 262099) (fr.mask 2392) (B2 K) h) (B2 K)
@[irreducible] def K8 (K : EP) : EP := blockK 3 (K11 K)
@[irreducible] def J4 (early3 t4 want6 : Addr) (seq8 : Value) (k11 xn12 : Addr) (K : EP) (h : Heap) : Prop := Jn PP true (cd 2096787) (mkFr 0 118 [(3, (.pointer (some early3))), (4, (.pointer (some t4))), (6, (.pointer (some want6))), (8, seq8), (11, (.pointer (some k11))), (12, (.pointer (some xn12)))]) (K8 K) h
@[irreducible] def K9 (K : EP) : EP := seqK (fun fr h => Jn PP true (cd 2096787) (fr.mask 6488) (K8 K) h) (K8 K)
@[irreducible] def K6 (K : EP) : EP := blockK 4 (K9 K)
@[irreducible] def J5 (early3 t4 want6 : Addr) (seq8 : Value) (k11 : Addr) (t115 : Bool) (K : EP) (h : Heap) : Prop := Jn PP true (cd 4193575) (mkFr 0 118 [(3, (.pointer (some early3))), (4, (.pointer (some t4))), (6, (.pointer (some want6))), (8, seq8), (11, (.pointer (some k11))), (115, (.bool t115))]) (K8 K) h
theorem J1_of {early3 t4 : Addr} {own5 : OA} {own5n own5c : Nat} {want6 : Addr} {t7 : OA} {t7n t7c : Nat} {seq8 : Value} {ok9 : Bool} {Q : VP} {h : Heap} (H :
 L1 early3 t4 own5 own5n own5c want6 t7 t7n t7c seq8 ok9 0 (K1 Q) h) : J1 early3 t4 own5 own5n own5c want6 t7 t7n t7c seq8 ok9 Q h := by unfold J1; exact Jn.of_txt (an 1023) (by kernel_rfl) H
theorem L1_of {early3 t4 : Addr} {own5 : OA} {own5n own5c : Nat} {want6 : Addr} {t7 : OA} {t7n t7c : Nat} {seq8 : Value} {ok9 : Bool} {i10 : Int} {K : EP} {h : Heap} (H :
 let t58 : Bool := decide (i10 < (own5n : Int))
 br t58 (
 hwp PP (Instr.indexAt T_sl_uint8 (.slice own5 own5n own5c) (.int .i64 i10)) (fun v h1 => ∃ (t63 : Addr), v = (.pointer (some t63)) ∧
 wr t63 (.int .u8 55) (fun h2 =>
 let t60 : Int := IntKind.i64.wrap (i10 + 1)
 L1 early3 t4 own5 own5n own5c want6 t7 t7n t7c seq8 ok9 t60 K h2) h1) h) (
 K (.exit 0) (X0 early3 t4 want6 t7 t7n t7c seq8 ok9) h)) : L1 early3 t4 own5 own5n own5c want6 t7 t7n t7c seq8 ok9 i10 K h := by unfold L1; exact Lp.of_txt (an 16372) 2040 (by kernel_rfl) H
theorem L1_X0 {Q : VP} {early3 t4 want6 : Addr} {t7 : OA} {t7n t7c : Nat} {seq8 : Value} {ok9 : Bool} {h : Heap} (H :
 hwp PP (do eqGuard .eql T_iter_Seq_haversack_api_Token (.tmp 64) (.const .nilFunc) seq8 .nilFunc; Go.binOp .eql T_iter_Seq_haversack_api_Token seq8 .nilFunc) (fun v h1 => ∃ (t65 : Bool), v = (.bool t65) ∧
 br t65 (
 J2 early3 t4 want6 seq8 true Q h1) (
 let t68 : Bool := (!ok9)
 br t68 (
 J2 early3 t4 want6 seq8 true Q h1) (
 ∃ (t72 : OA) (t72n t72c : Nat), cellH h1 want6 = some (.slice t72 t72n t72c) ∧
 SpecH PP F_ref06_Same [(.slice t7 t7n t7c), (.slice t72 t72n t72c)] h1 (fun v_1 h2 => ∃ (t73 : Bool), v_1 = (.bool t73) ∧
 let t74 : Bool := (!t73)
 J2 early3 t4 want6 seq8 t74 Q h2)))) h) : (K1 Q) (.exit 0) (X0 early3 t4 want6 t7 t7n t7c seq8 ok9) h := of_eq_txt (by kernel_rfl) H
theorem J2_of {early3 t4 want6 : Addr} {seq8 : Value} {t75 : Bool} {Q : VP} {h : Heap} (H :
 br t75 (
 wr t4 (.bool false) (fun h1 =>
 ∃ (t4_1 : Bool), cellH h1 t4 = some (.bool t4_1) ∧
 ∀ h2, Takes h1 h2 → Q (.bool t4_1) h2) h) (
 let k11 : Addr := ⟨Array.size h, 0, none⟩
 let h3 : Heap := Array.push h (.cells #[(.int .i64 0)] T_int (0, 0))
 wr k11 (.int .i64 0) (fun h4 =>
 L2 early3 t4 want6 seq8 k11 (K4 Q) h4) h3)) : J2 early3 t4 want6 seq8 t75 Q h := by unfold J2; exact Jn.of_txt (an 8189) (by kernel_rfl) H
theorem L2_of {early3 t4 want6 : Addr} {seq8 : Value} {k11 : Addr} {K : EP} {h : Heap} (H :
 ∃ (t76 : Int), cellH h k11 = some (.int .i64 t76) ∧
 let t77 : Bool := decide (t76 < 2)
 br t77 (
 let xn12 : Addr := ⟨Array.size h, 0, none⟩
 let h1 : Heap := Array.push h (.cells #[(.int .i64 0)] T_int (0, 0))
 wr xn12 (.int .i64 0) (fun h2 =>
 rangeK PP seq8 #[81] (cd 16774292) (cd 16774293) (mkFr 0 118 [(3, (.pointer (some early3))), (4, (.pointer (some t4))), (6, (.pointer (some want6))), (8, seq8), (11, (.pointer (some k11))), (12, (.pointer (some xn12)))]) (K6 K) h2) h1) (
 K (.exit 2) (X2 t4) h)) : L2 early3 t4 want6 seq8 k11 K h := by unfold L2; exact Lp.of_txt (an 65524) 2392 (by kernel_rfl) H
theorem L2_X2 {Q : VP} {t4 : Addr} {h : Heap} (H :
 SpecH PP F_law06_awake [] h (fun v h1 => ∃ (t117 : Bool), v = (.bool t117) ∧
 wr t4 (.bool t117) (fun h2 =>
 ∃ (t4_1 : Bool), cellH h2 t4 = some (.bool t4_1) ∧
 ∀ h3, Takes h2 h3 → Q (.bool t4_1) h3) h1)) : (K4 Q) (.exit 2) (X2 t4) h := of_eq_txt (by kernel_rfl) H
theorem R1_of {early3 t4 want6 : Addr} {seq8 : Value} {k11 xn12 : Addr} {t81f0 t81f1 t81f2 : Int} {l : Nat} {K : VP} {h : Heap} (H :
 let x13 : Addr := ⟨Array.size h, 0, none⟩
 let h1 : Heap := Array.push h (.cells #[(.int .u8 0), (.int .i64 0), (.int .i64 0)] T_api_Token (0, 0))
 wrCells x13 0 [(.int .u8 t81f0), (.int .i64 t81f1), (.int .i64 t81f2)] (fun h2 =>
 ∃ xL : Loop, h2[l]? = some (.loop xL) ∧ xL.state = .ready ∧
 let h3 : Heap := h2.setIfInBounds l (.loop { xL with state := .busy })
 ∃ (t82 : Int), cellH h3 xn12 = some (.int .i64 t82) ∧
 ∃ (t83 : OA) (t83n t83c : Nat), cellH h3 want6 = some (.slice t83 t83n t83c) ∧
 let t85 : Bool := decide (t82 ≥ (t83n : Int))
 br t85 (
 J3 early3 t4 k11 xn12 true l K h3) (
 ∃ (t87f0 t87f1 t87f2 : Int), rdCells h3 x13 0 [(.int .u8 t87f0), (.int .i64 t87f1), (.int .i64 t87f2)] ∧
 ∃ (t88 : OA) (t88n t88c : Nat), cellH h3 want6 = some (.slice t88 t88n t88c) ∧
 ∃ (t89 : Int), cellH h3 xn12 = some (.int .i64 t89) ∧
 hwp PP (Instr.indexAt T_sl_api_Token (.slice t88 t88n t88c) (.int .i64 t89)) (fun v h4 => ∃ (t90 : Addr), v = (.pointer (some t90)) ∧
 ∃ (t91f0 t91f1 t91f2 : Int), rdCells h4 t90 0 [(.int .u8 t91f0), (.int .i64 t91f1), (.int .i64 t91f2)] ∧
 let t92 : Bool := (!((t87f0 == t91f0) && ((t87f1 == t91f1) && ((t87f2 == t91f2) && true))))
 J3 early3 t4 k11 xn12 t92 l K h4) h3)) h1) : R1 early3 t4 want6 seq8 k11 xn12 t81f0 t81f1 t81f2 l K h := of_eq_txt (by kernel_rfl) H
theorem R1_yield {early3 t4 want6 : Addr} {seq8 : Value} {k11 xn12 : Addr} {t81f0 t81f1 t81f2 : Int} {l : Nat} {K : VP} {h : Heap} {L : Loop} (hl : h[l]? = some (.loop L)) (hp : L.params = #[81]) (ha : L.assign = (cd 16774292)) (hb : L.body = (cd 16774293)) (hf : FrRel (mkFr 0 118 [(3, (.pointer (some early3))), (4, (.pointer (some t4))), (6, (.pointer (some want6))), (8, seq8), (11, (.pointer (some k11))), (12, (.pointer (some xn12)))]) L.tmps) (H : R1 early3 t4 want6 seq8 k11 xn12 t81f0 t81f1 t81f2 l K h) : callV PP (.func (.yield l) #[] #[]) [(.agg #[(.int .u8 t81f0), (.int .i64 t81f1), (.int .i64 t81f2)])] K h := by
   unfold R1 at H
   refine yield_ok (ann := an 16774292) (annB := an 16774293) (m := 14424) hl (by rw [hp]; rfl) hf ?_
   rw [ha, hb, hp]; exact H
theorem R1_outn0 {K : EP} {early3 t4 want6 : Addr} {seq8 : Value} {k11 xn12 : Addr} {h : Heap} (H :
 J4 early3 t4 want6 seq8 k11 xn12 K h) : (K6 K) .normal (mkFr 0 118 [(3, (.pointer (some early3))), (4, (.pointer (some t4))), (6, (.pointer (some want6))), (8, seq8), (11, (.pointer (some k11))), (12, (.pointer (some xn12)))]) h := of_eq_txt (by kernel_rfl) H
theorem R1_outexit4 {K : EP} {early3 t4 want6 : Addr} {seq8 : Value} {k11 xn12 : Addr} {h : Heap} (H :
 J4 early3 t4 want6 seq8 k11 xn12 K h) : (K6 K) (.exit 4) (mkFr 0 118 [(3, (.pointer (some early3))), (4, (.pointer (some t4))), (6, (.pointer (some want6))), (8, seq8), (11, (.pointer (some k11))), (12, (.pointer (some xn12)))]) h := of_eq_txt (by kernel_rfl) H
theorem R1_outret {K : EP} {early3 t4 want6 : Addr} {seq8 : Value} {k11 xn12 : Addr} {h : Heap} (H :
 K .ret (Xret early3 t4 want6 seq8 k11 xn12) h) : (K6 K) .ret (mkFr 0 118 [(3, (.pointer (some early3))), (4, (.pointer (some t4))), (6, (.pointer (some want6))), (8, seq8), (11, (.pointer (some k11))), (12, (.pointer (some xn12)))]) h := of_eq_txt (by kernel_rfl) H
theorem J3_of {early3 t4 k11 xn12 : Addr} {t93 : Bool} {l : Nat} {K : VP} {h : Heap} (H :
 br t93 (
 wr t4 (.bool false) (fun h1 =>
 ∃ xL, h1[l]? = some (.loop xL) ∧ K (.bool false) (h1.setIfInBounds l (endL xL (some .ret)))) h) (
 ∃ (t94 : Int), cellH h xn12 = some (.int .i64 t94) ∧
 let t95 : Int := IntKind.i64.wrap (t94 + 1)
 wr xn12 (.int .i64 t95) (fun h2 =>
 ∃ (t96 : Int), cellH h2 k11 = some (.int .i64 t96) ∧
 let t97 : Bool := (t96 == 0)
 br t97 (
 ∃ (t99 : Int), cellH h2 xn12 = some (.int .i64 t99) ∧
 ∃ (t100 : Int), cellH h2 early3 = some (.int .i64 t100) ∧
 let t101 : Bool := (t99 == t100)
 br t101 (
 ∃ xL_1, h2[l]? = some (.loop xL_1) ∧ K (.bool false) (h2.setIfInBounds l (endL xL_1 (some (.exit 4))))) (
 ∃ xL_2, h2[l]? = some (.loop xL_2) ∧ K (.bool true) (h2.setIfInBounds l (endL xL_2 none)))) (
 ∃ xL_3, h2[l]? = some (.loop xL_3) ∧ K (.bool true) (h2.setIfInBounds l (endL xL_3 none)))) h)) : J3 early3 t4 k11 xn12 t93 l K h := by unfold J3; exact Jn.of_txt (an 134194345) (by kernel_rfl) H
theorem J4_of {early3 t4 want6 : Addr} {seq8 : Value} {k11 xn12 : Addr} {K : EP} {h : Heap} (H :
 ∃ (t103 : Int), cellH h xn12 = some (.int .i64 t103) ∧
 ∃ (t104 : OA) (t104n t104c : Nat), cellH h want6 = some (.slice t104 t104n t104c) ∧
 let t106 : Bool := (t103 != (t104n : Int))
 br t106 (
 ∃ (t108 : Int), cellH h k11 = some (.int .i64 t108) ∧
 let t109 : Bool := (t108 == 1)
 br t109 (
 J5 early3 t4 want6 seq8 k11 true K h) (
 ∃ (t111 : Int), cellH h xn12 = some (.int .i64 t111) ∧
 ∃ (t112 : Int), cellH h early3 = some (.int .i64 t112) ∧
 let t113 : Bool := (t111 != t112)
 J5 early3 t4 want6 seq8 k11 t113 K h)) (
 J5 early3 t4 want6 seq8 k11 false K h)) : J4 early3 t4 want6 seq8 k11 xn12 K h := by unfold J4; exact Jn.of_txt (an 2096787) (by kernel_rfl) H
theorem L2_Xret {Q : VP} {early3 t4 want6 : Addr} {seq8 : Value} {k11 xn12 : Addr} {h : Heap} (H :
 ∃ (t4_1 : Bool), cellH h t4 = some (.bool t4_1) ∧
 ∀ h1, Takes h h1 → Q (.bool t4_1) h1) : (K4 Q) .ret (Xret early3 t4 want6 seq8 k11 xn12) h := of_eq_txt (by kernel_rfl) H
theorem J5_of {early3 t4 want6 : Addr} {seq8 : Value} {k11 : Addr} {t115 : Bool} {K : EP} {h : Heap} (H :
 br t115 (
 wr t4 (.bool false) (fun h1 =>
 K .ret (Xretb t4) h1) h) (
 ∃ (t116 : Int), cellH h k11 = some (.int .i64 t116) ∧
 let k11_1 : Addr := ⟨Array.size h, 0, none⟩
 let h2 : Heap := Array.push h (.cells #[(.int .i64 0)] T_int (0, 0))
 wr k11_1 (.int .i64 t116) (fun h3 =>
 ∃ (t78 : Int), cellH h3 k11_1 = some (.int .i64 t78) ∧
 let t79 : Int := IntKind.i64.wrap (t78 + 1)
 wr k11_1 (.int .i64 t79) (fun h4 =>
 L2 early3 t4 want6 seq8 k11_1 K h4) h3) h2)) : J5 early3 t4 want6 seq8 k11 t115 K h := by unfold J5; exact Jn.of_txt (an 4193575) (by kernel_rfl) H
theorem L2_Xretb {Q : VP} {t4 : Addr} {h : Heap} (H :
 ∃ (t4_1 : Bool), cellH h t4 = some (.bool t4_1) ∧
 ∀ h1, Takes h h1 → Q (.bool t4_1) h1) : (K4 Q) .ret (Xretb t4) h := of_eq_txt (by kernel_rfl) H
theorem door {data0 : OA} {data0n data0c : Nat} {early1 : Int} {Q : VP} {h : Heap} (H :
 let early3 : Addr := ⟨Array.size h, 0, none⟩
 let h1 : Heap := Array.push h (.cells #[(.int .i64 early1)] T_int (0, 0))
 let t4 : Addr := ⟨Array.size h1, 0, none⟩
 let h2 : Heap := Array.push h1 (.cells #[(.bool false)] T_bool (0, 0))
 let t16 : Bool := decide ((data0n : Int) > 1048576)
 br t16 (
 SpecH PP F_law06_awake [] h2 (fun v h3 => ∃ (t17 : Bool), v = (.bool t17) ∧
 wr t4 (.bool t17) (fun h4 =>
 ∃ (t4_1 : Bool), cellH h4 t4 = some (.bool t4_1) ∧
 ∀ h5, Takes h4 h5 → Q (.bool t4_1) h5) h3)) (
 let t20 : Int := IntKind.i64.wrap ((data0n : Int) + 1)
 hwp PP (Instr.makeSlice T_sl_uint8 (.int .i64 t20) (.int .i64 t20)) (fun v_1 h6 => ∃ (t21 : OA) (t21n t21c : Nat), v_1 = (.slice t21 t21n t21c) ∧
 hwp PP (Builtin.copy_ #[T_sl_uint8, T_sl_uint8] T_int #[(.slice t21 t21n t21c), (.slice data0 data0n data0c)]) (fun v_2 h7 => ∃ (t24 : Int), v_2 = (.int .i64 t24) ∧
 hwp PP (Instr.indexAt T_sl_uint8 (.slice t21 t21n t21c) (.int .i64 (data0n : Int))) (fun v_3 h8 => ∃ (t28 : Addr), v_3 = (.pointer (some t28)) ∧
 wr t28 (.int .u8 99) (fun h9 =>
 SpecH PP F_ref06_Find [(.slice data0 data0n data0c)] h9 (fun v_4 h10 => ∃ (t30 : OA) (t30n t30c : Nat), v_4 = (.slice t30 t30n t30c) ∧
 let want6 : Addr := ⟨Array.size h10, 0, none⟩
 let h11 : Heap := Array.push h10 (.cells #[(.slice none 0 0)] T_sl_api_Token (0, 0))
 wr want6 (.slice t30 t30n t30c) (fun h12 =>
 hwp PP (Instr.sliceAt T_sl_uint8 (.slice t21 t21n t21c) none (some (.int .i64 (data0n : Int))) none) (fun v_5 h13 => ∃ (t34 : OA) (t34n t34c : Nat), v_5 = (.slice t34 t34n t34c) ∧
 SpecH PP F_match_Find [(.slice t34 t34n t34c)] h13 (fun v_6 h14 => ∃ (t35 : OA) (t35n t35c : Nat), v_6 = (.slice t35 t35n t35c) ∧
 hwp PP (Instr.sliceAt T_sl_uint8 (.slice t21 t21n t21c) none (some (.int .i64 (data0n : Int))) none) (fun v_7 h15 => ∃ (t39 : OA) (t39n t39c : Nat), v_7 = (.slice t39 t39n t39c) ∧
 SpecH PP F_match_All [(.slice t39 t39n t39c)] h15 (fun v_8 h16 => ∃ (t40 : Value), v_8 = t40 ∧
 hwp PP (Instr.indexAt T_sl_uint8 (.slice t21 t21n t21c) (.int .i64 (data0n : Int))) (fun v_9 h17 => ∃ (t44 : Addr), v_9 = (.pointer (some t44)) ∧
 ∃ (t45 : Int), cellH h17 t44 = some (.int .u8 t45) ∧
 let t46 : Bool := (t45 == 99)
 br t46 (
 hwp PP (Instr.sliceAt T_sl_uint8 (.slice t21 t21n t21c) none (some (.int .i64 (data0n : Int))) none) (fun v_10 h18 => ∃ (t51 : OA) (t51n t51c : Nat), v_10 = (.slice t51 t51n t51c) ∧
 SpecH PP F_ref02_Same [(.slice t51 t51n t51c), (.slice data0 data0n data0c)] h18 (fun v_11 h19 => ∃ (t53 : Bool), v_11 = (.bool t53) ∧
 J1 early3 t4 t21 t21n t21c want6 t35 t35n t35c t40 t53 Q h19)) h17) (
 J1 early3 t4 t21 t21n t21c want6 t35 t35n t35c t40 false Q h17)) h16)) h14)) h12) h11)) h8) h7) h6) h2)) : SpecH PP F_law06_MatchFinds [(.slice data0 data0n data0c), (.int .i64 early1)] h Q :=
   spec_of_txtR (ann := ann) Try.func4 rfl (by kernel_rfl) H
end law06_MatchFinds
/-! ### haversack/haversacklaw06.MatchCosts: function 5 -/
namespace law06_MatchCosts
def ann : Ann := (.seq 1 (.region [(List.range 1, 1)]) (.seq 1 (.seq 2049 (.region [(List.range 3, 2049)]) (.cond (.seq 4 (.region [(List.range 2, 4)]) (.exit 4)) .leaf)) (.seq 9 (.region [(List.range 3, 9)]) (.seq 57 (.region [(List.range 7, 57)]) (.seq 113 (.region [(List.range 4, 113)]) (.seq 496 (.region [(List.range 7, 496)]) (.seq 4 (.region [(List.range 15, 4)]) (.exit 4))))))))
noncomputable abbrev cd (n : Nat) : Code := sub (bodyOf Try.f5) (pth n)
abbrev an (n : Nat) : Ann := subA ann (pth n)
theorem door {t0 : OA} {t0n t0c : Nat} {Q : VP} {h : Heap} (H :
 let t11 : Bool := decide ((t0n : Int) > 1048576)
 br t11 (
 SpecH PP F_law06_awake [] h (fun v h1 => ∃ (t12 : Bool), v = (.bool t12) ∧
 Q (.bool t12) h1)) (
 SpecH PP F_law06_lent [(.slice t0 t0n t0c)] h (fun v_1 h2 => ∃ (t14 : OA) (t14n t14c : Nat), v_1 = (.slice t14 t14n t14c) ∧
 SpecH PP F_match_Cost [(.slice t14 t14n t14c)] h2 (fun v_2 h3 => ∃ (t17 t17_1 : Int), v_2 = (.tuple #[(.int .i64 t17), (.int .i64 t17_1)]) ∧
 SpecH PP F_law06_back [(.slice t14 t14n t14c), (.slice t0 t0n t0c)] h3 (fun v_3 h4 => ∃ (t22 : Bool), v_3 = (.bool t22) ∧
 SpecH PP F_ref06_Cost [(.slice t0 t0n t0c)] h4 (fun v_4 h5 => ∃ (t25 t25_1 : Int), v_4 = (.tuple #[(.int .i64 t25), (.int .i64 t25_1)]) ∧
 SpecH PP F_law06_awake [] h5 (fun v_5 h6 => ∃ (t28 : Bool), v_5 = (.bool t28) ∧
 br t28 (
 br t22 (
 let t35 : Bool := (t17 == t25)
 br t35 (
 let t40 : Bool := (t17_1 == t25_1)
 Q (.bool t40) h6) (
 Q (.bool false) h6)) (
 Q (.bool false) h6)) (
 Q (.bool false) h6)))))))) : SpecH PP F_law06_MatchCosts [(.slice t0 t0n t0c)] h Q :=
   spec_of_txt (ann := ann) Try.func5 rfl rfl (by kernel_rfl) H
end law06_MatchCosts
/-! ### haversack/haversacklaw06.MatchRound: function 6 -/
namespace law06_MatchRound
def ann : Ann := (.seq 1 (.region [(List.range 1, 1)]) (.seq 1 (.seq 16385 (.region [(List.range 3, 16385)]) (.cond (.seq 4 (.region [(List.range 2, 4)]) (.exit 4)) .leaf)) (.seq 9 (.region [(List.range 3, 9)]) (.seq 57 (.region [(List.range 9, 57)]) (.seq 249 (.region [(List.range 7, 249)]) (.seq 505 (.region [(List.range 1, 505)]) (.seq 505 (.seq 1017 (.region [(List.range 1, 1017)]) (.block (.loop 1017 (.seq 1017 (.seq 8589935609 (.region [(List.range 4, 8589935609)]) (.cond .leaf (.exit 505))) (.seq 1017 (.block (.seq 1017 (.region [(List.range 3, 1017)]) (.seq 4398046512121 (.region [(List.range 5, 4398046512121)]) (.cond (.region [(List.range 3, 1017)]) .leaf)))) (.join (.region [(List.range 3, 1017)]))))))) (.seq 505 (.seq 140737488355833 (.region [(List.range 3, 140737488355833)]) (.cond (.seq 2553 (.region [(List.range 10, 2553)]) (.seq 144115188075856377 (.region [(List.range 2, 144115188075856377)]) (.cond (.seq 4 (.region [(List.range 1, 4)]) (.exit 4)) .leaf))) .leaf)) (.join (.seq 4 (.region [(List.range 32, 4)]) (.exit 4)))))))))))
noncomputable abbrev cd (n : Nat) : Code := sub (bodyOf Try.f6) (pth n)
abbrev an (n : Nat) : Ann := subA ann (pth n)
@[irreducible] def X0 (data0 : OA) (data0n data0c : Nat) (t3 : OA) (t3n t3c : Nat) (b4 : OA) (b4n b4c : Nat) (e5 xn6 f7 plain8 : Int) : Fr := (mkFr 0 89 [(0, (.slice data0 data0n data0c)), (3, (.slice t3 t3n t3c)), (4, (.slice b4 b4n b4c)), (5, (.int .i64 e5)), (6, (.int .i64 xn6)), (7, (.int .i64 f7)), (8, (.int .i64 plain8))])
@[irreducible] def L1 (data0 : OA) (data0n data0c : Nat) (t3 : OA) (t3n t3c : Nat) (b4 : OA) (b4n b4c : Nat) (e5 xn6 f7 plain8 i9 : Int) (K : EP) (h : Heap) : Prop := Lp PP true (cd 2036) (mkFr 0 89 [(0, (.slice data0 data0n data0c)), (3, (.slice t3 t3n t3c)), (4, (.slice b4 b4n b4c)), (5, (.int .i64 e5)), (6, (.int .i64 xn6)), (7, (.int .i64 f7)), (8, (.int .i64 plain8)), (9, (.int .i64 i9))]) K h
@[irreducible] def B1 (K : EP) : EP := seqK (fun fr h => Lp PP true (cd 2036) (fr.mask 1017) K h) K
@[irreducible] def J1 (data0 : OA) (data0n data0c : Nat) (t3 : OA) (t3n t3c : Nat) (b4 : OA) (b4n b4c : Nat) (e5 xn6 f7 plain8 i9 : Int) (K : EP) (h : Heap) : Prop := Jn PP true (cd 8147) (mkFr 0 89 [(0, (.slice data0 data0n data0c)), (3, (.slice t3 t3n t3c)), (4, (.slice b4 b4n b4c)), (5, (.int .i64 e5)), (6, (.int .i64 xn6)), (7, (.int .i64 f7)), (8, (.int .i64 plain8)), (9, (.int .i64 i9))]) (B1 K) h
@[irreducible] def J2 (data0 : OA) (data0n data0c : Nat) (t3 : OA) (t3n t3c : Nat) (b4 : OA) (b4n b4c : Nat) (e5 xn6 f7 plain8 : Int) (Q : VP) (h : Heap) : Prop := Jn PP true (cd 511) (mkFr 0 89 [(0, (.slice data0 data0n data0c)), (3, (.slice t3 t3n t3c)), (4, (.slice b4 b4n b4c)), (5, (.int .i64 e5)), (6, (.int .i64 xn6)), (7, (.int .i64 f7)), (8, (.int .i64 plain8))]) (bodyK PP Try.f6 Q) h
@[irreducible] def K2 (Q : VP) : EP := seqK (fun fr h => ev PP true none (cd 255) (an 255) (fr.mask 505) (bodyK PP Try.f6 Q) h) (bodyK PP Try.f6 Q)
@[irreducible] def K1 (Q : VP) : EP := blockK 0 (K2 Q)
theorem L1_of {data0 : OA} {data0n data0c : Nat} {t3 : OA} {t3n t3c : Nat} {b4 : OA} {b4n b4c : Nat} {e5 xn6 f7 plain8 i9 : Int} {K : EP} {h : Heap} (H :
 let t33 : Bool := decide (i9 < (data0n : Int))
 br t33 (
 let t37 : Int := IntKind.i64.wrap (plain8 + 8)
 hwp PP (Instr.indexAt T_sl_uint8 (.slice data0 data0n data0c) (.int .i64 i9)) (fun v h1 => ∃ (t40 : Addr), v = (.pointer (some t40)) ∧
 ∃ (t41 : Int), cellH h1 t40 = some (.int .u8 t41) ∧
 let t42 : Bool := decide (t41 ≥ 144)
 br t42 (
 let t44 : Int := IntKind.i64.wrap (t37 + 1)
 J1 data0 data0n data0c t3 t3n t3c b4 b4n b4c e5 xn6 f7 t44 i9 K h1) (
 J1 data0 data0n data0c t3 t3n t3c b4 b4n b4c e5 xn6 f7 t37 i9 K h1)) h) (
 K (.exit 0) (X0 data0 data0n data0c t3 t3n t3c b4 b4n b4c e5 xn6 f7 plain8) h)) : L1 data0 data0n data0c t3 t3n t3c b4 b4n b4c e5 xn6 f7 plain8 i9 K h := by unfold L1; exact Lp.of_txt (an 2036) 1017 (by kernel_rfl) H
theorem L1_X0 {Q : VP} {data0 : OA} {data0n data0c : Nat} {t3 : OA} {t3n t3c : Nat} {b4 : OA} {b4n b4c : Nat} {e5 xn6 f7 plain8 : Int} {h : Heap} (H :
 let t47 : Bool := decide ((data0n : Int) > 0)
 br t47 (
 let t52 : Int := IntKind.i64.wrap ((data0n : Int) - 1)
 SpecH PP F_match_Expand [(.slice t3 t3n t3c), (.int .i64 t52)] h (fun v h1 => ∃ (t53 : OA) (t53n t53c : Nat) (t53_1 : Int), v = (.tuple #[(.slice t53 t53n t53c), (.int .i64 t53_1)]) ∧
 let t57 : Bool := (t53_1 != 2)
 br t57 (
 Q (.bool false) h1) (
 J2 data0 data0n data0c t3 t3n t3c b4 b4n b4c e5 xn6 f7 plain8 Q h1))) (
 J2 data0 data0n data0c t3 t3n t3c b4 b4n b4c e5 xn6 f7 plain8 Q h)) : (K1 Q) (.exit 0) (X0 data0 data0n data0c t3 t3n t3c b4 b4n b4c e5 xn6 f7 plain8) h := of_eq_txt (by kernel_rfl) H
theorem J1_of {data0 : OA} {data0n data0c : Nat} {t3 : OA} {t3n t3c : Nat} {b4 : OA} {b4n b4c : Nat} {e5 xn6 f7 plain8 i9 : Int} {K : EP} {h : Heap} (H :
 let t35 : Int := IntKind.i64.wrap (i9 + 1)
 L1 data0 data0n data0c t3 t3n t3c b4 b4n b4c e5 xn6 f7 plain8 t35 K h) : J1 data0 data0n data0c t3 t3n t3c b4 b4n b4c e5 xn6 f7 plain8 i9 K h := by unfold J1; exact Jn.of_txt (an 8147) (by kernel_rfl) H
theorem J2_of {data0 : OA} {data0n data0c : Nat} {t3 : OA} {t3n t3c : Nat} {b4 : OA} {b4n b4c : Nat} {e5 xn6 f7 plain8 : Int} {Q : VP} {h : Heap} (H :
 SpecH PP F_law06_awake [] h (fun v h1 => ∃ (t58 : Bool), v = (.bool t58) ∧
 br t58 (
 let t61 : Bool := (e5 == 0)
 br t61 (
 SpecH PP F_ref02_Same [(.slice b4 b4n b4c), (.slice data0 data0n data0c)] h1 (fun v_1 h2 => ∃ (t66 : Bool), v_1 = (.bool t66) ∧
 br t66 (
 SpecH PP F_match_Check [(.slice t3 t3n t3c)] h2 (fun v_2 h3 => ∃ (t70 : Int), v_2 = (.int .i64 t70) ∧
 let t71 : Bool := (t70 == 0)
 br t71 (
 let t75 : Bool := (f7 == 0)
 br t75 (
 let t80 : Bool := decide (xn6 ≤ plain8)
 br t80 (
 let t87 : Bool := decide ((t3n : Int) ≤ (data0n : Int))
 Q (.bool t87) h3) (
 Q (.bool false) h3)) (
 Q (.bool false) h3)) (
 Q (.bool false) h3))) (
 Q (.bool false) h2))) (
 Q (.bool false) h1)) (
 Q (.bool false) h1))) : J2 data0 data0n data0c t3 t3n t3c b4 b4n b4c e5 xn6 f7 plain8 Q h := by unfold J2; exact Jn.of_txt (an 511) (by kernel_rfl) H
theorem door {data0 : OA} {data0n data0c : Nat} {Q : VP} {h : Heap} (H :
 let t14 : Bool := decide ((data0n : Int) > 16384)
 br t14 (
 SpecH PP F_law06_awake [] h (fun v h1 => ∃ (t15 : Bool), v = (.bool t15) ∧
 Q (.bool t15) h1)) (
 SpecH PP F_match_Find [(.slice data0 data0n data0c)] h (fun v_1 h2 => ∃ (t17 : OA) (t17n t17c : Nat), v_1 = (.slice t17 t17n t17c) ∧
 SpecH PP F_match_Expand [(.slice t17 t17n t17c), (.int .i64 (data0n : Int))] h2 (fun v_2 h3 => ∃ (t22 : OA) (t22n t22c : Nat) (t22_1 : Int), v_2 = (.tuple #[(.slice t22 t22n t22c), (.int .i64 t22_1)]) ∧
 SpecH PP F_match_Cost [(.slice t17 t17n t17c)] h3 (fun v_3 h4 => ∃ (t27 t27_1 : Int), v_3 = (.tuple #[(.int .i64 t27), (.int .i64 t27_1)]) ∧
 L1 data0 data0n data0c t17 t17n t17c t22 t22n t22c t22_1 t27 t27_1 0 0 (K1 Q) h4))))) : SpecH PP F_law06_MatchRound [(.slice data0 data0n data0c)] h Q :=
   spec_of_txt (ann := ann) Try.func6 rfl rfl (by kernel_rfl) H
end law06_MatchRound
/-! ### haversack/haversacklaw06.MatchTwice: function 7 -/
namespace law06_MatchTwice
def ann : Ann := (.seq 1 (.region [(List.range 1, 1)]) (.seq 1 (.seq 32769 (.region [(List.range 8, 32769)]) (.join (.cond (.seq 4 (.region [(List.range 2, 4)]) (.exit 4)) .leaf))) (.seq 9 (.region [(List.range 1, 9)]) (.seq 9 (.region [(List.range 4, 9)]) (.seq 9 (.region [(List.range 4, 9)]) (.seq 17 (.region [(List.range 3, 17)]) (.seq 49 (.region [(List.range 1, 49)]) (.seq 113 (.region [(List.range 1, 113)]) (.seq 97 (.seq 241 (.region [(List.range 1, 241)]) (.block (.loop 241 (.seq 241 (.seq 268435697 (.region [(List.range 4, 268435697)]) (.cond .leaf (.exit 97))) (.seq 241 (.block (.seq 241 (.region [(List.range 9, 241)]) (.seq 4398046511345 (.region [(List.range 4, 4398046511345)]) (.cond (.region [(List.range 3, 241)]) .leaf)))) (.join (.region [(List.range 3, 241)]))))))) (.seq 4 (.region [(List.range 18, 4)]) (.exit 4)))))))))))
noncomputable abbrev cd (n : Nat) : Code := sub (bodyOf Try.f7) (pth n)
abbrev an (n : Nat) : Ann := subA ann (pth n)
@[irreducible] def X0 (data0 : OA) (data0n data0c : Nat) (said5 xn6 : Int) : Fr := (mkFr 0 62 [(0, (.slice data0 data0n data0c)), (5, (.int .i64 said5)), (6, (.int .i64 xn6))])
@[irreducible] def K1 (Q : VP) : EP := seqK (fun fr h => ev PP true none (cd 7) (an 7) (fr.mask 1) (bodyK PP Try.f7 Q) h) (bodyK PP Try.f7 Q)
@[irreducible] def J1 (data0 : OA) (data0n data0c : Nat) (t15 : Bool) (Q : VP) (h : Heap) : Prop := Jn PP true (cd 13) (mkFr 0 62 [(0, (.slice data0 data0n data0c)), (15, (.bool t15))]) (K1 Q) h
@[irreducible] def K3 (Q : VP) : EP := seqK (fun fr h => ev PP true none (cd 1023) (an 1023) (fr.mask 97) (bodyK PP Try.f7 Q) h) (bodyK PP Try.f7 Q)
@[irreducible] def K2 (Q : VP) : EP := blockK 0 (K3 Q)
@[irreducible] def L1 (data0 : OA) (data0n data0c : Nat) (t4 : OA) (t4n t4c : Nat) (said5 xn6 i7 : Int) (K : EP) (h : Heap) : Prop := Lp PP true (cd 8180) (mkFr 0 62 [(0, (.slice data0 data0n data0c)), (4, (.slice t4 t4n t4c)), (5, (.int .i64 said5)), (6, (.int .i64 xn6)), (7, (.int .i64 i7))]) K h
@[irreducible] def B1 (K : EP) : EP := seqK (fun fr h => Lp PP true (cd 8180) (fr.mask 241) K h) K
@[irreducible] def J2 (data0 : OA) (data0n data0c : Nat) (t4 : OA) (t4n t4c : Nat) (said5 xn6 i7 : Int) (K : EP) (h : Heap) : Prop := Jn PP true (cd 32723) (mkFr 0 62 [(0, (.slice data0 data0n data0c)), (4, (.slice t4 t4n t4c)), (5, (.int .i64 said5)), (6, (.int .i64 xn6)), (7, (.int .i64 i7))]) (B1 K) h
theorem J1_of {data0 : OA} {data0n data0c : Nat} {t15 : Bool} {Q : VP} {h : Heap} (H :
 br t15 (
 SpecH PP F_law06_awake [] h (fun v h1 => ∃ (t16 : Bool), v = (.bool t16) ∧
 Q (.bool t16) h1)) (
 hwp PP (Builtin.append_ #[T_sl_uint8, T_sl_uint8] T_sl_uint8 #[(.slice none 0 0), (.slice data0 data0n data0c)]) (fun v_1 h2 => ∃ (t19 : OA) (t19n t19c : Nat), v_1 = (.slice t19 t19n t19c) ∧
 hwp PP (Builtin.append_ #[T_sl_uint8, T_sl_uint8] T_sl_uint8 #[(.slice t19 t19n t19c), (.slice data0 data0n data0c)]) (fun v_2 h3 => ∃ (t22 : OA) (t22n t22c : Nat), v_2 = (.slice t22 t22n t22c) ∧
 SpecH PP F_match_Find [(.slice t22 t22n t22c)] h3 (fun v_3 h4 => ∃ (t24 : OA) (t24n t24c : Nat), v_3 = (.slice t24 t24n t24c) ∧
 L1 data0 data0n data0c t24 t24n t24c 0 0 0 (K2 Q) h4)) h2) h)) : J1 data0 data0n data0c t15 Q h := by unfold J1; exact Jn.of_txt (an 13) (by kernel_rfl) H
theorem L1_of {data0 : OA} {data0n data0c : Nat} {t4 : OA} {t4n t4c : Nat} {said5 xn6 i7 : Int} {K : EP} {h : Heap} (H :
 let t28 : Bool := decide (i7 < (t4n : Int))
 br t28 (
 hwp PP (Instr.indexAt T_sl_api_Token (.slice t4 t4n t4c) (.int .i64 i7)) (fun v h1 => ∃ (t34 : Addr), v = (.pointer (some t34)) ∧
 ∃ (t36 : Int), cellH h1 (Addr.add t34 1) = some (.int .i64 t36) ∧
 let t37 : Int := (if t36 > 1 then t36 else 1)
 let t38 : Int := IntKind.i64.wrap (said5 + t37)
 let t42 : Bool := decide (t38 > (data0n : Int))
 br t42 (
 let t44 : Int := IntKind.i64.wrap (xn6 + 1)
 J2 data0 data0n data0c t4 t4n t4c t38 t44 i7 K h1) (
 J2 data0 data0n data0c t4 t4n t4c t38 xn6 i7 K h1)) h) (
 K (.exit 0) (X0 data0 data0n data0c said5 xn6) h)) : L1 data0 data0n data0c t4 t4n t4c said5 xn6 i7 K h := by unfold L1; exact Lp.of_txt (an 8180) 241 (by kernel_rfl) H
theorem L1_X0 {Q : VP} {data0 : OA} {data0n data0c : Nat} {said5 xn6 : Int} {h : Heap} (H :
 SpecH PP F_law06_awake [] h (fun v h1 => ∃ (t45 : Bool), v = (.bool t45) ∧
 br t45 (
 let t50 : Int := IntKind.i64.wrap (2 * (data0n : Int))
 let t51 : Bool := (said5 == t50)
 br t51 (
 let t57 : Int := IntKind.i64.wrap (Int.tdiv (data0n : Int) 129)
 let t58 : Int := IntKind.i64.wrap (2 * t57)
 let t59 : Int := IntKind.i64.wrap (t58 + 4)
 let t60 : Bool := decide (xn6 ≤ t59)
 Q (.bool t60) h1) (
 Q (.bool false) h1)) (
 Q (.bool false) h1))) : (K2 Q) (.exit 0) (X0 data0 data0n data0c said5 xn6) h := of_eq_txt (by kernel_rfl) H
theorem J2_of {data0 : OA} {data0n data0c : Nat} {t4 : OA} {t4n t4c : Nat} {said5 xn6 i7 : Int} {K : EP} {h : Heap} (H :
 let t30 : Int := IntKind.i64.wrap (i7 + 1)
 L1 data0 data0n data0c t4 t4n t4c said5 xn6 t30 K h) : J2 data0 data0n data0c t4 t4n t4c said5 xn6 i7 K h := by unfold J2; exact Jn.of_txt (an 32723) (by kernel_rfl) H
theorem door {data0 : OA} {data0n data0c : Nat} {Q : VP} {h : Heap} (H :
 let t10 : Bool := decide ((data0n : Int) < 3)
 br t10 (
 J1 data0 data0n data0c true Q h) (
 let t14 : Bool := decide ((data0n : Int) > 8192)
 J1 data0 data0n data0c t14 Q h)) : SpecH PP F_law06_MatchTwice [(.slice data0 data0n data0c)] h Q :=
   spec_of_txt (ann := ann) Try.func7 rfl rfl (by kernel_rfl) H
end law06_MatchTwice
/-! ### haversack/haversacklaw06.MatchJoins: function 8 -/
namespace law06_MatchJoins
def ann : Ann := (.seq 3 (.region [(List.range 1, 3)]) (.seq 3 (.seq 33554435 (.region [(List.range 8, 33554435)]) (.join (.cond (.seq 16 (.region [(List.range 2, 16)]) (.exit 16)) .leaf))) (.seq 99 (.region [(List.range 7, 99)]) (.seq 483 (.region [(List.range 7, 483)]) (.seq 163 (.seq 4398046511267 (.region [(List.range 6, 4398046511267)]) (.join (.cond (.seq 16 (.region [(List.range 2, 16)]) (.exit 16)) .leaf))) (.seq 675 (.region [(List.range 5, 675)]) (.seq 3747 (.region [(List.range 7, 3747)]) (.seq 3747 (.seq 288230376151715491 (.region [(List.range 6, 288230376151715491)]) (.cond (.seq 16 (.region [(List.range 6, 16)]) (.exit 16)) .leaf)) (.seq 16034 (.region [(List.range 7, 16034)]) (.seq 65184 (.region [(List.range 7, 65184)]) (.seq 261280 (.region [(List.range 7, 261280)]) (.seq 16 (.region [(List.range 32, 16)]) (.exit 16)))))))))))))
noncomputable abbrev cd (n : Nat) : Code := sub (bodyOf Try.f8) (pth n)
abbrev an (n : Nat) : Ann := subA ann (pth n)
@[irreducible] def K1 (Q : VP) : EP := seqK (fun fr h => ev PP true none (cd 7) (an 7) (fr.mask 3) (bodyK PP Try.f8 Q) h) (bodyK PP Try.f8 Q)
@[irreducible] def J1 (t0 : OA) (t0n t0c : Nat) (u1 : OA) (u1n u1c : Nat) (t25 : Bool) (Q : VP) (h : Heap) : Prop := Jn PP true (cd 13) (mkFr 0 110 [(0, (.slice t0 t0n t0c)), (1, (.slice u1 u1n u1c)), (25, (.bool t25))]) (K1 Q) h
@[irreducible] def K2 (Q : VP) : EP := seqK (fun fr h => ev PP true none (cd 63) (an 63) (fr.mask 163) (bodyK PP Try.f8 Q) h) (bodyK PP Try.f8 Q)
@[irreducible] def J2 (t0 : OA) (t0n t0c : Nat) (u1 : OA) (u1n u1c : Nat) (a5 : OA) (a5n a5c : Nat) (b7 : OA) (b7n b7c : Nat) (t42 : Bool) (Q : VP) (h : Heap) : Prop := Jn PP true (cd 125) (mkFr 0 110 [(0, (.slice t0 t0n t0c)), (1, (.slice u1 u1n u1c)), (5, (.slice a5 a5n a5c)), (7, (.slice b7 b7n b7c)), (42, (.bool t42))]) (K2 Q) h
theorem J1_of {t0 : OA} {t0n t0c : Nat} {u1 : OA} {u1n u1c : Nat} {t25 : Bool} {Q : VP} {h : Heap} (H :
 br t25 (
 SpecH PP F_law06_awake [] h (fun v h1 => ∃ (t26 : Bool), v = (.bool t26) ∧
 Q (.bool t26) h1)) (
 SpecH PP F_match_Expand [(.slice t0 t0n t0c), (.int .i64 16384)] h (fun v_1 h2 => ∃ (t29 : OA) (t29n t29c : Nat) (t29_1 : Int), v_1 = (.tuple #[(.slice t29 t29n t29c), (.int .i64 t29_1)]) ∧
 SpecH PP F_match_Expand [(.slice u1 u1n u1c), (.int .i64 16384)] h2 (fun v_2 h3 => ∃ (t34 : OA) (t34n t34c : Nat) (t34_1 : Int), v_2 = (.tuple #[(.slice t34 t34n t34c), (.int .i64 t34_1)]) ∧
 let t38 : Bool := (t29_1 != 0)
 br t38 (
 J2 t0 t0n t0c u1 u1n u1c t29 t29n t29c t34 t34n t34c true Q h3) (
 let t41 : Bool := (t34_1 != 0)
 J2 t0 t0n t0c u1 u1n u1c t29 t29n t29c t34 t34n t34c t41 Q h3))))) : J1 t0 t0n t0c u1 u1n u1c t25 Q h := by unfold J1; exact Jn.of_txt (an 13) (by kernel_rfl) H
theorem J2_of {t0 : OA} {t0n t0c : Nat} {u1 : OA} {u1n u1c : Nat} {a5 : OA} {a5n a5c : Nat} {b7 : OA} {b7n b7c : Nat} {t42 : Bool} {Q : VP} {h : Heap} (H :
 br t42 (
 SpecH PP F_law06_awake [] h (fun v h1 => ∃ (t43 : Bool), v = (.bool t43) ∧
 Q (.bool t43) h1)) (
 SpecH PP F_law06_lent [(.slice t0 t0n t0c)] h (fun v_1 h2 => ∃ (t45 : OA) (t45n t45c : Nat), v_1 = (.slice t45 t45n t45c) ∧
 hwp PP (Builtin.append_ #[T_sl_api_Token, T_sl_api_Token] T_sl_api_Token #[(.slice t45 t45n t45c), (.slice u1 u1n u1c)]) (fun v_2 h3 => ∃ (t47 : OA) (t47n t47c : Nat), v_2 = (.slice t47 t47n t47c) ∧
 SpecH PP F_match_Expand [(.slice t47 t47n t47c), (.int .i64 16384)] h3 (fun v_3 h4 => ∃ (t50 : OA) (t50n t50c : Nat) (t50_1 : Int), v_3 = (.tuple #[(.slice t50 t50n t50c), (.int .i64 t50_1)]) ∧
 let t57 : Int := IntKind.i64.wrap ((a5n : Int) + (b7n : Int))
 let t58 : Bool := decide (t57 > 16384)
 br t58 (
 SpecH PP F_law06_awake [] h4 (fun v_4 h5 => ∃ (t59 : Bool), v_4 = (.bool t59) ∧
 br t59 (
 let t62 : Bool := (t50_1 == 2)
 Q (.bool t62) h5) (
 Q (.bool false) h5))) (
 SpecH PP F_match_Cost [(.slice t0 t0n t0c)] h4 (fun v_5 h6 => ∃ (t66 t66_1 : Int), v_5 = (.tuple #[(.int .i64 t66), (.int .i64 t66_1)]) ∧
 SpecH PP F_match_Cost [(.slice u1 u1n u1c)] h6 (fun v_6 h7 => ∃ (t71 t71_1 : Int), v_6 = (.tuple #[(.int .i64 t71), (.int .i64 t71_1)]) ∧
 SpecH PP F_match_Cost [(.slice t47 t47n t47c)] h7 (fun v_7 h8 => ∃ (t76 t76_1 : Int), v_7 = (.tuple #[(.int .i64 t76), (.int .i64 t76_1)]) ∧
 SpecH PP F_law06_awake [] h8 (fun v_8 h9 => ∃ (t79 : Bool), v_8 = (.bool t79) ∧
 br t79 (
 let t82 : Bool := (t50_1 == 0)
 br t82 (
 hwp PP (Builtin.append_ #[T_sl_uint8, T_sl_uint8] T_sl_uint8 #[(.slice a5 a5n a5c), (.slice b7 b7n b7c)]) (fun v_9 h10 => ∃ (t88 : OA) (t88n t88c : Nat), v_9 = (.slice t88 t88n t88c) ∧
 SpecH PP F_ref02_Same [(.slice t50 t50n t50c), (.slice t88 t88n t88c)] h10 (fun v_10 h11 => ∃ (t89 : Bool), v_10 = (.bool t89) ∧
 br t89 (
 let t93 : Bool := (t66_1 == 0)
 br t93 (
 let t97 : Bool := (t71_1 == 0)
 br t97 (
 let t101 : Bool := (t76_1 == 0)
 br t101 (
 let t107 : Int := IntKind.i64.wrap (t66 + t71)
 let t108 : Bool := (t76 == t107)
 Q (.bool t108) h11) (
 Q (.bool false) h11)) (
 Q (.bool false) h11)) (
 Q (.bool false) h11)) (
 Q (.bool false) h11))) h9) (
 Q (.bool false) h9)) (
 Q (.bool false) h9)))))))) h2))) : J2 t0 t0n t0c u1 u1n u1c a5 a5n a5c b7 b7n b7c t42 Q h := by unfold J2; exact Jn.of_txt (an 125) (by kernel_rfl) H
theorem door {t0 : OA} {t0n t0c : Nat} {u1 : OA} {u1n u1c : Nat} {Q : VP} {h : Heap} (H :
 let t20 : Bool := decide ((t0n : Int) > 1048576)
 br t20 (
 J1 t0 t0n t0c u1 u1n u1c true Q h) (
 let t24 : Bool := decide ((u1n : Int) > 1048576)
 J1 t0 t0n t0c u1 u1n u1c t24 Q h)) : SpecH PP F_law06_MatchJoins [(.slice t0 t0n t0c), (.slice u1 u1n u1c)] h Q :=
   spec_of_txt (ann := ann) Try.func8 rfl rfl (by kernel_rfl) H
end law06_MatchJoins
/-! ### haversack/haversacklaw06.awake: function 9 -/
namespace law06_awake
def ann : Ann := (.seq 0 (.region [(List.range 1, 0)]) (.seq 2 (.region [(List.range 4, 2)]) (.seq 6 (.region [(List.range 4, 6)]) (.seq 30 (.region [(List.range 9, 30)]) (.seq 94 (.region [(List.range 8, 94)]) (.seq 478 (.region [(List.range 9, 478)]) (.seq 1 (.region [(List.range 57, 1)]) (.exit 1))))))))
noncomputable abbrev cd (n : Nat) : Code := sub (bodyOf Try.f9) (pth n)
abbrev an (n : Nat) : Ann := subA ann (pth n)
theorem door  {Q : VP} {h : Heap} (H :
 let h1 : Heap := Array.push h (.cells #[(.int .u8 97), (.int .u8 98), (.int .u8 99), (.int .u8 97), (.int .u8 98), (.int .u8 99), (.int .u8 97), (.int .u8 98), (.int .u8 99)] T_uint8 (0, 0))
 hwp PP (Go.convert T_sl_uint8 T_sl_uint8 (.slice (some ⟨Array.size h, 0, none⟩) 9 9)) (fun v h2 => ∃ (t10 : OA) (t10n t10c : Nat), v = (.slice t10 t10n t10c) ∧
 SpecH PP F_match_Find [(.slice t10 t10n t10c)] h2 (fun v_1 h3 => ∃ (t11 : OA) (t11n t11c : Nat), v_1 = (.slice t11 t11n t11c) ∧
 let h4 : Heap := Array.push h3 (.cells #[(.int .u8 97), (.int .u8 98), (.int .u8 99), (.int .u8 121), (.int .u8 98), (.int .u8 99), (.int .u8 100), (.int .u8 101), (.int .u8 122), (.int .u8 97), (.int .u8 98), (.int .u8 99), (.int .u8 100), (.int .u8 101)] T_uint8 (0, 0))
 hwp PP (Go.convert T_sl_uint8 T_sl_uint8 (.slice (some ⟨Array.size h3, 0, none⟩) 14 14)) (fun v_2 h5 => ∃ (t13 : OA) (t13n t13c : Nat), v_2 = (.slice t13 t13n t13c) ∧
 SpecH PP F_match_Find [(.slice t13 t13n t13c)] h5 (fun v_3 h6 => ∃ (t14 : OA) (t14n t14c : Nat), v_3 = (.slice t14 t14n t14c) ∧
 let h7 : Heap := Array.push h6 (.cells #[(.int .u8 97), (.int .i64 0), (.int .i64 0), (.int .u8 0), (.int .i64 3), (.int .i64 1)] T_api_Token (0, 0))
 SpecH PP F_match_Expand [(.slice (some ⟨Array.size h6, 0, none⟩) 2 2), (.int .i64 4)] h7 (fun v_4 h8 => ∃ (t19 : OA) (t19n t19c : Nat) (t19_1 : Int), v_4 = (.tuple #[(.slice t19 t19n t19c), (.int .i64 t19_1)]) ∧
 let h9 : Heap := Array.push h8 (.cells #[(.int .u8 0), (.int .i64 3), (.int .i64 1)] T_api_Token (0, 0))
 SpecH PP F_match_Expand [(.slice (some ⟨Array.size h8, 0, none⟩) 1 1), (.int .i64 4)] h9 (fun v_5 h10 => ∃ (t25 : OA) (t25n t25c : Nat) (t25_1 : Int), v_5 = (.tuple #[(.slice t25 t25n t25c), (.int .i64 t25_1)]) ∧
 let h11 : Heap := Array.push h10 (.cells #[(.int .u8 97), (.int .i64 0), (.int .i64 0), (.int .u8 0), (.int .i64 3), (.int .i64 1)] T_api_Token (0, 0))
 SpecH PP F_match_Cost [(.slice (some ⟨Array.size h10, 0, none⟩) 2 2)] h11 (fun v_6 h12 => ∃ (t32 t32_1 : Int), v_6 = (.tuple #[(.int .i64 t32), (.int .i64 t32_1)]) ∧
 let t37 : Bool := ((t11n : Int) == 4)
 br t37 (
 hwp PP (Instr.indexAt T_sl_api_Token (.slice t11 t11n t11c) (.int .i64 3)) (fun v_7 h13 => ∃ (t40 : Addr), v_7 = (.pointer (some t40)) ∧
 ∃ (t41f0 t41f1 t41f2 : Int), rdCells h13 t40 0 [(.int .u8 t41f0), (.int .i64 t41f1), (.int .i64 t41f2)] ∧
 let t43 : Bool := ((t41f0 == 0) && ((t41f1 == 6) && ((t41f2 == 3) && true)))
 br t43 (
 let t48 : Bool := ((t14n : Int) == 11)
 br t48 (
 hwp PP (Instr.indexAt T_sl_api_Token (.slice t14 t14n t14c) (.int .i64 9)) (fun v_8 h14 => ∃ (t52 : Addr), v_8 = (.pointer (some t52)) ∧
 ∃ (t53f0 t53f1 t53f2 : Int), rdCells h14 t52 0 [(.int .u8 t53f0), (.int .i64 t53f1), (.int .i64 t53f2)] ∧
 let t55 : Bool := ((t53f0 == 97) && ((t53f1 == 0) && ((t53f2 == 0) && true)))
 br t55 (
 hwp PP (Instr.indexAt T_sl_api_Token (.slice t14 t14n t14c) (.int .i64 10)) (fun v_9 h15 => ∃ (t59 : Addr), v_9 = (.pointer (some t59)) ∧
 ∃ (t60f0 t60f1 t60f2 : Int), rdCells h15 t59 0 [(.int .u8 t60f0), (.int .i64 t60f1), (.int .i64 t60f2)] ∧
 let t62 : Bool := ((t60f0 == 0) && ((t60f1 == 4) && ((t60f2 == 6) && true)))
 br t62 (
 let t66 : Bool := (t19_1 == 0)
 br t66 (
 hwp PP (Go.convert T_sl_uint8 T_string (.slice t19 t19n t19c)) (fun v_10 h16 => ∃ (t70 : ByteArray), v_10 = (.string t70) ∧
 let t71 : Bool := decide (t70 = (⟨#[97, 97, 97, 97]⟩ : ByteArray))
 br t71 (
 let t75 : Bool := (t25_1 == 60)
 br t75 (
 let t79 : Bool := (t32_1 == 0)
 br t79 (
 let t83 : Bool := (t32 == 20)
 br t83 (
 let h17 : Heap := Array.push h16 (.cells #[(.int .u8 0), (.int .i64 2), (.int .i64 0)] T_api_Token (0, 0))
 SpecH PP F_match_Check [(.slice (some ⟨Array.size h16, 0, none⟩) 1 1)] h17 (fun v_11 h18 => ∃ (t88 : Int), v_11 = (.int .i64 t88) ∧
 let t89 : Bool := (t88 == 60)
 Q (.bool t89) h18)) (
 Q (.bool false) h16)) (
 Q (.bool false) h16)) (
 Q (.bool false) h16)) (
 Q (.bool false) h16)) h15) (
 Q (.bool false) h15)) (
 Q (.bool false) h15)) h14) (
 Q (.bool false) h14)) h13) (
 Q (.bool false) h13)) (
 Q (.bool false) h13)) h12) (
 Q (.bool false) h12)))))) h4)) h1) : SpecH PP F_law06_awake [] h Q :=
   spec_of_txt (ann := ann) Try.func9 rfl rfl (by kernel_rfl) H
end law06_awake
/-! ### haversack/haversacklaw06.lent: function 10 -/
namespace law06_lent
def ann : Ann := (.seq 1 (.region [(List.range 1, 1)]) (.seq 9 (.region [(List.range 5, 9)]) (.seq 9 (.region [(List.range 3, 9)]) (.seq 9 (.region [(List.range 6, 9)]) (.seq 4 (.region [(List.range 5, 4)]) (.exit 4))))))
noncomputable abbrev cd (n : Nat) : Code := sub (bodyOf Try.f10) (pth n)
abbrev an (n : Nat) : Ann := subA ann (pth n)
theorem door {t0 : OA} {t0n t0c : Nat} {Q : VP} {h : Heap} (H :
 let t6 : Int := IntKind.i64.wrap ((t0n : Int) + 1)
 hwp PP (Instr.makeSlice T_sl_api_Token (.int .i64 t6) (.int .i64 t6)) (fun v h1 => ∃ (t7 : OA) (t7n t7c : Nat), v = (.slice t7 t7n t7c) ∧
 hwp PP (Builtin.copy_ #[T_sl_api_Token, T_sl_api_Token] T_int #[(.slice t7 t7n t7c), (.slice t0 t0n t0c)]) (fun v_1 h2 => ∃ (t10 : Int), v_1 = (.int .i64 t10) ∧
 hwp PP (Instr.indexAt T_sl_api_Token (.slice t7 t7n t7c) (.int .i64 (t0n : Int))) (fun v_2 h3 => ∃ (t14 : Addr), v_2 = (.pointer (some t14)) ∧
 wr (Addr.add t14 1) (.int .i64 (-7)) (fun h4 =>
 hwp PP (Instr.sliceAt T_sl_api_Token (.slice t7 t7n t7c) none (some (.int .i64 (t0n : Int))) none) (fun v_3 h5 => ∃ (t19 : OA) (t19n t19c : Nat), v_3 = (.slice t19 t19n t19c) ∧
 Q (.slice t19 t19n t19c) h5) h4) h3) h2) h1) h) : SpecH PP F_law06_lent [(.slice t0 t0n t0c)] h Q :=
   spec_of_txt (ann := ann) Try.func10 rfl rfl (by kernel_rfl) H
end law06_lent
/-! ### haversack/match.Expand: function 11 -/
namespace match_Expand
def ann : Ann := (.seq 3 (.region [(List.range 2, 3)]) (.seq 3 (.seq 16387 (.region [(List.range 6, 16387)]) (.join (.cond (.seq 48 (.region [(List.range 2, 48)]) (.exit 48)) .leaf))) (.seq 67 (.region [(List.range 1, 67)]) (.seq 64 (.seq 229442 (.region [(List.range 3, 229442)]) (.block (.loop 229442 (.seq 491586 (.region [(List.range 1, 491586)]) (.seq 229442 (.cond .leaf (.exit 64)) (.seq 229442 (.block (.seq 229698 (.region [(List.range 4, 229698)]) (.seq 229698 (.block (.seq 2326850 (.region [(List.range 6, 2326850)]) (.cond (.seq 48 (.region [(List.range 2, 48)]) (.exit 48)) (.seq 134447426 (.region [(List.range 9, 134447426)]) (.cond (.seq 48 (.region [(List.range 2, 48)]) (.exit 48)) (.seq 68719706434 (.region [(List.range 4, 68719706434)]) (.cond (.region [(List.range 6, 229698)]) .leaf))))))) (.join (.seq 211106232762690 (.region [(List.range 3, 211106232762690)]) (.block (.loop 211106232762690 (.seq 492581209473346 (.region [(List.range 1, 492581209473346)]) (.seq 211106232762690 (.cond .leaf (.exit 229442)) (.seq 211106232762690 (.block (.region [(List.range 12, 211106232762690)])) (.region [(List.range 2, 211106232762690)]))))))))))) (.region [(List.range 2, 229442)]))))))) (.seq 48 (.region [(List.range 3, 48)]) (.exit 48))))))
noncomputable abbrev cd (n : Nat) : Code := sub (bodyOf Try.f11) (pth n)
abbrev an (n : Nat) : Ann := subA ann (pth n)
@[irreducible] def Xret (t4 : OA) (t4n t4c : Nat) (t5 : Int) : Fr := (mkFr 0 63 [(4, (.slice t4 t4n t4c)), (5, (.int .i64 t5))])
@[irreducible] def X0 (out6 : OA) (out6n out6c : Nat) : Fr := (mkFr 0 63 [(6, (.slice out6 out6n out6c))])
@[irreducible] def X3 (limit1 : Int) (out6 : OA) (out6n out6c : Nat) (t15 : OA) (t15n t15c : Nat) (t16 t17 : Int) : Fr := (mkFr 0 63 [(1, (.int .i64 limit1)), (6, (.slice out6 out6n out6c)), (15, (.slice t15 t15n t15c)), (16, (.int .i64 t16)), (17, (.int .i64 t17))])
@[irreducible] def K1 (Q : VP) : EP := seqK (fun fr h => ev PP true none (cd 7) (an 7) (fr.mask 3) (bodyK PP Try.f11 Q) h) (bodyK PP Try.f11 Q)
@[irreducible] def J1 (t0 : OA) (t0n t0c : Nat) (limit1 : Int) (t14 : Bool) (Q : VP) (h : Heap) : Prop := Jn PP true (cd 13) (mkFr 0 63 [(0, (.slice t0 t0n t0c)), (1, (.int .i64 limit1)), (14, (.bool t14))]) (K1 Q) h
@[irreducible] def K3 (Q : VP) : EP := seqK (fun fr h => ev PP true none (cd 31) (an 31) (fr.mask 64) (bodyK PP Try.f11 Q) h) (bodyK PP Try.f11 Q)
@[irreducible] def K2 (Q : VP) : EP := blockK 0 (K3 Q)
@[irreducible] def L1 (limit1 : Int) (out6 : OA) (out6n out6c : Nat) (t15 : OA) (t15n t15c : Nat) (t16 t17 : Int) (K : EP) (h : Heap) : Prop := Lp PP true (cd 244) (mkFr 0 63 [(1, (.int .i64 limit1)), (6, (.slice out6 out6n out6c)), (15, (.slice t15 t15n t15c)), (16, (.int .i64 t16)), (17, (.int .i64 t17))]) K h
@[irreducible] def B1 (K : EP) : EP := seqK (fun fr h => Lp PP true (cd 244) (fr.mask 229442) K h) K
@[irreducible] def K6 (K : EP) : EP := seqK (fun fr h => ev PP true none (cd 1959) (an 1959) (fr.mask 229442) (B1 K) h) (B1 K)
@[irreducible] def K4 (K : EP) : EP := blockK 1 (K6 K)
@[irreducible] def J2 (limit1 : Int) (out6 : OA) (out6n out6c : Nat) (x8 : Addr) (t15 : OA) (t15n t15c : Nat) (t16 t17 : Int) (K : EP) (h : Heap) : Prop := Jn PP true (cd 15667) (mkFr 0 63 [(1, (.int .i64 limit1)), (6, (.slice out6 out6n out6c)), (8, (.pointer (some x8))), (15, (.slice t15 t15n t15c)), (16, (.int .i64 t16)), (17, (.int .i64 t17))]) (K4 K) h
@[irreducible] def K5 (K : EP) : EP := blockK 3 (K4 K)
@[irreducible] def L2 (limit1 : Int) (out6 : OA) (out6n out6c : Nat) (x8 : Addr) (t15 : OA) (t15n t15c : Nat) (t16 t17 t46 t47 : Int) (K : EP) (h : Heap) : Prop := Lp PP true (cd 125340) (mkFr 0 63 [(1, (.int .i64 limit1)), (6, (.slice out6 out6n out6c)), (8, (.pointer (some x8))), (15, (.slice t15 t15n t15c)), (16, (.int .i64 t16)), (17, (.int .i64 t17)), (46, (.int .i64 t46)), (47, (.int .i64 t47))]) K h
@[irreducible] def B2 (K : EP) : EP := seqK (fun fr h => Lp PP true (cd 125340) (fr.mask 211106232762690) K h) K
theorem J1_of {t0 : OA} {t0n t0c : Nat} {limit1 : Int} {t14 : Bool} {Q : VP} {h : Heap} (H :
 br t14 (
 Q (.tuple #[(.slice none 0 0), (.int .i64 1)]) h) (
 L1 limit1 none 0 0 t0 t0n t0c (t0n : Int) 0 (K2 Q) h)) : J1 t0 t0n t0c limit1 t14 Q h := by unfold J1; exact Jn.of_txt (an 13) (by kernel_rfl) H
theorem L1_of {limit1 : Int} {out6 : OA} {out6n out6c : Nat} {t15 : OA} {t15n t15c : Nat} {t16 t17 : Int} {K : EP} {h : Heap} (H :
 let t18 : Bool := decide (t17 < t16)
 br t18 (
 hwp PP (Instr.indexAt T_sl_api_Token (.slice t15 t15n t15c) (.int .i64 t17)) (fun v h1 => ∃ (t19 : Addr), v = (.pointer (some t19)) ∧
 ∃ (t20f0 t20f1 t20f2 : Int), rdCells h1 t19 0 [(.int .u8 t20f0), (.int .i64 t20f1), (.int .i64 t20f2)] ∧
 let x8 : Addr := ⟨Array.size h1, 0, none⟩
 let h2 : Heap := Array.push h1 (.cells #[(.int .u8 0), (.int .i64 0), (.int .i64 0)] T_api_Token (0, 0))
 wrCells x8 0 [(.int .u8 t20f0), (.int .i64 t20f1), (.int .i64 t20f2)] (fun h3 =>
 ∃ (t22f0 t22f1 t22f2 : Int), rdCells h3 x8 0 [(.int .u8 t22f0), (.int .i64 t22f1), (.int .i64 t22f2)] ∧
 SpecH PP F_match_right [(.agg #[(.int .u8 t22f0), (.int .i64 t22f1), (.int .i64 t22f2)]), (.int .i64 (out6n : Int))] h3 (fun v_1 h4 => ∃ (t25 : Bool), v_1 = (.bool t25) ∧
 let t26 : Bool := (!t25)
 br t26 (
 K .ret (Xret none 0 0 60) h4) (
 ∃ (t31 : Int), cellH h4 (Addr.add x8 1) = some (.int .i64 t31) ∧
 let t32 : Int := (if t31 > 1 then t31 else 1)
 let t33 : Int := IntKind.i64.wrap ((out6n : Int) + t32)
 let t35 : Bool := decide (t33 > limit1)
 br t35 (
 K .ret (Xret none 0 0 2) h4) (
 ∃ (t38 : Int), cellH h4 (Addr.add x8 1) = some (.int .i64 t38) ∧
 let t39 : Bool := (t38 == 0)
 br t39 (
 ∃ (t42 : Int), cellH h4 x8 = some (.int .u8 t42) ∧
 let h5 : Heap := Array.push h4 (.cells #[(.int .u8 t42)] T_uint8 (0, 0))
 hwp PP (Builtin.append_ #[T_sl_uint8, T_sl_uint8] T_sl_uint8 #[(.slice out6 out6n out6c), (.slice (some ⟨Array.size h4, 0, none⟩) 1 1)]) (fun v_2 h6 => ∃ (t44 : OA) (t44n t44c : Nat), v_2 = (.slice t44 t44n t44c) ∧
 J2 limit1 t44 t44n t44c x8 t15 t15n t15c t16 t17 K h6) h5) (
 J2 limit1 out6 out6n out6c x8 t15 t15n t15c t16 t17 K h4))))) h2) h) (
 K (.exit 0) (X0 out6 out6n out6c) h)) : L1 limit1 out6 out6n out6c t15 t15n t15c t16 t17 K h := by unfold L1; exact Lp.of_txt (an 244) 229442 (by kernel_rfl) H
theorem L1_Xret {Q : VP} {t4 : OA} {t4n t4c : Nat} {t5 : Int} {h : Heap} (H :
 Q (.tuple #[(.slice t4 t4n t4c), (.int .i64 t5)]) h) : (K2 Q) .ret (Xret t4 t4n t4c t5) h := of_eq_txt (by kernel_rfl) H
theorem J2_of {limit1 : Int} {out6 : OA} {out6n out6c : Nat} {x8 : Addr} {t15 : OA} {t15n t15c : Nat} {t16 t17 : Int} {K : EP} {h : Heap} (H :
 ∃ (t46 : Int), cellH h (Addr.add x8 1) = some (.int .i64 t46) ∧
 L2 limit1 out6 out6n out6c x8 t15 t15n t15c t16 t17 t46 0 (K5 K) h) : J2 limit1 out6 out6n out6c x8 t15 t15n t15c t16 t17 K h := by unfold J2; exact Jn.of_txt (an 15667) (by kernel_rfl) H
theorem L1_X0 {Q : VP} {out6 : OA} {out6n out6c : Nat} {h : Heap} (H :
 Q (.tuple #[(.slice out6 out6n out6c), (.int .i64 0)]) h) : (K2 Q) (.exit 0) (X0 out6 out6n out6c) h := of_eq_txt (by kernel_rfl) H
theorem L2_of {limit1 : Int} {out6 : OA} {out6n out6c : Nat} {x8 : Addr} {t15 : OA} {t15n t15c : Nat} {t16 t17 t46 t47 : Int} {K : EP} {h : Heap} (H :
 let t48 : Bool := decide (t47 < t46)
 br t48 (
 ∃ (t54 : Int), cellH h (Addr.add x8 2) = some (.int .i64 t54) ∧
 let t55 : Int := IntKind.i64.wrap ((out6n : Int) - t54)
 hwp PP (Instr.indexAt T_sl_uint8 (.slice out6 out6n out6c) (.int .i64 t55)) (fun v h1 => ∃ (t56 : Addr), v = (.pointer (some t56)) ∧
 ∃ (t57 : Int), cellH h1 t56 = some (.int .u8 t57) ∧
 let h2 : Heap := Array.push h1 (.cells #[(.int .u8 t57)] T_uint8 (0, 0))
 hwp PP (Builtin.append_ #[T_sl_uint8, T_sl_uint8] T_sl_uint8 #[(.slice out6 out6n out6c), (.slice (some ⟨Array.size h1, 0, none⟩) 1 1)]) (fun v_1 h3 => ∃ (t59 : OA) (t59n t59c : Nat), v_1 = (.slice t59 t59n t59c) ∧
 let t60 : Int := IntKind.i64.wrap (t47 + 1)
 L2 limit1 t59 t59n t59c x8 t15 t15n t15c t16 t17 t46 t60 K h3) h2) h) (
 K (.exit 3) (X3 limit1 out6 out6n out6c t15 t15n t15c t16 t17) h)) : L2 limit1 out6 out6n out6c x8 t15 t15n t15c t16 t17 t46 t47 K h := by unfold L2; exact Lp.of_txt (an 125340) 211106232762690 (by kernel_rfl) H
theorem L2_X3 {K : EP} {limit1 : Int} {out6 : OA} {out6n out6c : Nat} {t15 : OA} {t15n t15c : Nat} {t16 t17 : Int} {h : Heap} (H :
 let t61 : Int := IntKind.i64.wrap (t17 + 1)
 L1 limit1 out6 out6n out6c t15 t15n t15c t16 t61 K h) : (K5 K) (.exit 3) (X3 limit1 out6 out6n out6c t15 t15n t15c t16 t17) h := of_eq_txt (by kernel_rfl) H
theorem door {t0 : OA} {t0n t0c : Nat} {limit1 : Int} {Q : VP} {h : Heap} (H :
 let t10 : Bool := decide (limit1 < 0)
 br t10 (
 J1 t0 t0n t0c limit1 true Q h) (
 let t13 : Bool := decide (limit1 > 16384)
 J1 t0 t0n t0c limit1 t13 Q h)) : SpecH PP F_match_Expand [(.slice t0 t0n t0c), (.int .i64 limit1)] h Q :=
   spec_of_txt (ann := ann) Try.func11 rfl rfl (by kernel_rfl) H
end match_Expand
/-! ### haversack/match.Check: function 12 -/
namespace match_Check
def ann : Ann := (.seq 1 (.region [(List.range 1, 1)]) (.seq 9 (.region [(List.range 1, 9)]) (.seq 0 (.seq 456 (.region [(List.range 3, 456)]) (.block (.loop 456 (.seq 968 (.region [(List.range 1, 968)]) (.seq 456 (.cond .leaf (.exit 0)) (.seq 456 (.block (.seq 488 (.region [(List.range 4, 488)]) (.seq 488 (.seq 33256 (.region [(List.range 4, 33256)]) (.cond (.seq 4 (.region [(List.range 1, 4)]) (.exit 4)) .leaf)) (.seq 456 (.region [(List.range 6, 456)]) (.seq 4194760 (.region [(List.range 2, 4194760)]) (.cond (.seq 4 (.region [(List.range 1, 4)]) (.exit 4)) .leaf)))))) (.region [(List.range 2, 456)]))))))) (.seq 4 (.region [(List.range 1, 4)]) (.exit 4)))))
noncomputable abbrev cd (n : Nat) : Code := sub (bodyOf Try.f12) (pth n)
abbrev an (n : Nat) : Ann := subA ann (pth n)
@[irreducible] def Xret (t2 : Int) : Fr := (mkFr 0 24 [(2, (.int .i64 t2))])
@[irreducible] def X0  : Fr := (mkFr 0 24 [])
@[irreducible] def L1 (said3 : Int) (t6 : OA) (t6n t6c : Nat) (t7 t8 : Int) (K : EP) (h : Heap) : Prop := Lp PP true (cd 116) (mkFr 0 24 [(3, (.int .i64 said3)), (6, (.slice t6 t6n t6c)), (7, (.int .i64 t7)), (8, (.int .i64 t8))]) K h
@[irreducible] def B1 (K : EP) : EP := seqK (fun fr h => Lp PP true (cd 116) (fr.mask 456) K h) K
@[irreducible] def K2 (Q : VP) : EP := seqK (fun fr h => ev PP true none (cd 15) (an 15) (fr.mask 0) (bodyK PP Try.f12 Q) h) (bodyK PP Try.f12 Q)
@[irreducible] def K1 (Q : VP) : EP := blockK 0 (K2 Q)
theorem L1_of {said3 : Int} {t6 : OA} {t6n t6c : Nat} {t7 t8 : Int} {K : EP} {h : Heap} (H :
 let t9 : Bool := decide (t8 < t7)
 br t9 (
 hwp PP (Instr.indexAt T_sl_api_Token (.slice t6 t6n t6c) (.int .i64 t8)) (fun v h1 => ∃ (t10 : Addr), v = (.pointer (some t10)) ∧
 ∃ (t11f0 t11f1 t11f2 : Int), rdCells h1 t10 0 [(.int .u8 t11f0), (.int .i64 t11f1), (.int .i64 t11f2)] ∧
 let x5 : Addr := ⟨Array.size h1, 0, none⟩
 let h2 : Heap := Array.push h1 (.cells #[(.int .u8 0), (.int .i64 0), (.int .i64 0)] T_api_Token (0, 0))
 wrCells x5 0 [(.int .u8 t11f0), (.int .i64 t11f1), (.int .i64 t11f2)] (fun h3 =>
 ∃ (t12f0 t12f1 t12f2 : Int), rdCells h3 x5 0 [(.int .u8 t12f0), (.int .i64 t12f1), (.int .i64 t12f2)] ∧
 SpecH PP F_match_right [(.agg #[(.int .u8 t12f0), (.int .i64 t12f1), (.int .i64 t12f2)]), (.int .i64 said3)] h3 (fun v_1 h4 => ∃ (t14 : Bool), v_1 = (.bool t14) ∧
 let t15 : Bool := (!t14)
 br t15 (
 K .ret (Xret 60) h4) (
 ∃ (t18 : Int), cellH h4 (Addr.add x5 1) = some (.int .i64 t18) ∧
 let t19 : Int := (if t18 > 1 then t18 else 1)
 let t20 : Int := IntKind.i64.wrap (said3 + t19)
 let t22 : Bool := decide (t20 > 16384)
 br t22 (
 K .ret (Xret 2) h4) (
 let t23 : Int := IntKind.i64.wrap (t8 + 1)
 L1 t20 t6 t6n t6c t7 t23 K h4)))) h2) h) (
 K (.exit 0) (X0) h)) : L1 said3 t6 t6n t6c t7 t8 K h := by unfold L1; exact Lp.of_txt (an 116) 456 (by kernel_rfl) H
theorem L1_Xret {Q : VP} {t2 : Int} {h : Heap} (H :
 Q (.int .i64 t2) h) : (K1 Q) .ret (Xret t2) h := of_eq_txt (by kernel_rfl) H
theorem L1_X0 {Q : VP}  {h : Heap} (H :
 Q (.int .i64 0) h) : (K1 Q) (.exit 0) (X0 ) h := of_eq_txt (by kernel_rfl) H
theorem door {t0 : OA} {t0n t0c : Nat} {Q : VP} {h : Heap} (H :
 L1 0 t0 t0n t0c (t0n : Int) 0 (K1 Q) h) : SpecH PP F_match_Check [(.slice t0 t0n t0c)] h Q :=
   spec_of_txt (ann := ann) Try.func12 rfl rfl (by kernel_rfl) H
end match_Check
/-! ### haversack/haversacklaw06.back: function 13 -/
namespace law06_back
def ann : Ann := (.seq 3 (.region [(List.range 1, 3)]) (.seq 35 (.region [(List.range 6, 35)]) (.seq 96 (.region [(List.range 13, 96)]) (.join (.seq 64 (.seq 224 (.region [(List.range 1, 224)]) (.block (.loop 224 (.seq 224 (.seq 268435680 (.region [(List.range 4, 268435680)]) (.cond .leaf (.exit 64))) (.seq 224 (.block (.region [(List.range 5, 224)])) (.region [(List.range 3, 224)])))))) (.seq 16 (.region [(List.range 2, 16)]) (.exit 16)))))))
noncomputable abbrev cd (n : Nat) : Code := sub (bodyOf Try.f13) (pth n)
abbrev an (n : Nat) : Ann := subA ann (pth n)
@[irreducible] def X0 (ok6 : Bool) : Fr := (mkFr 0 36 [(6, (.bool ok6))])
@[irreducible] def J1 (all5 : OA) (all5n all5c : Nat) (ok6 : Bool) (Q : VP) (h : Heap) : Prop := Jn PP true (cd 15) (mkFr 0 36 [(5, (.slice all5 all5n all5c)), (6, (.bool ok6))]) (bodyK PP Try.f13 Q) h
@[irreducible] def K2 (Q : VP) : EP := seqK (fun fr h => ev PP true none (cd 31) (an 31) (fr.mask 64) (bodyK PP Try.f13 Q) h) (bodyK PP Try.f13 Q)
@[irreducible] def K1 (Q : VP) : EP := blockK 0 (K2 Q)
@[irreducible] def L1 (all5 : OA) (all5n all5c : Nat) (ok6 : Bool) (i7 : Int) (K : EP) (h : Heap) : Prop := Lp PP true (cd 244) (mkFr 0 36 [(5, (.slice all5 all5n all5c)), (6, (.bool ok6)), (7, (.int .i64 i7))]) K h
@[irreducible] def B1 (K : EP) : EP := seqK (fun fr h => Lp PP true (cd 244) (fr.mask 224) K h) K
theorem J1_of {all5 : OA} {all5n all5c : Nat} {ok6 : Bool} {Q : VP} {h : Heap} (H :
 L1 all5 all5n all5c ok6 0 (K1 Q) h) : J1 all5 all5n all5c ok6 Q h := by unfold J1; exact Jn.of_txt (an 15) (by kernel_rfl) H
theorem L1_of {all5 : OA} {all5n all5c : Nat} {ok6 : Bool} {i7 : Int} {K : EP} {h : Heap} (H :
 let t28 : Bool := decide (i7 < (all5n : Int))
 br t28 (
 hwp PP (Instr.indexAt T_sl_api_Token (.slice all5 all5n all5c) (.int .i64 i7)) (fun v h1 => ∃ (t34 : Addr), v = (.pointer (some t34)) ∧
 wrCells t34 0 [(.int .u8 0), (.int .i64 77), (.int .i64 0)] (fun h2 =>
 let t30 : Int := IntKind.i64.wrap (i7 + 1)
 L1 all5 all5n all5c ok6 t30 K h2) h1) h) (
 K (.exit 0) (X0 ok6) h)) : L1 all5 all5n all5c ok6 i7 K h := by unfold L1; exact Lp.of_txt (an 244) 224 (by kernel_rfl) H
theorem L1_X0 {Q : VP} {ok6 : Bool} {h : Heap} (H :
 Q (.bool ok6) h) : (K1 Q) (.exit 0) (X0 ok6) h := of_eq_txt (by kernel_rfl) H
theorem door {x0 : OA} {x0n x0c : Nat} {t1 : OA} {t1n t1c : Nat} {Q : VP} {h : Heap} (H :
 let t11 : Int := IntKind.i64.wrap ((t1n : Int) + 1)
 hwp PP (Instr.sliceAt T_sl_api_Token (.slice x0 x0n x0c) none (some (.int .i64 t11)) none) (fun v h1 => ∃ (t12 : OA) (t12n t12c : Nat), v = (.slice t12 t12n t12c) ∧
 hwp PP (Instr.indexAt T_sl_api_Token (.slice t12 t12n t12c) (.int .i64 (t1n : Int))) (fun v_1 h2 => ∃ (t16 : Addr), v_1 = (.pointer (some t16)) ∧
 ∃ (t17f0 t17f1 t17f2 : Int), rdCells h2 t16 0 [(.int .u8 t17f0), (.int .i64 t17f1), (.int .i64 t17f2)] ∧
 let t19 : Bool := ((t17f0 == 0) && ((t17f1 == (-7)) && ((t17f2 == 0) && true)))
 br t19 (
 SpecH PP F_ref06_Same [(.slice x0 x0n x0c), (.slice t1 t1n t1c)] h2 (fun v_2 h3 => ∃ (t23 : Bool), v_2 = (.bool t23) ∧
 J1 t12 t12n t12c t23 Q h3)) (
 J1 t12 t12n t12c false Q h2)) h1) h) : SpecH PP F_law06_back [(.slice x0 x0n x0c), (.slice t1 t1n t1c)] h Q :=
   spec_of_txt (ann := ann) Try.func13 rfl rfl (by kernel_rfl) H
end law06_back
/-! ### haversack/haversackref06.Expand: function 14 -/
namespace ref06_Expand
def ann : Ann := (.seq 3 (.region [(List.range 2, 3)]) (.seq 3 (.seq 16387 (.region [(List.range 6, 16387)]) (.join (.cond (.seq 48 (.region [(List.range 2, 48)]) (.exit 48)) .leaf))) (.seq 67 (.region [(List.range 1, 67)]) (.seq 64 (.seq 195 (.region [(List.range 1, 195)]) (.block (.loop 195 (.seq 195 (.seq 262339 (.region [(List.range 4, 262339)]) (.cond .leaf (.exit 64))) (.seq 195 (.block (.seq 195 (.seq 268435651 (.region [(List.range 8, 268435651)]) (.cond (.seq 48 (.region [(List.range 2, 48)]) (.exit 48)) .leaf)) (.seq 195 (.seq 549755814083 (.region [(List.range 11, 549755814083)]) (.cond (.seq 48 (.region [(List.range 2, 48)]) (.exit 48)) .leaf)) (.seq 195 (.seq 35184372089027 (.region [(List.range 6, 35184372089027)]) (.cond (.region [(List.range 9, 195)]) .leaf)) (.join (.seq 451 (.region [(List.range 1, 451)]) (.block (.loop 451 (.seq 451 (.seq 1152921504606847427 (.region [(List.range 7, 1152921504606847427)]) (.cond .leaf (.exit 195))) (.seq 451 (.block (.region [(List.range 15, 451)])) (.region [(List.range 3, 451)]))))))))))) (.region [(List.range 3, 195)])))))) (.seq 48 (.region [(List.range 3, 48)]) (.exit 48))))))
noncomputable abbrev cd (n : Nat) : Code := sub (bodyOf Try.f14) (pth n)
abbrev an (n : Nat) : Ann := subA ann (pth n)
@[irreducible] def Xret (t4 : OA) (t4n t4c : Nat) (t5 : Int) : Fr := (mkFr 0 78 [(4, (.slice t4 t4n t4c)), (5, (.int .i64 t5))])
@[irreducible] def X0 (out6 : OA) (out6n out6c : Nat) : Fr := (mkFr 0 78 [(6, (.slice out6 out6n out6c))])
@[irreducible] def X2 (t0 : OA) (t0n t0c : Nat) (most1 : Int) (out6 : OA) (out6n out6c : Nat) (i7 : Int) : Fr := (mkFr 0 78 [(0, (.slice t0 t0n t0c)), (1, (.int .i64 most1)), (6, (.slice out6 out6n out6c)), (7, (.int .i64 i7))])
@[irreducible] def K1 (Q : VP) : EP := seqK (fun fr h => ev PP true none (cd 7) (an 7) (fr.mask 3) (bodyK PP Try.f14 Q) h) (bodyK PP Try.f14 Q)
@[irreducible] def J1 (t0 : OA) (t0n t0c : Nat) (most1 : Int) (t14 : Bool) (Q : VP) (h : Heap) : Prop := Jn PP true (cd 13) (mkFr 0 78 [(0, (.slice t0 t0n t0c)), (1, (.int .i64 most1)), (14, (.bool t14))]) (K1 Q) h
@[irreducible] def K3 (Q : VP) : EP := seqK (fun fr h => ev PP true none (cd 31) (an 31) (fr.mask 64) (bodyK PP Try.f14 Q) h) (bodyK PP Try.f14 Q)
@[irreducible] def K2 (Q : VP) : EP := blockK 0 (K3 Q)
@[irreducible] def L1 (t0 : OA) (t0n t0c : Nat) (most1 : Int) (out6 : OA) (out6n out6c : Nat) (i7 : Int) (K : EP) (h : Heap) : Prop := Lp PP true (cd 244) (mkFr 0 78 [(0, (.slice t0 t0n t0c)), (1, (.int .i64 most1)), (6, (.slice out6 out6n out6c)), (7, (.int .i64 i7))]) K h
@[irreducible] def B1 (K : EP) : EP := seqK (fun fr h => Lp PP true (cd 244) (fr.mask 195) K h) K
@[irreducible] def K6 (K : EP) : EP := seqK (fun fr h => ev PP true none (cd 979) (an 979) (fr.mask 195) (B1 K) h) (B1 K)
@[irreducible] def K4 (K : EP) : EP := blockK 1 (K6 K)
@[irreducible] def J2 (t0 : OA) (t0n t0c : Nat) (most1 : Int) (out6 : OA) (out6n out6c : Nat) (i7 : Int) (K : EP) (h : Heap) : Prop := Jn PP true (cd 15655) (mkFr 0 78 [(0, (.slice t0 t0n t0c)), (1, (.int .i64 most1)), (6, (.slice out6 out6n out6c)), (7, (.int .i64 i7))]) (K4 K) h
@[irreducible] def K5 (K : EP) : EP := blockK 2 (K4 K)
@[irreducible] def L2 (t0 : OA) (t0n t0c : Nat) (most1 : Int) (out6 : OA) (out6n out6c : Nat) (i7 k8 : Int) (K : EP) (h : Heap) : Prop := Lp PP true (cd 125244) (mkFr 0 78 [(0, (.slice t0 t0n t0c)), (1, (.int .i64 most1)), (6, (.slice out6 out6n out6c)), (7, (.int .i64 i7)), (8, (.int .i64 k8))]) K h
@[irreducible] def B2 (K : EP) : EP := seqK (fun fr h => Lp PP true (cd 125244) (fr.mask 451) K h) K
theorem J1_of {t0 : OA} {t0n t0c : Nat} {most1 : Int} {t14 : Bool} {Q : VP} {h : Heap} (H :
 br t14 (
 Q (.tuple #[(.slice none 0 0), (.int .i64 1)]) h) (
 L1 t0 t0n t0c most1 none 0 0 0 (K2 Q) h)) : J1 t0 t0n t0c most1 t14 Q h := by unfold J1; exact Jn.of_txt (an 13) (by kernel_rfl) H
theorem L1_of {t0 : OA} {t0n t0c : Nat} {most1 : Int} {out6 : OA} {out6n out6c : Nat} {i7 : Int} {K : EP} {h : Heap} (H :
 let t18 : Bool := decide (i7 < (t0n : Int))
 br t18 (
 hwp PP (Instr.indexAt T_sl_api_Token (.slice t0 t0n t0c) (.int .i64 i7)) (fun v h1 => ∃ (t23 : Addr), v = (.pointer (some t23)) ∧
 ∃ (t24f0 t24f1 t24f2 : Int), rdCells h1 t23 0 [(.int .u8 t24f0), (.int .i64 t24f1), (.int .i64 t24f2)] ∧
 SpecH PP F_ref06_may [(.agg #[(.int .u8 t24f0), (.int .i64 t24f1), (.int .i64 t24f2)]), (.int .i64 (out6n : Int))] h1 (fun v_1 h2 => ∃ (t27 : Bool), v_1 = (.bool t27) ∧
 let t28 : Bool := (!t27)
 br t28 (
 K .ret (Xret none 0 0 60) h2) (
 hwp PP (Instr.indexAt T_sl_api_Token (.slice t0 t0n t0c) (.int .i64 i7)) (fun v_2 h3 => ∃ (t33 : Addr), v_2 = (.pointer (some t33)) ∧
 ∃ (t35 : Int), cellH h3 (Addr.add t33 1) = some (.int .i64 t35) ∧
 let t36 : Int := (if t35 > 1 then t35 else 1)
 let t37 : Int := IntKind.i64.wrap ((out6n : Int) + t36)
 let t39 : Bool := decide (t37 > most1)
 br t39 (
 K .ret (Xret none 0 0 2) h3) (
 hwp PP (Instr.indexAt T_sl_api_Token (.slice t0 t0n t0c) (.int .i64 i7)) (fun v_3 h4 => ∃ (t42 : Addr), v_3 = (.pointer (some t42)) ∧
 ∃ (t44 : Int), cellH h4 (Addr.add t42 1) = some (.int .i64 t44) ∧
 let t45 : Bool := (t44 == 0)
 br t45 (
 hwp PP (Instr.indexAt T_sl_api_Token (.slice t0 t0n t0c) (.int .i64 i7)) (fun v_4 h5 => ∃ (t49 : Addr), v_4 = (.pointer (some t49)) ∧
 ∃ (t51 : Int), cellH h5 t49 = some (.int .u8 t51) ∧
 let h6 : Heap := Array.push h5 (.cells #[(.int .u8 t51)] T_uint8 (0, 0))
 hwp PP (Builtin.append_ #[T_sl_uint8, T_sl_uint8] T_sl_uint8 #[(.slice out6 out6n out6c), (.slice (some ⟨Array.size h5, 0, none⟩) 1 1)]) (fun v_5 h7 => ∃ (t53 : OA) (t53n t53c : Nat), v_5 = (.slice t53 t53n t53c) ∧
 J2 t0 t0n t0c most1 t53 t53n t53c i7 K h7) h6) h4) (
 J2 t0 t0n t0c most1 out6 out6n out6c i7 K h4)) h3)) h2))) h) (
 K (.exit 0) (X0 out6 out6n out6c) h)) : L1 t0 t0n t0c most1 out6 out6n out6c i7 K h := by unfold L1; exact Lp.of_txt (an 244) 195 (by kernel_rfl) H
theorem L1_Xret {Q : VP} {t4 : OA} {t4n t4c : Nat} {t5 : Int} {h : Heap} (H :
 Q (.tuple #[(.slice t4 t4n t4c), (.int .i64 t5)]) h) : (K2 Q) .ret (Xret t4 t4n t4c t5) h := of_eq_txt (by kernel_rfl) H
theorem J2_of {t0 : OA} {t0n t0c : Nat} {most1 : Int} {out6 : OA} {out6n out6c : Nat} {i7 : Int} {K : EP} {h : Heap} (H :
 L2 t0 t0n t0c most1 out6 out6n out6c i7 0 (K5 K) h) : J2 t0 t0n t0c most1 out6 out6n out6c i7 K h := by unfold J2; exact Jn.of_txt (an 15655) (by kernel_rfl) H
theorem L1_X0 {Q : VP} {out6 : OA} {out6n out6c : Nat} {h : Heap} (H :
 Q (.tuple #[(.slice out6 out6n out6c), (.int .i64 0)]) h) : (K2 Q) (.exit 0) (X0 out6 out6n out6c) h := of_eq_txt (by kernel_rfl) H
theorem L2_of {t0 : OA} {t0n t0c : Nat} {most1 : Int} {out6 : OA} {out6n out6c : Nat} {i7 k8 : Int} {K : EP} {h : Heap} (H :
 hwp PP (Instr.indexAt T_sl_api_Token (.slice t0 t0n t0c) (.int .i64 i7)) (fun v h1 => ∃ (t57 : Addr), v = (.pointer (some t57)) ∧
 ∃ (t59 : Int), cellH h1 (Addr.add t57 1) = some (.int .i64 t59) ∧
 let t60 : Bool := decide (k8 < t59)
 br t60 (
 hwp PP (Instr.indexAt T_sl_api_Token (.slice t0 t0n t0c) (.int .i64 i7)) (fun v_1 h2 => ∃ (t69 : Addr), v_1 = (.pointer (some t69)) ∧
 ∃ (t71 : Int), cellH h2 (Addr.add t69 2) = some (.int .i64 t71) ∧
 let t72 : Int := IntKind.i64.wrap ((out6n : Int) - t71)
 hwp PP (Instr.indexAt T_sl_uint8 (.slice out6 out6n out6c) (.int .i64 t72)) (fun v_2 h3 => ∃ (t73 : Addr), v_2 = (.pointer (some t73)) ∧
 ∃ (t74 : Int), cellH h3 t73 = some (.int .u8 t74) ∧
 let h4 : Heap := Array.push h3 (.cells #[(.int .u8 t74)] T_uint8 (0, 0))
 hwp PP (Builtin.append_ #[T_sl_uint8, T_sl_uint8] T_sl_uint8 #[(.slice out6 out6n out6c), (.slice (some ⟨Array.size h3, 0, none⟩) 1 1)]) (fun v_3 h5 => ∃ (t76 : OA) (t76n t76c : Nat), v_3 = (.slice t76 t76n t76c) ∧
 let t62 : Int := IntKind.i64.wrap (k8 + 1)
 L2 t0 t0n t0c most1 t76 t76n t76c i7 t62 K h5) h4) h2) h1) (
 K (.exit 2) (X2 t0 t0n t0c most1 out6 out6n out6c i7) h1)) h) : L2 t0 t0n t0c most1 out6 out6n out6c i7 k8 K h := by unfold L2; exact Lp.of_txt (an 125244) 451 (by kernel_rfl) H
theorem L2_X2 {K : EP} {t0 : OA} {t0n t0c : Nat} {most1 : Int} {out6 : OA} {out6n out6c : Nat} {i7 : Int} {h : Heap} (H :
 let t20 : Int := IntKind.i64.wrap (i7 + 1)
 L1 t0 t0n t0c most1 out6 out6n out6c t20 K h) : (K5 K) (.exit 2) (X2 t0 t0n t0c most1 out6 out6n out6c i7) h := of_eq_txt (by kernel_rfl) H
theorem door {t0 : OA} {t0n t0c : Nat} {most1 : Int} {Q : VP} {h : Heap} (H :
 let t10 : Bool := decide (most1 < 0)
 br t10 (
 J1 t0 t0n t0c most1 true Q h) (
 let t13 : Bool := decide (most1 > 16384)
 J1 t0 t0n t0c most1 t13 Q h)) : SpecH PP F_ref06_Expand [(.slice t0 t0n t0c), (.int .i64 most1)] h Q :=
   spec_of_txt (ann := ann) Try.func14 rfl rfl (by kernel_rfl) H
end ref06_Expand
/-! ### haversack/haversackref02.Same: function 15 -/
namespace ref02_Same
def ann : Ann := (.seq 3 (.region [(List.range 1, 3)]) (.seq 3 (.seq 1027 (.region [(List.range 5, 1027)]) (.cond (.seq 16 (.region [(List.range 1, 16)]) (.exit 16)) .leaf)) (.seq 0 (.seq 35 (.region [(List.range 1, 35)]) (.block (.loop 35 (.seq 35 (.seq 16419 (.region [(List.range 4, 16419)]) (.cond .leaf (.exit 0))) (.seq 35 (.block (.seq 33554467 (.region [(List.range 9, 33554467)]) (.cond (.seq 16 (.region [(List.range 1, 16)]) (.exit 16)) .leaf))) (.region [(List.range 3, 35)])))))) (.seq 16 (.region [(List.range 1, 16)]) (.exit 16)))))
noncomputable abbrev cd (n : Nat) : Code := sub (bodyOf Try.f15) (pth n)
abbrev an (n : Nat) : Ann := subA ann (pth n)
@[irreducible] def Xret (t4 : Bool) : Fr := (mkFr 0 26 [(4, (.bool t4))])
@[irreducible] def X0  : Fr := (mkFr 0 26 [])
@[irreducible] def L1 (a0 : OA) (a0n a0c : Nat) (b1 : OA) (b1n b1c : Nat) (i5 : Int) (K : EP) (h : Heap) : Prop := Lp PP true (cd 116) (mkFr 0 26 [(0, (.slice a0 a0n a0c)), (1, (.slice b1 b1n b1c)), (5, (.int .i64 i5))]) K h
@[irreducible] def B1 (K : EP) : EP := seqK (fun fr h => Lp PP true (cd 116) (fr.mask 35) K h) K
@[irreducible] def K2 (Q : VP) : EP := seqK (fun fr h => ev PP true none (cd 15) (an 15) (fr.mask 0) (bodyK PP Try.f15 Q) h) (bodyK PP Try.f15 Q)
@[irreducible] def K1 (Q : VP) : EP := blockK 0 (K2 Q)
theorem L1_of {a0 : OA} {a0n a0c : Nat} {b1 : OA} {b1n b1c : Nat} {i5 : Int} {K : EP} {h : Heap} (H :
 let t14 : Bool := decide (i5 < (a0n : Int))
 br t14 (
 hwp PP (Instr.indexAt T_sl_uint8 (.slice a0 a0n a0c) (.int .i64 i5)) (fun v h1 => ∃ (t19 : Addr), v = (.pointer (some t19)) ∧
 ∃ (t20 : Int), cellH h1 t19 = some (.int .u8 t20) ∧
 hwp PP (Instr.indexAt T_sl_uint8 (.slice b1 b1n b1c) (.int .i64 i5)) (fun v_1 h2 => ∃ (t23 : Addr), v_1 = (.pointer (some t23)) ∧
 ∃ (t24 : Int), cellH h2 t23 = some (.int .u8 t24) ∧
 let t25 : Bool := (t20 != t24)
 br t25 (
 K .ret (Xret false) h2) (
 let t16 : Int := IntKind.i64.wrap (i5 + 1)
 L1 a0 a0n a0c b1 b1n b1c t16 K h2)) h1) h) (
 K (.exit 0) (X0) h)) : L1 a0 a0n a0c b1 b1n b1c i5 K h := by unfold L1; exact Lp.of_txt (an 116) 35 (by kernel_rfl) H
theorem L1_Xret {Q : VP} {t4 : Bool} {h : Heap} (H :
 Q (.bool t4) h) : (K1 Q) .ret (Xret t4) h := of_eq_txt (by kernel_rfl) H
theorem L1_X0 {Q : VP}  {h : Heap} (H :
 Q (.bool true) h) : (K1 Q) (.exit 0) (X0 ) h := of_eq_txt (by kernel_rfl) H
theorem door {a0 : OA} {a0n a0c : Nat} {b1 : OA} {b1n b1c : Nat} {Q : VP} {h : Heap} (H :
 let t10 : Bool := ((a0n : Int) != (b1n : Int))
 br t10 (
 Q (.bool false) h) (
 L1 a0 a0n a0c b1 b1n b1c 0 (K1 Q) h)) : SpecH PP F_ref02_Same [(.slice a0 a0n a0c), (.slice b1 b1n b1c)] h Q :=
   spec_of_txt (ann := ann) Try.func15 rfl rfl (by kernel_rfl) H
end ref02_Same
/-! ### haversack/haversackref06.Check: function 16 -/
namespace ref06_Check
def ann : Ann := (.seq 1 (.region [(List.range 1, 1)]) (.seq 16 (.region [(List.range 7, 16)]) (.seq 4 (.region [(List.range 2, 4)]) (.exit 4))))
noncomputable abbrev cd (n : Nat) : Code := sub (bodyOf Try.f16) (pth n)
abbrev an (n : Nat) : Ann := subA ann (pth n)
theorem door {t0 : OA} {t0n t0c : Nat} {Q : VP} {h : Heap} (H :
 SpecH PP F_ref06_Expand [(.slice t0 t0n t0c), (.int .i64 16384)] h (fun v h1 => ∃ (t7 : OA) (t7n t7c : Nat) (t7_1 : Int), v = (.tuple #[(.slice t7 t7n t7c), (.int .i64 t7_1)]) ∧
 Q (.int .i64 t7_1) h1)) : SpecH PP F_ref06_Check [(.slice t0 t0n t0c)] h Q :=
   spec_of_txt (ann := ann) Try.func16 rfl rfl (by kernel_rfl) H
end ref06_Check
/-! ### haversack/haversackref06.Find: function 17 -/
namespace ref06_Find
def ann : Ann := (.seq 1 (.region [(List.range 1, 1)]) (.seq 9 (.region [(List.range 1, 9)]) (.seq 9 (.seq 2057 (.region [(List.range 3, 2057)]) (.cond (.seq 4 (.region [(List.range 2, 4)]) (.exit 4)) .leaf)) (.seq 8 (.seq 25 (.region [(List.range 1, 25)]) (.block (.loop 25 (.seq 25 (.seq 65561 (.region [(List.range 4, 65561)]) (.cond .leaf (.exit 8))) (.block (.seq 121 (.region [(List.range 8, 121)]) (.seq 249 (.region [(List.range 9, 249)]) (.seq 68719476857 (.region [(List.range 7, 68719476857)]) (.join (.cond (.seq 25 (.region [(List.range 9, 25)]) (.region [(List.range 3, 25)])) (.seq 57 (.region [(List.range 7, 57)]) (.region [(List.range 4, 25)])))))))))))) (.seq 4 (.region [(List.range 2, 4)]) (.exit 4))))))
noncomputable abbrev cd (n : Nat) : Code := sub (bodyOf Try.f17) (pth n)
abbrev an (n : Nat) : Ann := subA ann (pth n)
@[irreducible] def X0 (out3 : OA) (out3n out3c : Nat) : Fr := (mkFr 0 57 [(3, (.slice out3 out3n out3c))])
@[irreducible] def L1 (data0 : OA) (data0n data0c : Nat) (out3 : OA) (out3n out3c : Nat) (i4 : Int) (K : EP) (h : Heap) : Prop := Lp PP true (cd 244) (mkFr 0 57 [(0, (.slice data0 data0n data0c)), (3, (.slice out3 out3n out3c)), (4, (.int .i64 i4))]) K h
@[irreducible] def B1 (K : EP) : EP := seqK (fun fr h => Lp PP true (cd 244) (fr.mask 25) K h) K
@[irreducible] def K2 (K : EP) : EP := blockK 1 (B1 K)
@[irreducible] def J1 (data0 : OA) (data0n data0c : Nat) (out3 : OA) (out3n out3c : Nat) (i4 xn5 d6 : Int) (t36 : Bool) (K : EP) (h : Heap) : Prop := Jn PP true (cd 7831) (mkFr 0 57 [(0, (.slice data0 data0n data0c)), (3, (.slice out3 out3n out3c)), (4, (.int .i64 i4)), (5, (.int .i64 xn5)), (6, (.int .i64 d6)), (36, (.bool t36))]) (K2 K) h
@[irreducible] def K3 (Q : VP) : EP := seqK (fun fr h => ev PP true none (cd 31) (an 31) (fr.mask 8) (bodyK PP Try.f17 Q) h) (bodyK PP Try.f17 Q)
@[irreducible] def K1 (Q : VP) : EP := blockK 0 (K3 Q)
theorem L1_of {data0 : OA} {data0n data0c : Nat} {out3 : OA} {out3n out3c : Nat} {i4 : Int} {K : EP} {h : Heap} (H :
 let t16 : Bool := decide (i4 < (data0n : Int))
 br t16 (
 SpecH PP F_ref06_Match [(.slice data0 data0n data0c), (.int .i64 i4)] h (fun v h1 => ∃ (t20 t20_1 : Int), v = (.tuple #[(.int .i64 t20), (.int .i64 t20_1)]) ∧
 let t26 : Int := IntKind.i64.wrap (i4 + 1)
 SpecH PP F_ref06_Match [(.slice data0 data0n data0c), (.int .i64 t26)] h1 (fun v_1 h2 => ∃ (t27 t27_1 : Int), v_1 = (.tuple #[(.int .i64 t27), (.int .i64 t27_1)]) ∧
 let t31 : Bool := (t20 == 0)
 br t31 (
 J1 data0 data0n data0c out3 out3n out3c i4 t20 t20_1 true K h2) (
 let t35 : Bool := decide (t27 > t20)
 J1 data0 data0n data0c out3 out3n out3c i4 t20 t20_1 t35 K h2)))) (
 K (.exit 0) (X0 out3 out3n out3c) h)) : L1 data0 data0n data0c out3 out3n out3c i4 K h := by unfold L1; exact Lp.of_txt (an 244) 25 (by kernel_rfl) H
theorem L1_X0 {Q : VP} {out3 : OA} {out3n out3c : Nat} {h : Heap} (H :
 Q (.slice out3 out3n out3c) h) : (K1 Q) (.exit 0) (X0 out3 out3n out3c) h := of_eq_txt (by kernel_rfl) H
theorem J1_of {data0 : OA} {data0n data0c : Nat} {out3 : OA} {out3n out3c : Nat} {i4 xn5 d6 : Int} {t36 : Bool} {K : EP} {h : Heap} (H :
 br t36 (
 hwp PP (Instr.indexAt T_sl_uint8 (.slice data0 data0n data0c) (.int .i64 i4)) (fun v h1 => ∃ (t40 : Addr), v = (.pointer (some t40)) ∧
 ∃ (t41 : Int), cellH h1 t40 = some (.int .u8 t41) ∧
 let h2 : Heap := Array.push h1 (.cells #[(.int .u8 t41), (.int .i64 0), (.int .i64 0)] T_api_Token (0, 0))
 hwp PP (Builtin.append_ #[T_sl_api_Token, T_sl_api_Token] T_sl_api_Token #[(.slice out3 out3n out3c), (.slice (some ⟨Array.size h1, 0, none⟩) 1 1)]) (fun v_1 h3 => ∃ (t44 : OA) (t44n t44c : Nat), v_1 = (.slice t44 t44n t44c) ∧
 let t46 : Int := IntKind.i64.wrap (i4 + 1)
 L1 data0 data0n data0c t44 t44n t44c t46 K h3) h2) h) (
 let h4 : Heap := Array.push h (.cells #[(.int .u8 0), (.int .i64 xn5), (.int .i64 d6)] T_api_Token (0, 0))
 hwp PP (Builtin.append_ #[T_sl_api_Token, T_sl_api_Token] T_sl_api_Token #[(.slice out3 out3n out3c), (.slice (some ⟨Array.size h, 0, none⟩) 1 1)]) (fun v_2 h5 => ∃ (t52 : OA) (t52n t52c : Nat), v_2 = (.slice t52 t52n t52c) ∧
 let t55 : Int := IntKind.i64.wrap (i4 + xn5)
 L1 data0 data0n data0c t52 t52n t52c t55 K h5) h4)) : J1 data0 data0n data0c out3 out3n out3c i4 xn5 d6 t36 K h := by unfold J1; exact Jn.of_txt (an 7831) (by kernel_rfl) H
theorem door {data0 : OA} {data0n data0c : Nat} {Q : VP} {h : Heap} (H :
 let t11 : Bool := decide ((data0n : Int) > 16384)
 br t11 (
 Q (.slice none 0 0) h) (
 L1 data0 data0n data0c none 0 0 0 (K1 Q) h)) : SpecH PP F_ref06_Find [(.slice data0 data0n data0c)] h Q :=
   spec_of_txt (ann := ann) Try.func17 rfl rfl (by kernel_rfl) H
end ref06_Find
/-! ### haversack/match.Find: function 18 -/
namespace match_Find
def ann : Ann := (.seq 5 (.region [(List.range 1, 5)]) (.seq 13 (.region [(List.range 1, 13)]) (.seq 8 (.seq 76 (.region [(List.range 2, 76)]) (.block (.range 12 (.region [(List.range 2, 24)]) (.block (.region [(List.range 5, 0)]))))) (.seq 4 (.region [(List.range 2, 4)]) (.exit 4)))))
noncomputable abbrev cd (n : Nat) : Code := sub (bodyOf Try.f18) (pth n)
abbrev an (n : Nat) : Ann := subA ann (pth n)
@[irreducible] def R1 (t2 : OA) (t2n t2c : Nat) (out3 : Addr) (t7f0 t7f1 t7f2 : Int) (l : Nat) (K : VP) (h : Heap) : Prop := ev PP false none (cd 116) (an 116) (setAll (mkFr 0 13 [(2, (.slice t2 t2n t2c)), (3, (.pointer (some out3)))]) [(7, (.agg #[(.int .u8 t7f0), (.int .i64 t7f1), (.int .i64 t7f2)]))]) (roundK PP l (cd 117) (an 117) 24 K) h
@[irreducible] def K2 (Q : VP) : EP := seqK (fun fr h => ev PP true none (cd 15) (an 15) (fr.mask 8) (bodyKR PP Try.f18 Q) h) (bodyKR PP Try.f18 Q)
@[irreducible] def K1 (Q : VP) : EP := blockK 0 (K2 Q)
theorem R1_of {t2 : OA} {t2n t2c : Nat} {out3 : Addr} {t7f0 t7f1 t7f2 : Int} {l : Nat} {K : VP} {h : Heap} (H :
 let t4 : Addr := ⟨Array.size h, 0, none⟩
 let h1 : Heap := Array.push h (.cells #[(.int .u8 0), (.int .i64 0), (.int .i64 0)] T_api_Token (0, 0))
 wrCells t4 0 [(.int .u8 t7f0), (.int .i64 t7f1), (.int .i64 t7f2)] (fun h2 =>
 ∃ xL : Loop, h2[l]? = some (.loop xL) ∧ xL.state = .ready ∧
 let h3 : Heap := h2.setIfInBounds l (.loop { xL with state := .busy })
 ∃ (t8 : OA) (t8n t8c : Nat), cellH h3 out3 = some (.slice t8 t8n t8c) ∧
 ∃ (t9f0 t9f1 t9f2 : Int), rdCells h3 t4 0 [(.int .u8 t9f0), (.int .i64 t9f1), (.int .i64 t9f2)] ∧
 let h4 : Heap := Array.push h3 (.cells #[(.int .u8 t9f0), (.int .i64 t9f1), (.int .i64 t9f2)] T_api_Token (0, 0))
 hwp PP (Builtin.append_ #[T_sl_api_Token, T_sl_api_Token] T_sl_api_Token #[(.slice t8 t8n t8c), (.slice (some ⟨Array.size h3, 0, none⟩) 1 1)]) (fun v h5 => ∃ (t11 : OA) (t11n t11c : Nat), v = (.slice t11 t11n t11c) ∧
 wr out3 (.slice t11 t11n t11c) (fun h6 =>
 ∃ xL_1, h6[l]? = some (.loop xL_1) ∧ K (.bool true) (h6.setIfInBounds l (endL xL_1 none))) h5) h4) h1) : R1 t2 t2n t2c out3 t7f0 t7f1 t7f2 l K h := of_eq_txt (by kernel_rfl) H
theorem R1_yield {t2 : OA} {t2n t2c : Nat} {out3 : Addr} {t7f0 t7f1 t7f2 : Int} {l : Nat} {K : VP} {h : Heap} {L : Loop} (hl : h[l]? = some (.loop L)) (hp : L.params = #[7]) (ha : L.assign = (cd 116)) (hb : L.body = (cd 117)) (hf : FrRel (mkFr 0 13 [(2, (.slice t2 t2n t2c)), (3, (.pointer (some out3)))]) L.tmps) (H : R1 t2 t2n t2c out3 t7f0 t7f1 t7f2 l K h) : callV PP (.func (.yield l) #[] #[]) [(.agg #[(.int .u8 t7f0), (.int .i64 t7f1), (.int .i64 t7f2)])] K h := by
   unfold R1 at H
   refine yield_ok (ann := an 116) (annB := an 117) (m := 24) hl (by rw [hp]; rfl) hf ?_
   rw [ha, hb, hp]; exact H
theorem R1_outn0 {Q : VP} {t2 : OA} {t2n t2c : Nat} {out3 : Addr} {h : Heap} (H :
 ∃ (t12 : OA) (t12n t12c : Nat), cellH h out3 = some (.slice t12 t12n t12c) ∧
 ∀ h1, Takes h h1 → Q (.slice t12 t12n t12c) h1) : (K1 Q) .normal (mkFr 0 13 [(2, (.slice t2 t2n t2c)), (3, (.pointer (some out3)))]) h := of_eq_txt (by kernel_rfl) H
theorem door {data0 : OA} {data0n data0c : Nat} {Q : VP} {h : Heap} (H :
 let out3 : Addr := ⟨Array.size h, 0, none⟩
 let h1 : Heap := Array.push h (.cells #[(.slice none 0 0)] T_sl_api_Token (0, 0))
 SpecH PP F_match_All [(.slice data0 data0n data0c)] h1 (fun v h2 => ∃ (t6 : Value), v = t6 ∧
 rangeK PP t6 #[7] (cd 116) (cd 117) (mkFr 0 13 [(2, (.slice none 0 0)), (3, (.pointer (some out3)))]) (K1 Q) h2)) : SpecH PP F_match_Find [(.slice data0 data0n data0c)] h Q :=
   spec_of_txtR (ann := ann) Try.func18 rfl (by kernel_rfl) H
end match_Find
/-! ### haversack/match.All: function 19 -/
namespace match_All
def ann : Ann := (.seq 1 (.region [(List.range 1, 1)]) (.seq 8 (.region [(List.range 4, 8)]) (.seq 4 (.region [(List.range 2, 4)]) (.exit 4))))
noncomputable abbrev cd (n : Nat) : Code := sub (bodyOf Try.f19) (pth n)
abbrev an (n : Nat) : Ann := subA ann (pth n)
theorem door {data0 : OA} {data0n data0c : Nat} {Q : VP} {h : Heap} (H :
 hwp PP (Builtin.append_ #[T_sl_uint8, T_sl_uint8] T_sl_uint8 #[(.slice none 0 0), (.slice data0 data0n data0c)]) (fun v h1 => ∃ (t5 : OA) (t5n t5c : Nat), v = (.slice t5 t5n t5c) ∧
 let own3 : Addr := ⟨Array.size h1, 0, none⟩
 let h2 : Heap := Array.push h1 (.cells #[(.slice none 0 0)] T_sl_uint8 (0, 0))
 wr own3 (.slice t5 t5n t5c) (fun h3 =>
 Q (.func (.func F_match_All_1) #[] #[(.pointer (some own3))]) h3) h2) h) : SpecH PP F_match_All [(.slice data0 data0n data0c)] h Q :=
   spec_of_txt (ann := ann) Try.func19 rfl rfl (by kernel_rfl) H
end match_All
/-! ### haversack/haversackref06.Same: function 20 -/
namespace ref06_Same
def ann : Ann := (.seq 3 (.region [(List.range 1, 3)]) (.seq 3 (.seq 1027 (.region [(List.range 5, 1027)]) (.cond (.seq 16 (.region [(List.range 1, 16)]) (.exit 16)) .leaf)) (.seq 0 (.seq 35 (.region [(List.range 1, 35)]) (.block (.loop 35 (.seq 35 (.seq 16419 (.region [(List.range 4, 16419)]) (.cond .leaf (.exit 0))) (.seq 35 (.block (.seq 33554467 (.region [(List.range 9, 33554467)]) (.cond (.seq 16 (.region [(List.range 1, 16)]) (.exit 16)) .leaf))) (.region [(List.range 3, 35)])))))) (.seq 16 (.region [(List.range 1, 16)]) (.exit 16)))))
noncomputable abbrev cd (n : Nat) : Code := sub (bodyOf Try.f20) (pth n)
abbrev an (n : Nat) : Ann := subA ann (pth n)
@[irreducible] def Xret (t4 : Bool) : Fr := (mkFr 0 26 [(4, (.bool t4))])
@[irreducible] def X0  : Fr := (mkFr 0 26 [])
@[irreducible] def L1 (a0 : OA) (a0n a0c : Nat) (b1 : OA) (b1n b1c : Nat) (i5 : Int) (K : EP) (h : Heap) : Prop := Lp PP true (cd 116) (mkFr 0 26 [(0, (.slice a0 a0n a0c)), (1, (.slice b1 b1n b1c)), (5, (.int .i64 i5))]) K h
@[irreducible] def B1 (K : EP) : EP := seqK (fun fr h => Lp PP true (cd 116) (fr.mask 35) K h) K
@[irreducible] def K2 (Q : VP) : EP := seqK (fun fr h => ev PP true none (cd 15) (an 15) (fr.mask 0) (bodyK PP Try.f20 Q) h) (bodyK PP Try.f20 Q)
@[irreducible] def K1 (Q : VP) : EP := blockK 0 (K2 Q)
theorem L1_of {a0 : OA} {a0n a0c : Nat} {b1 : OA} {b1n b1c : Nat} {i5 : Int} {K : EP} {h : Heap} (H :
 let t14 : Bool := decide (i5 < (a0n : Int))
 br t14 (
 hwp PP (Instr.indexAt T_sl_api_Token (.slice a0 a0n a0c) (.int .i64 i5)) (fun v h1 => ∃ (t19 : Addr), v = (.pointer (some t19)) ∧
 ∃ (t20f0 t20f1 t20f2 : Int), rdCells h1 t19 0 [(.int .u8 t20f0), (.int .i64 t20f1), (.int .i64 t20f2)] ∧
 hwp PP (Instr.indexAt T_sl_api_Token (.slice b1 b1n b1c) (.int .i64 i5)) (fun v_1 h2 => ∃ (t23 : Addr), v_1 = (.pointer (some t23)) ∧
 ∃ (t24f0 t24f1 t24f2 : Int), rdCells h2 t23 0 [(.int .u8 t24f0), (.int .i64 t24f1), (.int .i64 t24f2)] ∧
 let t25 : Bool := (!((t20f0 == t24f0) && ((t20f1 == t24f1) && ((t20f2 == t24f2) && true))))
 br t25 (
 K .ret (Xret false) h2) (
 let t16 : Int := IntKind.i64.wrap (i5 + 1)
 L1 a0 a0n a0c b1 b1n b1c t16 K h2)) h1) h) (
 K (.exit 0) (X0) h)) : L1 a0 a0n a0c b1 b1n b1c i5 K h := by unfold L1; exact Lp.of_txt (an 116) 35 (by kernel_rfl) H
theorem L1_Xret {Q : VP} {t4 : Bool} {h : Heap} (H :
 Q (.bool t4) h) : (K1 Q) .ret (Xret t4) h := of_eq_txt (by kernel_rfl) H
theorem L1_X0 {Q : VP}  {h : Heap} (H :
 Q (.bool true) h) : (K1 Q) (.exit 0) (X0 ) h := of_eq_txt (by kernel_rfl) H
theorem door {a0 : OA} {a0n a0c : Nat} {b1 : OA} {b1n b1c : Nat} {Q : VP} {h : Heap} (H :
 let t10 : Bool := ((a0n : Int) != (b1n : Int))
 br t10 (
 Q (.bool false) h) (
 L1 a0 a0n a0c b1 b1n b1c 0 (K1 Q) h)) : SpecH PP F_ref06_Same [(.slice a0 a0n a0c), (.slice b1 b1n b1c)] h Q :=
   spec_of_txt (ann := ann) Try.func20 rfl rfl (by kernel_rfl) H
end ref06_Same
/-! ### haversack/match.Cost: function 21 -/
namespace match_Cost
def ann : Ann := (.seq 1 (.region [(List.range 2, 1)]) (.seq 1 (.seq 17 (.region [(List.range 3, 17)]) (.seq 2065 (.region [(List.range 2, 2065)]) (.cond (.seq 12 (.region [(List.range 3, 12)]) (.exit 12)) .leaf))) (.seq 33 (.region [(List.range 1, 33)]) (.seq 32 (.seq 57376 (.region [(List.range 3, 57376)]) (.block (.loop 57376 (.seq 122912 (.region [(List.range 1, 122912)]) (.seq 57376 (.cond .leaf (.exit 32)) (.seq 57376 (.block (.seq 57504 (.region [(List.range 4, 57504)]) (.seq 57504 (.block (.seq 581792 (.region [(List.range 9, 581792)]) (.join (.cond (.seq 57376 (.region [(List.range 3, 57376)]) (.exit 57376)) (.seq 1073799328 (.region [(List.range 4, 1073799328)]) (.cond (.seq 57376 (.region [(List.range 3, 57376)]) (.exit 57376)) (.seq 68719534240 (.region [(List.range 4, 68719534240)]) (.cond (.region [(List.range 3, 57504)]) .leaf)))))))) (.join (.seq 57504 (.region [(List.range 7, 57504)]) (.seq 1125899906900128 (.region [(List.range 3, 1125899906900128)]) (.cond (.region [(List.range 7, 57376)]) .leaf))))))) (.join (.region [(List.range 2, 57376)])))))))) (.seq 12 (.region [(List.range 3, 12)]) (.exit 12))))))
noncomputable abbrev cd (n : Nat) : Code := sub (bodyOf Try.f21) (pth n)
abbrev an (n : Nat) : Ann := subA ann (pth n)
@[irreducible] def X0 (xn5 : Int) : Fr := (mkFr 0 59 [(5, (.int .i64 xn5))])
@[irreducible] def L1 (xn5 : Int) (t13 : OA) (t13n t13c : Nat) (t14 t15 : Int) (K : EP) (h : Heap) : Prop := Lp PP true (cd 244) (mkFr 0 59 [(5, (.int .i64 xn5)), (13, (.slice t13 t13n t13c)), (14, (.int .i64 t14)), (15, (.int .i64 t15))]) K h
@[irreducible] def B1 (K : EP) : EP := seqK (fun fr h => Lp PP true (cd 244) (fr.mask 57376) K h) K
@[irreducible] def K6 (K : EP) : EP := seqK (fun fr h => Jn PP true (cd 1959) (fr.mask 57376) (B1 K) h) (B1 K)
@[irreducible] def K5 (K : EP) : EP := blockK 1 (K6 K)
@[irreducible] def K4 (K : EP) : EP := seqK (fun fr h => Jn PP true (cd 15667) (fr.mask 57504) (K5 K) h) (K5 K)
@[irreducible] def K2 (K : EP) : EP := blockK 2 (K4 K)
@[irreducible] def J1 (xn5 : Int) (x7 : Addr) (t13 : OA) (t13n t13c : Nat) (t14 t15 : Int) (t19 : Bool) (K : EP) (h : Heap) : Prop := Jn PP true (cd 62665) (mkFr 0 59 [(5, (.int .i64 xn5)), (7, (.pointer (some x7))), (13, (.slice t13 t13n t13c)), (14, (.int .i64 t14)), (15, (.int .i64 t15)), (19, (.bool t19))]) (K2 K) h
@[irreducible] def K3 (Q : VP) : EP := seqK (fun fr h => ev PP true none (cd 31) (an 31) (fr.mask 32) (bodyK PP Try.f21 Q) h) (bodyK PP Try.f21 Q)
@[irreducible] def K1 (Q : VP) : EP := blockK 0 (K3 Q)
@[irreducible] def J2 (xn5 : Int) (t13 : OA) (t13n t13c : Nat) (t14 t15 : Int) (K : EP) (h : Heap) : Prop := Jn PP true (cd 1959) (mkFr 0 59 [(5, (.int .i64 xn5)), (13, (.slice t13 t13n t13c)), (14, (.int .i64 t14)), (15, (.int .i64 t15))]) (B1 K) h
@[irreducible] def J3 (xn5 : Int) (x7 : Addr) (t13 : OA) (t13n t13c : Nat) (t14 t15 : Int) (K : EP) (h : Heap) : Prop := Jn PP true (cd 15667) (mkFr 0 59 [(5, (.int .i64 xn5)), (7, (.pointer (some x7))), (13, (.slice t13 t13n t13c)), (14, (.int .i64 t14)), (15, (.int .i64 t15))]) (K5 K) h
theorem L1_of {xn5 : Int} {t13 : OA} {t13n t13c : Nat} {t14 t15 : Int} {K : EP} {h : Heap} (H :
 let t16 : Bool := decide (t15 < t14)
 br t16 (
 hwp PP (Instr.indexAt T_sl_api_Token (.slice t13 t13n t13c) (.int .i64 t15)) (fun v h1 => ∃ (t17 : Addr), v = (.pointer (some t17)) ∧
 ∃ (t18f0 t18f1 t18f2 : Int), rdCells h1 t17 0 [(.int .u8 t18f0), (.int .i64 t18f1), (.int .i64 t18f2)] ∧
 let x7 : Addr := ⟨Array.size h1, 0, none⟩
 let h2 : Heap := Array.push h1 (.cells #[(.int .u8 0), (.int .i64 0), (.int .i64 0)] T_api_Token (0, 0))
 wrCells x7 0 [(.int .u8 t18f0), (.int .i64 t18f1), (.int .i64 t18f2)] (fun h3 =>
 ∃ (t21 : Int), cellH h3 (Addr.add x7 1) = some (.int .i64 t21) ∧
 let t22 : Bool := (t21 == 0)
 br t22 (
 ∃ (t25 : Int), cellH h3 x7 = some (.int .u8 t25) ∧
 let t26 : Bool := decide (t25 < 144)
 J1 xn5 x7 t13 t13n t13c t14 t15 t26 K h3) (
 J1 xn5 x7 t13 t13n t13c t14 t15 false K h3)) h2) h) (
 K (.exit 0) (X0 xn5) h)) : L1 xn5 t13 t13n t13c t14 t15 K h := by unfold L1; exact Lp.of_txt (an 244) 57376 (by kernel_rfl) H
theorem L1_X0 {Q : VP} {xn5 : Int} {h : Heap} (H :
 Q (.tuple #[(.int .i64 xn5), (.int .i64 0)]) h) : (K1 Q) (.exit 0) (X0 xn5) h := of_eq_txt (by kernel_rfl) H
theorem J1_of {xn5 : Int} {x7 : Addr} {t13 : OA} {t13n t13c : Nat} {t14 t15 : Int} {t19 : Bool} {K : EP} {h : Heap} (H :
 br t19 (
 let t29 : Int := IntKind.i64.wrap (xn5 + 8)
 J2 t29 t13 t13n t13c t14 t15 K h) (
 ∃ (t32 : Int), cellH h (Addr.add x7 1) = some (.int .i64 t32) ∧
 let t33 : Bool := (t32 == 0)
 br t33 (
 let t35 : Int := IntKind.i64.wrap (xn5 + 9)
 J2 t35 t13 t13n t13c t14 t15 K h) (
 ∃ (t38 : Int), cellH h (Addr.add x7 1) = some (.int .i64 t38) ∧
 let t39 : Bool := decide (t38 ≥ 115)
 br t39 (
 let t41 : Int := IntKind.i64.wrap (xn5 + 1)
 J3 t41 x7 t13 t13n t13c t14 t15 K h) (
 J3 xn5 x7 t13 t13n t13c t14 t15 K h)))) : J1 xn5 x7 t13 t13n t13c t14 t15 t19 K h := by unfold J1; exact Jn.of_txt (an 62665) (by kernel_rfl) H
theorem J2_of {xn5 : Int} {t13 : OA} {t13n t13c : Nat} {t14 t15 : Int} {K : EP} {h : Heap} (H :
 let t57 : Int := IntKind.i64.wrap (t15 + 1)
 L1 xn5 t13 t13n t13c t14 t57 K h) : J2 xn5 t13 t13n t13c t14 t15 K h := by unfold J2; exact Jn.of_txt (an 1959) (by kernel_rfl) H
theorem J3_of {xn5 : Int} {x7 : Addr} {t13 : OA} {t13n t13c : Nat} {t14 t15 : Int} {K : EP} {h : Heap} (H :
 ∃ (t44 : Int), cellH h (Addr.add x7 2) = some (.int .i64 t44) ∧
 SpecH PP F_match_extra [(.int .i64 t44), (.int .i64 4)] h (fun v h1 => ∃ (t45 : Int), v = (.int .i64 t45) ∧
 let t46 : Int := IntKind.i64.wrap (12 + t45)
 let t47 : Int := IntKind.i64.wrap (xn5 + t46)
 ∃ (t49 : Int), cellH h1 (Addr.add x7 1) = some (.int .i64 t49) ∧
 let t50 : Bool := decide (t49 < 258)
 br t50 (
 ∃ (t53 : Int), cellH h1 (Addr.add x7 1) = some (.int .i64 t53) ∧
 let t54 : Int := IntKind.i64.wrap (t53 - 2)
 SpecH PP F_match_extra [(.int .i64 t54), (.int .i64 8)] h1 (fun v_1 h2 => ∃ (t55 : Int), v_1 = (.int .i64 t55) ∧
 let t56 : Int := IntKind.i64.wrap (t47 + t55)
 J2 t56 t13 t13n t13c t14 t15 K h2)) (
 J2 t47 t13 t13n t13c t14 t15 K h1))) : J3 xn5 x7 t13 t13n t13c t14 t15 K h := by unfold J3; exact Jn.of_txt (an 15667) (by kernel_rfl) H
theorem door {t0 : OA} {t0n t0c : Nat} {Q : VP} {h : Heap} (H :
 SpecH PP F_match_Check [(.slice t0 t0n t0c)] h (fun v h1 => ∃ (t9 : Int), v = (.int .i64 t9) ∧
 let t11 : Bool := (t9 != 0)
 br t11 (
 Q (.tuple #[(.int .i64 0), (.int .i64 t9)]) h1) (
 L1 0 t0 t0n t0c (t0n : Int) 0 (K1 Q) h1))) : SpecH PP F_match_Cost [(.slice t0 t0n t0c)] h Q :=
   spec_of_txt (ann := ann) Try.func21 rfl rfl (by kernel_rfl) H
end match_Cost
/-! ### haversack/haversackref06.Cost: function 22 -/
namespace ref06_Cost
def ann : Ann := (.seq 1 (.region [(List.range 2, 1)]) (.seq 17 (.region [(List.range 3, 17)]) (.seq 1 (.seq 1041 (.region [(List.range 2, 1041)]) (.cond (.seq 12 (.region [(List.range 3, 12)]) (.exit 12)) .leaf)) (.seq 33 (.region [(List.range 1, 33)]) (.seq 32 (.seq 97 (.region [(List.range 1, 97)]) (.block (.loop 97 (.seq 97 (.seq 32865 (.region [(List.range 4, 32865)]) (.cond .leaf (.exit 32))) (.seq 97 (.block (.block (.seq 8796093022305 (.region [(List.range 15, 8796093022305)]) (.join (.cond (.region [(List.range 3, 97)]) (.seq 1152921504606847073 (.region [(List.range 7, 1152921504606847073)]) (.cond (.region [(List.range 3, 97)]) (.seq 97 (.region [(List.range 18, 97)]) (.seq 1099511627873 (.region [(List.range 6, 1099511627873)]) (.cond (.region [(List.range 3, 97)]) .leaf)))))))))) (.join (.region [(List.range 3, 97)]))))))) (.seq 12 (.region [(List.range 3, 12)]) (.exit 12)))))))
noncomputable abbrev cd (n : Nat) : Code := sub (bodyOf Try.f22) (pth n)
abbrev an (n : Nat) : Ann := subA ann (pth n)
@[irreducible] def X0 (xn5 : Int) : Fr := (mkFr 0 70 [(5, (.int .i64 xn5))])
@[irreducible] def L1 (t0 : OA) (t0n t0c : Nat) (xn5 i6 : Int) (K : EP) (h : Heap) : Prop := Lp PP true (cd 500) (mkFr 0 70 [(0, (.slice t0 t0n t0c)), (5, (.int .i64 xn5)), (6, (.int .i64 i6))]) K h
@[irreducible] def B1 (K : EP) : EP := seqK (fun fr h => Lp PP true (cd 500) (fr.mask 97) K h) K
@[irreducible] def K5 (K : EP) : EP := seqK (fun fr h => Jn PP true (cd 2003) (fr.mask 97) (B1 K) h) (B1 K)
@[irreducible] def K4 (K : EP) : EP := blockK 1 (K5 K)
@[irreducible] def K2 (K : EP) : EP := blockK 2 (K4 K)
@[irreducible] def J1 (t0 : OA) (t0n t0c : Nat) (xn5 i6 : Int) (t43 : Bool) (K : EP) (h : Heap) : Prop := Jn PP true (cd 16017) (mkFr 0 70 [(0, (.slice t0 t0n t0c)), (5, (.int .i64 xn5)), (6, (.int .i64 i6)), (43, (.bool t43))]) (K2 K) h
@[irreducible] def K3 (Q : VP) : EP := seqK (fun fr h => ev PP true none (cd 63) (an 63) (fr.mask 32) (bodyK PP Try.f22 Q) h) (bodyK PP Try.f22 Q)
@[irreducible] def K1 (Q : VP) : EP := blockK 0 (K3 Q)
@[irreducible] def J2 (t0 : OA) (t0n t0c : Nat) (xn5 i6 : Int) (K : EP) (h : Heap) : Prop := Jn PP true (cd 2003) (mkFr 0 70 [(0, (.slice t0 t0n t0c)), (5, (.int .i64 xn5)), (6, (.int .i64 i6))]) (B1 K) h
theorem L1_of {t0 : OA} {t0n t0c : Nat} {xn5 i6 : Int} {K : EP} {h : Heap} (H :
 let t15 : Bool := decide (i6 < (t0n : Int))
 br t15 (
 hwp PP (Instr.indexAt T_sl_api_Token (.slice t0 t0n t0c) (.int .i64 i6)) (fun v h1 => ∃ (t46 : Addr), v = (.pointer (some t46)) ∧
 ∃ (t48 : Int), cellH h1 (Addr.add t46 1) = some (.int .i64 t48) ∧
 let t49 : Bool := (t48 == 0)
 br t49 (
 hwp PP (Instr.indexAt T_sl_api_Token (.slice t0 t0n t0c) (.int .i64 i6)) (fun v_1 h2 => ∃ (t53 : Addr), v_1 = (.pointer (some t53)) ∧
 ∃ (t55 : Int), cellH h2 t53 = some (.int .u8 t55) ∧
 let t56 : Bool := decide (t55 < 144)
 J1 t0 t0n t0c xn5 i6 t56 K h2) h1) (
 J1 t0 t0n t0c xn5 i6 false K h1)) h) (
 K (.exit 0) (X0 xn5) h)) : L1 t0 t0n t0c xn5 i6 K h := by unfold L1; exact Lp.of_txt (an 500) 97 (by kernel_rfl) H
theorem L1_X0 {Q : VP} {xn5 : Int} {h : Heap} (H :
 Q (.tuple #[(.int .i64 xn5), (.int .i64 0)]) h) : (K1 Q) (.exit 0) (X0 xn5) h := of_eq_txt (by kernel_rfl) H
theorem J1_of {t0 : OA} {t0n t0c : Nat} {xn5 i6 : Int} {t43 : Bool} {K : EP} {h : Heap} (H :
 br t43 (
 let t59 : Int := IntKind.i64.wrap (xn5 + 8)
 J2 t0 t0n t0c t59 i6 K h) (
 hwp PP (Instr.indexAt T_sl_api_Token (.slice t0 t0n t0c) (.int .i64 i6)) (fun v h1 => ∃ (t63 : Addr), v = (.pointer (some t63)) ∧
 ∃ (t65 : Int), cellH h1 (Addr.add t63 1) = some (.int .i64 t65) ∧
 let t66 : Bool := (t65 == 0)
 br t66 (
 let t68 : Int := IntKind.i64.wrap (xn5 + 9)
 J2 t0 t0n t0c t68 i6 K h1) (
 let t19 : Int := IntKind.i64.wrap (xn5 + 7)
 let t20 : Int := IntKind.i64.wrap (t19 + 5)
 hwp PP (Instr.indexAt T_sl_api_Token (.slice t0 t0n t0c) (.int .i64 i6)) (fun v_1 h2 => ∃ (t23 : Addr), v_1 = (.pointer (some t23)) ∧
 ∃ (t25 : Int), cellH h2 (Addr.add t23 1) = some (.int .i64 t25) ∧
 ∃ v_2, PureAt PP F_ref06_lenBits [(.int .i64 t25)] v_2 ∧
 ∃ (t26 : Int), v_2 = (.int .i64 t26) ∧
 let t27 : Int := IntKind.i64.wrap (t20 + t26)
 hwp PP (Instr.indexAt T_sl_api_Token (.slice t0 t0n t0c) (.int .i64 i6)) (fun v_3 h3 => ∃ (t30 : Addr), v_3 = (.pointer (some t30)) ∧
 ∃ (t32 : Int), cellH h3 (Addr.add t30 2) = some (.int .i64 t32) ∧
 SpecH PP F_ref06_distBits [(.int .i64 t32)] h3 (fun v_4 h4 => ∃ (t33 : Int), v_4 = (.int .i64 t33) ∧
 let t34 : Int := IntKind.i64.wrap (t27 + t33)
 hwp PP (Instr.indexAt T_sl_api_Token (.slice t0 t0n t0c) (.int .i64 i6)) (fun v_5 h5 => ∃ (t37 : Addr), v_5 = (.pointer (some t37)) ∧
 ∃ (t39 : Int), cellH h5 (Addr.add t37 1) = some (.int .i64 t39) ∧
 let t40 : Bool := decide (t39 ≥ 115)
 br t40 (
 let t42 : Int := IntKind.i64.wrap (t34 + 1)
 J2 t0 t0n t0c t42 i6 K h5) (
 J2 t0 t0n t0c t34 i6 K h5)) h4)) h2) h1)) h)) : J1 t0 t0n t0c xn5 i6 t43 K h := by unfold J1; exact Jn.of_txt (an 16017) (by kernel_rfl) H
theorem J2_of {t0 : OA} {t0n t0c : Nat} {xn5 i6 : Int} {K : EP} {h : Heap} (H :
 let t17 : Int := IntKind.i64.wrap (i6 + 1)
 L1 t0 t0n t0c xn5 t17 K h) : J2 t0 t0n t0c xn5 i6 K h := by unfold J2; exact Jn.of_txt (an 2003) (by kernel_rfl) H
theorem door {t0 : OA} {t0n t0c : Nat} {Q : VP} {h : Heap} (H :
 SpecH PP F_ref06_Check [(.slice t0 t0n t0c)] h (fun v h1 => ∃ (t8 : Int), v = (.int .i64 t8) ∧
 let t10 : Bool := (t8 != 0)
 br t10 (
 Q (.tuple #[(.int .i64 0), (.int .i64 t8)]) h1) (
 L1 t0 t0n t0c 0 0 (K1 Q) h1))) : SpecH PP F_ref06_Cost [(.slice t0 t0n t0c)] h Q :=
   spec_of_txt (ann := ann) Try.func22 rfl rfl (by kernel_rfl) H
end ref06_Cost
/-! ### haversack/match.right: function 23 -/
namespace match_right
def ann : Ann := (.seq 6 (.region [(List.range 2, 6)]) (.seq 6 (.seq 134 (.region [(List.range 3, 134)]) (.cond (.seq 16 (.region [(List.range 4, 16)]) (.exit 16)) .leaf)) (.seq 16 (.region [(List.range 26, 16)]) (.exit 16))))
noncomputable abbrev cd (n : Nat) : Code := sub (bodyOf Try.f23) (pth n)
abbrev an (n : Nat) : Ann := subA ann (pth n)
theorem door {t0f0 t0f1 t0f2 said1 : Int} {Q : VP} {h : Heap} (H :
 let t2 : Addr := ⟨Array.size h, 0, none⟩
 let h1 : Heap := Array.push h (.cells #[(.int .u8 t0f0), (.int .i64 t0f1), (.int .i64 t0f2)] T_api_Token (0, 0))
 ∃ (t6 : Int), cellH h1 (Addr.add t2 1) = some (.int .i64 t6) ∧
 let t7 : Bool := (t6 == 0)
 br t7 (
 ∃ (t9 : Int), cellH h1 (Addr.add t2 2) = some (.int .i64 t9) ∧
 let t10 : Bool := (t9 == 0)
 Q (.bool t10) h1) (
 ∃ (t12 : Int), cellH h1 t2 = some (.int .u8 t12) ∧
 let t13 : Bool := (t12 == 0)
 br t13 (
 ∃ (t16 : Int), cellH h1 (Addr.add t2 1) = some (.int .i64 t16) ∧
 let t17 : Bool := decide (t16 ≥ 3)
 br t17 (
 ∃ (t21 : Int), cellH h1 (Addr.add t2 1) = some (.int .i64 t21) ∧
 let t22 : Bool := decide (t21 ≤ 258)
 br t22 (
 ∃ (t26 : Int), cellH h1 (Addr.add t2 2) = some (.int .i64 t26) ∧
 let t27 : Bool := decide (t26 ≥ 1)
 br t27 (
 ∃ (t31 : Int), cellH h1 (Addr.add t2 2) = some (.int .i64 t31) ∧
 let t33 : Int := (if said1 < 32768 then said1 else 32768)
 let t34 : Bool := decide (t31 ≤ t33)
 Q (.bool t34) h1) (
 Q (.bool false) h1)) (
 Q (.bool false) h1)) (
 Q (.bool false) h1)) (
 Q (.bool false) h1))) : SpecH PP F_match_right [(.agg #[(.int .u8 t0f0), (.int .i64 t0f1), (.int .i64 t0f2)]), (.int .i64 said1)] h Q :=
   spec_of_txt (ann := ann) Try.func23 rfl rfl (by kernel_rfl) H
end match_right
/-! ### haversack/haversackref06.may: function 24 -/
namespace ref06_may
def ann : Ann := (.seq 6 (.region [(List.range 2, 6)]) (.seq 6 (.seq 134 (.region [(List.range 3, 134)]) (.cond (.seq 16 (.region [(List.range 4, 16)]) (.exit 16)) .leaf)) (.seq 16 (.region [(List.range 30, 16)]) (.exit 16))))
noncomputable abbrev cd (n : Nat) : Code := sub (bodyOf Try.f24) (pth n)
abbrev an (n : Nat) : Ann := subA ann (pth n)
theorem door {t0f0 t0f1 t0f2 said1 : Int} {Q : VP} {h : Heap} (H :
 let t2 : Addr := ⟨Array.size h, 0, none⟩
 let h1 : Heap := Array.push h (.cells #[(.int .u8 t0f0), (.int .i64 t0f1), (.int .i64 t0f2)] T_api_Token (0, 0))
 ∃ (t6 : Int), cellH h1 (Addr.add t2 1) = some (.int .i64 t6) ∧
 let t7 : Bool := (t6 == 0)
 br t7 (
 ∃ (t9 : Int), cellH h1 (Addr.add t2 2) = some (.int .i64 t9) ∧
 let t10 : Bool := (t9 == 0)
 Q (.bool t10) h1) (
 ∃ (t12 : Int), cellH h1 t2 = some (.int .u8 t12) ∧
 let t13 : Bool := (t12 == 0)
 br t13 (
 ∃ (t16 : Int), cellH h1 (Addr.add t2 1) = some (.int .i64 t16) ∧
 let t17 : Bool := decide (t16 ≥ 3)
 br t17 (
 ∃ (t21 : Int), cellH h1 (Addr.add t2 1) = some (.int .i64 t21) ∧
 let t22 : Bool := decide (t21 ≤ 258)
 br t22 (
 ∃ (t26 : Int), cellH h1 (Addr.add t2 2) = some (.int .i64 t26) ∧
 let t27 : Bool := decide (t26 ≥ 1)
 br t27 (
 ∃ (t31 : Int), cellH h1 (Addr.add t2 2) = some (.int .i64 t31) ∧
 let t32 : Bool := decide (t31 ≤ 32768)
 br t32 (
 ∃ (t36 : Int), cellH h1 (Addr.add t2 2) = some (.int .i64 t36) ∧
 let t38 : Bool := decide (t36 ≤ said1)
 Q (.bool t38) h1) (
 Q (.bool false) h1)) (
 Q (.bool false) h1)) (
 Q (.bool false) h1)) (
 Q (.bool false) h1)) (
 Q (.bool false) h1))) : SpecH PP F_ref06_may [(.agg #[(.int .u8 t0f0), (.int .i64 t0f1), (.int .i64 t0f2)]), (.int .i64 said1)] h Q :=
   spec_of_txt (ann := ann) Try.func24 rfl rfl (by kernel_rfl) H
end ref06_may
/-! ### haversack/haversackref06.Match: function 25 -/
namespace ref06_Match
def ann : Ann := (.seq 3 (.region [(List.range 2, 3)]) (.seq 67 (.region [(List.range 1, 67)]) (.seq 195 (.region [(List.range 1, 195)]) (.seq 192 (.seq 451 (.region [(List.range 1, 451)]) (.block (.loop 451 (.seq 451 (.seq 1049027 (.region [(List.range 11, 1049027)]) (.cond .leaf (.exit 192))) (.seq 451 (.block (.seq 963 (.region [(List.range 1, 963)]) (.seq 963 (.block (.loop 963 (.seq 963 (.seq 562949953422275 (.region [(List.range 27, 562949953422275)]) (.cond .leaf (.exit 963))) (.block (.region [(List.range 3, 963)]))))) (.seq 288230376151712707 (.region [(List.range 7, 288230376151712707)]) (.join (.cond (.seq 323 (.region [(List.range 2, 323)]) (.region [(List.range 2, 451)])) .leaf)))))) (.join (.region [(List.range 3, 451)]))))))) (.seq 48 (.region [(List.range 4, 48)]) (.exit 48))))))
noncomputable abbrev cd (n : Nat) : Code := sub (bodyOf Try.f25) (pth n)
abbrev an (n : Nat) : Ann := subA ann (pth n)
@[irreducible] def X0 (long6 dist7 : Int) : Fr := (mkFr 0 63 [(6, (.int .i64 long6)), (7, (.int .i64 dist7))])
@[irreducible] def X2 (data0 : OA) (data0n data0c : Nat) (i1 long6 dist7 d8 xn9 : Int) : Fr := (mkFr 0 63 [(0, (.slice data0 data0n data0c)), (1, (.int .i64 i1)), (6, (.int .i64 long6)), (7, (.int .i64 dist7)), (8, (.int .i64 d8)), (9, (.int .i64 xn9))])
@[irreducible] def L1 (data0 : OA) (data0n data0c : Nat) (i1 long6 dist7 d8 : Int) (K : EP) (h : Heap) : Prop := Lp PP true (cd 244) (mkFr 0 63 [(0, (.slice data0 data0n data0c)), (1, (.int .i64 i1)), (6, (.int .i64 long6)), (7, (.int .i64 dist7)), (8, (.int .i64 d8))]) K h
@[irreducible] def B1 (K : EP) : EP := seqK (fun fr h => Lp PP true (cd 244) (fr.mask 451) K h) K
@[irreducible] def K3 (Q : VP) : EP := seqK (fun fr h => ev PP true none (cd 31) (an 31) (fr.mask 192) (bodyK PP Try.f25 Q) h) (bodyK PP Try.f25 Q)
@[irreducible] def K1 (Q : VP) : EP := blockK 0 (K3 Q)
@[irreducible] def K6 (K : EP) : EP := seqK (fun fr h => Jn PP true (cd 979) (fr.mask 451) (B1 K) h) (B1 K)
@[irreducible] def K5 (K : EP) : EP := blockK 1 (K6 K)
@[irreducible] def K4 (K : EP) : EP := seqK (fun fr h => ev PP true none (cd 7827) (an 7827) (fr.mask 963) (K5 K) h) (K5 K)
@[irreducible] def K2 (K : EP) : EP := blockK 2 (K4 K)
@[irreducible] def L2 (data0 : OA) (data0n data0c : Nat) (i1 long6 dist7 d8 xn9 : Int) (K : EP) (h : Heap) : Prop := Lp PP true (cd 31304) (mkFr 0 63 [(0, (.slice data0 data0n data0c)), (1, (.int .i64 i1)), (6, (.int .i64 long6)), (7, (.int .i64 dist7)), (8, (.int .i64 d8)), (9, (.int .i64 xn9))]) K h
@[irreducible] def B2 (K : EP) : EP := seqK (fun fr h => Lp PP true (cd 31304) (fr.mask 963) K h) K
@[irreducible] def J1 (data0 : OA) (data0n data0c : Nat) (i1 long6 dist7 d8 xn9 : Int) (t58 : Bool) (K : EP) (h : Heap) : Prop := Jn PP true (cd 15655) (mkFr 0 63 [(0, (.slice data0 data0n data0c)), (1, (.int .i64 i1)), (6, (.int .i64 long6)), (7, (.int .i64 dist7)), (8, (.int .i64 d8)), (9, (.int .i64 xn9)), (58, (.bool t58))]) (K5 K) h
@[irreducible] def J2 (data0 : OA) (data0n data0c : Nat) (i1 long6 dist7 d8 : Int) (K : EP) (h : Heap) : Prop := Jn PP true (cd 979) (mkFr 0 63 [(0, (.slice data0 data0n data0c)), (1, (.int .i64 i1)), (6, (.int .i64 long6)), (7, (.int .i64 dist7)), (8, (.int .i64 d8))]) (B1 K) h
theorem L1_of {data0 : OA} {data0n data0c : Nat} {i1 long6 dist7 d8 : Int} {K : EP} {h : Heap} (H :
 let t12 : Bool := decide (d8 ≤ i1)
 br t12 (
 let t15 : Bool := decide (d8 ≤ 32768)
 br t15 (
 let t19 : Bool := decide (long6 < 258)
 br t19 (
 L2 data0 data0n data0c i1 long6 dist7 d8 0 (K2 K) h) (
 K (.exit 0) (X0 long6 dist7) h)) (
 K (.exit 0) (X0 long6 dist7) h)) (
 K (.exit 0) (X0 long6 dist7) h)) : L1 data0 data0n data0c i1 long6 dist7 d8 K h := by unfold L1; exact Lp.of_txt (an 244) 451 (by kernel_rfl) H
theorem L1_X0 {Q : VP} {long6 dist7 : Int} {h : Heap} (H :
 Q (.tuple #[(.int .i64 long6), (.int .i64 dist7)]) h) : (K1 Q) (.exit 0) (X0 long6 dist7) h := of_eq_txt (by kernel_rfl) H
theorem L2_of {data0 : OA} {data0n data0c : Nat} {i1 long6 dist7 d8 xn9 : Int} {K : EP} {h : Heap} (H :
 let t24 : Bool := decide (xn9 < 258)
 br t24 (
 let t28 : Int := IntKind.i64.wrap (i1 + xn9)
 let t31 : Bool := decide (t28 < (data0n : Int))
 br t31 (
 let t37 : Int := IntKind.i64.wrap (i1 + xn9)
 hwp PP (Instr.indexAt T_sl_uint8 (.slice data0 data0n data0c) (.int .i64 t37)) (fun v h1 => ∃ (t38 : Addr), v = (.pointer (some t38)) ∧
 ∃ (t39 : Int), cellH h1 t38 = some (.int .u8 t39) ∧
 let t43 : Int := IntKind.i64.wrap (i1 + xn9)
 let t45 : Int := IntKind.i64.wrap (t43 - d8)
 hwp PP (Instr.indexAt T_sl_uint8 (.slice data0 data0n data0c) (.int .i64 t45)) (fun v_1 h2 => ∃ (t46 : Addr), v_1 = (.pointer (some t46)) ∧
 ∃ (t47 : Int), cellH h2 t46 = some (.int .u8 t47) ∧
 let t48 : Bool := (t39 == t47)
 br t48 (
 let t51 : Int := IntKind.i64.wrap (xn9 + 1)
 L2 data0 data0n data0c i1 long6 dist7 d8 t51 K h2) (
 K (.exit 2) (X2 data0 data0n data0c i1 long6 dist7 d8 xn9) h2)) h1) h) (
 K (.exit 2) (X2 data0 data0n data0c i1 long6 dist7 d8 xn9) h)) (
 K (.exit 2) (X2 data0 data0n data0c i1 long6 dist7 d8 xn9) h)) : L2 data0 data0n data0c i1 long6 dist7 d8 xn9 K h := by unfold L2; exact Lp.of_txt (an 31304) 963 (by kernel_rfl) H
theorem L2_X2 {K : EP} {data0 : OA} {data0n data0c : Nat} {i1 long6 dist7 d8 xn9 : Int} {h : Heap} (H :
 let t53 : Bool := decide (xn9 ≥ 3)
 br t53 (
 let t57 : Bool := decide (xn9 > long6)
 J1 data0 data0n data0c i1 long6 dist7 d8 xn9 t57 K h) (
 J1 data0 data0n data0c i1 long6 dist7 d8 xn9 false K h)) : (K2 K) (.exit 2) (X2 data0 data0n data0c i1 long6 dist7 d8 xn9) h := of_eq_txt (by kernel_rfl) H
theorem J1_of {data0 : OA} {data0n data0c : Nat} {i1 long6 dist7 d8 xn9 : Int} {t58 : Bool} {K : EP} {h : Heap} (H :
 br t58 (
 J2 data0 data0n data0c i1 xn9 d8 d8 K h) (
 J2 data0 data0n data0c i1 long6 dist7 d8 K h)) : J1 data0 data0n data0c i1 long6 dist7 d8 xn9 t58 K h := by unfold J1; exact Jn.of_txt (an 15655) (by kernel_rfl) H
theorem J2_of {data0 : OA} {data0n data0c : Nat} {i1 long6 dist7 d8 : Int} {K : EP} {h : Heap} (H :
 let t22 : Int := IntKind.i64.wrap (d8 + 1)
 L1 data0 data0n data0c i1 long6 dist7 t22 K h) : J2 data0 data0n data0c i1 long6 dist7 d8 K h := by unfold J2; exact Jn.of_txt (an 979) (by kernel_rfl) H
theorem door {data0 : OA} {data0n data0c : Nat} {i1 : Int} {Q : VP} {h : Heap} (H :
 L1 data0 data0n data0c i1 0 0 1 (K1 Q) h) : SpecH PP F_ref06_Match [(.slice data0 data0n data0c), (.int .i64 i1)] h Q :=
   spec_of_txt (ann := ann) Try.func25 rfl rfl (by kernel_rfl) H
end ref06_Match
/-! ### haversack/match.All$1: function 26 -/
namespace match_All_1
def ann : Ann := (.seq 3 (.seq 8195 (.region [(List.range 3, 8195)]) (.cond (.exit 0) .leaf)) (.seq 11 (.tree (.run [1, 2] (.alt 0 (.run [3, 4, 5, 6] .done) (.alt 3 (.run [0, 4, 5, 6] .done) .nil))) 11) (.join (.seq 27 (.region [(List.range 1, 27)]) (.block (.loop 27 (.seq 27 (.seq 8388635 (.region [(List.range 4, 8388635)]) (.cond .leaf (.exit 0))) (.block (.seq 59 (.region [(List.range 7, 59)]) (.seq 123 (.region [(List.range 1, 123)]) (.seq 123 (.seq 507 (.region [(List.range 8, 507)]) (.seq 68719477243 (.region [(List.range 2, 68719477243)]) (.cond (.seq 1019 (.region [(List.range 9, 1019)]) (.seq 70368744178171 (.region [(List.range 3, 70368744178171)]) (.cond (.region [(List.range 6, 123)]) .leaf))) .leaf))) (.join (.seq 91 (.seq 18014398509482075 (.region [(List.range 4, 18014398509482075)]) (.cond (.exit 0) .leaf)) (.region [(List.range 4, 27)]))))))))))))))
noncomputable abbrev cd (n : Nat) : Code := sub (bodyOf Try.f26) (pth n)
abbrev an (n : Nat) : Ann := subA ann (pth n)
@[irreducible] def X0  : Fr := (mkFr 0 58 [])
@[irreducible] def Xret  : Fr := (mkFr 0 58 [])
@[irreducible] def J1 (yield0 : Value) (t1 f3 : Addr) (Q : VP) (h : Heap) : Prop := Jn PP true (cd 7) (mkFr 0 58 [(0, yield0), (1, (.pointer (some t1))), (3, (.pointer (some f3)))]) (bodyK PP Try.f26 Q) h
@[irreducible] def K1 (Q : VP) : EP := blockK 0 (bodyK PP Try.f26 Q)
@[irreducible] def L1 (yield0 : Value) (t1 f3 : Addr) (i4 : Int) (K : EP) (h : Heap) : Prop := Lp PP true (cd 60) (mkFr 0 58 [(0, yield0), (1, (.pointer (some t1))), (3, (.pointer (some f3))), (4, (.int .i64 i4))]) K h
@[irreducible] def B1 (K : EP) : EP := seqK (fun fr h => Lp PP true (cd 60) (fr.mask 27) K h) K
@[irreducible] def K2 (K : EP) : EP := blockK 1 (B1 K)
@[irreducible] def J2 (yield0 : Value) (t1 f3 : Addr) (i4 : Int) (t5 : Addr) (step6 : Int) (K : EP) (h : Heap) : Prop := Jn PP true (cd 1943) (mkFr 0 58 [(0, yield0), (1, (.pointer (some t1))), (3, (.pointer (some f3))), (4, (.int .i64 i4)), (5, (.pointer (some t5))), (6, (.int .i64 step6))]) (K2 K) h
theorem J1_of {yield0 : Value} {t1 f3 : Addr} {Q : VP} {h : Heap} (H :
 L1 yield0 t1 f3 0 (K1 Q) h) : J1 yield0 t1 f3 Q h := by unfold J1; exact Jn.of_txt (an 7) (by kernel_rfl) H
theorem L1_of {yield0 : Value} {t1 f3 : Addr} {i4 : Int} {K : EP} {h : Heap} (H :
 ∃ (t21 : OA) (t21n t21c : Nat), cellH h t1 = some (.slice t21 t21n t21c) ∧
 let t23 : Bool := decide (i4 < (t21n : Int))
 br t23 (
 ∃ (t24 : OA) (t24n t24c : Nat), cellH h t1 = some (.slice t24 t24n t24c) ∧
 hwp PP (Instr.indexAt T_sl_uint8 (.slice t24 t24n t24c) (.int .i64 i4)) (fun v h1 => ∃ (t26 : Addr), v = (.pointer (some t26)) ∧
 ∃ (t27 : Int), cellH h1 t26 = some (.int .u8 t27) ∧
 let t5 : Addr := ⟨Array.size h1, 0, none⟩
 let h2 : Heap := Array.push h1 (.cells #[(.int .u8 0), (.int .i64 0), (.int .i64 0)] T_api_Token (0, 0))
 wrCells t5 0 [(.int .u8 t27), (.int .i64 0), (.int .i64 0)] (fun h3 =>
 SpecH PP F_match_finder_match [(.pointer (some f3)), (.int .i64 i4)] h3 (fun v_1 h4 => ∃ (t32 t32_1 : Int), v_1 = (.tuple #[(.int .i64 t32), (.int .i64 t32_1)]) ∧
 let t36 : Bool := decide (t32 > 0)
 br t36 (
 let t40 : Int := IntKind.i64.wrap (i4 + 1)
 SpecH PP F_match_finder_match [(.pointer (some f3)), (.int .i64 t40)] h4 (fun v_2 h5 => ∃ (t41 t41_1 : Int), v_2 = (.tuple #[(.int .i64 t41), (.int .i64 t41_1)]) ∧
 let t46 : Bool := decide (t41 ≤ t32)
 br t46 (
 wrCells t5 0 [(.int .u8 0), (.int .i64 t32), (.int .i64 t32_1)] (fun h6 =>
 J2 yield0 t1 f3 i4 t5 t32 K h6) h5) (
 J2 yield0 t1 f3 i4 t5 1 K h5))) (
 J2 yield0 t1 f3 i4 t5 1 K h4))) h2) h) (
 K (.exit 0) (X0) h)) : L1 yield0 t1 f3 i4 K h := by unfold L1; exact Lp.of_txt (an 60) 27 (by kernel_rfl) H
theorem L1_X0 {Q : VP}  {h : Heap} (H :
 Q (.tuple #[]) h) : (K1 Q) (.exit 0) (X0 ) h := of_eq_txt (by kernel_rfl) H
theorem J2_of {yield0 : Value} {t1 f3 : Addr} {i4 : Int} {t5 : Addr} {step6 : Int} {K : EP} {h : Heap} (H :
 ∃ (t52f0 t52f1 t52f2 : Int), rdCells h t5 0 [(.int .u8 t52f0), (.int .i64 t52f1), (.int .i64 t52f2)] ∧
 callV PP yield0 [(.agg #[(.int .u8 t52f0), (.int .i64 t52f1), (.int .i64 t52f2)])] (fun v h1 => ∃ (t53 : Bool), v = (.bool t53) ∧
 let t54 : Bool := (!t53)
 br t54 (
 K .ret (Xret) h1) (
 let t57 : Int := IntKind.i64.wrap (i4 + step6)
 L1 yield0 t1 f3 t57 K h1)) h) : J2 yield0 t1 f3 i4 t5 step6 K h := by unfold J2; exact Jn.of_txt (an 1943) (by kernel_rfl) H
theorem L1_Xret {Q : VP}  {h : Heap} (H :
 Q (.tuple #[]) h) : (K1 Q) .ret (Xret ) h := of_eq_txt (by kernel_rfl) H
theorem door {yield0 : Value} {t1 : Addr} {Q : VP} {h : Heap} (H :
 ∃ (t11 : OA) (t11n t11c : Nat), cellH h t1 = some (.slice t11 t11n t11c) ∧
 let t13 : Bool := decide ((t11n : Int) > 16384)
 br t13 (
 Q (.tuple #[]) h) (
 ∃ (t15 : OA) (t15n t15c : Nat), cellH h t1 = some (.slice t15 t15n t15c) ∧
 (
 ∃ (t14_1 : OA) (t14_1n t14_1c : Nat), cellH h t1 = some (.slice t14_1 t14_1n t14_1c) ∧
 hwp PP (Instr.makeSlice T_sl_int (.int .i64 (t15n : Int)) (.int .i64 (t15n : Int))) (fun v_1 h3 => ∃ (t17_1 : OA) (t17_1n t17_1c : Nat), v_1 = (.slice t17_1 t17_1n t17_1c) ∧
 let t19_1 : Addr := ⟨Array.size h3, 0, none⟩
 let h4 : Heap := Array.push h3 (.cells (([(.slice t14_1 t14_1n t14_1c)] : List Value) ++ (List.replicate 4096 (.int .i64 0) : List Value) ++ ([(.slice t17_1 t17_1n t17_1c), (.int .i64 0)] : List Value)).toArray T_match_finder (0, 0))
 J1 yield0 t1 t19_1 Q h4) h) ∧
 (
 hwp PP (Instr.makeSlice T_sl_int (.int .i64 (t15n : Int)) (.int .i64 (t15n : Int))) (fun v h1 => ∃ (t17 : OA) (t17n t17c : Nat), v = (.slice t17 t17n t17c) ∧
 ∃ (t14 : OA) (t14n t14c : Nat), cellH h1 t1 = some (.slice t14 t14n t14c) ∧
 let t19 : Addr := ⟨Array.size h1, 0, none⟩
 let h2 : Heap := Array.push h1 (.cells (([(.slice t14 t14n t14c)] : List Value) ++ (List.replicate 4096 (.int .i64 0) : List Value) ++ ([(.slice t17 t17n t17c), (.int .i64 0)] : List Value)).toArray T_match_finder (0, 0))
 J1 yield0 t1 t19 Q h2) h) ∧
 True)) : SpecH PP F_match_All_1 [yield0, (.pointer (some t1))] h Q :=
   spec_of_txt (ann := ann) Try.func26 rfl rfl (by kernel_rfl) H
end match_All_1
/-! ### (*haversack/match.finder).match: function 27 -/
namespace match_finder_match
def ann : Ann := (.seq 51 (.region [(List.range 2, 51)]) (.straight (.seq 51 (.seq 65587 (.region [(List.range 8, 65587)]) (.cond (.seq 48 (.region [(List.range 2, 48)]) (.exit 48)) .leaf)) (.seq 51 (.region [(List.range 3, 51)]) (.seq 115 (.region [(List.range 9, 115)]) (.seq 115 .leaf (.seq 48 (.seq 243 (.region [(List.range 10, 243)]) (.block (.loop 243 (.seq 243 (.seq 274877907187 (.region [(List.range 2, 274877907187)]) (.cond .leaf (.exit 48))) (.seq 243 (.block (.seq 243 (.seq 1125899906842867 (.region [(List.range 4, 1125899906842867)]) (.cond (.exit 48) .leaf)) (.seq 242 (.seq 6755399441055987 (.region [(List.range 2, 6755399441055987)]) (.block (.loop 6755399441055987 (.seq 15762598695796979 (.region [(List.range 1, 15762598695796979)]) (.seq 6755399441055987 (.cond .leaf (.exit 242)) (.seq 6755399441055987 (.block (.seq 6755399441056243 (.region [(List.range 2, 6755399441056243)]) (.seq 9444739721138731483635 (.region [(List.range 19, 9444739721138731483635)]) (.cond (.seq 243 (.seq 1208925819614629174706675 (.region [(List.range 7, 1208925819614629174706675)]) (.join (.cond (.region [(List.range 6, 243)]) .leaf))) (.exit 243)) .leaf)))) (.region [(List.range 2, 6755399441055987)]))))))) (.seq 48 (.seq 309485009821345068724781298 (.region [(List.range 3, 309485009821345068724781298)]) (.cond (.seq 48 (.region [(List.range 6, 48)]) (.exit 48)) .leaf)) (.exit 48))))) (.region [(List.range 9, 243)])))))) (.seq 48 (.region [(List.range 4, 48)]) (.exit 48)))))))))
noncomputable abbrev cd (n : Nat) : Code := sub (bodyOf Try.f27) (pth n)
abbrev an (n : Nat) : Ann := subA ann (pth n)
@[irreducible] def X0 (length4 dist5 : Int) : Fr := (mkFr 0 95 [(4, (.int .i64 length4)), (5, (.int .i64 dist5))])
@[irreducible] def X2 (i1 length4 dist5 end6 at7 : Int) : Fr := (mkFr 0 95 [(1, (.int .i64 i1)), (4, (.int .i64 length4)), (5, (.int .i64 dist5)), (6, (.int .i64 end6)), (7, (.int .i64 at7))])
@[irreducible] def Xret (length4 dist5 : Int) : Fr := (mkFr 0 95 [(4, (.int .i64 length4)), (5, (.int .i64 dist5))])
@[irreducible] def X1 (f0 : OA) (i1 length4 dist5 end6 at7 : Int) : Fr := (mkFr 0 95 [(0, (.pointer f0)), (1, (.int .i64 i1)), (4, (.int .i64 length4)), (5, (.int .i64 dist5)), (6, (.int .i64 end6)), (7, (.int .i64 at7))])
@[irreducible] def L1 (f0 : OA) (i1 length4 dist5 end6 at7 : Int) (K : EP) (h : Heap) : Prop := Lp PP true (cd 1780) (mkFr 0 95 [(0, (.pointer f0)), (1, (.int .i64 i1)), (4, (.int .i64 length4)), (5, (.int .i64 dist5)), (6, (.int .i64 end6)), (7, (.int .i64 at7))]) K h
@[irreducible] def B1 (K : EP) : EP := seqK (fun fr h => Lp PP true (cd 1780) (fr.mask 243) K h) K
@[irreducible] def K6 (Q : VP) : EP := noGotoK (bodyK PP Try.f27 Q)
@[irreducible] def K3 (Q : VP) : EP := seqK (fun fr h => ev PP true none (cd 223) (an 223) (fr.mask 48) (K6 Q) h) (K6 Q)
@[irreducible] def K1 (Q : VP) : EP := blockK 0 (K3 Q)
@[irreducible] def K9 (K : EP) : EP := seqK (fun fr h => ev PP true none (cd 7123) (an 7123) (fr.mask 243) (B1 K) h) (B1 K)
@[irreducible] def K7 (K : EP) : EP := blockK 1 (K9 K)
@[irreducible] def K4 (K : EP) : EP := seqK (fun fr h => ev PP true none (cd 56979) (an 56979) (fr.mask 242) (K7 K) h) (K7 K)
@[irreducible] def K2 (K : EP) : EP := blockK 2 (K4 K)
@[irreducible] def L2 (f0 : OA) (i1 length4 dist5 end6 at7 t51 t52 : Int) (K : EP) (h : Heap) : Prop := Lp PP true (cd 455828) (mkFr 0 95 [(0, (.pointer f0)), (1, (.int .i64 i1)), (4, (.int .i64 length4)), (5, (.int .i64 dist5)), (6, (.int .i64 end6)), (7, (.int .i64 at7)), (51, (.int .i64 t51)), (52, (.int .i64 t52))]) K h
@[irreducible] def B2 (K : EP) : EP := seqK (fun fr h => Lp PP true (cd 455828) (fr.mask 6755399441055987) K h) K
@[irreducible] def K10 (K : EP) : EP := seqK (fun fr h => ev PP true none (cd 3646631) (an 3646631) (fr.mask 6755399441055987) (B2 K) h) (B2 K)
@[irreducible] def K8 (K : EP) : EP := blockK 3 (K10 K)
@[irreducible] def K5 (K : EP) : EP := seqK (fun fr h => ev PP true none (cd 116692173) (an 116692173) (fr.mask 243) (K8 K) h) (K8 K)
@[irreducible] def J1 (f0 : OA) (i1 length4 dist5 end6 at7 xn8 : Int) (t80 : Bool) (K : EP) (h : Heap) : Prop := Jn PP true (cd 233384345) (mkFr 0 95 [(0, (.pointer f0)), (1, (.int .i64 i1)), (4, (.int .i64 length4)), (5, (.int .i64 dist5)), (6, (.int .i64 end6)), (7, (.int .i64 at7)), (8, (.int .i64 xn8)), (80, (.bool t80))]) (K5 K) h
theorem L1_of {f0 : OA} {i1 length4 dist5 end6 at7 : Int} {K : EP} {h : Heap} (H :
 let t38 : Bool := decide (at7 ≥ 0)
 br t38 (
 let t49 : Int := IntKind.i64.wrap (i1 - at7)
 let t50 : Bool := decide (t49 > 32768)
 br t50 (
 K (.exit 0) (X0 length4 dist5) h) (
 L2 f0 i1 length4 dist5 end6 at7 end6 0 (K2 K) h)) (
 K (.exit 0) (X0 length4 dist5) h)) : L1 f0 i1 length4 dist5 end6 at7 K h := by unfold L1; exact Lp.of_txt (an 1780) 243 (by kernel_rfl) H
theorem L1_X0 {Q : VP} {length4 dist5 : Int} {h : Heap} (H :
 Q (.tuple #[(.int .i64 length4), (.int .i64 dist5)]) h) : (K1 Q) (.exit 0) (X0 length4 dist5) h := of_eq_txt (by kernel_rfl) H
theorem L2_of {f0 : OA} {i1 length4 dist5 end6 at7 t51 t52 : Int} {K : EP} {h : Heap} (H :
 let t53 : Bool := decide (t52 < t51)
 br t53 (
 nilc f0 (fun t56 =>
 ∃ (t58 : OA) (t58n t58c : Nat), cellH h t56 = some (.slice t58 t58n t58c) ∧
 let t61 : Int := IntKind.i64.wrap (at7 + t52)
 hwp PP (Instr.indexAt T_sl_uint8 (.slice t58 t58n t58c) (.int .i64 t61)) (fun v h1 => ∃ (t62 : Addr), v = (.pointer (some t62)) ∧
 ∃ (t63 : Int), cellH h1 t62 = some (.int .u8 t63) ∧
 nilc f0 (fun t65 =>
 ∃ (t67 : OA) (t67n t67c : Nat), cellH h1 t65 = some (.slice t67 t67n t67c) ∧
 let t70 : Int := IntKind.i64.wrap (i1 + t52)
 hwp PP (Instr.indexAt T_sl_uint8 (.slice t67 t67n t67c) (.int .i64 t70)) (fun v_1 h2 => ∃ (t71 : Addr), v_1 = (.pointer (some t71)) ∧
 ∃ (t72 : Int), cellH h2 t71 = some (.int .u8 t72) ∧
 let t73 : Bool := (t63 != t72)
 br t73 (
 let t75 : Bool := decide (t52 ≥ 3)
 br t75 (
 let t79 : Bool := decide (t52 > length4)
 J1 f0 i1 length4 dist5 end6 at7 t52 t79 K h2) (
 J1 f0 i1 length4 dist5 end6 at7 t52 false K h2)) (
 let t85 : Int := IntKind.i64.wrap (t52 + 1)
 L2 f0 i1 length4 dist5 end6 at7 t51 t85 K h2)) h1)) h)) (
 K (.exit 2) (X2 i1 length4 dist5 end6 at7) h)) : L2 f0 i1 length4 dist5 end6 at7 t51 t52 K h := by unfold L2; exact Lp.of_txt (an 455828) 6755399441055987 (by kernel_rfl) H
theorem L2_X2 {K : EP} {i1 length4 dist5 end6 at7 : Int} {h : Heap} (H :
 let t88 : Bool := decide (end6 > length4)
 br t88 (
 let t92 : Int := IntKind.i64.wrap (i1 - at7)
 K .ret (Xret end6 t92) h) (
 K (.exit 0) (X0 length4 dist5) h)) : (K2 K) (.exit 2) (X2 i1 length4 dist5 end6 at7) h := of_eq_txt (by kernel_rfl) H
theorem J1_of {f0 : OA} {i1 length4 dist5 end6 at7 xn8 : Int} {t80 : Bool} {K : EP} {h : Heap} (H :
 br t80 (
 let t84 : Int := IntKind.i64.wrap (i1 - at7)
 K (.exit 1) (X1 f0 i1 xn8 t84 end6 at7) h) (
 K (.exit 1) (X1 f0 i1 length4 dist5 end6 at7) h)) : J1 f0 i1 length4 dist5 end6 at7 xn8 t80 K h := by unfold J1; exact Jn.of_txt (an 233384345) (by kernel_rfl) H
theorem L1_Xret {Q : VP} {length4 dist5 : Int} {h : Heap} (H :
 Q (.tuple #[(.int .i64 length4), (.int .i64 dist5)]) h) : (K1 Q) .ret (Xret length4 dist5) h := of_eq_txt (by kernel_rfl) H
theorem L2_X1 {K : EP} {f0 : OA} {i1 length4 dist5 end6 at7 : Int} {h : Heap} (H :
 nilc f0 (fun t40 =>
 ∃ (t42 : OA) (t42n t42c : Nat), cellH h (Addr.add t40 4097) = some (.slice t42 t42n t42c) ∧
 hwp PP (Instr.indexAt T_sl_int (.slice t42 t42n t42c) (.int .i64 at7)) (fun v h1 => ∃ (t44 : Addr), v = (.pointer (some t44)) ∧
 ∃ (t45 : Int), cellH h1 t44 = some (.int .i64 t45) ∧
 let t46 : Int := IntKind.i64.wrap (t45 - 1)
 L1 f0 i1 length4 dist5 end6 t46 K h1) h)) : (K2 K) (.exit 1) (X1 f0 i1 length4 dist5 end6 at7) h := of_eq_txt (by kernel_rfl) H
theorem door {f0 : OA} {i1 : Int} {Q : VP} {h : Heap} (H :
 let t10 : Int := IntKind.i64.wrap (i1 + 3)
 nilc f0 (fun t12 =>
 ∃ (t14 : OA) (t14n t14c : Nat), cellH h t12 = some (.slice t14 t14n t14c) ∧
 let t16 : Bool := decide (t10 > (t14n : Int))
 br t16 (
 Q (.tuple #[(.int .i64 0), (.int .i64 0)]) h) (
 SpecH PP F_match_finder_know [(.pointer f0), (.int .i64 i1)] h (fun v h1 => v = (.tuple #[]) ∧
 nilc f0 (fun t21 =>
 ∃ (t23 : OA) (t23n t23c : Nat), cellH h1 t21 = some (.slice t23 t23n t23c) ∧
 let t26 : Int := IntKind.i64.wrap ((t23n : Int) - i1)
 let t27 : Int := (if t26 < 258 then t26 else 258)
 SpecH PP F_match_finder_hash [(.pointer f0), (.int .i64 i1)] h1 (fun v_1 h2 => ∃ (t31 : Int), v_1 = (.int .i64 t31) ∧
 nilc f0 (fun t32 =>
 hwp PP (Instr.indexAt T_4096_int (.pointer (some (Addr.add t32 1))) (.int .i64 t31)) (fun v_2 h3 => ∃ (t34 : Addr), v_2 = (.pointer (some t34)) ∧
 ∃ (t35 : Int), cellH h3 t34 = some (.int .i64 t35) ∧
 let t36 : Int := IntKind.i64.wrap (t35 - 1)
 L1 f0 i1 0 0 t27 t36 (K1 Q) h3) h2))))))) : SpecH PP F_match_finder_match [(.pointer f0), (.int .i64 i1)] h Q :=
   spec_of_txt (ann := ann) Try.func27 rfl rfl (by kernel_rfl) H
end match_finder_match
/-! ### haversack/match.extra: function 28 -/
namespace match_extra
def ann : Ann := (.seq 3 (.region [(List.range 1, 3)]) (.seq 35 (.region [(List.range 1, 35)]) (.seq 32 (.seq 97 (.region [(List.range 2, 97)]) (.block (.loop 97 (.seq 97 (.seq 1121 (.region [(List.range 3, 1121)]) (.cond .leaf (.exit 32))) (.seq 97 (.block (.region [(List.range 3, 97)])) (.region [(List.range 3, 97)])))))) (.seq 16 (.region [(List.range 2, 16)]) (.exit 16)))))
noncomputable abbrev cd (n : Nat) : Code := sub (bodyOf Try.f28) (pth n)
abbrev an (n : Nat) : Ann := subA ann (pth n)
@[irreducible] def X0 (bits5 : Int) : Fr := (mkFr 0 16 [(5, (.int .i64 bits5))])
@[irreducible] def L1 (xn0 bits5 end6 : Int) (K : EP) (h : Heap) : Prop := Lp PP true (cd 116) (mkFr 0 16 [(0, (.int .i64 xn0)), (5, (.int .i64 bits5)), (6, (.int .i64 end6))]) K h
@[irreducible] def B1 (K : EP) : EP := seqK (fun fr h => Lp PP true (cd 116) (fr.mask 97) K h) K
@[irreducible] def K2 (Q : VP) : EP := seqK (fun fr h => ev PP true none (cd 15) (an 15) (fr.mask 32) (bodyK PP Try.f28 Q) h) (bodyK PP Try.f28 Q)
@[irreducible] def K1 (Q : VP) : EP := blockK 0 (K2 Q)
theorem L1_of {xn0 bits5 end6 : Int} {K : EP} {h : Heap} (H :
 let t10 : Bool := decide (xn0 > end6)
 br t10 (
 let t14 : Int := IntKind.i64.wrap (bits5 + 1)
 let t12 : Int := IntKind.i64.wrap (end6 * 2)
 L1 xn0 t14 t12 K h) (
 K (.exit 0) (X0 bits5) h)) : L1 xn0 bits5 end6 K h := by unfold L1; exact Lp.of_txt (an 116) 97 (by kernel_rfl) H
theorem L1_X0 {Q : VP} {bits5 : Int} {h : Heap} (H :
 Q (.int .i64 bits5) h) : (K1 Q) (.exit 0) (X0 bits5) h := of_eq_txt (by kernel_rfl) H
theorem door {xn0 first1 : Int} {Q : VP} {h : Heap} (H :
 L1 xn0 0 first1 (K1 Q) h) : SpecH PP F_match_extra [(.int .i64 xn0), (.int .i64 first1)] h Q :=
   spec_of_txt (ann := ann) Try.func28 rfl rfl (by kernel_rfl) H
end match_extra
/-! ### haversack/haversackref06.lenBits: function 29 -/
namespace ref06_lenBits
def ann : Ann := (.seq 1 (.region [(List.range 1, 1)]) (.seq 0 (.block (.seq 9 (.region [(List.range 7, 9)]) (.join (.cond (.seq 4 (.region [(List.range 1, 4)]) (.exit 4)) (.seq 1025 (.region [(List.range 3, 1025)]) (.cond (.seq 4 (.region [(List.range 1, 4)]) (.exit 4)) (.seq 8193 (.region [(List.range 3, 8193)]) (.cond (.seq 4 (.region [(List.range 1, 4)]) (.exit 4)) (.seq 65537 (.region [(List.range 3, 65537)]) (.cond (.seq 4 (.region [(List.range 1, 4)]) (.exit 4)) (.seq 524288 (.region [(List.range 3, 524288)]) (.cond (.seq 4 (.region [(List.range 1, 4)]) (.exit 4)) .leaf)))))))))))) (.seq 4 (.region [(List.range 1, 4)]) (.exit 4))))
noncomputable abbrev cd (n : Nat) : Code := sub (bodyOf Try.f29) (pth n)
abbrev an (n : Nat) : Ann := subA ann (pth n)
@[irreducible] def K2 (Q : VP) : EP := seqK (fun fr h => ev PP true none (cd 7) (an 7) (fr.mask 0) (bodyK PP Try.f29 Q) h) (bodyK PP Try.f29 Q)
@[irreducible] def K1 (Q : VP) : EP := blockK 0 (K2 Q)
@[irreducible] def J1 (xn0 : Int) (t3 : Bool) (Q : VP) (h : Heap) : Prop := Jn PP true (cd 25) (mkFr 0 22 [(0, (.int .i64 xn0)), (3, (.bool t3))]) (K1 Q) h
theorem J1_of {xn0 : Int} {t3 : Bool} {Q : VP} {h : Heap} (H :
 br t3 (
 Q (.int .i64 0) h) (
 let t12 : Bool := decide (xn0 ≤ 18)
 br t12 (
 Q (.int .i64 1) h) (
 let t15 : Bool := decide (xn0 ≤ 34)
 br t15 (
 Q (.int .i64 2) h) (
 let t18 : Bool := decide (xn0 ≤ 66)
 br t18 (
 Q (.int .i64 3) h) (
 let t21 : Bool := decide (xn0 ≤ 130)
 br t21 (
 Q (.int .i64 4) h) (
 Q (.int .i64 5) h)))))) : J1 xn0 t3 Q h := by unfold J1; exact Jn.of_txt (an 25) (by kernel_rfl) H
theorem door {xn0 : Int} {Q : VP} {h : Heap} (H :
 let t5 : Bool := decide (xn0 ≤ 10)
 br t5 (
 J1 xn0 true Q h) (
 let t8 : Bool := (xn0 == 258)
 J1 xn0 t8 Q h)) : SpecH PP F_ref06_lenBits [(.int .i64 xn0)] h Q :=
   spec_of_txt (ann := ann) Try.func29 rfl rfl (by kernel_rfl) H
end ref06_lenBits
/-! ### haversack/haversackref06.distBits: function 30 -/
namespace ref06_distBits
def ann : Ann := (.seq 1 (.region [(List.range 1, 1)]) (.seq 9 (.region [(List.range 1, 9)]) (.seq 8 (.seq 25 (.region [(List.range 1, 25)]) (.block (.loop 25 (.seq 25 (.seq 153 (.region [(List.range 3, 153)]) (.cond .leaf (.exit 8))) (.seq 25 (.block (.region [(List.range 3, 25)])) (.region [(List.range 3, 25)])))))) (.seq 4 (.region [(List.range 2, 4)]) (.exit 4)))))
noncomputable abbrev cd (n : Nat) : Code := sub (bodyOf Try.f30) (pth n)
abbrev an (n : Nat) : Ann := subA ann (pth n)
@[irreducible] def X0 (bits3 : Int) : Fr := (mkFr 0 13 [(3, (.int .i64 bits3))])
@[irreducible] def L1 (d0 bits3 most4 : Int) (K : EP) (h : Heap) : Prop := Lp PP true (cd 116) (mkFr 0 13 [(0, (.int .i64 d0)), (3, (.int .i64 bits3)), (4, (.int .i64 most4))]) K h
@[irreducible] def B1 (K : EP) : EP := seqK (fun fr h => Lp PP true (cd 116) (fr.mask 25) K h) K
@[irreducible] def K2 (Q : VP) : EP := seqK (fun fr h => ev PP true none (cd 15) (an 15) (fr.mask 8) (bodyK PP Try.f30 Q) h) (bodyK PP Try.f30 Q)
@[irreducible] def K1 (Q : VP) : EP := blockK 0 (K2 Q)
theorem L1_of {d0 bits3 most4 : Int} {K : EP} {h : Heap} (H :
 let t7 : Bool := decide (d0 > most4)
 br t7 (
 let t11 : Int := IntKind.i64.wrap (bits3 + 1)
 let t9 : Int := IntKind.i64.wrap (2 * most4)
 L1 d0 t11 t9 K h) (
 K (.exit 0) (X0 bits3) h)) : L1 d0 bits3 most4 K h := by unfold L1; exact Lp.of_txt (an 116) 25 (by kernel_rfl) H
theorem L1_X0 {Q : VP} {bits3 : Int} {h : Heap} (H :
 Q (.int .i64 bits3) h) : (K1 Q) (.exit 0) (X0 bits3) h := of_eq_txt (by kernel_rfl) H
theorem door {d0 : Int} {Q : VP} {h : Heap} (H :
 L1 d0 0 4 (K1 Q) h) : SpecH PP F_ref06_distBits [(.int .i64 d0)] h Q :=
   spec_of_txt (ann := ann) Try.func30 rfl rfl (by kernel_rfl) H
end ref06_distBits
/-! ### (*haversack/match.finder).know: function 31 -/
namespace match_finder_know
def ann : Ann := (.block (.loop 3 (.seq 3 (.seq 8388611 (.region [(List.range 19, 8388611)]) (.cond .leaf (.exit 0))) (.seq 3 (.block (.seq 19 (.region [(List.range 7, 19)]) (.seq 19 (.region [(List.range 16, 19)]) (.region [(List.range 11, 3)])))) (.region [(List.range 8, 3)])))))
noncomputable abbrev cd (n : Nat) : Code := sub (bodyOf Try.f31) (pth n)
abbrev an (n : Nat) : Ann := subA ann (pth n)
@[irreducible] def X0  : Fr := (mkFr 0 62 [])
@[irreducible] def L1 (f0 : OA) (to1 : Int) (K : EP) (h : Heap) : Prop := Lp PP true (cd 4) (mkFr 0 62 [(0, (.pointer f0)), (1, (.int .i64 to1))]) K h
@[irreducible] def B1 (K : EP) : EP := seqK (fun fr h => Lp PP true (cd 4) (fr.mask 3) K h) K
@[irreducible] def K1 (Q : VP) : EP := blockK 0 (bodyK PP Try.f31 Q)
theorem L1_of {f0 : OA} {to1 : Int} {K : EP} {h : Heap} (H :
 nilc f0 (fun t6 =>
 ∃ (t8 : Int), cellH h (Addr.add t6 4098) = some (.int .i64 t8) ∧
 let t10 : Bool := decide (t8 < to1)
 br t10 (
 nilc f0 (fun t13 =>
 ∃ (t15 : Int), cellH h (Addr.add t13 4098) = some (.int .i64 t15) ∧
 let t16 : Int := IntKind.i64.wrap (t15 + 3)
 nilc f0 (fun t18 =>
 ∃ (t20 : OA) (t20n t20c : Nat), cellH h t18 = some (.slice t20 t20n t20c) ∧
 let t22 : Bool := decide (t16 ≤ (t20n : Int))
 br t22 (
 nilc f0 (fun t33 =>
 ∃ (t35 : Int), cellH h (Addr.add t33 4098) = some (.int .i64 t35) ∧
 SpecH PP F_match_finder_hash [(.pointer f0), (.int .i64 t35)] h (fun v h1 => ∃ (t36 : Int), v = (.int .i64 t36) ∧
 nilc f0 (fun t38 =>
 ∃ (t40 : OA) (t40n t40c : Nat), cellH h1 (Addr.add t38 4097) = some (.slice t40 t40n t40c) ∧
 nilc f0 (fun t42 =>
 ∃ (t44 : Int), cellH h1 (Addr.add t42 4098) = some (.int .i64 t44) ∧
 nilc f0 (fun t47 =>
 hwp PP (Instr.indexAt T_4096_int (.pointer (some (Addr.add t47 1))) (.int .i64 t36)) (fun v_1 h2 => ∃ (t49 : Addr), v_1 = (.pointer (some t49)) ∧
 ∃ (t50 : Int), cellH h2 t49 = some (.int .i64 t50) ∧
 hwp PP (Instr.indexAt T_sl_int (.slice t40 t40n t40c) (.int .i64 t44)) (fun v_2 h3 => ∃ (t51 : Addr), v_2 = (.pointer (some t51)) ∧
 wr t51 (.int .i64 t50) (fun h4 =>
 nilc f0 (fun t55 =>
 ∃ (t57 : Int), cellH h4 (Addr.add t55 4098) = some (.int .i64 t57) ∧
 let t58 : Int := IntKind.i64.wrap (t57 + 1)
 nilc f0 (fun t59 =>
 hwp PP (Instr.indexAt T_4096_int (.pointer (some (Addr.add t59 1))) (.int .i64 t36)) (fun v_3 h5 => ∃ (t61 : Addr), v_3 = (.pointer (some t61)) ∧
 wr t61 (.int .i64 t58) (fun h6 =>
 nilc f0 (fun t25 =>
 ∃ (t27 : Int), cellH h6 (Addr.add t25 4098) = some (.int .i64 t27) ∧
 let t28 : Int := IntKind.i64.wrap (t27 + 1)
 nilc f0 (fun t29 =>
 wr (Addr.add t29 4098) (.int .i64 t28) (fun h7 =>
 L1 f0 to1 K h7) h6))) h5) h4))) h3) h2) h1)))))) (
 K (.exit 0) (X0) h)))) (
 K (.exit 0) (X0) h))) : L1 f0 to1 K h := by unfold L1; exact Lp.of_txt (an 4) 3 (by kernel_rfl) H
theorem L1_X0 {Q : VP}  {h : Heap} (H :
 Q (.tuple #[]) h) : (K1 Q) (.exit 0) (X0 ) h := of_eq_txt (by kernel_rfl) H
theorem door {f0 : OA} {to1 : Int} {Q : VP} {h : Heap} (H :
 L1 f0 to1 (K1 Q) h) : SpecH PP F_match_finder_know [(.pointer f0), (.int .i64 to1)] h Q :=
   spec_of_txt (ann := ann) Try.func31 rfl rfl (by kernel_rfl) H
end match_finder_know
/-! ### (*haversack/match.finder).hash: function 32 -/
namespace match_finder_hash
def ann : Ann := (.seq 3 (.region [(List.range 1, 3)]) (.seq 32 (.region [(List.range 9, 32)]) (.seq 16 (.region [(List.range 18, 16)]) (.exit 16))))
noncomputable abbrev cd (n : Nat) : Code := sub (bodyOf Try.f32) (pth n)
abbrev an (n : Nat) : Ann := subA ann (pth n)
theorem door {f0 : OA} {i1 : Int} {Q : VP} {h : Heap} (H :
 nilc f0 (fun t7 =>
 ∃ (t9 : OA) (t9n t9c : Nat), cellH h t7 = some (.slice t9 t9n t9c) ∧
 let t12 : Int := IntKind.i64.wrap (i1 + 3)
 hwp PP (Instr.sliceAt T_sl_uint8 (.slice t9 t9n t9c) (some (.int .i64 i1)) (some (.int .i64 t12)) none) (fun v h1 => ∃ (t13 : OA) (t13n t13c : Nat), v = (.slice t13 t13n t13c) ∧
 hwp PP (Instr.indexAt T_sl_uint8 (.slice t13 t13n t13c) (.int .i64 0)) (fun v_1 h2 => ∃ (t15 : Addr), v_1 = (.pointer (some t15)) ∧
 ∃ (t16 : Int), cellH h2 t15 = some (.int .u8 t16) ∧
 let t17 : Int := IntKind.i64.wrap t16
 let t18 : Int := sShl .i64 t17 8
 hwp PP (Instr.indexAt T_sl_uint8 (.slice t13 t13n t13c) (.int .i64 1)) (fun v_2 h3 => ∃ (t20 : Addr), v_2 = (.pointer (some t20)) ∧
 ∃ (t21 : Int), cellH h3 t20 = some (.int .u8 t21) ∧
 let t22 : Int := IntKind.i64.wrap t21
 let t23 : Int := sShl .i64 t22 4
 let t24 : Int := bXor .i64 t18 t23
 hwp PP (Instr.indexAt T_sl_uint8 (.slice t13 t13n t13c) (.int .i64 2)) (fun v_3 h4 => ∃ (t26 : Addr), v_3 = (.pointer (some t26)) ∧
 ∃ (t27 : Int), cellH h4 t26 = some (.int .u8 t27) ∧
 let t28 : Int := IntKind.i64.wrap t27
 let t29 : Int := bXor .i64 t24 t28
 let t30 : Int := bAnd .i64 t29 4095
 Q (.int .i64 t30) h4) h3) h2) h1) h)) : SpecH PP F_match_finder_hash [(.pointer f0), (.int .i64 i1)] h Q :=
   spec_of_txt (ann := ann) Try.func32 rfl rfl (by kernel_rfl) H
end match_finder_hash
end Go.Proofs.Ytaolpeimlkpkbaa
