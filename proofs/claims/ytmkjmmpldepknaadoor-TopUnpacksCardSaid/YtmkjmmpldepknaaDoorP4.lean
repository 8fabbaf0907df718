/- Texts of the proof, laid together: What the functions of this text come to, as predicates on heaps (printed by my own program out of the dump), each with its proof against the program.; The library's stable sort at packages: what stands behind it is sorted, and is what stood ahead.; The library's stable sort at packages: merging, and the whole.; Contracts of package bits.; Contracts of package huff: Check, first, turned, Codes.; Contracts of package huff: the decoder.; Contracts of the library's small functions over slices: Clone, Grow, Concat, Repeat, Max; and of math/bits.; Contract of huff.Limit: what it tells makes a whole code.; Contract of huff.Limit: the walk.; Contract of huff.Limit: rounds, the count of symbols, the whole.; Contract of huff.Limit.; Tokens: what they say (plain), and the walks of right, may, Check and Expand.; Tokens: the walks of Expand and of the document's.; Tokens: what they cost.; Matches in data, plain. -/
import Derived.Test.YtmkjmmpldepknaaDoorP1
import Derived.Test.YtmkjmmpldepknaaDoorP2
import Derived.Test.YtmkjmmpldepknaaDoorProg
import Derived.Test.YtmkjmmpldepknaaDoorP3
set_option linter.unusedVariables false
set_option linter.unusedSimpArgs false
set_option linter.unusedSectionVars false
set_option linter.unusedVariables false
set_option maxRecDepth 100000
namespace Go.Proofs.YtmkjmmpldepknaaDoor
open Go Go.HW
namespace z353
def ann : Ann := (.seq 31 (.seq 268435487 (rg 4 268435487) (.cond (.seq 1051 (rg 2 1051) (.seq 3091 (rg 2 3091) (.seq 1027 (.block (.loop 3091 (.seq 3091 (.seq 8589937683 (rg 3 8589937683) (.cond .leaf (.exit 1027))) (.block (.seq 7187 (rg 7 7187) (.seq 1125899906849811 (rg 11 1125899906849811) (.cond (rg 3 3091) (rg 2 3091)))))))) (.seq 0 (.seq 9217 (rg 2 9217) (.block (.loop 9217 (.seq 9217 (.seq 288230376151720961 (rg 4 288230376151720961) (.cond .leaf (.exit 0))) (.seq 9217 (.block (rg 18 9217)) (rg 3 9217)))))) (.exit 0))))) .leaf)) (.seq 31 (.seq 1208925819614629174706207 (rg 4 1208925819614629174706207) (.cond (.seq 16405 (rg 2 16405) (.seq 49173 (rg 2 49173) (.seq 16389 (.block (.loop 49173 (.seq 49173 (.seq 38685626227668133590646805 (rg 3 38685626227668133590646805) (.cond .leaf (.exit 16389))) (.block (.seq 114709 (rg 7 114709) (.seq 10141204801825835211973625757717 (rg 12 10141204801825835211973625757717) (.cond (rg 3 49173) (rg 2 49173)))))))) (.seq 0 (.seq 147457 (rg 2 147457) (.block (.loop 147457 (.seq 147457 (.seq 1298074214633706907132624082452481 (rg 3 1298074214633706907132624082452481) (.cond .leaf (.exit 0))) (.seq 147457 (.block (rg 18 147457)) (rg 3 147457)))))) (.exit 0))))) .leaf)) (.seq 262175 (rg 7 262175) (.seq 786463 (rg 4 786463) (.seq 786463 (rg 2 786463) (.seq 3932191 (.seq 1393796574908163946345982392040522594910239 (rg 3 1393796574908163946345982392040522594910239) (.cond (.seq 1835039 (rg 4 1835039) (rg 2 3932191)) (.seq 1835039 (rg 2 1835039) (rg 2 3932191)))) (.join (.seq 8126495 (rg 3 8126495) (.seq 1835039 (.block (.loop 8126495 (.seq 8126495 (.seq 2854495385411919762116571938898990272773619743 (rg 3 2854495385411919762116571938898990272773619743) (.cond .leaf (.exit 1835039))) (.block (.seq 16515103 (rg 7 16515103) (.seq 2993155353253689176481146537402947624255349864529951 (rg 14 2993155353253689176481146537402947624255349864529951) (.cond (rg 3 8126495) (rg 2 8126495)))))))) (.seq 18087967 (rg 4 18087967) (.seq 18087963 (.seq 49039857307708443467467104868809893875799651909893357599 (rg 8 49039857307708443467467104868809893875799651909893357599) (.join (.cond (rg 6 18087963) .leaf))) (.join (.seq 17039385 (.seq 803469022129495137770981046170581301261101496891396435738651 (rg 8 803469022129495137770981046170581301261101496891396435738651) (.join (.cond (rg 6 17039385) .leaf))) (.join (.seq 13164036458569648337239753460458804039861886925068638906805911577 (rg 8 13164036458569648337239753460458804039861886925068638906805911577) (.join (.cond (rg 6 0) .leaf)))))))))))))))))
noncomputable abbrev cd := cdF Tryd.f75
abbrev an := anF ann
@[irreducible] def X0 (y9 : OA) (y6 y7 : Nat) (a1 i10 : Int) : Fr := (mkFr 0 220 [(0, (.slice y9 y6 y7)), (1, .int .i64 a1), (10, .int .i64 i10)])
@[irreducible] def X4 (y9 : OA) (y6 y7 : Nat) (m2 i14 : Int) : Fr := (mkFr 0 220 [(0, (.slice y9 y6 y7)), (2, .int .i64 m2), (14, .int .i64 i14)])
@[irreducible] def X2  : Fr := (mkFr 0 220 [])
@[irreducible] def X6  : Fr := (mkFr 0 220 [])
@[irreducible] def X8 (y9 : OA) (y6 y7 : Nat) (a1 m2 b3 : Int) (cmp4 : Value) (y56 xn19 y43 : Int) : Fr := (mkFr 0 220 [(0, (.slice y9 y6 y7)), (1, .int .i64 a1), (2, .int .i64 m2), (3, .int .i64 b3), (4, cmp4), (18, .int .i64 y56), (19, .int .i64 xn19), (20, .int .i64 y43)])
@[irreducible] def L1 (y9 : OA) (y6 y7 : Nat) (a1 : Int) (cmp4 : Value) (i10 j11 : Int) (K : EP) (h : Heap) : Prop := Lp PP true (cd 344) (mkFr 0 220 [(0, (.slice y9 y6 y7)), (1, .int .i64 a1), (4, cmp4), (10, .int .i64 i10), (11, .int .i64 j11)]) K h
@[irreducible] def L2 (y9 : OA) (y6 y7 : Nat) (m2 : Int) (cmp4 : Value) (i14 j15 : Int) (K : EP) (h : Heap) : Prop := Lp PP true (cd 856) (mkFr 0 220 [(0, (.slice y9 y6 y7)), (2, .int .i64 m2), (4, cmp4), (14, .int .i64 i14), (15, .int .i64 j15)]) K h
@[irreducible] def J1 (y9 : OA) (y6 y7 : Nat) (a1 m2 b3 : Int) (cmp4 : Value) (y56 xn19 y43 r21 : Int) (Q : VP) (h : Heap) : Prop := Jn PP true (cd 127) (mkFr 0 220 [(0, (.slice y9 y6 y7)), (1, .int .i64 a1), (2, .int .i64 m2), (3, .int .i64 b3), (4, cmp4), (18, .int .i64 y56), (19, .int .i64 xn19), (20, .int .i64 y43), (21, .int .i64 r21)]) (bodyK PP Tryd.f75 Q) h
@[irreducible] def K12 (Q : VP) : EP := seqK (fun fr h => ev PP true none (cd 3) (an 3) (fr.mask 31) (bodyK PP Tryd.f75 Q) h) (bodyK PP Tryd.f75 Q)
@[irreducible] def K6 (Q : VP) : EP := seqK (fun fr h => ev PP true none (cd 87) (an 87) (fr.mask 1027) (K12 Q) h) (K12 Q)
@[irreducible] def K1 (Q : VP) : EP := blockK 0 (K6 Q)
@[irreducible] def K13 (Q : VP) : EP := seqK (fun fr h => ev PP true none (cd 7) (an 7) (fr.mask 31) (bodyK PP Tryd.f75 Q) h) (bodyK PP Tryd.f75 Q)
@[irreducible] def K7 (Q : VP) : EP := seqK (fun fr h => ev PP true none (cd 215) (an 215) (fr.mask 16389) (K13 Q) h) (K13 Q)
@[irreducible] def K2 (Q : VP) : EP := blockK 4 (K7 Q)
@[irreducible] def K8 (Q : VP) : EP := seqK (fun fr h => ev PP true none (cd 175) (an 175) (fr.mask 0) (K12 Q) h) (K12 Q)
@[irreducible] def K3 (Q : VP) : EP := blockK 2 (K8 Q)
@[irreducible] def K9 (Q : VP) : EP := seqK (fun fr h => ev PP true none (cd 431) (an 431) (fr.mask 0) (K13 Q) h) (K13 Q)
@[irreducible] def K4 (Q : VP) : EP := blockK 6 (K9 Q)
@[irreducible] def K10 (Q : VP) : EP := seqK (fun fr h => ev PP true none (cd 511) (an 511) (fr.mask 1835039) (bodyK PP Tryd.f75 Q) h) (bodyK PP Tryd.f75 Q)
@[irreducible] def K5 (Q : VP) : EP := blockK 8 (K10 Q)
@[irreducible] def L3 (y9 : OA) (y6 y7 : Nat) (i10 k13 : Int) (K : EP) (h : Heap) : Prop := Lp PP true (cd 1396) (mkFr 0 220 [(0, (.slice y9 y6 y7)), (10, .int .i64 i10), (13, .int .i64 k13)]) K h
@[irreducible] def L4 (y9 : OA) (y6 y7 : Nat) (i14 k17 : Int) (K : EP) (h : Heap) : Prop := Lp PP true (cd 3444) (mkFr 0 220 [(0, (.slice y9 y6 y7)), (14, .int .i64 i14), (17, .int .i64 k17)]) K h
@[irreducible] def L5 (y9 : OA) (y6 y7 : Nat) (a1 m2 b3 : Int) (cmp4 : Value) (y56 xn19 y43 r21 p22 : Int) (K : EP) (h : Heap) : Prop := Lp PP true (cd 2040) (mkFr 0 220 [(0, (.slice y9 y6 y7)), (1, .int .i64 a1), (2, .int .i64 m2), (3, .int .i64 b3), (4, cmp4), (18, .int .i64 y56), (19, .int .i64 xn19), (20, .int .i64 y43), (21, .int .i64 r21), (22, .int .i64 p22)]) K h
@[irreducible] def K11 (Q : VP) : EP := seqK (fun fr h => Jn PP true (cd 2047) (fr.mask 18087963) (bodyK PP Tryd.f75 Q) h) (bodyK PP Tryd.f75 Q)
@[irreducible] def J2 (y9 : OA) (y6 y7 : Nat) (a1 m2 b3 : Int) (cmp4 : Value) (y56 y43 end24 : Int) (t185 : Bool) (Q : VP) (h : Heap) : Prop := Jn PP true (cd 4093) (mkFr 0 220 [(0, (.slice y9 y6 y7)), (1, .int .i64 a1), (2, .int .i64 m2), (3, .int .i64 b3), (4, cmp4), (18, .int .i64 y56), (20, .int .i64 y43), (24, .int .i64 end24), (185, .bool t185)]) (K11 Q) h
@[irreducible] def J3 (y9 : OA) (y6 y7 : Nat) (a1 b3 : Int) (cmp4 : Value) (y56 y43 end24 : Int) (Q : VP) (h : Heap) : Prop := Jn PP true (cd 2047) (mkFr 0 220 [(0, (.slice y9 y6 y7)), (1, .int .i64 a1), (3, .int .i64 b3), (4, cmp4), (18, .int .i64 y56), (20, .int .i64 y43), (24, .int .i64 end24)]) (bodyK PP Tryd.f75 Q) h
@[irreducible] def K14 (Q : VP) : EP := seqK (fun fr h => Jn PP true (cd 4095) (fr.mask 17039385) (bodyK PP Tryd.f75 Q) h) (bodyK PP Tryd.f75 Q)
@[irreducible] def J4 (y9 : OA) (y6 y7 : Nat) (a1 b3 : Int) (cmp4 : Value) (y56 y43 end24 : Int) (t199 : Bool) (Q : VP) (h : Heap) : Prop := Jn PP true (cd 8189) (mkFr 0 220 [(0, (.slice y9 y6 y7)), (1, .int .i64 a1), (3, .int .i64 b3), (4, cmp4), (18, .int .i64 y56), (20, .int .i64 y43), (24, .int .i64 end24), (199, .bool t199)]) (K14 Q) h
@[irreducible] def J5 (y9 : OA) (y6 y7 : Nat) (b3 : Int) (cmp4 : Value) (y56 end24 : Int) (Q : VP) (h : Heap) : Prop := Jn PP true (cd 4095) (mkFr 0 220 [(0, (.slice y9 y6 y7)), (3, .int .i64 b3), (4, cmp4), (18, .int .i64 y56), (24, .int .i64 end24)]) (bodyK PP Tryd.f75 Q) h
@[irreducible] def J6 (y9 : OA) (y6 y7 : Nat) (b3 : Int) (cmp4 : Value) (y56 end24 : Int) (t213 : Bool) (Q : VP) (h : Heap) : Prop := Jn PP true (cd 8191) (mkFr 0 220 [(0, (.slice y9 y6 y7)), (3, .int .i64 b3), (4, cmp4), (18, .int .i64 y56), (24, .int .i64 end24), (213, .bool t213)]) (bodyK PP Tryd.f75 Q) h
theorem L1_of {y9 : OA} {y6 y7 : Nat} {a1 : Int} {cmp4 : Value} {i10 j11 : Int} {K : EP} {h : Heap} (H :
let t33 : Bool := decide (i10 < j11)
br t33 (
let t36 : Int := IntKind.i64.wrap (i10 + j11)
let t37 : Int := IntKind.u64.wrap t36
let t38 : Int := sShr .u64 t37 1
let t39 : Int := IntKind.i64.wrap t38
hwp PP (Instr.indexAt y11 (.slice y9 y6 y7) (.int .i64 t39)) (fun v h1 => ∃ (t43 : Addr), v = (.pointer (some t43)) ∧
∃ (t44f0 : Int) (t44f1 : OA) (t44f1n t44f1c : Nat), rdCells h1 t43 0 [.int .i64 t44f0, (.slice t44f1 t44f1n t44f1c)] ∧
hwp PP (Instr.indexAt y11 (.slice y9 y6 y7) (.int .i64 a1)) (fun v_1 h2 => ∃ (t47 : Addr), v_1 = (.pointer (some t47)) ∧
∃ (t48f0 : Int) (t48f1 : OA) (t48f1n t48f1c : Nat), rdCells h2 t47 0 [.int .i64 t48f0, (.slice t48f1 t48f1n t48f1c)] ∧
callV PP cmp4 [(.agg #[.int .i64 t44f0, (.slice t44f1 t44f1n t44f1c)]), (.agg #[.int .i64 t48f0, (.slice t48f1 t48f1n t48f1c)])] (fun v_2 h3 => ∃ (t49 : Int), v_2 = (.int .i64 t49) ∧
let t50 : Bool := decide (t49 < 0)
br t50 (
let t52 : Int := IntKind.i64.wrap (t39 + 1)
L1 y9 y6 y7 a1 cmp4 t52 j11 K h3) (
L1 y9 y6 y7 a1 cmp4 i10 t39 K h3)) h2) h1) h) (
K (.exit 0) (X0 y9 y6 y7 a1 i10) h)) : L1 y9 y6 y7 a1 cmp4 i10 j11 K h := by unfold L1; exact Lp.of_txt (an 344) 3091 (by kernel_rfl) H
theorem L1_X0 {Q : VP} {y9 : OA} {y6 y7 : Nat} {a1 i10 : Int} {h : Heap} (H :
L3 y9 y6 y7 i10 a1 (K3 Q) h) : (K1 Q) (.exit 0) (X0 y9 y6 y7 a1 i10) h := y19 (by kernel_rfl) H
theorem L2_of {y9 : OA} {y6 y7 : Nat} {m2 : Int} {cmp4 : Value} {i14 j15 : Int} {K : EP} {h : Heap} (H :
let t85 : Bool := decide (i14 < j15)
br t85 (
let t88 : Int := IntKind.i64.wrap (i14 + j15)
let t89 : Int := IntKind.u64.wrap t88
let t90 : Int := sShr .u64 t89 1
let t91 : Int := IntKind.i64.wrap t90
hwp PP (Instr.indexAt y11 (.slice y9 y6 y7) (.int .i64 m2)) (fun v h1 => ∃ (t95 : Addr), v = (.pointer (some t95)) ∧
∃ (t96f0 : Int) (t96f1 : OA) (t96f1n t96f1c : Nat), rdCells h1 t95 0 [.int .i64 t96f0, (.slice t96f1 t96f1n t96f1c)] ∧
hwp PP (Instr.indexAt y11 (.slice y9 y6 y7) (.int .i64 t91)) (fun v_1 h2 => ∃ (t99 : Addr), v_1 = (.pointer (some t99)) ∧
∃ (t100f0 : Int) (t100f1 : OA) (t100f1n t100f1c : Nat), rdCells h2 t99 0 [.int .i64 t100f0, (.slice t100f1 t100f1n t100f1c)] ∧
callV PP cmp4 [(.agg #[.int .i64 t96f0, (.slice t96f1 t96f1n t96f1c)]), (.agg #[.int .i64 t100f0, (.slice t100f1 t100f1n t100f1c)])] (fun v_2 h3 => ∃ (t101 : Int), v_2 = (.int .i64 t101) ∧
let t102 : Bool := decide (t101 < 0)
let t103 : Bool := (!t102)
br t103 (
let t105 : Int := IntKind.i64.wrap (t91 + 1)
L2 y9 y6 y7 m2 cmp4 t105 j15 K h3) (
L2 y9 y6 y7 m2 cmp4 i14 t91 K h3)) h2) h1) h) (
K (.exit 4) (X4 y9 y6 y7 m2 i14) h)) : L2 y9 y6 y7 m2 cmp4 i14 j15 K h := by unfold L2; exact Lp.of_txt (an 856) 49173 (by kernel_rfl) H
theorem L2_X4 {Q : VP} {y9 : OA} {y6 y7 : Nat} {m2 i14 : Int} {h : Heap} (H :
L4 y9 y6 y7 i14 m2 (K4 Q) h) : (K2 Q) (.exit 4) (X4 y9 y6 y7 m2 i14) h := y19 (by kernel_rfl) H
theorem J1_of {y9 : OA} {y6 y7 : Nat} {a1 m2 b3 : Int} {cmp4 : Value} {y56 xn19 y43 r21 : Int} {Q : VP} {h : Heap} (H :
let t148 : Int := IntKind.i64.wrap (xn19 - 1)
L5 y9 y6 y7 a1 m2 b3 cmp4 y56 xn19 y43 r21 t148 (K5 Q) h) : J1 y9 y6 y7 a1 m2 b3 cmp4 y56 xn19 y43 r21 Q h := by unfold J1; exact Jn.of_txt (an 127) (by kernel_rfl) H
theorem L3_of {y9 : OA} {y6 y7 : Nat} {i10 k13 : Int} {K : EP} {h : Heap} (H :
let t57 : Int := IntKind.i64.wrap (i10 - 1)
let t58 : Bool := decide (k13 < t57)
br t58 (
let t65 : Int := IntKind.i64.wrap (k13 + 1)
let t68 : Int := IntKind.i64.wrap (k13 + 1)
hwp PP (Instr.indexAt y11 (.slice y9 y6 y7) (.int .i64 t68)) (fun v h1 => ∃ (t69 : Addr), v = (.pointer (some t69)) ∧
∃ (t70f0 : Int) (t70f1 : OA) (t70f1n t70f1c : Nat), rdCells h1 t69 0 [.int .i64 t70f0, (.slice t70f1 t70f1n t70f1c)] ∧
hwp PP (Instr.indexAt y11 (.slice y9 y6 y7) (.int .i64 k13)) (fun v_1 h2 => ∃ (t73 : Addr), v_1 = (.pointer (some t73)) ∧
∃ (t74f0 : Int) (t74f1 : OA) (t74f1n t74f1c : Nat), rdCells h2 t73 0 [.int .i64 t74f0, (.slice t74f1 t74f1n t74f1c)] ∧
hwp PP (Instr.indexAt y11 (.slice y9 y6 y7) (.int .i64 k13)) (fun v_2 h3 => ∃ (t75 : Addr), v_2 = (.pointer (some t75)) ∧
wrCells t75 0 [.int .i64 t70f0, (.slice t70f1 t70f1n t70f1c)] (fun h4 =>
hwp PP (Instr.indexAt y11 (.slice y9 y6 y7) (.int .i64 t65)) (fun v_3 h5 => ∃ (t76 : Addr), v_3 = (.pointer (some t76)) ∧
wrCells t76 0 [.int .i64 t74f0, (.slice t74f1 t74f1n t74f1c)] (fun h6 =>
let t60 : Int := IntKind.i64.wrap (k13 + 1)
L3 y9 y6 y7 i10 t60 K h6) h5) h4) h3) h2) h1) h) (
K (.exit 2) (X2) h)) : L3 y9 y6 y7 i10 k13 K h := by unfold L3; exact Lp.of_txt (an 1396) 9217 (by kernel_rfl) H
theorem L3_X2 {Q : VP}  {h : Heap} (H :
Q (.tuple #[]) h) : (K3 Q) (.exit 2) (X2 ) h := y19 (by kernel_rfl) H
theorem L4_of {y9 : OA} {y6 y7 : Nat} {i14 k17 : Int} {K : EP} {h : Heap} (H :
let t110 : Bool := decide (k17 > i14)
br t110 (
let t117 : Int := IntKind.i64.wrap (k17 - 1)
let t120 : Int := IntKind.i64.wrap (k17 - 1)
hwp PP (Instr.indexAt y11 (.slice y9 y6 y7) (.int .i64 t120)) (fun v h1 => ∃ (t121 : Addr), v = (.pointer (some t121)) ∧
∃ (t122f0 : Int) (t122f1 : OA) (t122f1n t122f1c : Nat), rdCells h1 t121 0 [.int .i64 t122f0, (.slice t122f1 t122f1n t122f1c)] ∧
hwp PP (Instr.indexAt y11 (.slice y9 y6 y7) (.int .i64 k17)) (fun v_1 h2 => ∃ (t125 : Addr), v_1 = (.pointer (some t125)) ∧
∃ (t126f0 : Int) (t126f1 : OA) (t126f1n t126f1c : Nat), rdCells h2 t125 0 [.int .i64 t126f0, (.slice t126f1 t126f1n t126f1c)] ∧
hwp PP (Instr.indexAt y11 (.slice y9 y6 y7) (.int .i64 k17)) (fun v_2 h3 => ∃ (t127 : Addr), v_2 = (.pointer (some t127)) ∧
wrCells t127 0 [.int .i64 t122f0, (.slice t122f1 t122f1n t122f1c)] (fun h4 =>
hwp PP (Instr.indexAt y11 (.slice y9 y6 y7) (.int .i64 t117)) (fun v_3 h5 => ∃ (t128 : Addr), v_3 = (.pointer (some t128)) ∧
wrCells t128 0 [.int .i64 t126f0, (.slice t126f1 t126f1n t126f1c)] (fun h6 =>
let t112 : Int := IntKind.i64.wrap (k17 - 1)
L4 y9 y6 y7 i14 t112 K h6) h5) h4) h3) h2) h1) h) (
K (.exit 6) (X6) h)) : L4 y9 y6 y7 i14 k17 K h := by unfold L4; exact Lp.of_txt (an 3444) 147457 (by kernel_rfl) H
theorem L4_X6 {Q : VP}  {h : Heap} (H :
Q (.tuple #[]) h) : (K4 Q) (.exit 6) (X6 ) h := y19 (by kernel_rfl) H
theorem L5_of {y9 : OA} {y6 y7 : Nat} {a1 m2 b3 : Int} {cmp4 : Value} {y56 xn19 y43 r21 p22 : Int} {K : EP} {h : Heap} (H :
let t151 : Bool := decide (y43 < r21)
br t151 (
let t154 : Int := IntKind.i64.wrap (y43 + r21)
let t155 : Int := IntKind.u64.wrap t154
let t156 : Int := sShr .u64 t155 1
let t157 : Int := IntKind.i64.wrap t156
let t162 : Int := IntKind.i64.wrap (p22 - t157)
hwp PP (Instr.indexAt y11 (.slice y9 y6 y7) (.int .i64 t162)) (fun v h1 => ∃ (t163 : Addr), v = (.pointer (some t163)) ∧
∃ (t164f0 : Int) (t164f1 : OA) (t164f1n t164f1c : Nat), rdCells h1 t163 0 [.int .i64 t164f0, (.slice t164f1 t164f1n t164f1c)] ∧
hwp PP (Instr.indexAt y11 (.slice y9 y6 y7) (.int .i64 t157)) (fun v_1 h2 => ∃ (t167 : Addr), v_1 = (.pointer (some t167)) ∧
∃ (t168f0 : Int) (t168f1 : OA) (t168f1n t168f1c : Nat), rdCells h2 t167 0 [.int .i64 t168f0, (.slice t168f1 t168f1n t168f1c)] ∧
callV PP cmp4 [(.agg #[.int .i64 t164f0, (.slice t164f1 t164f1n t164f1c)]), (.agg #[.int .i64 t168f0, (.slice t168f1 t168f1n t168f1c)])] (fun v_2 h3 => ∃ (t169 : Int), v_2 = (.int .i64 t169) ∧
let t170 : Bool := decide (t169 < 0)
let t171 : Bool := (!t170)
br t171 (
let t173 : Int := IntKind.i64.wrap (t157 + 1)
L5 y9 y6 y7 a1 m2 b3 cmp4 y56 xn19 t173 r21 p22 K h3) (
L5 y9 y6 y7 a1 m2 b3 cmp4 y56 xn19 y43 t157 p22 K h3)) h2) h1) h) (
K (.exit 8) (X8 y9 y6 y7 a1 m2 b3 cmp4 y56 xn19 y43) h)) : L5 y9 y6 y7 a1 m2 b3 cmp4 y56 xn19 y43 r21 p22 K h := by unfold L5; exact Lp.of_txt (an 2040) 8126495 (by kernel_rfl) H
theorem L5_X8 {Q : VP} {y9 : OA} {y6 y7 : Nat} {a1 m2 b3 : Int} {cmp4 : Value} {y56 xn19 y43 : Int} {h : Heap} (H :
let t177 : Int := IntKind.i64.wrap (xn19 - y43)
let t180 : Bool := decide (y43 < m2)
br t180 (
let t184 : Bool := decide (m2 < t177)
J2 y9 y6 y7 a1 m2 b3 cmp4 y56 y43 t177 t184 Q h) (
J2 y9 y6 y7 a1 m2 b3 cmp4 y56 y43 t177 false Q h)) : (K5 Q) (.exit 8) (X8 y9 y6 y7 a1 m2 b3 cmp4 y56 xn19 y43) h := y19 (by kernel_rfl) H
theorem J2_of {y9 : OA} {y6 y7 : Nat} {a1 m2 b3 : Int} {cmp4 : Value} {y56 y43 end24 : Int} {t185 : Bool} {Q : VP} {h : Heap} (H :
br t185 (
SpecH PP z348 [(.slice y9 y6 y7), .int .i64 y43, .int .i64 m2, .int .i64 end24, cmp4] h (fun v h1 => v = (.tuple #[]) ∧
J3 y9 y6 y7 a1 b3 cmp4 y56 y43 end24 Q h1)) (
J3 y9 y6 y7 a1 b3 cmp4 y56 y43 end24 Q h)) : J2 y9 y6 y7 a1 m2 b3 cmp4 y56 y43 end24 t185 Q h := by unfold J2; exact Jn.of_txt (an 4093) (by kernel_rfl) H
theorem J3_of {y9 : OA} {y6 y7 : Nat} {a1 b3 : Int} {cmp4 : Value} {y56 y43 end24 : Int} {Q : VP} {h : Heap} (H :
let t194 : Bool := decide (a1 < y43)
br t194 (
let t198 : Bool := decide (y43 < y56)
J4 y9 y6 y7 a1 b3 cmp4 y56 y43 end24 t198 Q h) (
J4 y9 y6 y7 a1 b3 cmp4 y56 y43 end24 false Q h)) : J3 y9 y6 y7 a1 b3 cmp4 y56 y43 end24 Q h := by unfold J3; exact Jn.of_txt (an 2047) (by kernel_rfl) H
theorem J4_of {y9 : OA} {y6 y7 : Nat} {a1 b3 : Int} {cmp4 : Value} {y56 y43 end24 : Int} {t199 : Bool} {Q : VP} {h : Heap} (H :
br t199 (
SpecH PP z354 [(.slice y9 y6 y7), .int .i64 a1, .int .i64 y43, .int .i64 y56, cmp4] h (fun v h1 => v = (.tuple #[]) ∧
J5 y9 y6 y7 b3 cmp4 y56 end24 Q h1)) (
J5 y9 y6 y7 b3 cmp4 y56 end24 Q h)) : J4 y9 y6 y7 a1 b3 cmp4 y56 y43 end24 t199 Q h := by unfold J4; exact Jn.of_txt (an 8189) (by kernel_rfl) H
theorem J5_of {y9 : OA} {y6 y7 : Nat} {b3 : Int} {cmp4 : Value} {y56 end24 : Int} {Q : VP} {h : Heap} (H :
let t208 : Bool := decide (y56 < end24)
br t208 (
let t212 : Bool := decide (end24 < b3)
J6 y9 y6 y7 b3 cmp4 y56 end24 t212 Q h) (
J6 y9 y6 y7 b3 cmp4 y56 end24 false Q h)) : J5 y9 y6 y7 b3 cmp4 y56 end24 Q h := by unfold J5; exact Jn.of_txt (an 4095) (by kernel_rfl) H
theorem J6_of {y9 : OA} {y6 y7 : Nat} {b3 : Int} {cmp4 : Value} {y56 end24 : Int} {t213 : Bool} {Q : VP} {h : Heap} (H :
br t213 (
SpecH PP z354 [(.slice y9 y6 y7), .int .i64 y56, .int .i64 end24, .int .i64 b3, cmp4] h (fun v h1 => v = (.tuple #[]) ∧
Q (.tuple #[]) h1)) (
Q (.tuple #[]) h)) : J6 y9 y6 y7 b3 cmp4 y56 end24 t213 Q h := by unfold J6; exact Jn.of_txt (an 8191) (by kernel_rfl) H
theorem door {y9 : OA} {y6 y7 : Nat} {a1 m2 b3 : Int} {cmp4 : Value} {Q : VP} {h : Heap} (H :
let t27 : Int := IntKind.i64.wrap (m2 - a1)
let t28 : Bool := (t27 == 1)
br t28 (
L1 y9 y6 y7 a1 cmp4 m2 b3 (K1 Q) h) (
let t79 : Int := IntKind.i64.wrap (b3 - m2)
let t80 : Bool := (t79 == 1)
br t80 (
L2 y9 y6 y7 m2 cmp4 a1 m2 (K2 Q) h) (
let t131 : Int := IntKind.i64.wrap (a1 + b3)
let t132 : Int := IntKind.u64.wrap t131
let t133 : Int := sShr .u64 t132 1
let t134 : Int := IntKind.i64.wrap t133
let t137 : Int := IntKind.i64.wrap (t134 + m2)
let t140 : Bool := decide (m2 > t134)
br t140 (
let t143 : Int := IntKind.i64.wrap (t137 - b3)
J1 y9 y6 y7 a1 m2 b3 cmp4 t134 t137 t143 t134 Q h) (
J1 y9 y6 y7 a1 m2 b3 cmp4 t134 t137 a1 m2 Q h)))) : SpecH PP z354 [(.slice y9 y6 y7), .int .i64 a1, .int .i64 m2, .int .i64 b3, cmp4] h Q :=
  y12 (ann := ann) Tryd.func75 rfl rfl (by kernel_rfl) H
end z353
namespace z337
def ann : Ann := (.seq 3 (rg 1 3) (.seq 0 (.seq 387 (rg 3 387) (.block (.loop 387 (.seq 899 (rg 1 899) (.seq 387 (.cond .leaf (.exit 0)) (.seq 387 (.block (.seq 419 (rg 2 419) (.seq 65955 (rg 6 65955) (.cond (.seq 16 (rg 2 16) (.exit 16)) .leaf)))) (rg 2 387))))))) (.seq 16 (rg 1 16) (.exit 16))))
noncomputable abbrev cd := cdF Tryd.f76
abbrev an := anF ann
@[irreducible] def Xret (t4 : Int) : Fr := (mkFr 0 19 [(4, .int .i64 t4)])
@[irreducible] def X0  : Fr := (mkFr 0 19 [])
@[irreducible] def L1 (s0 : OA) (s0n s0c : Nat) (f1 : Value) (t7 t8 : Int) (K : EP) (h : Heap) : Prop := Lp PP true (cd 52) (mkFr 0 19 [(0, (.slice s0 s0n s0c)), (1, f1), (7, .int .i64 t7), (8, .int .i64 t8)]) K h
@[irreducible] def K2 (Q : VP) : EP := seqK (fun fr h => ev PP true none (cd 7) (an 7) (fr.mask 0) (bodyK PP Tryd.f76 Q) h) (bodyK PP Tryd.f76 Q)
@[irreducible] def K1 (Q : VP) : EP := blockK 0 (K2 Q)
theorem L1_of {s0 : OA} {s0n s0c : Nat} {f1 : Value} {t7 t8 : Int} {K : EP} {h : Heap} (H :
let t9 : Bool := decide (t8 < t7)
br t9 (
hwp PP (Instr.indexAt y14 (.slice s0 s0n s0c) (.int .i64 t8)) (fun v h1 => ∃ (t14 : Addr), v = (.pointer (some t14)) ∧
∃ (t15 : Int), cellH h1 t14 = some (.int .i64 t15) ∧
callV PP f1 [.int .i64 t15] (fun v_1 h2 => ∃ (t16 : Bool), v_1 = (.bool t16) ∧
br t16 (
K .ret (Xret t8) h2) (
let t18 : Int := IntKind.i64.wrap (t8 + 1)
L1 s0 s0n s0c f1 t7 t18 K h2)) h1) h) (
K (.exit 0) (X0) h)) : L1 s0 s0n s0c f1 t7 t8 K h := by unfold L1; exact Lp.of_txt (an 52) 387 (by kernel_rfl) H
theorem L1_X0 {Q : VP}  {h : Heap} (H :
Q (.int .i64 (-1)) h) : (K1 Q) (.exit 0) (X0 ) h := y19 (by kernel_rfl) H
theorem door {s0 : OA} {s0n s0c : Nat} {f1 : Value} {Q : VP} {h : Heap} (H :
L1 s0 s0n s0c f1 (s0n : Int) 0 (K1 Q) h) : SpecH PP z338 [(.slice s0 s0n s0c), f1] h Q :=
  y12 (ann := ann) Tryd.func76 rfl rfl (by kernel_rfl) H
end z337
namespace z193
def ann : Ann := (.seq 3 (rg 2 3) (.seq 3 (.block (.seq 1027 (rg 3 1027) (.cond (.seq 48 (rg 2 48) (.exit 48)) (.seq 8195 (rg 7 8195) (.join (.cond (.seq 48 (rg 2 48) (.exit 48)) (.seq 1048579 (rg 5 1048579) (.cond (.seq 48 (rg 2 48) (.exit 48)) .leaf)))))))) (.seq 67 (rg 1 67) (.seq 64 (.seq 195 (rg 1 195) (.block (.loop 195 (.seq 195 (.seq 134217923 (rg 3 134217923) (.cond .leaf (.exit 64))) (.block (.seq 451 (rg 11 451) (.seq 963 (rg 22 963) (.seq 451 (rg 7 451) (.seq 451 (rg 4 451) (rg 9 195)))))))))) (.seq 48 (rg 4 48) (.exit 48))))))
noncomputable abbrev cd := cdF Tryd.f77
abbrev an := anF ann
@[irreducible] def X1 (v6 : Int) : Fr := (mkFr 0 78 [(6, .int .u64 v6)])
@[irreducible] def K3 (Q : VP) : EP := seqK (fun fr h => ev PP true none (cd 7) (an 7) (fr.mask 3) (bodyK PP Tryd.f77 Q) h) (bodyK PP Tryd.f77 Q)
@[irreducible] def K1 (Q : VP) : EP := blockK 0 (K3 Q)
@[irreducible] def J1 (r0 : OA) (xn1 : Int) (t13 : Bool) (Q : VP) (h : Heap) : Prop := Jn PP true (cd 103) (mkFr 0 78 [(0, .pointer r0), (1, .int .i64 xn1), (13, .bool t13)]) (K1 Q) h
@[irreducible] def K4 (Q : VP) : EP := seqK (fun fr h => ev PP true none (cd 31) (an 31) (fr.mask 64) (bodyK PP Tryd.f77 Q) h) (bodyK PP Tryd.f77 Q)
@[irreducible] def K2 (Q : VP) : EP := blockK 1 (K4 Q)
@[irreducible] def L1 (r0 : OA) (xn1 v6 have7 : Int) (K : EP) (h : Heap) : Prop := Lp PP true (cd 244) (mkFr 0 78 [(0, .pointer r0), (1, .int .i64 xn1), (6, .int .u64 v6), (7, .int .i64 have7)]) K h
theorem J1_of {r0 : OA} {xn1 : Int} {t13 : Bool} {Q : VP} {h : Heap} (H :
br t13 (
Q (.tuple #[.int .u32 0, .int .i64 1]) h) (
SpecH PP z190 [.pointer r0] h (fun v h1 => ∃ (t23 : Int), v = (.int .i64 t23) ∧
let t24 : Bool := decide (xn1 > t23)
br t24 (
Q (.tuple #[.int .u32 0, .int .i64 10]) h1) (
L1 r0 xn1 0 0 (K2 Q) h1)))) : J1 r0 xn1 t13 Q h := by unfold J1; exact Jn.of_txt (an 103) (by kernel_rfl) H
theorem L1_of {r0 : OA} {xn1 v6 have7 : Int} {K : EP} {h : Heap} (H :
let t27 : Bool := decide (have7 < xn1)
br t27 (
let t30 : Int := IntKind.i64.wrap (xn1 - have7)
nilc r0 (fun t32 =>
∃ (t34 : Int), cellH h (Addr.add t32 1) = some (.int .i64 t34) ∧
let t35 : Int := Int.tmod t34 8
let t36 : Int := IntKind.i64.wrap (8 - t35)
let t37 : Int := (if t36 < t30 then t36 else t30)
nilc r0 (fun t39 =>
∃ (t41 : OA) (t41n t41c : Nat), cellH h t39 = some (.slice t41 t41n t41c) ∧
nilc r0 (fun t43 =>
∃ (t45 : Int), cellH h (Addr.add t43 1) = some (.int .i64 t45) ∧
let t46 : Int := IntKind.i64.wrap (Int.tdiv t45 8)
hwp PP (Instr.indexAt y13 (.slice t41 t41n t41c) (.int .i64 t46)) (fun v h1 => ∃ (t47 : Addr), v = (.pointer (some t47)) ∧
∃ (t48 : Int), cellH h1 t47 = some (.int .u8 t48) ∧
nilc r0 (fun t50 =>
∃ (t52 : Int), cellH h1 (Addr.add t50 1) = some (.int .i64 t52) ∧
let t53 : Int := Int.tmod t52 8
br (decide (0 ≤ t53)) (
let t54 : Int := sShr .u8 t48 t53
br (decide (0 ≤ t37)) (
let t56 : Int := sShl .u8 1 t37
let t57 : Int := IntKind.u8.wrap (t56 - 1)
let t58 : Int := bAnd .u8 t54 t57
let t61 : Int := IntKind.u64.wrap t58
br (decide (0 ≤ have7)) (
let t63 : Int := sShl .u64 t61 have7
let t64 : Int := bOr .u64 v6 t63
let t67 : Int := IntKind.i64.wrap (have7 + t37)
nilc r0 (fun t69 =>
∃ (t71 : Int), cellH h1 (Addr.add t69 1) = some (.int .i64 t71) ∧
let t73 : Int := IntKind.i64.wrap (t71 + t37)
nilc r0 (fun t74 =>
wr (Addr.add t74 1) (.int .i64 t73) (fun h2 =>
L1 r0 xn1 t64 t67 K h2) h1))) False) False) False)) h)))) (
K (.exit 1) (X1 v6) h)) : L1 r0 xn1 v6 have7 K h := by unfold L1; exact Lp.of_txt (an 244) 195 (by kernel_rfl) H
theorem L1_X1 {Q : VP} {v6 : Int} {h : Heap} (H :
let t77 : Int := IntKind.u32.wrap v6
Q (.tuple #[.int .u32 t77, .int .i64 0]) h) : (K2 Q) (.exit 1) (X1 v6) h := y19 (by kernel_rfl) H
theorem door {r0 : OA} {xn1 : Int} {Q : VP} {h : Heap} (H :
let t12 : Bool := (Option.isNone r0)
br t12 (
Q (.tuple #[.int .u32 0, .int .i64 3]) h) (
let t15 : Bool := decide (xn1 < 0)
br t15 (
J1 r0 xn1 true Q h) (
let t18 : Bool := decide (xn1 > 32)
J1 r0 xn1 t18 Q h))) : SpecH PP z194 [.pointer r0, .int .i64 xn1] h Q :=
  y12 (ann := ann) Tryd.func77 rfl rfl (by kernel_rfl) H
end z193
namespace z253
def ann : Ann := (.seq 3 (rg 1 3) (.seq 2 (.seq 34 (rg 1 34) (.block (.seq 98 (rg 2 98) (.cond (.seq 16 (rg 1 16) (.exit 16)) (.seq 258 (rg 2 258) (.cond (.seq 16 (rg 1 16) (.exit 16)) .leaf)))))) (.seq 16 (rg 2 16) (.exit 16))))
theorem door {e0 other1 : Int} {Q : VP} {h : Heap} (H :
let t7 : Bool := (e0 == 0)
br t7 (
Q (.int .i64 0) h) (
let t9 : Bool := (e0 == 10)
br t9 (
Q (.int .i64 55) h) (
Q (.int .i64 other1) h))) : SpecH PP z254 [.int .i64 e0, .int .i64 other1] h Q :=
  y12 (ann := ann) Tryd.func78 rfl rfl (by kernel_rfl) H
end z253
namespace z183
def ann : Ann := (.seq 1 (rg 1 1) (.seq 1 (.seq 17 (rg 2 17) (.cond (.seq 4 (rg 1 4) (.exit 4)) .leaf)) (.seq 0 (rg 11 0) (.seq 4 (rg 1 4) (.exit 4)))))
theorem door {r0 : OA} {Q : VP} {h : Heap} (H :
let t4 : Bool := (Option.isNone r0)
br t4 (
Q (.int .i64 3) h) (
nilc r0 (fun t7 =>
∃ (t9 : Int), cellH h (Addr.add t7 1) = some (.int .i64 t9) ∧
let t10 : Int := IntKind.i64.wrap (t9 + 7)
let t11 : Int := IntKind.i64.wrap (Int.tdiv t10 8)
let t12 : Int := IntKind.i64.wrap (t11 * 8)
nilc r0 (fun t13 =>
wr (Addr.add t13 1) (.int .i64 t12) (fun h1 =>
Q (.int .i64 0) h1) h)))) : SpecH PP z184 [.pointer r0] h Q :=
  y12 (ann := ann) Tryd.func79 rfl rfl (by kernel_rfl) H
end z183
namespace z265
def ann : Ann := (.seq 3 (rg 1 3) (.seq 3 (.seq 16387 (rg 10 16387) (.cond (.seq 16 (rg 1 16) (.exit 16)) .leaf)) (.seq 0 (rg 11 0) (.seq 16 (rg 1 16) (.exit 16)))))
theorem door {g0 : OA} {c1 : Int} {Q : VP} {h : Heap} (H :
nilc g0 (fun t6 =>
∃ (t8 : OA) (t8n t8c : Nat), cellH h (Addr.add t6 1) = some (.slice t8 t8n t8c) ∧
nilc g0 (fun t11 =>
∃ (t13 : Int), cellH h (Addr.add t11 2) = some (.int .i64 t13) ∧
let t14 : Bool := decide ((t8n : Int) ≥ t13)
br t14 (
Q (.int .i64 56) h) (
nilc g0 (fun t17 =>
∃ (t19 : OA) (t19n t19c : Nat), cellH h (Addr.add t17 1) = some (.slice t19 t19n t19c) ∧
let h1 : Heap := Array.push h (.cells #[.int .u8 c1] y15 (0, 0))
hwp PP (Builtin.append_ #[y13, y13] y13 #[(.slice t19 t19n t19c), (.slice (some ⟨Array.size h, 0, none⟩) 1 1)]) (fun v h2 => ∃ (t22 : OA) (t22n t22c : Nat), v = (.slice t22 t22n t22c) ∧
nilc g0 (fun t23 =>
wr (Addr.add t23 1) (.slice t22 t22n t22c) (fun h3 =>
Q (.int .i64 0) h3) h2)) h1))))) : SpecH PP z266 [.pointer g0, .int .u8 c1] h Q :=
  y12 (ann := ann) Tryd.func80 rfl rfl (by kernel_rfl) H
end z265
namespace z235
def ann : Ann := (.seq 1 (rg 2 1) (.seq 1 (.seq 17 (rg 3 17) (.seq 4113 (rg 2 4113) (.cond (.seq 12 (rg 3 12) (.exit 12)) .leaf))) (.seq 33 (rg 3 33) (.seq 33 (rg 13 33) (.seq 32 (.seq 97 (rg 1 97) (.block (.loop 97 (.seq 97 (.seq 268435553 (rg 2 268435553) (.cond .leaf (.exit 32))) (.seq 97 (.block (.seq 97 (rg 11 97) (.seq 15393162788961 (rg 3 15393162788961) (.block (.loop 15393162788961 (.seq 32985348833377 (rg 1 32985348833377) (.seq 15393162788961 (.cond .leaf (.exit 97)) (.seq 15393162788961 (.block (.seq 15393162789345 (rg 5 15393162789345) (.seq 1141293069631713 (rg 3 1141293069631713) (.cond (.seq 15393162788961 (rg 11 15393162788961) (rg 5 15393162788961)) .leaf)))) (.join (rg 2 15393162788961)))))))))) (rg 3 97)))))) (.seq 12 (rg 3 12) (.exit 12)))))))
noncomputable abbrev cd := cdF Tryd.f81
abbrev an := anF ann
@[irreducible] def X0 (d5 : Addr) : Fr := (mkFr 0 67 [(5, (.pointer (some d5)))])
@[irreducible] def X2 (xl0 : OA) (xl0n xl0c : Nat) (d5 : Addr) (xn6 : Int) : Fr := (mkFr 0 67 [(0, (.slice xl0 xl0n xl0c)), (5, (.pointer (some d5))), (6, .int .i64 xn6)])
@[irreducible] def L1 (xl0 : OA) (xl0n xl0c : Nat) (d5 : Addr) (xn6 : Int) (K : EP) (h : Heap) : Prop := Lp PP true (cd 500) (mkFr 0 67 [(0, (.slice xl0 xl0n xl0c)), (5, (.pointer (some d5))), (6, .int .i64 xn6)]) K h
@[irreducible] def B1 (K : EP) : EP := seqK (fun fr h => Lp PP true (cd 500) (fr.mask 97) K h) K
@[irreducible] def K3 (Q : VP) : EP := seqK (fun fr h => ev PP true none (cd 63) (an 63) (fr.mask 32) (bodyK PP Tryd.f81 Q) h) (bodyK PP Tryd.f81 Q)
@[irreducible] def K1 (Q : VP) : EP := blockK 0 (K3 Q)
@[irreducible] def K5 (K : EP) : EP := seqK (fun fr h => ev PP true none (cd 2003) (an 2003) (fr.mask 97) (B1 K) h) (B1 K)
@[irreducible] def K4 (K : EP) : EP := blockK 1 (K5 K)
@[irreducible] def K2 (K : EP) : EP := blockK 2 (K4 K)
@[irreducible] def L2 (xl0 : OA) (xl0n xl0c : Nat) (d5 : Addr) (xn6 : Int) (t41 : OA) (t41n t41c : Nat) (t42 t43 : Int) (K : EP) (h : Heap) : Prop := Lp PP true (cd 64076) (mkFr 0 67 [(0, (.slice xl0 xl0n xl0c)), (5, (.pointer (some d5))), (6, .int .i64 xn6), (41, (.slice t41 t41n t41c)), (42, .int .i64 t42), (43, .int .i64 t43)]) K h
@[irreducible] def B2 (K : EP) : EP := seqK (fun fr h => Lp PP true (cd 64076) (fr.mask 15393162788961) K h) K
@[irreducible] def J1 (xl0 : OA) (xl0n xl0c : Nat) (d5 : Addr) (xn6 : Int) (t41 : OA) (t41n t41c : Nat) (t42 t43 : Int) (K : EP) (h : Heap) : Prop := Jn PP true (cd 512615) (mkFr 0 67 [(0, (.slice xl0 xl0n xl0c)), (5, (.pointer (some d5))), (6, .int .i64 xn6), (41, (.slice t41 t41n t41c)), (42, .int .i64 t42), (43, .int .i64 t43)]) (B2 K) h
theorem L1_of {xl0 : OA} {xl0n xl0c : Nat} {d5 : Addr} {xn6 : Int} {K : EP} {h : Heap} (H :
let t28 : Bool := decide (xn6 ≤ 15)
br t28 (
∃ (t36 : OA) (t36n t36c : Nat), cellH h (Addr.add d5 48) = some (.slice t36 t36n t36c) ∧
hwp PP (Instr.indexAt y64 (.pointer (some (Addr.add d5 32))) (.int .i64 xn6)) (fun v h1 => ∃ (t40 : Addr), v = (.pointer (some t40)) ∧
wr t40 (.int .i64 (t36n : Int)) (fun h2 =>
L2 xl0 xl0n xl0c d5 xn6 xl0 xl0n xl0c (xl0n : Int) 0 (K2 K) h2) h1) h) (
K (.exit 0) (X0 d5) h)) : L1 xl0 xl0n xl0c d5 xn6 K h := by unfold L1; exact Lp.of_txt (an 500) 97 (by kernel_rfl) H
theorem L1_X0 {Q : VP} {d5 : Addr} {h : Heap} (H :
Q (.tuple #[(.pointer (some d5)), .int .i64 0]) h) : (K1 Q) (.exit 0) (X0 d5) h := y19 (by kernel_rfl) H
theorem L2_of {xl0 : OA} {xl0n xl0c : Nat} {d5 : Addr} {xn6 : Int} {t41 : OA} {t41n t41c : Nat} {t42 t43 : Int} {K : EP} {h : Heap} (H :
let t44 : Bool := decide (t43 < t42)
br t44 (
hwp PP (Instr.indexAt y14 (.slice t41 t41n t41c) (.int .i64 t43)) (fun v h1 => ∃ (t46 : Addr), v = (.pointer (some t46)) ∧
∃ (t47 : Int), cellH h1 t46 = some (.int .i64 t47) ∧
let t50 : Bool := (t47 == xn6)
br t50 (
∃ (t55 : OA) (t55n t55c : Nat), cellH h1 (Addr.add d5 48) = some (.slice t55 t55n t55c) ∧
let h2 : Heap := Array.push h1 (.cells #[.int .i64 t43] y18 (0, 0))
hwp PP (Builtin.append_ #[y14, y14] y14 #[(.slice t55 t55n t55c), (.slice (some ⟨Array.size h1, 0, none⟩) 1 1)]) (fun v_1 h3 => ∃ (t58 : OA) (t58n t58c : Nat), v_1 = (.slice t58 t58n t58c) ∧
wr (Addr.add d5 48) (.slice t58 t58n t58c) (fun h4 =>
wr (Addr.add d5 49) (.int .i64 xn6) (fun h5 =>
J1 xl0 xl0n xl0c d5 xn6 t41 t41n t41c t42 t43 K h5) h4) h3) h2) (
J1 xl0 xl0n xl0c d5 xn6 t41 t41n t41c t42 t43 K h1)) h) (
K (.exit 2) (X2 xl0 xl0n xl0c d5 xn6) h)) : L2 xl0 xl0n xl0c d5 xn6 t41 t41n t41c t42 t43 K h := by unfold L2; exact Lp.of_txt (an 64076) 15393162788961 (by kernel_rfl) H
theorem L2_X2 {K : EP} {xl0 : OA} {xl0n xl0c : Nat} {d5 : Addr} {xn6 : Int} {h : Heap} (H :
let t30 : Int := IntKind.i64.wrap (xn6 + 1)
L1 xl0 xl0n xl0c d5 t30 K h) : (K2 K) (.exit 2) (X2 xl0 xl0n xl0c d5 xn6) h := y19 (by kernel_rfl) H
theorem J1_of {xl0 : OA} {xl0n xl0c : Nat} {d5 : Addr} {xn6 : Int} {t41 : OA} {t41n t41c : Nat} {t42 t43 : Int} {K : EP} {h : Heap} (H :
let t65 : Int := IntKind.i64.wrap (t43 + 1)
L2 xl0 xl0n xl0c d5 xn6 t41 t41n t41c t42 t65 K h) : J1 xl0 xl0n xl0c d5 xn6 t41 t41n t41c t42 t43 K h := by unfold J1; exact Jn.of_txt (an 512615) (by kernel_rfl) H
theorem door {xl0 : OA} {xl0n xl0c : Nat} {Q : VP} {h : Heap} (H :
SpecH PP z226 [(.slice xl0 xl0n xl0c)] h (fun v h1 => ∃ (t10 : Int), v = (.int .i64 t10) ∧
let t12 : Bool := (t10 != 0)
br t12 (
Q (.tuple #[.pointer none, .int .i64 t10]) h1) (
let t15 : Addr := ⟨Array.size h1, 0, none⟩
let h2 : Heap := Array.push h1 (.cells ([.int .i64 0, .int .i64 0, .int .i64 0, .int .i64 0, .int .i64 0, .int .i64 0, .int .i64 0, .int .i64 0, .int .i64 0, .int .i64 0, .int .i64 0, .int .i64 0, .int .i64 0, .int .i64 0, .int .i64 0, .int .i64 0, .int .i64 0, .int .i64 0, .int .i64 0, .int .i64 0, .int .i64 0, .int .i64 0, .int .i64 0, .int .i64 0, .int .i64 0, .int .i64 0, .int .i64 0, .int .i64 0, .int .i64 0, .int .i64 0, .int .i64 0, .int .i64 0, .int .i64 0, .int .i64 0, .int .i64 0, .int .i64 0, .int .i64 0, .int .i64 0, .int .i64 0, .int .i64 0, .int .i64 0, .int .i64 0, .int .i64 0, .int .i64 0, .int .i64 0, .int .i64 0, .int .i64 0, .int .i64 0, (.slice none 0 0), .int .i64 0]).toArray y117 (0, 0))
SpecH PP z238 [(.slice xl0 xl0n xl0c)] h2 (fun v_1 h3 => ∃ (t20 t20_1 : List Value), v_1 = (.tuple #[(.agg (t20).toArray), (.agg (t20_1).toArray)]) ∧
br (decide (Array.size (List.toArray t20) = 16)) (wrCells t15 0 t20 (fun h4 =>
br (decide (Array.size (List.toArray t20_1) = 16)) (wrCells (Addr.add t15 16) 0 t20_1 (fun h5 =>
L1 xl0 xl0n xl0c t15 1 (K1 Q) h5) h4) False) h3) False)))) : SpecH PP z236 [(.slice xl0 xl0n xl0c)] h Q :=
  y12 (ann := ann) Tryd.func81 rfl rfl (by kernel_rfl) H
end z235
namespace z273
def ann : Ann := (.seq 1 (rg 1 1) (.seq 4 (rg 4 4) (.exit 4)))
theorem door {xl0 : OA} {xl0n xl0c : Nat} {Q : VP} {h : Heap} (H :
SpecH PP z340 [(.slice xl0 xl0n xl0c)] h (fun v h1 => ∃ (t4 : Int), v = (.int .i64 t4) ∧
let t5 : Bool := decide (t4 > 0)
Q (.bool t5) h1)) : SpecH PP z274 [(.slice xl0 xl0n xl0c)] h Q :=
  y12 (ann := ann) Tryd.func82 rfl rfl (by kernel_rfl) H
end z273
namespace z229
def ann : Ann := (.seq 3 (rg 2 3) (.straight (.seq 3 (.seq 131075 (rg 6 131075) (.join (.cond (.seq 48 (rg 2 48) (.exit 48)) .leaf))) (.seq 67 (rg 1 67) (.seq 451 (rg 2 451) (.seq 451 .leaf (.seq 322 (.block (.loop 451 (.seq 451 (.seq 8389059 (rg 6 8389059) (.cond .leaf (.exit 322))) (.block (.seq 1987 (rg 7 1987) (.seq 963 (.seq 1073743811 (rg 2 1073743811) (.cond (.seq 322 (rg 2 322) (.exit 322)) .leaf)) (.seq 963 (rg 3 963) (.seq 451 (rg 6 451) (.seq 2499 (rg 9 2499) (.seq 288230376151714243 (rg 12 288230376151714243) (.join (.cond (.seq 48 (rg 16 48) (.exit 48)) .leaf)))))))))))) (.seq 64 (rg 3 64) (.seq 48 (rg 3 48) (.exit 48))))))))))
noncomputable abbrev cd := cdF Tryd.f83
abbrev an := anF ann
@[irreducible] def X0 (r1 : OA) (e6 xn8 : Int) : Fr := (mkFr 0 77 [(1, .pointer r1), (6, .int .i64 e6), (8, .int .i64 xn8)])
@[irreducible] def Xret (t4 t5 : Int) : Fr := (mkFr 0 77 [(4, .int .i64 t4), (5, .int .i64 t5)])
@[irreducible] def K3 (Q : VP) : EP := noGotoK (bodyK PP Tryd.f83 Q)
@[irreducible] def K1 (Q : VP) : EP := seqK (fun fr h => ev PP true none (cd 13) (an 13) (fr.mask 3) (K3 Q) h) (K3 Q)
@[irreducible] def J1 (d0 r1 : OA) (t17 : Bool) (Q : VP) (h : Heap) : Prop := Jn PP true (cd 25) (mkFr 0 77 [(0, .pointer d0), (1, .pointer r1), (17, .bool t17)]) (K1 Q) h
@[irreducible] def K4 (Q : VP) : EP := seqK (fun fr h => ev PP true none (cd 223) (an 223) (fr.mask 322) (K3 Q) h) (K3 Q)
@[irreducible] def K2 (Q : VP) : EP := blockK 0 (K4 Q)
@[irreducible] def L1 (d0 r1 : OA) (e6 code7 xn8 : Int) (K : EP) (h : Heap) : Prop := Lp PP true (cd 888) (mkFr 0 77 [(0, .pointer d0), (1, .pointer r1), (6, .int .i64 e6), (7, .int .i64 code7), (8, .int .i64 xn8)]) K h
@[irreducible] def B1 (K : EP) : EP := seqK (fun fr h => Lp PP true (cd 888) (fr.mask 451) K h) K
@[irreducible] def K5 (K : EP) : EP := blockK 1 (B1 K)
@[irreducible] def J2 (d0 r1 : OA) (e6 code7 xn8 k11 : Int) (t58 : Bool) (K : EP) (h : Heap) : Prop := Jn PP true (cd 227519) (mkFr 0 77 [(0, .pointer d0), (1, .pointer r1), (6, .int .i64 e6), (7, .int .i64 code7), (8, .int .i64 xn8), (11, .int .i64 k11), (58, .bool t58)]) (K5 K) h
theorem J1_of {d0 r1 : OA} {t17 : Bool} {Q : VP} {h : Heap} (H :
br t17 (
Q (.tuple #[.int .i64 0, .int .i64 3]) h) (
L1 d0 r1 32 0 0 (K2 Q) h)) : J1 d0 r1 t17 Q h := by unfold J1; exact Jn.of_txt (an 25) (by kernel_rfl) H
theorem L1_of {d0 r1 : OA} {e6 code7 xn8 : Int} {K : EP} {h : Heap} (H :
nilc d0 (fun t20 =>
∃ (t22 : Int), cellH h (Addr.add t20 49) = some (.int .i64 t22) ∧
let t23 : Bool := decide (xn8 < t22)
br t23 (
SpecH PP z194 [.pointer r1, .int .i64 1] h (fun v h1 => ∃ (t26 t26_1 : Int), v = (.tuple #[.int .u32 t26, .int .i64 t26_1]) ∧
let t30 : Bool := (t26_1 != 0)
br t30 (
K (.exit 0) (X0 r1 t26_1 xn8) h1) (
let t33 : Int := IntKind.i64.wrap (xn8 + 1)
let t35 : Int := sShl .i64 code7 1
let t37 : Int := IntKind.i64.wrap t26
let t38 : Int := bOr .i64 t35 t37
nilc d0 (fun t42 =>
hwp PP (Instr.indexAt y64 (.pointer (some t42)) (.int .i64 t33)) (fun v_1 h2 => ∃ (t44 : Addr), v_1 = (.pointer (some t44)) ∧
∃ (t45 : Int), cellH h2 t44 = some (.int .i64 t45) ∧
let t46 : Int := IntKind.i64.wrap (t38 - t45)
let t48 : Bool := decide (t46 ≥ 0)
br t48 (
nilc d0 (fun t53 =>
hwp PP (Instr.indexAt y64 (.pointer (some (Addr.add t53 16))) (.int .i64 t33)) (fun v_2 h3 => ∃ (t55 : Addr), v_2 = (.pointer (some t55)) ∧
∃ (t56 : Int), cellH h3 t55 = some (.int .i64 t56) ∧
let t57 : Bool := decide (t46 < t56)
J2 d0 r1 e6 t38 t33 t46 t57 K h3) h2)) (
J2 d0 r1 e6 t38 t33 t46 false K h2)) h1)))) (
K (.exit 0) (X0 r1 e6 xn8) h))) : L1 d0 r1 e6 code7 xn8 K h := by unfold L1; exact Lp.of_txt (an 888) 451 (by kernel_rfl) H
theorem L1_X0 {Q : VP} {r1 : OA} {e6 xn8 : Int} {h : Heap} (H :
SpecH PP z186 [.pointer r1, .int .i64 xn8] h (fun v h1 => ∃ (t75 : Int), v = (.int .i64 t75) ∧
Q (.tuple #[.int .i64 0, .int .i64 e6]) h1)) : (K2 Q) (.exit 0) (X0 r1 e6 xn8) h := y19 (by kernel_rfl) H
theorem J2_of {d0 r1 : OA} {e6 code7 xn8 k11 : Int} {t58 : Bool} {K : EP} {h : Heap} (H :
br t58 (
nilc d0 (fun t60 =>
∃ (t62 : OA) (t62n t62c : Nat), cellH h (Addr.add t60 48) = some (.slice t62 t62n t62c) ∧
nilc d0 (fun t65 =>
hwp PP (Instr.indexAt y64 (.pointer (some (Addr.add t65 32))) (.int .i64 xn8)) (fun v h1 => ∃ (t67 : Addr), v = (.pointer (some t67)) ∧
∃ (t68 : Int), cellH h1 t67 = some (.int .i64 t68) ∧
let t70 : Int := IntKind.i64.wrap (t68 + k11)
hwp PP (Instr.indexAt y14 (.slice t62 t62n t62c) (.int .i64 t70)) (fun v_1 h2 => ∃ (t71 : Addr), v_1 = (.pointer (some t71)) ∧
∃ (t72 : Int), cellH h2 t71 = some (.int .i64 t72) ∧
K .ret (Xret t72 0) h2) h1) h))) (
L1 d0 r1 e6 code7 xn8 K h)) : J2 d0 r1 e6 code7 xn8 k11 t58 K h := by unfold J2; exact Jn.of_txt (an 227519) (by kernel_rfl) H
theorem L1_Xret {Q : VP} {t4 t5 : Int} {h : Heap} (H :
Q (.tuple #[.int .i64 t4, .int .i64 t5]) h) : (K2 Q) .ret (Xret t4 t5) h := y19 (by kernel_rfl) H
theorem door {d0 r1 : OA} {Q : VP} {h : Heap} (H :
let t13 : Bool := (Option.isNone d0)
br t13 (
J1 d0 r1 true Q h) (
let t16 : Bool := (Option.isNone r1)
J1 d0 r1 t16 Q h)) : SpecH PP z230 [.pointer d0, .pointer r1] h Q :=
  y12 (ann := ann) Tryd.func83 rfl rfl (by kernel_rfl) H
end z229
namespace z261
def ann : Ann := (.seq 7 (rg 1 7) (.seq 7 (.seq 524295 (rg 2 524295) (.cond (.seq 64 (rg 1 64) (.exit 64)) .leaf)) (.seq 135 (rg 3 135) (.seq 133 (.block (.seq 4194439 (rg 3 4194439) (.cond (rg 1 133) (.seq 33554567 (rg 3 33554567) (.cond (.seq 263 (rg 4 263) (.seq 1799 (rg 8 1799) (.seq 775 (.seq 274877908743 (rg 2 274877908743) (.cond (.seq 64 (rg 2 64) (.exit 64)) .leaf)) (rg 10 133)))) .leaf))))) (.join (.seq 133 (.seq 1125899906842757 (rg 2 1125899906842757) (.cond (.seq 64 (rg 1 64) (.exit 64)) .leaf)) (.seq 6273 (rg 11 6273) (.seq 2177 (.block (.seq 1152921504606853249 (rg 3 1152921504606853249) (.cond (.seq 64 (rg 3 64) (.exit 64)) (.seq 36893488147419105409 (rg 3 36893488147419105409) (.cond (.seq 64 (rg 1 64) (.exit 64)) .leaf))))) (.seq 10369 (rg 3 10369) (.seq 8321 (.seq 2361183241434822617217 (rg 2 2361183241434822617217) (.cond (.seq 18561 (rg 4 18561) (.seq 116865 (rg 8 116865) (.seq 51329 (.seq 4835703278458516698941569 (rg 2 4835703278458516698941569) (.cond (.seq 64 (rg 2 64) (.exit 64)) .leaf)) (rg 9 8321)))) .leaf)) (.join (.seq 8321 (.seq 316912650057057350374175809665 (rg 7 316912650057057350374175809665) (.cond (.seq 64 (rg 1 64) (.exit 64)) .leaf)) (.seq 0 (.seq 1901475900342344102245054816257 (rg 2 1901475900342344102245054816257) (.block (.loop 1901475900342344102245054816257 (.seq 4436777100798802905238461227009 (rg 1 4436777100798802905238461227009) (.seq 1901475900342344102245054816257 (.cond .leaf (.exit 0)) (.seq 1901475900342344102245054816257 (.block (.seq 1901475900342344102245054947329 (rg 16 1901475900342344102245054947329) (.seq 332308900422129310570054010125033473 (rg 2 332308900422129310570054010125033473) (.cond (.seq 64 (rg 2 64) (.exit 64)) .leaf)))) (rg 2 1901475900342344102245054816257))))))) (.seq 64 (rg 1 64) (.exit 64)))))))))))))))
noncomputable abbrev cd := cdF Tryd.f84
abbrev an := anF ann
@[irreducible] def Xret (t6 : Int) : Fr := (mkFr 0 121 [(6, .int .i64 t6)])
@[irreducible] def X2  : Fr := (mkFr 0 121 [])
@[irreducible] def J1 (g0 dists2 : OA) (xn7 : Int) (Q : VP) (h : Heap) : Prop := Jn PP true (cd 31) (mkFr 0 121 [(0, .pointer g0), (2, .pointer dists2), (7, .int .i64 xn7)]) (bodyK PP Tryd.f84 Q) h
@[irreducible] def J2 (g0 : OA) (xn7 far13 : Int) (Q : VP) (h : Heap) : Prop := Jn PP true (cd 1023) (mkFr 0 121 [(0, .pointer g0), (7, .int .i64 xn7), (13, .int .i64 far13)]) (bodyK PP Tryd.f84 Q) h
@[irreducible] def K2 (Q : VP) : EP := seqK (fun fr h => ev PP true none (cd 4095) (an 4095) (fr.mask 0) (bodyK PP Tryd.f84 Q) h) (bodyK PP Tryd.f84 Q)
@[irreducible] def K1 (Q : VP) : EP := blockK 2 (K2 Q)
@[irreducible] def L1 (g0 : OA) (far13 t99 t100 : Int) (K : EP) (h : Heap) : Prop := Lp PP true (cd 32756) (mkFr 0 121 [(0, .pointer g0), (13, .int .i64 far13), (99, .int .i64 t99), (100, .int .i64 t100)]) K h
theorem J1_of {g0 dists2 : OA} {xn7 : Int} {Q : VP} {h : Heap} (H :
let t50 : Bool := (Option.isNone dists2)
br t50 (
Q (.int .i64 53) h) (
nilc g0 (fun t54 =>
∃ (t56 : OA), cellH h t54 = some (.pointer t56) ∧
SpecH PP z230 [.pointer dists2, .pointer t56] h (fun v h1 => ∃ (t57 t57_1 : Int), v = (.tuple #[.int .i64 t57, .int .i64 t57_1]) ∧
let t62 : Bool := (t57_1 != 0)
br t62 (
∃ v_1, PureAt PP z254 [.int .i64 t57_1, .int .i64 53] v_1 ∧
∃ (t64 : Int), v_1 = (.int .i64 t64) ∧
Q (.int .i64 t64) h1) (
let t67 : Bool := decide (t57 > 29)
br t67 (
Q (.int .i64 53) h1) (
let t69 : Int := IntKind.i64.wrap (t57 + 1)
let t71 : Bool := decide (t57 > 3)
br t71 (
let t73 : Int := IntKind.i64.wrap (Int.tdiv t57 2)
let t74 : Int := IntKind.i64.wrap (t73 - 1)
SpecH PP z272 [.pointer g0, .int .i64 t74] h1 (fun v_2 h2 => ∃ (t78 t78_1 : Int), v_2 = (.tuple #[.int .i64 t78, .int .i64 t78_1]) ∧
let t82 : Bool := (t78_1 != 0)
br t82 (
Q (.int .i64 t78_1) h2) (
let t85 : Int := Int.tmod t57 2
let t86 : Int := IntKind.i64.wrap (2 + t85)
br (decide (0 ≤ t74)) (
let t88 : Int := sShl .i64 t86 t74
let t89 : Int := IntKind.i64.wrap (1 + t88)
let t91 : Int := IntKind.i64.wrap (t89 + t78)
J2 g0 xn7 t91 Q h2) False))) (
J2 g0 xn7 t69 Q h1))))))) : J1 g0 dists2 xn7 Q h := by unfold J1; exact Jn.of_txt (an 31) (by kernel_rfl) H
theorem J2_of {g0 : OA} {xn7 far13 : Int} {Q : VP} {h : Heap} (H :
nilc g0 (fun t94 =>
∃ (t96 : OA) (t96n t96c : Nat), cellH h (Addr.add t94 1) = some (.slice t96 t96n t96c) ∧
let t98 : Bool := decide (far13 > (t96n : Int))
br t98 (
Q (.int .i64 54) h) (
L1 g0 far13 xn7 0 (K1 Q) h))) : J2 g0 xn7 far13 Q h := by unfold J2; exact Jn.of_txt (an 1023) (by kernel_rfl) H
theorem L1_of {g0 : OA} {far13 t99 t100 : Int} {K : EP} {h : Heap} (H :
let t101 : Bool := decide (t100 < t99)
br t101 (
nilc g0 (fun t104 =>
∃ (t106 : OA) (t106n t106c : Nat), cellH h (Addr.add t104 1) = some (.slice t106 t106n t106c) ∧
nilc g0 (fun t108 =>
∃ (t110 : OA) (t110n t110c : Nat), cellH h (Addr.add t108 1) = some (.slice t110 t110n t110c) ∧
let t113 : Int := IntKind.i64.wrap ((t110n : Int) - far13)
hwp PP (Instr.indexAt y13 (.slice t106 t106n t106c) (.int .i64 t113)) (fun v h1 => ∃ (t114 : Addr), v = (.pointer (some t114)) ∧
∃ (t115 : Int), cellH h1 t114 = some (.int .u8 t115) ∧
SpecH PP z266 [.pointer g0, .int .u8 t115] h1 (fun v_1 h2 => ∃ (t116 : Int), v_1 = (.int .i64 t116) ∧
let t118 : Bool := (t116 != 0)
br t118 (
K .ret (Xret t116) h2) (
let t120 : Int := IntKind.i64.wrap (t100 + 1)
L1 g0 far13 t99 t120 K h2))) h))) (
K (.exit 2) (X2) h)) : L1 g0 far13 t99 t100 K h := by unfold L1; exact Lp.of_txt (an 32756) 1901475900342344102245054816257 (by kernel_rfl) H
theorem L1_Xret {Q : VP} {t6 : Int} {h : Heap} (H :
Q (.int .i64 t6) h) : (K1 Q) .ret (Xret t6) h := y19 (by kernel_rfl) H
theorem L1_X2 {Q : VP}  {h : Heap} (H :
Q (.int .i64 0) h) : (K1 Q) (.exit 2) (X2 ) h := y19 (by kernel_rfl) H
theorem door {g0 : OA} {s1 : Int} {dists2 : OA} {Q : VP} {h : Heap} (H :
let t19 : Bool := decide (s1 > 285)
br t19 (
Q (.int .i64 53) h) (
let t21 : Int := IntKind.i64.wrap (s1 - 254)
let t24 : Bool := (s1 == 285)
br t24 (
J1 g0 dists2 258 Q h) (
let t27 : Bool := decide (s1 > 264)
br t27 (
let t29 : Int := IntKind.i64.wrap (s1 - 261)
let t30 : Int := IntKind.i64.wrap (Int.tdiv t29 4)
SpecH PP z272 [.pointer g0, .int .i64 t30] h (fun v h1 => ∃ (t34 t34_1 : Int), v = (.tuple #[.int .i64 t34, .int .i64 t34_1]) ∧
let t38 : Bool := (t34_1 != 0)
br t38 (
Q (.int .i64 t34_1) h1) (
let t41 : Int := IntKind.i64.wrap (s1 - 261)
let t42 : Int := Int.tmod t41 4
let t43 : Int := IntKind.i64.wrap (4 + t42)
br (decide (0 ≤ t30)) (
let t45 : Int := sShl .i64 t43 t30
let t46 : Int := IntKind.i64.wrap (3 + t45)
let t48 : Int := IntKind.i64.wrap (t46 + t34)
J1 g0 dists2 t48 Q h1) False))) (
J1 g0 dists2 t21 Q h)))) : SpecH PP z262 [.pointer g0, .int .i64 s1, .pointer dists2] h Q :=
  y12 (ann := ann) Tryd.func84 rfl rfl (by kernel_rfl) H
end z261
namespace z281
def ann : Ann := (.seq 1 (rg 3 1) (.seq 1 (.seq 129 (rg 2 129) (.cond (.seq 28 (rg 3 28) (.exit 28)) .leaf)) (.seq 33 (rg 3 33) (.seq 61 (rg 9 61) (.seq 28 (.seq 131133 (rg 2 131133) (.cond (rg 6 28) .leaf)) (.join (.seq 28 (rg 6 28) (.exit 28))))))))
noncomputable abbrev cd := cdF Tryd.f85
abbrev an := anF ann
@[irreducible] def J1 (lit2 : OA) (lit2n lit2c : Nat) (dist3 : OA) (y83 y84 : Nat) (e4 : Int) (Q : VP) (h : Heap) : Prop := Jn PP true (cd 63) (mkFr 0 27 [(2, (.slice lit2 lit2n lit2c)), (3, (.slice dist3 y83 y84)), (4, .int .i64 e4)]) (bodyK PP Tryd.f85 Q) h
theorem J1_of {lit2 : OA} {lit2n lit2c : Nat} {dist3 : OA} {y83 y84 : Nat} {e4 : Int} {Q : VP} {h : Heap} (H :
Q (.tuple #[(.slice lit2 lit2n lit2c), (.slice dist3 y83 y84), .int .i64 e4]) h) : J1 lit2 lit2n lit2c dist3 y83 y84 e4 Q h := by unfold J1; exact Jn.of_txt (an 63) (by kernel_rfl) H
theorem door {r0 : OA} {Q : VP} {h : Heap} (H :
let t7 : Bool := (Option.isNone r0)
br t7 (
Q (.tuple #[(.slice none 0 0), (.slice none 0 0), .int .i64 3]) h) (
SpecH PP z188 [.pointer r0] h (fun v h1 => ∃ (t9 : Int), v = (.int .i64 t9) ∧
SpecH PP z292 [.pointer r0] h1 (fun v_1 h2 => ∃ (t12 : OA) (t12n t12c : Nat) (t12_1 : OA) (t12_1n t12_1c : Nat) (t12_2 : Int), v_1 = (.tuple #[(.slice t12 t12n t12c), (.slice t12_1 t12_1n t12_1c), .int .i64 t12_2]) ∧
let t17 : Bool := (t12_2 != 0)
br t17 (
SpecH PP z188 [.pointer r0] h2 (fun v_2 h3 => ∃ (t20 : Int), v_2 = (.int .i64 t20) ∧
let t22 : Int := IntKind.i64.wrap (t20 - t9)
SpecH PP z186 [.pointer r0, .int .i64 t22] h3 (fun v_3 h4 => ∃ (t23 : Int), v_3 = (.int .i64 t23) ∧
J1 t12 t12n t12c t12_1 t12_1n t12_1c t12_2 Q h4))) (
J1 t12 t12n t12c t12_1 t12_1n t12_1c t12_2 Q h2))))) : SpecH PP z282 [.pointer r0] h Q :=
  y12 (ann := ann) Tryd.func85 rfl rfl (by kernel_rfl) H
end z281
namespace z307
def ann : Ann := (.block (.loop 3 (.seq 3 (.seq 8388611 (rg 19 8388611) (.cond .leaf (.exit 0))) (.seq 3 (.block (.seq 19 (rg 7 19) (.seq 19 (rg 16 19) (rg 11 3)))) (rg 8 3)))))
noncomputable abbrev cd := cdF Tryd.f86
abbrev an := anF ann
@[irreducible] def X0  : Fr := (mkFr 0 62 [])
@[irreducible] def L1 (f0 : OA) (to1 : Int) (K : EP) (h : Heap) : Prop := Lp PP true (cd 4) (mkFr 0 62 [(0, .pointer f0), (1, .int .i64 to1)]) K h
@[irreducible] def K1 (Q : VP) : EP := blockK 0 (bodyK PP Tryd.f86 Q)
theorem L1_of {f0 : OA} {to1 : Int} {K : EP} {h : Heap} (H :
nilc f0 (fun t6 =>
∃ (t8 : Int), cellH h (Addr.add t6 4098) = some (.int .i64 t8) ∧
let t10 : Bool := decide (t8 < to1)
br t10 (
nilc f0 (fun t13 =>
∃ (t15 : Int), cellH h (Addr.add t13 4098) = some (.int .i64 t15) ∧
let t16 : Int := IntKind.i64.wrap (t15 + 3)
nilc f0 (fun t18 =>
∃ (t20 : OA) (t20n t20c : Nat), cellH h t18 = some (.slice t20 t20n t20c) ∧
let t22 : Bool := decide (t16 ≤ (t20n : Int))
br t22 (
nilc f0 (fun t33 =>
∃ (t35 : Int), cellH h (Addr.add t33 4098) = some (.int .i64 t35) ∧
SpecH PP z306 [.pointer f0, .int .i64 t35] h (fun v h1 => ∃ (t36 : Int), v = (.int .i64 t36) ∧
nilc f0 (fun t38 =>
∃ (t40 : OA) (t40n t40c : Nat), cellH h1 (Addr.add t38 4097) = some (.slice t40 t40n t40c) ∧
nilc f0 (fun t42 =>
∃ (t44 : Int), cellH h1 (Addr.add t42 4098) = some (.int .i64 t44) ∧
nilc f0 (fun t47 =>
hwp PP (Instr.indexAt T_4096_int (.pointer (some (Addr.add t47 1))) (.int .i64 t36)) (fun v_1 h2 => ∃ (t49 : Addr), v_1 = (.pointer (some t49)) ∧
∃ (t50 : Int), cellH h2 t49 = some (.int .i64 t50) ∧
hwp PP (Instr.indexAt y14 (.slice t40 t40n t40c) (.int .i64 t44)) (fun v_2 h3 => ∃ (t51 : Addr), v_2 = (.pointer (some t51)) ∧
wr t51 (.int .i64 t50) (fun h4 =>
nilc f0 (fun t55 =>
∃ (t57 : Int), cellH h4 (Addr.add t55 4098) = some (.int .i64 t57) ∧
let t58 : Int := IntKind.i64.wrap (t57 + 1)
nilc f0 (fun t59 =>
hwp PP (Instr.indexAt T_4096_int (.pointer (some (Addr.add t59 1))) (.int .i64 t36)) (fun v_3 h5 => ∃ (t61 : Addr), v_3 = (.pointer (some t61)) ∧
wr t61 (.int .i64 t58) (fun h6 =>
nilc f0 (fun t25 =>
∃ (t27 : Int), cellH h6 (Addr.add t25 4098) = some (.int .i64 t27) ∧
let t28 : Int := IntKind.i64.wrap (t27 + 1)
nilc f0 (fun t29 =>
wr (Addr.add t29 4098) (.int .i64 t28) (fun h7 =>
L1 f0 to1 K h7) h6))) h5) h4))) h3) h2) h1)))))) (
K (.exit 0) (X0) h)))) (
K (.exit 0) (X0) h))) : L1 f0 to1 K h := by unfold L1; exact Lp.of_txt (an 4) 3 (by kernel_rfl) H
theorem L1_X0 {Q : VP}  {h : Heap} (H :
Q (.tuple #[]) h) : (K1 Q) (.exit 0) (X0 ) h := y19 (by kernel_rfl) H
theorem door {f0 : OA} {to1 : Int} {Q : VP} {h : Heap} (H :
L1 f0 to1 (K1 Q) h) : SpecH PP z308 [.pointer f0, .int .i64 to1] h Q :=
  y12 (ann := ann) Tryd.func86 rfl rfl (by kernel_rfl) H
end z307
namespace z305
def ann : Ann := (.seq 3 (rg 1 3) (.seq 32 (rg 9 32) (.seq 16 (rg 18 16) (.exit 16))))
theorem door {f0 : OA} {i1 : Int} {Q : VP} {h : Heap} (H :
nilc f0 (fun t7 =>
∃ (t9 : OA) (t9n t9c : Nat), cellH h t7 = some (.slice t9 t9n t9c) ∧
let t12 : Int := IntKind.i64.wrap (i1 + 3)
hwp PP (Instr.sliceAt y13 (.slice t9 t9n t9c) (some (.int .i64 i1)) (some (.int .i64 t12)) none) (fun v h1 => ∃ (t13 : OA) (t13n t13c : Nat), v = (.slice t13 t13n t13c) ∧
hwp PP (Instr.indexAt y13 (.slice t13 t13n t13c) (.int .i64 0)) (fun v_1 h2 => ∃ (t15 : Addr), v_1 = (.pointer (some t15)) ∧
∃ (t16 : Int), cellH h2 t15 = some (.int .u8 t16) ∧
let t17 : Int := IntKind.i64.wrap t16
let t18 : Int := sShl .i64 t17 8
hwp PP (Instr.indexAt y13 (.slice t13 t13n t13c) (.int .i64 1)) (fun v_2 h3 => ∃ (t20 : Addr), v_2 = (.pointer (some t20)) ∧
∃ (t21 : Int), cellH h3 t20 = some (.int .u8 t21) ∧
let t22 : Int := IntKind.i64.wrap t21
let t23 : Int := sShl .i64 t22 4
let t24 : Int := bXor .i64 t18 t23
hwp PP (Instr.indexAt y13 (.slice t13 t13n t13c) (.int .i64 2)) (fun v_3 h4 => ∃ (t26 : Addr), v_3 = (.pointer (some t26)) ∧
∃ (t27 : Int), cellH h4 t26 = some (.int .u8 t27) ∧
let t28 : Int := IntKind.i64.wrap t27
let t29 : Int := bXor .i64 t24 t28
let t30 : Int := bAnd .i64 t29 4095
Q (.int .i64 t30) h4) h3) h2) h1) h)) : SpecH PP z306 [.pointer f0, .int .i64 i1] h Q :=
  y12 (ann := ann) Tryd.func87 rfl rfl (by kernel_rfl) H
end z305
namespace z347
def ann : Ann := (.seq 1053 (rg 4 1053) (.seq 3093 (rg 4 3093) (.seq 1045 (.block (.loop 3093 (.seq 3093 (.seq 1051669 (rg 3 1051669) (.cond .leaf (.exit 1045))) (.block (.seq 8391701 (rg 3 8391701) (.cond (.seq 3093 (rg 8 3093) (rg 4 3093)) (.seq 3093 (rg 12 3093) (rg 4 3093)))))))) (rg 8 0))))
noncomputable abbrev cd := cdF Tryd.f88
abbrev an := anF ann
@[irreducible] def X0 (y9 : OA) (y6 y7 : Nat) (m2 : Int) (cmp4 : Value) (i10 : Int) : Fr := (mkFr 0 58 [(0, (.slice y9 y6 y7)), (2, .int .i64 m2), (4, cmp4), (10, .int .i64 i10)])
@[irreducible] def L1 (y9 : OA) (y6 y7 : Nat) (m2 : Int) (cmp4 : Value) (i10 j11 : Int) (K : EP) (h : Heap) : Prop := Lp PP true (cd 56) (mkFr 0 58 [(0, (.slice y9 y6 y7)), (2, .int .i64 m2), (4, cmp4), (10, .int .i64 i10), (11, .int .i64 j11)]) K h
@[irreducible] def K2 (Q : VP) : EP := seqK (fun fr h => ev PP true none (cd 15) (an 15) (fr.mask 1045) (bodyK PP Tryd.f88 Q) h) (bodyK PP Tryd.f88 Q)
@[irreducible] def K1 (Q : VP) : EP := blockK 0 (K2 Q)
theorem L1_of {y9 : OA} {y6 y7 : Nat} {m2 : Int} {cmp4 : Value} {i10 j11 : Int} {K : EP} {h : Heap} (H :
let t20 : Bool := (i10 != j11)
br t20 (
let t23 : Bool := decide (i10 > j11)
br t23 (
let t27 : Int := IntKind.i64.wrap (m2 - i10)
SpecH PP z352 [(.slice y9 y6 y7), .int .i64 t27, .int .i64 m2, .int .i64 j11, cmp4] h (fun v h1 => v = (.tuple #[]) ∧
let t34 : Int := IntKind.i64.wrap (i10 - j11)
L1 y9 y6 y7 m2 cmp4 t34 j11 K h1)) (
let t38 : Int := IntKind.i64.wrap (m2 - i10)
let t41 : Int := IntKind.i64.wrap (m2 + j11)
let t43 : Int := IntKind.i64.wrap (t41 - i10)
SpecH PP z352 [(.slice y9 y6 y7), .int .i64 t38, .int .i64 t43, .int .i64 i10, cmp4] h (fun v_1 h2 => v_1 = (.tuple #[]) ∧
let t49 : Int := IntKind.i64.wrap (j11 - i10)
L1 y9 y6 y7 m2 cmp4 i10 t49 K h2))) (
K (.exit 0) (X0 y9 y6 y7 m2 cmp4 i10) h)) : L1 y9 y6 y7 m2 cmp4 i10 j11 K h := by unfold L1; exact Lp.of_txt (an 56) 3093 (by kernel_rfl) H
theorem L1_X0 {Q : VP} {y9 : OA} {y6 y7 : Nat} {m2 : Int} {cmp4 : Value} {i10 : Int} {h : Heap} (H :
let t53 : Int := IntKind.i64.wrap (m2 - i10)
SpecH PP z352 [(.slice y9 y6 y7), .int .i64 t53, .int .i64 m2, .int .i64 i10, cmp4] h (fun v h1 => v = (.tuple #[]) ∧
Q (.tuple #[]) h1)) : (K1 Q) (.exit 0) (X0 y9 y6 y7 m2 cmp4 i10) h := y19 (by kernel_rfl) H
theorem door {y9 : OA} {y6 y7 : Nat} {a1 m2 b3 : Int} {cmp4 : Value} {Q : VP} {h : Heap} (H :
let t14 : Int := IntKind.i64.wrap (m2 - a1)
let t17 : Int := IntKind.i64.wrap (b3 - m2)
L1 y9 y6 y7 m2 cmp4 t14 t17 (K1 Q) h) : SpecH PP z348 [(.slice y9 y6 y7), .int .i64 a1, .int .i64 m2, .int .i64 b3, cmp4] h Q :=
  y12 (ann := ann) Tryd.func88 rfl rfl (by kernel_rfl) H
end z347
namespace z189
def ann : Ann := (.seq 1 (rg 1 1) (.seq 1 (.seq 17 (rg 2 17) (.cond (.seq 4 (rg 1 4) (.exit 4)) .leaf)) (.seq 4 (rg 12 4) (.exit 4))))
theorem door {r0 : OA} {Q : VP} {h : Heap} (H :
let t4 : Bool := (Option.isNone r0)
br t4 (
Q (.int .i64 0) h) (
nilc r0 (fun t6 =>
∃ (t8 : OA) (t8n t8c : Nat), cellH h t6 = some (.slice t8 t8n t8c) ∧
let t10 : Int := IntKind.i64.wrap (8 * (t8n : Int))
nilc r0 (fun t12 =>
∃ (t14 : Int), cellH h (Addr.add t12 1) = some (.int .i64 t14) ∧
let t15 : Int := IntKind.i64.wrap (t10 - t14)
Q (.int .i64 t15) h)))) : SpecH PP z190 [.pointer r0] h Q :=
  y12 (ann := ann) Tryd.func89 rfl rfl (by kernel_rfl) H
end z189
namespace z339
def ann : Ann := (.seq 1 (rg 1 1) (.seq 1 (.seq 129 (rg 3 129) (.cond (rg 2 1) .leaf)) (.seq 9 (rg 4 9) (.seq 8 (.seq 25 (rg 1 25) (.block (.loop 25 (.seq 25 (.seq 32793 (rg 4 32793) (.cond .leaf (.exit 8))) (.seq 25 (.block (rg 7 25)) (rg 3 25)))))) (.seq 4 (rg 2 4) (.exit 4))))))
noncomputable abbrev cd := cdF Tryd.f90
abbrev an := anF ann
@[irreducible] def X0 (m3 : Int) : Fr := (mkFr 0 25 [(3, .int .i64 m3)])
@[irreducible] def L1 (x0 : OA) (x0n x0c : Nat) (m3 i4 : Int) (K : EP) (h : Heap) : Prop := Lp PP true (cd 244) (mkFr 0 25 [(0, (.slice x0 x0n x0c)), (3, .int .i64 m3), (4, .int .i64 i4)]) K h
@[irreducible] def K2 (Q : VP) : EP := seqK (fun fr h => ev PP true none (cd 31) (an 31) (fr.mask 8) (bodyK PP Tryd.f90 Q) h) (bodyK PP Tryd.f90 Q)
@[irreducible] def K1 (Q : VP) : EP := blockK 0 (K2 Q)
theorem L1_of {x0 : OA} {x0n x0c : Nat} {m3 i4 : Int} {K : EP} {h : Heap} (H :
let t15 : Bool := decide (i4 < (x0n : Int))
br t15 (
hwp PP (Instr.indexAt y14 (.slice x0 x0n x0c) (.int .i64 i4)) (fun v h1 => ∃ (t21 : Addr), v = (.pointer (some t21)) ∧
∃ (t22 : Int), cellH h1 t21 = some (.int .i64 t22) ∧
let t23 : Int := (if t22 > m3 then t22 else m3)
let t17 : Int := IntKind.i64.wrap (i4 + 1)
L1 x0 x0n x0c t23 t17 K h1) h) (
K (.exit 0) (X0 m3) h)) : L1 x0 x0n x0c m3 i4 K h := by unfold L1; exact Lp.of_txt (an 244) 25 (by kernel_rfl) H
theorem L1_X0 {Q : VP} {m3 : Int} {h : Heap} (H :
Q (.int .i64 m3) h) : (K1 Q) (.exit 0) (X0 m3) h := y19 (by kernel_rfl) H
theorem door {x0 : OA} {x0n x0c : Nat} {Q : VP} {h : Heap} (H :
let t7 : Bool := decide ((x0n : Int) < 1)
br t7 (
False) (
hwp PP (Instr.indexAt y14 (.slice x0 x0n x0c) (.int .i64 0)) (fun v h1 => ∃ (t10 : Addr), v = (.pointer (some t10)) ∧
∃ (t11 : Int), cellH h1 t10 = some (.int .i64 t11) ∧
L1 x0 x0n x0c t11 1 (K1 Q) h1) h)) : SpecH PP z340 [(.slice x0 x0n x0c)] h Q :=
  y12 (ann := ann) Tryd.func90 rfl rfl (by kernel_rfl) H
end z339
namespace z185
def ann : Ann := (.seq 3 (rg 1 3) (.seq 3 (.block (.seq 35 (rg 3 35) (.cond (.seq 16 (rg 1 16) (.exit 16)) (.seq 259 (rg 11 259) (.join (.cond (.seq 16 (rg 1 16) (.exit 16)) .leaf)))))) (.seq 0 (rg 9 0) (.seq 16 (rg 1 16) (.exit 16)))))
noncomputable abbrev cd := cdF Tryd.f91
abbrev an := anF ann
@[irreducible] def K2 (Q : VP) : EP := seqK (fun fr h => ev PP true none (cd 7) (an 7) (fr.mask 3) (bodyK PP Tryd.f91 Q) h) (bodyK PP Tryd.f91 Q)
@[irreducible] def K1 (Q : VP) : EP := blockK 0 (K2 Q)
@[irreducible] def J1 (r0 : OA) (xn1 : Int) (t8 : Bool) (Q : VP) (h : Heap) : Prop := Jn PP true (cd 103) (mkFr 0 27 [(0, .pointer r0), (1, .int .i64 xn1), (8, .bool t8)]) (K1 Q) h
theorem J1_of {r0 : OA} {xn1 : Int} {t8 : Bool} {Q : VP} {h : Heap} (H :
br t8 (
Q (.int .i64 1) h) (
nilc r0 (fun t20 =>
∃ (t22 : Int), cellH h (Addr.add t20 1) = some (.int .i64 t22) ∧
let t24 : Int := IntKind.i64.wrap (t22 - xn1)
nilc r0 (fun t25 =>
wr (Addr.add t25 1) (.int .i64 t24) (fun h1 =>
Q (.int .i64 0) h1) h)))) : J1 r0 xn1 t8 Q h := by unfold J1; exact Jn.of_txt (an 103) (by kernel_rfl) H
theorem door {r0 : OA} {xn1 : Int} {Q : VP} {h : Heap} (H :
let t7 : Bool := (Option.isNone r0)
br t7 (
Q (.int .i64 3) h) (
let t10 : Bool := decide (xn1 < 0)
br t10 (
J1 r0 xn1 true Q h) (
nilc r0 (fun t14 =>
∃ (t16 : Int), cellH h (Addr.add t14 1) = some (.int .i64 t16) ∧
let t17 : Bool := decide (xn1 > t16)
J1 r0 xn1 t17 Q h)))) : SpecH PP z186 [.pointer r0, .int .i64 xn1] h Q :=
  y12 (ann := ann) Tryd.func91 rfl rfl (by kernel_rfl) H
end z185
namespace z291
def ann : Ann := (.seq 18 (rg 4 18) (.seq 50 (rg 2 50) (.seq 114 (rg 4 114) (.seq 242 (rg 4 242) (.seq 498 (rg 4 498) (.seq 498 (.block (.seq 268435954 (rg 3 268435954) (.cond (.seq 28 (rg 4 28) (.exit 28)) (.seq 4294967794 (rg 7 4294967794) (.cond (.seq 28 (rg 3 28) (.exit 28)) .leaf))))) (.seq 1010 (rg 2 1010) (.seq 722 (.seq 15393162789618 (rg 4 15393162789618) (.block (.loop 15393162789618 (.seq 32985348834034 (rg 1 32985348834034) (.seq 15393162789618 (.cond .leaf (.exit 722)) (.seq 15393162789618 (.block (.seq 15393162791666 (rg 3 15393162791666) (rg 6 15393162789618))) (rg 2 15393162789618))))))) (.seq 722 (.seq 18014398509482706 (rg 2 18014398509482706) (.cond (.seq 28 (rg 4 28) (.exit 28)) .leaf)) (.seq 4306 (rg 7 4306) (.seq 4306 (.seq 4611686018427392210 (rg 2 4611686018427392210) (.cond (.seq 28 (rg 4 28) (.exit 28)) .leaf)) (.seq 12498 (rg 1 12498) (.seq 8272 (.block (.loop 12498 (.seq 12498 (.seq 590295810358705664210 (rg 6 590295810358705664210) (.cond .leaf (.exit 8272))) (.block (.seq 61650 (rg 8 61650) (.seq 28882 (.seq 151115727451828646899922 (rg 2 151115727451828646899922) (.cond (.seq 28 (rg 4 28) (.exit 28)) .leaf)) (.seq 127186 (rg 10 127186) (.seq 94418 (.seq 309485009821345068724908242 (rg 2 309485009821345068724908242) (.cond (.seq 28 (rg 4 28) (.exit 28)) .leaf)) (.seq 94418 (rg 1 94418) (.seq 143570 (rg 14 143570) (.seq 10141204801825835211973625655506 (rg 2 10141204801825835211973625655506) (.cond (.seq 28 (rg 3 28) (.exit 28)) .leaf)))))))))))) (.seq 28 (rg 11 28) (.exit 28)))))))))))))))
noncomputable abbrev cd := cdF Tryd.f92
abbrev an := anF ann
@[irreducible] def X1 (r1 e4 : Addr) (y94 y110 : Int) (codes9 : OA) (codes9n codes9c : Nat) : Fr := (mkFr 0 112 [(1, (.pointer (some r1))), (4, (.pointer (some e4))), (6, .int .i64 y94), (7, .int .i64 y110), (9, (.slice codes9 codes9n codes9c))])
@[irreducible] def Xret (lit2 : OA) (lit2n lit2c : Nat) (dist3 : OA) (y83 y84 : Nat) (e4 : Addr) : Fr := (mkFr 0 112 [(2, (.slice lit2 lit2n lit2c)), (3, (.slice dist3 y83 y84)), (4, (.pointer (some e4)))])
@[irreducible] def X3 (e4 : Addr) (y94 : Int) (xl13 : OA) (xl13n xl13c : Nat) : Fr := (mkFr 0 112 [(4, (.pointer (some e4))), (6, .int .i64 y94), (13, (.slice xl13 xl13n xl13c))])
@[irreducible] def L1 (r1 e4 : Addr) (take5 : Value) (y94 y110 : Int) (codes9 : OA) (codes9n codes9c : Nat) (t41 : OA) (t41n t41c : Nat) (t42 t43 : Int) (K : EP) (h : Heap) : Prop := Lp PP true (cd 4084) (mkFr 0 112 [(1, (.pointer (some r1))), (4, (.pointer (some e4))), (5, take5), (6, .int .i64 y94), (7, .int .i64 y110), (9, (.slice codes9 codes9n codes9c)), (41, (.slice t41 t41n t41c)), (42, .int .i64 t42), (43, .int .i64 t43)]) K h
@[irreducible] def K3 (Q : VP) : EP := seqK (fun fr h => ev PP true none (cd 511) (an 511) (fr.mask 722) (bodyK PP Tryd.f92 Q) h) (bodyK PP Tryd.f92 Q)
@[irreducible] def K1 (Q : VP) : EP := blockK 1 (K3 Q)
@[irreducible] def K4 (Q : VP) : EP := seqK (fun fr h => ev PP true none (cd 16383) (an 16383) (fr.mask 8272) (bodyK PP Tryd.f92 Q) h) (bodyK PP Tryd.f92 Q)
@[irreducible] def K2 (Q : VP) : EP := blockK 3 (K4 Q)
@[irreducible] def L2 (r1 e4 : Addr) (y94 y110 : Int) (d12 xl13 : OA) (xl13n xl13c : Nat) (K : EP) (h : Heap) : Prop := Lp PP true (cd 65528) (mkFr 0 112 [(1, (.pointer (some r1))), (4, (.pointer (some e4))), (6, .int .i64 y94), (7, .int .i64 y110), (12, .pointer d12), (13, (.slice xl13 xl13n xl13c))]) K h
theorem L1_of {r1 e4 : Addr} {take5 : Value} {y94 y110 : Int} {codes9 : OA} {codes9n codes9c : Nat} {t41 : OA} {t41n t41c : Nat} {t42 t43 : Int} {K : EP} {h : Heap} (H :
let t44 : Bool := decide (t43 < t42)
br t44 (
hwp PP (Instr.indexAt y14 (.slice t41 t41n t41c) (.int .i64 t43)) (fun v h1 => ∃ (t45 : Addr), v = (.pointer (some t45)) ∧
∃ (t46 : Int), cellH h1 t45 = some (.int .i64 t46) ∧
callV PP take5 [.int .i64 3] (fun v_1 h2 => ∃ (t50 : Int), v_1 = (.int .i64 t50) ∧
hwp PP (Instr.indexAt y14 (.slice codes9 codes9n codes9c) (.int .i64 t46)) (fun v_2 h3 => ∃ (t51 : Addr), v_2 = (.pointer (some t51)) ∧
wr t51 (.int .i64 t50) (fun h4 =>
let t52 : Int := IntKind.i64.wrap (t43 + 1)
L1 r1 e4 take5 y94 y110 codes9 codes9n codes9c t41 t41n t41c t42 t52 K h4) h3) h2) h1) h) (
K (.exit 1) (X1 r1 e4 y94 y110 codes9 codes9n codes9c) h)) : L1 r1 e4 take5 y94 y110 codes9 codes9n codes9c t41 t41n t41c t42 t43 K h := by unfold L1; exact Lp.of_txt (an 4084) 15393162789618 (by kernel_rfl) H
theorem L1_X1 {Q : VP} {r1 e4 : Addr} {y94 y110 : Int} {codes9 : OA} {codes9n codes9c : Nat} {h : Heap} (H :
∃ (t53 : Int), cellH h e4 = some (.int .i64 t53) ∧
let t54 : Bool := (t53 != 0)
br t54 (
∃ (t55 : Int), cellH h e4 = some (.int .i64 t55) ∧
wr e4 (.int .i64 t55) (fun h1 =>
∃ (e4_1 : Int), cellH h1 e4 = some (.int .i64 e4_1) ∧
Q (.tuple #[(.slice none 0 0), (.slice none 0 0), .int .i64 e4_1]) h1) h) (
SpecH PP z236 [(.slice codes9 codes9n codes9c)] h (fun v h2 => ∃ (t58 : OA) (t58_1 : Int), v = (.tuple #[.pointer t58, .int .i64 t58_1]) ∧
wr e4 (.int .i64 t58_1) (fun h3 =>
∃ (t61 : Int), cellH h3 e4 = some (.int .i64 t61) ∧
let t62 : Bool := (t61 != 0)
br t62 (
∃ (t63 : Int), cellH h3 e4 = some (.int .i64 t63) ∧
wr e4 (.int .i64 t63) (fun h4 =>
∃ (e4_2 : Int), cellH h4 e4 = some (.int .i64 e4_2) ∧
Q (.tuple #[(.slice none 0 0), (.slice none 0 0), .int .i64 e4_2]) h4) h3) (
L2 r1 e4 y94 y110 t58 none 0 0 (K2 Q) h3)) h2))) : (K1 Q) (.exit 1) (X1 r1 e4 y94 y110 codes9 codes9n codes9c) h := y19 (by kernel_rfl) H
theorem L2_of {r1 e4 : Addr} {y94 y110 : Int} {d12 xl13 : OA} {xl13n xl13c : Nat} {K : EP} {h : Heap} (H :
let t68 : Int := IntKind.i64.wrap (y94 + y110)
let t69 : Bool := decide ((xl13n : Int) < t68)
br t69 (
∃ (t72 : OA), cellH h r1 = some (.pointer t72) ∧
SpecH PP z230 [.pointer d12, .pointer t72] h (fun v h1 => ∃ (t73 t73_1 : Int), v = (.tuple #[.int .i64 t73, .int .i64 t73_1]) ∧
let t77 : Bool := (t73_1 != 0)
br t77 (
wr e4 (.int .i64 t73_1) (fun h2 =>
K .ret (Xret none 0 0 none 0 0 e4) h2) h1) (
∃ (t80 : OA), cellH h1 r1 = some (.pointer t80) ∧
hwp PP (Instr.indexAt y98 (.pointer (some ⟨G_lens_wide, 0, none⟩)) (.int .i64 t73)) (fun v_1 h3 => ∃ (t82 : Addr), v_1 = (.pointer (some t82)) ∧
∃ (t83 : Int), cellH h3 t82 = some (.int .i64 t83) ∧
SpecH PP z194 [.pointer t80, .int .i64 t83] h3 (fun v_2 h4 => ∃ (t84 t84_1 : Int), v_2 = (.tuple #[.int .u32 t84, .int .i64 t84_1]) ∧
let t88 : Bool := (t84_1 != 0)
br t88 (
wr e4 (.int .i64 t84_1) (fun h5 =>
K .ret (Xret none 0 0 none 0 0 e4) h5) h4) (
let t94 : Int := IntKind.i64.wrap t84
let t98 : Int := IntKind.i64.wrap (y94 + y110)
SpecH PP z286 [(.slice xl13 xl13n xl13c), (.agg #[.int .i64 t73, .int .i64 t94]), .int .i64 t98] h4 (fun v_3 h6 => ∃ (t99 : OA) (t99n t99c : Nat) (t99_1 : Bool), v_3 = (.tuple #[(.slice t99 t99n t99c), .bool t99_1]) ∧
let t103 : Bool := (!t99_1)
br t103 (
wr e4 (.int .i64 41) (fun h7 =>
K .ret (Xret none 0 0 none 0 0 e4) h7) h6) (
L2 r1 e4 y94 y110 d12 t99 t99n t99c K h6))))) h1))) (
K (.exit 3) (X3 e4 y94 xl13 xl13n xl13c) h)) : L2 r1 e4 y94 y110 d12 xl13 xl13n xl13c K h := by unfold L2; exact Lp.of_txt (an 65528) 12498 (by kernel_rfl) H
theorem L2_Xret {Q : VP} {lit2 : OA} {lit2n lit2c : Nat} {dist3 : OA} {y83 y84 : Nat} {e4 : Addr} {h : Heap} (H :
∃ (e4_1 : Int), cellH h e4 = some (.int .i64 e4_1) ∧
Q (.tuple #[(.slice lit2 lit2n lit2c), (.slice dist3 y83 y84), .int .i64 e4_1]) h) : (K2 Q) .ret (Xret lit2 lit2n lit2c dist3 y83 y84 e4) h := y19 (by kernel_rfl) H
theorem L2_X3 {Q : VP} {e4 : Addr} {y94 : Int} {xl13 : OA} {xl13n xl13c : Nat} {h : Heap} (H :
hwp PP (Instr.sliceAt y14 (.slice xl13 xl13n xl13c) none (some (.int .i64 y94)) none) (fun v h1 => ∃ (t106 : OA) (t106n t106c : Nat), v = (.slice t106 t106n t106c) ∧
SpecH PP z330 [(.slice t106 t106n t106c)] h1 (fun v_1 h2 => ∃ (t107 : OA) (t107n t107c : Nat), v_1 = (.slice t107 t107n t107c) ∧
hwp PP (Instr.sliceAt y14 (.slice xl13 xl13n xl13c) (some (.int .i64 y94)) none none) (fun v_2 h3 => ∃ (t110 : OA) (t110n t110c : Nat), v_2 = (.slice t110 t110n t110c) ∧
SpecH PP z330 [(.slice t110 t110n t110c)] h3 (fun v_3 h4 => ∃ (t111 : OA) (t111n t111c : Nat), v_3 = (.slice t111 t111n t111c) ∧
wr e4 (.int .i64 0) (fun h5 =>
∃ (e4_1 : Int), cellH h5 e4 = some (.int .i64 e4_1) ∧
Q (.tuple #[(.slice t107 t107n t107c), (.slice t111 t111n t111c), .int .i64 e4_1]) h5) h4)) h2)) h) : (K2 Q) (.exit 3) (X3 e4 y94 xl13 xl13n xl13c) h := y19 (by kernel_rfl) H
theorem door {r0 : OA} {Q : VP} {h : Heap} (H :
let r1 : Addr := ⟨Array.size h, 0, none⟩
let h1 : Heap := Array.push h (.cells #[.pointer r0] y34 (0, 0))
let e4 : Addr := ⟨Array.size h1, 0, none⟩
let h2 : Heap := Array.push h1 (.cells #[.int .i64 0] y44 (0, 0))
callV PP (.func (.func z294) #[] #[(.pointer (some r1)), (.pointer (some e4))]) [.int .i64 5] (fun v h3 => ∃ (t20 : Int), v = (.int .i64 t20) ∧
let t21 : Int := IntKind.i64.wrap (257 + t20)
callV PP (.func (.func z294) #[] #[(.pointer (some r1)), (.pointer (some e4))]) [.int .i64 5] (fun v_1 h4 => ∃ (t23 : Int), v_1 = (.int .i64 t23) ∧
let t24 : Int := IntKind.i64.wrap (1 + t23)
callV PP (.func (.func z294) #[] #[(.pointer (some r1)), (.pointer (some e4))]) [.int .i64 4] (fun v_2 h5 => ∃ (t26 : Int), v_2 = (.int .i64 t26) ∧
let t27 : Int := IntKind.i64.wrap (4 + t26)
∃ (t29 : Int), cellH h5 e4 = some (.int .i64 t29) ∧
let t30 : Bool := (t29 != 0)
br t30 (
∃ (t31 : Int), cellH h5 e4 = some (.int .i64 t31) ∧
wr e4 (.int .i64 t31) (fun h6 =>
∃ (e4_1 : Int), cellH h6 e4 = some (.int .i64 e4_1) ∧
Q (.tuple #[(.slice none 0 0), (.slice none 0 0), .int .i64 e4_1]) h6) h5) (
let t34 : Bool := decide (t21 > 286)
br t34 (
wr e4 (.int .i64 40) (fun h7 =>
∃ (e4_2 : Int), cellH h7 e4 = some (.int .i64 e4_2) ∧
Q (.tuple #[(.slice none 0 0), (.slice none 0 0), .int .i64 e4_2]) h7) h5) (
let t37 : Bool := decide (t24 > 30)
br t37 (
wr e4 (.int .i64 40) (fun h8 =>
∃ (e4_3 : Int), cellH h8 e4 = some (.int .i64 e4_3) ∧
Q (.tuple #[(.slice none 0 0), (.slice none 0 0), .int .i64 e4_3]) h8) h5) (
hwp PP (Instr.makeSlice y14 (.int .i64 19) (.int .i64 19)) (fun v_3 h9 => ∃ (t39 : OA) (t39n t39c : Nat), v_3 = (.slice t39 t39n t39c) ∧
hwp PP (Instr.sliceAt y98 (.pointer (some ⟨G_lens_order, 0, none⟩)) none (some (.int .i64 t27)) none) (fun v_4 h10 => ∃ (t41 : OA) (t41n t41c : Nat), v_4 = (.slice t41 t41n t41c) ∧
L1 r1 e4 (.func (.func z294) #[] #[(.pointer (some r1)), (.pointer (some e4))]) t21 t24 t39 t39n t39c t41 t41n t41c (t41n : Int) 0 (K1 Q) h10) h9) h5)))) h4) h3) h2) : SpecH PP z292 [.pointer r0] h Q :=
  y12 (ann := ann) Tryd.func92 rfl rfl (by kernel_rfl) H
end z291
namespace z351
def ann : Ann := (.seq 1039 (rg 1 1039) (.block (.loop 1039 (.seq 1039 (.seq 9231 (rg 3 9231) (.cond .leaf (.exit 0))) (.seq 1039 (.block (rg 24 1039)) (rg 3 1039))))))
noncomputable abbrev cd := cdF Tryd.f93
abbrev an := anF ann
@[irreducible] def X0  : Fr := (mkFr 0 38 [])
@[irreducible] def L1 (y9 : OA) (y6 y7 : Nat) (a1 b2 xn3 i10 : Int) (K : EP) (h : Heap) : Prop := Lp PP true (cd 12) (mkFr 0 38 [(0, (.slice y9 y6 y7)), (1, .int .i64 a1), (2, .int .i64 b2), (3, .int .i64 xn3), (10, .int .i64 i10)]) K h
@[irreducible] def K1 (Q : VP) : EP := blockK 0 (bodyK PP Tryd.f93 Q)
theorem L1_of {y9 : OA} {y6 y7 : Nat} {a1 b2 xn3 i10 : Int} {K : EP} {h : Heap} (H :
let t13 : Bool := decide (i10 < xn3)
br t13 (
let t19 : Int := IntKind.i64.wrap (a1 + i10)
let t23 : Int := IntKind.i64.wrap (b2 + i10)
let t27 : Int := IntKind.i64.wrap (b2 + i10)
hwp PP (Instr.indexAt y11 (.slice y9 y6 y7) (.int .i64 t27)) (fun v h1 => ∃ (t28 : Addr), v = (.pointer (some t28)) ∧
∃ (t29f0 : Int) (t29f1 : OA) (t29f1n t29f1c : Nat), rdCells h1 t28 0 [.int .i64 t29f0, (.slice t29f1 t29f1n t29f1c)] ∧
let t33 : Int := IntKind.i64.wrap (a1 + i10)
hwp PP (Instr.indexAt y11 (.slice y9 y6 y7) (.int .i64 t33)) (fun v_1 h2 => ∃ (t34 : Addr), v_1 = (.pointer (some t34)) ∧
∃ (t35f0 : Int) (t35f1 : OA) (t35f1n t35f1c : Nat), rdCells h2 t34 0 [.int .i64 t35f0, (.slice t35f1 t35f1n t35f1c)] ∧
hwp PP (Instr.indexAt y11 (.slice y9 y6 y7) (.int .i64 t19)) (fun v_2 h3 => ∃ (t36 : Addr), v_2 = (.pointer (some t36)) ∧
wrCells t36 0 [.int .i64 t29f0, (.slice t29f1 t29f1n t29f1c)] (fun h4 =>
hwp PP (Instr.indexAt y11 (.slice y9 y6 y7) (.int .i64 t23)) (fun v_3 h5 => ∃ (t37 : Addr), v_3 = (.pointer (some t37)) ∧
wrCells t37 0 [.int .i64 t35f0, (.slice t35f1 t35f1n t35f1c)] (fun h6 =>
let t15 : Int := IntKind.i64.wrap (i10 + 1)
L1 y9 y6 y7 a1 b2 xn3 t15 K h6) h5) h4) h3) h2) h1) h) (
K (.exit 0) (X0) h)) : L1 y9 y6 y7 a1 b2 xn3 i10 K h := by unfold L1; exact Lp.of_txt (an 12) 1039 (by kernel_rfl) H
theorem L1_X0 {Q : VP}  {h : Heap} (H :
Q (.tuple #[]) h) : (K1 Q) (.exit 0) (X0 ) h := y19 (by kernel_rfl) H
theorem door {y9 : OA} {y6 y7 : Nat} {a1 b2 xn3 : Int} {cmp4 : Value} {Q : VP} {h : Heap} (H :
L1 y9 y6 y7 a1 b2 xn3 0 (K1 Q) h) : SpecH PP z352 [(.slice y9 y6 y7), .int .i64 a1, .int .i64 b2, .int .i64 xn3, cmp4] h Q :=
  y12 (ann := ann) Tryd.func93 rfl rfl (by kernel_rfl) H
end z351
namespace z293
def ann : Ann := (.seq 7 (rg 1 7) (.seq 100 (rg 8 100) (.seq 32 (.seq 16484 (rg 2 16484) (.cond (rg 2 32) .leaf)) (.join (.seq 16 (rg 3 16) (.exit 16))))))
noncomputable abbrev cd := cdF Tryd.f94
abbrev an := anF ann
@[irreducible] def J1 (v5 : Int) (Q : VP) (h : Heap) : Prop := Jn PP true (cd 15) (mkFr 0 18 [(5, .int .u32 v5)]) (bodyK PP Tryd.f94 Q) h
theorem J1_of {v5 : Int} {Q : VP} {h : Heap} (H :
let t17 : Int := IntKind.i64.wrap v5
Q (.int .i64 t17) h) : J1 v5 Q h := by unfold J1; exact Jn.of_txt (an 15) (by kernel_rfl) H
theorem door {xn0 : Int} {t1 t2 : Addr} {Q : VP} {h : Heap} (H :
∃ (t8 : OA), cellH h t1 = some (.pointer t8) ∧
SpecH PP z194 [.pointer t8, .int .i64 xn0] h (fun v h1 => ∃ (t10 t10_1 : Int), v = (.tuple #[.int .u32 t10, .int .i64 t10_1]) ∧
∃ (t13 : Int), cellH h1 t2 = some (.int .i64 t13) ∧
let t14 : Bool := (t13 == 0)
br t14 (
wr t2 (.int .i64 t10_1) (fun h2 =>
J1 t10 Q h2) h1) (
J1 t10 Q h1))) : SpecH PP z294 [.int .i64 xn0, (.pointer (some t1)), (.pointer (some t2))] h Q :=
  y12 (ann := ann) Tryd.func94 rfl rfl (by kernel_rfl) H
end z293
namespace z285
def ann : Ann := (.seq 21 (rg 3 21) (.seq 21 (.seq 4294967317 (rg 23 4294967317) (.join (.cond (.seq 192 (rg 2 192) (.exit 192)) .leaf))) (.seq 789 (rg 4 789) (.seq 789 (.seq 137438954261 (rg 3 137438954261) (.cond (rg 9 789) .leaf)) (.join (.seq 773 (.seq 140737488356101 (rg 3 140737488356101) (.cond (.seq 517 (.seq 1125899906843141 (rg 3 1125899906843141) (.cond (.seq 192 (rg 2 192) (.exit 192)) .leaf)) (rg 7 773)) .leaf)) (.join (.seq 769 (.seq 4611686018427388673 (rg 6 4611686018427388673) (.cond (.seq 192 (rg 2 192) (.exit 192)) .leaf)) (.seq 192 (rg 8 192) (.exit 192))))))))))
noncomputable abbrev cd := cdF Tryd.f95
abbrev an := anF ann
@[irreducible] def K1 (Q : VP) : EP := seqK (fun fr h => ev PP true none (cd 7) (an 7) (fr.mask 21) (bodyK PP Tryd.f95 Q) h) (bodyK PP Tryd.f95 Q)
@[irreducible] def J1 (xl0 : OA) (xl0n xl0c : Nat) (xn2 : Int) (s4 : Addr) (t32 : Bool) (Q : VP) (h : Heap) : Prop := Jn PP true (cd 13) (mkFr 0 69 [(0, (.slice xl0 xl0n xl0c)), (2, .int .i64 xn2), (4, (.pointer (some s4))), (32, .bool t32)]) (K1 Q) h
@[irreducible] def J2 (xl0 : OA) (xl0n xl0c : Nat) (xn2 : Int) (s4 : Addr) (v8 k9 : Int) (Q : VP) (h : Heap) : Prop := Jn PP true (cd 31) (mkFr 0 69 [(0, (.slice xl0 xl0n xl0c)), (2, .int .i64 xn2), (4, (.pointer (some s4))), (8, .int .i64 v8), (9, .int .i64 k9)]) (bodyK PP Tryd.f95 Q) h
@[irreducible] def J3 (xl0 : OA) (xl0n xl0c : Nat) (xn2 v8 k9 : Int) (Q : VP) (h : Heap) : Prop := Jn PP true (cd 63) (mkFr 0 69 [(0, (.slice xl0 xl0n xl0c)), (2, .int .i64 xn2), (8, .int .i64 v8), (9, .int .i64 k9)]) (bodyK PP Tryd.f95 Q) h
theorem J1_of {xl0 : OA} {xl0n xl0c : Nat} {xn2 : Int} {s4 : Addr} {t32 : Bool} {Q : VP} {h : Heap} (H :
br t32 (
Q (.tuple #[(.slice none 0 0), .bool false]) h) (
∃ (t34 : Int), cellH h s4 = some (.int .i64 t34) ∧
∃ (t36 : Int), cellH h s4 = some (.int .i64 t36) ∧
let t37 : Bool := decide (t36 > 15)
br t37 (
∃ (t39 : Int), cellH h s4 = some (.int .i64 t39) ∧
hwp PP (Instr.indexAt y98 (.pointer (some ⟨G_lens_from, 0, none⟩)) (.int .i64 t39)) (fun v h1 => ∃ (t40 : Addr), v = (.pointer (some t40)) ∧
∃ (t41 : Int), cellH h1 t40 = some (.int .i64 t41) ∧
∃ (t43 : Int), cellH h1 (Addr.add s4 1) = some (.int .i64 t43) ∧
let t44 : Int := IntKind.i64.wrap (t41 + t43)
J2 xl0 xl0n xl0c xn2 s4 0 t44 Q h1) h) (
J2 xl0 xl0n xl0c xn2 s4 t34 1 Q h))) : J1 xl0 xl0n xl0c xn2 s4 t32 Q h := by unfold J1; exact Jn.of_txt (an 13) (by kernel_rfl) H
theorem J2_of {xl0 : OA} {xl0n xl0c : Nat} {xn2 : Int} {s4 : Addr} {v8 k9 : Int} {Q : VP} {h : Heap} (H :
∃ (t46 : Int), cellH h s4 = some (.int .i64 t46) ∧
let t47 : Bool := (t46 == 16)
br t47 (
let t50 : Bool := ((xl0n : Int) == 0)
br t50 (
Q (.tuple #[(.slice none 0 0), .bool false]) h) (
let t54 : Int := IntKind.i64.wrap ((xl0n : Int) - 1)
hwp PP (Instr.indexAt y14 (.slice xl0 xl0n xl0c) (.int .i64 t54)) (fun v h1 => ∃ (t55 : Addr), v = (.pointer (some t55)) ∧
∃ (t56 : Int), cellH h1 t55 = some (.int .i64 t56) ∧
J3 xl0 xl0n xl0c xn2 t56 k9 Q h1) h)) (
J3 xl0 xl0n xl0c xn2 v8 k9 Q h)) : J2 xl0 xl0n xl0c xn2 s4 v8 k9 Q h := by unfold J2; exact Jn.of_txt (an 31) (by kernel_rfl) H
theorem J3_of {xl0 : OA} {xl0n xl0c : Nat} {xn2 v8 k9 : Int} {Q : VP} {h : Heap} (H :
let t60 : Int := IntKind.i64.wrap ((xl0n : Int) + k9)
let t62 : Bool := decide (t60 > xn2)
br t62 (
Q (.tuple #[(.slice none 0 0), .bool false]) h) (
let h1 : Heap := Array.push h (.cells #[.int .i64 v8] y18 (0, 0))
SpecH PP z342 [(.slice (some ⟨Array.size h, 0, none⟩) 1 1), .int .i64 k9] h1 (fun v h2 => ∃ (t67 : OA) (t67n t67c : Nat), v = (.slice t67 t67n t67c) ∧
hwp PP (Builtin.append_ #[y14, y14] y14 #[(.slice xl0 xl0n xl0c), (.slice t67 t67n t67c)]) (fun v_1 h3 => ∃ (t68 : OA) (t68n t68c : Nat), v_1 = (.slice t68 t68n t68c) ∧
Q (.tuple #[(.slice t68 t68n t68c), .bool true]) h3) h2))) : J3 xl0 xl0n xl0c xn2 v8 k9 Q h := by unfold J3; exact Jn.of_txt (an 63) (by kernel_rfl) H
theorem door {xl0 : OA} {xl0n xl0c : Nat} {s1f0 s1f1 xn2 : Int} {Q : VP} {h : Heap} (H :
let s4 : Addr := ⟨Array.size h, 0, none⟩
let h1 : Heap := Array.push h (.cells #[.int .i64 s1f0, .int .i64 s1f1] y73 (0, 0))
∃ (t11 : Int), cellH h1 s4 = some (.int .i64 t11) ∧
let t12 : Bool := decide (t11 < 0)
br t12 (
J1 xl0 xl0n xl0c xn2 s4 true Q h1) (
∃ (t15 : Int), cellH h1 s4 = some (.int .i64 t15) ∧
let t16 : Bool := decide (t15 ≥ 19)
br t16 (
J1 xl0 xl0n xl0c xn2 s4 true Q h1) (
∃ (t20 : Int), cellH h1 (Addr.add s4 1) = some (.int .i64 t20) ∧
let t21 : Bool := decide (t20 < 0)
br t21 (
J1 xl0 xl0n xl0c xn2 s4 true Q h1) (
∃ (t25 : Int), cellH h1 (Addr.add s4 1) = some (.int .i64 t25) ∧
∃ (t27 : Int), cellH h1 s4 = some (.int .i64 t27) ∧
hwp PP (Instr.indexAt y98 (.pointer (some ⟨G_lens_wide, 0, none⟩)) (.int .i64 t27)) (fun v h2 => ∃ (t28 : Addr), v = (.pointer (some t28)) ∧
∃ (t29 : Int), cellH h2 t28 = some (.int .i64 t29) ∧
br (decide (0 ≤ t29)) (
let t30 : Int := sShl .i64 1 t29
let t31 : Bool := decide (t25 ≥ t30)
J1 xl0 xl0n xl0c xn2 s4 t31 Q h2) False) h1)))) : SpecH PP z286 [(.slice xl0 xl0n xl0c), (.agg #[.int .i64 s1f0, .int .i64 s1f1]), .int .i64 xn2] h Q :=
  y12 (ann := ann) Tryd.func95 rfl rfl (by kernel_rfl) H
end z285
namespace z329
def ann : Ann := (.seq 1 (rg 1 1) (.seq 1 (.seq 17 (rg 2 17) (.cond (.seq 4 (rg 1 4) (.exit 4)) .leaf)) (.seq 4 (rg 4 4) (.exit 4))))
theorem door {s0 : OA} {s0n s0c : Nat} {Q : VP} {h : Heap} (H :
let t4 : Bool := (Option.isNone s0)
br t4 (
Q (.slice none 0 0) h) (
let h1 : Heap := Array.push h (.cells #[] y18 (0, 0))
hwp PP (Builtin.append_ #[y14, y14] y14 #[(.slice (some ⟨Array.size h, 0, none⟩) 0 0), (.slice s0 s0n s0c)]) (fun v h2 => ∃ (t7 : OA) (t7n t7c : Nat), v = (.slice t7 t7n t7c) ∧
Q (.slice t7 t7n t7c) h2) h1)) : SpecH PP z330 [(.slice s0 s0n s0c)] h Q :=
  y12 (ann := ann) Tryd.func96 rfl rfl (by kernel_rfl) H
end z329

end Go.Proofs.YtmkjmmpldepknaaDoor

set_option maxRecDepth 20000
namespace Go.Proofs.YtmkjmmpldepknaaDoor
open Go Go.HW
structure Pk where
 w : Nat
 a : OA
 n : Nat
 c : Nat
 deriving Inhabited
def Pk.v (p : Pk) : Int := ((p.w % 4611686018427387904 : Nat) : Int)
def pkV (p : Pk) : List Value := [.int .i64 p.v, .slice p.a p.n p.c]
namespace Stb
open Go.Sort Go.HW.Sym
variable {h : Heap} {L : List Assn} {Q : Value → Heap → Prop} {a : OA} {n c : Nat}
def S (a : OA) (n c : Nat) (d : Array Pk) : Assn := own a n c y17 2 (d.toList.flatMap pkV)
theorem phl (x : Pk) : (pkV x).length = 2 := rfl
def CmpOk (cmp : Value) (lt : Pk → Pk → Bool) : Prop := ∀ (x y : Pk) (M : List Assn) (h : Heap) (R : VP), Hs h M → (∀ h' (r : Int), decide (r < 0) = lt x y → Hs h' M → R (.int .i64 r) h') → callV PP cmp [.agg #[.int .i64 x.v, .slice x.a x.n x.c], .agg #[.int .i64 y.v, .slice y.a y.n y.c]] R h
theorem wI {x : Int} (h1 : -9223372036854775808 ≤ x) (h2 : x < 9223372036854775808) : IntKind.i64.wrap x = x := y46 h1 h2
theorem wA {i j : Nat} (h : i + j < 2 ^ 62) : IntKind.i64.wrap ((i : Int) + (j : Int)) = ((i + j : Nat) : Int) := by rw [wI (by omega) (by omega)]; omega
theorem wS {i j : Nat} (h : j ≤ i) (h2 : i < 2 ^ 62) : IntKind.i64.wrap ((i : Int) - (j : Int)) = ((i - j : Nat) : Int) := by rw [wI (by omega) (by omega)]; omega
theorem w1 {i : Nat} (h : i < 2 ^ 62) : IntKind.i64.wrap ((i : Int) + 1) = ((i + 1 : Nat) : Int) := by rw [wI (by omega) (by omega)]; omega
theorem p1 {i : Nat} (h : 1 ≤ i) (h2 : i < 2 ^ 62) : IntKind.i64.wrap ((i : Int) - 1) = ((i - 1 : Nat) : Int) := by rw [wI (by omega) (by omega)]; omega
theorem wH {i j : Nat} (h : i + j < 2 ^ 62) : IntKind.i64.wrap (sShr .u64 (IntKind.u64.wrap (IntKind.i64.wrap ((i : Int) + (j : Int)))) 1) = (((i + j) / 2 : Nat) : Int) := by
 rw [wA h, y113 (by omega), show (1 : Int) = ((1 : Nat) : Int) from rfl, shr_u64 (by omega), Nat.pow_one, wI (by omega) (by omega)]
theorem toL {d : Array Pk} {i : Nat} (hi : i < d.size) : d.toList[i]? = some d[i]! := by simp [hi]
theorem lk {d : Array Pk} {i : Nat} {M : List Assn} (hn : d.size = n) (hi : i < n) (H : Hs h (S a n c d :: M)) {R : Addr → Heap → Prop} (K : ∀ t, rdCells h t 0 (pkV d[i]!) → R t h) :
  hwp PP (Instr.indexAt y11 (.slice a n c) (.int .i64 (i : Int))) (fun u h1 => ∃ t, u = .pointer (some t) ∧ R t h1) h :=
 idxf y104 (φ := pkV) (l := d.toList) (x := d[i]!) H.rd phl (by decide) (by omega) (by omega) (by rw [Int.toNat_natCast]; exact toL (by omega)) K
theorem pk_one (x : Pk) : ∀ v ∈ pkV x, oneC v = true := fun v hv => by
 simp only [pkV, List.mem_cons, List.not_mem_nil, or_false] at hv
 rcases hv with rfl | rfl <;> rfl
theorem swap_hs {d : Array Pk} {i j : Nat} (hn : d.size = n) (hi : i < n) (hj : j < n) (H : Hs h (S a n c d :: L)) {K : Heap → Prop} (k : ∀ h', Hs h' (S a n c (swp d i j) :: L) → K h') :
  hwp PP (Instr.indexAt y11 (.slice a n c) (.int .i64 (j : Int))) (fun v h1 => ∃ (t88 : Addr), v = (.pointer (some t88)) ∧
  ∃ (f0 : Int) (f1 : OA) (f1n f1c : Nat), rdCells h1 t88 0 [(.int .i64 f0), (.slice f1 f1n f1c)] ∧
  hwp PP (Instr.indexAt y11 (.slice a n c) (.int .i64 (i : Int))) (fun v_1 h2 => ∃ (t92 : Addr), v_1 = (.pointer (some t92)) ∧
  ∃ (g0 : Int) (g1 : OA) (g1n g1c : Nat), rdCells h2 t92 0 [(.int .i64 g0), (.slice g1 g1n g1c)] ∧
  hwp PP (Instr.indexAt y11 (.slice a n c) (.int .i64 (i : Int))) (fun v_2 h3 => ∃ (t94 : Addr), v_2 = (.pointer (some t94)) ∧
  wrCells t94 0 [(.int .i64 f0), (.slice f1 f1n f1c)] (fun h4 =>
  hwp PP (Instr.indexAt y11 (.slice a n c) (.int .i64 (j : Int))) (fun v_3 h5 => ∃ (t96 : Addr), v_3 = (.pointer (some t96)) ∧
  wrCells t96 0 [(.int .i64 g0), (.slice g1 g1n g1c)] K h5) h4) h3) h2) h1) h := by
 refine lk hn hj H fun t ht => ⟨_, _, _, _, ht, ?_⟩
 refine lk hn hi H fun t ht => ⟨_, _, _, _, ht, ?_⟩
 refine Hs.idx_wrf (φ := pkV) d[j]! y104 H (by omega) (by omega) phl (by decide) (pk_one _) fun h4 H4 => ?_
 refine Hs.idx_wrf (φ := pkV) d[i]! y104 H4 (by omega) (by omega) phl (by decide) (pk_one _) fun h6 H6 => ?_
 refine k h6 ?_
 have e : (d.toList.set (i : Int).toNat d[j]!).set (j : Int).toNat d[i]! = (swp d i j).toList := by
  rw [Int.toNat_natCast, Int.toNat_natCast, swp, Array.toList_setIfInBounds, Array.toList_setIfInBounds]
 rw [e] at H6
 exact H6
theorem swp_size {d : Array Pk} {i j : Nat} : (swp d i j).size = d.size := by simp [swp]
variable {cmp : Value} {lt : Pk → Pk → Bool}
theorem insertion_hs (hc : CmpOk cmp lt) {d : Array Pk} {x y : Nat} (hn : d.size = n) (hxy : x ≤ y) (hy : y ≤ n) (hmax : n < 2 ^ 60) (H : Hs h (S a n c d :: L)) (k : ∀ h', Hs h' (S a n c (insertionSort lt d x y) :: L) → Q (.tuple #[]) h') :
    SpecH PP z346 [.slice a n c, .int .i64 (x : Int), .int .i64 (y : Int), cmp] h Q := by
  refine z345.door ?_
  dsimp only
  rw [w1 (by omega)]
  have inn : ∀ (j : Nat) {i : Nat} {K : EP} {h : Heap} {e f : Array Pk}, j < n → e.size = n → insInner lt x j e = f → (∀ h', Hs h' (S a n c f :: L) → z345.K2 K (.exit 2) (z345.X2 a n c (x : Int) (y : Int) cmp (i : Int)) h') →
      Hs h (S a n c e :: L) → z345.L2 a n c (x : Int) (y : Int) cmp (i : Int) (j : Int) (z345.K2 K) h := by
    intro j
    induction j with
    | zero =>
      intro i K h e f hj hs he kk H
      rw [insInner] at he
      refine z345.L2_of (y5 (decide_eq_false (by omega)) (kk h ?_))
      rw [← he]; exact H
    | succ j ih =>
      intro i K h e f hj hs he kk H
      rw [insInner] at he
      refine z345.L2_of ((y20 _ _ _).2 ⟨fun e1 => ?_, fun e1 => kk h ?_⟩)
      · have e1 := of_decide_eq_true e1
        rw [p1 (by omega) (by omega), show j + 1 - 1 = j by omega]
        refine lk hs hj H fun t ht => ⟨_, _, _, _, ht, ?_⟩
        refine lk hs (by omega) H fun t ht => ⟨_, _, _, _, ht, ?_⟩
        refine hc e[j + 1]! e[j]! _ _ _ H fun h1 r hr H1 => ⟨_, rfl, ?_⟩
        dsimp only
        rw [hr]
        refine (y20 _ _ _).2 ⟨fun e2 => ?_, fun e2 => kk h1 ?_⟩
        · rw [if_pos (by rw [e2, decide_eq_true (by omega)]; rfl)] at he
          refine swap_hs hs hj (by omega) H1 fun h2 H2 => ?_
          exact ih (by omega) (by rw [swp_size]; exact hs) he kk H2
        · rw [if_neg (by rw [e2]; simp)] at he
          rw [← he]; exact H1
      · have e1 := of_decide_eq_false e1
        rw [if_neg (by rw [decide_eq_false (by omega)]; simp)] at he
        rw [← he]; exact H
  have go : ∀ (r i : Nat) {h : Heap} {e : Array Pk}, y ≤ i + r → i ≤ y + 1 → e.size = n → insOuter lt x y i e = insertionSort lt d x y → Hs h (S a n c e :: L) → z345.L1 a n c (x : Int) (y : Int) cmp (i : Int) (z345.K1 Q) h := by
    intro r
    induction r with
    | zero =>
      intro i h e hr hi hs he H
      rw [insOuter, if_neg (by omega)] at he
      refine z345.L1_of (y5 (decide_eq_false (by omega)) (z345.L1_X0 (k h ?_)))
      rw [← he]; exact H
    | succ r ih =>
      intro i h e hr hi hs he H
      rw [insOuter] at he
      refine z345.L1_of ((y20 _ _ _).2 ⟨fun e1 => ?_, fun e1 => z345.L1_X0 (k h ?_)⟩)
      · have e1 := of_decide_eq_true e1
        rw [if_pos (by omega)] at he
        have sz : ∀ (j : Nat) (e : Array Pk), (insInner lt x j e).size = e.size := by
          intro j
          induction j with
          | zero => intro e; rfl
          | succ j ih => intro e; rw [insInner]; split
                         · rw [ih, swp_size]
                         · rfl
        refine inn i (i := i) (by omega) hs rfl (fun h2 H2 => z345.L2_X2 ?_) H
        dsimp only
        rw [w1 (by omega)]
        exact ih (i + 1) (by omega) (by omega) (by rw [sz]; exact hs) he H2
      · have e1 := of_decide_eq_false e1
        rw [if_neg (by omega)] at he
        rw [← he]; exact H
  exact go y (x + 1) (by omega) (by omega) hn rfl H
theorem swapRange_hs {d : Array Pk} {x y m : Nat} (hn : d.size = n) (hxy : x + m ≤ y) (hy : y + m ≤ n) (hmax : n < 2 ^ 60) (H : Hs h (S a n c d :: L)) (k : ∀ h' d', Swr x y m d d' → Hs h' (S a n c d' :: L) → Q (.tuple #[]) h') :
  SpecH PP z352 [.slice a n c, .int .i64 (x : Int), .int .i64 (y : Int), .int .i64 (m : Int), cmp] h Q := by
 refine z351.door ?_
 have go : ∀ (r i : Nat) {h : Heap} {e : Array Pk}, i + r = m → Swr x y i d e → Hs h (S a n c e :: L) → z351.L1 a n c (x : Int) (y : Int) (m : Int) (i : Int) (z351.K1 Q) h := by
  intro r
  induction r with
  | zero =>
   intro i h e hr he H
   obtain rfl : i = m := by omega
   exact z351.L1_of (y5 (decide_eq_false (by omega)) (z351.L1_X0 (k h e he H)))
  | succ r ih =>
   intro i h e hr he H
   have hs := he.1
   refine z351.L1_of (y10 (decide_eq_true (by omega)) ?_)
   dsimp only
   rw [wA (i := x) (j := i) (by omega), wA (i := y) (j := i) (by omega), w1 (by omega)]
   exact swap_hs (by omega) (by omega) (by omega) H fun h2 H2 => ih (i + 1) (by omega) (he.succ (by omega) (by omega)) H2
 exact go m 0 (by omega) (Swr.zero _ _ _) H
theorem rotate_hs {d : Array Pk} {x m y : Nat} (hn : d.size = n) (hxm : x < m) (hmy : m < y) (hy : y ≤ n) (hmax : n < 2 ^ 60) (H : Hs h (S a n c d :: L)) (k : ∀ h' d', Rot x m y d d' → Hs h' (S a n c d' :: L) → Q (.tuple #[]) h') :
  SpecH PP z348 [.slice a n c, .int .i64 (x : Int), .int .i64 (m : Int), .int .i64 (y : Int), cmp] h Q := by
 refine z347.door ?_
 dsimp only
 rw [wS (by omega) (by omega), wS (by omega) (by omega)]
 have go : ∀ (r i j : Nat) {h : Heap} {e : Array Pk}, i + j ≤ r → 0 < i → 0 < j → i ≤ m - x → j ≤ y - m → Todo x m y i j d e → Hs h (S a n c e :: L) → z347.L1 a n c (m : Int) cmp (i : Int) (j : Int) (z347.K1 Q) h := by
  intro r
  induction r with
  | zero => intro i j h e hr hi hj; omega
  | succ r ih =>
   intro i j h e hr hi hj him hjm he H
   have hs : e.size = n := by rw [he.1.1, hn]
   refine z347.L1_of ((y20 _ _ _).2 ⟨fun e1 => (y20 _ _ _).2 ⟨fun e2 => ?_, fun e2 => ?_⟩, fun e1 => z347.L1_X0 ?_⟩)
   ·have e2 := of_decide_eq_true e2
    dsimp only
    rw [wS (i := m) (j := i) (by omega) (by omega), wS (i := i) (j := j) (by omega) (by omega)]
    exact swapRange_hs hs (by omega) (by omega) hmax H fun h2 d2 h3 H2 => ⟨rfl, ih (i - j) j (by omega) (by omega) hj (by omega) hjm (he.left him hjm (by omega) (by omega) (by omega) (by omega) h3) H2⟩
   ·have e2 := of_decide_eq_false e2
    have hne : i ≠ j := by intro hh; subst hh; simp at e1
    dsimp only
    rw [wS (i := m) (j := i) (by omega) (by omega), wA (i := m) (j := j) (by omega), wS (i := m + j) (j := i) (by omega) (by omega), wS (i := j) (j := i) (by omega) (by omega)]
    exact swapRange_hs hs (by omega) (by omega) hmax H fun h2 d2 h3 H2 => ⟨rfl, ih i (j - i) (by omega) hi (by omega) him (by omega) (he.right him hjm (by omega) (by omega) (by omega) (by omega) h3) H2⟩
   ·have : i = j := by
     have := bne_eq_false_iff_eq.1 e1
     omega
    subst this
    dsimp only
    rw [wS (i := m) (j := i) (by omega) (by omega)]
    exact swapRange_hs hs (by omega) (by omega) hmax H fun h2 d2 h3 H2 => ⟨rfl, k h2 d2 (he.done him hjm (by omega) (by omega) (by omega) h3) H2⟩
 exact go _ _ _ (Nat.le_refl _) (by omega) (by omega) (Nat.le_refl _) (Nat.le_refl _) (Todo.start d (by omega) (by omega)) H
end Stb
end Go.Proofs.YtmkjmmpldepknaaDoor

set_option maxRecDepth 20000
namespace Go.Proofs.YtmkjmmpldepknaaDoor.Stb
open Go Go.HW Go.Sort Go.HW.Sym
variable {h : Heap} {L : List Assn} {Q : Value → Heap → Prop} {a : OA} {n c : Nat} {cmp : Value} {lt : Pk → Pk → Bool}
theorem sym_one_left (hc : CmpOk cmp lt) (hO : SWO lt) {d : Array Pk} {x y : Nat} (hn : d.size = n) (hxy : x + 1 < y) (hy : y ≤ n) (hmax : n < 2 ^ 60) (h2 : SortedIn lt (x + 1) y d) (H : Hs h (S a n c d :: L))
  (k : ∀ h' d', PermIn x y d d' → SortedIn lt x y d' → Hs h' (S a n c d' :: L) → Q (.tuple #[]) h') : z353.L1 a n c (x : Int) cmp ((x + 1 : Nat) : Int) (y : Int) (z353.K1 Q) h := by
 have go : ∀ (r i j : Nat) {h : Heap}, j ≤ i + r → x + 1 ≤ i → i ≤ j → j ≤ y → (x + 1 < i → lt d[x]! d[i - 1]! = false) → (j < y → lt d[j]! d[x]! = false) → Hs h (S a n c d :: L) →
   z353.L1 a n c (x : Int) cmp (i : Int) (j : Int) (z353.K1 Q) h := by
  intro r
  induction r with
  | zero =>
   intro i j h hr hi hij hj f1 f2 H
   obtain rfl : i = j := by omega
   refine z353.L1_of (y5 (decide_eq_false (by omega)) (z353.L1_X0 ?_))
   have up : ∀ (r q : Nat) {h : Heap} {e : Array Pk}, q + r + 1 = i → x ≤ q → Rot x (x + 1) (q + 1) d e → Hs h (S a n c e :: L) → z353.L3 a n c (i : Int) (q : Int) (z353.K3 Q) h := by
    intro r
    induction r with
    | zero =>
     intro q h e hr hq he H
     refine z353.L3_of (y5 (decide_eq_false ?_) (z353.L3_X2 (k h e ?_ ?_ H)))
     ·rw [p1 (by omega) (by omega)]; omega
     ·exact permIn_mono _ _ _ _ _ _ (Nat.le_refl _) (by omega) (by omega) he.1
     ·exact ins_left hO h2 hi hj f1 f2 (by rw [show i = q + 1 by omega]; exact he)
    | succ r ih2 =>
     intro q h e hr hq he H
     have hs : e.size = n := by rw [he.1.1, hn]
     refine z353.L3_of (y10 (decide_eq_true ?_) ?_)
     ·rw [p1 (by omega) (by omega)]; omega
     ·dsimp only
      rw [w1 (by omega)]
      exact swap_hs hs (by omega) (by omega) H fun h3 H3 => ih2 (q + 1) (by omega) (by omega) (he.up hq (by omega)) H3
   exact up (i - x - 1) x (by omega) (Nat.le_refl _) (Rot.none d (Or.inr (Nat.le_refl _)) (by omega) (Nat.le_refl _)) H
  | succ r ih =>
   intro i j h hr hi hij hj f1 f2 H
   rcases Nat.lt_or_ge i j with hlt | hge
   ·refine z353.L1_of (y10 (decide_eq_true (by omega)) ?_)
    dsimp only
    rw [wH (by omega)]
    refine lk hn (by omega) H fun t ht => ⟨_, _, _, _, ht, ?_⟩
    refine lk hn (by omega) H fun t ht => ⟨_, _, _, _, ht, ?_⟩
    refine hc d[(i + j) / 2]! d[x]! _ _ _ H fun h1 r1 hr1 H1 => ⟨_, rfl, ?_⟩
    rw [hr1]
    refine (y20 _ _ _).2 ⟨fun e => ?_, fun e => ?_⟩
    ·rw [w1 (by omega)]
     exact ih _ _ (by omega) (by omega) (by omega) hj (fun _ => by rw [Nat.add_sub_cancel]; exact lt_le hO e) f2 H1
    ·exact ih _ _ (by omega) hi (by omega) (by omega) f1 (fun _ => e) H1
   ·exact ih i j (by omega) hi hij hj f1 f2 H
 exact go y (x + 1) y (by omega) (Nat.le_refl _) (by omega) (Nat.le_refl _) (fun h => by omega) (fun h => by omega) H
theorem sym_one_right (hc : CmpOk cmp lt) (hO : SWO lt) {d : Array Pk} {x m : Nat} (hn : d.size = n) (hxm : x < m) (hy : m < n) (hmax : n < 2 ^ 60) (h1 : SortedIn lt x m d) (H : Hs h (S a n c d :: L))
  (k : ∀ h' d', PermIn x (m + 1) d d' → SortedIn lt x (m + 1) d' → Hs h' (S a n c d' :: L) → Q (.tuple #[]) h') : z353.L2 a n c (m : Int) cmp (x : Int) (m : Int) (z353.K2 Q) h := by
 have go : ∀ (r i j : Nat) {h : Heap}, j ≤ i + r → x ≤ i → i ≤ j → j ≤ m → (x < i → lt d[m]! d[i - 1]! = false) → (j < m → lt d[j]! d[m]! = false) → Hs h (S a n c d :: L) →
   z353.L2 a n c (m : Int) cmp (i : Int) (j : Int) (z353.K2 Q) h := by
  intro r
  induction r with
  | zero =>
   intro i j h hr hi hij hj f1 f2 H
   obtain rfl : i = j := by omega
   refine z353.L2_of (y5 (decide_eq_false (by omega)) (z353.L2_X4 ?_))
   have dn : ∀ (r q : Nat) {h : Heap} {e : Array Pk}, i + r = q → q ≤ m → Rot q m (m + 1) d e → Hs h (S a n c e :: L) → z353.L4 a n c (i : Int) (q : Int) (z353.K4 Q) h := by
    intro r
    induction r with
    | zero =>
     intro q h e hr hq he H
     obtain rfl : i = q := by omega
     refine z353.L4_of (y5 (decide_eq_false (by omega)) (z353.L4_X6 (k h e ?_ ?_ H)))
     ·exact permIn_mono _ _ _ _ _ _ hi (Nat.le_refl _) (by omega) he.1
     ·exact ins_right hO h1 hi hj f1 f2 he
    | succ r ih2 =>
     intro q h e hr hq he H
     have hs : e.size = n := by rw [he.1.1, hn]
     obtain ⟨q, rfl⟩ : ∃ q', q = q' + 1 := ⟨q - 1, by omega⟩
     refine z353.L4_of (y10 (decide_eq_true (by omega)) ?_)
     dsimp only
     rw [p1 (by omega) (by omega), Nat.add_sub_cancel]
     exact swap_hs hs (by omega) (by omega) H fun h3 H3 => ih2 q (by omega) (by omega) (he.down hq (by omega)) H3
   exact dn (m - i) m (by omega) (Nat.le_refl _) (Rot.none d (Or.inl (Nat.le_refl _)) (Nat.le_refl _) (by omega)) H
  | succ r ih =>
   intro i j h hr hi hij hj f1 f2 H
   rcases Nat.lt_or_ge i j with hlt | hge
   ·refine z353.L2_of (y10 (decide_eq_true (by omega)) ?_)
    dsimp only
    rw [wH (by omega)]
    refine lk hn (by omega) H fun t ht => ⟨_, _, _, _, ht, ?_⟩
    refine lk hn (by omega) H fun t ht => ⟨_, _, _, _, ht, ?_⟩
    refine hc d[m]! d[(i + j) / 2]! _ _ _ H fun h1 r1 hr1 H1 => ⟨_, rfl, ?_⟩
    rw [hr1]
    refine (y20 _ _ _).2 ⟨fun e => ?_, fun e => ?_⟩
    ·rw [w1 (by omega)]
     exact ih _ _ (by omega) (by omega) (by omega) hj (fun _ => by rw [Nat.add_sub_cancel]; simpa using e) f2 H1
    ·exact ih _ _ (by omega) hi (by omega) (by omega) f1 (fun _ => lt_le hO (by simpa using e)) H1
   ·exact ih i j (by omega) hi hij hj f1 f2 H
 exact go m x m (by omega) (Nat.le_refl _) (by omega) (Nat.le_refl _) (fun h => by omega) (fun h => by omega) H
theorem symMerge_hs (hc : CmpOk cmp lt) (hO : SWO lt) (hmax : n < 2 ^ 60) : ∀ (f : Nat) {d : Array Pk} {x m y : Nat} {h : Heap} {Q : VP}, y ≤ x + f → d.size = n → x < m → m < y → y ≤ n → SortedIn lt x m d → SortedIn lt m y d → Hs h (S a n c d :: L) →
  (∀ h' d', PermIn x y d d' → SortedIn lt x y d' → Hs h' (S a n c d' :: L) → Q (.tuple #[]) h') → SpecH PP z354 [.slice a n c, .int .i64 (x : Int), .int .i64 (m : Int), .int .i64 (y : Int), cmp] h Q := by
 intro f
 induction f with
 | zero => intro d x m y h Q hf; omega
 | succ f ih =>
  intro d x m y h Q hf hn hxm hmy hy s1 s2 H k
  refine z353.door ?_
  dsimp only
  rw [wS (i := m) (j := x) (by omega) (by omega), wS (i := y) (j := m) (by omega) (by omega), wH (i := x) (j := y) (by omega), wA (i := (x + y) / 2) (j := m) (by omega)]
  refine (y20 _ _ _).2 ⟨fun e1 => ?_, fun e1 => (y20 _ _ _).2 ⟨fun e2 => ?_, fun e2 => ?_⟩⟩
  ·obtain rfl : m = x + 1 := by have := beq_iff_eq.1 e1; omega
   exact sym_one_left hc hO hn hmy hy hmax s2 H k
  ·obtain rfl : y = m + 1 := by have := beq_iff_eq.1 e2; omega
   exact sym_one_right hc hO hn hxm (by omega) hmax s1 H k
  ·have g1 : m - x ≠ 1 := fun hh => by rw [hh] at e1; simp at e1
   have g2 : y - m ≠ 1 := fun hh => by rw [hh] at e2; simp at e2
   generalize hmid : (x + y) / 2 = mid
   have tail : ∀ (lo hi s : Nat) {h : Heap}, lo ≤ s → s ≤ hi → (mid < m ∧ lo = mid + m - y ∧ hi = mid ∨ m ≤ mid ∧ lo = x ∧ hi = m) → (lo < s → lt d[mid + m - s]! d[s - 1]! = false) → (s < hi → lt d[mid + m - 1 - s]! d[s]! = true) → Hs h (S a n c d :: L) →
     z353.K5 Q (.exit 8) (z353.X8 a n c (x : Int) (m : Int) (y : Int) cmp (mid : Int) ((mid + m : Nat) : Int) (s : Int)) h := by
    intro lo hi s h h1 h2 hcase f1 f2 H
    refine z353.L5_X8 ?_
    dsimp only
    rw [wS (i := mid + m) (j := s) (by omega) (by omega)]
    generalize hee : mid + m - s = e
    have J3 : ∀ {h : Heap} {d1 : Array Pk}, Rot s m e d d1 → Hs h (S a n c d1 :: L) → z353.J3 a n c (x : Int) (y : Int) cmp (mid : Int) (s : Int) (e : Int) Q h := by
     intro h d1 hrot H
     have hs1 : d1.size = n := by rw [hrot.1.1, hn]
     obtain ⟨q1, q2, q3, q4, q5⟩ := sym_parts hO (mid := mid) s1 s2 (by omega) (by omega) (by omega) (by omega) (by omega) (fun a1 a2 => by rw [← hee]; exact f1 (by omega)) (fun a1 a2 => by
      have := f2 (by omega); rwa [show mid + m - 1 - s = e - 1 by omega] at this) hrot
     have p1 : PermIn x y d d1 := permIn_mono _ _ _ _ _ _ (by omega) (by omega) (by omega) hrot.1
     have J5 : ∀ {h : Heap} {d2 : Array Pk}, PermIn x mid d1 d2 → SortedIn lt x mid d2 → Hs h (S a n c d2 :: L) → z353.J5 a n c (y : Int) cmp (mid : Int) (e : Int) Q h := by
      intro h d2 pp ss H
      have hs2 : d2.size = n := by rw [pp.1, hs1]
      have q3' := y134 q3 pp (by omega)
      have q4' := y134 q4 pp (by omega)
      have fin : ∀ {h : Heap} {d3 : Array Pk}, PermIn mid y d2 d3 → SortedIn lt mid y d3 → Hs h (S a n c d3 :: L) → Q (.tuple #[]) h := by
       intro h d3 pp3 ss3 H
       obtain ⟨r1, r2⟩ := halves hO (by omega) (by omega) (by omega) q5 pp ss pp3 ss3
       exact k h d3 (permIn_trans _ _ _ _ _ p1 r1) r2 H
      have J6 : ∀ t : Bool, (t = true → mid < e ∧ e < y) → (t = false → e ≤ mid ∨ y ≤ e) → z353.J6 a n c (y : Int) cmp (mid : Int) (e : Int) t Q h := by
       intro t t1 t2
       refine z353.J6_of ((y20 _ _ _).2 ⟨fun hh => ?_, fun hh => fin (permIn_refl _ _ _) ?_ H⟩)
       ·have := t1 hh
        exact ih (by omega) hs2 (by omega) (by omega) hy q3' q4' H fun h3 d3 a1 a2 H3 => ⟨rfl, fin a1 a2 H3⟩
       ·rcases t2 hh with t2 | t2
        ·obtain rfl : e = mid := by omega
         exact q4'
        ·obtain rfl : e = y := by omega
         exact q3'
      refine z353.J5_of ((y20 _ _ _).2 ⟨fun a1 => J6 _ (fun hh => ?_) fun hh => ?_, fun a1 => J6 _ (fun hh => by cases hh) fun _ => Or.inl ?_⟩)
      ·have := of_decide_eq_true a1; have := of_decide_eq_true hh; omega
      ·have := of_decide_eq_false hh; omega
      ·have := of_decide_eq_false a1; omega
     have J4 : ∀ t : Bool, (t = true → x < s ∧ s < mid) → (t = false → s ≤ x ∨ mid ≤ s) → z353.J4 a n c (x : Int) (y : Int) cmp (mid : Int) (s : Int) (e : Int) t Q h := by
      intro t t1 t2
      refine z353.J4_of ((y20 _ _ _).2 ⟨fun hh => ?_, fun hh => J5 (permIn_refl _ _ _) ?_ H⟩)
      ·have := t1 hh
       exact ih (by omega) hs1 (by omega) (by omega) (by omega) q1 q2 H fun h3 d3 a1 a2 H3 => ⟨rfl, J5 a1 a2 H3⟩
      ·rcases t2 hh with t2 | t2
       ·obtain rfl : s = x := by omega
        exact q2
       ·obtain rfl : s = mid := by omega
        exact q1
     refine z353.J3_of ((y20 _ _ _).2 ⟨fun a1 => J4 _ (fun hh => ?_) fun hh => ?_, fun a1 => J4 _ (fun hh => by cases hh) fun _ => Or.inl ?_⟩)
     ·have := of_decide_eq_true a1; have := of_decide_eq_true hh; omega
     ·have := of_decide_eq_false hh; omega
     ·have := of_decide_eq_false a1; omega
    have J2 : ∀ t : Bool, (t = true → s < m ∧ m < e) → (t = false → m ≤ s ∨ e ≤ m) → z353.J2 a n c (x : Int) (m : Int) (y : Int) cmp (mid : Int) (s : Int) (e : Int) t Q h := by
     intro t t1 t2
     refine z353.J2_of ((y20 _ _ _).2 ⟨fun hh => ?_, fun hh => J3 (Rot.none d (t2 hh) (by omega) (by omega)) H⟩)
     have := t1 hh
     exact rotate_hs hn this.1 this.2 (by omega) hmax H fun h3 d3 a1 H3 => ⟨rfl, J3 a1 H3⟩
    refine (y20 _ _ _).2 ⟨fun a1 => J2 _ (fun hh => ?_) fun hh => ?_, fun a1 => J2 _ (fun hh => by cases hh) fun _ => Or.inl ?_⟩
    ·have := of_decide_eq_true a1; have := of_decide_eq_true hh; omega
    ·have := of_decide_eq_false hh; omega
    ·have := of_decide_eq_false a1; omega
   have go : ∀ (r lo hi s t : Nat) {h : Heap}, t ≤ s + r → lo ≤ s → s ≤ t → t ≤ hi → (mid < m ∧ lo = mid + m - y ∧ hi = mid ∨ m ≤ mid ∧ lo = x ∧ hi = m) → (lo < s → lt d[mid + m - s]! d[s - 1]! = false) → (t < hi → lt d[mid + m - 1 - t]! d[t]! = true) → Hs h (S a n c d :: L) →
     z353.L5 a n c (x : Int) (m : Int) (y : Int) cmp (mid : Int) ((mid + m : Nat) : Int) (s : Int) (t : Int) ((mid + m - 1 : Nat) : Int) (z353.K5 Q) h := by
    intro r
    induction r with
    | zero =>
     intro lo hi s t h hr h1 h2 h3 hcase f1 f2 H
     obtain rfl : s = t := by omega
     exact z353.L5_of (y5 (decide_eq_false (by omega)) (tail lo hi s h1 h3 hcase f1 f2 H))
    | succ r ih2 =>
     intro lo hi s t h hr h1 h2 h3 hcase f1 f2 H
     rcases Nat.lt_or_ge s t with hlt | hge
     ·refine z353.L5_of (y10 (decide_eq_true (by omega)) ?_)
      dsimp only
      rw [wH (by omega), wS (i := mid + m - 1) (j := (s + t) / 2) (by omega) (by omega)]
      refine lk hn (by omega) H fun u hu => ⟨_, _, _, _, hu, ?_⟩
      refine lk hn (by omega) H fun u hu => ⟨_, _, _, _, hu, ?_⟩
      refine hc d[mid + m - 1 - (s + t) / 2]! d[(s + t) / 2]! _ _ _ H fun h1' r1 hr1 H1 => ⟨_, rfl, ?_⟩
      rw [hr1]
      refine (y20 _ _ _).2 ⟨fun e => ?_, fun e => ?_⟩
      ·rw [w1 (by omega)]
       exact ih2 lo hi _ _ (by omega) (by omega) (by omega) h3 hcase (fun _ => by rw [Nat.add_sub_cancel, show mid + m - ((s + t) / 2 + 1) = mid + m - 1 - (s + t) / 2 by omega]; simpa using e) f2 H1
      ·exact ih2 lo hi _ _ (by omega) h1 (by omega) (by omega) hcase f1 (fun _ => by simpa using e) H1
     ·exact ih2 lo hi s t (by omega) h1 h2 h3 hcase f1 f2 H
   have J1 : ∀ lo hi : Nat, (mid < m ∧ lo = mid + m - y ∧ hi = mid ∨ m ≤ mid ∧ lo = x ∧ hi = m) → z353.J1 a n c (x : Int) (m : Int) (y : Int) cmp (mid : Int) ((mid + m : Nat) : Int) (lo : Int) (hi : Int) Q h := by
    intro lo hi hcase
    refine z353.J1_of ?_
    dsimp only
    rw [Stb.p1 (i := mid + m) (by omega) (by omega)]
    exact go hi lo hi lo hi (by omega) (Nat.le_refl _) (by omega) (Nat.le_refl _) hcase (fun h => by omega) (fun h => by omega) H
   refine (y20 _ _ _).2 ⟨fun a1 => ?_, fun a1 => ?_⟩
   ·have a1 := of_decide_eq_true a1
    rw [wS (i := mid + m) (j := y) (by omega) (by omega)]
    exact J1 _ _ (Or.inl ⟨by omega, rfl, rfl⟩)
   ·have a1 := of_decide_eq_false a1
    exact J1 _ _ (Or.inr ⟨by omega, rfl, rfl⟩)
theorem merge_hs (hc : CmpOk cmp lt) (hO : SWO lt) {d0 : Array Pk} (hn0 : d0.size = n) (hmax : n < 2 ^ 58) (k : ∀ h' d', PermIn 0 n d0 d' → SortedIn lt 0 n d' → Hs h' (S a n c d' :: L) → Q (.tuple #[]) h') :
  ∀ (r s : Nat) {d : Array Pk} {h : Heap}, n ≤ s + r → 0 < s → s < 2 ^ 59 → PermIn 0 n d0 d → (∀ j, SortedIn lt (j * s) (min (j * s + s) n) d) → Hs h (S a n c d :: L) →
  z349.L2 a n c (n : Int) cmp (s : Int) (z349.K2 Q) h := by
 intro r
 induction r with
 | zero =>
  intro s d h hr hs0 hs1 hp hb H
  have := hb 0
  rw [Nat.zero_mul, Nat.zero_add, show min s n = n by omega] at this
  exact z349.L2_of (y5 (decide_eq_false (by omega)) (z349.L2_X2 (k h d hp this H)))
 | succ r ih =>
  intro s d h hr hs0 hs1 hp hb H
  rcases Nat.lt_or_ge s n with hlt | hge
  ·refine z349.L2_of (y10 (decide_eq_true (by omega)) ?_)
   dsimp only
   have w2 : IntKind.i64.wrap (2 * (s : Int)) = ((2 * s : Nat) : Int) := by rw [wI (by omega) (by omega)]; omega
   rw [w2]
   have J1 : ∀ {d1 : Array Pk} {h : Heap}, PermIn 0 n d0 d1 → (∀ j, SortedIn lt (j * (2 * s)) (min (j * (2 * s) + 2 * s) n) d1) → Hs h (S a n c d1 :: L) → z349.J1 a n c (n : Int) cmp (s : Int) (z349.K2 Q) h := by
    intro d1 h hp hb H
    refine z349.J1_of ?_
    dsimp only
    rw [show (s : Int) * 2 = 2 * (s : Int) by omega, w2]
    exact ih (2 * s) (by omega) (by omega) (by omega) hp hb H
   have go : ∀ (r i : Nat) {d1 : Array Pk} {h : Heap}, n ≤ i * (2 * s) + r → i * (2 * s) < n + 2 * s → PermIn 0 n d0 d1 → (∀ j, j < i → SortedIn lt (j * (2 * s)) (min (j * (2 * s) + 2 * s) n) d1) → (∀ j, SortedIn lt (i * (2 * s) + j * s) (min (i * (2 * s) + j * s + s) n) d1) → Hs h (S a n c d1 :: L) →
     z349.L3 a n c (n : Int) cmp (s : Int) ((i * (2 * s) : Nat) : Int) ((i * (2 * s) + 2 * s : Nat) : Int) (z349.K4 (z349.K2 Q)) h := by
    intro r
    induction r with
    | zero =>
     intro i d1 h hr hi hp f1 f2 H
     refine z349.L3_of (y5 (decide_eq_false (by omega)) (z349.L3_X4 ?_))
     dsimp only
     rw [wA (i := i * (2 * s)) (j := s) (by omega)]
     refine y5 (decide_eq_false (by omega)) (J1 hp (fun j => ?_) H)
     rcases Nat.lt_or_ge j i with hj | hj
     ·exact f1 j hj
     ·have := Nat.mul_le_mul_right (2 * s) hj
      exact sorted_small (by omega)
    | succ r ih2 =>
     intro i d1 h hr hi hp f1 f2 H
     have hs1' : d1.size = n := by rw [hp.1, hn0]
     have b0 := f2 0
     have b1 := f2 1
     rw [Nat.zero_mul, Nat.add_zero] at b0
     rw [Nat.one_mul] at b1
     refine z349.L3_of ((y20 _ _ _).2 ⟨fun e1 => ?_, fun e1 => z349.L3_X4 ?_⟩)
     ·have e1 := of_decide_eq_true e1
      dsimp only
      rw [wA (i := i * (2 * s)) (j := s) (by omega), w2, wA (i := i * (2 * s) + 2 * s) (j := 2 * s) (by omega)]
      rw [show min (i * (2 * s) + s) n = i * (2 * s) + s by omega] at b0
      rw [show min (i * (2 * s) + s + s) n = i * (2 * s) + 2 * s by omega] at b1
      refine symMerge_hs hc hO (by omega) n (by omega) hs1' (by omega) (by omega) (by omega) b0 b1 H fun h2 d2 pp ss H2 => ⟨rfl, ?_⟩
      have em : (i + 1) * (2 * s) = i * (2 * s) + 2 * s := by rw [Nat.add_mul, Nat.one_mul]
      have := ih2 (i + 1) (d1 := d2) (h := h2) (by omega) (by omega) (permIn_trans _ _ _ _ _ hp (permIn_mono _ _ _ _ _ _ (Nat.zero_le _) (by omega) (by omega) pp)) (fun j hj => ?_) (fun j => ?_) H2
      ·rw [em] at this; exact this
      ·rcases Nat.lt_or_ge j i with hj2 | hj2
       ·have := Nat.mul_le_mul_right (2 * s) (show j + 1 ≤ i from hj2)
        rw [Nat.add_mul, Nat.one_mul] at this
        exact y134 (f1 j hj2) pp (by omega)
       ·obtain rfl : j = i := by omega
        rw [show min (j * (2 * s) + 2 * s) n = j * (2 * s) + 2 * s by omega]; exact ss
      ·rw [em]
       have := f2 (j + 2)
       rw [show i * (2 * s) + (j + 2) * s = i * (2 * s) + 2 * s + j * s by rw [Nat.add_mul]; omega] at this
       exact y134 this pp (by omega)
     ·have e1 := of_decide_eq_false e1
      dsimp only
      rw [wA (i := i * (2 * s)) (j := s) (by omega)]
      have rest : ∀ {d2 : Array Pk} {h : Heap}, PermIn (i * (2 * s)) n d1 d2 → SortedIn lt (i * (2 * s)) n d2 → Hs h (S a n c d2 :: L) → z349.J1 a n c (n : Int) cmp (s : Int) (z349.K2 Q) h := by
       intro d2 h pp ss H
       refine J1 (permIn_trans _ _ _ _ _ hp (permIn_mono _ _ _ _ _ _ (Nat.zero_le _) (Nat.le_refl _) (by omega) pp)) (fun j => ?_) H
       rcases Nat.lt_trichotomy j i with hj | hj | hj
       ·have := Nat.mul_le_mul_right (2 * s) (show j + 1 ≤ i from hj)
        rw [Nat.add_mul, Nat.one_mul] at this
        exact y134 (f1 j hj) pp (by omega)
       ·subst hj
        intro p q h1 h2 h3; exact ss p q h1 h2 (by omega)
       ·have := Nat.mul_le_mul_right (2 * s) (show i + 1 ≤ j from hj)
        rw [Nat.add_mul, Nat.one_mul] at this
        exact sorted_small (by omega)
      refine (y20 _ _ _).2 ⟨fun e2 => ?_, fun e2 => ?_⟩
      ·have e2 := of_decide_eq_true e2
       rw [show min (i * (2 * s) + s) n = i * (2 * s) + s by omega] at b0
       rw [show min (i * (2 * s) + s + s) n = n by omega] at b1
       exact symMerge_hs hc hO (by omega) n (by omega) hs1' (by omega) (by omega) (Nat.le_refl _) b0 b1 H fun h2 d2 pp ss H2 => ⟨rfl, rest pp ss H2⟩
      ·have e2 := of_decide_eq_false e2
       rw [show min (i * (2 * s) + s) n = n by omega] at b0
       exact rest (permIn_refl _ _ _) b0 H
   have := go n 0 (by omega) (by omega) hp (fun j hj => by omega) (fun j => by rw [Nat.zero_mul, Nat.zero_add]; exact hb j) H
   rw [Nat.zero_mul, Nat.zero_add] at this
   exact this
  ·exact ih s (by omega) hs0 hs1 hp hb H
theorem stable_hs (hc : CmpOk cmp lt) (hO : SWO lt) {d : Array Pk} (hn : d.size = n) (hmax : n < 2 ^ 58) (H : Hs h (S a n c d :: L)) (k : ∀ h' d', PermIn 0 n d d' → SortedIn lt 0 n d' → Hs h' (S a n c d' :: L) → Q (.tuple #[]) h') :
  SpecH PP z344 [.slice a n c, cmp] h Q := by
 refine z343.door (z349.door ?_)
 have kk : ∀ h' d', PermIn 0 n d d' → SortedIn lt 0 n d' → Hs h' (S a n c d' :: L) → (fun v h1 => v = Value.tuple #[] ∧ Q (.tuple #[]) h1) (.tuple #[]) h' := fun h' d' h1 h2 h3 => ⟨rfl, k h' d' h1 h2 h3⟩
 have go : ∀ (r i : Nat) {d1 : Array Pk} {h : Heap}, n ≤ i * 20 + r → i * 20 ≤ n → PermIn 0 n d d1 → (∀ j, j < i → SortedIn lt (j * 20) (j * 20 + 20) d1) → Hs h (S a n c d1 :: L) →
   z349.L1 a n c (n : Int) cmp 20 ((i * 20 : Nat) : Int) ((i * 20 + 20 : Nat) : Int) (z349.K1 (fun v h1 => v = Value.tuple #[] ∧ Q (.tuple #[]) h1)) h := by
  intro r
  have last : ∀ (i : Nat) {d1 : Array Pk} {h : Heap}, n < i * 20 + 20 → i * 20 ≤ n → PermIn 0 n d d1 → (∀ j, j < i → SortedIn lt (j * 20) (j * 20 + 20) d1) → Hs h (S a n c d1 :: L) →
    z349.L1 a n c (n : Int) cmp 20 ((i * 20 : Nat) : Int) ((i * 20 + 20 : Nat) : Int) (z349.K1 (fun v h1 => v = Value.tuple #[] ∧ Q (.tuple #[]) h1)) h := by
   intro i d1 h hr hi hp f1 H
   have hs1 : d1.size = n := by rw [hp.1, hn]
   refine z349.L1_of (y5 (decide_eq_false (by omega)) (z349.L1_X0 ?_))
   obtain ⟨pp, ss⟩ := insertionSort_holds hO d1 (i * 20) n hi (by omega)
   refine insertion_hs hc hs1 hi (Nat.le_refl _) (by omega) H fun h2 H2 => ⟨rfl, ?_⟩
   refine merge_hs hc hO hn hmax kk n 20 (by omega) (by omega) (by omega) (permIn_trans _ _ _ _ _ hp (permIn_mono _ _ _ _ _ _ (Nat.zero_le _) (Nat.le_refl _) (by omega) pp)) (fun j => ?_) H2
   rcases Nat.lt_trichotomy j i with hj | hj | hj
   ·rw [show min (j * 20 + 20) n = j * 20 + 20 by omega]; exact y134 (f1 j hj) pp (by omega)
   ·subst hj; rw [show min (j * 20 + 20) n = n by omega]; exact ss
   ·exact sorted_small (by omega)
  induction r with
  | zero => intro i d1 h hr hi hp f1 H; exact last i (by omega) hi hp f1 H
  | succ r ih =>
   intro i d1 h hr hi hp f1 H
   rcases Nat.lt_or_ge n (i * 20 + 20) with hlt | hge
   ·exact last i hlt hi hp f1 H
   ·have hs1 : d1.size = n := by rw [hp.1, hn]
    refine z349.L1_of (y10 (decide_eq_true (by omega)) ?_)
    obtain ⟨pp, ss⟩ := insertionSort_holds hO d1 (i * 20) (i * 20 + 20) (by omega) (by omega)
    refine insertion_hs hc hs1 (by omega) hge (by omega) H fun h2 H2 => ⟨rfl, ?_⟩
    dsimp only
    have e20 : IntKind.i64.wrap (((i * 20 + 20 : Nat) : Int) + 20) = (((i + 1) * 20 + 20 : Nat) : Int) := by rw [wI (by omega) (by omega)]; omega
    have := ih (i + 1) (h := h2) (by omega) (by omega) (permIn_trans _ _ _ _ _ hp (permIn_mono _ _ _ _ _ _ (Nat.zero_le _) (by omega) (by omega) pp)) (fun j hj => ?_) H2
    ·rw [e20, show i * 20 + 20 = (i + 1) * 20 by omega]; exact this
    ·rcases Nat.lt_or_ge j i with hj2 | hj2
     ·exact y134 (f1 j hj2) pp (by omega)
     ·obtain rfl : j = i := by omega
      exact ss
 exact go n 0 (by omega) (by omega) (permIn_refl _ _ _) (fun j hj => by omega) H
end Go.Proofs.YtmkjmmpldepknaaDoor.Stb

set_option maxRecDepth 20000
namespace Go.Proofs.YtmkjmmpldepknaaDoor
open Go Go.HW

abbrev P_ (p : Nat) : Value := .pointer (some ⟨p, 0, none⟩)
def Wr (p N len : Nat) : Assn := fun m => ∃ a n c, (n = (len + 7) / 8 ∧ N < 2 ^ len ∧ len ≤ 2 ^ 40) ∧ Sp [pt p y171 [.slice a n c, .int .i64 len], own a n c y15 1 (nV (dig N n))] m
theorem Wr_iff {h : Heap} {p N len : Nat} {L : List Assn} : Hs h (Wr p N len :: L) ↔ ∃ a n c, (n = (len + 7) / 8 ∧ N < 2 ^ len ∧ len ≤ 2 ^ 40) ∧ Hs h (pt p y171 [.slice a n c, .int .i64 len] :: own a n c y15 1 (nV (dig N n)) :: L) := by
 unfold Wr; simp only [Hs.ex, Hs.and, Hs.app, List.cons_append, List.nil_append]

theorem NewWriter_hs {h : Heap} {L : List Assn} {Q : Value → Heap → Prop} (H : Hs h L) (K : ∀ h' p, Hs h' (Wr p 0 0 :: L) → Q (P_ p) h') : SpecH PP z182 [] h Q := by
 refine z181.door ?_
 dsimp only [nilc, Option.isNone]
 refine K _ h.size (Wr_iff.2 ⟨none, 0, 0, ⟨rfl, by simp, by omega⟩, ?_⟩)
 exact ((H.own_nil y15 1).new)

theorem put_body {p N len n rest : Nat} {L : List Assn} {K : Ex → Fr → Heap → Prop} {h : Heap} {a : Option Addr} {c : Nat} (hN : N < 2 ^ len) (hn : 0 < n) (hn2 : n ≤ 32) (hr : rest < 2 ^ n) (hl : len + n ≤ 2 ^ 40)
  (H : Hs h (pt p y171 [.slice a (len / 8 + 1) c, .int .i64 len] :: own a (len / 8 + 1) c y15 1 (nV (dig N (len / 8) ++ [N / 256 ^ (len / 8)])) :: L))
  (kk : ∀ h' k, 0 < k → k ≤ n → Hs h' (Wr p (N + rest % 2 ^ k * 2 ^ len) (len + k) :: L) → z197.L1 (some ⟨p, 0, none⟩) ((n - k : Nat) : Int) ((rest / 2 ^ k : Nat) : Int) K h') :
  z197.J2 (some ⟨p, 0, none⟩) n rest K h := by
 refine z197.J2_of ?_
 dsimp only [nilc]
 have c0 := H.cell (off := 0) rfl
 have c1 := H.cell (off := 1) rfl
 have own1 := H.m1.rd
 have hr64 : rest < 18446744073709551616 := Nat.lt_of_lt_of_le hr (Nat.le_trans (Nat.pow_le_pow_right (by decide) hn2) (by decide))
 obtain ⟨e1, e2, e3⟩ := dig_put (N := N) (len := len) (k := min n (8 - len % 8)) (x := rest % 2 ^ min n (8 - len % 8)) hN (by omega) (Nat.mod_lt _ (Nat.pow_pos (by decide)))
 generalize hk : min n (8 - len % 8) = k at *
 have e4 := Nat.lt_of_le_of_lt (Nat.le_add_left _ _) e3
 have e5 := Nat.lt_of_le_of_lt (Nat.le_add_right _ _) e3
 have hk8 : k ≤ 8 := by omega
 have hpk : 2 ^ k ≤ 256 := Nat.pow_le_pow_right (n := 2) (by decide) hk8
 have hx : rest % 2 ^ k < 2 ^ k := Nat.mod_lt _ (Nat.pow_pos (by decide))
 have w1 : (if IntKind.i64.wrap (8 - Int.tmod (len : Int) 8) < (n : Int) then IntKind.i64.wrap (8 - Int.tmod (len : Int) 8) else (n : Int)) = (k : Int) := by
  rw [show Int.tmod (len : Int) 8 = ((len % 8 : Nat) : Int) from tmod_n len 8, y46 (by omega) (by omega)]; split <;> omega
 have w2 : IntKind.i64.wrap (((len / 8 + 1 : Nat) : Int) - 1) = ((len / 8 : Nat) : Int) := by rw [y46 (by omega) (by omega)]; omega
 have w3 : bAnd .u64 (rest : Int) (IntKind.u64.wrap (sShl .u64 1 (k : Int) - 1)) = ((rest % 2 ^ k : Nat) : Int) := by
  rw [show sShl .u64 1 (k : Int) = ((1 * 2 ^ k % 18446744073709551616 : Nat) : Int) from shl_u64 (a := 1) (m := k) (by decide), Nat.one_mul, Nat.mod_eq_of_lt (by omega)]
  have : 0 < 2 ^ k := Nat.pow_pos (by decide)
  rw [show ((2 ^ k : Nat) : Int) - 1 = ((2 ^ k - 1 : Nat) : Int) by omega, y113 (by omega), and_u64 hr64 (by omega), and_mask]
 have w4 : IntKind.u8.wrap ((rest % 2 ^ k : Nat) : Int) = ((rest % 2 ^ k : Nat) : Int) := y160 (by omega)
 have w5 : sShl .u8 ((rest % 2 ^ k : Nat) : Int) (Int.tmod (len : Int) 8) = ((rest % 2 ^ k * 2 ^ (len % 8) : Nat) : Int) := by
  rw [show Int.tmod (len : Int) 8 = ((len % 8 : Nat) : Int) from tmod_n len 8, shl_u8 (by omega), Nat.mod_eq_of_lt e4]
 have w6 : bOr .u8 ((N / 256 ^ (len / 8) : Nat) : Int) ((rest % 2 ^ k * 2 ^ (len % 8) : Nat) : Int) = ((N / 256 ^ (len / 8) + rest % 2 ^ k * 2 ^ (len % 8) : Nat) : Int) := by
  rw [or_u8 e5 e4, or_add e2]
 refine ⟨_, c1, _, _, _, c0, _, _, _, c0, ?_⟩
 simp only [w1, w2, w3, w4]
 refine idx y33 own1 (by omega) (by omega) (v := .int .u8 ((N / 256 ^ (len / 8) : Nat) : Int)) (by rw [Int.toNat_natCast]; exact nV_at (y120 _ _)) ?_
 intro t ht
 refine ⟨_, ht, y10 (by simp) ⟨_, c1, ?_⟩⟩
 simp only [w5, w6]
 refine y10 (by rw [show Int.tmod (len : Int) 8 = ((len % 8 : Nat) : Int) from tmod_n len 8]; exact decide_eq_true (Int.natCast_nonneg _)) ?_
 refine H.m1.idx_set y33 (by omega) (by omega) rfl ?_
 intro h3 H3
 refine y10 (by simp) ?_
 refine ⟨_, H3.m1.cell (off := 1) rfl, H3.m1.sto (off := 1) (by simp) ?_⟩
 intro h4 H4
 have w7 : IntKind.i64.wrap ((n : Int) - (k : Int)) = ((n - k : Nat) : Int) := by rw [y46 (by omega) (by omega)]; omega
 have w8 : sShr .u64 (rest : Int) (k : Int) = ((rest / 2 ^ k : Nat) : Int) := shr_u64 hr64
 simp only [w7, w8]
 refine kk h4 k (by omega) (by omega) (Wr_iff.2 ⟨a, len / 8 + 1, c, ⟨by omega, lt_put hN hx, by omega⟩, ?_⟩)
 rw [e1]
 have w9 : IntKind.i64.wrap ((len : Int) + (k : Int)) = ((len + k : Nat) : Int) := by rw [y46 (by omega) (by omega)]; omega
 simp only [w9, List.set_cons_succ, List.set_cons_zero] at H4
 rw [Int.toNat_natCast, nV_setat (y120 _ _)] at H4
 exact H4

theorem put_loop {p : Nat} {L : List Assn} {K : Ex → Fr → Heap → Prop} : ∀ (d n : Nat), n ≤ d → ∀ {N len rest : Nat} {h : Heap}, n ≤ 32 → rest < 2 ^ n → len + n ≤ 2 ^ 40 → Hs h (Wr p N len :: L) →
  (∀ h', Hs h' (Wr p (N + rest * 2 ^ len) (len + n) :: L) → K (.exit 1) z197.X1 h') → z197.L1 (some ⟨p, 0, none⟩) n rest K h := by
 intro d
 induction d with
 | zero =>
  intro n hd N len rest h hn hr hl H kk
  obtain rfl : n = 0 := by omega
  obtain rfl : rest = 0 := by simpa using hr
  refine z197.L1_of (y10 rfl (kk h ?_))
  simpa using H
 | succ d ih =>
  intro n hd N len rest h hn hr hl H kk
  rcases Nat.eq_zero_or_pos n with rfl | hn0
  ·obtain rfl : rest = 0 := by simpa using hr
   refine z197.L1_of (y10 rfl (kk h ?_))
   simpa using H
  have step : ∀ h' k, 0 < k → k ≤ n → Hs h' (Wr p (N + rest % 2 ^ k * 2 ^ len) (len + k) :: L) → z197.L1 (some ⟨p, 0, none⟩) ((n - k : Nat) : Int) ((rest / 2 ^ k : Nat) : Int) K h' := by
   intro h' k h0 hk H'
   refine ih (n - k) (by omega) (by omega) ?_ (by omega) H' fun h2 H2 => kk h2 ?_
   ·refine Nat.div_lt_of_lt_mul ?_
    rw [← Nat.pow_add, show k + (n - k) = n by omega]; exact hr
   ·have e1 : N + rest % 2 ^ k * 2 ^ len + rest / 2 ^ k * 2 ^ (len + k) = N + rest * 2 ^ len := by
     conv => rhs; rw [← Nat.div_add_mod rest (2 ^ k)]
     rw [Nat.add_mul, Nat.pow_add, Nat.add_assoc, Nat.add_comm (rest % 2 ^ k * _)]
     congr 2
     rw [Nat.mul_comm (2 ^ k), Nat.mul_assoc, Nat.mul_comm (2 ^ len)]
    rw [e1, show len + k + (n - k) = len + n by omega] at H2
    exact H2
  refine z197.L1_of ?_
  obtain ⟨a, m, c, ⟨rfl, hN, hlb⟩, H⟩ := Wr_iff.1 H
  refine y5 (by simp; omega) ⟨_, H.cell (off := 1) rfl, ?_⟩
  have e0 : (Int.tmod (len : Int) 8 == 0) = decide (len % 8 = 0) := by rw [show Int.tmod (len : Int) 8 = ((len % 8 : Nat) : Int) from tmod_n len 8, Bool.eq_iff_iff]; simp; omega
  have hd8 : dig N (len / 8 + 1) = dig N (len / 8) ++ [N / 256 ^ (len / 8)] := by
   have := (dig_put (N := N) (len := len) (k := 0) (x := 0) hN (by omega) (by simp)).1
   simpa using this
  refine (y20 _ _ _).2 ⟨fun hb => ?_, fun hb => ?_⟩
  ·rw [e0, decide_eq_true_eq] at hb
   refine ⟨_, _, _, H.cell (off := 0) rfl, ?_⟩
   refine H.m1.app_vals y33 (m := 1) (ys := [.int .u8 0]) rfl rfl (by simp [oneC]) ?_ (by omega) (by omega)
   intro h1 a1 c1 H1
   refine ⟨_, _, _, rfl, H1.m1.sto (off := 0) (by simp) ?_⟩
   intro h2 H2
   have e : dig N ((len + 7) / 8) ++ [0] = dig N (len / 8) ++ [N / 256 ^ (len / 8)] := by
    rw [show (len + 7) / 8 = len / 8 by omega, ← hd8]
    simp only [dig]; congr 2
    have : N / 256 ^ (len / 8) = 0 := Nat.div_eq_of_lt (by rw [pow256, show 8 * (len / 8) = len by omega]; exact hN)
    rw [this]
   have e2 : nV (dig N ((len + 7) / 8)) ++ [Value.int .u8 0] = nV (dig N (len / 8) ++ [N / 256 ^ (len / 8)]) := by rw [← e, nV_app]; rfl
   rw [e2] at H2
   rw [show (len + 7) / 8 + 1 = len / 8 + 1 by omega] at H2
   exact put_body hN hn0 hn hr hl H2 step
  ·rw [e0, decide_eq_false_iff_not] at hb
   rw [show (len + 7) / 8 = len / 8 + 1 by omega, hd8] at H
   exact put_body hN hn0 hn hr hl H step

theorem Put_hs {p N len v n : Nat} {L : List Assn} {h : Heap} {Q : Value → Heap → Prop} (H : Hs h (Wr p N len :: L)) (hn : n ≤ 32) (hv : v < 2 ^ n) (hl : len + n ≤ 2 ^ 40)
  (kk : ∀ h', Hs h' (Wr p (N + v * 2 ^ len) (len + n) :: L) → Q (.int .i64 0) h') : SpecH PP z198 [P_ p, .int .u32 v, .int .i64 n] h Q := by
 have h32 : v < 4294967296 := Nat.lt_of_lt_of_le hv (Nat.pow_le_pow_right (n := 2) (by decide) hn : 2 ^ n ≤ 2 ^ 32)
 refine z197.door ?_
 dsimp only [nilc, Option.isNone]
 refine y5 rfl (y5 (decide_eq_false (by omega)) (y5 (decide_eq_false (by omega)) (y10 (by simp) (z197.J1_of (y5 ?_ ?_)))))
 ·rw [y113 (by omega), shr_u64 (by omega), Nat.div_eq_of_lt hv]; rfl
 ·simp only [y113 (show v < 18446744073709551616 by omega)]
  refine put_loop n n (Nat.le_refl _) hn hv hl H fun h' H' => ?_
  exact z197.L1_X1 (kk h' H')
theorem Bytes_hs {p N len : Nat} {L : List Assn} {h : Heap} {Q : Value → Heap → Prop} (H : Hs h (Wr p N len :: L))
  (kk : ∀ h' b, Hs h' (own (some ⟨b, 0, none⟩) ((len + 7) / 8) ((len + 7) / 8) y15 1 (nV (dig N ((len + 7) / 8))) :: Wr p N len :: L) → Q (.slice (some ⟨b, 0, none⟩) ((len + 7) / 8) ((len + 7) / 8)) h') : SpecH PP z196 [P_ p] h Q := by
 refine z195.door ?_
 dsimp only [nilc, Option.isNone]
 obtain ⟨a, m, c, ⟨rfl, hN, hlb⟩, H⟩ := Wr_iff.1 H
 refine y5 rfl ⟨_, _, _, H.cell (off := 0) rfl, ?_⟩
 refine H.make y33 rfl rfl (Nat.le_refl _) (by omega) (by omega) fun h1 b H1 => ⟨_, _, _, rfl, ⟨_, _, _, H1.m1.cell (off := 0) rfl, ?_⟩⟩
 have ol := H1.m2.own_len
 have hr := H1.m2.rd
 refine H1.copy y33 (by simp; omega) hr (fun e => H1.m2.Own.none_zero e) (by simp; omega) (nV_one _) fun h2 H2 => ⟨_, rfl, ?_⟩
 have e : List.take 0 (List.replicate ((len + 7) / 8) (Value.int IntKind.u8 0)) ++ nV (dig N ((len + 7) / 8)) ++ List.drop (0 + (nV (dig N ((len + 7) / 8))).length) (List.replicate ((len + 7) / 8) (Value.int IntKind.u8 0)) = nV (dig N ((len + 7) / 8)) := by
  simp [nV_len, y120]
 rw [e] at H2
 refine kk h2 b ?_
 have H3 := H2.pt_all (n := (len + 7) / 8) (by simp [nV_len, y120])
 exact (Wr_iff.2 ⟨a, _, c, ⟨rfl, hN, hlb⟩, H3.r2⟩).m1

def Rr (p : Nat) (bs : List Nat) (at_ : Nat) : Assn := fun m => ∃ a n c, (n = bs.length ∧ (∀ x ∈ bs, x < 256) ∧ n ≤ 2 ^ 36 ∧ at_ ≤ 8 * n) ∧ Sp [pt p y170 [.slice a n c, .int .i64 at_], own a n c y15 1 (nV bs)] m
theorem Rr_iff {h : Heap} {p at_ : Nat} {bs : List Nat} {L : List Assn} : Hs h (Rr p bs at_ :: L) ↔ ∃ a n c, (n = bs.length ∧ (∀ x ∈ bs, x < 256) ∧ n ≤ 2 ^ 36 ∧ at_ ≤ 8 * n) ∧ Hs h (pt p y170 [.slice a n c, .int .i64 at_] :: own a n c y15 1 (nV bs) :: L) := by
 unfold Rr; simp only [Hs.ex, Hs.and, Hs.app, List.cons_append, List.nil_append]
theorem NewReader_hs {h : Heap} {L : List Assn} {a : Option Addr} {n c : Nat} {bs : List Nat} {Q : Value → Heap → Prop} (H : Hs h L) (hr : Rd h a (nV bs)) (hn : bs.length = n) (hn0 : a = none → n = 0) (hb : ∀ x ∈ bs, x < 256) (hmax : n ≤ 2 ^ 36)
  (kk : ∀ h' p, Hs h' (Rr p bs 0 :: L) → Q (P_ p) h') : SpecH PP z180 [.slice a n c] h Q := by
 refine z179.door ?_
 dsimp only [nilc, Option.isNone]
 refine z191.door ?_
 dsimp only [nilc, Option.isNone]
 have H1 : Hs (h.push (.cells #[.slice none 0 0, .int .i64 0] y170 (0, 0))) _ := H.new
 refine y5 rfl ⟨_, _, _, H1.cell (off := 0) rfl, ?_⟩
 have H2 := H1.own_nil y15 1
 refine H2.app_sl y33 (hr.ext (Ext.push _ _)) (by rw [nV_len]; omega) hn0 (nV_one _) ?_ (by omega) (by omega)
 intro h1 a1 c1 H3
 refine ⟨_, _, _, rfl, H3.m1.sto (off := 0) (by simp) fun h2 H4 => ⟨_, rfl, kk _ _ (Rr_iff.2 ⟨a1, n, c1, ⟨hn.symm, hb, hmax, by omega⟩, ?_⟩)⟩⟩
 rw [Nat.zero_add] at H4
 exact H4
theorem Left_hs {p at_ : Nat} {bs : List Nat} {L : List Assn} {h : Heap} {Q : Value → Heap → Prop} (H : Hs h (Rr p bs at_ :: L)) (kk : Q (.int .i64 ((8 * bs.length - at_ : Nat) : Int)) h) : SpecH PP z190 [P_ p] h Q := by
 refine z189.door ?_
 dsimp only [nilc, Option.isNone]
 obtain ⟨a, n, c, ⟨rfl, hb, hn, hat⟩, H⟩ := Rr_iff.1 H
 refine y5 rfl ⟨_, _, _, H.cell (off := 0) rfl, _, H.cell (off := 1) rfl, ?_⟩
 have e : IntKind.i64.wrap (IntKind.i64.wrap (8 * (bs.length : Int)) - (at_ : Int)) = ((8 * bs.length - at_ : Nat) : Int) := by
  rw [y46 (z := 8 * (bs.length : Int)) (by omega) (by omega), y46 (by omega) (by omega)]; omega
 simp only [e]; exact kk
theorem Gone_hs {p at_ : Nat} {bs : List Nat} {L : List Assn} {h : Heap} {Q : Value → Heap → Prop} (H : Hs h (Rr p bs at_ :: L)) (kk : Q (.int .i64 at_) h) : SpecH PP z188 [P_ p] h Q := by
 refine z187.door ?_
 dsimp only [nilc, Option.isNone]
 obtain ⟨a, n, c, ⟨rfl, hb, hn, hat⟩, H⟩ := Rr_iff.1 H
 exact y5 rfl ⟨_, H.cell (off := 1) rfl, kk⟩
theorem RAlign_hs {p at_ : Nat} {bs : List Nat} {L : List Assn} {h : Heap} {Q : Value → Heap → Prop} (H : Hs h (Rr p bs at_ :: L)) (kk : ∀ h', Hs h' (Rr p bs ((at_ + 7) / 8 * 8) :: L) → Q (.int .i64 0) h') : SpecH PP z184 [P_ p] h Q := by
 refine z183.door ?_
 dsimp only [nilc, Option.isNone]
 obtain ⟨a, n, c, ⟨rfl, hb, hn, hat⟩, H⟩ := Rr_iff.1 H
 refine y5 rfl ⟨_, H.cell (off := 1) rfl, H.sto (off := 1) (by simp) fun h1 H1 => kk h1 (Rr_iff.2 ⟨a, _, c, ⟨rfl, hb, hn, by omega⟩, ?_⟩)⟩
 have e1 : IntKind.i64.wrap ((at_ : Int) + 7) = ((at_ + 7 : Nat) : Int) := by rw [y46 (by omega) (by omega)]; omega
 have e2 : IntKind.i64.wrap (Int.tdiv ((at_ + 7 : Nat) : Int) 8) = (((at_ + 7) / 8 : Nat) : Int) := by rw [show Int.tdiv ((at_ + 7 : Nat) : Int) 8 = (((at_ + 7) / 8 : Nat) : Int) from tdiv_n _ 8, y46 (by omega) (by omega)]
 have e3 : IntKind.i64.wrap ((((at_ + 7) / 8 : Nat) : Int) * 8) = (((at_ + 7) / 8 * 8 : Nat) : Int) := by rw [y46 (by omega) (by omega)]; omega
 simp only [e1, e2, e3, List.set_cons_succ, List.set_cons_zero] at H1
 exact H1
theorem Back_hs {p at_ n : Nat} {bs : List Nat} {L : List Assn} {h : Heap} {Q : Value → Heap → Prop} (H : Hs h (Rr p bs at_ :: L)) (hn : n ≤ at_) (kk : ∀ h', Hs h' (Rr p bs (at_ - n) :: L) → Q (.int .i64 0) h') : SpecH PP z186 [P_ p, .int .i64 n] h Q := by
 refine z185.door ?_
 dsimp only [nilc, Option.isNone]
 obtain ⟨a, k, c, ⟨rfl, hb, hk, hat⟩, H⟩ := Rr_iff.1 H
 refine y5 rfl (y5 (decide_eq_false (by omega)) ⟨_, H.cell (off := 1) rfl, z185.J1_of (y5 (decide_eq_false (by omega)) ⟨_, H.cell (off := 1) rfl, H.sto (off := 1) (by simp) fun h1 H1 => kk h1 (Rr_iff.2 ⟨a, _, c, ⟨rfl, hb, hk, by omega⟩, ?_⟩)⟩)⟩)
 have e : IntKind.i64.wrap ((at_ : Int) - (n : Int)) = ((at_ - n : Nat) : Int) := by rw [y46 (by omega) (by omega)]; omega
 simp only [e, List.set_cons_succ, List.set_cons_zero] at H1
 exact H1
theorem take_loop {p at0 : Nat} {bs : List Nat} {L : List Assn} {n : Nat} {K : Ex → Fr → Heap → Prop} (hn : n ≤ 32) (hl : at0 + n ≤ 8 * bs.length) : ∀ (d have_ : Nat), n - have_ ≤ d → have_ ≤ n → ∀ {h : Heap}, Hs h (Rr p bs (at0 + have_) :: L) →
  (∀ h', Hs h' (Rr p bs (at0 + n) :: L) → K (.exit 1) (z193.X1 ((val bs / 2 ^ at0 % 2 ^ n : Nat) : Int)) h') →
  z193.L1 (some ⟨p, 0, none⟩) n ((val bs / 2 ^ at0 % 2 ^ have_ : Nat) : Int) have_ K h := by
 intro d
 induction d with
 | zero =>
  intro v hd hv h H kk
  obtain rfl : v = n := by omega
  exact z193.L1_of (y5 (decide_eq_false (by omega)) (kk h H))
 | succ d ih =>
  intro v hd hv h H kk
  rcases Nat.lt_or_ge v n with hlt | hge
  ·refine z193.L1_of (y10 (decide_eq_true (by omega)) ?_)
   obtain ⟨a, m, c, ⟨rfl, hb, hm, hat⟩, H⟩ := Rr_iff.1 H
   have c0 := H.cell (off := 0) rfl
   have c1 := H.cell (off := 1) rfl
   generalize hA : at0 + v = A at *
   have t8 : Int.tmod (A : Int) 8 = ((A % 8 : Nat) : Int) := tmod_n A 8
   have d8 : Int.tdiv (A : Int) 8 = ((A / 8 : Nat) : Int) := tdiv_n A 8
   generalize hk : min (n - v) (8 - A % 8) = k
   have hk8 : k ≤ 8 := by omega
   have hpk : 2 ^ k ≤ 256 := Nat.pow_le_pow_right (n := 2) (by decide) hk8
   have hp0 : 0 < 2 ^ k := Nat.pow_pos (by decide)
   have hq : A / 8 < bs.length := by omega
   have hbq : bs[A / 8] < 256 := hb _ (List.getElem_mem hq)
   have w1 : (if IntKind.i64.wrap (8 - Int.tmod (A : Int) 8) < IntKind.i64.wrap ((n : Int) - (v : Int)) then IntKind.i64.wrap (8 - Int.tmod (A : Int) 8) else IntKind.i64.wrap ((n : Int) - (v : Int))) = (k : Int) := by
    rw [t8, y46 (by omega) (by omega), y46 (by omega) (by omega)]; split <;> omega
   have w2 : IntKind.i64.wrap (Int.tdiv (A : Int) 8) = ((A / 8 : Nat) : Int) := by rw [d8, y46 (by omega) (by omega)]
   have w3 : bAnd .u8 (sShr .u8 (bs[A / 8] : Nat) (Int.tmod (A : Int) 8)) (IntKind.u8.wrap (sShl .u8 1 (k : Int) - 1)) = ((val bs / 2 ^ at0 / 2 ^ v % 2 ^ k : Nat) : Int) := by
    rw [t8, shr_u8 hbq, show sShl .u8 1 (k : Int) = ((1 * 2 ^ k % 256 : Nat) : Int) from shl_u8 (a := 1) (m := k) (by decide), Nat.one_mul]
    have hdv : bs[A / 8] / 2 ^ (A % 8) < 256 := Nat.lt_of_le_of_lt (Nat.div_le_self _ _) hbq
    have hmask : IntKind.u8.wrap (((2 ^ k % 256 : Nat) : Int) - 1) = ((2 ^ k - 1 : Nat) : Int) := by
     rcases Nat.lt_or_ge (2 ^ k) 256 with h1 | h1
     ·rw [Nat.mod_eq_of_lt h1, show ((2 ^ k : Nat) : Int) - 1 = ((2 ^ k - 1 : Nat) : Int) by omega, y160 (by omega)]
     ·rw [show 2 ^ k = 256 by omega]; rfl
    rw [hmask, and_u8 hdv (by omega), and_mask, val_get hb hq, part_eq (by omega), ← hA, Nat.pow_add, Nat.div_div_eq_div_mul]
   have hpart : val bs / 2 ^ at0 / 2 ^ v % 2 ^ k < 2 ^ k := Nat.mod_lt _ hp0
   have hvp : 2 ^ (v + k) ≤ 2 ^ 32 := Nat.pow_le_pow_right (n := 2) (by decide) (by omega)
   have hlow : val bs / 2 ^ at0 % 2 ^ v < 2 ^ v := Nat.mod_lt _ (Nat.pow_pos (by decide))
   have hsum := join_eq (val bs / 2 ^ at0) v k
   have hbig : val bs / 2 ^ at0 / 2 ^ v % 2 ^ k * 2 ^ v < 18446744073709551616 := by
    have : val bs / 2 ^ at0 % 2 ^ (v + k) < 2 ^ (v + k) := Nat.mod_lt _ (Nat.pow_pos (by decide))
    omega
   have w4 : bOr .u64 ((val bs / 2 ^ at0 % 2 ^ v : Nat) : Int) (sShl .u64 (IntKind.u64.wrap ((val bs / 2 ^ at0 / 2 ^ v % 2 ^ k : Nat) : Int)) (v : Int)) = ((val bs / 2 ^ at0 % 2 ^ (v + k) : Nat) : Int) := by
    have hv32 : 2 ^ v ≤ 2 ^ 32 := Nat.pow_le_pow_right (n := 2) (by decide) (by omega)
    rw [y113 (by omega), shl_u64 (by omega), Nat.mod_eq_of_lt hbig, or_u64 (by omega) hbig, or_add hlow, hsum]
   refine ⟨_, c1, _, _, _, c0, _, c1, ?_⟩
   simp only [w1, w2]
   refine idx y33 H.m1.rd (by omega) (by omega) (v := .int .u8 (bs[A / 8] : Nat)) (by rw [Int.toNat_natCast]; exact nV_get hq) fun t ht => ?_
   refine ⟨_, ht, _, c1, y10 (by rw [t8]; exact decide_eq_true (Int.natCast_nonneg _)) (y10 (decide_eq_true (Int.natCast_nonneg _)) (y10 (decide_eq_true (Int.natCast_nonneg _)) ⟨_, c1, H.sto (off := 1) (by simp) fun h1 H1 => ?_⟩))⟩
   have w5 : IntKind.i64.wrap ((A : Int) + (k : Int)) = ((A + k : Nat) : Int) := by rw [y46 (by omega) (by omega)]; omega
   have w6 : IntKind.i64.wrap ((v : Int) + (k : Int)) = ((v + k : Nat) : Int) := by rw [y46 (by omega) (by omega)]; omega
   simp only [w3, w4, w6]
   simp only [w5, List.set_cons_succ, List.set_cons_zero] at H1
   refine ih (v + k) (by omega) (by omega) (Rr_iff.2 ⟨a, _, c, ⟨rfl, hb, hm, by omega⟩, ?_⟩) kk
   rw [show at0 + (v + k) = A + k by omega]; exact H1
  ·obtain rfl : v = n := by omega
   exact z193.L1_of (y5 (decide_eq_false (by omega)) (kk h H))
theorem Take_hs {p at_ n : Nat} {bs : List Nat} {L : List Assn} {h : Heap} {Q : Value → Heap → Prop} (H : Hs h (Rr p bs at_ :: L)) (hn : n ≤ 32) (hl : at_ + n ≤ 8 * bs.length)
  (kk : ∀ h', Hs h' (Rr p bs (at_ + n) :: L) → Q (.tuple #[.int .u32 ((val bs / 2 ^ at_ % 2 ^ n : Nat) : Int), .int .i64 0]) h') : SpecH PP z194 [P_ p, .int .i64 n] h Q := by
 refine z193.door ?_
 dsimp only [nilc, Option.isNone]
 refine y5 rfl (y5 (decide_eq_false (by omega)) (z193.J1_of (y5 (decide_eq_false (by omega)) ?_)))
 refine Left_hs H ⟨_, rfl, y5 (decide_eq_false (by omega)) ?_⟩
 have := take_loop (K := z193.K2 Q) hn hl n 0 (by omega) (Nat.zero_le _) (by simpa using H) fun h' H' => by
  refine z193.L1_X1 ?_
  dsimp only
  have : val bs / 2 ^ at_ % 2 ^ n < 2 ^ n := Nat.mod_lt _ (Nat.pow_pos (by decide))
  have : 2 ^ n ≤ 2 ^ 32 := Nat.pow_le_pow_right (n := 2) (by decide) hn
  simp only [y124 (show val bs / 2 ^ at_ % 2 ^ n < 4294967296 by omega)]
  exact kk h' H'
 simpa [Nat.mod_one] using this
theorem Take_end {p at_ n : Nat} {bs : List Nat} {L : List Assn} {h : Heap} {Q : Value → Heap → Prop} (H : Hs h (Rr p bs at_ :: L)) (hn : n ≤ 32) (hl : 8 * bs.length - at_ < n)
  (kk : Q (.tuple #[.int .u32 0, .int .i64 10]) h) : SpecH PP z194 [P_ p, .int .i64 n] h Q := by
 refine z193.door ?_
 dsimp only [nilc, Option.isNone]
 refine y5 rfl (y5 (decide_eq_false (by omega)) (z193.J1_of (y5 (decide_eq_false (by omega)) ?_)))
 exact Left_hs H ⟨_, rfl, y10 (decide_eq_true (by omega)) kk⟩
end Go.Proofs.YtmkjmmpldepknaaDoor

set_option maxRecDepth 20000
namespace Go.Proofs.YtmkjmmpldepknaaDoor
open Go Go.HW Go.HW.Can
variable {h : Heap} {L : List Assn} {Q : Value → Heap → Prop} {a : OA} {n c : Nat} {l : List Nat}
def nI (l : List Nat) : List Value := l.map fun x : Nat => Value.int .i64 x
theorem y28 (l : List Nat) : (nI l).length = l.length := List.length_map ..
theorem nI_get {l : List Nat} {j : Nat} (hj : j < l.length) : (nI l)[j]? = some (.int .i64 (l.getD j 0 : Nat)) := by simp [nI, hj]
theorem nI_set (l : List Nat) (j v : Nat) : (nI l).set j (.int .i64 (v : Int)) = nI (l.set j v) := by simp [nI, List.map_set]
theorem nI_rep (n : Nat) : nI (List.replicate n 0) = List.replicate n (.int .i64 0) := by simp [nI]
theorem nI_app (l m : List Nat) : nI (l ++ m) = nI l ++ nI m := by simp [nI]
theorem nI_one (l : List Nat) : ∀ v ∈ nI l, oneC v = true := by intro v hv; simp [nI] at hv; obtain ⟨x, _, rfl⟩ := hv; rfl
theorem y107 {l : List Nat} {i : Nat} (h : i < l.length) : l.getD i 0 ∈ l := by rw [show l.getD i 0 = l[i] by simp [h]]; exact List.getElem_mem h
theorem ixI {t e : TypeId} {bz : Nat} (E : Elem PP t e 1 bz (.int .i64 0)) {a : OA} {n c i : Nat} {l : List Nat} {M : List Assn} (g : Gv M a (nI l)) (hn : l.length = n) (hi : i < n) (H : Hs h M) {R : Addr → Heap → Prop} (K : ∀ t, cellH h t = some (.int .i64 (l.getD i 0 : Nat)) → R t h) :
  hwp PP (Instr.indexAt t (.slice a n c) (.int .i64 (i : Int))) (fun u h1 => ∃ t, u = .pointer (some t) ∧ R t h1) h :=
 idx E (g h H) (by omega) (by omega) (by rw [Int.toNat_natCast]; exact nI_get (by omega)) K
theorem kr_take (l : List Nat) {i : Nat} (hi : i < l.length) : kr (l.take (i + 1)) = kr (l.take i) + (if l.getD i 0 = 0 then 0 else 2 ^ (15 - l.getD i 0)) ∧ used (l.take (i + 1)) = used (l.take i) + (if l.getD i 0 = 0 then 0 else 1) := by
 induction l generalizing i with
 | nil => simp at hi
 | cons x l ih =>
  cases i with
  | zero => simp [kr, used]
  | succ i =>
   obtain ⟨h1, h2⟩ := ih (i := i) (by simpa using hi)
   simp only [List.take_succ_cons, kr, used, List.getD_cons_succ]
   omega
theorem kr_le {l : List Nat} : kr l ≤ l.length * 32768 ∧ used l ≤ l.length := by
 induction l with
 | nil => simp [kr, used]
 | cons x l ih =>
  simp only [kr, used, List.length_cons]
  have : (if x = 0 then 0 else 2 ^ (15 - x)) ≤ 32768 := by
   split
   ·omega
   ·exact Nat.le_trans (Nat.pow_le_pow_right (by decide) (Nat.sub_le 15 x)) (by decide)
  have h2 : (if x = 0 then 0 else 1) ≤ 1 := by split <;> omega
  generalize (if x = 0 then 0 else 2 ^ (15 - x)) = y at *
  generalize (if x = 0 then 0 else 1) = z at *
  omega
theorem shl1 {m : Nat} (h : m ≤ 15) : sShl .i64 1 ((m : Nat) : Int) = ((2 ^ m : Nat) : Int) := by
 have : 2 ^ m ≤ 2 ^ 15 := Nat.pow_le_pow_right (by decide) h
 have := shl_i64 (a := 1) (m := m) (by omega) (by omega)
 rwa [Nat.one_mul] at this
theorem HCheck_hs (g : Gv L a (nI l)) (hn : l.length = n) (h0 : 0 < n) (h1 : n ≤ 288) (h15 : ∀ x ∈ l, x ≤ 15) (H : Hs h L) (k : Q (.int .i64 (chk l : Nat)) h) : SpecH PP z226 [.slice a n c] h Q := by
 refine z225.door ?_
 dsimp only
 refine y5 (beq_false_of_ne (by omega)) ?_
 refine z225.J1_of (y5 (decide_eq_false (by omega)) ?_)
 have fin : Q (.int .i64 (chk l : Nat)) h → z225.K2 Q (.exit 0) (z225.X0 (used l : Nat) (kr l : Nat)) h := by
  intro k
  unfold chk at k
  rw [show (2 : Nat) ^ 15 = 32768 from rfl, show (2 : Nat) ^ 14 = 16384 from rfl] at k
  by_cases c1 : 32768 < kr l
  ·rw [if_pos c1] at k
   have d1 := decide_eq_true (p := ((kr l : Nat) : Int) > 32768) (by omega)
   refine z225.L1_X0 ?_
   dsimp only
   rw [d1]
   exact y10 rfl k
  rw [if_neg c1] at k
  have d1 := decide_eq_false (p := ((kr l : Nat) : Int) > 32768) (by omega)
  by_cases c2 : kr l < 32768
  ·have d2 := decide_eq_true (p := ((kr l : Nat) : Int) < 32768) (by omega)
   by_cases c3 : used l = 1
   ·have d3 : (((used l : Nat) : Int) != 1) = false := by rw [c3]; rfl
    by_cases c4 : kr l = 16384
    ·rw [if_neg (by omega)] at k
     have d4 : (((kr l : Nat) : Int) != 16384) = false := by rw [c4]; rfl
     refine z225.L1_X0 ?_
     dsimp only
     rw [d1, d2, d3, d4]
     exact y5 rfl (y10 rfl (y5 rfl (z225.J3_of (y5 rfl k))))
    ·rw [if_pos ⟨c2, Or.inr c4⟩] at k
     have d4 : (((kr l : Nat) : Int) != 16384) = true := bne_iff_ne.2 (by omega)
     refine z225.L1_X0 ?_
     dsimp only
     rw [d1, d2, d3, d4]
     exact y5 rfl (y10 rfl (y5 rfl (z225.J3_of (y10 rfl k))))
   ·rw [if_pos ⟨c2, Or.inl c3⟩] at k
    have d3 : (((used l : Nat) : Int) != 1) = true := bne_iff_ne.2 (by omega)
    refine z225.L1_X0 ?_
    dsimp only
    rw [d1, d2, d3]
    exact y5 rfl (y10 rfl (y10 rfl (z225.J3_of (y10 rfl k))))
  ·rw [if_neg (by omega)] at k
   have d2 := decide_eq_false (p := ((kr l : Nat) : Int) < 32768) (by omega)
   refine z225.L1_X0 ?_
   dsimp only
   rw [d1, d2]
   exact y5 rfl (y5 rfl (z225.J3_of (y5 rfl k)))
 have go : ∀ (r i : Nat), i + r = n → z225.L1 (used (l.take i) : Nat) (kr (l.take i) : Nat) a n c (n : Nat) (i : Nat) (z225.K2 Q) h := by
  intro r
  induction r with
  | zero =>
   intro i hi
   refine z225.L1_of (y5 (by simp; omega) ?_)
   rw [List.take_of_length_le (by omega)]
   exact fin k
  | succ r ih =>
   intro i hi
   refine z225.L1_of (y10 (by simp; omega) ?_)
   refine ixI y25 g hn (by omega) H fun t ht => ⟨_, ht, ?_⟩
   have hx := h15 _ (y107 (l := l) (i := i) (by omega))
   obtain ⟨t1, t2⟩ := kr_take l (i := i) (by omega)
   have b := kr_le (l := l.take i)
   have hlt : (l.take i).length ≤ 288 := by rw [List.length_take]; omega
   generalize l.getD i 0 = x at *
   dsimp only
   refine y5 (by simp) ?_
   refine z225.J2_of (y5 (by simp; omega) ?_)
   have nx : ∀ u s : Nat, u = used (l.take (i + 1)) → s = kr (l.take (i + 1)) → z225.J4 (u : Nat) (s : Nat) a n c (n : Nat) (i : Nat) (z225.K2 Q) h := by
    intro u s e1 e2
    subst e1; subst e2
    refine z225.J4_of ?_
    dsimp only
    rw [inc (by omega)]
    exact ih (i + 1) (by omega)
   refine (y20 _ _ _).2 ⟨fun e => ?_, fun e => ?_⟩
   ·have e := of_decide_eq_true e
    dsimp only
    rw [show IntKind.i64.wrap (15 - (x : Int)) = ((15 - x : Nat) : Int) by rw [y46 (by omega) (by omega)]; omega]
    refine y10 (by simp) ?_
    have hp : 2 ^ (15 - x) ≤ 32768 := Nat.le_trans (Nat.pow_le_pow_right (by decide) (Nat.sub_le 15 x)) (by decide)
    rw [shl1 (by omega), inc (by omega)]
    rw [if_neg (by omega)] at t1 t2
    generalize 2 ^ (15 - x) = y at *
    rw [show IntKind.i64.wrap (((kr (l.take i) : Nat) : Int) + ((y : Nat) : Int)) = ((kr (l.take i) + y : Nat) : Int) by rw [y46 (by omega) (by omega)]; omega]
    exact nx _ _ t2.symm t1.symm
   ·have e := of_decide_eq_false e
    rw [if_pos (by omega)] at t1 t2
    exact nx _ _ t2.symm t1.symm
 exact go n 0 (by omega)
def bases (l : List Nat) : List Nat := (List.range 16).map (base l)
def cnts (l : List Nat) : List Nat := (List.range 16).map (cnt l)
theorem rg_get (f : Nat → Nat) {j : Nat} (hj : j < 16) : ((List.range 16).map f).getD j 0 = f j := by simp [hj]
theorem rg_set (f g : Nat → Nat) {j : Nat} (hj : j < 16) (h : ∀ k, k < 16 → g k = if k = j then g j else f k) : ((List.range 16).map f).set j (g j) = (List.range 16).map g := by
 refine List.ext_getElem (by simp) fun i h1 h2 => ?_
 simp at h2
 rw [List.getElem_set, List.getElem_map, List.getElem_map, List.getElem_range, h i h2]
 by_cases e : j = i
 ·subst e; simp
 ·rw [if_neg e, if_neg (Ne.symm e)]
theorem cnt_take (l : List Nat) {i : Nat} (hi : i < l.length) (k : Nat) : cnt (l.take (i + 1)) k = if k = l.getD i 0 ∧ k ≠ 0 then cnt (l.take i) k + 1 else cnt (l.take i) k := by
 have e : l.getD i 0 = l[i] := by simp [hi]
 unfold cnt
 rw [List.take_succ_eq_append_getElem hi, List.count_append, List.count_singleton, e]
 by_cases h0 : k = 0
 ·simp [h0]
 ·rw [if_neg h0, if_neg h0]
  by_cases h1 : k = l[i]
  ·have : (l[i] == k) = true := by simp [h1]
   rw [if_pos this, if_pos (show k = l[i] ∧ k ≠ 0 from ⟨h1, h0⟩)]
  ·have : ¬ (l[i] == k) = true := by simp; exact fun hh => h1 hh.symm
   rw [if_neg this, if_neg (show ¬ (k = l[i] ∧ k ≠ 0) from fun hh => h1 hh.1), Nat.add_zero]
theorem cnt_le (l : List Nat) (k : Nat) : cnt l k ≤ l.length := by
 unfold cnt; split
 ·omega
 ·exact List.count_le_length
theorem base_le {l : List Nat} (hk : kr l ≤ 2 ^ 15) : ∀ m, m ≤ 15 → base l m ≤ 32768 ∧ base l m + cnt l m ≤ 32768 := by
 intro m hm
 have := base_fits hk hm
 have : 2 ^ m ≤ 2 ^ 15 := Nat.pow_le_pow_right (by decide) hm
 omega
def basesTo (l : List Nat) (m : Nat) : List Nat := (List.range 16).map fun k => if k < m then base l k else 0
theorem rgI_len (f : Nat → Nat) : (nI ((List.range 16).map f)).length = 16 := by rw [y28]; simp
theorem first_hs (g : Gv L a (nI l)) (hn : l.length = n) (h1 : n ≤ 288) (h15 : ∀ x ∈ l, x ≤ 15) (hk : kr l ≤ 2 ^ 15) (H : Hs h L)
  (k : ∀ h', Hs h' L → Q (.tuple #[.agg (nI (bases l)).toArray, .agg (nI (cnts l)).toArray]) h') : SpecH PP z238 [.slice a n c] h Q := by
 refine z237.door ?_
 dsimp only
 have H1 := H.new (t := y64) (cs := Array.replicate 16 (.int .i64 0)) (xs := nI (basesTo l 1)) (by rfl)
 generalize Array.size h = p at H1 ⊢
 generalize Array.push h _ = h1' at H1 ⊢
 have H2 := H1.new (t := y64) (cs := Array.replicate 16 (.int .i64 0)) (xs := nI ((List.range 16).map (cnt (l.take 0)))) (by simp [cnt]; rfl)
 generalize Array.size h1' = q at H2 ⊢
 generalize Array.push h1' _ = h2' at H2 ⊢
 have two : ∀ (r m : Nat) {h : Heap}, m + r = 16 → 1 ≤ m → Hs h (pt q y64 (nI (cnts l)) :: pt p y64 (nI (basesTo l m)) :: L) → z237.L2 ⟨p, 0, none⟩ ⟨q, 0, none⟩ (base l (m - 1) : Nat) (m : Nat) (z237.K2 Q) h := by
  intro r
  induction r with
  | zero =>
   intro m h hm hm1 H
   refine z237.L2_of (y5 (by simp; omega) (z237.L2_X2 ?_))
   have eb : basesTo l m = bases l := by
    obtain rfl : m = 16 := by omega
    unfold basesTo bases
    refine List.map_congr_left fun k hk => ?_
    rw [if_pos (List.mem_range.1 hk)]
   rw [eb] at H
   have l1 : (nI (bases l)).length = 16 := rgI_len _
   have l2 : (nI (cnts l)).length = 16 := rgI_len _
   have b1 := nI_one (bases l)
   have b2 := nI_one (cnts l)
   refine ⟨_, l1, H.m1.rdc0 rfl, ⟨_, l2, H.rdc0 rfl, y10 (by simp [l1]) (H.m1.wrs (fun h3 H3 => y10 (by simp [l2]) (H3.m1.wrs (fun h4 H4 => ⟨_, l1, H4.m1.rdc0 rfl, _, l2, H4.rdc0 rfl, k _ H4.tl.tl⟩) rfl b2)) rfl b1)⟩,
    y10 (by simp [l1]) (H.m1.wrs (fun h3 H3 => ⟨_, l2, H3.m1.rdc0 rfl, y10 (by simp [l2]) (H3.m1.wrs (fun h4 H4 => ⟨_, l1, H4.m1.rdc0 rfl, _, l2, H4.rdc0 rfl, k _ H4.tl.tl⟩) rfl b2)⟩) rfl b1), trivial⟩
  | succ r ih =>
   intro m h hm hm1 H
   refine z237.L2_of (y10 (by simp; omega) ?_)
   dsimp only
   rw [show IntKind.i64.wrap ((m : Int) - 1) = ((m - 1 : Nat) : Int) by rw [y46 (by omega) (by omega)]; omega]
   refine ai y142 (j := m - 1) (by omega) ?_
   refine ⟨_, H.cell (off := m - 1) (nI_get (by simp [cnts]; omega)) rfl, ?_⟩
   have hc : (cnts l).getD (m - 1) 0 = cnt l (m - 1) := rg_get _ (by omega)
   obtain ⟨q1, q2⟩ := base_le hk (m - 1) (by omega)
   rw [hc, show IntKind.i64.wrap (((base l (m - 1) : Nat) : Int) + ((cnt l (m - 1) : Nat) : Int)) = ((base l (m - 1) + cnt l (m - 1) : Nat) : Int) by rw [y46 (by omega) (by omega)]; omega]
   have hs : sShl .i64 ((base l (m - 1) + cnt l (m - 1) : Nat) : Int) 1 = ((base l m : Nat) : Int) := by
    have := shl_i64 (a := base l (m - 1) + cnt l (m - 1)) (m := 1) (by decide) (by omega)
    rw [show (1 : Int) = ((1 : Nat) : Int) from rfl, this, show m = (m - 1) + 1 by omega, base]
    simp only [Nat.add_sub_cancel]; omega
   rw [hs, inc (by omega)]
   refine ai y142 (j := m) (by omega) ?_
   refine H.m1.sto (off := m) (by rw [y28]; simp [basesTo]; omega) fun h3 H3 => ?_
   rw [nI_set] at H3
   have e : (basesTo l m).set m (base l m) = basesTo l (m + 1) := by
    have := rg_set (fun k => if k < m then base l k else 0) (fun k => if k < m + 1 then base l k else 0) (j := m) (by omega) (fun k hk => by
     by_cases e1 : k = m
     ·subst e1; simp
     ·rw [if_neg e1]; by_cases e2 : k < m
      ·rw [if_pos e2, if_pos (by omega)]
      ·rw [if_neg e2, if_neg (by omega)])
    simpa [basesTo] using this
   rw [e] at H3
   exact ih (m + 1) (by omega) (by omega) H3.m1
 have one : ∀ (r i : Nat) {h : Heap}, i + r = n → Hs h (pt q y64 (nI ((List.range 16).map (cnt (l.take i)))) :: pt p y64 (nI (basesTo l 1)) :: L) → z237.L1 ⟨p, 0, none⟩ ⟨q, 0, none⟩ a n c (n : Nat) (i : Nat) (z237.K1 Q) h := by
  intro r
  induction r with
  | zero =>
   intro i h hi H
   refine z237.L1_of (y5 (by simp; omega) (z237.L1_X0 ?_))
   rw [List.take_of_length_le (by omega)] at H
   exact two 15 1 rfl (Nat.le_refl _) H
  | succ r ih =>
   intro i h hi H
   refine z237.L1_of (y10 (by simp; omega) ?_)
   refine ixI y25 g.cons.cons hn (by omega) H fun t ht => ⟨_, ht, ?_⟩
   have hx := h15 _ (y107 (l := l) (i := i) (by omega))
   have hct := cnt_take l (i := i) (by omega)
   have nx : ∀ {h : Heap}, Hs h (pt q y64 (nI ((List.range 16).map (cnt (l.take (i + 1))))) :: pt p y64 (nI (basesTo l 1)) :: L) → z237.J1 ⟨p, 0, none⟩ ⟨q, 0, none⟩ a n c (n : Nat) (i : Nat) (z237.K1 Q) h := by
    intro h H
    refine z237.J1_of ?_
    dsimp only
    rw [inc (by omega)]
    exact ih (i + 1) (by omega) H
   generalize l.getD i 0 = x at *
   dsimp only
   refine (y20 _ _ _).2 ⟨fun e => ?_, fun e => ?_⟩
   ·have e := of_decide_eq_true e
    refine ai y142 (j := x) (by omega) ?_
    refine ⟨_, H.cell (off := x) (nI_get (by simp; omega)) rfl, ?_⟩
    rw [rg_get _ (by omega)]
    have := cnt_le (l.take i) x
    have : (l.take i).length ≤ 288 := by rw [List.length_take]; omega
    rw [inc (by omega)]
    refine ai y142 (j := x) (by omega) ?_
    refine H.sto (off := x) (by rw [y28]; simp; omega) fun h3 H3 => ?_
    rw [nI_set] at H3
    have e2 := rg_set (cnt (l.take i)) (cnt (l.take (i + 1))) (j := x) (by omega) (fun k hk => by
     by_cases e1 : k = x
     ·rw [if_pos e1, e1]
     ·rw [if_neg e1, hct, if_neg (fun hh => e1 hh.1)])
    rw [hct x, if_pos ⟨rfl, by omega⟩] at e2
    rw [e2] at H3
    exact nx H3
   ·have e := of_decide_eq_false e
    refine nx ?_
    have e2 : (List.range 16).map (cnt (l.take (i + 1))) = (List.range 16).map (cnt (l.take i)) := List.map_congr_left fun k _ => by rw [hct, if_neg (by omega)]
    rw [e2]; exact H
 exact one n 0 (by omega) H2
theorem turned_hs {v : Nat} (hv : v < 2 ^ 15) (hn : n ≤ 15) (k : Q (.int .u32 (tn v n : Nat)) h) : SpecH PP z240 [.int .i64 v, .int .i64 n] h Q := by
 refine z239.door ?_
 have go : ∀ (r i : Nat), i + r = n → z239.L1 ((v / 2 ^ i : Nat) : Int) ((tn v i : Nat) : Int) (n : Nat) (i : Nat) (z239.K1 Q) h := by
  intro r
  induction r with
  | zero =>
   intro i hi
   obtain rfl : i = n := by omega
   exact z239.L1_of (y5 (by simp) (z239.L1_X0 k))
  | succ r ih =>
   intro i hi
   refine z239.L1_of (y10 (by simp; omega) ?_)
   dsimp only
   have t1 := tn_lt v i
   have t2 : 2 ^ i ≤ 2 ^ 15 := Nat.pow_le_pow_right (by decide) (by omega)
   have t3 : v / 2 ^ i ≤ v := Nat.div_le_self _ _
   have t5 := Nat.mod_lt (v / 2 ^ i) (show 0 < 2 by decide)
   have e1 : sShl .u32 ((tn v i : Nat) : Int) 1 = ((2 * tn v i : Nat) : Int) := by
    rw [show (1 : Int) = ((1 : Nat) : Int) from rfl, shl_u32 (by omega), Nat.mod_eq_of_lt (by omega)]; congr 1; omega
   have e2 : IntKind.u32.wrap (bAnd .i64 ((v / 2 ^ i : Nat) : Int) 1) = ((v / 2 ^ i % 2 : Nat) : Int) := by
    rw [show (1 : Int) = ((1 : Nat) : Int) from rfl, and_i64 (by omega) (by omega), show (1 : Nat) = 2 ^ 1 - 1 from rfl, and_mask, y124 (by omega)]
   have e3 : bOr .u32 ((2 * tn v i : Nat) : Int) ((v / 2 ^ i % 2 : Nat) : Int) = ((tn v (i + 1) : Nat) : Int) := by
    rw [or_u32 (by omega) (by omega), Nat.or_comm, show 2 * tn v i = tn v i * 2 ^ 1 by omega, or_add (by omega)]
    simp only [tn]; congr 1; omega
   have e4 : sShr .i64 ((v / 2 ^ i : Nat) : Int) 1 = ((v / 2 ^ (i + 1) : Nat) : Int) := by
    rw [show (1 : Int) = ((1 : Nat) : Int) from rfl, shr_i64 (by omega), Nat.div_div_eq_div_mul, ← Nat.pow_add]
   rw [e1, e2, e3, e4, inc (by omega)]
   exact ih (i + 1) (by omega)
 have := go n 0 (by omega)
 simpa [tn] using this
def nU (l : List Nat) : List Value := l.map fun x : Nat => Value.int .u32 x
theorem nU_len (l : List Nat) : (nU l).length = l.length := List.length_map ..
theorem nU_get {l : List Nat} {j : Nat} (hj : j < l.length) : (nU l)[j]? = some (.int .u32 (l.getD j 0 : Nat)) := by simp [nU, hj]
theorem nU_set (l : List Nat) (j v : Nat) : (nU l).set j (.int .u32 (v : Int)) = nU (l.set j v) := by simp [nU, List.map_set]
def codesL (l : List Nat) (m : Nat) : List Nat := (List.range l.length).map fun i => if i < m then (if l.getD i 0 = 0 then 0 else tn (code l i) (l.getD i 0)) else 0
theorem y161 {l : List Nat} {i : Nat} (hi : i < l.length) (h0 : l.getD i 0 ≠ 0) : (codesL l l.length).getD i 0 = (cd l i).x := by
 unfold codesL cd; simp only [List.getD_eq_getElem?_getD] at *; simp [hi]; exact fun hh => absurd hh (by simpa [hi] using h0)
theorem Codes_bad (g : Gv L a (nI l)) (hn : l.length = n) (h0 : 0 < n) (h1 : n ≤ 288) (h15 : ∀ x ∈ l, x ≤ 15) (hk : chk l ≠ 0) (H : Hs h L) (k : Q (.tuple #[.slice none 0 0, .int .i64 (chk l : Nat)]) h) : SpecH PP z228 [.slice a n c] h Q :=
 z227.door (HCheck_hs g hn h0 h1 h15 H ⟨_, rfl, y10 (by simp; omega) k⟩)
theorem Codes_hs (g : Gv L a (nI l)) (hn : l.length = n) (h0 : 0 < n) (h1 : n ≤ 288) (h15 : ∀ x ∈ l, x ≤ 15) (hk : chk l = 0) (H : Hs h L)
  (k : ∀ h' b, Hs h' (own (some ⟨b, 0, none⟩) n n y150 1 (nU (codesL l l.length)) :: L) → Q (.tuple #[.slice (some ⟨b, 0, none⟩) n n, .int .i64 0]) h') : SpecH PP z228 [.slice a n c] h Q := by
 have hkr := chk_kr hk
 refine z227.door (HCheck_hs g hn h0 h1 h15 H ⟨_, rfl, y5 (by simp; omega) ?_⟩)
 refine first_hs g hn h1 h15 hkr H fun h2 H2 => ⟨_, _, rfl, ?_⟩
 dsimp only
 have l1 : (nI (bases l)).length = 16 := rgI_len _
 have l2 : (nI (cnts l)).length = 16 := rgI_len _
 have H3 := H2.new (t := y64) (cs := Array.replicate 16 (.int .i64 0)) (xs := nI (List.replicate 16 0)) (by rfl)
 generalize Array.size h2 = p at H3 ⊢
 generalize Array.push h2 _ = h3 at H3 ⊢
 have H4 := H3.new (t := y64) (cs := Array.replicate 16 (.int .i64 0)) (xs := nI (List.replicate 16 0)) (by rfl)
 generalize Array.size h3 = q at H4 ⊢
 generalize Array.push h3 _ = h4 at H4 ⊢
 refine y10 (by simp [l1]) (H4.m1.wrs (fun h5 H5 => y10 (by simp [l2]) (H5.m1.wrs (fun h6 H6 => ?_) (by rw [l2]; rfl) (nI_one _))) (by rw [l1]; rfl) (nI_one _))
 refine H6.make y152 rfl rfl (Nat.le_refl _) (by omega) (by omega) fun h7 b H7 => ⟨_, _, _, rfl, ?_⟩
 have go : ∀ (r i : Nat) {h : Heap}, i + r = n → Hs h (own (some ⟨b, 0, none⟩) n n y150 1 (nU (codesL l i)) :: pt p y64 (nI ((List.range 16).map fun m => base l m + cnt (l.take i) m)) :: L) → z227.L1 ⟨p, 0, none⟩ (some ⟨b, 0, none⟩) n n a n c (n : Nat) (i : Nat) (z227.K1 Q) h := by
  intro r
  induction r with
  | zero =>
   intro i h hi H
   obtain rfl : i = n := by omega
   refine z227.L1_of (y5 (by simp) (z227.L1_X0 (k h b ?_)))
   rw [hn]; exact (H.m1).tl
  | succ r ih =>
   intro i h hi H
   refine z227.L1_of (y10 (by simp; omega) ?_)
   refine ixI y25 g.cons.cons hn (by omega) H fun t ht => ⟨_, ht, ?_⟩
   have hx := h15 _ (y107 (l := l) (i := i) (by omega))
   have hct := cnt_take l (i := i) (by omega)
   have hcode : l.getD i 0 ≠ 0 → code l i = base l (l.getD i 0) + cnt (l.take i) (l.getD i 0) := fun h => by unfold code cnt; rw [if_neg h]
   have hcf : l.getD i 0 ≠ 0 → code l i < 2 ^ 15 := fun h => Nat.lt_of_lt_of_le (code_fits hkr (by omega) h hx) (Nat.pow_le_pow_right (by decide) hx)
   have hcl : ∀ v : Nat, v = (if l.getD i 0 = 0 then 0 else tn (code l i) (l.getD i 0)) → (codesL l i).set i v = codesL l (i + 1) := by
    intro v hv
    subst hv
    unfold codesL
    refine List.ext_getElem (by simp) fun j g1 g2 => ?_
    rw [List.getElem_set, List.getElem_map, List.getElem_map, List.getElem_range]
    by_cases e : i = j
    ·subst e; rw [if_pos (show i = i from rfl), if_pos (show i < i + 1 by omega)]
    ·rw [if_neg e]; by_cases e2 : j < i
     ·rw [if_pos e2, if_pos (show j < i + 1 by omega)]
     ·rw [if_neg e2, if_neg (show ¬ j < i + 1 by omega)]
   have hcl0 : l.getD i 0 = 0 → codesL l (i + 1) = codesL l i := by
    intro hz
    unfold codesL
    refine List.map_congr_left fun j _ => ?_
    by_cases e : j = i
    ·subst e; rw [if_pos (show j < j + 1 by omega), if_pos hz, if_neg (show ¬ j < j by omega)]
    ·by_cases e2 : j < i
     ·rw [if_pos e2, if_pos (show j < i + 1 by omega)]
     ·rw [if_neg e2, if_neg (show ¬ j < i + 1 by omega)]
   have nx : ∀ {h : Heap}, Hs h (own (some ⟨b, 0, none⟩) n n y150 1 (nU (codesL l (i + 1))) :: pt p y64 (nI ((List.range 16).map fun m => base l m + cnt (l.take (i + 1)) m)) :: L) → z227.J1 ⟨p, 0, none⟩ (some ⟨b, 0, none⟩) n n a n c (n : Nat) (i : Nat) (z227.K1 Q) h := by
    intro h H
    refine z227.J1_of ?_
    dsimp only
    rw [inc (by omega)]
    exact ih (i + 1) (by omega) H
   generalize l.getD i 0 = x at *
   dsimp only
   refine (y20 _ _ _).2 ⟨fun e => ?_, fun e => ?_⟩
   ·have e := of_decide_eq_true e
    have hx0 : x ≠ 0 := by omega
    have hc := hcode hx0
    have hcf := hcf hx0
    rw [if_neg hx0] at hcl
    refine ai y142 (j := x) (by omega) ?_
    refine ⟨_, H.m1.cell (off := x) (nI_get (by simp; omega)) rfl, ?_⟩
    rw [rg_get (fun m => base l m + cnt (l.take i) m) (by omega), ← hc]
    refine turned_hs hcf hx ⟨_, rfl, ?_⟩
    refine H.idx_set y152 (by omega) (by omega) rfl fun h3 H3 => ?_
    rw [Int.toNat_natCast, nU_set, hcl _ rfl] at H3
    refine ai y142 (j := x) (by omega) ?_
    refine ⟨_, H3.m1.cell (off := x) (nI_get (by simp; omega)) rfl, ?_⟩
    rw [rg_get (fun m => base l m + cnt (l.take i) m) (by omega), ← hc, inc (by omega)]
    refine ai y142 (j := x) (by omega) ?_
    refine H3.m1.sto (off := x) (by rw [y28]; simp; omega) fun h4 H4 => ?_
    rw [nI_set] at H4
    have e2 := rg_set (fun m => base l m + cnt (l.take i) m) (fun m => base l m + cnt (l.take (i + 1)) m) (j := x) (by omega) (fun k hk => by
     by_cases e1 : k = x
     ·rw [if_pos e1, e1]
     ·rw [if_neg e1, hct, if_neg (fun hh => e1 hh.1)])
    rw [hct x, if_pos ⟨rfl, hx0⟩, ← Nat.add_assoc, ← hc] at e2
    rw [e2] at H4
    exact nx H4.m1
   ·have e := of_decide_eq_false e
    have hx0 : x = 0 := by omega
    refine nx ?_
    rw [hcl0 hx0]
    have e2 : ((List.range 16).map fun m => base l m + cnt (l.take (i + 1)) m) = (List.range 16).map fun m => base l m + cnt (l.take i) m := List.map_congr_left fun k _ => by rw [hct, if_neg (by omega)]
    rw [e2]; exact H
 refine go n 0 (by omega) ?_
 have e1 : nU (codesL l 0) = List.replicate n (.int .u32 0) := by
  unfold nU codesL; simp [hn, Function.comp_def, List.map_const']
 have e2 : ((List.range 16).map fun m => base l m + cnt (l.take 0) m) = bases l := List.map_congr_left fun k _ => by simp [cnt]
 rw [e1, e2]
 exact (H7.pt_all (n := n) (by simp)).m1.tl
end Go.Proofs.YtmkjmmpldepknaaDoor

set_option maxRecDepth 20000
namespace Go.Proofs.YtmkjmmpldepknaaDoor
open Go Go.HW Go.HW.Can Go.HW.Pz
variable {h : Heap} {L : List Assn} {Q : Value → Heap → Prop} {a : OA} {n c : Nat} {l : List Nat}
def decV (cs ns at_ : List Nat) (a : OA) (n c lg : Nat) : List Value := nI cs ++ (nI ns ++ (nI at_ ++ [.slice a n c, .int .i64 lg]))
section
variable {cs ns at_ : List Nat} {lg : Nat} (h1 : cs.length = 16) (h2 : ns.length = 16) (h3 : at_.length = 16)
include h1 h2 h3
theorem dec_len : (decV cs ns at_ a n c lg).length = 50 := by simp [decV, y28, h1, h2, h3]
theorem dec_cs {j : Nat} (hj : j < 16) : (decV cs ns at_ a n c lg)[j]? = some (.int .i64 (cs.getD j 0 : Nat)) := by
 unfold decV; rw [List.getElem?_append_left (by rw [y28]; omega)]; exact nI_get (by omega)
theorem dec_ns {j : Nat} (hj : j < 16) : (decV cs ns at_ a n c lg)[16 + j]? = some (.int .i64 (ns.getD j 0 : Nat)) := by
 unfold decV; rw [List.getElem?_append_right (by rw [y28]; omega), y28, h1, Nat.add_sub_cancel_left, List.getElem?_append_left (by rw [y28]; omega)]; exact nI_get (by omega)
theorem dec_at {j : Nat} (hj : j < 16) : (decV cs ns at_ a n c lg)[32 + j]? = some (.int .i64 (at_.getD j 0 : Nat)) := by
 unfold decV
 rw [List.getElem?_append_right (by rw [y28]; omega), y28, h1, List.getElem?_append_right (by rw [y28]; omega), y28, h2, show 32 + j - 16 - 16 = j by omega, List.getElem?_append_left (by rw [y28]; omega)]; exact nI_get (by omega)
theorem dec_48 : (decV cs ns at_ a n c lg)[48]? = some (.slice a n c) := by
 unfold decV
 rw [List.getElem?_append_right (by rw [y28]; omega), y28, h1, List.getElem?_append_right (by rw [y28]; omega), y28, h2, List.getElem?_append_right (by rw [y28]; omega), y28, h3]; rfl
theorem dec_49 : (decV cs ns at_ a n c lg)[49]? = some (.int .i64 lg) := by
 unfold decV
 rw [List.getElem?_append_right (by rw [y28]; omega), y28, h1, List.getElem?_append_right (by rw [y28]; omega), y28, h2, List.getElem?_append_right (by rw [y28]; omega), y28, h3]; rfl
theorem dec_sat {j v : Nat} (hj : j < 16) : (decV cs ns at_ a n c lg).set (32 + j) (.int .i64 (v : Int)) = decV cs ns (at_.set j v) a n c lg := by
 unfold decV
 rw [List.set_append_right _ _ (by rw [y28]; omega), y28, h1, List.set_append_right _ _ (by rw [y28]; omega), y28, h2, show 32 + j - 16 - 16 = j by omega, List.set_append_left _ _ (by rw [y28]; omega), nI_set]
theorem dec_s48 {a2 : OA} {n2 c2 : Nat} : (decV cs ns at_ a n c lg).set 48 (.slice a2 n2 c2) = decV cs ns at_ a2 n2 c2 lg := by
 unfold decV
 rw [List.set_append_right _ _ (by rw [y28]; omega), y28, h1, List.set_append_right _ _ (by rw [y28]; omega), y28, h2, List.set_append_right _ _ (by rw [y28]; omega), y28, h3]; rfl
theorem dec_s49 {v : Nat} : (decV cs ns at_ a n c lg).set 49 (.int .i64 (v : Int)) = decV cs ns at_ a n c v := by
 unfold decV
 rw [List.set_append_right _ _ (by rw [y28]; omega), y28, h1, List.set_append_right _ _ (by rw [y28]; omega), y28, h2, List.set_append_right _ _ (by rw [y28]; omega), y28, h3]; rfl
end
def syms (l : List Nat) : Nat → List Nat
 | 0 => []
 | m + 1 => syms l m ++ idxs l (m + 1)
def atsTo (l : List Nat) (m : Nat) : List Nat := (List.range 16).map fun k => if k = 0 ∨ m ≤ k then 0 else (syms l (k - 1)).length
def lgTo (l : List Nat) : Nat → Nat
 | 0 => 0
 | m + 1 => if l.count (m + 1) = 0 then lgTo l m else m + 1
theorem lgTo_ge : ∀ (m : Nat) {x : Nat}, x ∈ l → x ≤ m → x ≤ lgTo l m
 | 0, x, _, h => by omega
 | m + 1, x, hx, h => by
  unfold lgTo
  by_cases e : x = m + 1
  ·subst e; rw [if_neg (by have := List.count_pos_iff.2 hx; omega)]; omega
  ·have := lgTo_ge m hx (by omega)
   split <;> omega
theorem lgTo_mem : ∀ m : Nat, lgTo l m = 0 ∨ lgTo l m ∈ l
 | 0 => Or.inl rfl
 | m + 1 => by
  unfold lgTo
  split
  ·exact lgTo_mem m
  ·rename_i h; exact Or.inr (List.count_pos_iff.1 (by omega))
theorem lgTo_longest (h15 : ∀ x ∈ l, x ≤ 15) : lgTo l 15 = longest l := by
 have h1 := longest_le (l := l) (m := lgTo l 15) fun x hx => lgTo_ge 15 hx (h15 x hx)
 rcases lgTo_mem (l := l) 15 with h | h
 ·omega
 ·have := longest_ge h; omega
theorem syms_more (l : List Nat) (m : Nat) : ∀ k, ∃ r, syms l (m + k) = syms l m ++ r
 | 0 => ⟨[], by simp⟩
 | k + 1 => by
  obtain ⟨r, h⟩ := syms_more l m k
  exact ⟨r ++ idxs l (m + k + 1), by rw [show m + (k + 1) = (m + k) + 1 by omega, syms, h, List.append_assoc]⟩
theorem syms_get {m k : Nat} (h1 : 1 ≤ m) (h2 : m ≤ 15) (hk : k < l.count m) : (syms l (m - 1)).length + k < (syms l 15).length ∧ (syms l 15).getD ((syms l (m - 1)).length + k) 0 = (idxs l m).getD k 0 := by
 obtain ⟨r, hr⟩ := syms_more l m (15 - m)
 rw [show m + (15 - m) = 15 by omega] at hr
 have hm : syms l m = syms l (m - 1) ++ idxs l m := by
  obtain ⟨m, rfl⟩ : ∃ m', m = m' + 1 := ⟨m - 1, by omega⟩
  rfl
 have hi := idxs_len l m
 rw [hr, hm, List.append_assoc]
 refine ⟨by simp only [List.length_append]; omega, ?_⟩
 rw [List.getD_eq_getElem?_getD, List.getElem?_append_right (by omega), Nat.add_sub_cancel_left, List.getElem?_append_left (by omega), ← List.getD_eq_getElem?_getD]
theorem syms_len (l : List Nat) : ∀ m, (syms l m).length ≤ l.length * m
 | 0 => by simp [syms]
 | m + 1 => by
  have := syms_len l m
  have := idxs_len l (m + 1)
  have := List.count_le_length (a := m + 1) (l := l)
  simp only [syms, List.length_append, Nat.mul_succ]; omega
def Dec (p : Nat) (l : List Nat) : Assn := fun m => ∃ a c, Sp [pt p y117 (decV (bases l) (cnts l) (atsTo l 16) a (syms l 15).length c (longest l)), own a (syms l 15).length c y18 1 (nI (syms l 15))] m
theorem Dec_iff {p : Nat} : Hs h (Dec p l :: L) ↔ ∃ a c, Hs h (pt p y117 (decV (bases l) (cnts l) (atsTo l 16) a (syms l 15).length c (longest l)) :: own a (syms l 15).length c y18 1 (nI (syms l 15)) :: L) := by
 unfold Dec; simp only [Hs.ex, Hs.app, List.cons_append, List.nil_append]
theorem New_bad (g : Gv L a (nI l)) (hn : l.length = n) (h0 : 0 < n) (h1 : n ≤ 288) (h15 : ∀ x ∈ l, x ≤ 15) (hk : chk l ≠ 0) (H : Hs h L) (k : Q (.tuple #[.pointer none, .int .i64 (chk l : Nat)]) h) : SpecH PP z236 [.slice a n c] h Q :=
 z235.door (HCheck_hs g hn h0 h1 h15 H ⟨_, rfl, y10 (bne_iff_ne.2 (by omega)) k⟩)
theorem New_hs (g : Gv L a (nI l)) (hn : l.length = n) (h0 : 0 < n) (h1 : n ≤ 288) (h15 : ∀ x ∈ l, x ≤ 15) (hk : chk l = 0) (H : Hs h L)
  (k : ∀ h' p, Hs h' (Dec p l :: L) → Q (.tuple #[P_ p, .int .i64 0]) h') : SpecH PP z236 [.slice a n c] h Q := by
 have hkr := chk_kr hk
 refine z235.door (HCheck_hs g hn h0 h1 h15 H ⟨_, rfl, y5 (by rw [hk]; rfl) ?_⟩)
 dsimp only
 have H1 := H.new (t := y117) (cs := ([_, _, _, _, _, _, _, _, _, _, _, _, _, _, _, _, _, _, _, _, _, _, _, _, _, _, _, _, _, _, _, _, _, _, _, _, _, _, _, _, _, _, _, _, _, _, _, _, _, _] : List Value).toArray) (xs := decV (List.replicate 16 0) (List.replicate 16 0) (List.replicate 16 0) none 0 0 0) (by rfl)
 generalize Array.size h = p at H1 ⊢
 generalize Array.push h _ = h1' at H1 ⊢
 have z16 : (List.replicate 16 0).length = 16 := rfl
 have lb : (bases l).length = 16 := by simp [bases]
 have lc : (cnts l).length = 16 := by simp [cnts]
 have la : ∀ m, (atsTo l m).length = 16 := fun m => by simp [atsTo]
 refine first_hs g.cons hn h1 h15 hkr H1 fun h2 H2 => ⟨_, _, rfl, ?_⟩
 refine y10 (by simp [y28, lb]) (H2.wrso 0 (fun h3 H3 => y10 (by simp [y28, lc]) (H3.wrso 16 (fun h4 H4 => ?_) (by simp [decV, y28, lb]; omega) (nI_one _) (by rw [y47]))) (by simp [decV, y28, lb]) (nI_one _) rfl)
 have e4 : ((List.take 0 (decV (List.replicate 16 0) (List.replicate 16 0) (List.replicate 16 0) none 0 0 0) ++ nI (bases l) ++ List.drop (0 + (nI (bases l)).length) (decV (List.replicate 16 0) (List.replicate 16 0) (List.replicate 16 0) none 0 0 0)).take 16 ++ nI (cnts l) ++ List.drop (16 + (nI (cnts l)).length) (List.take 0 (decV (List.replicate 16 0) (List.replicate 16 0) (List.replicate 16 0) none 0 0 0) ++ nI (bases l) ++ List.drop (0 + (nI (bases l)).length) (decV (List.replicate 16 0) (List.replicate 16 0) (List.replicate 16 0) none 0 0 0))) = decV (bases l) (cnts l) (atsTo l 1) none 0 0 0 := by
  have l1 : (nI (bases l)).length = 16 := by rw [y28, lb]
  have l2 : (nI (cnts l)).length = 16 := by rw [y28, lc]
  have ea : atsTo l 1 = List.replicate 16 0 := by
   unfold atsTo
   refine List.ext_getElem (by simp) fun i g1 g2 => ?_
   simp only [List.getElem_map, List.getElem_range, List.getElem_replicate]
   rw [if_pos (by omega)]
  have d1 : List.drop 16 (decV (List.replicate 16 0) (List.replicate 16 0) (List.replicate 16 0) none 0 0 0) = nI (List.replicate 16 0) ++ (nI (List.replicate 16 0) ++ [.slice none 0 0, .int .i64 (0 : Nat)]) := rfl
  have d2 : List.drop 16 (nI (List.replicate 16 0) ++ (nI (List.replicate 16 0) ++ [Value.slice none 0 0, .int .i64 (0 : Nat)])) = nI (List.replicate 16 0) ++ [.slice none 0 0, .int .i64 (0 : Nat)] := rfl
  rw [l1, l2, Nat.zero_add, List.take_zero, List.nil_append, d1, List.take_left' l1, List.drop_append, l1, List.drop_eq_nil_of_le (show (nI (bases l)).length ≤ 16 + 16 by omega), List.nil_append, show 16 + 16 - 16 = 16 from rfl, d2, ea]
  unfold decV
  rw [List.append_assoc]
 rw [e4] at H4
 have H5 := (H4.own_nil y18 1).m1
 have out : ∀ (r m : Nat) {h : Heap} {b : OA} {d : Nat}, m + r = 16 → 1 ≤ m → Hs h (pt p y117 (decV (bases l) (cnts l) (atsTo l m) b (syms l (m - 1)).length d (lgTo l (m - 1))) :: own b (syms l (m - 1)).length d y18 1 (nI (syms l (m - 1))) :: L) →
   z235.L1 a n c ⟨p, 0, none⟩ (m : Nat) (z235.K1 Q) h := by
  intro r
  induction r with
  | zero =>
   intro m h b d hm hm1 H
   obtain rfl : m = 16 := by omega
   refine z235.L1_of (y5 (by simp) (z235.L1_X0 (k h p (Dec_iff.2 ⟨b, d, ?_⟩))))
   rw [← lgTo_longest h15]; exact H
  | succ r ih =>
   intro m h b d hm hm1 H
   have hsl := syms_len l (m - 1)
   have hsl2 : l.length * (m - 1) ≤ 288 * 15 := Nat.mul_le_mul (by omega) (by omega)
   refine z235.L1_of (y10 (by simp; omega) ?_)
   simp only [y47]
   refine ⟨_, _, _, H.cell (off := 48) (dec_48 lb lc (la m)) rfl, ?_⟩
   refine aio y142 (off := 32) (j := m) (by omega) ?_
   refine H.sto (off := 32 + m) (by rw [dec_len lb lc (la m)]; omega) fun h3 H3 => ?_
   rw [dec_sat lb lc (la m) (by omega)] at H3
   have ea : (atsTo l m).set m (syms l (m - 1)).length = atsTo l (m + 1) := by
    have := rg_set (fun k => if k = 0 ∨ m ≤ k then 0 else (syms l (k - 1)).length) (fun k => if k = 0 ∨ m + 1 ≤ k then 0 else (syms l (k - 1)).length) (j := m) (by omega) (fun k hk => by
     by_cases e1 : k = m
     ·rw [if_pos e1, e1]
     ·rw [if_neg e1]
      by_cases e2 : k = 0 ∨ m ≤ k
      ·rw [if_pos e2, if_pos (by omega)]
      ·rw [if_neg e2, if_neg (by omega)])
    rw [if_neg (by omega)] at this
    exact this
   rw [ea] at H3
   have inn : ∀ (r i : Nat) {h : Heap} {b : OA} {d : Nat}, i + r = n → Hs h (pt p y117 (decV (bases l) (cnts l) (atsTo l (m + 1)) b ((syms l (m - 1)).length + ((List.range i).filter fun i => l.getD i 0 == m).length) d (if ((List.range i).filter fun i => l.getD i 0 == m).length = 0 then lgTo l (m - 1) else m)) ::
     own b ((syms l (m - 1)).length + ((List.range i).filter fun i => l.getD i 0 == m).length) d y18 1 (nI (syms l (m - 1) ++ (List.range i).filter fun i => l.getD i 0 == m)) :: L) → z235.L2 a n c ⟨p, 0, none⟩ (m : Nat) a n c (n : Nat) (i : Nat) (z235.K2 (z235.K1 Q)) h := by
    intro r
    induction r with
    | zero =>
     intro i h b d hi H
     obtain rfl : i = l.length := by omega
     refine z235.L2_of (y5 (by simp; omega) (z235.L2_X2 ?_))
     dsimp only
     rw [inc (by omega)]
     refine ih (m + 1) (b := b) (d := d) (by omega) (by omega) ?_
     have es : syms l (m + 1 - 1) = syms l (m - 1) ++ (List.range l.length).filter fun i => l.getD i 0 == m := by
      rw [Nat.add_sub_cancel]
      obtain ⟨m, rfl⟩ : ∃ m', m = m' + 1 := ⟨m - 1, by omega⟩
      rfl
     have el : lgTo l (m + 1 - 1) = if ((List.range l.length).filter fun i => l.getD i 0 == m).length = 0 then lgTo l (m - 1) else m := by
      have hi := idxs_len l m
      unfold Can.idxs at hi
      rw [Nat.add_sub_cancel, hi]
      obtain ⟨m, rfl⟩ : ∃ m', m = m' + 1 := ⟨m - 1, by omega⟩
      rfl
     rw [es, el, List.length_append]
     exact H
    | succ r ih2 =>
     intro i h b d hi H
     have hfl : ((List.range i).filter fun i => l.getD i 0 == m).length ≤ i := by have := List.length_filter_le (fun i => l.getD i 0 == m) (List.range i); simpa using this
     refine z235.L2_of (y10 (by simp; omega) ?_)
     refine ixI y25 g.cons.cons hn (by omega) H fun t ht => ⟨_, ht, ?_⟩
     have nx : ∀ {h : Heap} {b : OA} {d : Nat}, Hs h (pt p y117 (decV (bases l) (cnts l) (atsTo l (m + 1)) b ((syms l (m - 1)).length + ((List.range (i + 1)).filter fun i => l.getD i 0 == m).length) d (if ((List.range (i + 1)).filter fun i => l.getD i 0 == m).length = 0 then lgTo l (m - 1) else m)) ::
       own b ((syms l (m - 1)).length + ((List.range (i + 1)).filter fun i => l.getD i 0 == m).length) d y18 1 (nI (syms l (m - 1) ++ (List.range (i + 1)).filter fun i => l.getD i 0 == m)) :: L) → z235.J1 a n c ⟨p, 0, none⟩ (m : Nat) a n c (n : Nat) (i : Nat) (z235.K2 (z235.K1 Q)) h := by
      intro h b d H
      refine z235.J1_of ?_
      dsimp only
      rw [inc (by omega)]
      exact ih2 (i + 1) (by omega) H
     have er : (List.range (i + 1)).filter (fun i => l.getD i 0 == m) = (List.range i).filter (fun i => l.getD i 0 == m) ++ if l.getD i 0 = m then [i] else [] := by
      rw [List.range_succ, List.filter_append, List.filter_cons, List.filter_nil]
      by_cases e : l.getD i 0 = m
      ·rw [if_pos (by simpa using e), if_pos e]
      ·rw [if_neg (by simpa using e), if_neg e]
     rw [er] at nx
     generalize hF : (List.range i).filter (fun i => l.getD i 0 == m) = F at *
     refine (y20 _ _ _).2 ⟨fun e => ?_, fun e => ?_⟩
     ·have e := beq_iff_eq.1 e
      have e : l.getD i 0 = m := by omega
      simp only [if_pos e] at nx
      simp only [y47]
      refine ⟨_, _, _, H.cell (off := 48) (dec_48 lb lc (la _)) rfl, ?_⟩
      refine H.m1.app_vals y25 (m := 1) (ys := [.int .i64 i]) rfl rfl (by simp [oneC]) ?_ (by omega) (by omega)
      intro h5 b5 d5 H5
      refine ⟨_, _, _, rfl, H5.m1.sto (off := 48) (by rw [dec_len lb lc (la _)]; omega) fun h6 H6 => ?_⟩
      refine H6.sto (off := 49) (by rw [List.length_set, dec_len lb lc (la _)]; omega) fun h7 H7 => ?_
      rw [dec_s48 lb lc (la _), dec_s49 lb lc (la _)] at H7
      refine nx (b := b5) (d := d5) ?_
      have l1 : (F ++ [i]).length = F.length + 1 := by simp
      rw [l1, if_neg (by omega), ← Nat.add_assoc, ← List.append_assoc, nI_app]
      exact H7
     ·have e : l.getD i 0 ≠ m := by
       intro hh; rw [hh] at e; simp at e
      simp only [if_neg e, List.append_nil] at nx
      exact nx H
   refine inn n 0 (b := b) (d := d) (by omega) ?_
   simpa using H3
 exact out 15 1 rfl (Nat.le_refl _) H5
theorem Next_hs {d r at_ : Nat} {bs : List Nat} {bad : Int} (h288 : l.length ≤ 288) (h15 : ∀ x ∈ l, x ≤ 15) (hkr : kr l ≤ 2 ^ 15) (hbad : bad ≠ 55) (H : Hs h (Rr r bs at_ :: Dec d l :: L))
  (kok : ∀ s p, (∀ o lim, run (val bs) (8 * bs.length) lim (next l bad) at_ o = .ok s p o) → ∀ h', Hs h' (Rr r bs p :: Dec d l :: L) → Q (.tuple #[.int .i64 (s : Nat), .int .i64 0]) h')
  (kbad : ∀ e : Int, (∀ o lim, run (val bs) (8 * bs.length) lim (next l bad) at_ o = .bad e o) → (e = 55 ∨ e = bad) → ∀ h', Hs h' (Rr r bs at_ :: Dec d l :: L) → Q (.tuple #[.int .i64 0, .int .i64 (if e = 55 then 10 else 32)]) h') :
  SpecH PP z230 [P_ d, P_ r] h Q := by
 refine z229.door (y5 rfl (z229.J1_of (y5 rfl ?_)))
 have lb : (bases l).length = 16 := by simp [bases]
 have lc : (cnts l).length = 16 := by simp [cnts]
 have la : ∀ m, (atsTo l m).length = 16 := fun m => by simp [atsTo]
 have hlg := longest_le h15
 have hk2 : ∀ m, m ≤ 15 → base l m ≤ 32768 ∧ cnt l m ≤ 32768 := fun m hm => by have := base_le hkr m hm; omega
 have fail : ∀ (e : Int) (m : Nat) {h : Heap}, (e = 55 ∨ e = bad) → (∀ o lim, run (val bs) (8 * bs.length) lim (next l bad) at_ o = .bad e o) → Hs h (Rr r bs (at_ + m) :: Dec d l :: L) → z229.K2 Q (.exit 0) (z229.X0 (some ⟨r, 0, none⟩) (if e = 55 then 10 else 32) (m : Nat)) h := by
  intro e m h he hrun H
  refine z229.L1_X0 (Back_hs H (by omega) fun h2 H2 => ⟨_, rfl, ?_⟩)
  rw [Nat.add_sub_cancel] at H2
  exact kbad e hrun he h2 H2
 have go : ∀ (f m v : Nat) {h : Heap}, f + m = longest l → v < 2 ^ m → (∀ o lim, run (val bs) (8 * bs.length) lim (next l bad) at_ o = run (val bs) (8 * bs.length) lim (nx l bad f m v) (at_ + m) o) → Hs h (Rr r bs (at_ + m) :: Dec d l :: L) →
   z229.L1 (some ⟨d, 0, none⟩) (some ⟨r, 0, none⟩) 32 (v : Nat) (m : Nat) (z229.K2 Q) h := by
  intro f
  induction f with
  | zero =>
   intro m v h hm hv hrun H
   obtain ⟨b, cc, HD⟩ := Dec_iff.1 H.m1
   refine z229.L1_of ?_
   dsimp only [nilc]
   simp only [y47]
   refine ⟨_, HD.cell (off := 49) (dec_49 lb lc (la _)) rfl, y5 (by simp; omega) ?_⟩
   have := fail bad m (Or.inr rfl) (fun o lim => by rw [hrun]; rfl) H
   rw [if_neg hbad] at this
   exact this
  | succ f ih =>
   intro m v h hm hv hrun H
   have hv15 : 2 ^ m ≤ 2 ^ 15 := Nat.pow_le_pow_right (by decide) (by omega)
   obtain ⟨b, cc, HD⟩ := Dec_iff.1 H.m1
   refine z229.L1_of ?_
   dsimp only [nilc]
   simp only [y47]
   refine ⟨_, HD.cell (off := 49) (dec_49 lb lc (la _)) rfl, y10 (by simp; omega) ?_⟩
   rcases Nat.lt_or_ge (8 * bs.length) (at_ + m + 1) with hend | hend
   ·refine Take_end H (n := 1) (by omega) (by omega) ⟨_, _, rfl, y10 (by decide) ?_⟩
    have := fail 55 m (Or.inl rfl) (fun o lim => by rw [hrun]; simp only [nx, run]; rw [if_neg (by omega)]) H
    rw [if_pos rfl] at this
    exact this
   ·refine Take_hs H (n := 1) (by omega) (by omega) fun h2 H2 => ⟨_, _, rfl, y5 (by decide) ?_⟩
    have hb2 : val bs / 2 ^ (at_ + m) % 2 ^ 1 < 2 := Nat.mod_lt _ (by decide)
    generalize hbit : val bs / 2 ^ (at_ + m) % 2 ^ 1 = bit at *
    have e1 : bOr .i64 (sShl .i64 (v : Int) 1) (IntKind.i64.wrap (bit : Int)) = ((2 * v + bit : Nat) : Int) := by
     rw [show (1 : Int) = ((1 : Nat) : Int) from rfl, shl_i64 (by decide) (by omega), y46 (by omega) (by omega), or_i64 (by omega) (by omega), Nat.or_comm, or_add (by omega)]
     congr 1; omega
    rw [e1, inc (by omega)]
    obtain ⟨b, cc, HD⟩ := Dec_iff.1 H2.m1
    refine ai y142 (j := m + 1) (by omega) ?_
    refine ⟨_, HD.cell (off := m + 1) (dec_cs lb lc (la _) (by omega)) rfl, ?_⟩
    rw [show (bases l).getD (m + 1) 0 = base l (m + 1) from rg_get _ (by omega)]
    obtain ⟨q1, q2⟩ := hk2 (m + 1) (by omega)
    have e2 : IntKind.i64.wrap (((2 * v + bit : Nat) : Int) - ((base l (m + 1) : Nat) : Int)) = ((2 * v + bit : Nat) : Int) - ((base l (m + 1) : Nat) : Int) := y46 (by omega) (by omega)
    rw [e2]
    have step : ∀ {o : List Nat} {lim : Nat}, run (val bs) (8 * bs.length) lim (nx l bad (f + 1) m v) (at_ + m) o = run (val bs) (8 * bs.length) lim (if base l (m + 1) ≤ 2 * v + bit ∧ 2 * v + bit < base l (m + 1) + cnt l (m + 1) then .ret ((idxs l (m + 1)).getD (2 * v + bit - base l (m + 1)) 0) else nx l bad f (m + 1) (2 * v + bit)) (at_ + m + 1) o := by
     intro o lim
     simp only [nx, run]; rw [if_pos (by omega), hbit]
    have no : ∀ {kk : Int}, ¬ (base l (m + 1) ≤ 2 * v + bit ∧ 2 * v + bit < base l (m + 1) + cnt l (m + 1)) → z229.J2 (some ⟨d, 0, none⟩) (some ⟨r, 0, none⟩) 32 ((2 * v + bit : Nat) : Int) ((m + 1 : Nat) : Int) kk false (z229.K2 Q) h2 := by
     intro kk hno
     refine z229.J2_of (y5 rfl (ih (m + 1) (2 * v + bit) (by omega) (by rw [Nat.pow_succ]; omega) (fun o lim => ?_) H2))
     rw [hrun, step, if_neg hno, Nat.add_assoc]
    refine (y20 _ _ _).2 ⟨fun e3 => ?_, fun e3 => ?_⟩
    ·have e3 := of_decide_eq_true e3
     refine aio y142 (off := 16) (j := m + 1) (by omega) ?_
     refine ⟨_, HD.cell (off := 16 + (m + 1)) (dec_ns lb lc (la _) (by omega)) rfl, ?_⟩
     rw [show (cnts l).getD (m + 1) 0 = cnt l (m + 1) from rg_get _ (by omega)]
     rcases e4 : decide (((2 * v + bit : Nat) : Int) - ((base l (m + 1) : Nat) : Int) < ((cnt l (m + 1) : Nat) : Int)) with _ | _
     ·have e4 := of_decide_eq_false e4
      exact no (by omega)
     ·have e4 := of_decide_eq_true e4
      refine z229.J2_of (y10 rfl ?_)
      dsimp only [nilc]
      simp only [y47]
      refine ⟨_, _, _, HD.cell (off := 48) (dec_48 lb lc (la _)) rfl, ?_⟩
      refine aio y142 (off := 32) (j := m + 1) (by omega) ?_
      refine ⟨_, HD.cell (off := 32 + (m + 1)) (dec_at lb lc (la _) (by omega)) rfl, ?_⟩
      have hat : (atsTo l 16).getD (m + 1) 0 = (syms l m).length := by
       have := rg_get (fun k => if k = 0 ∨ 16 ≤ k then 0 else (syms l (k - 1)).length) (j := m + 1) (by omega)
       rw [if_neg (by omega), Nat.add_sub_cancel] at this
       exact this
      have hcnt : cnt l (m + 1) = l.count (m + 1) := by simp [cnt]
      obtain ⟨s1, s2⟩ := syms_get (l := l) (m := m + 1) (k := 2 * v + bit - base l (m + 1)) (by omega) (by omega) (by omega)
      rw [Nat.add_sub_cancel] at s1 s2
      have hl2 := syms_len l 15
      rw [hat, show IntKind.i64.wrap ((((syms l m).length : Nat) : Int) + (((2 * v + bit : Nat) : Int) - ((base l (m + 1) : Nat) : Int))) = (((syms l m).length + (2 * v + bit - base l (m + 1)) : Nat) : Int) by rw [y46 (by omega) (by omega)]; omega]
      refine ixI y25 (M := own b (syms l 15).length cc y18 1 (nI (syms l 15)) :: _) (fun h H => H.rd) rfl s1 HD.m1 fun t ht => ⟨_, ht, ?_⟩
      refine z229.L1_Xret ?_
      rw [s2]
      refine kok _ (at_ + m + 1) (fun o lim => ?_) h2 H2
      rw [hrun, step, if_pos (by omega)]; rfl
    ·have e3 := of_decide_eq_false e3
     exact no (by omega)
 exact go (longest l) 0 0 (by omega) (by decide) (fun o lim => rfl) H
end Go.Proofs.YtmkjmmpldepknaaDoor

set_option maxRecDepth 20000
namespace Go.Proofs.YtmkjmmpldepknaaDoor
open Go Go.HW
variable {h : Heap} {L : List Assn} {Q : Value → Heap → Prop} {a : OA} {n c : Nat}
theorem wz {x : Int} (h1 : -9223372036854775808 ≤ x) (h2 : x < 9223372036854775808) : IntKind.i64.wrap x = x := y46 h1 h2
theorem slice_head {P : Program} {t e : TypeId} {sz bz : Nat} {z : Value} (E : Elem P t e sz bz z) {n c m : Nat} {a : OA} (ha : ∀ ad, a = some ad → ∃ b off, ad = ⟨b, off, none⟩) {k : IntKind} {K : Value → Heap → Prop} (hm : m ≤ c) (H : K (.slice a m c) h) :
  hwp P (Instr.sliceAt t (.slice a n c) none (some (.int k (m : Int))) none) K h := by
 rcases a with _ | ad
 ·refine y169 (lo := none) (hi := some (.int k (m : Int))) E trivial trivial (by simp [bnd]) (by simp [bnd]) (by simp [bnd]; omega) ?_
  have e : (if (c : Int) = bnd none 0 then (none : OA) else (none : OA).map (·.add ((bnd none 0).toNat * sz))) = none := by split <;> rfl
  rw [e]
  have e1 : (bnd (some (Value.int k (m : Int))) n).toNat - (bnd none 0).toNat = m := by simp [bnd]
  have e2 : c - (bnd none 0).toNat = c := by simp [bnd]
  rw [e1, e2]; exact H
 ·obtain ⟨b, off, rfl⟩ := ha ad rfl
  exact slice_pre E hm H
theorem own_shape {n c : Nat} {e : TypeId} {sz : Nat} {xs : List Value} (H : Hs h (own a n c e sz xs :: L)) : ∀ ad, a = some ad → ∃ b off, ad = ⟨b, off, none⟩ := by
 intro ad ha
 refine H.fact fun m ho _ => ?_
 obtain ⟨_, _, h3⟩ := ho
 rcases h3 with h3 | ⟨b, off, cs, e1, _⟩
 ·rw [ha] at h3; cases h3.1
 ·rw [ha] at e1; injection e1 with e1; exact ⟨b, off, e1⟩
theorem CloneB_hs {l : List Nat} (g : Gv L a (nV l)) (hn : l.length = n) (hn0 : a = none → n = 0) (hb : n ≤ 2 ^ 40) (H : Hs h L) (k : ∀ h' a' c', (a' = none → n = 0) → Hs h' (own a' n c' y15 1 (nV l) :: L) → Q (.slice a' n c') h') : SpecH PP z326 [.slice a n c] h Q := by
 refine z325.door ((y20 _ _ _).2 ⟨fun e => ?_, fun e => ?_⟩)
 ·have e : a = none := by simpa using e
  have hz := hn0 e
  obtain rfl : l = [] := List.eq_nil_of_length_eq_zero (by omega)
  subst hz
  exact k h none 0 (fun _ => rfl) (H.own_nil y15 1)
 ·dsimp only
  have H1 := H.new (t := y15) (cs := #[]) (xs := []) rfl
  have H2 : Hs _ (own (some ⟨Array.size h, 0, none⟩) 0 0 y15 1 [] :: L) := H1.pt_own 0 (by simp) (by simp) (Nat.le_refl _) (by simp)
  refine H2.app_sl y33 (g.cons _ H1) (by rw [nV_len]; omega) hn0 (nV_one _) (fun h3 a3 c3 H3 => ⟨_, _, _, rfl, ?_⟩) (by omega) (by omega)
  rw [Nat.zero_add] at H3 ⊢
  exact k h3 a3 c3 (fun e3 => H3.Own.none_zero e3) H3
theorem CloneI_hs {l : List Nat} (g : Gv L a (nI l)) (hn : l.length = n) (hn0 : a = none → n = 0) (hb : n ≤ 2 ^ 40) (H : Hs h L) (k : ∀ h' a' c', (a' = none → n = 0) → Hs h' (own a' n c' y18 1 (nI l) :: L) → Q (.slice a' n c') h') : SpecH PP z330 [.slice a n c] h Q := by
 refine z329.door ((y20 _ _ _).2 ⟨fun e => ?_, fun e => ?_⟩)
 ·have e : a = none := by simpa using e
  have hz := hn0 e
  obtain rfl : l = [] := List.eq_nil_of_length_eq_zero (by omega)
  subst hz
  exact k h none 0 (fun _ => rfl) (H.own_nil y18 1)
 ·dsimp only
  have H1 := H.new (t := y18) (cs := #[]) (xs := []) rfl
  have H2 : Hs _ (own (some ⟨Array.size h, 0, none⟩) 0 0 y18 1 [] :: L) := H1.pt_own 0 (by simp) (by simp) (Nat.le_refl _) (by simp)
  refine H2.app_sl y25 (g.cons _ H1) (by rw [y28]; omega) hn0 (nI_one _) (fun h3 a3 c3 H3 => ⟨_, _, _, rfl, ?_⟩) (by omega) (by omega)
  rw [Nat.zero_add] at H3 ⊢
  exact k h3 a3 c3 (fun e3 => H3.Own.none_zero e3) H3
theorem CloneP_hs {d : List Pk} (g : Gv L a (d.flatMap pkV)) (hn : d.length = n) (hn0 : a = none → n = 0) (hb : n ≤ 2 ^ 40) (H : Hs h L) (k : ∀ h' a' c', (a' = none → n = 0) → Hs h' (own a' n c' y17 2 (d.flatMap pkV) :: L) → Q (.slice a' n c') h') : SpecH PP z328 [.slice a n c] h Q := by
 have fl : (d.flatMap pkV).length = n * 2 := by rw [flat_len (sz := 2) (fun _ => rfl), hn]
 have fo : ∀ v ∈ d.flatMap pkV, oneC v = true := fun v hv => by obtain ⟨x, _, hx⟩ := List.mem_flatMap.1 hv; exact Stb.pk_one x v hx
 refine z327.door ((y20 _ _ _).2 ⟨fun e => ?_, fun e => ?_⟩)
 ·have e : a = none := by simpa using e
  have hz := hn0 e
  obtain rfl : d = [] := List.eq_nil_of_length_eq_zero (by omega)
  subst hz
  exact k h none 0 (fun _ => rfl) (H.own_nil y17 2)
 ·dsimp only
  have H1 := H.new (t := y17) (cs := #[]) (xs := []) rfl
  have H2 : Hs _ (own (some ⟨Array.size h, 0, none⟩) 0 0 y17 2 [] :: L) := H1.pt_own 0 (by simp) (by simp) (Nat.le_refl _) (by simp)
  refine H2.app_sl y104 (g.cons _ H1) fl hn0 fo (fun h3 a3 c3 H3 => ⟨_, _, _, rfl, ?_⟩) (by omega) (by omega)
  rw [Nat.zero_add] at H3 ⊢
  exact k h3 a3 c3 (fun e3 => H3.Own.none_zero e3) H3
theorem Grow_hs {m : Nat} (hm : m ≤ 2 ^ 40) (H : Hs h L) (k : ∀ h' a' c', Hs h' (own a' 0 c' y18 1 [] :: L) → Q (.slice a' 0 c') h') : SpecH PP z336 [.slice none 0 0, .int .i64 (m : Int)] h Q := by
 refine z335.door (y5 (decide_eq_false (by omega)) ?_)
 dsimp only
 have e0 : IntKind.i64.wrap (((0 : Nat) : Int) - ((0 : Nat) : Int)) = 0 := rfl
 have e1 : IntKind.i64.wrap ((m : Int) - 0) = (m : Int) := by rw [wz (by omega) (by omega)]; omega
 rw [e0, e1]
 rcases Nat.eq_zero_or_pos m with h0 | h0
 ·subst h0
  exact y5 rfl (z335.J1_of (k h none 0 (H.own_nil y18 1)))
 ·refine y10 (decide_eq_true (by omega)) ?_
  refine slice_head (m := 0) y25 (fun ad e => by cases e) (Nat.le_refl _) ⟨_, _, _, rfl, ?_⟩
  refine hwp_append_made y25 rfl U_int h0 (by omega) (by omega) fun c' h1 h2 => ⟨_, _, _, rfl, ?_⟩
  refine slice_pre (m := 0) y25 (Nat.zero_le _) ⟨_, _, _, rfl, z335.J1_of (k _ _ c' ?_)⟩
  have H1 := H.new (t := y18) (cs := (List.replicate c' (Value.int .i64 0)).toArray) (xs := List.replicate c' (.int .i64 0)) rfl
  exact H1.pt_own 0 (by simp) (by simp) (Nat.zero_le _) (by simp)
structure Row where
 a : OA
 n : Nat
 c : Nat
 s : List Nat
 deriving Inhabited
def rowV (x : Row) : List Value := [.slice x.a x.n x.c]
theorem Concat_hs {b k : Nat} {rows : List Row} (hk : rows.length = k) (hr : ∀ x ∈ rows, Gv L x.a (nI x.s) ∧ x.s.length = x.n ∧ (x.a = none → x.n = 0)) (ht : (rows.flatMap (·.s)).length = n) (hb : n ≤ 2 ^ 38) (hk2 : k ≤ 1000) (H : Hs h (pt b y14 (rows.flatMap rowV) :: L))
  (kk : ∀ h' a' c', (a' = none → n = 0) → Hs h' (own a' n c' y18 1 (nI (rows.flatMap (·.s))) :: L) → Q (.slice a' n c') h') : SpecH PP z332 [.slice (some ⟨b, 0, none⟩) k k] h Q := by
 refine z331.door ?_
 have flen : (rows.flatMap rowV).length = k := by rw [flat_len (sz := 1) (fun _ => rfl), hk]; omega
 have rd : ∀ {i : Nat} (hi : i < k) {h : Heap} {M : List Assn} (H : Hs h (pt b y14 (rows.flatMap rowV) :: M)) {R : Addr → Heap → Prop}, (∀ t, cellH h t = some (.slice (rows[i]'(by omega)).a (rows[i]'(by omega)).n (rows[i]'(by omega)).c) → R t h) →
   hwp PP (Instr.indexAt T_sl_sl_int (.slice (some ⟨b, 0, none⟩) k k) (.int .i64 (i : Int))) (fun u h1 => ∃ t, u = .pointer (some t) ∧ R t h1) h := by
  intro i hi h M H R K
  refine idx E_sl_sl_int (H.ptrd (off := 0) (ys := rows.flatMap rowV) (by rw [List.drop_zero, List.take_length])) (by omega) (by omega) ?_ K
  rw [Int.toNat_natCast]
  have := flat_get (φ := rowV) (sz := 1) (fun _ => rfl) (List.getElem?_eq_getElem (show i < rows.length by omega)) 0 _ rfl
  simpa using this
 have st : ∀ i, i < k → ((rows.take (i + 1)).flatMap (·.s)).length = ((rows.take i).flatMap (·.s)).length + (rows[i]!).n ∧ ((rows.take (i + 1)).flatMap (·.s)).length ≤ n := by
  intro i hi
  have hi2 : i < rows.length := by omega
  rw [List.take_succ_eq_append_getElem hi2, List.flatMap_append, List.length_append]
  have h1 := (hr _ (List.getElem_mem hi2)).2.1
  have e : rows[i]! = rows[i] := by simp [hi2]
  rw [e]
  refine ⟨by simp [h1], ?_⟩
  have : (rows.flatMap (·.s)).length = ((rows.take (i + 1)).flatMap (·.s)).length + ((rows.drop (i + 1)).flatMap (·.s)).length := by
   rw [← List.length_append, ← List.flatMap_append, List.take_append_drop]
  rw [List.take_succ_eq_append_getElem hi2, List.flatMap_append, List.length_append] at this
  omega
 have two : ∀ (r i : Nat) {h : Heap} {a' : OA} {n' c' : Nat}, i + r = k → n' = ((rows.take i).flatMap (·.s)).length → Hs h (own a' n' c' y18 1 (nI ((rows.take i).flatMap (·.s))) :: pt b y14 (rows.flatMap rowV) :: L) →
   z331.L2 a' n' c' (some ⟨b, 0, none⟩) k k (k : Nat) (i : Nat) (z331.K2 Q) h := by
  intro r
  induction r with
  | zero =>
   intro i h a' n' c' hi hn H
   obtain rfl : i = k := by omega
   rw [List.take_of_length_le (by omega)] at H hn
   obtain rfl : n' = n := by omega
   exact z331.L2_of (y5 (decide_eq_false (by omega)) (z331.L2_X2 (kk h a' c' (fun e => H.Own.none_zero e) (H.m1).tl)))
  | succ r ih =>
   intro i h a' n' c' hi hn H
   have hi2 : i < rows.length := by omega
   obtain ⟨g1, g2, g3⟩ := hr _ (List.getElem_mem hi2)
   obtain ⟨s1, s2⟩ := st i (by omega)
   have e : rows[i]! = rows[i] := by simp [hi2]
   rw [e] at s1
   refine z331.L2_of (y10 (decide_eq_true (by omega)) ?_)
   refine rd (by omega) H.m1 fun t ht => ⟨_, _, _, ht, ?_⟩
   refine H.app_sl y25 (g1 _ H.tl.tl) (by rw [y28]; omega) g3 (nI_one _) (fun h3 a3 c3 H3 => ⟨_, _, _, rfl, ?_⟩) (by omega) (by omega)
   dsimp only
   rw [inc (by omega)]
   refine ih (i + 1) (by omega) (by omega) ?_
   rw [← nI_app] at H3
   have e2 : (rows.take (i + 1)).flatMap (·.s) = (rows.take i).flatMap (·.s) ++ rows[i].s := by rw [List.take_succ_eq_append_getElem hi2, List.flatMap_append]; simp
   rw [e2]; exact H3
 have one : ∀ (r i : Nat), i + r = k → z331.L1 (some ⟨b, 0, none⟩) k k ((((rows.take i).flatMap (·.s)).length : Nat) : Int) (some ⟨b, 0, none⟩) k k (k : Nat) (i : Nat) (z331.K1 Q) h := by
  intro r
  induction r with
  | zero =>
   intro i hi
   obtain rfl : i = k := by omega
   refine z331.L1_of (y5 (decide_eq_false (by omega)) (z331.L1_X0 ?_))
   rw [List.take_of_length_le (by omega), ht]
   exact Grow_hs (by omega) H fun h1 a1 c1 H1 => ⟨_, _, _, rfl, two _ 0 (Nat.zero_add _) (by simp) H1⟩
  | succ r ih =>
   intro i hi
   obtain ⟨s1, s2⟩ := st i (by omega)
   have e : rows[i]! = rows[i]'(by omega) := by simp [show i < rows.length by omega]
   rw [e] at s1
   refine z331.L1_of (y10 (decide_eq_true (by omega)) ?_)
   refine rd (by omega) H fun t ht => ⟨_, _, _, ht, ?_⟩
   dsimp only
   rw [inc (by omega), show IntKind.i64.wrap (((((rows.take i).flatMap (·.s)).length : Nat) : Int) + ((rows[i]'(by omega)).n : Int)) = ((((rows.take (i + 1)).flatMap (·.s)).length : Nat) : Int) by rw [wz (by omega) (by omega)]; omega]
   exact y5 (decide_eq_false (by omega)) (ih (i + 1) (by omega))
 have := one k 0 (Nat.zero_add _)
 simpa using this
theorem Mul_pure {x y : Nat} (hx : x < 4294967296) (hy : y < 4294967296) (hxy : x * y < 4294967296) : PureAt PP z320 [.int .u64 (x : Int), .int .u64 (y : Int)] (.tuple #[.int .u64 0, .int .u64 ((x * y : Nat) : Int)]) := by
 intro h
 have m64 : PureAt PP z324 [.int .u64 (x : Int), .int .u64 (y : Int)] (.tuple #[.int .u64 0, .int .u64 ((x * y : Nat) : Int)]) := by
  intro h
  refine z323.door ?_
  dsimp only
  have a1 : ∀ v : Nat, v < 4294967296 → bAnd .u64 (v : Int) 4294967295 = (v : Int) := fun v hv => by
   rw [show (4294967295 : Int) = ((4294967295 : Nat) : Int) from rfl, and_u64 (by omega) (by omega), show (4294967295 : Nat) = 2 ^ 32 - 1 from rfl, and_mask, Nat.mod_eq_of_lt (by omega)]
  have a2 : ∀ v : Nat, v < 4294967296 → sShr .u64 (v : Int) 32 = 0 := fun v hv => by
   rw [show (32 : Int) = ((32 : Nat) : Int) from rfl, shr_u64 (by omega), Nat.div_eq_of_lt (by omega)]; rfl
  have a3 : IntKind.u64.wrap ((x : Int) * (y : Int)) = ((x * y : Nat) : Int) := by rw [show (x : Int) * (y : Int) = ((x * y : Nat) : Int) by simp, y113 (by omega)]
  rw [a1 x hx, a1 y hy, a2 x hx, a2 y hy, a3, a2 _ hxy]
  have e1 : IntKind.u64.wrap (0 * (y : Int)) = 0 := by rw [Int.zero_mul]; rfl
  have e2 : IntKind.u64.wrap ((x : Int) * 0) = 0 := by rw [Int.mul_zero]; rfl
  rw [e1, e2]
  exact ⟨rfl, rfl⟩
 exact z319.door ⟨_, m64, _, _, rfl, rfl, rfl⟩
theorem rep_part {v k m : Nat} (h : m ≤ k) (j : Nat) (hj : j ≤ m) (hj2 : m + j ≤ k) : (nI (List.replicate m v ++ List.replicate (k - m) 0)).take m ++ (nI (List.replicate m v)).take j ++ (nI (List.replicate m v ++ List.replicate (k - m) 0)).drop (m + j) = nI (List.replicate (m + j) v ++ List.replicate (k - (m + j)) 0) := by
 unfold nI
 rw [List.map_append, List.map_append, List.take_left' (by simp), List.drop_append, List.drop_eq_nil_of_le (by simp), List.nil_append]
 simp only [List.map_replicate, List.take_replicate, List.drop_replicate, List.length_replicate, List.replicate_append_replicate]
 rw [show min j m = j by omega, show k - m - (m + j - m) = k - (m + j) by omega]
theorem y158 {v k : Nat} (g : Gv L a (nI [v])) (h1 : 1 ≤ k) (hk : k ≤ 2 ^ 20) (hn0 : a ≠ none) (H : Hs h L) (kk : ∀ h' b, Hs h' (own (some ⟨b, 0, none⟩) k k y18 1 (nI (List.replicate k v)) :: L) → Q (.slice (some ⟨b, 0, none⟩) k k) h') : SpecH PP z342 [.slice a 1 c, .int .i64 (k : Int)] h Q := by
 refine z341.door (y5 (decide_eq_false (by omega)) ?_)
 have hm := Mul_pure (x := 1) (y := k) (by omega) (by omega) (by omega)
 have e1 : IntKind.u64.wrap (((1 : Nat) : Int)) = ((1 : Nat) : Int) := y113 (by omega)
 have e2 : IntKind.u64.wrap ((k : Int)) = ((k : Nat) : Int) := y113 (by omega)
 dsimp only
 rw [e1, e2]
 refine ⟨_, hm, _, _, rfl, y5 (by simp) ?_⟩
 rw [Nat.one_mul, decide_eq_false (by omega)]
 refine z341.J1_of (y5 rfl ?_)
 dsimp only
 rw [wz (x := (k : Int)) (by omega) (by omega)]
 refine H.make y25 rfl rfl (Nat.le_refl _) (by omega) (by omega) fun h1' b H1 => ⟨_, _, _, rfl, ?_⟩
 have go : ∀ (r m : Nat) {h : Heap}, k ≤ m + r → 1 ≤ m → m ≤ k → Hs h (pt b y18 (nI (List.replicate m v ++ List.replicate (k - m) 0)) :: L) → z341.L1 (some ⟨b, 0, none⟩) k k (m : Nat) (z341.K2 Q) h := by
  intro r
  induction r with
  | zero =>
   intro m h hr hm1 hm H
   obtain rfl : m = k := by omega
   refine z341.L1_of (y5 (decide_eq_false (by omega)) (z341.L1_X0 (kk h b ?_)))
   have : List.replicate m v ++ List.replicate (m - m) 0 = List.replicate m v := by simp
   rw [this] at H
   exact H.pt_all (by rw [y28]; simp)
  | succ r ih =>
   intro m h hr hm1 hm H
   rcases Nat.lt_or_ge m k with hlt | hge
   ·refine z341.L1_of (y10 (decide_eq_true (by omega)) ?_)
    have e : (if (k : Int) = bnd (some (.int .i64 (m : Int))) 0 then some (⟨b, 0, none⟩ : Addr) else (some (⟨b, 0, none⟩ : Addr)).map (·.add ((bnd (some (.int .i64 (m : Int))) 0).toNat * 1))) = some ⟨b, m, none⟩ := by
     rw [if_neg (by simp [bnd]; omega), Option.map_some, y47]; simp [bnd]
    refine y169 (lo := some (.int .i64 (m : Int))) (hi := none) y25 trivial trivial (by simp [bnd]) (by simp [bnd]; omega) (by simp [bnd]) ⟨_, _, _, rfl, ?_⟩
    rw [e]
    have e5 : (bnd none (k : Int)).toNat - (bnd (some (Value.int .i64 (m : Int))) 0).toNat = k - m := by simp [bnd]
    have e6 : k - (bnd (some (Value.int .i64 (m : Int))) 0).toNat = k - m := by simp [bnd]
    rw [e5, e6]
    refine slice_pre y25 hm ⟨_, _, _, rfl, ?_⟩
    have hlen : (nI (List.replicate m v ++ List.replicate (k - m) 0)).length = k := by rw [y28]; simp; omega
    refine H.copy (off := m) (ys := (nI (List.replicate m v)).take (min m (k - m))) y25 (by rw [hlen]; simp [y28]; omega) (H.ptrd (off := 0) ?_) (fun e => by cases e) (by simp [y28]) (fun x hx => nI_one _ x (List.mem_of_mem_take hx)) fun h3 H3 => ⟨_, rfl, ?_⟩
    ·unfold nI; rw [List.map_append, List.drop_zero, List.take_append_of_le_length (by simp; omega)]; simp
    ·have l1 : ((nI (List.replicate m v)).take (min m (k - m))).length = min m (k - m) := by simp [y28]
     rw [l1, rep_part hm (min m (k - m)) (by omega) (by omega)] at H3
     dsimp only
     rw [show IntKind.i64.wrap ((m : Int) + ((min m (k - m) : Nat) : Int)) = ((m + min m (k - m) : Nat) : Int) by rw [wz (by omega) (by omega)]; omega]
     exact ih _ (by omega) (by omega) (by omega) H3
   ·exact ih m (by omega) hm1 hm H
 have hlen : (List.replicate k (Value.int .i64 0)).length = k := by simp
 refine H1.copy (off := 0) (ys := nI [v]) y25 (by rw [hlen]; simp [nI]; omega) (g.cons _ H1) (fun e => absurd e hn0) (by simp [nI]; omega) (nI_one _) fun h3 H3 => ⟨_, rfl, ?_⟩
 have e3 : (min 1 k : Nat) = 1 := by omega
 rw [e3]
 refine go k 1 (by omega) (by omega) h1 ?_
 have e4 : List.take 0 (List.replicate k (Value.int .i64 0)) ++ nI [v] ++ List.drop (0 + (nI [v]).length) (List.replicate k (Value.int .i64 0)) = nI (List.replicate 1 v ++ List.replicate (k - 1) 0) := by
  simp [nI]
 rw [e4] at H3; exact H3
theorem imax {x y : Nat} : (if (x : Int) > (y : Int) then (x : Int) else (y : Int)) = ((max y x : Nat) : Int) := by split <;> omega
theorem Used_hs {l : List Nat} (g : Gv L a (nI l)) (hn : l.length = n) (h0 : 0 < n) (hb : n ≤ 2 ^ 40) (hx : ∀ x ∈ l, x ≤ 2 ^ 40) (H : Hs h L) (k : Q (.bool (decide (Can.longest l ≠ 0))) h) : SpecH PP z274 [.slice a n c] h Q := by
 refine z273.door (z339.door (y5 (decide_eq_false (by omega)) ?_))
 refine ixI y25 (i := 0) g hn (by omega) H fun t ht => ⟨_, ht, ?_⟩
 have go : ∀ (r i : Nat), i + r = n → 1 ≤ i → z339.L1 a n c ((Can.longest (l.take i) : Nat) : Int) (i : Nat) (z339.K1 fun v h1 => ∃ (t4 : Int), v = (.int .i64 t4) ∧ let t5 : Bool := decide (t4 > 0); Q (.bool t5) h1) h := by
  intro r
  induction r with
  | zero =>
   intro i hi h1
   refine z339.L1_of (y5 (decide_eq_false (by omega)) (z339.L1_X0 ⟨_, rfl, ?_⟩))
   rw [List.take_of_length_le (by omega)]
   dsimp only
   have : decide (((Can.longest l : Nat) : Int) > 0) = decide (Can.longest l ≠ 0) := by rw [Bool.eq_iff_iff]; simp; omega
   rw [this]; exact k
  | succ r ih =>
   intro i hi h1
   refine z339.L1_of (y10 (decide_eq_true (by omega)) ?_)
   refine ixI y25 g hn (by omega) H fun t ht => ⟨_, ht, ?_⟩
   dsimp only
   rw [inc (by omega)]
   have e : (if ((l.getD i 0 : Nat) : Int) > ((Can.longest (l.take i) : Nat) : Int) then ((l.getD i 0 : Nat) : Int) else ((Can.longest (l.take i) : Nat) : Int)) = ((Can.longest (l.take (i + 1)) : Nat) : Int) := by
    have hi2 : i < l.length := by omega
    have ea : ∀ (l m : List Nat), Can.longest (l ++ m) = max (Can.longest l) (Can.longest m) := by
     intro l m
     induction l with
     | nil => simp [Can.longest]
     | cons x l ih => simp only [Can.longest, List.cons_append, List.foldr_cons] at ih ⊢; rw [ih]; omega
    rw [List.take_succ_eq_append_getElem hi2, ea, show l.getD i 0 = l[i] by simp [hi2]]
    simp only [Can.longest, List.foldr_cons, List.foldr_nil]
    rw [Nat.max_zero]
    exact imax
   rw [e]
   exact ih (i + 1) (by omega) (by omega)
 have := go (n - 1) 1 (by omega) (by omega)
 have e1 : Can.longest (l.take 1) = l.getD 0 0 := by
  cases l with
  | nil => simp at hn; omega
  | cons x l => simp [Can.longest]
 rw [e1] at this; exact this
theorem lengths_hs {l : List Nat} (g : Gv L a (nI l)) (hn : l.length = n) (hb : n ≤ 2 ^ 40) (hx : ∀ x ∈ l, x ≤ 15) (H : Hs h L) (k : Q (.bool true) h) : SpecH PP z288 [.slice a n c] h Q := by
 refine z287.door (z333.door (z337.door ?_))
 have go : ∀ (r i : Nat), i + r = n → z337.L1 a n c (.func (.func z290) #[] #[]) (n : Nat) (i : Nat) (z337.K1 fun v h1 => ∃ (t7 : Int), v = (.int .i64 t7) ∧ let t8 : Bool := decide (t7 ≥ 0); ∃ (t4 : Bool), Value.bool t8 = (.bool t4) ∧ let t5 : Bool := (!t4); Q (.bool t5) h1) h := by
  intro r
  induction r with
  | zero =>
   intro i hi
   exact z337.L1_of (y5 (decide_eq_false (by omega)) (z337.L1_X0 ⟨_, rfl, _, rfl, k⟩))
  | succ r ih =>
   intro i hi
   refine z337.L1_of (y10 (decide_eq_true (by omega)) ?_)
   have hx := hx _ (y107 (l := l) (i := i) (by omega))
   refine ixI y25 g hn (by omega) H fun t ht => ⟨_, ht, y159 (by kernel_rfl) (z289.door (y5 (decide_eq_false (by omega)) ⟨_, rfl, y5 (decide_eq_false (by omega)) ?_⟩))⟩
   dsimp only
   rw [inc (by omega)]
   exact ih (i + 1) (by omega)
 exact go n 0 (by omega)
end Go.Proofs.YtmkjmmpldepknaaDoor

set_option maxRecDepth 20000
namespace Go.Proofs.YtmkjmmpldepknaaDoor
open Go Go.HW Go.HW.PM Go.Sort
variable {h : Heap} {L : List Assn} {Q : Value → Heap → Prop} {a : OA} {n c : Nat} {P : Assn}
abbrev It := Pk × PM.Tr
def itV (x : It) : List Value := pkV x.1
theorem itV_len (x : It) : (itV x).length = 2 := rfl
theorem its_len (l : List It) : (l.flatMap itV).length = l.length * 2 := flat_len itV_len l
structure Rdy (P : Assn) (x : It) : Prop where
 w : x.1.w = wt x.2
 n : x.1.n = (sy x.2).length
 rd : ∀ h M, Hs h (P :: M) → Rd h x.1.a (nI (sy x.2))
 nn : x.1.a = none → x.1.n = 0
 big : wt x.2 < 2 ^ 62
theorem Rdy.more {A : Assn} {x : It} (r : Rdy P x) : Rdy (fun m => Sp [A, P] m) x :=
 ⟨r.w, r.n, fun h M H => r.rd h M ((Hs.app.1 H).tl), r.nn, r.big⟩
theorem pool_more {A : Assn} (H : Hs h (A :: P :: L)) : Hs h ((fun m => Sp [A, P] m) :: L) := Hs.app.2 H
theorem add_z (t : Addr) : t.add 0 = t := by cases t; rfl
def ltP (x y : Pk) : Bool := decide (x.w % 4611686018427387904 < y.w % 4611686018427387904)
theorem swoP : SWO ltP where
 irrefl x := by unfold ltP; exact decide_eq_false (by omega)
 trans x y z h1 h2 := by unfold ltP at *; simp only [decide_eq_true_eq] at *; omega
 ntrans x y z h1 h2 := by unfold ltP at *; simp only [decide_eq_false_iff_not] at *; omega
theorem cmpP : Stb.CmpOk (.func (.func z234) #[] #[]) ltP := by
 intro x y M h R H k
 refine y159 (by kernel_rfl) (z233.door ?_)
 dsimp only
 have H1 := H.new (t := y17) (cs := #[.int .i64 x.v, .slice x.a x.n x.c]) (xs := [.int .i64 x.v, .slice x.a x.n x.c]) rfl
 have H2 := H1.new (t := y17) (cs := #[.int .i64 y.v, .slice y.a y.n y.c]) (xs := [.int .i64 y.v, .slice y.a y.n y.c]) rfl
 refine ⟨_, H2.m1.cell (off := 0) rfl rfl, _, H2.cell (off := 0) rfl rfl, k _ _ ?_ H2.tl.tl⟩
 have h1 := Nat.mod_lt x.w (show 0 < 4611686018427387904 by decide)
 have h2 := Nat.mod_lt y.w (show 0 < 4611686018427387904 by decide)
 unfold ltP Pk.v
 rw [wz (by omega) (by omega), Bool.eq_iff_iff]
 simp only [decide_eq_true_eq]
 omega
theorem perm_map_inv {α β : Type} (f : α → β) {m : List β} : ∀ {l : List α}, m.Perm (l.map f) → ∃ l' : List α, l'.Perm l ∧ l'.map f = m := by
  have gen : ∀ {m m' : List β}, m.Perm m' → ∀ l : List α, m' = l.map f → ∃ l' : List α, l'.Perm l ∧ l'.map f = m := by
    intro m m' p
    induction p with
    | nil => intro l e; have : l = [] := by simpa using e.symm
             subst this; exact ⟨[], .refl _, rfl⟩
    | @cons x m1 m2 _ ih =>
      intro l e
      cases l with
      | nil => simp at e
      | cons a l =>
        simp only [List.map_cons, List.cons.injEq] at e
        obtain ⟨l', h1, h2⟩ := ih l e.2
        exact ⟨a :: l', h1.cons a, by rw [List.map_cons, h2, e.1]⟩
    | swap x y m =>
      intro l e
      match l, e with
      | a :: b :: l, e =>
        simp only [List.map_cons, List.cons.injEq] at e
        exact ⟨b :: a :: l, List.Perm.swap a b l, by rw [List.map_cons, List.map_cons, ← e.1, ← e.2.1, ← e.2.2]⟩
    | trans _ _ ih1 ih2 =>
      intro l e
      obtain ⟨l', h1, h2⟩ := ih2 l e
      obtain ⟨l'', h3, h4⟩ := ih1 l' h2.symm
      exact ⟨l'', h3.trans h1, h4⟩
  intro l h
  exact gen h l rfl
theorem Sort_hs {l : List It} (hr : ∀ x ∈ l, Rdy P x) (hn : l.length = n) (hb : n ≤ 2 ^ 50) (H : Hs h (own a n c y17 2 (l.flatMap itV) :: L))
  (k : ∀ (h' : Heap) (l' : List It), l'.Perm l → PM.Sorted (l'.map (·.2)) → Hs h' (own a n c y17 2 (l'.flatMap itV) :: L) → Q (.tuple #[]) h') :
  SpecH PP z344 [.slice a n c, .func (.func z234) #[] #[]] h Q := by
 have fm : ∀ l : List It, l.flatMap itV = (l.map (·.1)).flatMap pkV := fun l => by rw [List.flatMap_map]; rfl
 have H1 : Hs h (Stb.S a n c (l.map (·.1)).toArray :: L) := by unfold Stb.S; rw [← fm]; exact H
 refine Stb.stable_hs cmpP swoP (by simpa using hn) (by omega) H1 fun h' d' pp ss H' => ?_
 have hperm : d'.toList.Perm (l.map (·.1)) := by
  have := pp.2.2
  have e1 : d'.extract 0 n = d' := by
   have : d'.size = n := by rw [pp.1]; simpa using hn
   rw [← this]; simp
  have e2 : (l.map (·.1)).toArray.extract 0 n = (l.map (·.1)).toArray := by
   have : (l.map (·.1)).toArray.size = n := by simpa using hn
   rw [← this, Array.extract_size]
  rw [e1, e2] at this
  exact this
 obtain ⟨l', h1, h2⟩ := perm_map_inv (fun x : It => x.1) hperm
 have hl' : l'.length = n := by rw [h1.length_eq, hn]
 refine k h' l' h1 ?_ (by unfold Stb.S at H'; rw [fm, h2]; exact H')
 have hsz : d'.size = n := by rw [pp.1]; simpa using hn
 rw [PM.Sorted, List.pairwise_iff_getElem]
 intro i j hi hj hij
 simp only [List.length_map] at hi hj
 have := ss i j (Nat.zero_le _) hij (by omega)
 have gi : ∀ {q : Nat} (hq : q < l'.length), d'[q]! = l'[q].1 := by
  intro q hq
  have : d'[q]! = d'.toList[q]'(by simp; omega) := by simp [show q < d'.size by omega]
  rw [this]
  simp only [← h2, List.getElem_map]
 rw [gi hi, gi hj] at this
 have r1 := hr _ (h1.mem_iff.1 (List.getElem_mem hi))
 have r2 := hr _ (h1.mem_iff.1 (List.getElem_mem hj))
 unfold ltP at this
 simp only [decide_eq_false_iff_not] at this
 have b1 := r1.big; have b2 := r2.big
 rw [r1.w, r2.w, Nat.mod_eq_of_lt (by omega), Nat.mod_eq_of_lt (by omega)] at this
 simp only [List.getElem_map]
 omega
end Go.Proofs.YtmkjmmpldepknaaDoor

set_option maxRecDepth 20000
namespace Go.Proofs.YtmkjmmpldepknaaDoor
open Go Go.HW Go.HW.PM
variable {h : Heap} {L : List Assn} {Q : Value → Heap → Prop} {a : OA} {n c : Nat} {P : Assn}
theorem Lv_bound {lv l : List PM.Tr} {j : Nat} (hl : Lv lv j l) (hB : ∀ t ∈ lv, isLf t = true ∧ wt t ≤ 1000000000000) : ∀ t ∈ l, (sy t).length ≤ 2 ^ j ∧ wt t ≤ 1000000000000 * 2 ^ j := by
 induction hl with
 | nil => intro t ht; cases ht
 | @step j l l' _ p _ ih =>
  intro t ht
  have hp : 0 < 2 ^ j := Nat.pow_pos (by decide)
  rw [p.mem_iff, List.mem_append] at ht
  rw [Nat.pow_succ]
  rcases ht with ht | ht
  ·obtain ⟨h1, h2⟩ := hB t ht
   obtain ⟨i, w, rfl⟩ := lf_of h1
   simp only [sy, wt, List.length_singleton] at *
   refine ⟨by omega, ?_⟩
   have : 1000000000000 * 1 ≤ 1000000000000 * (2 ^ j * 2) := Nat.mul_le_mul_left _ (by omega)
   omega
  ·obtain ⟨x, y, rfl, hx, hy⟩ := y135 ht
   obtain ⟨a1, a2⟩ := ih x hx
   obtain ⟨b1, b2⟩ := ih y hy
   simp only [sy, wt, List.length_append]
   refine ⟨by omega, ?_⟩
   rw [← Nat.mul_assoc]; omega
theorem pairs_at : ∀ (l : List PM.Tr) (q : Nat) (hq : 2 * q + 1 < l.length), (pairs l).take (q + 1) = (pairs l).take q ++ [.nd l[2 * q] l[2 * q + 1]]
 | a :: b :: l, 0, _ => by simp [pairs]
 | a :: b :: l, q + 1, h => by
  have := pairs_at l q (by simp at h; omega)
  simp only [pairs, List.take_succ_cons, this, List.cons_append]
  rfl
 | [a], q, h => by simp at h
 | [], q, h => by simp at h
theorem it_rd {l : List It} {i : Nat} (hi : i < l.length) {M : List Assn} (g : Gv M a (l.flatMap itV)) (hn : l.length = n) (H : Hs h M) {R : Addr → Heap → Prop}
  (K : ∀ t, (∀ h', Hs h' M → cellH h' t = some (.int .i64 (l[i]'hi).1.v) ∧ cellH h' (t.add 1) = some (.slice (l[i]'hi).1.a (l[i]'hi).1.n (l[i]'hi).1.c)) → R t h) :
  hwp PP (Instr.indexAt y11 (.slice a n c) (.int .i64 (i : Int))) (fun u h1 => ∃ t, u = .pointer (some t) ∧ R t h1) h := by
 refine idxG (φ := itV) y104 g H itV_len (by decide) (by omega) (by omega) (x := l[i]) (by rw [Int.toNat_natCast]; simp [hi]) fun t ht => K t fun h' H' => ?_
 have := ht h' H'
 simp only [itV, pkV, rdCells] at this
 refine ⟨?_, this.2.1⟩
 have e := this.1
 rwa [add_z] at e
theorem pk_v {x : It} (r : Rdy P x) : x.1.v = ((wt x.2 : Nat) : Int) := by
 have := r.big
 unfold Pk.v
 rw [r.w, Nat.mod_eq_of_lt (by omega)]
abbrev LT : Value := .func (.func z234) #[] #[]
theorem level_hs {lvs xl : List It} {la oa xa : OA} {lc m xc most j : Nat} {K : EP} {M : List Assn} (hj : j < 15) (hx : xl.length = n) (hn : n ≤ 600) (hlv : lvs.length ≤ 300) (hsy : ∀ x ∈ xl, (sy x.2).length ≤ 2 ^ j ∧ wt x.2 ≤ 1000000000000 * 2 ^ j)
  (fin : ∀ {h : Heap} {ca : OA} {cn cc : Nat} {P' : Assn} (cur : List It), cur.length = cn → cn ≤ 900 → cur.map (·.2) = lvs.map (·.2) ++ pairs (xl.map (·.2)) → (∀ x ∈ cur, Rdy P' x) → (∀ x ∈ lvs, Rdy P' x) → Hs h (own ca cn cc y17 2 (cur.flatMap itV) :: P' :: M) →
   K (.exit 4) (z231.X4 la lvs.length lc oa m m LT ca cn cc (most : Nat) (j : Nat)) h) :
  ∀ (r q : Nat) {h : Heap} {ca : OA} {cn cc : Nat} {P : Assn} (cur : List It), n ≤ 2 * q + r → 2 * q ≤ n + 1 → cur.length = cn → cn = lvs.length + q → cur.map (·.2) = lvs.map (·.2) ++ (pairs (xl.map (·.2))).take q → (∀ x ∈ cur, Rdy P x) → (∀ x ∈ lvs, Rdy P x) → (∀ x ∈ xl, Rdy P x) →
   Hs h (own ca cn cc y17 2 (cur.flatMap itV) :: own xa n xc y17 2 (xl.flatMap itV) :: P :: M) →
   z231.L3 la lvs.length lc oa m m LT xa n xc ca cn cc ((2 * q : Nat) : Int) (most : Nat) (j : Nat) K h := by
 intro r
 have done : ∀ (q : Nat) {h : Heap} {ca : OA} {cn cc : Nat} {P : Assn} (cur : List It), n ≤ 2 * q + 1 → 2 * q ≤ n + 1 → cur.length = cn → cn = lvs.length + q → cur.map (·.2) = lvs.map (·.2) ++ (pairs (xl.map (·.2))).take q → (∀ x ∈ cur, Rdy P x) → (∀ x ∈ lvs, Rdy P x) → (∀ x ∈ xl, Rdy P x) →
   Hs h (own ca cn cc y17 2 (cur.flatMap itV) :: own xa n xc y17 2 (xl.flatMap itV) :: P :: M) →
   z231.L3 la lvs.length lc oa m m LT xa n xc ca cn cc ((2 * q : Nat) : Int) (most : Nat) (j : Nat) K h := by
  intro q h ca cn cc P cur hq hq2 hc hcn hm r1 r2 r3 H
  refine z231.L3_of ?_
  dsimp only
  rw [inc (by omega)]
  refine y5 (decide_eq_false (by omega)) (fin cur hc (by omega) ?_ r1 r2 (H.m1).tl)
  rw [hm, List.take_of_length_le (by rw [pairs_len]; simp; omega)]
 induction r with
 | zero => intro q h ca cn cc P cur hr hq2 hc hcn hm r1 r2 r3 H; exact done q cur (by omega) hq2 hc hcn hm r1 r2 r3 H
 | succ r ih =>
  intro q h ca cn cc P cur hr hq2 hc hcn hm r1 r2 r3 H
  rcases Nat.lt_or_ge (2 * q + 1) n with hlt | hge
  ·have b1 : 2 * q < xl.length := by omega
   have b2 : 2 * q + 1 < xl.length := by omega
   have s1 := hsy _ (List.getElem_mem b1)
   have s2 := hsy _ (List.getElem_mem b2)
   have q1 := r3 _ (List.getElem_mem b1)
   have q2 := r3 _ (List.getElem_mem b2)
   have p15 : 2 ^ j ≤ 2 ^ 14 := Nat.pow_le_pow_right (by decide) (by omega)
   have p15' : 1000000000000 * 2 ^ j ≤ 1000000000000 * 2 ^ 14 := Nat.mul_le_mul_left _ p15
   refine z231.L3_of ?_
   dsimp only
   rw [inc (by omega)]
   refine y10 (decide_eq_true (by omega)) ?_
   have gx : Gv (own ca cn cc y17 2 (cur.flatMap itV) :: own xa n xc y17 2 (xl.flatMap itV) :: P :: M) xa (xl.flatMap itV) := fun h H => H.m1.rd
   refine it_rd b1 gx hx H fun t98 h98 => ?_
   refine it_rd b2 gx hx H fun t104 h104 => ?_
   refine it_rd b1 gx hx H fun t110 h110 => ⟨_, _, _, (h110 _ H).2, ?_⟩
   refine it_rd b2 gx hx H fun t116 h116 => ⟨_, _, _, (h116 _ H).2, ?_⟩
   generalize hx1 : xl[2 * q] = x1 at *
   generalize hx2 : xl[2 * q + 1] = x2 at *
   have v1 := pk_v q1
   have v2 := pk_v q2
   have R1 : ∀ {h : Heap} {X : Int → Prop}, Hs h (own ca cn cc y17 2 (cur.flatMap itV) :: own xa n xc y17 2 (xl.flatMap itV) :: P :: M) → X x1.1.v → ∃ t, cellH h t98 = some (.int .i64 t) ∧ X t := fun H x => ⟨_, (h98 _ H).1, x⟩
   have R2 : ∀ {h : Heap} {X : Int → Prop}, Hs h (own ca cn cc y17 2 (cur.flatMap itV) :: own xa n xc y17 2 (xl.flatMap itV) :: P :: M) → X x2.1.v → ∃ t, cellH h t104 = some (.int .i64 t) ∧ X t := fun H x => ⟨_, (h104 _ H).1, x⟩
   have HB0 := H.new (t := y14) (cs := #[.slice x1.1.a x1.1.n x1.1.c, .slice x2.1.a x2.1.n x2.1.c]) (xs := ([⟨x1.1.a, x1.1.n, x1.1.c, sy x1.2⟩, ⟨x2.1.a, x2.1.n, x2.1.c, sy x2.2⟩] : List Row).flatMap rowV) rfl
   have HB := HB0.tl
   have CC : ∀ {Q' : VP}, (∀ h2 a2 c2, Hs h2 (own a2 (x1.1.n + x2.1.n) c2 y18 1 (nI (sy x1.2 ++ sy x2.2)) :: own ca cn cc y17 2 (cur.flatMap itV) :: own xa n xc y17 2 (xl.flatMap itV) :: P :: M) → Hs h2 (own ca cn cc y17 2 (cur.flatMap itV) :: own xa n xc y17 2 (xl.flatMap itV) :: P :: M) → Q' (.slice a2 (x1.1.n + x2.1.n) c2) h2) →
     SpecH PP z332 [.slice (some ⟨Array.size h, 0, none⟩) 2 2] (Array.push h (.cells #[.slice x1.1.a x1.1.n x1.1.c, .slice x2.1.a x2.1.n x2.1.c] y14 (0, 0))) Q' := by
    intro Q' k
    have e1 := q1.n; have e2 := q2.n
    refine Concat_hs (n := x1.1.n + x2.1.n) (k := 2) (rows := [⟨x1.1.a, x1.1.n, x1.1.c, sy x1.2⟩, ⟨x2.1.a, x2.1.n, x2.1.c, sy x2.2⟩]) rfl ?_ (by simp; omega) (by omega) (by omega) HB0 fun h2 a2 c2 _ H2 => k h2 a2 c2 (by simpa using H2) H2.tl
    intro x hx
    simp only [List.mem_cons, List.not_mem_nil, or_false] at hx
    rcases hx with rfl | rfl
    ·exact ⟨fun h H => q1.rd h _ H.m2, e1.symm, q1.nn⟩
    ·exact ⟨fun h H => q2.rd h _ H.m2, e2.symm, q2.nn⟩
   have TAIL : ∀ {h2 : Heap} {a2 : OA} {c2 : Nat}, Hs h2 (own a2 (x1.1.n + x2.1.n) c2 y18 1 (nI (sy x1.2 ++ sy x2.2)) :: own ca cn cc y17 2 (cur.flatMap itV) :: own xa n xc y17 2 (xl.flatMap itV) :: P :: M) →
     hwp PP (Builtin.append_ #[y11, y11] y11 #[(.slice ca cn cc), (.slice (some ⟨Array.size h2, 0, none⟩) 1 1)]) (fun v h8 => ∃ (t123 : OA) (t123n t123c : Nat), v = (.slice t123 t123n t123c) ∧
      z231.J5 la lvs.length lc oa m m LT xa n xc t123 t123n t123c ((2 * q : Nat) : Int) (most : Nat) (j : Nat) K h8) (Array.push h2 (.cells #[(.int .i64 (IntKind.i64.wrap (x1.1.v + x2.1.v))), (.slice a2 (x1.1.n + x2.1.n) c2)] y17 (0, 0))) := by
    intro h2 a2 c2 H2
    have hw : IntKind.i64.wrap (x1.1.v + x2.1.v) = (⟨wt x1.2 + wt x2.2, a2, x1.1.n + x2.1.n, c2⟩ : Pk).v := by
     rw [v1, v2, wz (by omega) (by omega)]
     unfold Pk.v
     show _ = (((wt x1.2 + wt x2.2) % 4611686018427387904 : Nat) : Int)
     rw [Nat.mod_eq_of_lt (by omega)]; omega
    rw [hw]
    refine H2.m1.app_vals y104 (m := 1) (ys := pkV ⟨wt x1.2 + wt x2.2, a2, x1.1.n + x2.1.n, c2⟩) rfl rfl (Stb.pk_one _) (fun h3 a3 c3 H3 => ⟨_, _, _, rfl, ?_⟩) (by omega) (by omega)
    refine z231.J5_of ?_
    dsimp only
    rw [show IntKind.i64.wrap (((2 * q : Nat) : Int) + 2) = ((2 * (q + 1) : Nat) : Int) by rw [wz (by omega) (by omega)]; omega]
    have e1 := q1.n; have e2 := q2.n
    have hnew : Rdy (fun m => Sp [own a2 (x1.1.n + x2.1.n) c2 y18 1 (nI (sy x1.2 ++ sy x2.2)), P] m) (⟨wt x1.2 + wt x2.2, a2, x1.1.n + x2.1.n, c2⟩, .nd x1.2 x2.2) :=
     ⟨rfl, by simp only [sy, List.length_append]; omega, fun h M H => (Hs.app.1 H).rd, fun e => by
      have := H2.Own.none_zero e; omega, by simp only [wt]; omega⟩
    refine ih (q + 1) (cur ++ [(⟨wt x1.2 + wt x2.2, a2, x1.1.n + x2.1.n, c2⟩, .nd x1.2 x2.2)]) (P := fun m => Sp [own a2 (x1.1.n + x2.1.n) c2 y18 1 (nI (sy x1.2 ++ sy x2.2)), P] m) (by omega) (by omega) (by simp; omega) (by omega) ?_ ?_ ?_ ?_ ?_
    ·have := pairs_at (xl.map (·.2)) q (by simpa using b2)
     simp only [List.getElem_map, hx1, hx2] at this
     rw [List.map_append, hm, this, ← List.append_assoc]; rfl
    ·intro x hx
     rcases List.mem_append.1 hx with hx | hx
     ·exact (r1 x hx).more
     ·rw [List.mem_singleton.1 hx]; exact hnew
    ·exact fun x hx => (r2 x hx).more
    ·exact fun x hx => (r3 x hx).more
    ·have e : (cur ++ [((⟨wt x1.2 + wt x2.2, a2, x1.1.n + x2.1.n, c2⟩, .nd x1.2 x2.2) : It)]).flatMap itV = cur.flatMap itV ++ pkV ⟨wt x1.2 + wt x2.2, a2, x1.1.n + x2.1.n, c2⟩ := by rw [List.flatMap_append]; simp [itV]
     rw [e]
     have H4 : Hs h3 (own a2 (x1.1.n + x2.1.n) c2 y18 1 (nI (sy x1.2 ++ sy x2.2)) :: P :: own a3 (cn + 1) c3 y17 2 (cur.flatMap itV ++ pkV ⟨wt x1.2 + wt x2.2, a2, x1.1.n + x2.1.n, c2⟩) :: own xa n xc y17 2 (xl.flatMap itV) :: M) := (H3.m3.m2)
     exact (pool_more H4).r2
   clear r1 r2 r3 h110 h116 h98 h104 gx ih fin
   repeat' first
    | exact trivial
    | refine And.intro ?_ ?_
    | refine R1 (by assumption) ?_
    | refine R2 (by assumption) ?_
    | refine CC fun h2 a2 c2 H2 H2t => ⟨_, _, _, rfl, ?_⟩
    | exact TAIL (by assumption)
  ·exact done q cur (by omega) hq2 hc hcn hm r1 r2 r3 H
end Go.Proofs.YtmkjmmpldepknaaDoor

set_option maxRecDepth 20000
namespace Go.Proofs.YtmkjmmpldepknaaDoor
open Go Go.HW Go.HW.PM
variable {h : Heap} {L : List Assn} {Q : Value → Heap → Prop} {a : OA} {n c : Nat} {P : Assn}
theorem rounds_hs {lvs : List It} {la oa : OA} {lc m most : Nat} {M : List Assn} (hmost : most ≤ 15) (hlv : lvs.length ≤ 300) (hB : ∀ x ∈ lvs, isLf x.2 = true ∧ wt x.2 ≤ 1000000000000)
  (fin : ∀ {h : Heap} {xa : OA} {xn xc : Nat} {P' : Assn} (xl : List It), xl.length = xn → xn ≤ 600 → Lv (lvs.map (·.2)) most (xl.map (·.2)) → (∀ x ∈ xl, Rdy P' x) → Hs h (own xa xn xc y17 2 (xl.flatMap itV) :: P' :: own la lvs.length lc y17 2 (lvs.flatMap itV) :: M) →
   z231.K5 Q (.exit 2) (z231.X2 la lvs.length lc oa m m xa xn xc) h) :
  ∀ (r j : Nat) {h : Heap} {xa : OA} {xn xc : Nat} {P : Assn} (xl : List It), j + r = most → xl.length = xn → xn ≤ 600 → Lv (lvs.map (·.2)) j (xl.map (·.2)) → (∀ x ∈ xl, Rdy P x) → (∀ x ∈ lvs, Rdy P x) →
   Hs h (own xa xn xc y17 2 (xl.flatMap itV) :: P :: own la lvs.length lc y17 2 (lvs.flatMap itV) :: M) →
   z231.L2 la lvs.length lc oa m m LT xa xn xc (most : Nat) (j : Nat) (z231.K5 Q) h := by
 intro r
 induction r with
 | zero =>
  intro j h xa xn xc P xl hj hx hxn hL r1 r2 H
  obtain rfl : j = most := by omega
  exact z231.L2_of (y5 (decide_eq_false (by omega)) (fin xl hx hxn hL r1 H))
 | succ r ih =>
  intro j h xa xn xc P xl hj hx hxn hL r1 r2 H
  refine z231.L2_of (y10 (decide_eq_true (by omega)) ?_)
  have hbd := Lv_bound hL (fun t ht => by obtain ⟨x, hx, rfl⟩ := List.mem_map.1 ht; exact hB x hx)
  have gl : Gv (own xa xn xc y17 2 (xl.flatMap itV) :: P :: own la lvs.length lc y17 2 (lvs.flatMap itV) :: M) la ((lvs.map (·.1)).flatMap pkV) := fun h H => by
   have := H.m2.rd
   rwa [show (lvs.map (·.1)).flatMap pkV = lvs.flatMap itV by rw [List.flatMap_map]; rfl]
  have hl0 : la = none → lvs.length = 0 := fun e => by subst e; exact (H.m2).Own.none_zero rfl
  refine CloneP_hs gl (by simp) hl0 (by omega) H fun h1 ca cc _ H1 => ⟨_, _, _, rfl, ?_⟩
  rw [show (lvs.map (·.1)).flatMap pkV = lvs.flatMap itV by rw [List.flatMap_map]; rfl] at H1
  refine level_hs (K := z231.K8 (z231.K5 Q)) (M := own la lvs.length lc y17 2 (lvs.flatMap itV) :: M) (by omega) hx hxn hlv (fun x hxm => hbd _ (List.mem_map_of_mem hxm)) ?_ (xn + 1) 0 lvs (by omega) (by omega) rfl (by omega) (by simp) r2 r2 r1 H1
  intro h2 ca cn cc P' cur hc hcn hm q1 q2 H2
  refine z231.L3_X4 (Sort_hs q1 hc (by omega) H2 fun h3 cur' hp hs H3 => ⟨rfl, ?_⟩)
  dsimp only
  rw [inc (by omega)]
  have hL' : Lv (lvs.map (·.2)) (j + 1) (cur'.map (·.2)) := Lv.step hL (by rw [← hm]; exact hp.map _) hs
  have hpl := pairs_len (xl.map (·.2))
  have hcl : cn ≤ 600 := by
   have := congrArg List.length hm
   rw [List.length_append, List.length_map, List.length_map, hpl, List.length_map] at this
   omega
  exact ih (j + 1) cur' (by omega) (by rw [hp.length_eq, hc]) hcl hL' (fun x hx => q1 x (hp.mem_iff.1 hx)) q2 H3
theorem count_hs {oa : OA} {m i : Nat} {xa : OA} {xn xc : Nat} {s : List Nat} {sa : OA} {sn sc : Nat} {f : Nat → Nat} {M : List Assn} {K : EP} (g : Gv M sa (nI s)) (hs : s.length = sn) (hsn : sn ≤ 2 ^ 40) (hlt : ∀ x ∈ s, x < m) (hf : ∀ x, f x + sn ≤ 2 ^ 50) (hm : m ≤ 300)
  (k : ∀ h', Hs h' (own oa m m y18 1 (nI ((List.range m).map fun y => f y + s.count y)) :: M) → K (.exit 8) (z231.X8 oa m m xa xn xc (xn : Nat) (i : Nat)) h') :
  ∀ (r j : Nat) {h : Heap}, j + r = sn → Hs h (own oa m m y18 1 (nI ((List.range m).map fun y => f y + (s.take j).count y)) :: M) → z231.L5 oa m m xa xn xc (xn : Nat) (i : Nat) sa sn sc (sn : Nat) (j : Nat) K h := by
 intro r
 induction r with
 | zero =>
  intro j h hj H
  refine z231.L5_of (y5 (decide_eq_false (by omega)) (k h ?_))
  rw [List.take_of_length_le (by omega)] at H; exact H
 | succ r ih =>
  intro j h hj H
  have hj2 : j < s.length := by omega
  refine z231.L5_of (y10 (decide_eq_true (by omega)) ?_)
  refine ixI y25 g.cons hs (by omega) H fun t ht => ⟨_, ht, ?_⟩
  have hx := hlt _ (y107 hj2)
  have e : s.getD j 0 = s[j] := by simp [hj2]
  rw [e] at hx ⊢
  generalize hxx : s[j] = x at *
  have gd : ((List.range m).map fun y => f y + (s.take j).count y).getD x 0 = f x + (s.take j).count x := by simp [hx]
  refine ixI y25 (l := (List.range m).map fun y => f y + (s.take j).count y) (fun h H => H.rd) (by simp) hx H fun t ht => ⟨_, ht, ?_⟩
  have hc : (s.take j).count x ≤ j := by have := List.count_le_length (a := x) (l := s.take j); rw [List.length_take] at this; omega
  have := hf x
  dsimp only
  rw [gd, inc (by omega)]
  refine H.idx_set y25 (by omega) (by omega) rfl fun h3 H3 => ?_
  rw [Int.toNat_natCast, nI_set] at H3
  rw [inc (by omega)]
  refine ih (j + 1) (by omega) ?_
  have e2 : ((List.range m).map fun y => f y + (s.take j).count y).set x (f x + (s.take j).count x + 1) = (List.range m).map fun y => f y + (s.take (j + 1)).count y := by
   refine List.ext_getElem (by simp) fun y g1 g2 => ?_
   rw [List.getElem_set, List.getElem_map, List.getElem_map, List.getElem_range, List.take_succ_eq_append_getElem hj2, List.count_append, List.count_singleton, hxx]
   by_cases e : x = y
   ·subst e; rw [if_pos rfl, if_pos (by simp)]; omega
   ·rw [if_neg e, if_neg (by simpa using e)]; omega
  rw [e2] at H3; exact H3
theorem counts_hs {oa : OA} {m k : Nat} {xl : List It} {xa : OA} {xc : Nat} {M : List Assn} (hk : k ≤ xl.length) (hk2 : k ≤ 600) (hlt : ∀ x ∈ xl, ∀ i ∈ sy x.2, i < m) (hr : ∀ x ∈ xl, Rdy P x) (hsz : ∀ x ∈ xl, (sy x.2).length ≤ 2 ^ 15) (hm : m ≤ 300)
  (kk : ∀ h', Hs h' (own oa m m y18 1 (nI ((List.range m).map fun y => cn ((xl.take k).map (·.2)) y)) :: own xa k xc y17 2 ((xl.take k).flatMap itV) :: P :: M) → Q (.tuple #[.slice oa m m, .int .i64 0]) h') :
  ∀ (r i : Nat) {h : Heap}, i + r = k → Hs h (own oa m m y18 1 (nI ((List.range m).map fun y => cn ((xl.take i).map (·.2)) y)) :: own xa k xc y17 2 ((xl.take k).flatMap itV) :: P :: M) →
   z231.L4 oa m m xa k xc (k : Nat) (i : Nat) (z231.K9 Q) h := by
 have cb : ∀ (l : List It) (y : Nat), (∀ x ∈ l, (sy x.2).length ≤ 2 ^ 15) → cn (l.map (·.2)) y ≤ l.length * 2 ^ 15 := by
  intro l y hl
  unfold cn
  refine Nat.le_trans List.count_le_length ?_
  induction l with
  | nil => simp
  | cons x l ih =>
   have h1 := hl x (by simp)
   have h2 := ih fun x hx => hl x (by simp [hx])
   simp only [List.map_cons, List.flatMap_cons, List.length_append, List.length_cons, Nat.succ_mul]
   omega
 intro r
 induction r with
 | zero =>
  intro i h hi H
  obtain rfl : i = k := by omega
  exact z231.L4_of (y5 (decide_eq_false (by omega)) (z231.L4_X6 (kk h H)))
 | succ r ih =>
  intro i h hi H
  have hi2 : i < xl.length := by omega
  have hi3 : i < (xl.take k).length := by rw [List.length_take]; omega
  refine z231.L4_of (y10 (decide_eq_true (by omega)) ?_)
  have hin := List.getElem_mem hi2
  have r1 := hr _ hin
  have hs1 := hsz _ hin
  have hl1 := hlt _ hin
  have ei : (xl.take k)[i] = xl[i] := by simp
  refine idxf (φ := itV) (l := xl.take k) (x := xl[i]) y104 H.m1.rd itV_len (by decide) (by omega) (by omega) (by rw [Int.toNat_natCast, List.getElem?_eq_getElem hi3, ei]) fun t ht => ⟨_, _, _, _, ht, ?_⟩
  dsimp only
  have H1 := H.new (t := y17) (cs := #[.int .i64 0, .slice none 0 0]) (xs := [.int .i64 0, .slice none 0 0]) rfl
  refine H1.wrs (fun h2 H2 => ?_) rfl (Stb.pk_one xl[i].1)
  rw [y47]
  refine ⟨_, _, _, H2.cell (off := 1) rfl rfl, ?_⟩
  have hcb := fun y => cb (xl.take i) y (fun x hx => hsz x (List.mem_of_mem_take hx))
  have hcl : (xl.take i).length ≤ 600 := by rw [List.length_take]; omega
  refine count_hs (s := sy xl[i].2) (f := fun y => cn ((xl.take i).map (·.2)) y) (K := z231.K13 (z231.K9 Q)) (M := own xa k xc y17 2 ((xl.take k).flatMap itV) :: P :: M) (fun h H => r1.rd h _ H.tl) r1.n.symm (by rw [r1.n]; omega) hl1 (fun y => ?_) hm ?_ xl[i].1.n 0 (Nat.zero_add _) ?_
  ·have := hcb y
   have : (xl.take i).length * 2 ^ 15 ≤ 600 * 2 ^ 15 := Nat.mul_le_mul_right _ hcl
   rw [r1.n]
   show cn ((xl.take i).map (·.2)) y + _ ≤ _
   omega
  ·intro h3 H3
   refine z231.L5_X8 ?_
   dsimp only
   rw [inc (by omega)]
   refine ih (i + 1) (by omega) ?_
   have e : (fun y => cn ((xl.take (i + 1)).map (·.2)) y) = fun y => cn ((xl.take i).map (·.2)) y + (sy xl[i].2).count y := by
    funext y
    rw [List.take_succ_eq_append_getElem hi2, List.map_append, cn_app]
    simp [cn]
   rw [e]; exact H3
  ·have := H2.tl
   simpa using this
end Go.Proofs.YtmkjmmpldepknaaDoor

set_option maxRecDepth 20000
namespace Go.Proofs.YtmkjmmpldepknaaDoor
open Go Go.HW Go.HW.PM
variable {h : Heap} {L : List Assn} {Q : Value → Heap → Prop} {a : OA} {n c : Nat} {P : Assn}
def idsTo (counts : List Nat) (i : Nat) : List Nat := (List.range i).filter fun i => counts.getD i 0 != 0
def lfOf (counts : List Nat) (i : Nat) : PM.Tr := .lf i (counts.getD i 0)
theorem idsTo_succ (counts : List Nat) (i : Nat) : idsTo counts (i + 1) = idsTo counts i ++ if counts.getD i 0 = 0 then [] else [i] := by
 unfold idsTo
 rw [List.range_succ, List.filter_append, List.filter_cons, List.filter_nil]
 by_cases h : counts.getD i 0 = 0
 ·rw [if_neg (by rw [h]; decide), if_pos h]
 ·rw [if_pos (bne_iff_ne.2 h), if_neg h]
theorem lvs_of (counts : List Nat) : Lvs ((ids counts).map (lfOf counts)) (ids counts) where
 lf t ht := by
  obtain ⟨i, hi, rfl⟩ := List.mem_map.1 ht
  exact ⟨rfl, by have := mem_ids.1 hi; simp only [lfOf, wt]; omega⟩
 sym := by
  rw [List.flatMap_map]
  show (ids counts).flatMap (fun i => [i]) = _
  induction ids counts with
  | nil => rfl
  | cons x l ih => simp [ih]
 nodup := List.Pairwise.filter _ List.nodup_range
theorem Lvs.perm {lv lv' : List PM.Tr} {js : List Nat} (H : Lvs lv js) (p : lv'.Perm lv) : Lvs lv' (lv'.flatMap sy) ∧ (lv'.flatMap sy).Perm js := by
 have p2 : (lv'.flatMap sy).Perm js := by rw [← H.sym]; exact p.flatMap_right sy
 exact ⟨⟨fun t ht => H.lf t (p.mem_iff.1 ht), rfl, p2.nodup_iff.2 H.nodup⟩, p2⟩
theorem ids_le (counts : List Nat) : (ids counts).length ≤ counts.length := by
 have := List.length_filter_le (fun i => counts.getD i 0 != 0) (List.range counts.length)
 unfold ids; simpa using this
theorem Limit_hs {counts : List Nat} {m most : Nat} (g : Gv L a (nI counts)) (hm : counts.length = m) (h0 : 0 < m) (h288 : m ≤ 288) (hmost0 : 1 ≤ most) (hmost : most ≤ 15) (hbig : ∀ x ∈ counts, x ≤ 1000000000000) (hfit : (ids counts).length ≤ 2 ^ most) (H : Hs h L)
  (k : ∀ h' b lims, Lim counts most lims → Hs h' (own (some ⟨b, 0, none⟩) m m y18 1 (nI lims) :: L) → Q (.tuple #[.slice (some ⟨b, 0, none⟩) m m, .int .i64 0]) h') : SpecH PP z232 [.slice a m c, .int .i64 (most : Nat)] h Q := by
 have p15 : 2 ^ most ≤ 2 ^ 15 := Nat.pow_le_pow_right (by decide) hmost
 refine z231.door ?_
 dsimp only
 refine y5 (beq_false_of_ne (by omega)) (y5 (decide_eq_false (by omega)) (y5 (decide_eq_false (by omega)) (z231.J1_of (y5 (decide_eq_false (by omega)) ?_))))
 have J3 : ∀ {h : Heap} {la : OA} {lc b : Nat} {P : Assn} (lvs : List It) (outs : List Nat), lvs.map (·.2) = (ids counts).map (lfOf counts) → (∀ x ∈ lvs, Rdy P x) → (lvs.length < 2 → Lim counts most outs) → (2 ≤ lvs.length → outs = List.replicate m 0) →
   Hs h (own (some ⟨b, 0, none⟩) m m y18 1 (nI outs) :: own la lvs.length lc y17 2 (lvs.flatMap itV) :: P :: L) → z231.J3 (most : Nat) la lvs.length lc (some ⟨b, 0, none⟩) m m Q h := by
  intro h la lc b P lvs outs hv hr hsm hbg H
  have hlen : lvs.length = (ids counts).length := by have := congrArg List.length hv; simpa using this
  have hle := ids_le counts
  refine z231.J3_of ((y20 _ _ _).2 ⟨fun e => ?_, fun e => ?_⟩)
  ·have e := of_decide_eq_true e
   exact k h b outs (hsm (by omega)) (H.m1.tl.m1.tl)
  ·have e := of_decide_eq_false e
   have e2 : 2 ≤ lvs.length := by omega
   refine Sort_hs hr rfl (by omega) H.m1 fun h1 lvs' hp hs H1 => ⟨rfl, ?_⟩
   have hll : lvs'.length = lvs.length := hp.length_eq
   obtain ⟨L1, L2⟩ := Lvs.perm (lvs_of counts) (lv' := lvs'.map (·.2)) (by rw [← hv]; exact hp.map _)
   have hr' : ∀ x ∈ lvs', Rdy P x := fun x hx => hr x (hp.mem_iff.1 hx)
   have hlf : ∀ x ∈ lvs', isLf x.2 = true ∧ wt x.2 ≤ 1000000000000 := by
    intro x hx
    have : x.2 ∈ (ids counts).map (lfOf counts) := by rw [← hv]; exact List.mem_map_of_mem (hp.mem_iff.1 hx)
    obtain ⟨i, hi, e⟩ := List.mem_map.1 this
    rw [← e]
    refine ⟨rfl, ?_⟩
    simp only [lfOf, wt]
    rcases Nat.lt_or_ge i counts.length with h1 | h1
    ·exact hbig _ (y107 h1)
    ·rw [List.getD_eq_getElem?_getD, List.getElem?_eq_none h1]; simp
   rw [← hll] at H1 ⊢
   have H2 := ((H1.own_nil y17 2)).m3.m1
   refine rounds_hs (M := own (some ⟨b, 0, none⟩) m m y18 1 (nI outs) :: L) hmost (by omega) hlf ?_ most 0 [] (Nat.zero_add _) rfl (by omega) Lv.nil (fun x hx => by cases hx) hr' H2
   intro h3 xa xn xc P' xl hx hxn hL rx H3
   obtain ⟨w1, w2⟩ := lim_whole L1 L2 hL (by omega) hfit hmost
   rw [List.length_map] at w1
   have hbd := Lv_bound hL (fun t ht => by obtain ⟨x, hx, rfl⟩ := List.mem_map.1 ht; exact hlf x hx)
   have hps := hL.pos L1
   refine z231.L2_X2 ?_
   dsimp only
   have e3 : IntKind.i64.wrap (IntKind.i64.wrap (2 * ((lvs'.length : Nat) : Int)) - 2) = ((2 * (ids counts).length - 2 : Nat) : Int) := by
    rw [wz (x := 2 * ((lvs'.length : Nat) : Int)) (by omega) (by omega), wz (by omega) (by omega)]; omega
   rw [e3]
   generalize hK : 2 * (ids counts).length - 2 = K at *
   have hKx : K ≤ xn := by omega
   have hcx := H3.own_le
   refine slice_head y104 (own_shape H3) (by omega) ⟨_, _, _, rfl, ?_⟩
   have hown : Hs h3 (own xa K xc y17 2 ((xl.take K).flatMap itV) :: P' :: own la lvs'.length lc y17 2 (lvs'.flatMap itV) :: own (some ⟨b, 0, none⟩) m m y18 1 (nI outs) :: L) := by
    refine H3.mono fun mm ho => ?_
    obtain ⟨o1, o2, o3⟩ := ho
    have ft : (xl.take K).flatMap itV = (xl.flatMap itV).take (K * 2) := by
     have := flat_cut (φ := itV) itV_len xl 0 K
     simpa using this.symm
    refine ⟨by rw [its_len, List.length_take]; omega, by omega, o3.imp id ?_⟩
    rintro ⟨b', off, cs, ha, hm', hc, hx'⟩
    refine ⟨b', off, cs, ha, hm', hc, fun i hi => ?_⟩
    rw [ft] at hi ⊢
    rw [List.length_take] at hi
    rw [hx' i (by omega), List.getElem?_take, if_pos (by omega)]
   have hlt : ∀ x ∈ xl, ∀ i ∈ sy x.2, i < m := by
    intro x hx i hi
    obtain ⟨w, hw, _⟩ := (hps x.2 (List.mem_map_of_mem hx)).2 i hi
    have : i ∈ (lvs'.map (·.2)).flatMap sy := List.mem_flatMap.2 ⟨_, hw, by simp [sy]⟩
    have := L2.mem_iff.1 this
    unfold ids at this
    have := List.mem_range.1 (List.mem_filter.1 this).1
    omega
   have hsz : ∀ x ∈ xl, (sy x.2).length ≤ 2 ^ 15 := fun x hx => by have := (hbd x.2 (List.mem_map_of_mem hx)).1; omega
   refine counts_hs (P := P') (k := K) (xl := xl) (M := own la lvs'.length lc y17 2 (lvs'.flatMap itV) :: L) (by omega) (by omega) hlt rx hsz (by omega) ?_ K 0 (Nat.zero_add _) ?_
   ·intro h4 H4
    refine k h4 b _ (by have := w2; rw [hm] at this; exact this) ?_
    have e4 : (fun y => cn ((xl.take K).map (·.2)) y) = fun y => cn ((xl.map (·.2)).take K) y := by funext y; rw [List.map_take]
    rw [e4] at H4
    exact H4.m1.tl.m1.tl.m1.tl
   ·have e5 : nI ((List.range m).map fun y => cn ((xl.take 0).map (·.2)) y) = nI outs := by
     rw [hbg e2]
     unfold nI
     refine List.ext_getElem (by simp) fun y g1 g2 => ?_
     simp [cn]
    rw [e5]
    exact hown.m3
 have go : ∀ (r i : Nat) {h : Heap} {la : OA} {ln lc : Nat} {P : Assn} (lvs : List It), i + r = m → lvs.length = ln → lvs.map (·.2) = (idsTo counts i).map (lfOf counts) → (∀ x ∈ lvs, Rdy P x) → Hs h (own la ln lc y17 2 (lvs.flatMap itV) :: P :: L) →
   z231.L1 a m c (most : Nat) la ln lc a m c (m : Nat) (i : Nat) (z231.K2 Q) h := by
  intro r
  induction r with
  | zero =>
   intro i h la ln lc P lvs hi hln hv hr H
   obtain rfl : i = m := by omega
   have hids : idsTo counts i = ids counts := by unfold idsTo ids; rw [hm]
   rw [hids] at hv
   subst hln
   have hlen : lvs.length = (ids counts).length := by have := congrArg List.length hv; simpa using this
   have hle := ids_le counts
   refine z231.L1_of (y5 (decide_eq_false (by omega)) (z231.L1_X0 (y10 (decide_eq_true (by omega)) ?_)))
   dsimp only
   rw [shl1 (by omega)]
   refine y5 (decide_eq_false (by omega)) ?_
   refine H.make y25 rfl rfl (Nat.le_refl _) (by omega) (by omega) fun h1 b H1 => ⟨_, _, _, rfl, ?_⟩
   have H2 := H1.pt_all (n := i) (by simp)
   rw [← nI_rep] at H2
   refine (y20 _ _ _).2 ⟨fun e => ?_, fun e => ?_⟩
   ·have e1 : lvs.length = 1 := by have := beq_iff_eq.1 e; omega
    obtain ⟨x, rfl⟩ : ∃ x, lvs = [x] := by
     match lvs, e1 with
     | [x], _ => exact ⟨x, rfl⟩
    obtain ⟨s, hs⟩ : ∃ s, ids counts = [s] := by
     rcases hq : ids counts with _ | ⟨s, t⟩
     ·rw [hq] at hlen; simp at hlen
     ·rw [hq] at hlen; simp at hlen; subst hlen; exact ⟨s, rfl⟩
    have hx2 : x.2 = .lf s (counts.getD s 0) := by rw [hs] at hv; simpa [lfOf] using hv
    have r1 := hr x (by simp)
    have hs1 : s < i := by
     have : s ∈ ids counts := by rw [hs]; simp
     unfold ids at this; have := List.mem_range.1 (List.mem_filter.1 this).1; omega
    refine it_rd (l := [x]) (i := 0) (by simp) (fun h H => H.m1.rd) rfl H2 fun t ht => ?_
    refine ⟨_, _, _, (ht _ H2).2, ?_⟩
    have hsy : sy x.2 = [s] := by rw [hx2]; rfl
    refine ixI (l := sy x.2) y25 (fun h H => r1.rd h _ H.m2) (by rw [show ([x] : List It)[0].1.n = x.1.n from rfl, r1.n]) (by rw [show ([x] : List It)[0].1.n = x.1.n from rfl, r1.n, hsy]; simp) H2 fun t' ht' => ⟨_, ht', ?_⟩
    rw [hsy]
    refine H2.idx_set y25 (by omega) (by simpa using hs1) rfl fun h3 H3 => ?_
    have : (nI (List.replicate i 0)).set (Int.toNat (([s] : List Nat).getD 0 0 : Nat)) (.int .i64 1) = nI ((List.replicate i 0).set s 1) := by
     rw [Int.toNat_natCast]; exact nI_set _ _ 1
    rw [this] at H3
    refine J3 [x] _ hv hr (fun _ => ?_) (fun h => by simp at h) H3
    have := lim_one (counts := counts) hmost0 hmost hs
    rwa [hm] at this
   ·have e1 : lvs.length ≠ 1 := by intro hh; rw [hh] at e; simp at e
    refine J3 lvs _ hv hr (fun hlt => ?_) (fun _ => rfl) H2
    have h00 : ids counts = [] := List.eq_nil_of_length_eq_zero (by omega)
    have := lim_none (counts := counts) hmost h00
    rwa [hm] at this
  | succ r ih =>
   intro i h la ln lc P lvs hi hln hv hr H
   have hlni : ln ≤ i := by
    have := congrArg List.length hv
    rw [List.length_map, List.length_map, hln] at this
    rw [this]
    have := List.length_filter_le (fun i => counts.getD i 0 != 0) (List.range i)
    unfold idsTo; simpa using this
   refine z231.L1_of (y10 (decide_eq_true (by omega)) ?_)
   refine ixI y25 g.cons.cons hm (by omega) H fun t ht => ⟨_, ht, ?_⟩
   have hx := hbig _ (y107 (l := counts) (i := i) (by omega))
   dsimp only
   refine y5 (decide_eq_false (by omega)) (z231.J2_of (y5 (decide_eq_false (by omega)) ?_))
   have J4 : ∀ {h : Heap} {la : OA} {ln lc : Nat} {P : Assn} (lvs : List It), lvs.length = ln → lvs.map (·.2) = (idsTo counts (i + 1)).map (lfOf counts) → (∀ x ∈ lvs, Rdy P x) → Hs h (own la ln lc y17 2 (lvs.flatMap itV) :: P :: L) →
     z231.J4 a m c (most : Nat) la ln lc a m c (m : Nat) (i : Nat) (z231.K2 Q) h := by
    intro h la ln lc P lvs hln hv hr H
    refine z231.J4_of ?_
    dsimp only
    rw [inc (by omega)]
    exact ih (i + 1) lvs (by omega) hln hv hr H
   have hsucc := idsTo_succ counts i
   refine (y20 _ _ _).2 ⟨fun e => ?_, fun e => ?_⟩
   ·have e := of_decide_eq_true e
    rw [if_neg (by omega)] at hsucc
    have H1 := H.new (t := y18) (cs := #[.int .i64 i]) (xs := nI [i]) rfl
    have H1' := H1.pt_all (n := 1) (by simp [nI])
    generalize Array.size h = b at H1' ⊢
    generalize Array.push h _ = h1 at H1' ⊢
    have hv1 : ((counts.getD i 0 : Nat) : Int) = (⟨counts.getD i 0, some ⟨b, 0, none⟩, 1, 1⟩ : Pk).v := by
     show _ = ((counts.getD i 0 % 4611686018427387904 : Nat) : Int)
     rw [Nat.mod_eq_of_lt (by omega)]
    rw [hv1]
    refine H1'.m1.app_vals y104 (m := 1) (ys := pkV ⟨counts.getD i 0, some ⟨b, 0, none⟩, 1, 1⟩) rfl rfl (Stb.pk_one _) (fun h3 a3 c3 H3 => ⟨_, _, _, rfl, ?_⟩) (by omega) (by omega)
    refine J4 (P := fun mm => Sp [own (some ⟨b, 0, none⟩) 1 1 y18 1 (nI [i]), P] mm) (lvs ++ [((⟨counts.getD i 0, some ⟨b, 0, none⟩, 1, 1⟩, lfOf counts i) : It)]) (by simp; omega) ?_ ?_ ?_
    ·rw [List.map_append, hv, hsucc, List.map_append]; rfl
    ·intro x hx
     rcases List.mem_append.1 hx with hx | hx
     ·exact (hr x hx).more
     ·rw [List.mem_singleton.1 hx]
      exact ⟨rfl, rfl, fun h M H => (Hs.app.1 H).rd, fun e => (by cases e), by simp only [lfOf, wt]; omega⟩
    ·have e2 : (lvs ++ [((⟨counts.getD i 0, some ⟨b, 0, none⟩, 1, 1⟩, lfOf counts i) : It)]).flatMap itV = lvs.flatMap itV ++ pkV ⟨counts.getD i 0, some ⟨b, 0, none⟩, 1, 1⟩ := by rw [List.flatMap_append]; simp [itV]
     rw [e2]
     have H4 : Hs h3 (own (some ⟨b, 0, none⟩) 1 1 y18 1 (nI [i]) :: P :: own a3 (ln + 1) c3 y17 2 (lvs.flatMap itV ++ pkV ⟨counts.getD i 0, some ⟨b, 0, none⟩, 1, 1⟩) :: L) := H3.r2
     exact (pool_more H4).m1
   ·have e := of_decide_eq_false e
    rw [if_pos (by omega), List.append_nil] at hsucc
    exact J4 lvs hln (by rw [hsucc]; exact hv) hr H
 refine go m 0 (P := fun _ => True) [] (by omega) rfl rfl (fun x hx => by cases hx) ?_
 have HT : Hs h ((fun _ => True) :: L) := ⟨fun _ => none, fun b => h[b]?, trivial, H, fun _ => .inl rfl, (fun _ _ e => nomatch e), .refl _⟩
 exact HT.own_nil y17 2
end Go.Proofs.YtmkjmmpldepknaaDoor

set_option maxRecDepth 20000
namespace Go.Proofs.YtmkjmmpldepknaaDoor
open Go Go.HW
variable {h : Heap} {L : List Assn} {Q : Value → Heap → Prop}
structure Tok where
 lit : Nat
 len : Int
 dist : Int
 deriving DecidableEq, Inhabited
def tokV (t : Tok) : List Value := [.int .u8 t.lit, .int .i64 t.len, .int .i64 t.dist]
structure TokWf (t : Tok) : Prop where
 lit : t.lit < 256
 len : -9223372036854775808 ≤ t.len ∧ t.len ≤ 9223372036854775807
 dist : -9223372036854775808 ≤ t.dist ∧ t.dist ≤ 9223372036854775807
theorem tokV_len (t : Tok) : (tokV t).length = 3 := rfl
theorem tokV_one (t : Tok) : ∀ v ∈ tokV t, oneC v = true := by intro v hv; simp [tokV] at hv; rcases hv with rfl | rfl | rfl <;> rfl
def may (t : Tok) (said : Nat) : Bool := if t.len = 0 then decide (t.dist = 0) else decide (t.lit = 0 ∧ 3 ≤ t.len ∧ t.len ≤ 258 ∧ 1 ≤ t.dist ∧ t.dist ≤ 32768 ∧ t.dist ≤ (said : Int))
def cp (d : Nat) : Nat → List Nat → List Nat
 | 0, out => out
 | n + 1, out => cp d n (out ++ [out.getD (out.length - d) 0])
def one (t : Tok) : Nat := if t.len > 1 then t.len.toNat else 1
def step (t : Tok) (out : List Nat) : List Nat := cp t.dist.toNat t.len.toNat (if t.len = 0 then out ++ [t.lit] else out)
def exGo (lim : Nat) : List Tok → List Nat → Int × List Nat
 | [], out => (0, out)
 | t :: l, out => if may t out.length = false then (60, []) else if out.length + one t > lim then (2, []) else exGo lim l (step t out)
def ckGo : List Tok → Nat → Int
 | [], _ => 0
 | t :: l, said => if may t said = false then 60 else if said + one t > 16384 then 2 else ckGo l (said + one t)
def exAll (l : List Tok) (lim : Int) : Int × List Nat := if lim < 0 ∨ lim > 16384 then (1, []) else exGo lim.toNat l []
theorem cp_len (d : Nat) : ∀ (n : Nat) (out : List Nat), (cp d n out).length = out.length + n
 | 0, out => rfl
 | n + 1, out => by rw [cp, cp_len d n]; simp; omega
theorem may_len {t : Tok} {s : Nat} (h : may t s = true) : (t.len = 0 ∧ t.dist = 0) ∨ (t.lit = 0 ∧ 3 ≤ t.len ∧ t.len ≤ 258 ∧ 1 ≤ t.dist ∧ t.dist ≤ 32768 ∧ t.dist ≤ (s : Int)) := by
 unfold may at h
 split at h
 ·exact .inl ⟨by assumption, of_decide_eq_true h⟩
 ·exact .inr (of_decide_eq_true h)
theorem step_len {t : Tok} {out : List Nat} (h : may t out.length = true) : (step t out).length = out.length + one t := by
 unfold step one
 rw [cp_len]
 rcases may_len h with h | h
 ·rw [if_pos h.1, if_neg (by omega)]; simp; omega
 ·rw [if_neg (by omega), if_pos (by omega)]
theorem one_le {t : Tok} {s : Nat} (h : may t s = true) : 1 ≤ one t ∧ one t ≤ 258 := by
 unfold one
 rcases may_len h with h | h
 ·rw [if_neg (by omega)]; omega
 ·rw [if_pos (by omega)]; omega
theorem ck_ex : ∀ (l : List Tok) (out : List Nat), (exGo 16384 l out).1 = ckGo l out.length
 | [], out => rfl
 | t :: l, out => by
  simp only [exGo, ckGo]
  split
  ·rfl
  ·rename_i hm
   split
   ·rfl
   ·rw [ck_ex l, step_len (by simpa using hm)]
theorem ex_len {lim : Nat} : ∀ {l : List Tok} {out : List Nat} (h : out.length ≤ lim), (exGo lim l out).2.length ≤ lim
 | [], out, h => h
 | t :: l, out, h => by
  simp only [exGo]
  split
  ·simp
  ·split
   ·simp
   ·exact ex_len (by rw [step_len (by simp_all)]; omega)
theorem cp_lt (d : Nat) : ∀ (n : Nat) {out : List Nat}, (∀ x ∈ out, x < 256) → ∀ x ∈ cp d n out, x < 256
 | 0, out, h => h
 | n + 1, out, h => cp_lt d n fun x hx => by
  rcases List.mem_append.1 hx with hx | hx
  ·exact h x hx
  ·rw [List.mem_singleton.1 hx, List.getD_eq_getElem?_getD]
   cases e : out[out.length - d]? with
   | none => simp
   | some y => exact h y (List.mem_of_getElem? e)
theorem step_lt {t : Tok} {out : List Nat} (ht : TokWf t) (h : ∀ x ∈ out, x < 256) : ∀ x ∈ step t out, x < 256 := by
 unfold step
 apply cp_lt
 split
 ·intro x hx
  rcases List.mem_append.1 hx with hx | hx
  ·exact h x hx
  ·rw [List.mem_singleton.1 hx]; exact ht.lit
 ·exact h
theorem ex_lt {lim : Nat} : ∀ {l : List Tok} {out : List Nat} (hl : ∀ t ∈ l, TokWf t) (h : ∀ x ∈ out, x < 256), ∀ x ∈ (exGo lim l out).2, x < 256
 | [], out, _, h => h
 | t :: l, out, hl, h => by
  simp only [exGo]
  split
  ·simp
  ·split
   ·simp
   ·exact ex_lt (fun x hx => hl x (List.mem_cons_of_mem _ hx)) (step_lt (hl t (List.mem_cons_self ..)) h)
theorem right_hs {t : Tok} {said : Nat} (hs : said ≤ 20000) (H : Hs h L) (k : ∀ h', Hs h' L → Q (.bool (may t said)) h') : SpecH PP z312 [.agg #[.int .u8 t.lit, .int .i64 t.len, .int .i64 t.dist], .int .i64 said] h Q := by
 refine z311.door ?_
 dsimp only
 have H1 := H.new (t := y38) (cs := #[.int .u8 (t.lit : Int), .int .i64 t.len, .int .i64 t.dist]) (xs := tokV t)
 generalize h.push (.cells #[.int .u8 (t.lit : Int), .int .i64 t.len, .int .i64 t.dist] y38 (0, 0)) = h1 at H1 ⊢
 generalize h.size = x at H1 ⊢
 have c0 : cellH h1 ⟨x, 0, none⟩ = some (.int .u8 t.lit) := H1.cell (off := 0) rfl
 have c1 : cellH h1 (Addr.add ⟨x, 0, none⟩ 1) = some (.int .i64 t.len) := H1.cell (off := 1) rfl
 have c2 : cellH h1 (Addr.add ⟨x, 0, none⟩ 2) = some (.int .i64 t.dist) := H1.cell (off := 2) rfl
 have fin : ∀ b : Bool, may t said = b → Q (.bool b) h1 := fun b e => e ▸ k h1 H1.tl
 unfold may at fin
 refine ⟨_, c1, (y20 _ _ _).2 ⟨fun e => ⟨_, c2, fin _ ?_⟩, fun e => ⟨_, c0, (y20 _ _ _).2 ⟨fun e2 => ⟨_, c1, (y20 _ _ _).2 ⟨fun e3 => ⟨_, c1, (y20 _ _ _).2 ⟨fun e4 => ⟨_, c2, (y20 _ _ _).2 ⟨fun e5 => ⟨_, c2, fin _ ?_⟩, fun e5 => fin _ ?_⟩⟩, fun e4 => fin _ ?_⟩⟩, fun e3 => fin _ ?_⟩⟩, fun e2 => fin _ ?_⟩⟩⟩⟩
 all_goals simp only [beq_iff_eq, beq_eq_false_iff_ne, decide_eq_true_eq, decide_eq_false_iff_not, ge_iff_le, ne_eq] at *
 ·rw [if_pos e]; exact Bool.eq_iff_iff.2 (by simp)
 all_goals rw [if_neg e]
 ·apply decide_eq_decide.2; split <;> omega
 all_goals exact decide_eq_false (by omega)
theorem wrapI {x : Int} (h1 : -9223372036854775808 ≤ x) (h2 : x < 9223372036854775808) : IntKind.i64.wrap x = x := y46 h1 h2
theorem one_eq {t : Tok} {s : Nat} (h : may t s = true) : (if t.len > 1 then t.len else 1) = (one t : Int) := by
 unfold one; split <;> omega
theorem Check_hs {a : OA} {n c : Nat} {l : List Tok} (hr : Gv L a (l.flatMap tokV)) (hn : l.length = n) (hn2 : n < 2 ^ 61) (H : Hs h L) (k : ∀ h', Hs h' L → Q (.int .i64 (ckGo l 0)) h') : SpecH PP z300 [.slice a n c] h Q := by
 refine z299.door ?_
 have go : ∀ (r i said : Nat) {h : Heap}, r + i = n → said ≤ 16384 → ckGo (l.drop i) said = ckGo l 0 → Hs h L → z299.L1 (said : Int) a n c (n : Int) (i : Int) (z299.K1 Q) h := by
  intro r
  induction r with
  | zero =>
   intro i said h hi hs he H
   refine z299.L1_of ?_
   refine y5 (decide_eq_false (by omega)) (z299.L1_X0 ?_)
   rw [List.drop_of_length_le (by omega)] at he
   have kk := k h H
   rw [← he] at kk; exact kk
  | succ r ih =>
   intro i said h hi hs he H
   refine z299.L1_of ?_
   dsimp only
   refine y10 (decide_eq_true (by omega)) ?_
   rw [List.drop_eq_getElem_cons (by omega)] at he
   refine idxf y157 (φ := tokV) (l := l) (x := l[i]) (hr _ H) tokV_len (by omega) (by omega) (by omega) (by simp) fun t ht => ⟨_, _, _, ht, ?_⟩
   refine H.new (xs := [.int .u8 0, .int .i64 0, .int .i64 0]).wrs (fun h3 H3 => ⟨_, _, _, H3.rdc0, ?_⟩)
   generalize l[i] = t at H3 he ⊢
   refine right_hs (by omega) H3 fun h4 H4 => ⟨_, rfl, ?_⟩
   rw [ckGo] at he
   cases hm : may t said
   ·rw [if_pos hm] at he
    refine y10 rfl (z299.L1_Xret ?_)
    have kk := k h4 H4.tl; rw [← he] at kk; exact kk
   ·rw [if_neg (by simp [hm])] at he
    refine y5 rfl ⟨_, H4.cell (off := 1) rfl, ?_⟩
    rw [one_eq hm, wrapI (by omega) (by have := one_le hm; omega)]
    refine (y20 _ _ _).2 ⟨fun e => z299.L1_Xret ?_, fun e => ?_⟩
    ·rw [if_pos (by have := of_decide_eq_true e; omega)] at he
     have kk := k h4 H4.tl; rw [← he] at kk; exact kk
    ·have e := of_decide_eq_false e
     rw [if_neg (by omega)] at he
     rw [wrapI (by omega) (by omega)]
     exact ih (i + 1) (said + one t) (by omega) (by omega) he H4.tl
 exact go n 0 0 (by omega) (by omega) rfl H
end Go.Proofs.YtmkjmmpldepknaaDoor

set_option maxRecDepth 20000
namespace Go.Proofs.YtmkjmmpldepknaaDoor
open Go Go.HW
variable {h : Heap} {L : List Assn} {Q : Value → Heap → Prop}
theorem nV_get {l : List Nat} {i : Nat} (hi : i < l.length) : (nV l)[i]? = some (.int .u8 (l[i] : Nat)) := by simp [nV, hi]
theorem getD_of {l : List Nat} {i : Nat} (hi : i < l.length) : l.getD i 0 = l[i] := by simp [hi]
theorem out_app {out : List Nat} {a : OA} {c : Nat} {x : Nat} {h : Heap} {K : VP} (hs : out.length ≤ 20000) (H : Hs h (own a out.length c y15 1 (nV out) :: L))
  (k : ∀ h' a' c', Hs h' (own a' (out ++ [x]).length c' y15 1 (nV (out ++ [x])) :: L) → K (.slice a' (out ++ [x]).length c') h') :
  hwp PP (Builtin.append_ #[y13, y13] y13 #[.slice a out.length c, .slice (some ⟨Array.size h, 0, none⟩) 1 1]) K (Array.push h (.cells #[.int .u8 x] y15 (0, 0))) := by
 refine H.app_vals y33 (m := 1) (ys := [.int .u8 x]) rfl rfl (by simp [oneC]) (fun h' a' c' H' => ?_) (by omega) (by omega)
 have e : nV out ++ [.int .u8 (x : Int)] = nV (out ++ [x]) := by simp [nV]
 rw [e] at H'
 have := k h' a' c'
 rw [List.length_append] at this
 exact this H'
theorem Expand_hs {a : OA} {n c : Nat} {l : List Tok} {lim : Int} (hr : Gv L a (l.flatMap tokV)) (hn : l.length = n) (hn2 : n < 2 ^ 61) (H : Hs h L)
  (k : ∀ h' b d, Hs h' (own b (exAll l lim).2.length d y15 1 (nV (exAll l lim).2) :: L) → Q (.tuple #[.slice b (exAll l lim).2.length d, .int .i64 (exAll l lim).1]) h') : SpecH PP z302 [.slice a n c, .int .i64 lim] h Q := by
 refine z301.door ?_
 have fin : ∀ b : Bool, decide (lim < 0 ∨ lim > 16384) = b → z301.J1 a n c lim b Q h := by
  intro b e
  refine z301.J1_of ((y20 _ _ _).2 ⟨fun eb => ?_, fun eb => ?_⟩)
  ·subst eb
   have e1 := of_decide_eq_true e
   unfold exAll at k
   rw [if_pos e1] at k
   exact k h none 0 (H.own_nil _ _)
  ·subst eb
   have e1 := of_decide_eq_false e
   unfold exAll at k
   rw [if_neg e1] at k
   obtain ⟨m, rfl⟩ := Int.eq_ofNat_of_zero_le (show 0 ≤ lim by omega)
   rw [Int.toNat_natCast] at k
   have go : ∀ (r i : Nat) (out : List Nat) {a0 : OA} {c0 : Nat} {h : Heap}, r + i = n → out.length ≤ m → exGo m (l.drop i) out = exGo m l [] → Hs h (own a0 out.length c0 y15 1 (nV out) :: L) →
     z301.L1 (m : Int) a0 out.length c0 a n c (n : Int) (i : Int) (z301.K2 Q) h := by
    intro r
    induction r with
    | zero =>
     intro i out a0 c0 h hi hs he H
     refine z301.L1_of (y5 (decide_eq_false (by omega)) (z301.L1_X0 ?_))
     rw [List.drop_of_length_le (by omega)] at he
     rw [← he] at k
     exact k h a0 c0 H
    | succ r ih =>
     intro i out a0 c0 h hi hs he H
     refine z301.L1_of ?_
     dsimp only
     refine y10 (decide_eq_true (by omega)) ?_
     rw [List.drop_eq_getElem_cons (by omega)] at he
     refine idxf y157 (φ := tokV) (l := l) (x := l[i]) (hr _ H.tl) tokV_len (by omega) (by omega) (by omega) (by simp) fun t ht => ⟨_, _, _, ht, ?_⟩
     refine Hs.wrs (b := Array.size h) (xs := [.int .u8 0, .int .i64 0, .int .i64 0]) H.new (fun h3 H3 => ⟨_, _, _, H3.rdc0, ?_⟩)
     generalize l[i] = t at H3 he ⊢
     refine right_hs (by omega) H3 fun h4 H4 => ⟨_, rfl, ?_⟩
     rw [exGo] at he
     cases hm : may t out.length
     ·rw [if_pos hm] at he
      refine y10 rfl (z301.L1_Xret ?_)
      rw [← he] at k
      exact k h4 none 0 (H4.tl.tl.own_nil _ _)
     rw [if_neg (by simp [hm])] at he
     refine y5 rfl ⟨_, H4.cell (off := 1) rfl, ?_⟩
     rw [one_eq hm, wrapI (by omega) (by have := one_le hm; omega)]
     refine (y20 _ _ _).2 ⟨fun e => z301.L1_Xret ?_, fun e => ?_⟩
     ·rw [if_pos (by have := of_decide_eq_true e; omega)] at he
      rw [← he] at k
      exact k h4 none 0 (H4.tl.tl.own_nil _ _)
     have e := of_decide_eq_false e
     rw [if_neg (by omega)] at he
     have hm2 := may_len hm
     have hlen := step_len hm
     have two : ∀ (r2 j : Nat) (out2 : List Nat) {a0 : OA} {c0 : Nat} {h : Heap} {x : Nat}, r2 + j = t.len.toNat → out2.length + r2 ≤ m → (t.len ≠ 0 → out.length ≤ out2.length) → cp t.dist.toNat r2 out2 = step t out → Hs h (own a0 out2.length c0 y15 1 (nV out2) :: pt x y38 (tokV t) :: L) →
       z301.L2 (m : Int) a0 out2.length c0 ⟨x, 0, none⟩ a n c (n : Int) (i : Int) t.len (j : Int) (z301.K5 (z301.K2 Q)) h := by
      intro r2
      induction r2 with
      | zero =>
       intro j out2 a0 c0 h x hj hs2 ho hc H
       refine z301.L2_of (y5 (decide_eq_false (by omega)) (z301.L2_X3 ?_))
       dsimp only
       rw [wrapI (by omega) (by omega)]
       rw [cp] at hc
       refine ih (i + 1) out2 (by omega) (by omega) ?_ H.m1.tl
       rw [hc]; exact he
      | succ r2 ih2 =>
       intro j out2 a0 c0 h x hj hs2 ho hc H
       refine z301.L2_of ?_
       dsimp only
       refine y10 (decide_eq_true (by omega)) ⟨_, H.m1.cell (off := 2) rfl, ?_⟩
       have ho := ho (by omega)
       have hd : IntKind.i64.wrap ((out2.length : Int) - t.dist) = ((out2.length - t.dist.toNat : Nat) : Int) := by rw [wrapI (by omega) (by omega)]; omega
       have hlt : out2.length - t.dist.toNat < out2.length := by omega
       rw [hd]
       refine idx y33 H.rd (by omega) (by omega) (by rw [Int.toNat_natCast]; exact nV_get hlt) fun u hu => ⟨_, hu, ?_⟩
       refine out_app (by omega) H fun h5 a5 c5 H5 => ⟨_, _, _, rfl, ?_⟩
       rw [wrapI (by omega) (by omega)]
       refine ih2 (j + 1) _ (by omega) (by simp; omega) (by simp; omega) ?_ H5
       rw [← hc, cp, getD_of hlt]
     have one2 : ∀ {out2 : List Nat} {a0 : OA} {c0 : Nat} {h : Heap} {x : Nat}, out2 = (if t.len = 0 then out ++ [t.lit] else out) → Hs h (own a0 out2.length c0 y15 1 (nV out2) :: pt x y38 (tokV t) :: L) →
       z301.J2 (m : Int) a0 out2.length c0 ⟨x, 0, none⟩ a n c (n : Int) (i : Int) (z301.K2 Q) h := by
      intro out2 a0 c0 h x e2 H
      refine z301.J2_of ⟨_, H.m1.cell (off := 1) rfl, ?_⟩
      have hl2 : out2.length + t.len.toNat ≤ m := by
       unfold one at e hlen
       subst e2
       split
       ·simp; split at e <;> omega
       ·split at e <;> omega
      refine two t.len.toNat 0 out2 (by omega) hl2 (fun h0 => by rw [e2, if_neg h0]; exact Nat.le_refl _) ?_ H
      rw [step, e2]
     refine ⟨_, H4.cell (off := 1) rfl, (y20 _ _ _).2 ⟨fun e0 => ?_, fun e0 => ?_⟩⟩
     ·have e0 : t.len = 0 := by simpa using e0
      refine ⟨_, H4.cell (off := 0) rfl, ?_⟩
      refine out_app (by omega) H4.m1 fun h5 a5 c5 H5 => ⟨_, _, _, rfl, ?_⟩
      exact one2 (by rw [if_pos e0]) H5
     ·have e0 : t.len ≠ 0 := by simpa using e0
      exact one2 (by rw [if_neg e0]) H4.m1
   exact go n 0 [] (by omega) (by simp) rfl (H.own_nil _ _)
 refine (y20 _ _ _).2 ⟨fun e => fin true (decide_eq_true (.inl (of_decide_eq_true e))), fun e => fin _ ?_⟩
 have e := of_decide_eq_false e
 exact decide_eq_decide.2 (by omega)
end Go.Proofs.YtmkjmmpldepknaaDoor

set_option maxRecDepth 20000
namespace Go.Proofs.YtmkjmmpldepknaaDoor
open Go Go.HW
variable {h : Heap} {L : List Assn} {Q : Value → Heap → Prop}
def bitsF : Nat → Int → Int → Int
 | 0, _, _ => 0
 | f + 1, n, e => if n > e then 1 + bitsF f n (2 * e) else 0
def lenB (n : Int) : Int := if n ≤ 10 ∨ n = 258 then 0 else if n ≤ 18 then 1 else if n ≤ 34 then 2 else if n ≤ 66 then 3 else if n ≤ 130 then 4 else 5
def distB (d : Int) : Int := bitsF 14 d 4
def costT (t : Tok) : Int := if t.len = 0 then (if t.lit < 144 then 8 else 9) else 12 + lenB t.len + distB t.dist + (if t.len ≥ 115 then 1 else 0)
def costs (l : List Tok) : Int := (l.map costT).sum
def good (t : Tok) : Prop := (t.len = 0 ∧ t.dist = 0) ∨ (t.lit = 0 ∧ 3 ≤ t.len ∧ t.len ≤ 258 ∧ 1 ≤ t.dist ∧ t.dist ≤ 32768)
end Go.Proofs.YtmkjmmpldepknaaDoor

set_option maxRecDepth 20000
namespace Go.Proofs.YtmkjmmpldepknaaDoor
open Go Go.HW
def mt (D : List Nat) (i p : Nat) : Nat → Nat → Nat
 | 0, k => k
 | r + 1, k => if i + k < D.length ∧ D.getD (i + k) 0 = D.getD (p + k) 0 then mt D i p r (k + 1) else k
def lcp (D : List Nat) (i p : Nat) : Nat := mt D i p 258 0
theorem mt_le (D : List Nat) (i p : Nat) : ∀ (r k : Nat), k ≤ mt D i p r k ∧ mt D i p r k ≤ k + r
 | 0, k => by simp [mt]
 | r + 1, k => by
  have := mt_le D i p r (k + 1)
  rw [mt]; split <;> omega
theorem mt_eq (D : List Nat) (i p : Nat) : ∀ (r k j : Nat), k ≤ j → j < mt D i p r k → i + j < D.length ∧ D.getD (i + j) 0 = D.getD (p + j) 0
 | 0, k, j, h1, h2 => by simp [mt] at h2; omega
 | r + 1, k, j, h1, h2 => by
  rw [mt] at h2
  split at h2
  ·by_cases e : j = k
   ·subst e; assumption
   ·exact mt_eq D i p r (k + 1) j (by omega) h2
  ·omega
theorem mt_stop (D : List Nat) (i p : Nat) : ∀ (r k : Nat), mt D i p r k = k + r ∨ ¬(i + mt D i p r k < D.length ∧ D.getD (i + mt D i p r k) 0 = D.getD (p + mt D i p r k) 0)
 | 0, k => by simp [mt]
 | r + 1, k => by
  rw [mt]
  split
  ·have := mt_stop D i p r (k + 1); rw [show k + 1 + r = k + (r + 1) by omega] at this; exact this
  ·right; assumption
theorem lcp_le (D : List Nat) (i p : Nat) : lcp D i p ≤ 258 := by have := (mt_le D i p 258 0).2; unfold lcp; omega
theorem lcp_eq {D : List Nat} {i p j : Nat} (h : j < lcp D i p) : i + j < D.length ∧ D.getD (i + j) 0 = D.getD (p + j) 0 := mt_eq D i p 258 0 j (by omega) h
theorem lcp_len {D : List Nat} {i p : Nat} (hi : i ≤ D.length) : i + lcp D i p ≤ D.length := by
 rcases Nat.eq_zero_or_pos (lcp D i p) with h | h
 ·omega
 ·have := (lcp_eq (D := D) (i := i) (p := p) (j := lcp D i p - 1) (by omega)).1; omega
theorem lcp_is {D : List Nat} {i p n : Nat} (h1 : n ≤ 258) (h2 : ∀ j, j < n → i + j < D.length ∧ D.getD (i + j) 0 = D.getD (p + j) 0)
  (h3 : n = 258 ∨ ¬(i + n < D.length ∧ D.getD (i + n) 0 = D.getD (p + n) 0)) : lcp D i p = n := by
 have a : ¬ lcp D i p < n := fun h => by
  rcases mt_stop D i p 258 0 with e | e
  ·have := lcp_le D i p; unfold lcp at h; omega
  ·exact e (h2 _ h)
 have b : ¬ n < lcp D i p := fun h => by
  rcases h3 with e | e
  ·have := lcp_le D i p; omega
  ·exact e (lcp_eq h)
 omega
def bst (D : List Nat) (i : Nat) : Nat → Nat × Nat
 | 0 => (0, 0)
 | d + 1 => if 3 ≤ lcp D i (i - (d + 1)) ∧ lcp D i (i - (d + 1)) > (bst D i d).1 then (lcp D i (i - (d + 1)), d + 1) else bst D i d
def mm (D : List Nat) (i : Nat) : Nat × Nat := bst D i i
theorem bst_skip {D : List Nat} {i a b : Nat} (hab : a ≤ b) (h : ∀ d, a < d → d ≤ b → lcp D i (i - d) < 3 ∨ lcp D i (i - d) ≤ (bst D i a).1) : bst D i b = bst D i a := by
 induction b with
 | zero => rw [Nat.le_zero.1 hab]
 | succ b ih =>
  by_cases e : a = b + 1
  ·rw [e]
  ·have ih := ih (by omega) fun d h1 h2 => h d h1 (by omega)
   rw [bst, ih, if_neg]
   have := h (b + 1) (by omega) (by omega)
   omega
theorem bst_spec (D : List Nat) (i : Nat) : ∀ d, (bst D i d = (0, 0) ∧ ∀ e, 1 ≤ e → e ≤ d → lcp D i (i - e) < 3) ∨
  (3 ≤ (bst D i d).1 ∧ 1 ≤ (bst D i d).2 ∧ (bst D i d).2 ≤ d ∧ (bst D i d).1 = lcp D i (i - (bst D i d).2) ∧ ∀ e, 1 ≤ e → e ≤ d → lcp D i (i - e) ≤ (bst D i d).1)
 | 0 => .inl ⟨rfl, fun e h1 h2 => by omega⟩
 | d + 1 => by
  rw [bst]
  rcases bst_spec D i d with ⟨h1, h2⟩ | ⟨h1, h2, h3, h4, h5⟩
  ·split
   ·rename_i h
    refine .inr ⟨h.1, by simp, by simp, rfl, fun e he1 he2 => ?_⟩
    by_cases e0 : e = d + 1
    ·subst e0; exact Nat.le_refl _
    ·have := h2 e he1 (by omega); show _ ≤ lcp D i (i - (d + 1)); omega
   ·rename_i h
    refine .inl ⟨h1, fun e he1 he2 => ?_⟩
    by_cases e0 : e = d + 1
    ·subst e0; rw [h1] at h; simp only at h; omega
    ·exact h2 e he1 (by omega)
  ·split
   ·rename_i h
    refine .inr ⟨h.1, by simp, by simp, rfl, fun e he1 he2 => ?_⟩
    by_cases e0 : e = d + 1
    ·subst e0; exact Nat.le_refl _
    ·have := h5 e he1 (by omega); show _ ≤ lcp D i (i - (d + 1)); omega
   ·rename_i h
    refine .inr ⟨h1, h2, by omega, h4, fun e he1 he2 => ?_⟩
    by_cases e0 : e = d + 1
    ·subst e0; omega
    ·exact h5 e he1 (by omega)
theorem mm_le (D : List Nat) (i : Nat) : (mm D i).1 ≤ 258 ∧ (mm D i).2 ≤ i := by
 unfold mm
 rcases bst_spec D i i with ⟨h, _⟩ | ⟨_, _, h3, h4, _⟩
 ·rw [h]; simp
 ·exact ⟨h4 ▸ lcp_le _ _ _, h3⟩
theorem mm_len {D : List Nat} {i : Nat} (hi : i ≤ D.length) : i + (mm D i).1 ≤ D.length := by
 unfold mm
 rcases bst_spec D i i with ⟨h, _⟩ | ⟨_, _, h3, h4, _⟩
 ·rw [h]; simpa using hi
 ·rw [h4]; exact lcp_len hi
theorem mm_short {D : List Nat} {i : Nat} (h : D.length < i + 3) : mm D i = (0, 0) := by
 refine bst_skip (D := D) (a := 0) (Nat.zero_le i) fun d h1 h2 => .inl ?_
 apply Nat.lt_of_not_le; intro hl
 have := (lcp_eq (D := D) (i := i) (p := i - d) (j := 2) (by omega)).1
 omega
def fd (D : List Nat) : Nat → Nat → List Tok
 | 0, _ => []
 | f + 1, i => if i < D.length then
   (if (mm D i).1 = 0 ∨ (mm D (i + 1)).1 > (mm D i).1 then ⟨D.getD i 0, 0, 0⟩ :: fd D f (i + 1) else ⟨0, (mm D i).1, (mm D i).2⟩ :: fd D f (i + (mm D i).1)) else []
def find (D : List Nat) : List Tok := if D.length > 16384 then [] else fd D D.length 0
theorem fd_more (D : List Nat) : ∀ (f g i : Nat), D.length ≤ i + f → D.length ≤ i + g → fd D f i = fd D g i
 | 0, 0, i, _, _ => rfl
 | 0, g + 1, i, h1, h2 => by rw [fd, fd, if_neg (by omega)]
 | f + 1, 0, i, h1, h2 => by rw [fd, fd, if_neg (by omega)]
 | f + 1, g + 1, i, h1, h2 => by
  rw [fd, fd]
  split
  ·split
   ·rw [fd_more D f g (i + 1) (by omega) (by omega)]
   ·rw [fd_more D f g _ (by omega) (by omega)]
  ·rfl
theorem fd_step {D : List Nat} {f i : Nat} (hi : i < D.length) (hf : D.length ≤ i + f) :
  fd D f i = if (mm D i).1 = 0 ∨ (mm D (i + 1)).1 > (mm D i).1 then ⟨D.getD i 0, 0, 0⟩ :: fd D f (i + 1) else ⟨0, (mm D i).1, (mm D i).2⟩ :: fd D f (i + (mm D i).1) := by
 obtain ⟨g, rfl⟩ : ∃ g, f = g + 1 := ⟨f - 1, by omega⟩
 rw [fd, if_pos hi]
 split
 ·rw [fd_more D g (g + 1) (i + 1) (by omega) (by omega)]
 ·rw [fd_more D g (g + 1) _ (by omega) (by omega)]
theorem fd_end {D : List Nat} {f i : Nat} (hi : D.length ≤ i) : fd D f i = [] := by
 cases f with
 | zero => rfl
 | succ f => rw [fd, if_neg (by omega)]
theorem fd_len (D : List Nat) : ∀ (f i : Nat), (fd D f i).length ≤ D.length - i
 | 0, i => by simp [fd]
 | f + 1, i => by
  rw [fd]
  split
  ·split
   ·have := fd_len D f (i + 1); simp only [List.length_cons]; omega
   ·rename_i h
    have := fd_len D f (i + (mm D i).1); simp only [List.length_cons]; omega
  ·simp
def hf (D : List Nat) (p : Nat) : Nat := ((D.getD p 0 <<< 8 ^^^ D.getD (p + 1) 0 <<< 4) ^^^ D.getD (p + 2) 0) &&& 4095
theorem hf_lt (D : List Nat) (p : Nat) : hf D p < 4096 := by
 unfold hf
 have := Nat.and_le_right (n := (D.getD p 0 <<< 8 ^^^ D.getD (p + 1) 0 <<< 4) ^^^ D.getD (p + 2) 0) (m := 4095)
 omega
def lb (D : List Nat) (x : Nat) : Nat → Nat
 | 0 => 0
 | P + 1 => if hf D P = x then P + 1 else lb D x P
theorem lb_le (D : List Nat) (x : Nat) : ∀ P, lb D x P ≤ P
 | 0 => Nat.le_refl _
 | P + 1 => by have := lb_le D x P; rw [lb]; split <;> omega
theorem lb_hf {D : List Nat} {x : Nat} : ∀ {P a : Nat}, lb D x P = a + 1 → hf D a = x
 | 0, a, h => by cases h
 | P + 1, a, h => by
  rw [lb] at h
  split at h
  ·rename_i e; obtain rfl : P = a := by omega
   exact e
  ·exact lb_hf h
theorem lb_not {D : List Nat} {x : Nat} : ∀ {P q : Nat}, lb D x P ≤ q → q < P → hf D q ≠ x
 | 0, q, h1, h2 => by omega
 | P + 1, q, h1, h2 => by
  rw [lb] at h1
  split at h1
  ·omega
  ·rename_i e
   by_cases eq : q = P
   ·rw [eq]; exact e
   ·exact lb_not h1 (by omega)
theorem lcp_hf {D : List Nat} {i p : Nat} (h : hf D p ≠ hf D i) : lcp D i p < 3 := by
 apply Nat.lt_of_not_le; intro hl
 have e0 := (lcp_eq (D := D) (i := i) (p := p) (j := 0) (by omega)).2
 have e1 := (lcp_eq (D := D) (i := i) (p := p) (j := 1) (by omega)).2
 have e2 := (lcp_eq (D := D) (i := i) (p := p) (j := 2) (by omega)).2
 apply h
 unfold hf
 rw [Nat.add_zero] at e0
 rw [Nat.add_zero] at e0
 rw [e0, e1, e2]
theorem bst_gap {D : List Nat} {i P a : Nat} (hP : P ≤ i) (ha : lb D (hf D i) P ≤ a) (haP : a ≤ P) : bst D i (i - a) = bst D i (i - P) :=
 bst_skip (by omega) fun d h1 h2 => .inl (lcp_hf (lb_not (P := P) (by omega) (by omega)))
end Go.Proofs.YtmkjmmpldepknaaDoor
