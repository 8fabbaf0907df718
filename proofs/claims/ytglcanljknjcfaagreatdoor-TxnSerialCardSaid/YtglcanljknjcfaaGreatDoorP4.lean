/- Texts of the proof, laid together: What the functions of this text come to, as predicates on heaps (printed by my own program out of the dump), each with its proof against the program.; Keys and writes, as cells; as keys of maps.; The order of keys (plain).; cmp.Compare of strings, cmp.Or of three, the order of keys.; Commits, as cells.; The library's sort by a function, at one element: what its parts compute (the kit's plain law of the sort tells the rest). Printed by sortgen.py.; The library's sort by a function, at one element, second part: reverse, insertion, heap. Printed by sortgen.py.; The library's sort by a function, at one element, third part: partial insertion, partitions. Printed by sortgen.py.; The library's sort by a function, at one element, fourth part: patterns, the whole. Printed by sortgen.py.; The library's sort by a function, at one element, last part: pdqsort and SortFunc. Printed by sortgen.py. -/
import Derived.Test.YtglcanljknjcfaaGreatDoorP1
import Derived.Test.YtglcanljknjcfaaGreatDoorP2
import Derived.Test.YtglcanljknjcfaaGreatDoorProg
import Derived.Sort.Statements
import Derived.Sort.AssemblyPlain
import Derived.Test.YtglcanljknjcfaaGreatDoorP3
set_option linter.unusedVariables false
set_option linter.unusedSimpArgs false
set_option linter.unusedSectionVars false
set_option linter.unusedVariables false
set_option maxRecDepth 100000
namespace Go.Proofs.YtglcanljknjcfaaGreatDoor
open Go Go.HW
namespace z286
def ann : Ann := (.seq 22 (rg 2 22) (.seq 4 (.seq 84 (rg 1 84) (.block (.range 20 (rg 2 36) (.block (rg 5 0))))) (.seq 16 (rg 2 16) (.exit 16))))
noncomputable abbrev cd := cdF Tryz.f154
abbrev an := anF ann
@[irreducible] def R1 (s2 : Addr) (t4 : OA) (t4n t4c : Nat) (t7f0 t7f1 t7f2 : ByteArray) (t7f3 : Bool) (t7f4 : ByteArray) (l : Nat) (K : VP) (h : Heap) : Prop := ev PP false none (cd 52) (an 52) (setAll (mkFr 0 13 [(2, (.pointer (some s2))), (4, (.slice t4 t4n t4c))]) [(7, (.agg #[.string t7f0, .string t7f1, .string t7f2, .bool t7f3, .string t7f4]))]) (roundK PP l (cd 53) (an 53) 36 K) h
@[irreducible] def K2 (Q : VP) : EP := seqK (fun fr h => ev PP true none (cd 7) (an 7) (fr.mask 4) (bodyKR PP Tryz.f154 Q) h) (bodyKR PP Tryz.f154 Q)
@[irreducible] def K1 (Q : VP) : EP := blockK 0 (K2 Q)
theorem R1_of {s2 : Addr} {t4 : OA} {t4n t4c : Nat} {t7f0 t7f1 t7f2 : ByteArray} {t7f3 : Bool} {t7f4 : ByteArray} {l : Nat} {K : VP} {h : Heap} (H :
let v5 : Addr := ⟨Array.size h, 0, none⟩
let h1 : Heap := Array.push h (.cells #[(.string (⟨#[]⟩ : ByteArray)), (.string (⟨#[]⟩ : ByteArray)), (.string (⟨#[]⟩ : ByteArray)), .bool false, (.string (⟨#[]⟩ : ByteArray))] y25 (0, 0))
wrCells v5 0 [.string t7f0, .string t7f1, .string t7f2, .bool t7f3, .string t7f4] (fun h2 =>
∃ xL : Loop, h2[l]? = some (.loop xL) ∧ xL.state = .ready ∧
let h3 : Heap := h2.setIfInBounds l (.loop { xL with state := .busy })
∃ (t8 : OA) (t8n t8c : Nat), cellH h3 s2 = some (.slice t8 t8n t8c) ∧
∃ (t9f0 t9f1 t9f2 : ByteArray) (t9f3 : Bool) (t9f4 : ByteArray), rdCells h3 v5 0 [.string t9f0, .string t9f1, .string t9f2, .bool t9f3, .string t9f4] ∧
let h4 : Heap := Array.push h3 (.cells #[.string t9f0, .string t9f1, .string t9f2, .bool t9f3, .string t9f4] y25 (0, 0))
hwp PP (Builtin.append_ #[y11, y11] y11 #[(.slice t8 t8n t8c), (.slice (some ⟨Array.size h3, 0, none⟩) 1 1)]) (fun v h5 => ∃ (t11 : OA) (t11n t11c : Nat), v = (.slice t11 t11n t11c) ∧
wr s2 (.slice t11 t11n t11c) (fun h6 =>
∃ xL_1, h6[l]? = some (.loop xL_1) ∧ K (.bool true) (h6.setIfInBounds l (endL xL_1 none))) h5) h4) h1) : R1 s2 t4 t4n t4c t7f0 t7f1 t7f2 t7f3 t7f4 l K h := y20 (by kernel_rfl) H
theorem R1_yield {s2 : Addr} {t4 : OA} {t4n t4c : Nat} {t7f0 t7f1 t7f2 : ByteArray} {t7f3 : Bool} {t7f4 : ByteArray} {l : Nat} {K : VP} {h : Heap} {L : Loop} (hl : h[l]? = some (.loop L)) (hp : L.params = #[7]) (ha : L.assign = (cd 52)) (hb : L.body = (cd 53)) (hf : FrRel (mkFr 0 13 [(2, (.pointer (some s2))), (4, (.slice t4 t4n t4c))]) L.tmps) (H : R1 s2 t4 t4n t4c t7f0 t7f1 t7f2 t7f3 t7f4 l K h) : callV PP (.func (.yield l) #[] #[]) [(.agg #[.string t7f0, .string t7f1, .string t7f2, .bool t7f3, .string t7f4])] K h := by
  unfold R1 at H
  refine yield_ok (ann := an 52) (annB := an 53) (m := 36) hl (by rw [hp]; rfl) hf ?_
  rw [ha, hb, hp]; exact H
theorem R1_outn0 {Q : VP} {s2 : Addr} {t4 : OA} {t4n t4c : Nat} {h : Heap} (H :
∃ (t12 : OA) (t12n t12c : Nat), cellH h s2 = some (.slice t12 t12n t12c) ∧
∀ h1, Takes h h1 → Q (.slice t12 t12n t12c) h1) : (K1 Q) .normal (mkFr 0 13 [(2, (.pointer (some s2))), (4, (.slice t4 t4n t4c))]) h := y20 (by kernel_rfl) H
theorem door {s0 : OA} {s0n s0c : Nat} {seq1 : Value} {Q : VP} {h : Heap} (H :
let s2 : Addr := ⟨Array.size h, 0, none⟩
let h1 : Heap := Array.push h (.cells #[(.slice s0 s0n s0c)] y11 (0, 0))
rangeK PP seq1 #[7] (cd 52) (cd 53) (mkFr 0 13 [(2, (.pointer (some s2))), (4, (.slice none 0 0))]) (K1 Q) h1) : SpecH PP z287 [(.slice s0 s0n s0c), seq1] h Q :=
  spec_of_txtR (ann := ann) Tryz.func154 rfl (by kernel_rfl) H
end z286
namespace z360
def ann : Ann := (.seq 1055 (rg 1 1055) (.seq 3103 (rg 1 3103) (.block (.loop 3103 (.block (.seq 7199 (rg 4 7199) (.seq 7199 (.seq 33561631 (rg 2 33561631) (.cond (.seq 0 (rg 5 0) (.exit 0)) .leaf)) (.seq 7199 (.seq 4294974495 (rg 2 4294974495) (.cond (.seq 0 (rg 5 0) (.exit 0)) .leaf)) (.seq 7199 (.seq 549755821087 (rg 2 549755821087) (.cond (.seq 7199 (rg 5 7199) (rg 3 7199)) .leaf)) (.join (.seq 31775 (rg 10 31775) (.seq 31775 (.seq 72057594037959711 (rg 2 72057594037959711) (.cond (.seq 15391 (rg 5 15391) (.seq 15391 (rg 7 15391) (rg 1 31775))) .leaf)) (.join (.seq 15391 (.seq 37778931862957161724959 (rg 8 37778931862957161724959) (.join (.cond (.seq 1208925819614629174721567 (rg 5 1208925819614629174721567) (.cond (.exit 0) .leaf)) .leaf))) (.join (.seq 12319 (.seq 158456325028528675187087916063 (rg 17 158456325028528675187087916063) (.join (.cond (.seq 35869 (rg 7 35869) (.seq 3103 (rg 2 3103) (.exit 3103))) .leaf))) (.seq 200735 (rg 11 200735) (.seq 71711 (rg 2 71711) (.seq 858143 (rg 8 858143) (.seq 1902623 (rg 3 1902623) (.seq 42535295865117307932921825928972929055 (rg 3 42535295865117307932921825928972929055) (.cond (.seq 68639 (rg 4 68639) (.seq 68637 (rg 6 68637) (rg 3 3103))) (.seq 68639 (rg 4 68639) (.seq 68635 (rg 7 68635) (rg 2 3103)))))))))))))))))))))))))
noncomputable abbrev cd := cdF Tryz.f155
abbrev an := anF ann
@[irreducible] def Xret  : Fr := (mkFr 0 148 [])
@[irreducible] def L1 (y8 : OA) (y7 y6 : Nat) (a1 b2 y37 : Int) (cmp4 : Value) (y18 y15 : Bool) (K : EP) (h : Heap) : Prop := Lp PP true (cd 28) (mkFr 0 148 [(0, (.slice y8 y7 y6)), (1, .int .i64 a1), (2, .int .i64 b2), (3, .int .i64 y37), (4, cmp4), (10, .bool y18), (11, .bool y15)]) K h
@[irreducible] def B1 (K : EP) : EP := seqK (fun fr h => Lp PP true (cd 28) (fr.mask 3103) K h) K
@[irreducible] def K2 (K : EP) : EP := blockK 1 (B1 K)
@[irreducible] def J1 (y8 : OA) (y7 y6 : Nat) (a1 b2 y37 : Int) (cmp4 : Value) (y18 y15 : Bool) (y39 : Int) (K : EP) (h : Heap) : Prop := Jn PP true (cd 911) (mkFr 0 148 [(0, (.slice y8 y7 y6)), (1, .int .i64 a1), (2, .int .i64 b2), (3, .int .i64 y37), (4, cmp4), (10, .bool y18), (11, .bool y15), (12, .int .i64 y39)]) (K2 K) h
@[irreducible] def K1 (Q : VP) : EP := blockK 0 (bodyK PP Tryz.f155 Q)
@[irreducible] def J2 (y8 : OA) (y7 y6 : Nat) (a1 b2 y37 : Int) (cmp4 : Value) (y18 y15 : Bool) (y39 y52 hint14 : Int) (K : EP) (h : Heap) : Prop := Jn PP true (cd 3647) (mkFr 0 148 [(0, (.slice y8 y7 y6)), (1, .int .i64 a1), (2, .int .i64 b2), (3, .int .i64 y37), (4, cmp4), (10, .bool y18), (11, .bool y15), (12, .int .i64 y39), (13, .int .i64 y52), (14, .int .i64 hint14)]) (K2 K) h
@[irreducible] def K3 (K : EP) : EP := seqK (fun fr h => Jn PP true (cd 7295) (fr.mask 15391) (K2 K) h) (K2 K)
@[irreducible] def J3 (y8 : OA) (y7 y6 : Nat) (a1 b2 y37 : Int) (cmp4 : Value) (y18 y15 : Bool) (y39 y52 : Int) (t75 : Bool) (K : EP) (h : Heap) : Prop := Jn PP true (cd 14589) (mkFr 0 148 [(0, (.slice y8 y7 y6)), (1, .int .i64 a1), (2, .int .i64 b2), (3, .int .i64 y37), (4, cmp4), (10, .bool y18), (11, .bool y15), (12, .int .i64 y39), (13, .int .i64 y52), (75, .bool t75)]) (K3 K) h
@[irreducible] def J4 (y8 : OA) (y7 y6 : Nat) (a1 b2 y37 : Int) (cmp4 : Value) (y18 y15 : Bool) (y39 y52 : Int) (K : EP) (h : Heap) : Prop := Jn PP true (cd 7295) (mkFr 0 148 [(0, (.slice y8 y7 y6)), (1, .int .i64 a1), (2, .int .i64 b2), (3, .int .i64 y37), (4, cmp4), (10, .bool y18), (11, .bool y15), (12, .int .i64 y39), (13, .int .i64 y52)]) (K2 K) h
@[irreducible] def K4 (K : EP) : EP := seqK (fun fr h => ev PP true none (cd 14591) (an 14591) (fr.mask 12319) (K2 K) h) (K2 K)
@[irreducible] def J5 (y8 : OA) (y7 y6 : Nat) (a1 b2 y37 : Int) (cmp4 : Value) (y18 y15 : Bool) (y39 y52 : Int) (t97 : Bool) (K : EP) (h : Heap) : Prop := Jn PP true (cd 29181) (mkFr 0 148 [(0, (.slice y8 y7 y6)), (1, .int .i64 a1), (2, .int .i64 b2), (3, .int .i64 y37), (4, cmp4), (10, .bool y18), (11, .bool y15), (12, .int .i64 y39), (13, .int .i64 y52), (97, .bool t97)]) (K4 K) h
theorem L1_of {y8 : OA} {y7 y6 : Nat} {a1 b2 y37 : Int} {cmp4 : Value} {y18 y15 : Bool} {K : EP} {h : Heap} (H :
let t23 : Int := IntKind.i64.wrap (b2 - a1)
let t25 : Bool := decide (t23 ≤ 12)
br t25 (
SpecH PP z331 [(.slice y8 y7 y6), .int .i64 a1, .int .i64 b2, cmp4] h (fun v h1 => v = (.tuple #[]) ∧
K .ret (Xret) h1)) (
let t32 : Bool := (y37 == 0)
br t32 (
SpecH PP z327 [(.slice y8 y7 y6), .int .i64 a1, .int .i64 b2, cmp4] h (fun v_1 h2 => v_1 = (.tuple #[]) ∧
K .ret (Xret) h2)) (
let t39 : Bool := (!y18)
br t39 (
SpecH PP z319 [(.slice y8 y7 y6), .int .i64 a1, .int .i64 b2, cmp4] h (fun v_2 h3 => v_2 = (.tuple #[]) ∧
let t46 : Int := IntKind.i64.wrap (y37 - 1)
J1 y8 y7 y6 a1 b2 t46 cmp4 y18 y15 t23 K h3)) (
J1 y8 y7 y6 a1 b2 y37 cmp4 y18 y15 t23 K h)))) : L1 y8 y7 y6 a1 b2 y37 cmp4 y18 y15 K h := by unfold L1; exact Lp.of_txt (an 28) 3103 (by kernel_rfl) H
theorem L1_Xret {Q : VP}  {h : Heap} (H :
Q (.tuple #[]) h) : (K1 Q) .ret (Xret ) h := y20 (by kernel_rfl) H
theorem J1_of {y8 : OA} {y7 y6 : Nat} {a1 b2 y37 : Int} {cmp4 : Value} {y18 y15 : Bool} {y39 : Int} {K : EP} {h : Heap} (H :
SpecH PP z323 [(.slice y8 y7 y6), .int .i64 a1, .int .i64 b2, cmp4] h (fun v h1 => ∃ (t52 t52_1 : Int), v = (.tuple #[.int .i64 t52, .int .i64 t52_1]) ∧
let t56 : Bool := (t52_1 == 2)
br t56 (
SpecH PP z365 [(.slice y8 y7 y6), .int .i64 a1, .int .i64 b2, cmp4] h1 (fun v_1 h2 => v_1 = (.tuple #[]) ∧
let t63 : Int := IntKind.i64.wrap (b2 - 1)
let t66 : Int := IntKind.i64.wrap (t52 - a1)
let t67 : Int := IntKind.i64.wrap (t63 - t66)
J2 y8 y7 y6 a1 b2 y37 cmp4 y18 y15 y39 t67 1 K h2)) (
J2 y8 y7 y6 a1 b2 y37 cmp4 y18 y15 y39 t52 t52_1 K h1))) : J1 y8 y7 y6 a1 b2 y37 cmp4 y18 y15 y39 K h := by unfold J1; exact Jn.of_txt (an 911) (by kernel_rfl) H
theorem J2_of {y8 : OA} {y7 y6 : Nat} {a1 b2 y37 : Int} {cmp4 : Value} {y18 y15 : Bool} {y39 y52 hint14 : Int} {K : EP} {h : Heap} (H :
br y18 (
br y15 (
let t74 : Bool := (hint14 == 1)
J3 y8 y7 y6 a1 b2 y37 cmp4 y18 y15 y39 y52 t74 K h) (
J3 y8 y7 y6 a1 b2 y37 cmp4 y18 y15 y39 y52 false K h)) (
J3 y8 y7 y6 a1 b2 y37 cmp4 y18 y15 y39 y52 false K h)) : J2 y8 y7 y6 a1 b2 y37 cmp4 y18 y15 y39 y52 hint14 K h := by unfold J2; exact Jn.of_txt (an 3647) (by kernel_rfl) H
theorem J3_of {y8 : OA} {y7 y6 : Nat} {a1 b2 y37 : Int} {cmp4 : Value} {y18 y15 : Bool} {y39 y52 : Int} {t75 : Bool} {K : EP} {h : Heap} (H :
br t75 (
SpecH PP z349 [(.slice y8 y7 y6), .int .i64 a1, .int .i64 b2, cmp4] h (fun v h1 => ∃ (t80 : Bool), v = (.bool t80) ∧
br t80 (
K .ret (Xret) h1) (
J4 y8 y7 y6 a1 b2 y37 cmp4 y18 y15 y39 y52 K h1))) (
J4 y8 y7 y6 a1 b2 y37 cmp4 y18 y15 y39 y52 K h)) : J3 y8 y7 y6 a1 b2 y37 cmp4 y18 y15 y39 y52 t75 K h := by unfold J3; exact Jn.of_txt (an 14589) (by kernel_rfl) H
theorem J4_of {y8 : OA} {y7 y6 : Nat} {a1 b2 y37 : Int} {cmp4 : Value} {y18 y15 : Bool} {y39 y52 : Int} {K : EP} {h : Heap} (H :
let t82 : Bool := decide (a1 > 0)
br t82 (
let t87 : Int := IntKind.i64.wrap (a1 - 1)
hwp PP (Instr.indexAt y11 (.slice y8 y7 y6) (.int .i64 t87)) (fun v h1 => ∃ (t88 : Addr), v = (.pointer (some t88)) ∧
∃ (t89f0 t89f1 t89f2 : ByteArray) (t89f3 : Bool) (t89f4 : ByteArray), rdCells h1 t88 0 [.string t89f0, .string t89f1, .string t89f2, .bool t89f3, .string t89f4] ∧
hwp PP (Instr.indexAt y11 (.slice y8 y7 y6) (.int .i64 y52)) (fun v_1 h2 => ∃ (t92 : Addr), v_1 = (.pointer (some t92)) ∧
∃ (t93f0 t93f1 t93f2 : ByteArray) (t93f3 : Bool) (t93f4 : ByteArray), rdCells h2 t92 0 [.string t93f0, .string t93f1, .string t93f2, .bool t93f3, .string t93f4] ∧
callV PP cmp4 [(.agg #[.string t89f0, .string t89f1, .string t89f2, .bool t89f3, .string t89f4]), (.agg #[.string t93f0, .string t93f1, .string t93f2, .bool t93f3, .string t93f4])] (fun v_2 h3 => ∃ (t94 : Int), v_2 = (.int .i64 t94) ∧
let t95 : Bool := decide (t94 < 0)
let t96 : Bool := (!t95)
J5 y8 y7 y6 a1 b2 y37 cmp4 y18 y15 y39 y52 t96 K h3) h2) h1) h) (
J5 y8 y7 y6 a1 b2 y37 cmp4 y18 y15 y39 y52 false K h)) : J4 y8 y7 y6 a1 b2 y37 cmp4 y18 y15 y39 y52 K h := by unfold J4; exact Jn.of_txt (an 7295) (by kernel_rfl) H
theorem J5_of {y8 : OA} {y7 y6 : Nat} {a1 b2 y37 : Int} {cmp4 : Value} {y18 y15 : Bool} {y39 y52 : Int} {t97 : Bool} {K : EP} {h : Heap} (H :
br t97 (
SpecH PP z357 [(.slice y8 y7 y6), .int .i64 a1, .int .i64 b2, .int .i64 y52, cmp4] h (fun v h1 => ∃ (t103 : Int), v = (.int .i64 t103) ∧
L1 y8 y7 y6 t103 b2 y37 cmp4 y18 y15 K h1)) (
SpecH PP z353 [(.slice y8 y7 y6), .int .i64 a1, .int .i64 b2, .int .i64 y52, cmp4] h (fun v_1 h2 => ∃ (t111 : Int) (t111_1 : Bool), v_1 = (.tuple #[.int .i64 t111, .bool t111_1]) ∧
let t117 : Int := IntKind.i64.wrap (t111 - a1)
let t120 : Int := IntKind.i64.wrap (b2 - t111)
let t122 : Int := IntKind.i64.wrap (Int.tdiv y39 8)
let t125 : Bool := decide (t117 < t120)
br t125 (
let t128 : Bool := decide (t117 ≥ t122)
SpecH PP z361 [(.slice y8 y7 y6), .int .i64 a1, .int .i64 t111, .int .i64 y37, cmp4] h2 (fun v_2 h3 => v_2 = (.tuple #[]) ∧
let t136 : Int := IntKind.i64.wrap (t111 + 1)
L1 y8 y7 y6 t136 b2 y37 cmp4 t128 t111_1 K h3)) (
let t139 : Bool := decide (t120 ≥ t122)
let t142 : Int := IntKind.i64.wrap (t111 + 1)
SpecH PP z361 [(.slice y8 y7 y6), .int .i64 t142, .int .i64 b2, .int .i64 y37, cmp4] h2 (fun v_3 h4 => v_3 = (.tuple #[]) ∧
L1 y8 y7 y6 a1 t111 y37 cmp4 t139 t111_1 K h4))))) : J5 y8 y7 y6 a1 b2 y37 cmp4 y18 y15 y39 y52 t97 K h := by unfold J5; exact Jn.of_txt (an 29181) (by kernel_rfl) H
theorem door {y8 : OA} {y7 y6 : Nat} {a1 b2 y37 : Int} {cmp4 : Value} {Q : VP} {h : Heap} (H :
L1 y8 y7 y6 a1 b2 y37 cmp4 true true (K1 Q) h) : SpecH PP z361 [(.slice y8 y7 y6), .int .i64 a1, .int .i64 b2, .int .i64 y37, cmp4] h Q :=
  y12 (ann := ann) Tryz.func155 rfl rfl (by kernel_rfl) H
end z360
namespace z382
def ann : Ann := (.seq 56 (rg 4 56) (.seq 64 (rg 2 64) (.exit 64)))
theorem door {s0 sep1 : ByteArray} {sepSave2 : Int} {Q : VP} {h : Heap} (H :
let s3 : Addr := ⟨Array.size h, 0, none⟩
let h1 : Heap := Array.push h (.cells #[.string s0] y29 (0, 0))
let sep4 : Addr := ⟨Array.size h1, 0, none⟩
let h2 : Heap := Array.push h1 (.cells #[.string sep1] y29 (0, 0))
let sepSave5 : Addr := ⟨Array.size h2, 0, none⟩
let h3 : Heap := Array.push h2 (.cells #[.int .i64 sepSave2] y63 (0, 0))
Q (.func (.func z385) #[] #[(.pointer (some sep4)), (.pointer (some s3)), (.pointer (some sepSave5))]) h3) : SpecH PP z383 [.string s0, .string sep1, .int .i64 sepSave2] h Q :=
  y12 (ann := ann) Tryz.func156 rfl rfl (by kernel_rfl) H
end z382
namespace z380
def ann : Ann := (.seq 7 (rg 1 7) (.seq 0 (.seq 1030 (rg 2 1030) (.block (.loop 1030 (.seq 7174 (rg 2 7174) (.seq 3078 (.cond .leaf (.exit 0)) (.block (.seq 1414 (rg 4 1414) (.seq 525446 (rg 5 525446) (.cond (.seq 64 (rg 2 64) (.exit 64)) .leaf))))))))) (.seq 64 (rg 1 64) (.exit 64))))
noncomputable abbrev cd := cdF Tryz.f157
abbrev an := anF ann
@[irreducible] def X0  : Fr := (mkFr 0 21 [])
@[irreducible] def Xret (t6 : Int) : Fr := (mkFr 0 21 [(6, .int .i64 t6)])
@[irreducible] def L1 (f1 : Value) (truth2 : Bool) (t10 : Value) (K : EP) (h : Heap) : Prop := Lp PP true (cd 52) (mkFr 0 21 [(1, f1), (2, .bool truth2), (10, t10)]) K h
@[irreducible] def K2 (Q : VP) : EP := seqK (fun fr h => ev PP true none (cd 7) (an 7) (fr.mask 0) (bodyK PP Tryz.f157 Q) h) (bodyK PP Tryz.f157 Q)
@[irreducible] def K1 (Q : VP) : EP := blockK 0 (K2 Q)
theorem L1_of {f1 : Value} {truth2 : Bool} {t10 : Value} {K : EP} {h : Heap} (H :
hwp PP (Instr.next t10 true T_) (fun v h1 => (v = .tuple #[.bool false] ∧
K (.exit 0) (X0) h1) ∨ (∃ (i c : Int), v = .tuple #[.bool true, .int .i64 i, .int .i32 c] ∧
callV PP f1 [.int .i32 c] (fun v_1 h2 => ∃ (t17 : Bool), v_1 = (.bool t17) ∧
let t19 : Bool := (t17 == truth2)
br t19 (
K .ret (Xret i) h2) (
L1 f1 truth2 t10 K h2)) h1)) h) : L1 f1 truth2 t10 K h := by unfold L1; exact Lp.of_txt (an 52) 1030 (by kernel_rfl) H
theorem L1_X0 {Q : VP}  {h : Heap} (H :
Q (.int .i64 (-1)) h) : (K1 Q) (.exit 0) (X0 ) h := y20 (by kernel_rfl) H
theorem L1_Xret {Q : VP} {t6 : Int} {h : Heap} (H :
Q (.int .i64 t6) h) : (K1 Q) .ret (Xret t6) h := y20 (by kernel_rfl) H
theorem door {s0 : ByteArray} {f1 : Value} {truth2 : Bool} {Q : VP} {h : Heap} (H :
hwp PP (Instr.range y29 (.string s0)) (fun v h1 => ∃ (t10 : Value), v = t10 ∧
L1 f1 truth2 t10 (K1 Q) h1) h) : SpecH PP z381 [.string s0, f1, .bool truth2] h Q :=
  y12 (ann := ann) Tryz.func157 rfl rfl (by kernel_rfl) H
end z380
namespace z376
def ann : Ann := (.seq 3 (rg 1 3) (.block (.seq 1461501637330902918203684832716283019655932542979 (rg 7 1461501637330902918203684832716283019655932542979) (.join (.cond (.seq 16 (rg 5 16) (.exit 16)) (.seq 2993155353253689176481146537402947624255349848014851 (rg 3 2993155353253689176481146537402947624255349848014851) (.cond (.seq 0 (.seq 47890485652059026823698344598447161988085597568237568 (rg 2 47890485652059026823698344598447161988085597568237568) (.block (.loop 47890485652059026823698344598447161988085597568237568 (.seq 335233399564413187765888412189130133916599182977662976 (rg 2 335233399564413187765888412189130133916599182977662976) (.seq 143671456956177080471095033795341485964256792704712704 (.cond .leaf (.exit 0)) (.block (.seq 47890485652059026823698344598447161988085597568237664 (rg 4 47890485652059026823698344598447161988085597568237664) (.seq 3112881567383836743540392398899065529225563841935441952 (rg 2 3112881567383836743540392398899065529225563841935441952) (.cond (.seq 16 (rg 2 16) (.exit 16)) .leaf))))))))) (.seq 16 (rg 1 16) (.exit 16))) (.seq 12259964326927110866866776217202473468949912977468817411 (rg 4 12259964326927110866866776217202473468949912977468817411) (.cond (.seq 16 (rg 1 16) (.exit 16)) (.scope [(1, 899)] (.seq 131 (rg 3 131) (.seq 387 (rg 4 387) (.seq 899 (rg 2 899) (.seq 1923 (rg 1 1923) (.seq 0 (.block (.loop 1923 (.seq 1923 (.seq 67110787 (rg 4 67110787) (.cond .leaf (.exit 0))) (.block (.scope [(0, 1923)] (.seq 1923 (.seq 8589936515 (rg 7 8589936515) (.cond (.seq 3971 (rg 9 3971) (.seq 3971 (.seq 8796093026179 (rg 2 8796093026179) (.cond (.seq 16 (rg 1 16) (.exit 16)) .leaf)) (rg 5 1923))) .leaf)) (.join (.seq 768 (.seq 6019 (rg 1 6019) (.block (.loop 6019 (.seq 6019 (.seq 2251799813691267 (rg 4 2251799813691267) (.cond .leaf (.exit 768))) (.seq 6019 (.block (.seq 18446744073709557635 (rg 11 18446744073709557635) (.cond (.exit 1923) .leaf))) (rg 3 6019)))))) (.seq 1923 (.seq 16 (rg 4 16) (.exit 16)) (.seq 1923 .leaf (.seq 1923 (rg 3 1923) (.seq 1923 (rg 3 1923) (.seq 316912650057057350374175803267 (rg 27 316912650057057350374175803267) (.cond (.exit 899) .leaf)))))))))))))) (.seq 899 (.seq 16 (rg 1 16) (.exit 16)) (.seq 899 .leaf (.seq 0 (.cond (.seq 8960 (rg 9 8960) (.seq 324518553658426726783156020585216 (rg 2 324518553658426726783156020585216) (.cond (.seq 16 (rg 6 16) (.exit 16)) .leaf))) (.straight (.seq 17281 (rg 4 17281) (.seq 50049 (rg 5 50049) (.seq 50049 .leaf (.block (.loop 50049 (.seq 50049 (.seq 21267647932558653966460912964485563265 (rg 4 21267647932558653966460912964485563265) (.cond .leaf (.exit 0))) (.seq 50049 (.block (.seq 696898287454081973172991196020261297111937 (rg 13 696898287454081973172991196020261297111937) (.cond (.seq 768 (.seq 115585 (rg 1 115585) (.block (.loop 115585 (.seq 115585 (.seq 11150372599265311570767859136324180753105793 (rg 4 11150372599265311570767859136324180753105793) (.cond .leaf (.exit 768))) (.seq 115585 (.block (.seq 91343852333181432387730302044767688728495899521 (rg 11 91343852333181432387730302044767688728495899521) (.cond (.exit 50049) .leaf))) (rg 3 115585)))))) (.seq 16 (rg 4 16) (.exit 16))) .leaf))) (rg 3 50049)))))))))) (.seq 16 (rg 1 16) (.exit 16))))))))))))))))))))
noncomputable abbrev cd := cdF Tryz.f158
abbrev an := anF ann
@[irreducible] def X9  : Fr := (mkFr 0 187 [])
@[irreducible] def Xret (t4 : Int) : Fr := (mkFr 0 187 [(4, .int .i64 t4)])
@[irreducible] def X1  : Fr := (mkFr 0 187 [])
@[irreducible] def K1 (Q : VP) : EP := blockK 0 (bodyK PP Tryz.f158 Q)
@[irreducible] def J1 (s0 : ByteArray) (r1 : Int) (t160 : Bool) (Q : VP) (h : Heap) : Prop := Jn PP true (cd 13) (mkFr 0 187 [(0, .string s0), (1, .int .i32 r1), (160, .bool t160)]) (K1 Q) h
@[irreducible] def K3 (Q : VP) : EP := seqK (fun fr h => ev PP true none (cd 221) (an 221) (fr.mask 0) (K1 Q) h) (K1 Q)
@[irreducible] def K2 (Q : VP) : EP := blockK 9 (K3 Q)
@[irreducible] def L1 (t175 : Value) (K : EP) (h : Heap) : Prop := Lp PP true (cd 1764) (mkFr 0 187 [(175, t175)]) K h
@[irreducible] def S1 (s0 : ByteArray) (r1 : Int) (t183 : Bool) (K : EP) (h : Heap) : Prop := Sc PP true (cd 894) none (mkFr 0 187 [(0, .string s0), (1, .int .i32 r1), (183, .bool t183)]) K h
@[irreducible] def C1 (K : EP) : EP := scopeK (cd 894) (fun l fr h => Sc PP true (cd 894) (some l) (fr.mask (keepOf [(1, 899)] l)) K h) K
@[irreducible] def K5 (K : EP) : EP := seqK (fun fr h => ev PP true none (cd 28639) (an 28639) (fr.mask 0) (C1 K) h) (C1 K)
@[irreducible] def K4 (K : EP) : EP := blockK 1 (K5 K)
@[irreducible] def L2 (s0 : ByteArray) (r1 : Int) (rs7 : ByteArray) (last8 i9 fails10 : Int) (K : EP) (h : Heap) : Prop := Lp PP true (cd 114552) (mkFr 0 187 [(0, .string s0), (1, .int .i32 r1), (7, .string rs7), (8, .int .i64 last8), (9, .int .i64 i9), (10, .int .i64 fails10)]) K h
@[irreducible] def B2 (K : EP) : EP := seqK (fun fr h => Lp PP true (cd 114552) (fr.mask 1923) K h) K
@[irreducible] def S2 (s0 : ByteArray) (r1 : Int) (rs7 : ByteArray) (last8 i9 fails10 : Int) (K : EP) (h : Heap) : Prop := Sc PP true (cd 916420) none (mkFr 0 187 [(0, .string s0), (1, .int .i32 r1), (7, .string rs7), (8, .int .i64 last8), (9, .int .i64 i9), (10, .int .i64 fails10)]) K h
@[irreducible] def C2 (K : EP) : EP := scopeK (cd 916420) (fun l fr h => Sc PP true (cd 916420) (some l) (fr.mask (keepOf [(0, 1923)] l)) K h) K
@[irreducible] def J2 (s0 : ByteArray) (r1 : Int) (rs7 : ByteArray) (last8 i9 fails10 : Int) (K : EP) (h : Heap) : Prop := Jn PP true (cd 1832841) (mkFr 0 187 [(0, .string s0), (1, .int .i32 r1), (7, .string rs7), (8, .int .i64 last8), (9, .int .i64 i9), (10, .int .i64 fails10)]) (C2 K) h
@[irreducible] def K6 (K : EP) : EP := blockK 2 (B2 K)
theorem J1_of {s0 : ByteArray} {r1 : Int} {t160 : Bool} {Q : VP} {h : Heap} (H :
br t160 (
let t169 : Int := IntKind.u8.wrap r1
SpecH PP F_strings_IndexByte [.string s0, .int .u8 t169] h (fun v h1 => ∃ (t170 : Int), v = (.int .i64 t170) ∧
Q (.int .i64 t170) h1)) (
let t173 : Bool := (r1 == 65533)
br t173 (
hwp PP (Instr.range y29 (.string s0)) (fun v_1 h2 => ∃ (t175 : Value), v_1 = t175 ∧
L1 t175 (K2 Q) h2) h) (
∃ v_2, PureAt PP z436 [.int .i32 r1] v_2 ∧
∃ (t185 : Bool), v_2 = (.bool t185) ∧
let t186 : Bool := (!t185)
br t186 (
Q (.int .i64 (-1)) h) (
S1 s0 r1 t186 (K1 Q) h)))) : J1 s0 r1 t160 Q h := by unfold J1; exact Jn.of_txt (an 13) (by kernel_rfl) H
theorem L1_of {t175 : Value} {K : EP} {h : Heap} (H :
hwp PP (Instr.next t175 true T_) (fun v h1 => (v = .tuple #[.bool false] ∧
K (.exit 9) (X9) h1) ∨ (∃ (i c : Int), v = .tuple #[.bool true, .int .i64 i, .int .i32 c] ∧
let t181 : Bool := (c == 65533)
br t181 (
K .ret (Xret i) h1) (
L1 t175 K h1))) h) : L1 t175 K h := by unfold L1; exact Lp.of_txt (an 1764) 47890485652059026823698344598447161988085597568237568 (by kernel_rfl) H
theorem L1_X9 {Q : VP}  {h : Heap} (H :
Q (.int .i64 (-1)) h) : (K2 Q) (.exit 9) (X9 ) h := y20 (by kernel_rfl) H
theorem S1_of {s0 : ByteArray} {r1 : Int} {t183 : Bool} {K : EP} {h : Heap} (H :
hwp PP (Go.convert T_int32 y29 (.int .i32 r1)) (fun v h1 => ∃ (t18 : ByteArray), v = (.string t18) ∧
let t20 : Int := (ByteArray.size t18 : Int)
let t21 : Int := IntKind.i64.wrap (t20 - 1)
L2 s0 r1 t18 t21 t21 0 (K4 K) h1) h) : S1 s0 r1 t183 K h := by unfold S1; exact Sc.of_txt (an 894) [(1, 899)] (by kernel_rfl) H
theorem S1_Xret {Q : VP} {t4 : Int} {h : Heap} (H :
Q (.int .i64 t4) h) : (K1 Q) .ret (Xret t4) h := y20 (by kernel_rfl) H
theorem L2_of {s0 : ByteArray} {r1 : Int} {rs7 : ByteArray} {last8 i9 fails10 : Int} {K : EP} {h : Heap} (H :
let t25 : Int := (ByteArray.size s0 : Int)
let t26 : Bool := decide (i9 < t25)
br t26 (
S2 s0 r1 rs7 last8 i9 fails10 (K6 K) h) (
K (.exit 1) (X1) h)) : L2 s0 r1 rs7 last8 i9 fails10 K h := by unfold L2; exact Lp.of_txt (an 114552) 1923 (by kernel_rfl) H
theorem L2_Xret {K : EP} {t4 : Int} {h : Heap} (H :
K .ret (Xret t4) h) : (K4 K) .ret (Xret t4) h := y20 (by kernel_rfl) H
theorem S2_of {s0 : ByteArray} {r1 : Int} {rs7 : ByteArray} {last8 i9 fails10 : Int} {K : EP} {h : Heap} (H :
hwp PP (Instr.index y29 (.string s0) (.int .i64 i9)) (fun v h1 => ∃ (t29 : Int), v = (.int .u8 t29) ∧
hwp PP (Instr.index y29 (.string rs7) (.int .i64 last8)) (fun v_1 h2 => ∃ (t32 : Int), v_1 = (.int .u8 t32) ∧
let t33 : Bool := (t29 != t32)
br t33 (
let t36 : Int := IntKind.i64.wrap (i9 + 1)
hwp PP (Instr.sliceAt y29 (.string s0) (some (.int .i64 t36)) none none) (fun v_2 h3 => ∃ (t37 : ByteArray), v_2 = (.string t37) ∧
hwp PP (Instr.index y29 (.string rs7) (.int .i64 last8)) (fun v_3 h4 => ∃ (t40 : Int), v_3 = (.int .u8 t40) ∧
SpecH PP F_strings_IndexByte [.string t37, .int .u8 t40] h4 (fun v_4 h5 => ∃ (t41 : Int), v_4 = (.int .i64 t41) ∧
let t43 : Bool := decide (t41 < 0)
br t43 (
K .ret (Xret (-1)) h5) (
let t46 : Int := IntKind.i64.wrap (t41 + 1)
let t47 : Int := IntKind.i64.wrap (i9 + t46)
J2 s0 r1 rs7 last8 t47 fails10 K h5))) h3) h2) (
J2 s0 r1 rs7 last8 i9 fails10 K h2)) h1) h) : S2 s0 r1 rs7 last8 i9 fails10 K h := by unfold S2; exact Sc.of_txt (an 916420) [(0, 1923)] (by kernel_rfl) H
theorem S2_Xret {K : EP} {t4 : Int} {h : Heap} (H :
K .ret (Xret t4) h) : (K6 K) .ret (Xret t4) h := y20 (by kernel_rfl) H
theorem door {s0 : ByteArray} {r1 : Int} {Q : VP} {h : Heap} (H :
let t162 : Bool := decide (0 ≤ r1)
br t162 (
let t165 : Bool := decide (r1 < 128)
J1 s0 r1 t165 Q h) (
J1 s0 r1 false Q h)) : SpecH PP z377 [.string s0, .int .i32 r1] h Q :=
  y12 (ann := ann) Tryz.func158 rfl rfl (by kernel_rfl) H
end z376
namespace z358
def ann : Ann := (.seq 1055 (rg 1 1055) (.seq 3103 (rg 1 3103) (.block (.loop 3103 (.block (.seq 7199 (rg 4 7199) (.seq 7199 (.seq 33561631 (rg 2 33561631) (.cond (.seq 0 (rg 5 0) (.exit 0)) .leaf)) (.seq 7199 (.seq 4294974495 (rg 2 4294974495) (.cond (.seq 0 (rg 5 0) (.exit 0)) .leaf)) (.seq 7199 (.seq 549755821087 (rg 2 549755821087) (.cond (.seq 7199 (rg 5 7199) (rg 3 7199)) .leaf)) (.join (.seq 31775 (rg 10 31775) (.seq 31775 (.seq 72057594037959711 (rg 2 72057594037959711) (.cond (.seq 15391 (rg 5 15391) (.seq 15391 (rg 7 15391) (rg 1 31775))) .leaf)) (.join (.seq 15391 (.seq 37778931862957161724959 (rg 8 37778931862957161724959) (.join (.cond (.seq 1208925819614629174721567 (rg 5 1208925819614629174721567) (.cond (.exit 0) .leaf)) .leaf))) (.join (.seq 12319 (.seq 158456325028528675187087916063 (rg 17 158456325028528675187087916063) (.join (.cond (.seq 35869 (rg 7 35869) (.seq 3103 (rg 2 3103) (.exit 3103))) .leaf))) (.seq 200735 (rg 11 200735) (.seq 71711 (rg 2 71711) (.seq 858143 (rg 8 858143) (.seq 1902623 (rg 3 1902623) (.seq 42535295865117307932921825928972929055 (rg 3 42535295865117307932921825928972929055) (.cond (.seq 68639 (rg 4 68639) (.seq 68637 (rg 6 68637) (rg 3 3103))) (.seq 68639 (rg 4 68639) (.seq 68635 (rg 7 68635) (rg 2 3103)))))))))))))))))))))))))
noncomputable abbrev cd := cdF Tryz.f159
abbrev an := anF ann
@[irreducible] def Xret  : Fr := (mkFr 0 148 [])
@[irreducible] def L1 (y8 : OA) (y7 y6 : Nat) (a1 b2 y37 : Int) (cmp4 : Value) (y18 y15 : Bool) (K : EP) (h : Heap) : Prop := Lp PP true (cd 28) (mkFr 0 148 [(0, (.slice y8 y7 y6)), (1, .int .i64 a1), (2, .int .i64 b2), (3, .int .i64 y37), (4, cmp4), (10, .bool y18), (11, .bool y15)]) K h
@[irreducible] def B1 (K : EP) : EP := seqK (fun fr h => Lp PP true (cd 28) (fr.mask 3103) K h) K
@[irreducible] def K2 (K : EP) : EP := blockK 1 (B1 K)
@[irreducible] def J1 (y8 : OA) (y7 y6 : Nat) (a1 b2 y37 : Int) (cmp4 : Value) (y18 y15 : Bool) (y39 : Int) (K : EP) (h : Heap) : Prop := Jn PP true (cd 911) (mkFr 0 148 [(0, (.slice y8 y7 y6)), (1, .int .i64 a1), (2, .int .i64 b2), (3, .int .i64 y37), (4, cmp4), (10, .bool y18), (11, .bool y15), (12, .int .i64 y39)]) (K2 K) h
@[irreducible] def K1 (Q : VP) : EP := blockK 0 (bodyK PP Tryz.f159 Q)
@[irreducible] def J2 (y8 : OA) (y7 y6 : Nat) (a1 b2 y37 : Int) (cmp4 : Value) (y18 y15 : Bool) (y39 y52 hint14 : Int) (K : EP) (h : Heap) : Prop := Jn PP true (cd 3647) (mkFr 0 148 [(0, (.slice y8 y7 y6)), (1, .int .i64 a1), (2, .int .i64 b2), (3, .int .i64 y37), (4, cmp4), (10, .bool y18), (11, .bool y15), (12, .int .i64 y39), (13, .int .i64 y52), (14, .int .i64 hint14)]) (K2 K) h
@[irreducible] def K3 (K : EP) : EP := seqK (fun fr h => Jn PP true (cd 7295) (fr.mask 15391) (K2 K) h) (K2 K)
@[irreducible] def J3 (y8 : OA) (y7 y6 : Nat) (a1 b2 y37 : Int) (cmp4 : Value) (y18 y15 : Bool) (y39 y52 : Int) (t75 : Bool) (K : EP) (h : Heap) : Prop := Jn PP true (cd 14589) (mkFr 0 148 [(0, (.slice y8 y7 y6)), (1, .int .i64 a1), (2, .int .i64 b2), (3, .int .i64 y37), (4, cmp4), (10, .bool y18), (11, .bool y15), (12, .int .i64 y39), (13, .int .i64 y52), (75, .bool t75)]) (K3 K) h
@[irreducible] def J4 (y8 : OA) (y7 y6 : Nat) (a1 b2 y37 : Int) (cmp4 : Value) (y18 y15 : Bool) (y39 y52 : Int) (K : EP) (h : Heap) : Prop := Jn PP true (cd 7295) (mkFr 0 148 [(0, (.slice y8 y7 y6)), (1, .int .i64 a1), (2, .int .i64 b2), (3, .int .i64 y37), (4, cmp4), (10, .bool y18), (11, .bool y15), (12, .int .i64 y39), (13, .int .i64 y52)]) (K2 K) h
@[irreducible] def K4 (K : EP) : EP := seqK (fun fr h => ev PP true none (cd 14591) (an 14591) (fr.mask 12319) (K2 K) h) (K2 K)
@[irreducible] def J5 (y8 : OA) (y7 y6 : Nat) (a1 b2 y37 : Int) (cmp4 : Value) (y18 y15 : Bool) (y39 y52 : Int) (t97 : Bool) (K : EP) (h : Heap) : Prop := Jn PP true (cd 29181) (mkFr 0 148 [(0, (.slice y8 y7 y6)), (1, .int .i64 a1), (2, .int .i64 b2), (3, .int .i64 y37), (4, cmp4), (10, .bool y18), (11, .bool y15), (12, .int .i64 y39), (13, .int .i64 y52), (97, .bool t97)]) (K4 K) h
theorem L1_of {y8 : OA} {y7 y6 : Nat} {a1 b2 y37 : Int} {cmp4 : Value} {y18 y15 : Bool} {K : EP} {h : Heap} (H :
let t23 : Int := IntKind.i64.wrap (b2 - a1)
let t25 : Bool := decide (t23 ≤ 12)
br t25 (
SpecH PP z329 [(.slice y8 y7 y6), .int .i64 a1, .int .i64 b2, cmp4] h (fun v h1 => v = (.tuple #[]) ∧
K .ret (Xret) h1)) (
let t32 : Bool := (y37 == 0)
br t32 (
SpecH PP z325 [(.slice y8 y7 y6), .int .i64 a1, .int .i64 b2, cmp4] h (fun v_1 h2 => v_1 = (.tuple #[]) ∧
K .ret (Xret) h2)) (
let t39 : Bool := (!y18)
br t39 (
SpecH PP z317 [(.slice y8 y7 y6), .int .i64 a1, .int .i64 b2, cmp4] h (fun v_2 h3 => v_2 = (.tuple #[]) ∧
let t46 : Int := IntKind.i64.wrap (y37 - 1)
J1 y8 y7 y6 a1 b2 t46 cmp4 y18 y15 t23 K h3)) (
J1 y8 y7 y6 a1 b2 y37 cmp4 y18 y15 t23 K h)))) : L1 y8 y7 y6 a1 b2 y37 cmp4 y18 y15 K h := by unfold L1; exact Lp.of_txt (an 28) 3103 (by kernel_rfl) H
theorem L1_Xret {Q : VP}  {h : Heap} (H :
Q (.tuple #[]) h) : (K1 Q) .ret (Xret ) h := y20 (by kernel_rfl) H
theorem J1_of {y8 : OA} {y7 y6 : Nat} {a1 b2 y37 : Int} {cmp4 : Value} {y18 y15 : Bool} {y39 : Int} {K : EP} {h : Heap} (H :
SpecH PP z321 [(.slice y8 y7 y6), .int .i64 a1, .int .i64 b2, cmp4] h (fun v h1 => ∃ (t52 t52_1 : Int), v = (.tuple #[.int .i64 t52, .int .i64 t52_1]) ∧
let t56 : Bool := (t52_1 == 2)
br t56 (
SpecH PP z363 [(.slice y8 y7 y6), .int .i64 a1, .int .i64 b2, cmp4] h1 (fun v_1 h2 => v_1 = (.tuple #[]) ∧
let t63 : Int := IntKind.i64.wrap (b2 - 1)
let t66 : Int := IntKind.i64.wrap (t52 - a1)
let t67 : Int := IntKind.i64.wrap (t63 - t66)
J2 y8 y7 y6 a1 b2 y37 cmp4 y18 y15 y39 t67 1 K h2)) (
J2 y8 y7 y6 a1 b2 y37 cmp4 y18 y15 y39 t52 t52_1 K h1))) : J1 y8 y7 y6 a1 b2 y37 cmp4 y18 y15 y39 K h := by unfold J1; exact Jn.of_txt (an 911) (by kernel_rfl) H
theorem J2_of {y8 : OA} {y7 y6 : Nat} {a1 b2 y37 : Int} {cmp4 : Value} {y18 y15 : Bool} {y39 y52 hint14 : Int} {K : EP} {h : Heap} (H :
br y18 (
br y15 (
let t74 : Bool := (hint14 == 1)
J3 y8 y7 y6 a1 b2 y37 cmp4 y18 y15 y39 y52 t74 K h) (
J3 y8 y7 y6 a1 b2 y37 cmp4 y18 y15 y39 y52 false K h)) (
J3 y8 y7 y6 a1 b2 y37 cmp4 y18 y15 y39 y52 false K h)) : J2 y8 y7 y6 a1 b2 y37 cmp4 y18 y15 y39 y52 hint14 K h := by unfold J2; exact Jn.of_txt (an 3647) (by kernel_rfl) H
theorem J3_of {y8 : OA} {y7 y6 : Nat} {a1 b2 y37 : Int} {cmp4 : Value} {y18 y15 : Bool} {y39 y52 : Int} {t75 : Bool} {K : EP} {h : Heap} (H :
br t75 (
SpecH PP z347 [(.slice y8 y7 y6), .int .i64 a1, .int .i64 b2, cmp4] h (fun v h1 => ∃ (t80 : Bool), v = (.bool t80) ∧
br t80 (
K .ret (Xret) h1) (
J4 y8 y7 y6 a1 b2 y37 cmp4 y18 y15 y39 y52 K h1))) (
J4 y8 y7 y6 a1 b2 y37 cmp4 y18 y15 y39 y52 K h)) : J3 y8 y7 y6 a1 b2 y37 cmp4 y18 y15 y39 y52 t75 K h := by unfold J3; exact Jn.of_txt (an 14589) (by kernel_rfl) H
theorem J4_of {y8 : OA} {y7 y6 : Nat} {a1 b2 y37 : Int} {cmp4 : Value} {y18 y15 : Bool} {y39 y52 : Int} {K : EP} {h : Heap} (H :
let t82 : Bool := decide (a1 > 0)
br t82 (
let t87 : Int := IntKind.i64.wrap (a1 - 1)
hwp PP (Instr.indexAt y14 (.slice y8 y7 y6) (.int .i64 t87)) (fun v h1 => ∃ (t88 : Addr), v = (.pointer (some t88)) ∧
∃ (t89f0 t89f1 t89f2 : ByteArray), rdCells h1 t88 0 [.string t89f0, .string t89f1, .string t89f2] ∧
hwp PP (Instr.indexAt y14 (.slice y8 y7 y6) (.int .i64 y52)) (fun v_1 h2 => ∃ (t92 : Addr), v_1 = (.pointer (some t92)) ∧
∃ (t93f0 t93f1 t93f2 : ByteArray), rdCells h2 t92 0 [.string t93f0, .string t93f1, .string t93f2] ∧
callV PP cmp4 [(.agg #[.string t89f0, .string t89f1, .string t89f2]), (.agg #[.string t93f0, .string t93f1, .string t93f2])] (fun v_2 h3 => ∃ (t94 : Int), v_2 = (.int .i64 t94) ∧
let t95 : Bool := decide (t94 < 0)
let t96 : Bool := (!t95)
J5 y8 y7 y6 a1 b2 y37 cmp4 y18 y15 y39 y52 t96 K h3) h2) h1) h) (
J5 y8 y7 y6 a1 b2 y37 cmp4 y18 y15 y39 y52 false K h)) : J4 y8 y7 y6 a1 b2 y37 cmp4 y18 y15 y39 y52 K h := by unfold J4; exact Jn.of_txt (an 7295) (by kernel_rfl) H
theorem J5_of {y8 : OA} {y7 y6 : Nat} {a1 b2 y37 : Int} {cmp4 : Value} {y18 y15 : Bool} {y39 y52 : Int} {t97 : Bool} {K : EP} {h : Heap} (H :
br t97 (
SpecH PP z355 [(.slice y8 y7 y6), .int .i64 a1, .int .i64 b2, .int .i64 y52, cmp4] h (fun v h1 => ∃ (t103 : Int), v = (.int .i64 t103) ∧
L1 y8 y7 y6 t103 b2 y37 cmp4 y18 y15 K h1)) (
SpecH PP z351 [(.slice y8 y7 y6), .int .i64 a1, .int .i64 b2, .int .i64 y52, cmp4] h (fun v_1 h2 => ∃ (t111 : Int) (t111_1 : Bool), v_1 = (.tuple #[.int .i64 t111, .bool t111_1]) ∧
let t117 : Int := IntKind.i64.wrap (t111 - a1)
let t120 : Int := IntKind.i64.wrap (b2 - t111)
let t122 : Int := IntKind.i64.wrap (Int.tdiv y39 8)
let t125 : Bool := decide (t117 < t120)
br t125 (
let t128 : Bool := decide (t117 ≥ t122)
SpecH PP z359 [(.slice y8 y7 y6), .int .i64 a1, .int .i64 t111, .int .i64 y37, cmp4] h2 (fun v_2 h3 => v_2 = (.tuple #[]) ∧
let t136 : Int := IntKind.i64.wrap (t111 + 1)
L1 y8 y7 y6 t136 b2 y37 cmp4 t128 t111_1 K h3)) (
let t139 : Bool := decide (t120 ≥ t122)
let t142 : Int := IntKind.i64.wrap (t111 + 1)
SpecH PP z359 [(.slice y8 y7 y6), .int .i64 t142, .int .i64 b2, .int .i64 y37, cmp4] h2 (fun v_3 h4 => v_3 = (.tuple #[]) ∧
L1 y8 y7 y6 a1 t111 y37 cmp4 t139 t111_1 K h4))))) : J5 y8 y7 y6 a1 b2 y37 cmp4 y18 y15 y39 y52 t97 K h := by unfold J5; exact Jn.of_txt (an 29181) (by kernel_rfl) H
theorem door {y8 : OA} {y7 y6 : Nat} {a1 b2 y37 : Int} {cmp4 : Value} {Q : VP} {h : Heap} (H :
L1 y8 y7 y6 a1 b2 y37 cmp4 true true (K1 Q) h) : SpecH PP z359 [(.slice y8 y7 y6), .int .i64 a1, .int .i64 b2, .int .i64 y37, cmp4] h Q :=
  y12 (ann := ann) Tryz.func159 rfl rfl (by kernel_rfl) H
end z358
namespace z276
end z276
namespace z340
def ann : Ann := (.seq 1 (rg 1 1) (.seq 4 (rg 5 4) (.exit 4)))
theorem door {length0 : Int} {Q : VP} {h : Heap} (H :
let t4 : Int := IntKind.u64.wrap length0
SpecH PP z271 [.int .u64 t4] h (fun v h1 => ∃ (t5 : Int), v = (.int .i64 t5) ∧
br (decide (0 ≤ t5)) (
let t6 : Int := sShl .u64 1 t5
Q (.int .u64 t6) h1) False)) : SpecH PP z341 [.int .i64 length0] h Q :=
  y12 (ann := ann) Tryz.func162 rfl rfl (by kernel_rfl) H
end z340
namespace z370
def ann : Ann := (.seq 1 (rg 1 1) (.seq 1 (rg 10 1) (.seq 1 (rg 10 1) (.seq 1 (rg 10 1) (.seq 4 (rg 4 4) (.exit 4))))))
theorem door {r0 : OA} {Q : VP} {h : Heap} (H :
nilc r0 (fun t4 =>
∃ (t5 : Int), cellH h t4 = some (.int .u64 t5) ∧
nilc r0 (fun t7 =>
∃ (t8 : Int), cellH h t7 = some (.int .u64 t8) ∧
let t9 : Int := sShl .u64 t8 13
let t10 : Int := bXor .u64 t5 t9
nilc r0 (fun t11 =>
wr t11 (.int .u64 t10) (fun h1 =>
nilc r0 (fun t13 =>
∃ (t14 : Int), cellH h1 t13 = some (.int .u64 t14) ∧
nilc r0 (fun t16 =>
∃ (t17 : Int), cellH h1 t16 = some (.int .u64 t17) ∧
let t18 : Int := sShr .u64 t17 7
let t19 : Int := bXor .u64 t14 t18
nilc r0 (fun t20 =>
wr t20 (.int .u64 t19) (fun h2 =>
nilc r0 (fun t22 =>
∃ (t23 : Int), cellH h2 t22 = some (.int .u64 t23) ∧
nilc r0 (fun t25 =>
∃ (t26 : Int), cellH h2 t25 = some (.int .u64 t26) ∧
let t27 : Int := sShl .u64 t26 17
let t28 : Int := bXor .u64 t23 t27
nilc r0 (fun t29 =>
wr t29 (.int .u64 t28) (fun h3 =>
nilc r0 (fun t31 =>
∃ (t32 : Int), cellH h3 t31 = some (.int .u64 t32) ∧
Q (.int .u64 t32) h3)) h2)))) h1)))) h)))) : SpecH PP z371 [.pointer r0] h Q :=
  y12 (ann := ann) Tryz.func163 rfl rfl (by kernel_rfl) H
end z370
namespace z330
def ann : Ann := (.seq 271 (rg 3 271) (.block (.loop 271 (.seq 271 (.seq 16655 (rg 3 16655) (.cond .leaf (.exit 0))) (.seq 271 (.block (.seq 783 (rg 2 783) (.block (.loop 783 (.seq 783 (.seq 17179869967 (rg 17 17179869967) (.cond .leaf (.exit 271))) (.seq 783 (.block (rg 18 783)) (rg 3 783))))))) (rg 3 271))))))
noncomputable abbrev cd := cdF Tryz.f170
abbrev an := anF ann
@[irreducible] def X0  : Fr := (mkFr 0 53 [])
@[irreducible] def X2 (y8 : OA) (y7 y6 : Nat) (a1 b2 : Int) (cmp3 : Value) (i8 : Int) : Fr := (mkFr 0 53 [(0, (.slice y8 y7 y6)), (1, .int .i64 a1), (2, .int .i64 b2), (3, cmp3), (8, .int .i64 i8)])
@[irreducible] def L1 (y8 : OA) (y7 y6 : Nat) (a1 b2 : Int) (cmp3 : Value) (i8 : Int) (K : EP) (h : Heap) : Prop := Lp PP true (cd 12) (mkFr 0 53 [(0, (.slice y8 y7 y6)), (1, .int .i64 a1), (2, .int .i64 b2), (3, cmp3), (8, .int .i64 i8)]) K h
@[irreducible] def B1 (K : EP) : EP := seqK (fun fr h => Lp PP true (cd 12) (fr.mask 271) K h) K
@[irreducible] def K1 (Q : VP) : EP := blockK 0 (bodyK PP Tryz.f170 Q)
@[irreducible] def K4 (K : EP) : EP := seqK (fun fr h => ev PP true none (cd 51) (an 51) (fr.mask 271) (B1 K) h) (B1 K)
@[irreducible] def K3 (K : EP) : EP := blockK 1 (K4 K)
@[irreducible] def K2 (K : EP) : EP := blockK 2 (K3 K)
@[irreducible] def L2 (y8 : OA) (y7 y6 : Nat) (a1 b2 : Int) (cmp3 : Value) (i8 j9 : Int) (K : EP) (h : Heap) : Prop := Lp PP true (cd 804) (mkFr 0 53 [(0, (.slice y8 y7 y6)), (1, .int .i64 a1), (2, .int .i64 b2), (3, cmp3), (8, .int .i64 i8), (9, .int .i64 j9)]) K h
theorem L1_of {y8 : OA} {y7 y6 : Nat} {a1 b2 : Int} {cmp3 : Value} {i8 : Int} {K : EP} {h : Heap} (H :
let t14 : Bool := decide (i8 < b2)
br t14 (
L2 y8 y7 y6 a1 b2 cmp3 i8 i8 (K2 K) h) (
K (.exit 0) (X0) h)) : L1 y8 y7 y6 a1 b2 cmp3 i8 K h := by unfold L1; exact Lp.of_txt (an 12) 271 (by kernel_rfl) H
theorem L1_X0 {Q : VP}  {h : Heap} (H :
Q (.tuple #[]) h) : (K1 Q) (.exit 0) (X0 ) h := y20 (by kernel_rfl) H
theorem L2_of {y8 : OA} {y7 y6 : Nat} {a1 b2 : Int} {cmp3 : Value} {i8 j9 : Int} {K : EP} {h : Heap} (H :
let t20 : Bool := decide (j9 > a1)
br t20 (
hwp PP (Instr.indexAt y11 (.slice y8 y7 y6) (.int .i64 j9)) (fun v h1 => ∃ (t25 : Addr), v = (.pointer (some t25)) ∧
∃ (t26f0 t26f1 t26f2 : ByteArray) (t26f3 : Bool) (t26f4 : ByteArray), rdCells h1 t25 0 [.string t26f0, .string t26f1, .string t26f2, .bool t26f3, .string t26f4] ∧
let t29 : Int := IntKind.i64.wrap (j9 - 1)
hwp PP (Instr.indexAt y11 (.slice y8 y7 y6) (.int .i64 t29)) (fun v_1 h2 => ∃ (t30 : Addr), v_1 = (.pointer (some t30)) ∧
∃ (t31f0 t31f1 t31f2 : ByteArray) (t31f3 : Bool) (t31f4 : ByteArray), rdCells h2 t30 0 [.string t31f0, .string t31f1, .string t31f2, .bool t31f3, .string t31f4] ∧
callV PP cmp3 [(.agg #[.string t26f0, .string t26f1, .string t26f2, .bool t26f3, .string t26f4]), (.agg #[.string t31f0, .string t31f1, .string t31f2, .bool t31f3, .string t31f4])] (fun v_2 h3 => ∃ (t32 : Int), v_2 = (.int .i64 t32) ∧
let t33 : Bool := decide (t32 < 0)
br t33 (
let t41 : Int := IntKind.i64.wrap (j9 - 1)
let t44 : Int := IntKind.i64.wrap (j9 - 1)
hwp PP (Instr.indexAt y11 (.slice y8 y7 y6) (.int .i64 t44)) (fun v_3 h4 => ∃ (t45 : Addr), v_3 = (.pointer (some t45)) ∧
∃ (t46f0 t46f1 t46f2 : ByteArray) (t46f3 : Bool) (t46f4 : ByteArray), rdCells h4 t45 0 [.string t46f0, .string t46f1, .string t46f2, .bool t46f3, .string t46f4] ∧
hwp PP (Instr.indexAt y11 (.slice y8 y7 y6) (.int .i64 j9)) (fun v_4 h5 => ∃ (t49 : Addr), v_4 = (.pointer (some t49)) ∧
∃ (t50f0 t50f1 t50f2 : ByteArray) (t50f3 : Bool) (t50f4 : ByteArray), rdCells h5 t49 0 [.string t50f0, .string t50f1, .string t50f2, .bool t50f3, .string t50f4] ∧
hwp PP (Instr.indexAt y11 (.slice y8 y7 y6) (.int .i64 j9)) (fun v_5 h6 => ∃ (t51 : Addr), v_5 = (.pointer (some t51)) ∧
wrCells t51 0 [.string t46f0, .string t46f1, .string t46f2, .bool t46f3, .string t46f4] (fun h7 =>
hwp PP (Instr.indexAt y11 (.slice y8 y7 y6) (.int .i64 t41)) (fun v_6 h8 => ∃ (t52 : Addr), v_6 = (.pointer (some t52)) ∧
wrCells t52 0 [.string t50f0, .string t50f1, .string t50f2, .bool t50f3, .string t50f4] (fun h9 =>
let t36 : Int := IntKind.i64.wrap (j9 - 1)
L2 y8 y7 y6 a1 b2 cmp3 i8 t36 K h9) h8) h7) h6) h5) h4) h3) (
K (.exit 2) (X2 y8 y7 y6 a1 b2 cmp3 i8) h3)) h2) h1) h) (
K (.exit 2) (X2 y8 y7 y6 a1 b2 cmp3 i8) h)) : L2 y8 y7 y6 a1 b2 cmp3 i8 j9 K h := by unfold L2; exact Lp.of_txt (an 804) 783 (by kernel_rfl) H
theorem L2_X2 {K : EP} {y8 : OA} {y7 y6 : Nat} {a1 b2 : Int} {cmp3 : Value} {i8 : Int} {h : Heap} (H :
let t16 : Int := IntKind.i64.wrap (i8 + 1)
L1 y8 y7 y6 a1 b2 cmp3 t16 K h) : (K2 K) (.exit 2) (X2 y8 y7 y6 a1 b2 cmp3 i8) h := y20 (by kernel_rfl) H
theorem door {y8 : OA} {y7 y6 : Nat} {a1 b2 : Int} {cmp3 : Value} {Q : VP} {h : Heap} (H :
let t11 : Int := IntKind.i64.wrap (a1 + 1)
L1 y8 y7 y6 a1 b2 cmp3 t11 (K1 Q) h) : SpecH PP z331 [(.slice y8 y7 y6), .int .i64 a1, .int .i64 b2, cmp3] h Q :=
  y12 (ann := ann) Tryz.func170 rfl rfl (by kernel_rfl) H
end z330
namespace z326
def ann : Ann := (.seq 271 (rg 2 271) (.seq 783 (rg 1 783) (.seq 1801 (rg 4 1801) (.seq 1801 (.seq 3849 (rg 4 3849) (.block (.loop 3849 (.seq 3849 (.seq 2101001 (rg 2 2101001) (.cond .leaf (.exit 1801))) (.seq 3849 (.block (rg 6 3849)) (rg 3 3849)))))) (.seq 4873 (rg 3 4873) (.block (.loop 4873 (.seq 4873 (.seq 8589939465 (rg 2 8589939465) (.cond .leaf (.exit 0))) (.seq 4873 (.block (.seq 4873 (rg 20 4873) (rg 6 4873))) (rg 3 4873))))))))))
noncomputable abbrev cd := cdF Tryz.f171
abbrev an := anF ann
@[irreducible] def X0 (y8 : OA) (y7 y6 : Nat) (cmp3 : Value) (y66 lo9 hi10 : Int) : Fr := (mkFr 0 60 [(0, (.slice y8 y7 y6)), (3, cmp3), (8, .int .i64 y66), (9, .int .i64 lo9), (10, .int .i64 hi10)])
@[irreducible] def X2  : Fr := (mkFr 0 60 [])
@[irreducible] def L1 (y8 : OA) (y7 y6 : Nat) (cmp3 : Value) (y66 lo9 hi10 i11 : Int) (K : EP) (h : Heap) : Prop := Lp PP true (cd 244) (mkFr 0 60 [(0, (.slice y8 y7 y6)), (3, cmp3), (8, .int .i64 y66), (9, .int .i64 lo9), (10, .int .i64 hi10), (11, .int .i64 i11)]) K h
@[irreducible] def K3 (Q : VP) : EP := seqK (fun fr h => ev PP true none (cd 31) (an 31) (fr.mask 1801) (bodyK PP Tryz.f171 Q) h) (bodyK PP Tryz.f171 Q)
@[irreducible] def K1 (Q : VP) : EP := blockK 0 (K3 Q)
@[irreducible] def K2 (Q : VP) : EP := blockK 2 (bodyK PP Tryz.f171 Q)
@[irreducible] def L2 (y8 : OA) (y7 y6 : Nat) (cmp3 : Value) (y66 lo9 i12 : Int) (K : EP) (h : Heap) : Prop := Lp PP true (cd 252) (mkFr 0 60 [(0, (.slice y8 y7 y6)), (3, cmp3), (8, .int .i64 y66), (9, .int .i64 lo9), (12, .int .i64 i12)]) K h
theorem L1_of {y8 : OA} {y7 y6 : Nat} {cmp3 : Value} {y66 lo9 hi10 i11 : Int} {K : EP} {h : Heap} (H :
let t21 : Bool := decide (i11 ≥ 0)
br t21 (
SpecH PP z369 [(.slice y8 y7 y6), .int .i64 i11, .int .i64 hi10, .int .i64 y66, cmp3] h (fun v h1 => v = (.tuple #[]) ∧
let t23 : Int := IntKind.i64.wrap (i11 - 1)
L1 y8 y7 y6 cmp3 y66 lo9 hi10 t23 K h1)) (
K (.exit 0) (X0 y8 y7 y6 cmp3 y66 lo9 hi10) h)) : L1 y8 y7 y6 cmp3 y66 lo9 hi10 i11 K h := by unfold L1; exact Lp.of_txt (an 244) 3849 (by kernel_rfl) H
theorem L1_X0 {Q : VP} {y8 : OA} {y7 y6 : Nat} {cmp3 : Value} {y66 lo9 hi10 : Int} {h : Heap} (H :
let t31 : Int := IntKind.i64.wrap (hi10 - 1)
L2 y8 y7 y6 cmp3 y66 lo9 t31 (K2 Q) h) : (K1 Q) (.exit 0) (X0 y8 y7 y6 cmp3 y66 lo9 hi10) h := y20 (by kernel_rfl) H
theorem L2_of {y8 : OA} {y7 y6 : Nat} {cmp3 : Value} {y66 lo9 i12 : Int} {K : EP} {h : Heap} (H :
let t33 : Bool := decide (i12 ≥ 0)
br t33 (
let t41 : Int := IntKind.i64.wrap (y66 + i12)
let t45 : Int := IntKind.i64.wrap (y66 + i12)
hwp PP (Instr.indexAt y11 (.slice y8 y7 y6) (.int .i64 t45)) (fun v h1 => ∃ (t46 : Addr), v = (.pointer (some t46)) ∧
∃ (t47f0 t47f1 t47f2 : ByteArray) (t47f3 : Bool) (t47f4 : ByteArray), rdCells h1 t46 0 [.string t47f0, .string t47f1, .string t47f2, .bool t47f3, .string t47f4] ∧
hwp PP (Instr.indexAt y11 (.slice y8 y7 y6) (.int .i64 y66)) (fun v_1 h2 => ∃ (t50 : Addr), v_1 = (.pointer (some t50)) ∧
∃ (t51f0 t51f1 t51f2 : ByteArray) (t51f3 : Bool) (t51f4 : ByteArray), rdCells h2 t50 0 [.string t51f0, .string t51f1, .string t51f2, .bool t51f3, .string t51f4] ∧
hwp PP (Instr.indexAt y11 (.slice y8 y7 y6) (.int .i64 y66)) (fun v_2 h3 => ∃ (t52 : Addr), v_2 = (.pointer (some t52)) ∧
wrCells t52 0 [.string t47f0, .string t47f1, .string t47f2, .bool t47f3, .string t47f4] (fun h4 =>
hwp PP (Instr.indexAt y11 (.slice y8 y7 y6) (.int .i64 t41)) (fun v_3 h5 => ∃ (t53 : Addr), v_3 = (.pointer (some t53)) ∧
wrCells t53 0 [.string t51f0, .string t51f1, .string t51f2, .bool t51f3, .string t51f4] (fun h6 =>
SpecH PP z369 [(.slice y8 y7 y6), .int .i64 lo9, .int .i64 i12, .int .i64 y66, cmp3] h6 (fun v_4 h7 => v_4 = (.tuple #[]) ∧
let t35 : Int := IntKind.i64.wrap (i12 - 1)
L2 y8 y7 y6 cmp3 y66 lo9 t35 K h7)) h5) h4) h3) h2) h1) h) (
K (.exit 2) (X2) h)) : L2 y8 y7 y6 cmp3 y66 lo9 i12 K h := by unfold L2; exact Lp.of_txt (an 252) 4873 (by kernel_rfl) H
theorem L2_X2 {Q : VP}  {h : Heap} (H :
Q (.tuple #[]) h) : (K2 Q) (.exit 2) (X2 ) h := y20 (by kernel_rfl) H
theorem door {y8 : OA} {y7 y6 : Nat} {a1 b2 : Int} {cmp3 : Value} {Q : VP} {h : Heap} (H :
let t16 : Int := IntKind.i64.wrap (b2 - a1)
let t18 : Int := IntKind.i64.wrap (t16 - 1)
let t19 : Int := IntKind.i64.wrap (Int.tdiv t18 2)
L1 y8 y7 y6 cmp3 a1 0 t16 t19 (K1 Q) h) : SpecH PP z327 [(.slice y8 y7 y6), .int .i64 a1, .int .i64 b2, cmp3] h Q :=
  y12 (ann := ann) Tryz.func171 rfl rfl (by kernel_rfl) H
end z326
namespace z318
def ann : Ann := (.seq 259 (rg 4 259) (.seq 131331 (rg 2 131331) (.cond (.seq 771 (rg 4 771) (.seq 1795 (rg 3 1795) (.seq 3843 (rg 7 3843) (.block (.loop 3843 (.seq 3843 (.seq 34359742211 (rg 8 34359742211) (.cond .leaf (.exit 0))) (.seq 3843 (.block (.seq 7939 (rg 6 7939) (.seq 7939 (.seq 35184372096771 (rg 3 35184372096771) (.cond (rg 4 7939) .leaf)) (.join (rg 20 3843))))) (rg 3 3843)))))))) .leaf)))
noncomputable abbrev cd := cdF Tryz.f172
abbrev an := anF ann
@[irreducible] def X0  : Fr := (mkFr 0 67 [])
@[irreducible] def L1 (y8 : OA) (y7 y6 : Nat) (a1 y85 : Int) (y80 : Addr) (y79 idx11 : Int) (K : EP) (h : Heap) : Prop := Lp PP true (cd 476) (mkFr 0 67 [(0, (.slice y8 y7 y6)), (1, .int .i64 a1), (8, .int .i64 y85), (9, (.pointer (some y80))), (10, .int .u64 y79), (11, .int .i64 idx11)]) K h
@[irreducible] def B1 (K : EP) : EP := seqK (fun fr h => Lp PP true (cd 476) (fr.mask 3843) K h) K
@[irreducible] def K3 (K : EP) : EP := seqK (fun fr h => ev PP true none (cd 1907) (an 1907) (fr.mask 3843) (B1 K) h) (B1 K)
@[irreducible] def K2 (K : EP) : EP := blockK 1 (K3 K)
@[irreducible] def J1 (y8 : OA) (y7 y6 : Nat) (a1 y85 : Int) (y80 : Addr) (y79 idx11 other12 : Int) (K : EP) (h : Heap) : Prop := Jn PP true (cd 15251) (mkFr 0 67 [(0, (.slice y8 y7 y6)), (1, .int .i64 a1), (8, .int .i64 y85), (9, (.pointer (some y80))), (10, .int .u64 y79), (11, .int .i64 idx11), (12, .int .i64 other12)]) (K2 K) h
@[irreducible] def K1 (Q : VP) : EP := blockK 0 (bodyK PP Tryz.f172 Q)
theorem L1_of {y8 : OA} {y7 y6 : Nat} {a1 y85 : Int} {y80 : Addr} {y79 idx11 : Int} {K : EP} {h : Heap} (H :
let t31 : Int := IntKind.i64.wrap (Int.tdiv y85 4)
let t32 : Int := IntKind.i64.wrap (t31 * 2)
let t33 : Int := IntKind.i64.wrap (a1 + t32)
let t34 : Int := IntKind.i64.wrap (t33 + 1)
let t35 : Bool := decide (idx11 ≤ t34)
br t35 (
SpecH PP z371 [(.pointer (some y80))] h (fun v h1 => ∃ (t38 : Int), v = (.int .u64 t38) ∧
let t40 : Int := IntKind.u64.wrap (y79 - 1)
let t41 : Int := bAnd .u64 t38 t40
let t42 : Int := IntKind.i64.wrap t41
let t45 : Bool := decide (t42 ≥ y85)
br t45 (
let t48 : Int := IntKind.i64.wrap (t42 - y85)
J1 y8 y7 y6 a1 y85 y80 y79 idx11 t48 K h1) (
J1 y8 y7 y6 a1 y85 y80 y79 idx11 t42 K h1))) (
K (.exit 0) (X0) h)) : L1 y8 y7 y6 a1 y85 y80 y79 idx11 K h := by unfold L1; exact Lp.of_txt (an 476) 3843 (by kernel_rfl) H
theorem L1_X0 {Q : VP}  {h : Heap} (H :
Q (.tuple #[]) h) : (K1 Q) (.exit 0) (X0 ) h := y20 (by kernel_rfl) H
theorem J1_of {y8 : OA} {y7 y6 : Nat} {a1 y85 : Int} {y80 : Addr} {y79 idx11 other12 : Int} {K : EP} {h : Heap} (H :
let t54 : Int := IntKind.i64.wrap (a1 + other12)
let t58 : Int := IntKind.i64.wrap (a1 + other12)
hwp PP (Instr.indexAt y11 (.slice y8 y7 y6) (.int .i64 t58)) (fun v h1 => ∃ (t59 : Addr), v = (.pointer (some t59)) ∧
∃ (t60f0 t60f1 t60f2 : ByteArray) (t60f3 : Bool) (t60f4 : ByteArray), rdCells h1 t59 0 [.string t60f0, .string t60f1, .string t60f2, .bool t60f3, .string t60f4] ∧
hwp PP (Instr.indexAt y11 (.slice y8 y7 y6) (.int .i64 idx11)) (fun v_1 h2 => ∃ (t63 : Addr), v_1 = (.pointer (some t63)) ∧
∃ (t64f0 t64f1 t64f2 : ByteArray) (t64f3 : Bool) (t64f4 : ByteArray), rdCells h2 t63 0 [.string t64f0, .string t64f1, .string t64f2, .bool t64f3, .string t64f4] ∧
hwp PP (Instr.indexAt y11 (.slice y8 y7 y6) (.int .i64 idx11)) (fun v_2 h3 => ∃ (t65 : Addr), v_2 = (.pointer (some t65)) ∧
wrCells t65 0 [.string t60f0, .string t60f1, .string t60f2, .bool t60f3, .string t60f4] (fun h4 =>
hwp PP (Instr.indexAt y11 (.slice y8 y7 y6) (.int .i64 t54)) (fun v_3 h5 => ∃ (t66 : Addr), v_3 = (.pointer (some t66)) ∧
wrCells t66 0 [.string t64f0, .string t64f1, .string t64f2, .bool t64f3, .string t64f4] (fun h6 =>
let t37 : Int := IntKind.i64.wrap (idx11 + 1)
L1 y8 y7 y6 a1 y85 y80 y79 t37 K h6) h5) h4) h3) h2) h1) h) : J1 y8 y7 y6 a1 y85 y80 y79 idx11 other12 K h := by unfold J1; exact Jn.of_txt (an 15251) (by kernel_rfl) H
theorem door {y8 : OA} {y7 y6 : Nat} {a1 b2 : Int} {cmp3 : Value} {Q : VP} {h : Heap} (H :
let t15 : Int := IntKind.i64.wrap (b2 - a1)
let t17 : Bool := decide (t15 ≥ 8)
br t17 (
let t19 : Int := IntKind.u64.wrap t15
let y80 : Addr := ⟨Array.size h, 0, none⟩
let h1 : Heap := Array.push h (.cells #[.int .u64 0] y76 (0, 0))
wr y80 (.int .u64 t19) (fun h2 =>
SpecH PP z341 [.int .i64 t15] h2 (fun v h3 => ∃ (t21 : Int), v = (.int .u64 t21) ∧
let t24 : Int := IntKind.i64.wrap (Int.tdiv t15 4)
let t25 : Int := IntKind.i64.wrap (t24 * 2)
let t26 : Int := IntKind.i64.wrap (a1 + t25)
let t27 : Int := IntKind.i64.wrap (t26 - 1)
L1 y8 y7 y6 a1 t15 y80 t21 t27 (K1 Q) h3)) h1) (
Q (.tuple #[]) h)) : SpecH PP z319 [(.slice y8 y7 y6), .int .i64 a1, .int .i64 b2, cmp3] h Q :=
  y12 (ann := ann) Tryz.func172 rfl rfl (by kernel_rfl) H
end z318
namespace z322
def ann : Ann := (.seq 15 (rg 2 15) (.seq 1035 (rg 4 1035) (.seq 3083 (rg 1 3083) (.seq 7179 (rg 6 7179) (.seq 15371 (rg 6 15371) (.seq 31753 (rg 6 31753) (.seq 10240 (.seq 17179900937 (rg 2 17179900937) (.cond (.seq 30729 (.seq 68719507465 (rg 2 68719507465) (.cond (.seq 30729 (rg 5 30729) (.seq 30729 (rg 5 30729) (rg 5 30729))) .leaf)) (.join (rg 7 10240))) .leaf)) (.join (.seq 36028797018972160 (rg 1 36028797018972160) (.block (.seq 180143985094828032 (rg 2 180143985094828032) (.cond (.seq 768 (rg 3 768) (.exit 768)) (.seq 1152921504606855168 (rg 2 1152921504606855168) (.cond (.seq 768 (rg 3 768) (.exit 768)) (.seq 768 (rg 3 768) (.exit 768))))))))))))))))
noncomputable abbrev cd := cdF Tryz.f173
abbrev an := anF ann
@[irreducible] def K1 (Q : VP) : EP := seqK (fun fr h => Jn PP true (cd 255) (fr.mask 10240) (bodyK PP Tryz.f173 Q) h) (bodyK PP Tryz.f173 Q)
@[irreducible] def J1 (y8 : OA) (y7 y6 : Nat) (cmp3 : Value) (y67 : Addr) (i12 j13 k14 : Int) (Q : VP) (h : Heap) : Prop := Jn PP true (cd 2037) (mkFr 0 63 [(0, (.slice y8 y7 y6)), (3, cmp3), (11, (.pointer (some y67))), (12, .int .i64 i12), (13, .int .i64 j13), (14, .int .i64 k14)]) (K1 Q) h
@[irreducible] def J2 (y67 : Addr) (j13 : Int) (Q : VP) (h : Heap) : Prop := Jn PP true (cd 255) (mkFr 0 63 [(11, (.pointer (some y67))), (13, .int .i64 j13)]) (bodyK PP Tryz.f173 Q) h
theorem J1_of {y8 : OA} {y7 y6 : Nat} {cmp3 : Value} {y67 : Addr} {i12 j13 k14 : Int} {Q : VP} {h : Heap} (H :
SpecH PP z339 [(.slice y8 y7 y6), .int .i64 i12, .int .i64 j13, .int .i64 k14, (.pointer (some y67)), cmp3] h (fun v h1 => ∃ (t54 : Int), v = (.int .i64 t54) ∧
J2 y67 t54 Q h1)) : J1 y8 y7 y6 cmp3 y67 i12 j13 k14 Q h := by unfold J1; exact Jn.of_txt (an 2037) (by kernel_rfl) H
theorem J2_of {y67 : Addr} {j13 : Int} {Q : VP} {h : Heap} (H :
∃ (t55 : Int), cellH h y67 = some (.int .i64 t55) ∧
let t58 : Bool := (t55 == 0)
br t58 (
Q (.tuple #[.int .i64 j13, .int .i64 1]) h) (
let t61 : Bool := (t55 == 12)
br t61 (
Q (.tuple #[.int .i64 j13, .int .i64 2]) h) (
Q (.tuple #[.int .i64 j13, .int .i64 0]) h))) : J2 y67 j13 Q h := by unfold J2; exact Jn.of_txt (an 255) (by kernel_rfl) H
theorem door {y8 : OA} {y7 y6 : Nat} {a1 b2 : Int} {cmp3 : Value} {Q : VP} {h : Heap} (H :
let t17 : Int := IntKind.i64.wrap (b2 - a1)
let y67 : Addr := ⟨Array.size h, 0, none⟩
let h1 : Heap := Array.push h (.cells #[.int .i64 0] y63 (0, 0))
let t20 : Int := IntKind.i64.wrap (Int.tdiv t17 4)
let t21 : Int := IntKind.i64.wrap (t20 * 1)
let t22 : Int := IntKind.i64.wrap (a1 + t21)
let t25 : Int := IntKind.i64.wrap (Int.tdiv t17 4)
let t26 : Int := IntKind.i64.wrap (t25 * 2)
let t27 : Int := IntKind.i64.wrap (a1 + t26)
let t30 : Int := IntKind.i64.wrap (Int.tdiv t17 4)
let t31 : Int := IntKind.i64.wrap (t30 * 3)
let t32 : Int := IntKind.i64.wrap (a1 + t31)
let t34 : Bool := decide (t17 ≥ 8)
br t34 (
let t36 : Bool := decide (t17 ≥ 50)
br t36 (
SpecH PP z335 [(.slice y8 y7 y6), .int .i64 t22, (.pointer (some y67)), cmp3] h1 (fun v h2 => ∃ (t40 : Int), v = (.int .i64 t40) ∧
SpecH PP z335 [(.slice y8 y7 y6), .int .i64 t27, (.pointer (some y67)), cmp3] h2 (fun v_1 h3 => ∃ (t44 : Int), v_1 = (.int .i64 t44) ∧
SpecH PP z335 [(.slice y8 y7 y6), .int .i64 t32, (.pointer (some y67)), cmp3] h3 (fun v_2 h4 => ∃ (t48 : Int), v_2 = (.int .i64 t48) ∧
J1 y8 y7 y6 cmp3 y67 t40 t44 t48 Q h4)))) (
J1 y8 y7 y6 cmp3 y67 t22 t27 t32 Q h1)) (
J2 y67 t27 Q h1)) : SpecH PP z323 [(.slice y8 y7 y6), .int .i64 a1, .int .i64 b2, cmp3] h Q :=
  y12 (ann := ann) Tryz.func173 rfl rfl (by kernel_rfl) H
end z322
namespace z364
def ann : Ann := (.seq 261 (rg 2 261) (.seq 769 (rg 3 769) (.block (.loop 769 (.seq 769 (.seq 33537 (rg 3 33537) (.cond .leaf (.exit 0))) (.block (.seq 769 (rg 16 769) (.seq 769 (rg 3 769) (rg 3 769)))))))))
noncomputable abbrev cd := cdF Tryz.f174
abbrev an := anF ann
@[irreducible] def X0  : Fr := (mkFr 0 34 [])
@[irreducible] def L1 (y8 : OA) (y7 y6 : Nat) (i8 j9 : Int) (K : EP) (h : Heap) : Prop := Lp PP true (cd 28) (mkFr 0 34 [(0, (.slice y8 y7 y6)), (8, .int .i64 i8), (9, .int .i64 j9)]) K h
@[irreducible] def K1 (Q : VP) : EP := blockK 0 (bodyK PP Tryz.f174 Q)
theorem L1_of {y8 : OA} {y7 y6 : Nat} {i8 j9 : Int} {K : EP} {h : Heap} (H :
let t15 : Bool := decide (i8 < j9)
br t15 (
hwp PP (Instr.indexAt y11 (.slice y8 y7 y6) (.int .i64 j9)) (fun v h1 => ∃ (t22 : Addr), v = (.pointer (some t22)) ∧
∃ (t23f0 t23f1 t23f2 : ByteArray) (t23f3 : Bool) (t23f4 : ByteArray), rdCells h1 t22 0 [.string t23f0, .string t23f1, .string t23f2, .bool t23f3, .string t23f4] ∧
hwp PP (Instr.indexAt y11 (.slice y8 y7 y6) (.int .i64 i8)) (fun v_1 h2 => ∃ (t26 : Addr), v_1 = (.pointer (some t26)) ∧
∃ (t27f0 t27f1 t27f2 : ByteArray) (t27f3 : Bool) (t27f4 : ByteArray), rdCells h2 t26 0 [.string t27f0, .string t27f1, .string t27f2, .bool t27f3, .string t27f4] ∧
hwp PP (Instr.indexAt y11 (.slice y8 y7 y6) (.int .i64 i8)) (fun v_2 h3 => ∃ (t28 : Addr), v_2 = (.pointer (some t28)) ∧
wrCells t28 0 [.string t23f0, .string t23f1, .string t23f2, .bool t23f3, .string t23f4] (fun h4 =>
hwp PP (Instr.indexAt y11 (.slice y8 y7 y6) (.int .i64 j9)) (fun v_3 h5 => ∃ (t29 : Addr), v_3 = (.pointer (some t29)) ∧
wrCells t29 0 [.string t27f0, .string t27f1, .string t27f2, .bool t27f3, .string t27f4] (fun h6 =>
let t31 : Int := IntKind.i64.wrap (i8 + 1)
let t33 : Int := IntKind.i64.wrap (j9 - 1)
L1 y8 y7 y6 t31 t33 K h6) h5) h4) h3) h2) h1) h) (
K (.exit 0) (X0) h)) : L1 y8 y7 y6 i8 j9 K h := by unfold L1; exact Lp.of_txt (an 28) 769 (by kernel_rfl) H
theorem L1_X0 {Q : VP}  {h : Heap} (H :
Q (.tuple #[]) h) : (K1 Q) (.exit 0) (X0 ) h := y20 (by kernel_rfl) H
theorem door {y8 : OA} {y7 y6 : Nat} {a1 b2 : Int} {cmp3 : Value} {Q : VP} {h : Heap} (H :
let t12 : Int := IntKind.i64.wrap (b2 - 1)
L1 y8 y7 y6 a1 t12 (K1 Q) h) : SpecH PP z365 [(.slice y8 y7 y6), .int .i64 a1, .int .i64 b2, cmp3] h Q :=
  y12 (ann := ann) Tryz.func174 rfl rfl (by kernel_rfl) H
end z364
namespace z348
def ann : Ann := (.seq 15 (rg 1 15) (.seq 527 (rg 3 527) (.seq 0 (.seq 1551 (rg 1 1551) (.block (.loop 1551 (.seq 1551 (.seq 67087 (rg 2 67087) (.cond .leaf (.exit 0))) (.seq 1551 (.block (.seq 1551 (.block (.loop 1551 (.seq 1551 (.seq 68719478287 (rg 18 68719478287) (.cond .leaf (.exit 1551))) (.block (rg 3 1551))))) (.seq 1551 (.seq 2199023257103 (rg 3 2199023257103) (.cond (.seq 256 (rg 1 256) (.exit 256)) .leaf)) (.seq 1551 (.seq 35184372090383 (rg 4 35184372090383) (.cond (.seq 256 (rg 1 256) (.exit 256)) .leaf)) (.seq 1551 (rg 18 1551) (.seq 1551 (.seq 36893488147419104783 (rg 4 36893488147419104783) (.cond (.seq 3599 (rg 3 3599) (.block (.loop 3599 (.seq 3599 (.seq 590295810358705655311 (rg 2 590295810358705655311) (.cond .leaf (.exit 1551))) (.seq 3599 (.block (.seq 3599 (.seq 19342813113834066795302415 (rg 13 19342813113834066795302415) (.cond (.exit 1551) .leaf)) (rg 18 3599))) (rg 3 3599)))))) .leaf)) (.join (.seq 20282409603651670423947251287567 (rg 4 20282409603651670423947251287567) (.cond (.seq 5647 (rg 3 5647) (.block (.loop 5647 (.seq 5647 (.seq 649037107316853453566312041158159 (rg 3 649037107316853453566312041158159) (.cond .leaf (.exit 1551))) (.seq 5647 (.block (.seq 5647 (.seq 21267647932558653966460912964485518863 (rg 13 21267647932558653966460912964485518863) (.cond (.exit 1551) .leaf)) (rg 18 5647))) (rg 3 5647)))))) .leaf))))))))) (.join (rg 3 1551))))))) (.seq 256 (rg 1 256) (.exit 256)))))
noncomputable abbrev cd := cdF Tryz.f175
abbrev an := anF ann
@[irreducible] def X0  : Fr := (mkFr 0 141 [])
@[irreducible] def X2 (y8 : OA) (y7 y6 : Nat) (a1 b2 : Int) (cmp3 : Value) (i9 j10 : Int) : Fr := (mkFr 0 141 [(0, (.slice y8 y7 y6)), (1, .int .i64 a1), (2, .int .i64 b2), (3, cmp3), (9, .int .i64 i9), (10, .int .i64 j10)])
@[irreducible] def Xret (t8 : Bool) : Fr := (mkFr 0 141 [(8, .bool t8)])
@[irreducible] def X4 (y8 : OA) (y7 y6 : Nat) (a1 b2 : Int) (cmp3 : Value) (i9 j10 : Int) : Fr := (mkFr 0 141 [(0, (.slice y8 y7 y6)), (1, .int .i64 a1), (2, .int .i64 b2), (3, cmp3), (9, .int .i64 i9), (10, .int .i64 j10)])
@[irreducible] def X6 (y8 : OA) (y7 y6 : Nat) (a1 b2 : Int) (cmp3 : Value) (i9 j10 : Int) : Fr := (mkFr 0 141 [(0, (.slice y8 y7 y6)), (1, .int .i64 a1), (2, .int .i64 b2), (3, cmp3), (9, .int .i64 i9), (10, .int .i64 j10)])
@[irreducible] def L1 (y8 : OA) (y7 y6 : Nat) (a1 b2 : Int) (cmp3 : Value) (i9 j10 : Int) (K : EP) (h : Heap) : Prop := Lp PP true (cd 116) (mkFr 0 141 [(0, (.slice y8 y7 y6)), (1, .int .i64 a1), (2, .int .i64 b2), (3, cmp3), (9, .int .i64 i9), (10, .int .i64 j10)]) K h
@[irreducible] def B1 (K : EP) : EP := seqK (fun fr h => Lp PP true (cd 116) (fr.mask 1551) K h) K
@[irreducible] def K3 (Q : VP) : EP := seqK (fun fr h => ev PP true none (cd 15) (an 15) (fr.mask 0) (bodyK PP Tryz.f175 Q) h) (bodyK PP Tryz.f175 Q)
@[irreducible] def K1 (Q : VP) : EP := blockK 0 (K3 Q)
@[irreducible] def K9 (K : EP) : EP := seqK (fun fr h => Jn PP true (cd 467) (fr.mask 1551) (B1 K) h) (B1 K)
@[irreducible] def K6 (K : EP) : EP := blockK 1 (K9 K)
@[irreducible] def K4 (K : EP) : EP := seqK (fun fr h => ev PP true none (cd 1865) (an 1865) (fr.mask 1551) (K6 K) h) (K6 K)
@[irreducible] def K2 (K : EP) : EP := blockK 2 (K4 K)
@[irreducible] def L2 (y8 : OA) (y7 y6 : Nat) (a1 b2 : Int) (cmp3 : Value) (i9 j10 : Int) (K : EP) (h : Heap) : Prop := Lp PP true (cd 7456) (mkFr 0 141 [(0, (.slice y8 y7 y6)), (1, .int .i64 a1), (2, .int .i64 b2), (3, cmp3), (9, .int .i64 i9), (10, .int .i64 j10)]) K h
@[irreducible] def J1 (y8 : OA) (y7 y6 : Nat) (a1 b2 : Int) (cmp3 : Value) (i9 j10 : Int) (K : EP) (h : Heap) : Prop := Jn PP true (cd 29855) (mkFr 0 141 [(0, (.slice y8 y7 y6)), (1, .int .i64 a1), (2, .int .i64 b2), (3, cmp3), (9, .int .i64 i9), (10, .int .i64 j10)]) (K6 K) h
@[irreducible] def K8 (K : EP) : EP := seqK (fun fr h => Jn PP true (cd 29855) (fr.mask 1551) (K6 K) h) (K6 K)
@[irreducible] def K5 (K : EP) : EP := blockK 4 (K8 K)
@[irreducible] def K7 (K : EP) : EP := blockK 6 (K6 K)
@[irreducible] def L3 (y8 : OA) (y7 y6 : Nat) (a1 b2 : Int) (cmp3 : Value) (i9 j10 j11 : Int) (K : EP) (h : Heap) : Prop := Lp PP true (cd 955348) (mkFr 0 141 [(0, (.slice y8 y7 y6)), (1, .int .i64 a1), (2, .int .i64 b2), (3, cmp3), (9, .int .i64 i9), (10, .int .i64 j10), (11, .int .i64 j11)]) K h
@[irreducible] def L4 (y8 : OA) (y7 y6 : Nat) (a1 b2 : Int) (cmp3 : Value) (i9 j10 j12 : Int) (K : EP) (h : Heap) : Prop := Lp PP true (cd 955380) (mkFr 0 141 [(0, (.slice y8 y7 y6)), (1, .int .i64 a1), (2, .int .i64 b2), (3, cmp3), (9, .int .i64 i9), (10, .int .i64 j10), (12, .int .i64 j12)]) K h
@[irreducible] def J2 (y8 : OA) (y7 y6 : Nat) (a1 b2 : Int) (cmp3 : Value) (i9 j10 : Int) (K : EP) (h : Heap) : Prop := Jn PP true (cd 467) (mkFr 0 141 [(0, (.slice y8 y7 y6)), (1, .int .i64 a1), (2, .int .i64 b2), (3, cmp3), (9, .int .i64 i9), (10, .int .i64 j10)]) (B1 K) h
theorem L1_of {y8 : OA} {y7 y6 : Nat} {a1 b2 : Int} {cmp3 : Value} {i9 j10 : Int} {K : EP} {h : Heap} (H :
let t16 : Bool := decide (j10 < 5)
br t16 (
L2 y8 y7 y6 a1 b2 cmp3 i9 j10 (K2 K) h) (
K (.exit 0) (X0) h)) : L1 y8 y7 y6 a1 b2 cmp3 i9 j10 K h := by unfold L1; exact Lp.of_txt (an 116) 1551 (by kernel_rfl) H
theorem L1_X0 {Q : VP}  {h : Heap} (H :
Q (.bool false) h) : (K1 Q) (.exit 0) (X0 ) h := y20 (by kernel_rfl) H
theorem L2_of {y8 : OA} {y7 y6 : Nat} {a1 b2 : Int} {cmp3 : Value} {i9 j10 : Int} {K : EP} {h : Heap} (H :
let t21 : Bool := decide (i9 < b2)
br t21 (
hwp PP (Instr.indexAt y11 (.slice y8 y7 y6) (.int .i64 i9)) (fun v h1 => ∃ (t26 : Addr), v = (.pointer (some t26)) ∧
∃ (t27f0 t27f1 t27f2 : ByteArray) (t27f3 : Bool) (t27f4 : ByteArray), rdCells h1 t26 0 [.string t27f0, .string t27f1, .string t27f2, .bool t27f3, .string t27f4] ∧
let t30 : Int := IntKind.i64.wrap (i9 - 1)
hwp PP (Instr.indexAt y11 (.slice y8 y7 y6) (.int .i64 t30)) (fun v_1 h2 => ∃ (t31 : Addr), v_1 = (.pointer (some t31)) ∧
∃ (t32f0 t32f1 t32f2 : ByteArray) (t32f3 : Bool) (t32f4 : ByteArray), rdCells h2 t31 0 [.string t32f0, .string t32f1, .string t32f2, .bool t32f3, .string t32f4] ∧
callV PP cmp3 [(.agg #[.string t27f0, .string t27f1, .string t27f2, .bool t27f3, .string t27f4]), (.agg #[.string t32f0, .string t32f1, .string t32f2, .bool t32f3, .string t32f4])] (fun v_2 h3 => ∃ (t33 : Int), v_2 = (.int .i64 t33) ∧
let t34 : Bool := decide (t33 < 0)
let t35 : Bool := (!t34)
br t35 (
let t38 : Int := IntKind.i64.wrap (i9 + 1)
L2 y8 y7 y6 a1 b2 cmp3 t38 j10 K h3) (
K (.exit 2) (X2 y8 y7 y6 a1 b2 cmp3 i9 j10) h3)) h2) h1) h) (
K (.exit 2) (X2 y8 y7 y6 a1 b2 cmp3 i9 j10) h)) : L2 y8 y7 y6 a1 b2 cmp3 i9 j10 K h := by unfold L2; exact Lp.of_txt (an 7456) 1551 (by kernel_rfl) H
theorem L2_X2 {K : EP} {y8 : OA} {y7 y6 : Nat} {a1 b2 : Int} {cmp3 : Value} {i9 j10 : Int} {h : Heap} (H :
let t41 : Bool := (i9 == b2)
br t41 (
K .ret (Xret true) h) (
let t44 : Int := IntKind.i64.wrap (b2 - a1)
let t45 : Bool := decide (t44 < 50)
br t45 (
K .ret (Xret false) h) (
let t50 : Int := IntKind.i64.wrap (i9 - 1)
let t53 : Int := IntKind.i64.wrap (i9 - 1)
hwp PP (Instr.indexAt y11 (.slice y8 y7 y6) (.int .i64 t53)) (fun v h1 => ∃ (t54 : Addr), v = (.pointer (some t54)) ∧
∃ (t55f0 t55f1 t55f2 : ByteArray) (t55f3 : Bool) (t55f4 : ByteArray), rdCells h1 t54 0 [.string t55f0, .string t55f1, .string t55f2, .bool t55f3, .string t55f4] ∧
hwp PP (Instr.indexAt y11 (.slice y8 y7 y6) (.int .i64 i9)) (fun v_1 h2 => ∃ (t58 : Addr), v_1 = (.pointer (some t58)) ∧
∃ (t59f0 t59f1 t59f2 : ByteArray) (t59f3 : Bool) (t59f4 : ByteArray), rdCells h2 t58 0 [.string t59f0, .string t59f1, .string t59f2, .bool t59f3, .string t59f4] ∧
hwp PP (Instr.indexAt y11 (.slice y8 y7 y6) (.int .i64 i9)) (fun v_2 h3 => ∃ (t60 : Addr), v_2 = (.pointer (some t60)) ∧
wrCells t60 0 [.string t55f0, .string t55f1, .string t55f2, .bool t55f3, .string t55f4] (fun h4 =>
hwp PP (Instr.indexAt y11 (.slice y8 y7 y6) (.int .i64 t50)) (fun v_3 h5 => ∃ (t61 : Addr), v_3 = (.pointer (some t61)) ∧
wrCells t61 0 [.string t59f0, .string t59f1, .string t59f2, .bool t59f3, .string t59f4] (fun h6 =>
let t64 : Int := IntKind.i64.wrap (i9 - a1)
let t65 : Bool := decide (t64 ≥ 2)
br t65 (
let t67 : Int := IntKind.i64.wrap (i9 - 1)
L3 y8 y7 y6 a1 b2 cmp3 i9 j10 t67 (K5 K) h6) (
J1 y8 y7 y6 a1 b2 cmp3 i9 j10 K h6)) h5) h4) h3) h2) h1) h))) : (K2 K) (.exit 2) (X2 y8 y7 y6 a1 b2 cmp3 i9 j10) h := y20 (by kernel_rfl) H
theorem J1_of {y8 : OA} {y7 y6 : Nat} {a1 b2 : Int} {cmp3 : Value} {i9 j10 : Int} {K : EP} {h : Heap} (H :
let t103 : Int := IntKind.i64.wrap (b2 - i9)
let t104 : Bool := decide (t103 ≥ 2)
br t104 (
let t106 : Int := IntKind.i64.wrap (i9 + 1)
L4 y8 y7 y6 a1 b2 cmp3 i9 j10 t106 (K7 K) h) (
J2 y8 y7 y6 a1 b2 cmp3 i9 j10 K h)) : J1 y8 y7 y6 a1 b2 cmp3 i9 j10 K h := by unfold J1; exact Jn.of_txt (an 29855) (by kernel_rfl) H
theorem L1_Xret {Q : VP} {t8 : Bool} {h : Heap} (H :
Q (.bool t8) h) : (K1 Q) .ret (Xret t8) h := y20 (by kernel_rfl) H
theorem L3_of {y8 : OA} {y7 y6 : Nat} {a1 b2 : Int} {cmp3 : Value} {i9 j10 j11 : Int} {K : EP} {h : Heap} (H :
let t69 : Bool := decide (j11 ≥ 1)
br t69 (
hwp PP (Instr.indexAt y11 (.slice y8 y7 y6) (.int .i64 j11)) (fun v h1 => ∃ (t75 : Addr), v = (.pointer (some t75)) ∧
∃ (t76f0 t76f1 t76f2 : ByteArray) (t76f3 : Bool) (t76f4 : ByteArray), rdCells h1 t75 0 [.string t76f0, .string t76f1, .string t76f2, .bool t76f3, .string t76f4] ∧
let t79 : Int := IntKind.i64.wrap (j11 - 1)
hwp PP (Instr.indexAt y11 (.slice y8 y7 y6) (.int .i64 t79)) (fun v_1 h2 => ∃ (t80 : Addr), v_1 = (.pointer (some t80)) ∧
∃ (t81f0 t81f1 t81f2 : ByteArray) (t81f3 : Bool) (t81f4 : ByteArray), rdCells h2 t80 0 [.string t81f0, .string t81f1, .string t81f2, .bool t81f3, .string t81f4] ∧
callV PP cmp3 [(.agg #[.string t76f0, .string t76f1, .string t76f2, .bool t76f3, .string t76f4]), (.agg #[.string t81f0, .string t81f1, .string t81f2, .bool t81f3, .string t81f4])] (fun v_2 h3 => ∃ (t82 : Int), v_2 = (.int .i64 t82) ∧
let t83 : Bool := decide (t82 < 0)
let t84 : Bool := (!t83)
br t84 (
K (.exit 4) (X4 y8 y7 y6 a1 b2 cmp3 i9 j10) h3) (
let t89 : Int := IntKind.i64.wrap (j11 - 1)
let t92 : Int := IntKind.i64.wrap (j11 - 1)
hwp PP (Instr.indexAt y11 (.slice y8 y7 y6) (.int .i64 t92)) (fun v_3 h4 => ∃ (t93 : Addr), v_3 = (.pointer (some t93)) ∧
∃ (t94f0 t94f1 t94f2 : ByteArray) (t94f3 : Bool) (t94f4 : ByteArray), rdCells h4 t93 0 [.string t94f0, .string t94f1, .string t94f2, .bool t94f3, .string t94f4] ∧
hwp PP (Instr.indexAt y11 (.slice y8 y7 y6) (.int .i64 j11)) (fun v_4 h5 => ∃ (t97 : Addr), v_4 = (.pointer (some t97)) ∧
∃ (t98f0 t98f1 t98f2 : ByteArray) (t98f3 : Bool) (t98f4 : ByteArray), rdCells h5 t97 0 [.string t98f0, .string t98f1, .string t98f2, .bool t98f3, .string t98f4] ∧
hwp PP (Instr.indexAt y11 (.slice y8 y7 y6) (.int .i64 j11)) (fun v_5 h6 => ∃ (t99 : Addr), v_5 = (.pointer (some t99)) ∧
wrCells t99 0 [.string t94f0, .string t94f1, .string t94f2, .bool t94f3, .string t94f4] (fun h7 =>
hwp PP (Instr.indexAt y11 (.slice y8 y7 y6) (.int .i64 t89)) (fun v_6 h8 => ∃ (t100 : Addr), v_6 = (.pointer (some t100)) ∧
wrCells t100 0 [.string t98f0, .string t98f1, .string t98f2, .bool t98f3, .string t98f4] (fun h9 =>
let t71 : Int := IntKind.i64.wrap (j11 - 1)
L3 y8 y7 y6 a1 b2 cmp3 i9 j10 t71 K h9) h8) h7) h6) h5) h4) h3)) h2) h1) h) (
K (.exit 4) (X4 y8 y7 y6 a1 b2 cmp3 i9 j10) h)) : L3 y8 y7 y6 a1 b2 cmp3 i9 j10 j11 K h := by unfold L3; exact Lp.of_txt (an 955348) 3599 (by kernel_rfl) H
theorem L3_X4 {K : EP} {y8 : OA} {y7 y6 : Nat} {a1 b2 : Int} {cmp3 : Value} {i9 j10 : Int} {h : Heap} (H :
J1 y8 y7 y6 a1 b2 cmp3 i9 j10 K h) : (K5 K) (.exit 4) (X4 y8 y7 y6 a1 b2 cmp3 i9 j10) h := y20 (by kernel_rfl) H
theorem L4_of {y8 : OA} {y7 y6 : Nat} {a1 b2 : Int} {cmp3 : Value} {i9 j10 j12 : Int} {K : EP} {h : Heap} (H :
let t109 : Bool := decide (j12 < b2)
br t109 (
hwp PP (Instr.indexAt y11 (.slice y8 y7 y6) (.int .i64 j12)) (fun v h1 => ∃ (t115 : Addr), v = (.pointer (some t115)) ∧
∃ (t116f0 t116f1 t116f2 : ByteArray) (t116f3 : Bool) (t116f4 : ByteArray), rdCells h1 t115 0 [.string t116f0, .string t116f1, .string t116f2, .bool t116f3, .string t116f4] ∧
let t119 : Int := IntKind.i64.wrap (j12 - 1)
hwp PP (Instr.indexAt y11 (.slice y8 y7 y6) (.int .i64 t119)) (fun v_1 h2 => ∃ (t120 : Addr), v_1 = (.pointer (some t120)) ∧
∃ (t121f0 t121f1 t121f2 : ByteArray) (t121f3 : Bool) (t121f4 : ByteArray), rdCells h2 t120 0 [.string t121f0, .string t121f1, .string t121f2, .bool t121f3, .string t121f4] ∧
callV PP cmp3 [(.agg #[.string t116f0, .string t116f1, .string t116f2, .bool t116f3, .string t116f4]), (.agg #[.string t121f0, .string t121f1, .string t121f2, .bool t121f3, .string t121f4])] (fun v_2 h3 => ∃ (t122 : Int), v_2 = (.int .i64 t122) ∧
let t123 : Bool := decide (t122 < 0)
let t124 : Bool := (!t123)
br t124 (
K (.exit 6) (X6 y8 y7 y6 a1 b2 cmp3 i9 j10) h3) (
let t129 : Int := IntKind.i64.wrap (j12 - 1)
let t132 : Int := IntKind.i64.wrap (j12 - 1)
hwp PP (Instr.indexAt y11 (.slice y8 y7 y6) (.int .i64 t132)) (fun v_3 h4 => ∃ (t133 : Addr), v_3 = (.pointer (some t133)) ∧
∃ (t134f0 t134f1 t134f2 : ByteArray) (t134f3 : Bool) (t134f4 : ByteArray), rdCells h4 t133 0 [.string t134f0, .string t134f1, .string t134f2, .bool t134f3, .string t134f4] ∧
hwp PP (Instr.indexAt y11 (.slice y8 y7 y6) (.int .i64 j12)) (fun v_4 h5 => ∃ (t137 : Addr), v_4 = (.pointer (some t137)) ∧
∃ (t138f0 t138f1 t138f2 : ByteArray) (t138f3 : Bool) (t138f4 : ByteArray), rdCells h5 t137 0 [.string t138f0, .string t138f1, .string t138f2, .bool t138f3, .string t138f4] ∧
hwp PP (Instr.indexAt y11 (.slice y8 y7 y6) (.int .i64 j12)) (fun v_5 h6 => ∃ (t139 : Addr), v_5 = (.pointer (some t139)) ∧
wrCells t139 0 [.string t134f0, .string t134f1, .string t134f2, .bool t134f3, .string t134f4] (fun h7 =>
hwp PP (Instr.indexAt y11 (.slice y8 y7 y6) (.int .i64 t129)) (fun v_6 h8 => ∃ (t140 : Addr), v_6 = (.pointer (some t140)) ∧
wrCells t140 0 [.string t138f0, .string t138f1, .string t138f2, .bool t138f3, .string t138f4] (fun h9 =>
let t111 : Int := IntKind.i64.wrap (j12 + 1)
L4 y8 y7 y6 a1 b2 cmp3 i9 j10 t111 K h9) h8) h7) h6) h5) h4) h3)) h2) h1) h) (
K (.exit 6) (X6 y8 y7 y6 a1 b2 cmp3 i9 j10) h)) : L4 y8 y7 y6 a1 b2 cmp3 i9 j10 j12 K h := by unfold L4; exact Lp.of_txt (an 955380) 5647 (by kernel_rfl) H
theorem L4_X6 {K : EP} {y8 : OA} {y7 y6 : Nat} {a1 b2 : Int} {cmp3 : Value} {i9 j10 : Int} {h : Heap} (H :
J2 y8 y7 y6 a1 b2 cmp3 i9 j10 K h) : (K7 K) (.exit 6) (X6 y8 y7 y6 a1 b2 cmp3 i9 j10) h := y20 (by kernel_rfl) H
theorem J2_of {y8 : OA} {y7 y6 : Nat} {a1 b2 : Int} {cmp3 : Value} {i9 j10 : Int} {K : EP} {h : Heap} (H :
let t18 : Int := IntKind.i64.wrap (j10 + 1)
L1 y8 y7 y6 a1 b2 cmp3 i9 t18 K h) : J2 y8 y7 y6 a1 b2 cmp3 i9 j10 K h := by unfold J2; exact Jn.of_txt (an 467) (by kernel_rfl) H
theorem door {y8 : OA} {y7 y6 : Nat} {a1 b2 : Int} {cmp3 : Value} {Q : VP} {h : Heap} (H :
let t14 : Int := IntKind.i64.wrap (a1 + 1)
L1 y8 y7 y6 a1 b2 cmp3 t14 0 (K1 Q) h) : SpecH PP z349 [(.slice y8 y7 y6), .int .i64 a1, .int .i64 b2, cmp3] h Q :=
  y12 (ann := ann) Tryz.func175 rfl rfl (by kernel_rfl) H
end z348
namespace z356
def ann : Ann := (.seq 31 (rg 1 31) (.seq 23 (rg 16 23) (.seq 6163 (rg 6 6163) (.seq 2048 (.block (.loop 6163 (.block (.seq 6163 (.block (.loop 6163 (.seq 6163 (.seq 140737488361491 (rg 17 140737488361491) (.cond .leaf (.exit 6163))) (.block (rg 3 6163))))) (.seq 6163 (.block (.loop 6163 (.seq 6163 (.seq 36893488147419109395 (rg 16 36893488147419109395) (.cond .leaf (.exit 6163))) (.block (rg 3 6163))))) (.seq 6163 (.seq 1180591620717411309587 (rg 3 1180591620717411309587) (.cond (.exit 2048) .leaf)) (.seq 6163 (rg 16 6163) (.seq 6163 (rg 3 6163) (rg 3 6163))))))))) (.seq 1024 (rg 2 1024) (.exit 1024))))))
noncomputable abbrev cd := cdF Tryz.f176
abbrev an := anF ann
@[irreducible] def X2 (y8 : OA) (y7 y6 : Nat) (a1 : Int) (cmp4 : Value) (i11 j12 : Int) : Fr := (mkFr 0 90 [(0, (.slice y8 y7 y6)), (1, .int .i64 a1), (4, cmp4), (11, .int .i64 i11), (12, .int .i64 j12)])
@[irreducible] def X4 (y8 : OA) (y7 y6 : Nat) (a1 : Int) (cmp4 : Value) (i11 j12 : Int) : Fr := (mkFr 0 90 [(0, (.slice y8 y7 y6)), (1, .int .i64 a1), (4, cmp4), (11, .int .i64 i11), (12, .int .i64 j12)])
@[irreducible] def X0 (i11 : Int) : Fr := (mkFr 0 90 [(11, .int .i64 i11)])
@[irreducible] def L1 (y8 : OA) (y7 y6 : Nat) (a1 : Int) (cmp4 : Value) (i11 j12 : Int) (K : EP) (h : Heap) : Prop := Lp PP true (cd 120) (mkFr 0 90 [(0, (.slice y8 y7 y6)), (1, .int .i64 a1), (4, cmp4), (11, .int .i64 i11), (12, .int .i64 j12)]) K h
@[irreducible] def B1 (K : EP) : EP := seqK (fun fr h => Lp PP true (cd 120) (fr.mask 6163) K h) K
@[irreducible] def K3 (Q : VP) : EP := seqK (fun fr h => ev PP true none (cd 31) (an 31) (fr.mask 2048) (bodyK PP Tryz.f176 Q) h) (bodyK PP Tryz.f176 Q)
@[irreducible] def K1 (Q : VP) : EP := blockK 0 (K3 Q)
@[irreducible] def K6 (K : EP) : EP := blockK 1 (B1 K)
@[irreducible] def K4 (K : EP) : EP := seqK (fun fr h => ev PP true none (cd 481) (an 481) (fr.mask 6163) (K6 K) h) (K6 K)
@[irreducible] def K2 (K : EP) : EP := blockK 2 (K4 K)
@[irreducible] def L2 (y8 : OA) (y7 y6 : Nat) (a1 : Int) (cmp4 : Value) (i11 j12 : Int) (K : EP) (h : Heap) : Prop := Lp PP true (cd 1920) (mkFr 0 90 [(0, (.slice y8 y7 y6)), (1, .int .i64 a1), (4, cmp4), (11, .int .i64 i11), (12, .int .i64 j12)]) K h
@[irreducible] def K7 (K : EP) : EP := seqK (fun fr h => ev PP true none (cd 963) (an 963) (fr.mask 6163) (K6 K) h) (K6 K)
@[irreducible] def K5 (K : EP) : EP := blockK 4 (K7 K)
@[irreducible] def L3 (y8 : OA) (y7 y6 : Nat) (a1 : Int) (cmp4 : Value) (i11 j12 : Int) (K : EP) (h : Heap) : Prop := Lp PP true (cd 3848) (mkFr 0 90 [(0, (.slice y8 y7 y6)), (1, .int .i64 a1), (4, cmp4), (11, .int .i64 i11), (12, .int .i64 j12)]) K h
theorem L1_of {y8 : OA} {y7 y6 : Nat} {a1 : Int} {cmp4 : Value} {i11 j12 : Int} {K : EP} {h : Heap} (H :
L2 y8 y7 y6 a1 cmp4 i11 j12 (K2 K) h) : L1 y8 y7 y6 a1 cmp4 i11 j12 K h := by unfold L1; exact Lp.of_txt (an 120) 6163 (by kernel_rfl) H
theorem L2_of {y8 : OA} {y7 y6 : Nat} {a1 : Int} {cmp4 : Value} {i11 j12 : Int} {K : EP} {h : Heap} (H :
let t33 : Bool := decide (i11 ≤ j12)
br t33 (
hwp PP (Instr.indexAt y11 (.slice y8 y7 y6) (.int .i64 a1)) (fun v h1 => ∃ (t38 : Addr), v = (.pointer (some t38)) ∧
∃ (t39f0 t39f1 t39f2 : ByteArray) (t39f3 : Bool) (t39f4 : ByteArray), rdCells h1 t38 0 [.string t39f0, .string t39f1, .string t39f2, .bool t39f3, .string t39f4] ∧
hwp PP (Instr.indexAt y11 (.slice y8 y7 y6) (.int .i64 i11)) (fun v_1 h2 => ∃ (t42 : Addr), v_1 = (.pointer (some t42)) ∧
∃ (t43f0 t43f1 t43f2 : ByteArray) (t43f3 : Bool) (t43f4 : ByteArray), rdCells h2 t42 0 [.string t43f0, .string t43f1, .string t43f2, .bool t43f3, .string t43f4] ∧
callV PP cmp4 [(.agg #[.string t39f0, .string t39f1, .string t39f2, .bool t39f3, .string t39f4]), (.agg #[.string t43f0, .string t43f1, .string t43f2, .bool t43f3, .string t43f4])] (fun v_2 h3 => ∃ (t44 : Int), v_2 = (.int .i64 t44) ∧
let t45 : Bool := decide (t44 < 0)
let t46 : Bool := (!t45)
br t46 (
let t49 : Int := IntKind.i64.wrap (i11 + 1)
L2 y8 y7 y6 a1 cmp4 t49 j12 K h3) (
K (.exit 2) (X2 y8 y7 y6 a1 cmp4 i11 j12) h3)) h2) h1) h) (
K (.exit 2) (X2 y8 y7 y6 a1 cmp4 i11 j12) h)) : L2 y8 y7 y6 a1 cmp4 i11 j12 K h := by unfold L2; exact Lp.of_txt (an 1920) 6163 (by kernel_rfl) H
theorem L2_X2 {K : EP} {y8 : OA} {y7 y6 : Nat} {a1 : Int} {cmp4 : Value} {i11 j12 : Int} {h : Heap} (H :
L3 y8 y7 y6 a1 cmp4 i11 j12 (K5 K) h) : (K2 K) (.exit 2) (X2 y8 y7 y6 a1 cmp4 i11 j12) h := y20 (by kernel_rfl) H
theorem L3_of {y8 : OA} {y7 y6 : Nat} {a1 : Int} {cmp4 : Value} {i11 j12 : Int} {K : EP} {h : Heap} (H :
let t52 : Bool := decide (i11 ≤ j12)
br t52 (
hwp PP (Instr.indexAt y11 (.slice y8 y7 y6) (.int .i64 a1)) (fun v h1 => ∃ (t57 : Addr), v = (.pointer (some t57)) ∧
∃ (t58f0 t58f1 t58f2 : ByteArray) (t58f3 : Bool) (t58f4 : ByteArray), rdCells h1 t57 0 [.string t58f0, .string t58f1, .string t58f2, .bool t58f3, .string t58f4] ∧
hwp PP (Instr.indexAt y11 (.slice y8 y7 y6) (.int .i64 j12)) (fun v_1 h2 => ∃ (t61 : Addr), v_1 = (.pointer (some t61)) ∧
∃ (t62f0 t62f1 t62f2 : ByteArray) (t62f3 : Bool) (t62f4 : ByteArray), rdCells h2 t61 0 [.string t62f0, .string t62f1, .string t62f2, .bool t62f3, .string t62f4] ∧
callV PP cmp4 [(.agg #[.string t58f0, .string t58f1, .string t58f2, .bool t58f3, .string t58f4]), (.agg #[.string t62f0, .string t62f1, .string t62f2, .bool t62f3, .string t62f4])] (fun v_2 h3 => ∃ (t63 : Int), v_2 = (.int .i64 t63) ∧
let t64 : Bool := decide (t63 < 0)
br t64 (
let t67 : Int := IntKind.i64.wrap (j12 - 1)
L3 y8 y7 y6 a1 cmp4 i11 t67 K h3) (
K (.exit 4) (X4 y8 y7 y6 a1 cmp4 i11 j12) h3)) h2) h1) h) (
K (.exit 4) (X4 y8 y7 y6 a1 cmp4 i11 j12) h)) : L3 y8 y7 y6 a1 cmp4 i11 j12 K h := by unfold L3; exact Lp.of_txt (an 3848) 6163 (by kernel_rfl) H
theorem L3_X4 {K : EP} {y8 : OA} {y7 y6 : Nat} {a1 : Int} {cmp4 : Value} {i11 j12 : Int} {h : Heap} (H :
let t70 : Bool := decide (i11 > j12)
br t70 (
K (.exit 0) (X0 i11) h) (
hwp PP (Instr.indexAt y11 (.slice y8 y7 y6) (.int .i64 j12)) (fun v h1 => ∃ (t77 : Addr), v = (.pointer (some t77)) ∧
∃ (t78f0 t78f1 t78f2 : ByteArray) (t78f3 : Bool) (t78f4 : ByteArray), rdCells h1 t77 0 [.string t78f0, .string t78f1, .string t78f2, .bool t78f3, .string t78f4] ∧
hwp PP (Instr.indexAt y11 (.slice y8 y7 y6) (.int .i64 i11)) (fun v_1 h2 => ∃ (t81 : Addr), v_1 = (.pointer (some t81)) ∧
∃ (t82f0 t82f1 t82f2 : ByteArray) (t82f3 : Bool) (t82f4 : ByteArray), rdCells h2 t81 0 [.string t82f0, .string t82f1, .string t82f2, .bool t82f3, .string t82f4] ∧
hwp PP (Instr.indexAt y11 (.slice y8 y7 y6) (.int .i64 i11)) (fun v_2 h3 => ∃ (t83 : Addr), v_2 = (.pointer (some t83)) ∧
wrCells t83 0 [.string t78f0, .string t78f1, .string t78f2, .bool t78f3, .string t78f4] (fun h4 =>
hwp PP (Instr.indexAt y11 (.slice y8 y7 y6) (.int .i64 j12)) (fun v_3 h5 => ∃ (t84 : Addr), v_3 = (.pointer (some t84)) ∧
wrCells t84 0 [.string t82f0, .string t82f1, .string t82f2, .bool t82f3, .string t82f4] (fun h6 =>
let t86 : Int := IntKind.i64.wrap (i11 + 1)
let t88 : Int := IntKind.i64.wrap (j12 - 1)
L1 y8 y7 y6 a1 cmp4 t86 t88 K h6) h5) h4) h3) h2) h1) h)) : (K5 K) (.exit 4) (X4 y8 y7 y6 a1 cmp4 i11 j12) h := y20 (by kernel_rfl) H
theorem L1_X0 {Q : VP} {i11 : Int} {h : Heap} (H :
Q (.int .i64 i11) h) : (K1 Q) (.exit 0) (X0 i11) h := y20 (by kernel_rfl) H
theorem door {y8 : OA} {y7 y6 : Nat} {a1 b2 pivot3 : Int} {cmp4 : Value} {Q : VP} {h : Heap} (H :
hwp PP (Instr.indexAt y11 (.slice y8 y7 y6) (.int .i64 pivot3)) (fun v h1 => ∃ (t19 : Addr), v = (.pointer (some t19)) ∧
∃ (t20f0 t20f1 t20f2 : ByteArray) (t20f3 : Bool) (t20f4 : ByteArray), rdCells h1 t19 0 [.string t20f0, .string t20f1, .string t20f2, .bool t20f3, .string t20f4] ∧
hwp PP (Instr.indexAt y11 (.slice y8 y7 y6) (.int .i64 a1)) (fun v_1 h2 => ∃ (t23 : Addr), v_1 = (.pointer (some t23)) ∧
∃ (t24f0 t24f1 t24f2 : ByteArray) (t24f3 : Bool) (t24f4 : ByteArray), rdCells h2 t23 0 [.string t24f0, .string t24f1, .string t24f2, .bool t24f3, .string t24f4] ∧
hwp PP (Instr.indexAt y11 (.slice y8 y7 y6) (.int .i64 a1)) (fun v_2 h3 => ∃ (t25 : Addr), v_2 = (.pointer (some t25)) ∧
wrCells t25 0 [.string t20f0, .string t20f1, .string t20f2, .bool t20f3, .string t20f4] (fun h4 =>
hwp PP (Instr.indexAt y11 (.slice y8 y7 y6) (.int .i64 pivot3)) (fun v_3 h5 => ∃ (t26 : Addr), v_3 = (.pointer (some t26)) ∧
wrCells t26 0 [.string t24f0, .string t24f1, .string t24f2, .bool t24f3, .string t24f4] (fun h6 =>
let t28 : Int := IntKind.i64.wrap (a1 + 1)
let t30 : Int := IntKind.i64.wrap (b2 - 1)
L1 y8 y7 y6 a1 cmp4 t28 t30 (K1 Q) h6) h5) h4) h3) h2) h1) h) : SpecH PP z357 [(.slice y8 y7 y6), .int .i64 a1, .int .i64 b2, .int .i64 pivot3, cmp4] h Q :=
  y12 (ann := ann) Tryz.func176 rfl rfl (by kernel_rfl) H
end z356
namespace z352
def ann : Ann := (.seq 31 (rg 2 31) (.seq 23 (rg 16 23) (.seq 12307 (rg 6 12307) (.seq 12307 (.block (.loop 12307 (.seq 12307 (.seq 140737488367635 (rg 16 140737488367635) (.cond .leaf (.exit 12307))) (.block (rg 3 12307))))) (.seq 12307 (.block (.loop 12307 (.seq 12307 (.seq 73786976294838218771 (rg 17 73786976294838218771) (.cond .leaf (.exit 12307))) (.block (rg 3 12307))))) (.seq 12307 (.seq 2361183241434822619155 (rg 3 2361183241434822619155) (.cond (.seq 8192 (rg 16 8192) (.seq 3072 (rg 3 3072) (.exit 3072))) .leaf)) (.seq 12307 (rg 16 12307) (.seq 12307 (rg 3 12307) (.seq 12307 (rg 3 12307) (.seq 8195 (.block (.loop 12307 (.block (.seq 12307 (.block (.loop 12307 (.seq 12307 (.seq 1329227995784915872903807060280356883 (rg 16 1329227995784915872903807060280356883) (.cond .leaf (.exit 12307))) (.block (rg 3 12307))))) (.seq 12307 (.block (.loop 12307 (.seq 12307 (.seq 696898287454081973172991196020261297074195 (rg 17 696898287454081973172991196020261297074195) (.cond .leaf (.exit 12307))) (.block (rg 3 12307))))) (.seq 12307 (.seq 22300745198530623141535718272648361505992723 (rg 3 22300745198530623141535718272648361505992723) (.cond (.exit 8195) .leaf)) (.seq 12307 (rg 16 12307) (.seq 12307 (rg 3 12307) (rg 3 12307))))))))) (.seq 8192 (rg 16 8192) (.seq 3072 (rg 3 3072) (.exit 3072)))))))))))))
noncomputable abbrev cd := cdF Tryz.f177
abbrev an := anF ann
@[irreducible] def X0 (y8 : OA) (y7 y6 : Nat) (a1 : Int) (cmp4 : Value) (i12 j13 : Int) : Fr := (mkFr 0 178 [(0, (.slice y8 y7 y6)), (1, .int .i64 a1), (4, cmp4), (12, .int .i64 i12), (13, .int .i64 j13)])
@[irreducible] def X2 (y8 : OA) (y7 y6 : Nat) (a1 : Int) (cmp4 : Value) (i12 j13 : Int) : Fr := (mkFr 0 178 [(0, (.slice y8 y7 y6)), (1, .int .i64 a1), (4, cmp4), (12, .int .i64 i12), (13, .int .i64 j13)])
@[irreducible] def X6 (y8 : OA) (y7 y6 : Nat) (a1 : Int) (cmp4 : Value) (i12 j13 : Int) : Fr := (mkFr 0 178 [(0, (.slice y8 y7 y6)), (1, .int .i64 a1), (4, cmp4), (12, .int .i64 i12), (13, .int .i64 j13)])
@[irreducible] def X8 (y8 : OA) (y7 y6 : Nat) (a1 : Int) (cmp4 : Value) (i12 j13 : Int) : Fr := (mkFr 0 178 [(0, (.slice y8 y7 y6)), (1, .int .i64 a1), (4, cmp4), (12, .int .i64 i12), (13, .int .i64 j13)])
@[irreducible] def X4 (y8 : OA) (y7 y6 : Nat) (a1 j13 : Int) : Fr := (mkFr 0 178 [(0, (.slice y8 y7 y6)), (1, .int .i64 a1), (13, .int .i64 j13)])
@[irreducible] def L1 (y8 : OA) (y7 y6 : Nat) (a1 : Int) (cmp4 : Value) (i12 j13 : Int) (K : EP) (h : Heap) : Prop := Lp PP true (cd 120) (mkFr 0 178 [(0, (.slice y8 y7 y6)), (1, .int .i64 a1), (4, cmp4), (12, .int .i64 i12), (13, .int .i64 j13)]) K h
@[irreducible] def K3 (Q : VP) : EP := seqK (fun fr h => ev PP true none (cd 31) (an 31) (fr.mask 12307) (bodyK PP Tryz.f177 Q) h) (bodyK PP Tryz.f177 Q)
@[irreducible] def K1 (Q : VP) : EP := blockK 0 (K3 Q)
@[irreducible] def K4 (Q : VP) : EP := seqK (fun fr h => ev PP true none (cd 63) (an 63) (fr.mask 12307) (bodyK PP Tryz.f177 Q) h) (bodyK PP Tryz.f177 Q)
@[irreducible] def K2 (Q : VP) : EP := blockK 2 (K4 Q)
@[irreducible] def L2 (y8 : OA) (y7 y6 : Nat) (a1 : Int) (cmp4 : Value) (i12 j13 : Int) (K : EP) (h : Heap) : Prop := Lp PP true (cd 248) (mkFr 0 178 [(0, (.slice y8 y7 y6)), (1, .int .i64 a1), (4, cmp4), (12, .int .i64 i12), (13, .int .i64 j13)]) K h
@[irreducible] def K6 (Q : VP) : EP := seqK (fun fr h => ev PP true none (cd 2047) (an 2047) (fr.mask 8195) (bodyK PP Tryz.f177 Q) h) (bodyK PP Tryz.f177 Q)
@[irreducible] def K5 (Q : VP) : EP := blockK 4 (K6 Q)
@[irreducible] def L3 (y8 : OA) (y7 y6 : Nat) (a1 : Int) (cmp4 : Value) (i12 j13 : Int) (K : EP) (h : Heap) : Prop := Lp PP true (cd 8184) (mkFr 0 178 [(0, (.slice y8 y7 y6)), (1, .int .i64 a1), (4, cmp4), (12, .int .i64 i12), (13, .int .i64 j13)]) K h
@[irreducible] def B3 (K : EP) : EP := seqK (fun fr h => Lp PP true (cd 8184) (fr.mask 12307) K h) K
@[irreducible] def K10 (K : EP) : EP := blockK 5 (B3 K)
@[irreducible] def K8 (K : EP) : EP := seqK (fun fr h => ev PP true none (cd 32737) (an 32737) (fr.mask 12307) (K10 K) h) (K10 K)
@[irreducible] def K7 (K : EP) : EP := blockK 6 (K8 K)
@[irreducible] def L4 (y8 : OA) (y7 y6 : Nat) (a1 : Int) (cmp4 : Value) (i12 j13 : Int) (K : EP) (h : Heap) : Prop := Lp PP true (cd 130944) (mkFr 0 178 [(0, (.slice y8 y7 y6)), (1, .int .i64 a1), (4, cmp4), (12, .int .i64 i12), (13, .int .i64 j13)]) K h
@[irreducible] def K11 (K : EP) : EP := seqK (fun fr h => ev PP true none (cd 65475) (an 65475) (fr.mask 12307) (K10 K) h) (K10 K)
@[irreducible] def K9 (K : EP) : EP := blockK 8 (K11 K)
@[irreducible] def L5 (y8 : OA) (y7 y6 : Nat) (a1 : Int) (cmp4 : Value) (i12 j13 : Int) (K : EP) (h : Heap) : Prop := Lp PP true (cd 261896) (mkFr 0 178 [(0, (.slice y8 y7 y6)), (1, .int .i64 a1), (4, cmp4), (12, .int .i64 i12), (13, .int .i64 j13)]) K h
theorem L1_of {y8 : OA} {y7 y6 : Nat} {a1 : Int} {cmp4 : Value} {i12 j13 : Int} {K : EP} {h : Heap} (H :
let t34 : Bool := decide (i12 ≤ j13)
br t34 (
hwp PP (Instr.indexAt y11 (.slice y8 y7 y6) (.int .i64 i12)) (fun v h1 => ∃ (t39 : Addr), v = (.pointer (some t39)) ∧
∃ (t40f0 t40f1 t40f2 : ByteArray) (t40f3 : Bool) (t40f4 : ByteArray), rdCells h1 t39 0 [.string t40f0, .string t40f1, .string t40f2, .bool t40f3, .string t40f4] ∧
hwp PP (Instr.indexAt y11 (.slice y8 y7 y6) (.int .i64 a1)) (fun v_1 h2 => ∃ (t43 : Addr), v_1 = (.pointer (some t43)) ∧
∃ (t44f0 t44f1 t44f2 : ByteArray) (t44f3 : Bool) (t44f4 : ByteArray), rdCells h2 t43 0 [.string t44f0, .string t44f1, .string t44f2, .bool t44f3, .string t44f4] ∧
callV PP cmp4 [(.agg #[.string t40f0, .string t40f1, .string t40f2, .bool t40f3, .string t40f4]), (.agg #[.string t44f0, .string t44f1, .string t44f2, .bool t44f3, .string t44f4])] (fun v_2 h3 => ∃ (t45 : Int), v_2 = (.int .i64 t45) ∧
let t46 : Bool := decide (t45 < 0)
br t46 (
let t49 : Int := IntKind.i64.wrap (i12 + 1)
L1 y8 y7 y6 a1 cmp4 t49 j13 K h3) (
K (.exit 0) (X0 y8 y7 y6 a1 cmp4 i12 j13) h3)) h2) h1) h) (
K (.exit 0) (X0 y8 y7 y6 a1 cmp4 i12 j13) h)) : L1 y8 y7 y6 a1 cmp4 i12 j13 K h := by unfold L1; exact Lp.of_txt (an 120) 12307 (by kernel_rfl) H
theorem L1_X0 {Q : VP} {y8 : OA} {y7 y6 : Nat} {a1 : Int} {cmp4 : Value} {i12 j13 : Int} {h : Heap} (H :
L2 y8 y7 y6 a1 cmp4 i12 j13 (K2 Q) h) : (K1 Q) (.exit 0) (X0 y8 y7 y6 a1 cmp4 i12 j13) h := y20 (by kernel_rfl) H
theorem L2_of {y8 : OA} {y7 y6 : Nat} {a1 : Int} {cmp4 : Value} {i12 j13 : Int} {K : EP} {h : Heap} (H :
let t52 : Bool := decide (i12 ≤ j13)
br t52 (
hwp PP (Instr.indexAt y11 (.slice y8 y7 y6) (.int .i64 j13)) (fun v h1 => ∃ (t57 : Addr), v = (.pointer (some t57)) ∧
∃ (t58f0 t58f1 t58f2 : ByteArray) (t58f3 : Bool) (t58f4 : ByteArray), rdCells h1 t57 0 [.string t58f0, .string t58f1, .string t58f2, .bool t58f3, .string t58f4] ∧
hwp PP (Instr.indexAt y11 (.slice y8 y7 y6) (.int .i64 a1)) (fun v_1 h2 => ∃ (t61 : Addr), v_1 = (.pointer (some t61)) ∧
∃ (t62f0 t62f1 t62f2 : ByteArray) (t62f3 : Bool) (t62f4 : ByteArray), rdCells h2 t61 0 [.string t62f0, .string t62f1, .string t62f2, .bool t62f3, .string t62f4] ∧
callV PP cmp4 [(.agg #[.string t58f0, .string t58f1, .string t58f2, .bool t58f3, .string t58f4]), (.agg #[.string t62f0, .string t62f1, .string t62f2, .bool t62f3, .string t62f4])] (fun v_2 h3 => ∃ (t63 : Int), v_2 = (.int .i64 t63) ∧
let t64 : Bool := decide (t63 < 0)
let t65 : Bool := (!t64)
br t65 (
let t68 : Int := IntKind.i64.wrap (j13 - 1)
L2 y8 y7 y6 a1 cmp4 i12 t68 K h3) (
K (.exit 2) (X2 y8 y7 y6 a1 cmp4 i12 j13) h3)) h2) h1) h) (
K (.exit 2) (X2 y8 y7 y6 a1 cmp4 i12 j13) h)) : L2 y8 y7 y6 a1 cmp4 i12 j13 K h := by unfold L2; exact Lp.of_txt (an 248) 12307 (by kernel_rfl) H
theorem L2_X2 {Q : VP} {y8 : OA} {y7 y6 : Nat} {a1 : Int} {cmp4 : Value} {i12 j13 : Int} {h : Heap} (H :
let t71 : Bool := decide (i12 > j13)
br t71 (
hwp PP (Instr.indexAt y11 (.slice y8 y7 y6) (.int .i64 a1)) (fun v h1 => ∃ (t78 : Addr), v = (.pointer (some t78)) ∧
∃ (t79f0 t79f1 t79f2 : ByteArray) (t79f3 : Bool) (t79f4 : ByteArray), rdCells h1 t78 0 [.string t79f0, .string t79f1, .string t79f2, .bool t79f3, .string t79f4] ∧
hwp PP (Instr.indexAt y11 (.slice y8 y7 y6) (.int .i64 j13)) (fun v_1 h2 => ∃ (t82 : Addr), v_1 = (.pointer (some t82)) ∧
∃ (t83f0 t83f1 t83f2 : ByteArray) (t83f3 : Bool) (t83f4 : ByteArray), rdCells h2 t82 0 [.string t83f0, .string t83f1, .string t83f2, .bool t83f3, .string t83f4] ∧
hwp PP (Instr.indexAt y11 (.slice y8 y7 y6) (.int .i64 j13)) (fun v_2 h3 => ∃ (t84 : Addr), v_2 = (.pointer (some t84)) ∧
wrCells t84 0 [.string t79f0, .string t79f1, .string t79f2, .bool t79f3, .string t79f4] (fun h4 =>
hwp PP (Instr.indexAt y11 (.slice y8 y7 y6) (.int .i64 a1)) (fun v_3 h5 => ∃ (t85 : Addr), v_3 = (.pointer (some t85)) ∧
wrCells t85 0 [.string t83f0, .string t83f1, .string t83f2, .bool t83f3, .string t83f4] (fun h6 =>
Q (.tuple #[.int .i64 j13, .bool true]) h6) h5) h4) h3) h2) h1) h) (
hwp PP (Instr.indexAt y11 (.slice y8 y7 y6) (.int .i64 j13)) (fun v_4 h7 => ∃ (t93 : Addr), v_4 = (.pointer (some t93)) ∧
∃ (t94f0 t94f1 t94f2 : ByteArray) (t94f3 : Bool) (t94f4 : ByteArray), rdCells h7 t93 0 [.string t94f0, .string t94f1, .string t94f2, .bool t94f3, .string t94f4] ∧
hwp PP (Instr.indexAt y11 (.slice y8 y7 y6) (.int .i64 i12)) (fun v_5 h8 => ∃ (t97 : Addr), v_5 = (.pointer (some t97)) ∧
∃ (t98f0 t98f1 t98f2 : ByteArray) (t98f3 : Bool) (t98f4 : ByteArray), rdCells h8 t97 0 [.string t98f0, .string t98f1, .string t98f2, .bool t98f3, .string t98f4] ∧
hwp PP (Instr.indexAt y11 (.slice y8 y7 y6) (.int .i64 i12)) (fun v_6 h9 => ∃ (t99 : Addr), v_6 = (.pointer (some t99)) ∧
wrCells t99 0 [.string t94f0, .string t94f1, .string t94f2, .bool t94f3, .string t94f4] (fun h10 =>
hwp PP (Instr.indexAt y11 (.slice y8 y7 y6) (.int .i64 j13)) (fun v_7 h11 => ∃ (t100 : Addr), v_7 = (.pointer (some t100)) ∧
wrCells t100 0 [.string t98f0, .string t98f1, .string t98f2, .bool t98f3, .string t98f4] (fun h12 =>
let t102 : Int := IntKind.i64.wrap (i12 + 1)
let t104 : Int := IntKind.i64.wrap (j13 - 1)
L3 y8 y7 y6 a1 cmp4 t102 t104 (K5 Q) h12) h11) h10) h9) h8) h7) h)) : (K2 Q) (.exit 2) (X2 y8 y7 y6 a1 cmp4 i12 j13) h := y20 (by kernel_rfl) H
theorem L3_of {y8 : OA} {y7 y6 : Nat} {a1 : Int} {cmp4 : Value} {i12 j13 : Int} {K : EP} {h : Heap} (H :
L4 y8 y7 y6 a1 cmp4 i12 j13 (K7 K) h) : L3 y8 y7 y6 a1 cmp4 i12 j13 K h := by unfold L3; exact Lp.of_txt (an 8184) 12307 (by kernel_rfl) H
theorem L4_of {y8 : OA} {y7 y6 : Nat} {a1 : Int} {cmp4 : Value} {i12 j13 : Int} {K : EP} {h : Heap} (H :
let t107 : Bool := decide (i12 ≤ j13)
br t107 (
hwp PP (Instr.indexAt y11 (.slice y8 y7 y6) (.int .i64 i12)) (fun v h1 => ∃ (t112 : Addr), v = (.pointer (some t112)) ∧
∃ (t113f0 t113f1 t113f2 : ByteArray) (t113f3 : Bool) (t113f4 : ByteArray), rdCells h1 t112 0 [.string t113f0, .string t113f1, .string t113f2, .bool t113f3, .string t113f4] ∧
hwp PP (Instr.indexAt y11 (.slice y8 y7 y6) (.int .i64 a1)) (fun v_1 h2 => ∃ (t116 : Addr), v_1 = (.pointer (some t116)) ∧
∃ (t117f0 t117f1 t117f2 : ByteArray) (t117f3 : Bool) (t117f4 : ByteArray), rdCells h2 t116 0 [.string t117f0, .string t117f1, .string t117f2, .bool t117f3, .string t117f4] ∧
callV PP cmp4 [(.agg #[.string t113f0, .string t113f1, .string t113f2, .bool t113f3, .string t113f4]), (.agg #[.string t117f0, .string t117f1, .string t117f2, .bool t117f3, .string t117f4])] (fun v_2 h3 => ∃ (t118 : Int), v_2 = (.int .i64 t118) ∧
let t119 : Bool := decide (t118 < 0)
br t119 (
let t122 : Int := IntKind.i64.wrap (i12 + 1)
L4 y8 y7 y6 a1 cmp4 t122 j13 K h3) (
K (.exit 6) (X6 y8 y7 y6 a1 cmp4 i12 j13) h3)) h2) h1) h) (
K (.exit 6) (X6 y8 y7 y6 a1 cmp4 i12 j13) h)) : L4 y8 y7 y6 a1 cmp4 i12 j13 K h := by unfold L4; exact Lp.of_txt (an 130944) 12307 (by kernel_rfl) H
theorem L4_X6 {K : EP} {y8 : OA} {y7 y6 : Nat} {a1 : Int} {cmp4 : Value} {i12 j13 : Int} {h : Heap} (H :
L5 y8 y7 y6 a1 cmp4 i12 j13 (K9 K) h) : (K7 K) (.exit 6) (X6 y8 y7 y6 a1 cmp4 i12 j13) h := y20 (by kernel_rfl) H
theorem L5_of {y8 : OA} {y7 y6 : Nat} {a1 : Int} {cmp4 : Value} {i12 j13 : Int} {K : EP} {h : Heap} (H :
let t125 : Bool := decide (i12 ≤ j13)
br t125 (
hwp PP (Instr.indexAt y11 (.slice y8 y7 y6) (.int .i64 j13)) (fun v h1 => ∃ (t130 : Addr), v = (.pointer (some t130)) ∧
∃ (t131f0 t131f1 t131f2 : ByteArray) (t131f3 : Bool) (t131f4 : ByteArray), rdCells h1 t130 0 [.string t131f0, .string t131f1, .string t131f2, .bool t131f3, .string t131f4] ∧
hwp PP (Instr.indexAt y11 (.slice y8 y7 y6) (.int .i64 a1)) (fun v_1 h2 => ∃ (t134 : Addr), v_1 = (.pointer (some t134)) ∧
∃ (t135f0 t135f1 t135f2 : ByteArray) (t135f3 : Bool) (t135f4 : ByteArray), rdCells h2 t134 0 [.string t135f0, .string t135f1, .string t135f2, .bool t135f3, .string t135f4] ∧
callV PP cmp4 [(.agg #[.string t131f0, .string t131f1, .string t131f2, .bool t131f3, .string t131f4]), (.agg #[.string t135f0, .string t135f1, .string t135f2, .bool t135f3, .string t135f4])] (fun v_2 h3 => ∃ (t136 : Int), v_2 = (.int .i64 t136) ∧
let t137 : Bool := decide (t136 < 0)
let t138 : Bool := (!t137)
br t138 (
let t141 : Int := IntKind.i64.wrap (j13 - 1)
L5 y8 y7 y6 a1 cmp4 i12 t141 K h3) (
K (.exit 8) (X8 y8 y7 y6 a1 cmp4 i12 j13) h3)) h2) h1) h) (
K (.exit 8) (X8 y8 y7 y6 a1 cmp4 i12 j13) h)) : L5 y8 y7 y6 a1 cmp4 i12 j13 K h := by unfold L5; exact Lp.of_txt (an 261896) 12307 (by kernel_rfl) H
theorem L5_X8 {K : EP} {y8 : OA} {y7 y6 : Nat} {a1 : Int} {cmp4 : Value} {i12 j13 : Int} {h : Heap} (H :
let t144 : Bool := decide (i12 > j13)
br t144 (
K (.exit 4) (X4 y8 y7 y6 a1 j13) h) (
hwp PP (Instr.indexAt y11 (.slice y8 y7 y6) (.int .i64 j13)) (fun v h1 => ∃ (t151 : Addr), v = (.pointer (some t151)) ∧
∃ (t152f0 t152f1 t152f2 : ByteArray) (t152f3 : Bool) (t152f4 : ByteArray), rdCells h1 t151 0 [.string t152f0, .string t152f1, .string t152f2, .bool t152f3, .string t152f4] ∧
hwp PP (Instr.indexAt y11 (.slice y8 y7 y6) (.int .i64 i12)) (fun v_1 h2 => ∃ (t155 : Addr), v_1 = (.pointer (some t155)) ∧
∃ (t156f0 t156f1 t156f2 : ByteArray) (t156f3 : Bool) (t156f4 : ByteArray), rdCells h2 t155 0 [.string t156f0, .string t156f1, .string t156f2, .bool t156f3, .string t156f4] ∧
hwp PP (Instr.indexAt y11 (.slice y8 y7 y6) (.int .i64 i12)) (fun v_2 h3 => ∃ (t157 : Addr), v_2 = (.pointer (some t157)) ∧
wrCells t157 0 [.string t152f0, .string t152f1, .string t152f2, .bool t152f3, .string t152f4] (fun h4 =>
hwp PP (Instr.indexAt y11 (.slice y8 y7 y6) (.int .i64 j13)) (fun v_3 h5 => ∃ (t158 : Addr), v_3 = (.pointer (some t158)) ∧
wrCells t158 0 [.string t156f0, .string t156f1, .string t156f2, .bool t156f3, .string t156f4] (fun h6 =>
let t160 : Int := IntKind.i64.wrap (i12 + 1)
let t162 : Int := IntKind.i64.wrap (j13 - 1)
L3 y8 y7 y6 a1 cmp4 t160 t162 K h6) h5) h4) h3) h2) h1) h)) : (K9 K) (.exit 8) (X8 y8 y7 y6 a1 cmp4 i12 j13) h := y20 (by kernel_rfl) H
theorem L3_X4 {Q : VP} {y8 : OA} {y7 y6 : Nat} {a1 j13 : Int} {h : Heap} (H :
hwp PP (Instr.indexAt y11 (.slice y8 y7 y6) (.int .i64 a1)) (fun v h1 => ∃ (t169 : Addr), v = (.pointer (some t169)) ∧
∃ (t170f0 t170f1 t170f2 : ByteArray) (t170f3 : Bool) (t170f4 : ByteArray), rdCells h1 t169 0 [.string t170f0, .string t170f1, .string t170f2, .bool t170f3, .string t170f4] ∧
hwp PP (Instr.indexAt y11 (.slice y8 y7 y6) (.int .i64 j13)) (fun v_1 h2 => ∃ (t173 : Addr), v_1 = (.pointer (some t173)) ∧
∃ (t174f0 t174f1 t174f2 : ByteArray) (t174f3 : Bool) (t174f4 : ByteArray), rdCells h2 t173 0 [.string t174f0, .string t174f1, .string t174f2, .bool t174f3, .string t174f4] ∧
hwp PP (Instr.indexAt y11 (.slice y8 y7 y6) (.int .i64 j13)) (fun v_2 h3 => ∃ (t175 : Addr), v_2 = (.pointer (some t175)) ∧
wrCells t175 0 [.string t170f0, .string t170f1, .string t170f2, .bool t170f3, .string t170f4] (fun h4 =>
hwp PP (Instr.indexAt y11 (.slice y8 y7 y6) (.int .i64 a1)) (fun v_3 h5 => ∃ (t176 : Addr), v_3 = (.pointer (some t176)) ∧
wrCells t176 0 [.string t174f0, .string t174f1, .string t174f2, .bool t174f3, .string t174f4] (fun h6 =>
Q (.tuple #[.int .i64 j13, .bool false]) h6) h5) h4) h3) h2) h1) h) : (K5 Q) (.exit 4) (X4 y8 y7 y6 a1 j13) h := y20 (by kernel_rfl) H
theorem door {y8 : OA} {y7 y6 : Nat} {a1 b2 pivot3 : Int} {cmp4 : Value} {Q : VP} {h : Heap} (H :
hwp PP (Instr.indexAt y11 (.slice y8 y7 y6) (.int .i64 pivot3)) (fun v h1 => ∃ (t20 : Addr), v = (.pointer (some t20)) ∧
∃ (t21f0 t21f1 t21f2 : ByteArray) (t21f3 : Bool) (t21f4 : ByteArray), rdCells h1 t20 0 [.string t21f0, .string t21f1, .string t21f2, .bool t21f3, .string t21f4] ∧
hwp PP (Instr.indexAt y11 (.slice y8 y7 y6) (.int .i64 a1)) (fun v_1 h2 => ∃ (t24 : Addr), v_1 = (.pointer (some t24)) ∧
∃ (t25f0 t25f1 t25f2 : ByteArray) (t25f3 : Bool) (t25f4 : ByteArray), rdCells h2 t24 0 [.string t25f0, .string t25f1, .string t25f2, .bool t25f3, .string t25f4] ∧
hwp PP (Instr.indexAt y11 (.slice y8 y7 y6) (.int .i64 a1)) (fun v_2 h3 => ∃ (t26 : Addr), v_2 = (.pointer (some t26)) ∧
wrCells t26 0 [.string t21f0, .string t21f1, .string t21f2, .bool t21f3, .string t21f4] (fun h4 =>
hwp PP (Instr.indexAt y11 (.slice y8 y7 y6) (.int .i64 pivot3)) (fun v_3 h5 => ∃ (t27 : Addr), v_3 = (.pointer (some t27)) ∧
wrCells t27 0 [.string t25f0, .string t25f1, .string t25f2, .bool t25f3, .string t25f4] (fun h6 =>
let t29 : Int := IntKind.i64.wrap (a1 + 1)
let t31 : Int := IntKind.i64.wrap (b2 - 1)
L1 y8 y7 y6 a1 cmp4 t29 t31 (K1 Q) h6) h5) h4) h3) h2) h1) h) : SpecH PP z353 [(.slice y8 y7 y6), .int .i64 a1, .int .i64 b2, .int .i64 pivot3, cmp4] h Q :=
  y12 (ann := ann) Tryz.func177 rfl rfl (by kernel_rfl) H
end z352
namespace z384
def ann : Ann := (.seq 15 (.seq 2063 (rg 3 2063) (.cond (.seq 0 (.block (.loop 5 (.seq 5 (.seq 16389 (rg 3 16389) (.cond .leaf (.exit 0))) (.block (.seq 69 (rg 7 69) (.seq 69 (.seq 33554501 (rg 6 33554501) (.cond (.exit 0) .leaf)) (rg 4 5))))))) (.exit 0)) .leaf)) (.seq 5 (.block (.loop 15 (.block (.seq 143 (rg 4 143) (.seq 143 (.seq 8589934735 (rg 2 8589934735) (.cond (.exit 5) .leaf)) (.seq 399 (rg 6 399) (.seq 143 (.seq 4398046511247 (rg 4 4398046511247) (.cond (.exit 0) .leaf)) (rg 7 15)))))))) (rg 3 0)))
noncomputable abbrev cd := cdF Tryz.f178
abbrev an := anF ann
@[irreducible] def Xret  : Fr := (mkFr 0 52 [])
@[irreducible] def X2 (y40 : Value) (t2 : Addr) : Fr := (mkFr 0 52 [(0, y40), (2, (.pointer (some t2)))])
@[irreducible] def L1 (y40 : Value) (t2 : Addr) (K : EP) (h : Heap) : Prop := Lp PP true (cd 80) (mkFr 0 52 [(0, y40), (2, (.pointer (some t2)))]) K h
@[irreducible] def L2 (y40 : Value) (t1 t2 t3 : Addr) (K : EP) (h : Heap) : Prop := Lp PP true (cd 24) (mkFr 0 52 [(0, y40), (1, (.pointer (some t1))), (2, (.pointer (some t2))), (3, (.pointer (some t3)))]) K h
@[irreducible] def K5 (Q : VP) : EP := seqK (fun fr h => ev PP true none (cd 3) (an 3) (fr.mask 15) (bodyK PP Tryz.f178 Q) h) (bodyK PP Tryz.f178 Q)
@[irreducible] def K3 (Q : VP) : EP := seqK (fun fr h => ev PP true none (cd 21) (an 21) (fr.mask 0) (K5 Q) h) (K5 Q)
@[irreducible] def K1 (Q : VP) : EP := blockK 0 (K3 Q)
@[irreducible] def K4 (Q : VP) : EP := seqK (fun fr h => ev PP true none (cd 7) (an 7) (fr.mask 5) (bodyK PP Tryz.f178 Q) h) (bodyK PP Tryz.f178 Q)
@[irreducible] def K2 (Q : VP) : EP := blockK 2 (K4 Q)
theorem L2_of {y40 : Value} {t1 t2 t3 : Addr} {K : EP} {h : Heap} (H :
∃ (t29 : ByteArray), cellH h t2 = some (.string t29) ∧
∃ (t30 : ByteArray), cellH h t1 = some (.string t30) ∧
SpecH PP F_strings_Index [.string t29, .string t30] h (fun v h1 => ∃ (t31 : Int), v = (.int .i64 t31) ∧
let t33 : Bool := decide (t31 < 0)
br t33 (
K (.exit 2) (X2 y40 t2) h1) (
∃ (t34 : ByteArray), cellH h1 t2 = some (.string t34) ∧
∃ (t36 : Int), cellH h1 t3 = some (.int .i64 t36) ∧
let t37 : Int := IntKind.i64.wrap (t31 + t36)
hwp PP (Instr.sliceAt y29 (.string t34) none (some (.int .i64 t37)) none) (fun v_1 h2 => ∃ (t38 : ByteArray), v_1 = (.string t38) ∧
callV PP y40 [.string t38] (fun v_2 h3 => ∃ (t41 : Bool), v_2 = (.bool t41) ∧
let t42 : Bool := (!t41)
br t42 (
K .ret (Xret) h3) (
∃ (t43 : ByteArray), cellH h3 t2 = some (.string t43) ∧
∃ (t45 : ByteArray), cellH h3 t1 = some (.string t45) ∧
let t46 : Int := (ByteArray.size t45 : Int)
let t47 : Int := IntKind.i64.wrap (t31 + t46)
hwp PP (Instr.sliceAt y29 (.string t43) (some (.int .i64 t47)) none none) (fun v_3 h4 => ∃ (t48 : ByteArray), v_3 = (.string t48) ∧
wr t2 (.string t48) (fun h5 =>
L2 y40 t1 t2 t3 K h5) h4) h3)) h2) h1))) : L2 y40 t1 t2 t3 K h := by unfold L2; exact Lp.of_txt (an 24) 15 (by kernel_rfl) H
theorem L2_Xret {Q : VP}  {h : Heap} (H :
Q (.tuple #[]) h) : (K2 Q) .ret (Xret ) h := y20 (by kernel_rfl) H
theorem L2_X2 {Q : VP} {y40 : Value} {t2 : Addr} {h : Heap} (H :
∃ (t50 : ByteArray), cellH h t2 = some (.string t50) ∧
callV PP y40 [.string t50] (fun v h1 => ∃ (t51 : Bool), v = (.bool t51) ∧
Q (.tuple #[]) h1) h) : (K2 Q) (.exit 2) (X2 y40 t2) h := y20 (by kernel_rfl) H
theorem door {y40 : Value} {t1 t2 t3 : Addr} {Q : VP} {h : Heap} (H :
∃ (t9 : ByteArray), cellH h t1 = some (.string t9) ∧
let t10 : Int := (ByteArray.size t9 : Int)
let t11 : Bool := (t10 == 0)
br t11 (
L1 y40 t2 (K1 Q) h) (
L2 y40 t1 t2 t3 (K2 Q) h)) : SpecH PP z385 [y40, (.pointer (some t1)), (.pointer (some t2)), (.pointer (some t3))] h Q :=
  y12 (ann := ann) Tryz.func178 rfl rfl (by kernel_rfl) H
end z384
namespace z435
def ann : Ann := (.seq 1 (rg 1 1) (.seq 0 (.block (.seq 9 (rg 7 9) (.join (.cond (.seq 4 (rg 1 4) (.exit 4)) (.seq 1024 (rg 7 1024) (.join (.cond (.seq 4 (rg 1 4) (.exit 4)) .leaf))))))) (.seq 4 (rg 1 4) (.exit 4))))
noncomputable abbrev cd := cdF Tryz.f182
abbrev an := anF ann
@[irreducible] def K2 (Q : VP) : EP := seqK (fun fr h => ev PP true none (cd 7) (an 7) (fr.mask 0) (bodyK PP Tryz.f182 Q) h) (bodyK PP Tryz.f182 Q)
@[irreducible] def K1 (Q : VP) : EP := blockK 0 (K2 Q)
@[irreducible] def J1 (r0 : Int) (t3 : Bool) (Q : VP) (h : Heap) : Prop := Jn PP true (cd 25) (mkFr 0 17 [(0, .int .i32 r0), (3, .bool t3)]) (K1 Q) h
@[irreducible] def J2 (t10 : Bool) (Q : VP) (h : Heap) : Prop := Jn PP true (cd 103) (mkFr 0 17 [(10, .bool t10)]) (K1 Q) h
theorem J1_of {r0 : Int} {t3 : Bool} {Q : VP} {h : Heap} (H :
br t3 (
Q (.bool true) h) (
let t12 : Bool := decide (57343 < r0)
br t12 (
let t15 : Bool := decide (r0 ≤ 1114111)
J2 t15 Q h) (
J2 false Q h))) : J1 r0 t3 Q h := by unfold J1; exact Jn.of_txt (an 25) (by kernel_rfl) H
theorem J2_of {t10 : Bool} {Q : VP} {h : Heap} (H :
br t10 (
Q (.bool true) h) (
Q (.bool false) h)) : J2 t10 Q h := by unfold J2; exact Jn.of_txt (an 103) (by kernel_rfl) H
theorem door {r0 : Int} {Q : VP} {h : Heap} (H :
let t5 : Bool := decide (0 ≤ r0)
br t5 (
let t8 : Bool := decide (r0 < 55296)
J1 r0 t8 Q h) (
J1 r0 false Q h)) : SpecH PP z436 [.int .i32 r0] h Q :=
  y12 (ann := ann) Tryz.func182 rfl rfl (by kernel_rfl) H
end z435
namespace z328
def ann : Ann := (.seq 271 (rg 3 271) (.block (.loop 271 (.seq 271 (.seq 16655 (rg 3 16655) (.cond .leaf (.exit 0))) (.seq 271 (.block (.seq 783 (rg 2 783) (.block (.loop 783 (.seq 783 (.seq 17179869967 (rg 17 17179869967) (.cond .leaf (.exit 271))) (.seq 783 (.block (rg 18 783)) (rg 3 783))))))) (rg 3 271))))))
noncomputable abbrev cd := cdF Tryz.f185
abbrev an := anF ann
@[irreducible] def X0  : Fr := (mkFr 0 53 [])
@[irreducible] def X2 (y8 : OA) (y7 y6 : Nat) (a1 b2 : Int) (cmp3 : Value) (i8 : Int) : Fr := (mkFr 0 53 [(0, (.slice y8 y7 y6)), (1, .int .i64 a1), (2, .int .i64 b2), (3, cmp3), (8, .int .i64 i8)])
@[irreducible] def L1 (y8 : OA) (y7 y6 : Nat) (a1 b2 : Int) (cmp3 : Value) (i8 : Int) (K : EP) (h : Heap) : Prop := Lp PP true (cd 12) (mkFr 0 53 [(0, (.slice y8 y7 y6)), (1, .int .i64 a1), (2, .int .i64 b2), (3, cmp3), (8, .int .i64 i8)]) K h
@[irreducible] def B1 (K : EP) : EP := seqK (fun fr h => Lp PP true (cd 12) (fr.mask 271) K h) K
@[irreducible] def K1 (Q : VP) : EP := blockK 0 (bodyK PP Tryz.f185 Q)
@[irreducible] def K4 (K : EP) : EP := seqK (fun fr h => ev PP true none (cd 51) (an 51) (fr.mask 271) (B1 K) h) (B1 K)
@[irreducible] def K3 (K : EP) : EP := blockK 1 (K4 K)
@[irreducible] def K2 (K : EP) : EP := blockK 2 (K3 K)
@[irreducible] def L2 (y8 : OA) (y7 y6 : Nat) (a1 b2 : Int) (cmp3 : Value) (i8 j9 : Int) (K : EP) (h : Heap) : Prop := Lp PP true (cd 804) (mkFr 0 53 [(0, (.slice y8 y7 y6)), (1, .int .i64 a1), (2, .int .i64 b2), (3, cmp3), (8, .int .i64 i8), (9, .int .i64 j9)]) K h
theorem L1_of {y8 : OA} {y7 y6 : Nat} {a1 b2 : Int} {cmp3 : Value} {i8 : Int} {K : EP} {h : Heap} (H :
let t14 : Bool := decide (i8 < b2)
br t14 (
L2 y8 y7 y6 a1 b2 cmp3 i8 i8 (K2 K) h) (
K (.exit 0) (X0) h)) : L1 y8 y7 y6 a1 b2 cmp3 i8 K h := by unfold L1; exact Lp.of_txt (an 12) 271 (by kernel_rfl) H
theorem L1_X0 {Q : VP}  {h : Heap} (H :
Q (.tuple #[]) h) : (K1 Q) (.exit 0) (X0 ) h := y20 (by kernel_rfl) H
theorem L2_of {y8 : OA} {y7 y6 : Nat} {a1 b2 : Int} {cmp3 : Value} {i8 j9 : Int} {K : EP} {h : Heap} (H :
let t20 : Bool := decide (j9 > a1)
br t20 (
hwp PP (Instr.indexAt y14 (.slice y8 y7 y6) (.int .i64 j9)) (fun v h1 => ∃ (t25 : Addr), v = (.pointer (some t25)) ∧
∃ (t26f0 t26f1 t26f2 : ByteArray), rdCells h1 t25 0 [.string t26f0, .string t26f1, .string t26f2] ∧
let t29 : Int := IntKind.i64.wrap (j9 - 1)
hwp PP (Instr.indexAt y14 (.slice y8 y7 y6) (.int .i64 t29)) (fun v_1 h2 => ∃ (t30 : Addr), v_1 = (.pointer (some t30)) ∧
∃ (t31f0 t31f1 t31f2 : ByteArray), rdCells h2 t30 0 [.string t31f0, .string t31f1, .string t31f2] ∧
callV PP cmp3 [(.agg #[.string t26f0, .string t26f1, .string t26f2]), (.agg #[.string t31f0, .string t31f1, .string t31f2])] (fun v_2 h3 => ∃ (t32 : Int), v_2 = (.int .i64 t32) ∧
let t33 : Bool := decide (t32 < 0)
br t33 (
let t41 : Int := IntKind.i64.wrap (j9 - 1)
let t44 : Int := IntKind.i64.wrap (j9 - 1)
hwp PP (Instr.indexAt y14 (.slice y8 y7 y6) (.int .i64 t44)) (fun v_3 h4 => ∃ (t45 : Addr), v_3 = (.pointer (some t45)) ∧
∃ (t46f0 t46f1 t46f2 : ByteArray), rdCells h4 t45 0 [.string t46f0, .string t46f1, .string t46f2] ∧
hwp PP (Instr.indexAt y14 (.slice y8 y7 y6) (.int .i64 j9)) (fun v_4 h5 => ∃ (t49 : Addr), v_4 = (.pointer (some t49)) ∧
∃ (t50f0 t50f1 t50f2 : ByteArray), rdCells h5 t49 0 [.string t50f0, .string t50f1, .string t50f2] ∧
hwp PP (Instr.indexAt y14 (.slice y8 y7 y6) (.int .i64 j9)) (fun v_5 h6 => ∃ (t51 : Addr), v_5 = (.pointer (some t51)) ∧
wrCells t51 0 [.string t46f0, .string t46f1, .string t46f2] (fun h7 =>
hwp PP (Instr.indexAt y14 (.slice y8 y7 y6) (.int .i64 t41)) (fun v_6 h8 => ∃ (t52 : Addr), v_6 = (.pointer (some t52)) ∧
wrCells t52 0 [.string t50f0, .string t50f1, .string t50f2] (fun h9 =>
let t36 : Int := IntKind.i64.wrap (j9 - 1)
L2 y8 y7 y6 a1 b2 cmp3 i8 t36 K h9) h8) h7) h6) h5) h4) h3) (
K (.exit 2) (X2 y8 y7 y6 a1 b2 cmp3 i8) h3)) h2) h1) h) (
K (.exit 2) (X2 y8 y7 y6 a1 b2 cmp3 i8) h)) : L2 y8 y7 y6 a1 b2 cmp3 i8 j9 K h := by unfold L2; exact Lp.of_txt (an 804) 783 (by kernel_rfl) H
theorem L2_X2 {K : EP} {y8 : OA} {y7 y6 : Nat} {a1 b2 : Int} {cmp3 : Value} {i8 : Int} {h : Heap} (H :
let t16 : Int := IntKind.i64.wrap (i8 + 1)
L1 y8 y7 y6 a1 b2 cmp3 t16 K h) : (K2 K) (.exit 2) (X2 y8 y7 y6 a1 b2 cmp3 i8) h := y20 (by kernel_rfl) H
theorem door {y8 : OA} {y7 y6 : Nat} {a1 b2 : Int} {cmp3 : Value} {Q : VP} {h : Heap} (H :
let t11 : Int := IntKind.i64.wrap (a1 + 1)
L1 y8 y7 y6 a1 b2 cmp3 t11 (K1 Q) h) : SpecH PP z329 [(.slice y8 y7 y6), .int .i64 a1, .int .i64 b2, cmp3] h Q :=
  y12 (ann := ann) Tryz.func185 rfl rfl (by kernel_rfl) H
end z328
namespace z324
def ann : Ann := (.seq 271 (rg 2 271) (.seq 783 (rg 1 783) (.seq 1801 (rg 4 1801) (.seq 1801 (.seq 3849 (rg 4 3849) (.block (.loop 3849 (.seq 3849 (.seq 2101001 (rg 2 2101001) (.cond .leaf (.exit 1801))) (.seq 3849 (.block (rg 6 3849)) (rg 3 3849)))))) (.seq 4873 (rg 3 4873) (.block (.loop 4873 (.seq 4873 (.seq 8589939465 (rg 2 8589939465) (.cond .leaf (.exit 0))) (.seq 4873 (.block (.seq 4873 (rg 20 4873) (rg 6 4873))) (rg 3 4873))))))))))
noncomputable abbrev cd := cdF Tryz.f186
abbrev an := anF ann
@[irreducible] def X0 (y8 : OA) (y7 y6 : Nat) (cmp3 : Value) (y66 lo9 hi10 : Int) : Fr := (mkFr 0 60 [(0, (.slice y8 y7 y6)), (3, cmp3), (8, .int .i64 y66), (9, .int .i64 lo9), (10, .int .i64 hi10)])
@[irreducible] def X2  : Fr := (mkFr 0 60 [])
@[irreducible] def L1 (y8 : OA) (y7 y6 : Nat) (cmp3 : Value) (y66 lo9 hi10 i11 : Int) (K : EP) (h : Heap) : Prop := Lp PP true (cd 244) (mkFr 0 60 [(0, (.slice y8 y7 y6)), (3, cmp3), (8, .int .i64 y66), (9, .int .i64 lo9), (10, .int .i64 hi10), (11, .int .i64 i11)]) K h
@[irreducible] def K3 (Q : VP) : EP := seqK (fun fr h => ev PP true none (cd 31) (an 31) (fr.mask 1801) (bodyK PP Tryz.f186 Q) h) (bodyK PP Tryz.f186 Q)
@[irreducible] def K1 (Q : VP) : EP := blockK 0 (K3 Q)
@[irreducible] def K2 (Q : VP) : EP := blockK 2 (bodyK PP Tryz.f186 Q)
@[irreducible] def L2 (y8 : OA) (y7 y6 : Nat) (cmp3 : Value) (y66 lo9 i12 : Int) (K : EP) (h : Heap) : Prop := Lp PP true (cd 252) (mkFr 0 60 [(0, (.slice y8 y7 y6)), (3, cmp3), (8, .int .i64 y66), (9, .int .i64 lo9), (12, .int .i64 i12)]) K h
theorem L1_of {y8 : OA} {y7 y6 : Nat} {cmp3 : Value} {y66 lo9 hi10 i11 : Int} {K : EP} {h : Heap} (H :
let t21 : Bool := decide (i11 ≥ 0)
br t21 (
SpecH PP z367 [(.slice y8 y7 y6), .int .i64 i11, .int .i64 hi10, .int .i64 y66, cmp3] h (fun v h1 => v = (.tuple #[]) ∧
let t23 : Int := IntKind.i64.wrap (i11 - 1)
L1 y8 y7 y6 cmp3 y66 lo9 hi10 t23 K h1)) (
K (.exit 0) (X0 y8 y7 y6 cmp3 y66 lo9 hi10) h)) : L1 y8 y7 y6 cmp3 y66 lo9 hi10 i11 K h := by unfold L1; exact Lp.of_txt (an 244) 3849 (by kernel_rfl) H
theorem L1_X0 {Q : VP} {y8 : OA} {y7 y6 : Nat} {cmp3 : Value} {y66 lo9 hi10 : Int} {h : Heap} (H :
let t31 : Int := IntKind.i64.wrap (hi10 - 1)
L2 y8 y7 y6 cmp3 y66 lo9 t31 (K2 Q) h) : (K1 Q) (.exit 0) (X0 y8 y7 y6 cmp3 y66 lo9 hi10) h := y20 (by kernel_rfl) H
theorem L2_of {y8 : OA} {y7 y6 : Nat} {cmp3 : Value} {y66 lo9 i12 : Int} {K : EP} {h : Heap} (H :
let t33 : Bool := decide (i12 ≥ 0)
br t33 (
let t41 : Int := IntKind.i64.wrap (y66 + i12)
let t45 : Int := IntKind.i64.wrap (y66 + i12)
hwp PP (Instr.indexAt y14 (.slice y8 y7 y6) (.int .i64 t45)) (fun v h1 => ∃ (t46 : Addr), v = (.pointer (some t46)) ∧
∃ (t47f0 t47f1 t47f2 : ByteArray), rdCells h1 t46 0 [.string t47f0, .string t47f1, .string t47f2] ∧
hwp PP (Instr.indexAt y14 (.slice y8 y7 y6) (.int .i64 y66)) (fun v_1 h2 => ∃ (t50 : Addr), v_1 = (.pointer (some t50)) ∧
∃ (t51f0 t51f1 t51f2 : ByteArray), rdCells h2 t50 0 [.string t51f0, .string t51f1, .string t51f2] ∧
hwp PP (Instr.indexAt y14 (.slice y8 y7 y6) (.int .i64 y66)) (fun v_2 h3 => ∃ (t52 : Addr), v_2 = (.pointer (some t52)) ∧
wrCells t52 0 [.string t47f0, .string t47f1, .string t47f2] (fun h4 =>
hwp PP (Instr.indexAt y14 (.slice y8 y7 y6) (.int .i64 t41)) (fun v_3 h5 => ∃ (t53 : Addr), v_3 = (.pointer (some t53)) ∧
wrCells t53 0 [.string t51f0, .string t51f1, .string t51f2] (fun h6 =>
SpecH PP z367 [(.slice y8 y7 y6), .int .i64 lo9, .int .i64 i12, .int .i64 y66, cmp3] h6 (fun v_4 h7 => v_4 = (.tuple #[]) ∧
let t35 : Int := IntKind.i64.wrap (i12 - 1)
L2 y8 y7 y6 cmp3 y66 lo9 t35 K h7)) h5) h4) h3) h2) h1) h) (
K (.exit 2) (X2) h)) : L2 y8 y7 y6 cmp3 y66 lo9 i12 K h := by unfold L2; exact Lp.of_txt (an 252) 4873 (by kernel_rfl) H
theorem L2_X2 {Q : VP}  {h : Heap} (H :
Q (.tuple #[]) h) : (K2 Q) (.exit 2) (X2 ) h := y20 (by kernel_rfl) H
theorem door {y8 : OA} {y7 y6 : Nat} {a1 b2 : Int} {cmp3 : Value} {Q : VP} {h : Heap} (H :
let t16 : Int := IntKind.i64.wrap (b2 - a1)
let t18 : Int := IntKind.i64.wrap (t16 - 1)
let t19 : Int := IntKind.i64.wrap (Int.tdiv t18 2)
L1 y8 y7 y6 cmp3 a1 0 t16 t19 (K1 Q) h) : SpecH PP z325 [(.slice y8 y7 y6), .int .i64 a1, .int .i64 b2, cmp3] h Q :=
  y12 (ann := ann) Tryz.func186 rfl rfl (by kernel_rfl) H
end z324
namespace z316
def ann : Ann := (.seq 259 (rg 4 259) (.seq 131331 (rg 2 131331) (.cond (.seq 771 (rg 4 771) (.seq 1795 (rg 3 1795) (.seq 3843 (rg 7 3843) (.block (.loop 3843 (.seq 3843 (.seq 34359742211 (rg 8 34359742211) (.cond .leaf (.exit 0))) (.seq 3843 (.block (.seq 7939 (rg 6 7939) (.seq 7939 (.seq 35184372096771 (rg 3 35184372096771) (.cond (rg 4 7939) .leaf)) (.join (rg 20 3843))))) (rg 3 3843)))))))) .leaf)))
noncomputable abbrev cd := cdF Tryz.f187
abbrev an := anF ann
@[irreducible] def X0  : Fr := (mkFr 0 67 [])
@[irreducible] def L1 (y8 : OA) (y7 y6 : Nat) (a1 y85 : Int) (y80 : Addr) (y79 idx11 : Int) (K : EP) (h : Heap) : Prop := Lp PP true (cd 476) (mkFr 0 67 [(0, (.slice y8 y7 y6)), (1, .int .i64 a1), (8, .int .i64 y85), (9, (.pointer (some y80))), (10, .int .u64 y79), (11, .int .i64 idx11)]) K h
@[irreducible] def B1 (K : EP) : EP := seqK (fun fr h => Lp PP true (cd 476) (fr.mask 3843) K h) K
@[irreducible] def K3 (K : EP) : EP := seqK (fun fr h => ev PP true none (cd 1907) (an 1907) (fr.mask 3843) (B1 K) h) (B1 K)
@[irreducible] def K2 (K : EP) : EP := blockK 1 (K3 K)
@[irreducible] def J1 (y8 : OA) (y7 y6 : Nat) (a1 y85 : Int) (y80 : Addr) (y79 idx11 other12 : Int) (K : EP) (h : Heap) : Prop := Jn PP true (cd 15251) (mkFr 0 67 [(0, (.slice y8 y7 y6)), (1, .int .i64 a1), (8, .int .i64 y85), (9, (.pointer (some y80))), (10, .int .u64 y79), (11, .int .i64 idx11), (12, .int .i64 other12)]) (K2 K) h
@[irreducible] def K1 (Q : VP) : EP := blockK 0 (bodyK PP Tryz.f187 Q)
theorem L1_of {y8 : OA} {y7 y6 : Nat} {a1 y85 : Int} {y80 : Addr} {y79 idx11 : Int} {K : EP} {h : Heap} (H :
let t31 : Int := IntKind.i64.wrap (Int.tdiv y85 4)
let t32 : Int := IntKind.i64.wrap (t31 * 2)
let t33 : Int := IntKind.i64.wrap (a1 + t32)
let t34 : Int := IntKind.i64.wrap (t33 + 1)
let t35 : Bool := decide (idx11 ≤ t34)
br t35 (
SpecH PP z371 [(.pointer (some y80))] h (fun v h1 => ∃ (t38 : Int), v = (.int .u64 t38) ∧
let t40 : Int := IntKind.u64.wrap (y79 - 1)
let t41 : Int := bAnd .u64 t38 t40
let t42 : Int := IntKind.i64.wrap t41
let t45 : Bool := decide (t42 ≥ y85)
br t45 (
let t48 : Int := IntKind.i64.wrap (t42 - y85)
J1 y8 y7 y6 a1 y85 y80 y79 idx11 t48 K h1) (
J1 y8 y7 y6 a1 y85 y80 y79 idx11 t42 K h1))) (
K (.exit 0) (X0) h)) : L1 y8 y7 y6 a1 y85 y80 y79 idx11 K h := by unfold L1; exact Lp.of_txt (an 476) 3843 (by kernel_rfl) H
theorem L1_X0 {Q : VP}  {h : Heap} (H :
Q (.tuple #[]) h) : (K1 Q) (.exit 0) (X0 ) h := y20 (by kernel_rfl) H
theorem J1_of {y8 : OA} {y7 y6 : Nat} {a1 y85 : Int} {y80 : Addr} {y79 idx11 other12 : Int} {K : EP} {h : Heap} (H :
let t54 : Int := IntKind.i64.wrap (a1 + other12)
let t58 : Int := IntKind.i64.wrap (a1 + other12)
hwp PP (Instr.indexAt y14 (.slice y8 y7 y6) (.int .i64 t58)) (fun v h1 => ∃ (t59 : Addr), v = (.pointer (some t59)) ∧
∃ (t60f0 t60f1 t60f2 : ByteArray), rdCells h1 t59 0 [.string t60f0, .string t60f1, .string t60f2] ∧
hwp PP (Instr.indexAt y14 (.slice y8 y7 y6) (.int .i64 idx11)) (fun v_1 h2 => ∃ (t63 : Addr), v_1 = (.pointer (some t63)) ∧
∃ (t64f0 t64f1 t64f2 : ByteArray), rdCells h2 t63 0 [.string t64f0, .string t64f1, .string t64f2] ∧
hwp PP (Instr.indexAt y14 (.slice y8 y7 y6) (.int .i64 idx11)) (fun v_2 h3 => ∃ (t65 : Addr), v_2 = (.pointer (some t65)) ∧
wrCells t65 0 [.string t60f0, .string t60f1, .string t60f2] (fun h4 =>
hwp PP (Instr.indexAt y14 (.slice y8 y7 y6) (.int .i64 t54)) (fun v_3 h5 => ∃ (t66 : Addr), v_3 = (.pointer (some t66)) ∧
wrCells t66 0 [.string t64f0, .string t64f1, .string t64f2] (fun h6 =>
let t37 : Int := IntKind.i64.wrap (idx11 + 1)
L1 y8 y7 y6 a1 y85 y80 y79 t37 K h6) h5) h4) h3) h2) h1) h) : J1 y8 y7 y6 a1 y85 y80 y79 idx11 other12 K h := by unfold J1; exact Jn.of_txt (an 15251) (by kernel_rfl) H
theorem door {y8 : OA} {y7 y6 : Nat} {a1 b2 : Int} {cmp3 : Value} {Q : VP} {h : Heap} (H :
let t15 : Int := IntKind.i64.wrap (b2 - a1)
let t17 : Bool := decide (t15 ≥ 8)
br t17 (
let t19 : Int := IntKind.u64.wrap t15
let y80 : Addr := ⟨Array.size h, 0, none⟩
let h1 : Heap := Array.push h (.cells #[.int .u64 0] y76 (0, 0))
wr y80 (.int .u64 t19) (fun h2 =>
SpecH PP z341 [.int .i64 t15] h2 (fun v h3 => ∃ (t21 : Int), v = (.int .u64 t21) ∧
let t24 : Int := IntKind.i64.wrap (Int.tdiv t15 4)
let t25 : Int := IntKind.i64.wrap (t24 * 2)
let t26 : Int := IntKind.i64.wrap (a1 + t25)
let t27 : Int := IntKind.i64.wrap (t26 - 1)
L1 y8 y7 y6 a1 t15 y80 t21 t27 (K1 Q) h3)) h1) (
Q (.tuple #[]) h)) : SpecH PP z317 [(.slice y8 y7 y6), .int .i64 a1, .int .i64 b2, cmp3] h Q :=
  y12 (ann := ann) Tryz.func187 rfl rfl (by kernel_rfl) H
end z316
namespace z320
def ann : Ann := (.seq 15 (rg 2 15) (.seq 1035 (rg 4 1035) (.seq 3083 (rg 1 3083) (.seq 7179 (rg 6 7179) (.seq 15371 (rg 6 15371) (.seq 31753 (rg 6 31753) (.seq 10240 (.seq 17179900937 (rg 2 17179900937) (.cond (.seq 30729 (.seq 68719507465 (rg 2 68719507465) (.cond (.seq 30729 (rg 5 30729) (.seq 30729 (rg 5 30729) (rg 5 30729))) .leaf)) (.join (rg 7 10240))) .leaf)) (.join (.seq 36028797018972160 (rg 1 36028797018972160) (.block (.seq 180143985094828032 (rg 2 180143985094828032) (.cond (.seq 768 (rg 3 768) (.exit 768)) (.seq 1152921504606855168 (rg 2 1152921504606855168) (.cond (.seq 768 (rg 3 768) (.exit 768)) (.seq 768 (rg 3 768) (.exit 768))))))))))))))))
noncomputable abbrev cd := cdF Tryz.f188
abbrev an := anF ann
@[irreducible] def K1 (Q : VP) : EP := seqK (fun fr h => Jn PP true (cd 255) (fr.mask 10240) (bodyK PP Tryz.f188 Q) h) (bodyK PP Tryz.f188 Q)
@[irreducible] def J1 (y8 : OA) (y7 y6 : Nat) (cmp3 : Value) (y67 : Addr) (i12 j13 k14 : Int) (Q : VP) (h : Heap) : Prop := Jn PP true (cd 2037) (mkFr 0 63 [(0, (.slice y8 y7 y6)), (3, cmp3), (11, (.pointer (some y67))), (12, .int .i64 i12), (13, .int .i64 j13), (14, .int .i64 k14)]) (K1 Q) h
@[irreducible] def J2 (y67 : Addr) (j13 : Int) (Q : VP) (h : Heap) : Prop := Jn PP true (cd 255) (mkFr 0 63 [(11, (.pointer (some y67))), (13, .int .i64 j13)]) (bodyK PP Tryz.f188 Q) h
theorem J1_of {y8 : OA} {y7 y6 : Nat} {cmp3 : Value} {y67 : Addr} {i12 j13 k14 : Int} {Q : VP} {h : Heap} (H :
SpecH PP z337 [(.slice y8 y7 y6), .int .i64 i12, .int .i64 j13, .int .i64 k14, (.pointer (some y67)), cmp3] h (fun v h1 => ∃ (t54 : Int), v = (.int .i64 t54) ∧
J2 y67 t54 Q h1)) : J1 y8 y7 y6 cmp3 y67 i12 j13 k14 Q h := by unfold J1; exact Jn.of_txt (an 2037) (by kernel_rfl) H
theorem J2_of {y67 : Addr} {j13 : Int} {Q : VP} {h : Heap} (H :
∃ (t55 : Int), cellH h y67 = some (.int .i64 t55) ∧
let t58 : Bool := (t55 == 0)
br t58 (
Q (.tuple #[.int .i64 j13, .int .i64 1]) h) (
let t61 : Bool := (t55 == 12)
br t61 (
Q (.tuple #[.int .i64 j13, .int .i64 2]) h) (
Q (.tuple #[.int .i64 j13, .int .i64 0]) h))) : J2 y67 j13 Q h := by unfold J2; exact Jn.of_txt (an 255) (by kernel_rfl) H
theorem door {y8 : OA} {y7 y6 : Nat} {a1 b2 : Int} {cmp3 : Value} {Q : VP} {h : Heap} (H :
let t17 : Int := IntKind.i64.wrap (b2 - a1)
let y67 : Addr := ⟨Array.size h, 0, none⟩
let h1 : Heap := Array.push h (.cells #[.int .i64 0] y63 (0, 0))
let t20 : Int := IntKind.i64.wrap (Int.tdiv t17 4)
let t21 : Int := IntKind.i64.wrap (t20 * 1)
let t22 : Int := IntKind.i64.wrap (a1 + t21)
let t25 : Int := IntKind.i64.wrap (Int.tdiv t17 4)
let t26 : Int := IntKind.i64.wrap (t25 * 2)
let t27 : Int := IntKind.i64.wrap (a1 + t26)
let t30 : Int := IntKind.i64.wrap (Int.tdiv t17 4)
let t31 : Int := IntKind.i64.wrap (t30 * 3)
let t32 : Int := IntKind.i64.wrap (a1 + t31)
let t34 : Bool := decide (t17 ≥ 8)
br t34 (
let t36 : Bool := decide (t17 ≥ 50)
br t36 (
SpecH PP z333 [(.slice y8 y7 y6), .int .i64 t22, (.pointer (some y67)), cmp3] h1 (fun v h2 => ∃ (t40 : Int), v = (.int .i64 t40) ∧
SpecH PP z333 [(.slice y8 y7 y6), .int .i64 t27, (.pointer (some y67)), cmp3] h2 (fun v_1 h3 => ∃ (t44 : Int), v_1 = (.int .i64 t44) ∧
SpecH PP z333 [(.slice y8 y7 y6), .int .i64 t32, (.pointer (some y67)), cmp3] h3 (fun v_2 h4 => ∃ (t48 : Int), v_2 = (.int .i64 t48) ∧
J1 y8 y7 y6 cmp3 y67 t40 t44 t48 Q h4)))) (
J1 y8 y7 y6 cmp3 y67 t22 t27 t32 Q h1)) (
J2 y67 t27 Q h1)) : SpecH PP z321 [(.slice y8 y7 y6), .int .i64 a1, .int .i64 b2, cmp3] h Q :=
  y12 (ann := ann) Tryz.func188 rfl rfl (by kernel_rfl) H
end z320
namespace z362
def ann : Ann := (.seq 261 (rg 2 261) (.seq 769 (rg 3 769) (.block (.loop 769 (.seq 769 (.seq 33537 (rg 3 33537) (.cond .leaf (.exit 0))) (.block (.seq 769 (rg 16 769) (.seq 769 (rg 3 769) (rg 3 769)))))))))
noncomputable abbrev cd := cdF Tryz.f189
abbrev an := anF ann
@[irreducible] def X0  : Fr := (mkFr 0 34 [])
@[irreducible] def L1 (y8 : OA) (y7 y6 : Nat) (i8 j9 : Int) (K : EP) (h : Heap) : Prop := Lp PP true (cd 28) (mkFr 0 34 [(0, (.slice y8 y7 y6)), (8, .int .i64 i8), (9, .int .i64 j9)]) K h
@[irreducible] def K1 (Q : VP) : EP := blockK 0 (bodyK PP Tryz.f189 Q)
theorem L1_of {y8 : OA} {y7 y6 : Nat} {i8 j9 : Int} {K : EP} {h : Heap} (H :
let t15 : Bool := decide (i8 < j9)
br t15 (
hwp PP (Instr.indexAt y14 (.slice y8 y7 y6) (.int .i64 j9)) (fun v h1 => ∃ (t22 : Addr), v = (.pointer (some t22)) ∧
∃ (t23f0 t23f1 t23f2 : ByteArray), rdCells h1 t22 0 [.string t23f0, .string t23f1, .string t23f2] ∧
hwp PP (Instr.indexAt y14 (.slice y8 y7 y6) (.int .i64 i8)) (fun v_1 h2 => ∃ (t26 : Addr), v_1 = (.pointer (some t26)) ∧
∃ (t27f0 t27f1 t27f2 : ByteArray), rdCells h2 t26 0 [.string t27f0, .string t27f1, .string t27f2] ∧
hwp PP (Instr.indexAt y14 (.slice y8 y7 y6) (.int .i64 i8)) (fun v_2 h3 => ∃ (t28 : Addr), v_2 = (.pointer (some t28)) ∧
wrCells t28 0 [.string t23f0, .string t23f1, .string t23f2] (fun h4 =>
hwp PP (Instr.indexAt y14 (.slice y8 y7 y6) (.int .i64 j9)) (fun v_3 h5 => ∃ (t29 : Addr), v_3 = (.pointer (some t29)) ∧
wrCells t29 0 [.string t27f0, .string t27f1, .string t27f2] (fun h6 =>
let t31 : Int := IntKind.i64.wrap (i8 + 1)
let t33 : Int := IntKind.i64.wrap (j9 - 1)
L1 y8 y7 y6 t31 t33 K h6) h5) h4) h3) h2) h1) h) (
K (.exit 0) (X0) h)) : L1 y8 y7 y6 i8 j9 K h := by unfold L1; exact Lp.of_txt (an 28) 769 (by kernel_rfl) H
theorem L1_X0 {Q : VP}  {h : Heap} (H :
Q (.tuple #[]) h) : (K1 Q) (.exit 0) (X0 ) h := y20 (by kernel_rfl) H
theorem door {y8 : OA} {y7 y6 : Nat} {a1 b2 : Int} {cmp3 : Value} {Q : VP} {h : Heap} (H :
let t12 : Int := IntKind.i64.wrap (b2 - 1)
L1 y8 y7 y6 a1 t12 (K1 Q) h) : SpecH PP z363 [(.slice y8 y7 y6), .int .i64 a1, .int .i64 b2, cmp3] h Q :=
  y12 (ann := ann) Tryz.func189 rfl rfl (by kernel_rfl) H
end z362
namespace z346
def ann : Ann := (.seq 15 (rg 1 15) (.seq 527 (rg 3 527) (.seq 0 (.seq 1551 (rg 1 1551) (.block (.loop 1551 (.seq 1551 (.seq 67087 (rg 2 67087) (.cond .leaf (.exit 0))) (.seq 1551 (.block (.seq 1551 (.block (.loop 1551 (.seq 1551 (.seq 68719478287 (rg 18 68719478287) (.cond .leaf (.exit 1551))) (.block (rg 3 1551))))) (.seq 1551 (.seq 2199023257103 (rg 3 2199023257103) (.cond (.seq 256 (rg 1 256) (.exit 256)) .leaf)) (.seq 1551 (.seq 35184372090383 (rg 4 35184372090383) (.cond (.seq 256 (rg 1 256) (.exit 256)) .leaf)) (.seq 1551 (rg 18 1551) (.seq 1551 (.seq 36893488147419104783 (rg 4 36893488147419104783) (.cond (.seq 3599 (rg 3 3599) (.block (.loop 3599 (.seq 3599 (.seq 590295810358705655311 (rg 2 590295810358705655311) (.cond .leaf (.exit 1551))) (.seq 3599 (.block (.seq 3599 (.seq 19342813113834066795302415 (rg 13 19342813113834066795302415) (.cond (.exit 1551) .leaf)) (rg 18 3599))) (rg 3 3599)))))) .leaf)) (.join (.seq 20282409603651670423947251287567 (rg 4 20282409603651670423947251287567) (.cond (.seq 5647 (rg 3 5647) (.block (.loop 5647 (.seq 5647 (.seq 649037107316853453566312041158159 (rg 3 649037107316853453566312041158159) (.cond .leaf (.exit 1551))) (.seq 5647 (.block (.seq 5647 (.seq 21267647932558653966460912964485518863 (rg 13 21267647932558653966460912964485518863) (.cond (.exit 1551) .leaf)) (rg 18 5647))) (rg 3 5647)))))) .leaf))))))))) (.join (rg 3 1551))))))) (.seq 256 (rg 1 256) (.exit 256)))))
noncomputable abbrev cd := cdF Tryz.f190
abbrev an := anF ann
@[irreducible] def X0  : Fr := (mkFr 0 141 [])
@[irreducible] def X2 (y8 : OA) (y7 y6 : Nat) (a1 b2 : Int) (cmp3 : Value) (i9 j10 : Int) : Fr := (mkFr 0 141 [(0, (.slice y8 y7 y6)), (1, .int .i64 a1), (2, .int .i64 b2), (3, cmp3), (9, .int .i64 i9), (10, .int .i64 j10)])
@[irreducible] def Xret (t8 : Bool) : Fr := (mkFr 0 141 [(8, .bool t8)])
@[irreducible] def X4 (y8 : OA) (y7 y6 : Nat) (a1 b2 : Int) (cmp3 : Value) (i9 j10 : Int) : Fr := (mkFr 0 141 [(0, (.slice y8 y7 y6)), (1, .int .i64 a1), (2, .int .i64 b2), (3, cmp3), (9, .int .i64 i9), (10, .int .i64 j10)])
@[irreducible] def X6 (y8 : OA) (y7 y6 : Nat) (a1 b2 : Int) (cmp3 : Value) (i9 j10 : Int) : Fr := (mkFr 0 141 [(0, (.slice y8 y7 y6)), (1, .int .i64 a1), (2, .int .i64 b2), (3, cmp3), (9, .int .i64 i9), (10, .int .i64 j10)])
@[irreducible] def L1 (y8 : OA) (y7 y6 : Nat) (a1 b2 : Int) (cmp3 : Value) (i9 j10 : Int) (K : EP) (h : Heap) : Prop := Lp PP true (cd 116) (mkFr 0 141 [(0, (.slice y8 y7 y6)), (1, .int .i64 a1), (2, .int .i64 b2), (3, cmp3), (9, .int .i64 i9), (10, .int .i64 j10)]) K h
@[irreducible] def B1 (K : EP) : EP := seqK (fun fr h => Lp PP true (cd 116) (fr.mask 1551) K h) K
@[irreducible] def K3 (Q : VP) : EP := seqK (fun fr h => ev PP true none (cd 15) (an 15) (fr.mask 0) (bodyK PP Tryz.f190 Q) h) (bodyK PP Tryz.f190 Q)
@[irreducible] def K1 (Q : VP) : EP := blockK 0 (K3 Q)
@[irreducible] def K9 (K : EP) : EP := seqK (fun fr h => Jn PP true (cd 467) (fr.mask 1551) (B1 K) h) (B1 K)
@[irreducible] def K6 (K : EP) : EP := blockK 1 (K9 K)
@[irreducible] def K4 (K : EP) : EP := seqK (fun fr h => ev PP true none (cd 1865) (an 1865) (fr.mask 1551) (K6 K) h) (K6 K)
@[irreducible] def K2 (K : EP) : EP := blockK 2 (K4 K)
@[irreducible] def L2 (y8 : OA) (y7 y6 : Nat) (a1 b2 : Int) (cmp3 : Value) (i9 j10 : Int) (K : EP) (h : Heap) : Prop := Lp PP true (cd 7456) (mkFr 0 141 [(0, (.slice y8 y7 y6)), (1, .int .i64 a1), (2, .int .i64 b2), (3, cmp3), (9, .int .i64 i9), (10, .int .i64 j10)]) K h
@[irreducible] def J1 (y8 : OA) (y7 y6 : Nat) (a1 b2 : Int) (cmp3 : Value) (i9 j10 : Int) (K : EP) (h : Heap) : Prop := Jn PP true (cd 29855) (mkFr 0 141 [(0, (.slice y8 y7 y6)), (1, .int .i64 a1), (2, .int .i64 b2), (3, cmp3), (9, .int .i64 i9), (10, .int .i64 j10)]) (K6 K) h
@[irreducible] def K8 (K : EP) : EP := seqK (fun fr h => Jn PP true (cd 29855) (fr.mask 1551) (K6 K) h) (K6 K)
@[irreducible] def K5 (K : EP) : EP := blockK 4 (K8 K)
@[irreducible] def K7 (K : EP) : EP := blockK 6 (K6 K)
@[irreducible] def L3 (y8 : OA) (y7 y6 : Nat) (a1 b2 : Int) (cmp3 : Value) (i9 j10 j11 : Int) (K : EP) (h : Heap) : Prop := Lp PP true (cd 955348) (mkFr 0 141 [(0, (.slice y8 y7 y6)), (1, .int .i64 a1), (2, .int .i64 b2), (3, cmp3), (9, .int .i64 i9), (10, .int .i64 j10), (11, .int .i64 j11)]) K h
@[irreducible] def L4 (y8 : OA) (y7 y6 : Nat) (a1 b2 : Int) (cmp3 : Value) (i9 j10 j12 : Int) (K : EP) (h : Heap) : Prop := Lp PP true (cd 955380) (mkFr 0 141 [(0, (.slice y8 y7 y6)), (1, .int .i64 a1), (2, .int .i64 b2), (3, cmp3), (9, .int .i64 i9), (10, .int .i64 j10), (12, .int .i64 j12)]) K h
@[irreducible] def J2 (y8 : OA) (y7 y6 : Nat) (a1 b2 : Int) (cmp3 : Value) (i9 j10 : Int) (K : EP) (h : Heap) : Prop := Jn PP true (cd 467) (mkFr 0 141 [(0, (.slice y8 y7 y6)), (1, .int .i64 a1), (2, .int .i64 b2), (3, cmp3), (9, .int .i64 i9), (10, .int .i64 j10)]) (B1 K) h
theorem L1_of {y8 : OA} {y7 y6 : Nat} {a1 b2 : Int} {cmp3 : Value} {i9 j10 : Int} {K : EP} {h : Heap} (H :
let t16 : Bool := decide (j10 < 5)
br t16 (
L2 y8 y7 y6 a1 b2 cmp3 i9 j10 (K2 K) h) (
K (.exit 0) (X0) h)) : L1 y8 y7 y6 a1 b2 cmp3 i9 j10 K h := by unfold L1; exact Lp.of_txt (an 116) 1551 (by kernel_rfl) H
theorem L1_X0 {Q : VP}  {h : Heap} (H :
Q (.bool false) h) : (K1 Q) (.exit 0) (X0 ) h := y20 (by kernel_rfl) H
theorem L2_of {y8 : OA} {y7 y6 : Nat} {a1 b2 : Int} {cmp3 : Value} {i9 j10 : Int} {K : EP} {h : Heap} (H :
let t21 : Bool := decide (i9 < b2)
br t21 (
hwp PP (Instr.indexAt y14 (.slice y8 y7 y6) (.int .i64 i9)) (fun v h1 => ∃ (t26 : Addr), v = (.pointer (some t26)) ∧
∃ (t27f0 t27f1 t27f2 : ByteArray), rdCells h1 t26 0 [.string t27f0, .string t27f1, .string t27f2] ∧
let t30 : Int := IntKind.i64.wrap (i9 - 1)
hwp PP (Instr.indexAt y14 (.slice y8 y7 y6) (.int .i64 t30)) (fun v_1 h2 => ∃ (t31 : Addr), v_1 = (.pointer (some t31)) ∧
∃ (t32f0 t32f1 t32f2 : ByteArray), rdCells h2 t31 0 [.string t32f0, .string t32f1, .string t32f2] ∧
callV PP cmp3 [(.agg #[.string t27f0, .string t27f1, .string t27f2]), (.agg #[.string t32f0, .string t32f1, .string t32f2])] (fun v_2 h3 => ∃ (t33 : Int), v_2 = (.int .i64 t33) ∧
let t34 : Bool := decide (t33 < 0)
let t35 : Bool := (!t34)
br t35 (
let t38 : Int := IntKind.i64.wrap (i9 + 1)
L2 y8 y7 y6 a1 b2 cmp3 t38 j10 K h3) (
K (.exit 2) (X2 y8 y7 y6 a1 b2 cmp3 i9 j10) h3)) h2) h1) h) (
K (.exit 2) (X2 y8 y7 y6 a1 b2 cmp3 i9 j10) h)) : L2 y8 y7 y6 a1 b2 cmp3 i9 j10 K h := by unfold L2; exact Lp.of_txt (an 7456) 1551 (by kernel_rfl) H
theorem L2_X2 {K : EP} {y8 : OA} {y7 y6 : Nat} {a1 b2 : Int} {cmp3 : Value} {i9 j10 : Int} {h : Heap} (H :
let t41 : Bool := (i9 == b2)
br t41 (
K .ret (Xret true) h) (
let t44 : Int := IntKind.i64.wrap (b2 - a1)
let t45 : Bool := decide (t44 < 50)
br t45 (
K .ret (Xret false) h) (
let t50 : Int := IntKind.i64.wrap (i9 - 1)
let t53 : Int := IntKind.i64.wrap (i9 - 1)
hwp PP (Instr.indexAt y14 (.slice y8 y7 y6) (.int .i64 t53)) (fun v h1 => ∃ (t54 : Addr), v = (.pointer (some t54)) ∧
∃ (t55f0 t55f1 t55f2 : ByteArray), rdCells h1 t54 0 [.string t55f0, .string t55f1, .string t55f2] ∧
hwp PP (Instr.indexAt y14 (.slice y8 y7 y6) (.int .i64 i9)) (fun v_1 h2 => ∃ (t58 : Addr), v_1 = (.pointer (some t58)) ∧
∃ (t59f0 t59f1 t59f2 : ByteArray), rdCells h2 t58 0 [.string t59f0, .string t59f1, .string t59f2] ∧
hwp PP (Instr.indexAt y14 (.slice y8 y7 y6) (.int .i64 i9)) (fun v_2 h3 => ∃ (t60 : Addr), v_2 = (.pointer (some t60)) ∧
wrCells t60 0 [.string t55f0, .string t55f1, .string t55f2] (fun h4 =>
hwp PP (Instr.indexAt y14 (.slice y8 y7 y6) (.int .i64 t50)) (fun v_3 h5 => ∃ (t61 : Addr), v_3 = (.pointer (some t61)) ∧
wrCells t61 0 [.string t59f0, .string t59f1, .string t59f2] (fun h6 =>
let t64 : Int := IntKind.i64.wrap (i9 - a1)
let t65 : Bool := decide (t64 ≥ 2)
br t65 (
let t67 : Int := IntKind.i64.wrap (i9 - 1)
L3 y8 y7 y6 a1 b2 cmp3 i9 j10 t67 (K5 K) h6) (
J1 y8 y7 y6 a1 b2 cmp3 i9 j10 K h6)) h5) h4) h3) h2) h1) h))) : (K2 K) (.exit 2) (X2 y8 y7 y6 a1 b2 cmp3 i9 j10) h := y20 (by kernel_rfl) H
theorem J1_of {y8 : OA} {y7 y6 : Nat} {a1 b2 : Int} {cmp3 : Value} {i9 j10 : Int} {K : EP} {h : Heap} (H :
let t103 : Int := IntKind.i64.wrap (b2 - i9)
let t104 : Bool := decide (t103 ≥ 2)
br t104 (
let t106 : Int := IntKind.i64.wrap (i9 + 1)
L4 y8 y7 y6 a1 b2 cmp3 i9 j10 t106 (K7 K) h) (
J2 y8 y7 y6 a1 b2 cmp3 i9 j10 K h)) : J1 y8 y7 y6 a1 b2 cmp3 i9 j10 K h := by unfold J1; exact Jn.of_txt (an 29855) (by kernel_rfl) H
theorem L1_Xret {Q : VP} {t8 : Bool} {h : Heap} (H :
Q (.bool t8) h) : (K1 Q) .ret (Xret t8) h := y20 (by kernel_rfl) H
theorem L3_of {y8 : OA} {y7 y6 : Nat} {a1 b2 : Int} {cmp3 : Value} {i9 j10 j11 : Int} {K : EP} {h : Heap} (H :
let t69 : Bool := decide (j11 ≥ 1)
br t69 (
hwp PP (Instr.indexAt y14 (.slice y8 y7 y6) (.int .i64 j11)) (fun v h1 => ∃ (t75 : Addr), v = (.pointer (some t75)) ∧
∃ (t76f0 t76f1 t76f2 : ByteArray), rdCells h1 t75 0 [.string t76f0, .string t76f1, .string t76f2] ∧
let t79 : Int := IntKind.i64.wrap (j11 - 1)
hwp PP (Instr.indexAt y14 (.slice y8 y7 y6) (.int .i64 t79)) (fun v_1 h2 => ∃ (t80 : Addr), v_1 = (.pointer (some t80)) ∧
∃ (t81f0 t81f1 t81f2 : ByteArray), rdCells h2 t80 0 [.string t81f0, .string t81f1, .string t81f2] ∧
callV PP cmp3 [(.agg #[.string t76f0, .string t76f1, .string t76f2]), (.agg #[.string t81f0, .string t81f1, .string t81f2])] (fun v_2 h3 => ∃ (t82 : Int), v_2 = (.int .i64 t82) ∧
let t83 : Bool := decide (t82 < 0)
let t84 : Bool := (!t83)
br t84 (
K (.exit 4) (X4 y8 y7 y6 a1 b2 cmp3 i9 j10) h3) (
let t89 : Int := IntKind.i64.wrap (j11 - 1)
let t92 : Int := IntKind.i64.wrap (j11 - 1)
hwp PP (Instr.indexAt y14 (.slice y8 y7 y6) (.int .i64 t92)) (fun v_3 h4 => ∃ (t93 : Addr), v_3 = (.pointer (some t93)) ∧
∃ (t94f0 t94f1 t94f2 : ByteArray), rdCells h4 t93 0 [.string t94f0, .string t94f1, .string t94f2] ∧
hwp PP (Instr.indexAt y14 (.slice y8 y7 y6) (.int .i64 j11)) (fun v_4 h5 => ∃ (t97 : Addr), v_4 = (.pointer (some t97)) ∧
∃ (t98f0 t98f1 t98f2 : ByteArray), rdCells h5 t97 0 [.string t98f0, .string t98f1, .string t98f2] ∧
hwp PP (Instr.indexAt y14 (.slice y8 y7 y6) (.int .i64 j11)) (fun v_5 h6 => ∃ (t99 : Addr), v_5 = (.pointer (some t99)) ∧
wrCells t99 0 [.string t94f0, .string t94f1, .string t94f2] (fun h7 =>
hwp PP (Instr.indexAt y14 (.slice y8 y7 y6) (.int .i64 t89)) (fun v_6 h8 => ∃ (t100 : Addr), v_6 = (.pointer (some t100)) ∧
wrCells t100 0 [.string t98f0, .string t98f1, .string t98f2] (fun h9 =>
let t71 : Int := IntKind.i64.wrap (j11 - 1)
L3 y8 y7 y6 a1 b2 cmp3 i9 j10 t71 K h9) h8) h7) h6) h5) h4) h3)) h2) h1) h) (
K (.exit 4) (X4 y8 y7 y6 a1 b2 cmp3 i9 j10) h)) : L3 y8 y7 y6 a1 b2 cmp3 i9 j10 j11 K h := by unfold L3; exact Lp.of_txt (an 955348) 3599 (by kernel_rfl) H
theorem L3_X4 {K : EP} {y8 : OA} {y7 y6 : Nat} {a1 b2 : Int} {cmp3 : Value} {i9 j10 : Int} {h : Heap} (H :
J1 y8 y7 y6 a1 b2 cmp3 i9 j10 K h) : (K5 K) (.exit 4) (X4 y8 y7 y6 a1 b2 cmp3 i9 j10) h := y20 (by kernel_rfl) H
theorem L4_of {y8 : OA} {y7 y6 : Nat} {a1 b2 : Int} {cmp3 : Value} {i9 j10 j12 : Int} {K : EP} {h : Heap} (H :
let t109 : Bool := decide (j12 < b2)
br t109 (
hwp PP (Instr.indexAt y14 (.slice y8 y7 y6) (.int .i64 j12)) (fun v h1 => ∃ (t115 : Addr), v = (.pointer (some t115)) ∧
∃ (t116f0 t116f1 t116f2 : ByteArray), rdCells h1 t115 0 [.string t116f0, .string t116f1, .string t116f2] ∧
let t119 : Int := IntKind.i64.wrap (j12 - 1)
hwp PP (Instr.indexAt y14 (.slice y8 y7 y6) (.int .i64 t119)) (fun v_1 h2 => ∃ (t120 : Addr), v_1 = (.pointer (some t120)) ∧
∃ (t121f0 t121f1 t121f2 : ByteArray), rdCells h2 t120 0 [.string t121f0, .string t121f1, .string t121f2] ∧
callV PP cmp3 [(.agg #[.string t116f0, .string t116f1, .string t116f2]), (.agg #[.string t121f0, .string t121f1, .string t121f2])] (fun v_2 h3 => ∃ (t122 : Int), v_2 = (.int .i64 t122) ∧
let t123 : Bool := decide (t122 < 0)
let t124 : Bool := (!t123)
br t124 (
K (.exit 6) (X6 y8 y7 y6 a1 b2 cmp3 i9 j10) h3) (
let t129 : Int := IntKind.i64.wrap (j12 - 1)
let t132 : Int := IntKind.i64.wrap (j12 - 1)
hwp PP (Instr.indexAt y14 (.slice y8 y7 y6) (.int .i64 t132)) (fun v_3 h4 => ∃ (t133 : Addr), v_3 = (.pointer (some t133)) ∧
∃ (t134f0 t134f1 t134f2 : ByteArray), rdCells h4 t133 0 [.string t134f0, .string t134f1, .string t134f2] ∧
hwp PP (Instr.indexAt y14 (.slice y8 y7 y6) (.int .i64 j12)) (fun v_4 h5 => ∃ (t137 : Addr), v_4 = (.pointer (some t137)) ∧
∃ (t138f0 t138f1 t138f2 : ByteArray), rdCells h5 t137 0 [.string t138f0, .string t138f1, .string t138f2] ∧
hwp PP (Instr.indexAt y14 (.slice y8 y7 y6) (.int .i64 j12)) (fun v_5 h6 => ∃ (t139 : Addr), v_5 = (.pointer (some t139)) ∧
wrCells t139 0 [.string t134f0, .string t134f1, .string t134f2] (fun h7 =>
hwp PP (Instr.indexAt y14 (.slice y8 y7 y6) (.int .i64 t129)) (fun v_6 h8 => ∃ (t140 : Addr), v_6 = (.pointer (some t140)) ∧
wrCells t140 0 [.string t138f0, .string t138f1, .string t138f2] (fun h9 =>
let t111 : Int := IntKind.i64.wrap (j12 + 1)
L4 y8 y7 y6 a1 b2 cmp3 i9 j10 t111 K h9) h8) h7) h6) h5) h4) h3)) h2) h1) h) (
K (.exit 6) (X6 y8 y7 y6 a1 b2 cmp3 i9 j10) h)) : L4 y8 y7 y6 a1 b2 cmp3 i9 j10 j12 K h := by unfold L4; exact Lp.of_txt (an 955380) 5647 (by kernel_rfl) H
theorem L4_X6 {K : EP} {y8 : OA} {y7 y6 : Nat} {a1 b2 : Int} {cmp3 : Value} {i9 j10 : Int} {h : Heap} (H :
J2 y8 y7 y6 a1 b2 cmp3 i9 j10 K h) : (K7 K) (.exit 6) (X6 y8 y7 y6 a1 b2 cmp3 i9 j10) h := y20 (by kernel_rfl) H
theorem J2_of {y8 : OA} {y7 y6 : Nat} {a1 b2 : Int} {cmp3 : Value} {i9 j10 : Int} {K : EP} {h : Heap} (H :
let t18 : Int := IntKind.i64.wrap (j10 + 1)
L1 y8 y7 y6 a1 b2 cmp3 i9 t18 K h) : J2 y8 y7 y6 a1 b2 cmp3 i9 j10 K h := by unfold J2; exact Jn.of_txt (an 467) (by kernel_rfl) H
theorem door {y8 : OA} {y7 y6 : Nat} {a1 b2 : Int} {cmp3 : Value} {Q : VP} {h : Heap} (H :
let t14 : Int := IntKind.i64.wrap (a1 + 1)
L1 y8 y7 y6 a1 b2 cmp3 t14 0 (K1 Q) h) : SpecH PP z347 [(.slice y8 y7 y6), .int .i64 a1, .int .i64 b2, cmp3] h Q :=
  y12 (ann := ann) Tryz.func190 rfl rfl (by kernel_rfl) H
end z346
namespace z354
def ann : Ann := (.seq 31 (rg 1 31) (.seq 23 (rg 16 23) (.seq 6163 (rg 6 6163) (.seq 2048 (.block (.loop 6163 (.block (.seq 6163 (.block (.loop 6163 (.seq 6163 (.seq 140737488361491 (rg 17 140737488361491) (.cond .leaf (.exit 6163))) (.block (rg 3 6163))))) (.seq 6163 (.block (.loop 6163 (.seq 6163 (.seq 36893488147419109395 (rg 16 36893488147419109395) (.cond .leaf (.exit 6163))) (.block (rg 3 6163))))) (.seq 6163 (.seq 1180591620717411309587 (rg 3 1180591620717411309587) (.cond (.exit 2048) .leaf)) (.seq 6163 (rg 16 6163) (.seq 6163 (rg 3 6163) (rg 3 6163))))))))) (.seq 1024 (rg 2 1024) (.exit 1024))))))
noncomputable abbrev cd := cdF Tryz.f191
abbrev an := anF ann
@[irreducible] def X2 (y8 : OA) (y7 y6 : Nat) (a1 : Int) (cmp4 : Value) (i11 j12 : Int) : Fr := (mkFr 0 90 [(0, (.slice y8 y7 y6)), (1, .int .i64 a1), (4, cmp4), (11, .int .i64 i11), (12, .int .i64 j12)])
@[irreducible] def X4 (y8 : OA) (y7 y6 : Nat) (a1 : Int) (cmp4 : Value) (i11 j12 : Int) : Fr := (mkFr 0 90 [(0, (.slice y8 y7 y6)), (1, .int .i64 a1), (4, cmp4), (11, .int .i64 i11), (12, .int .i64 j12)])
@[irreducible] def X0 (i11 : Int) : Fr := (mkFr 0 90 [(11, .int .i64 i11)])
@[irreducible] def L1 (y8 : OA) (y7 y6 : Nat) (a1 : Int) (cmp4 : Value) (i11 j12 : Int) (K : EP) (h : Heap) : Prop := Lp PP true (cd 120) (mkFr 0 90 [(0, (.slice y8 y7 y6)), (1, .int .i64 a1), (4, cmp4), (11, .int .i64 i11), (12, .int .i64 j12)]) K h
@[irreducible] def B1 (K : EP) : EP := seqK (fun fr h => Lp PP true (cd 120) (fr.mask 6163) K h) K
@[irreducible] def K3 (Q : VP) : EP := seqK (fun fr h => ev PP true none (cd 31) (an 31) (fr.mask 2048) (bodyK PP Tryz.f191 Q) h) (bodyK PP Tryz.f191 Q)
@[irreducible] def K1 (Q : VP) : EP := blockK 0 (K3 Q)
@[irreducible] def K6 (K : EP) : EP := blockK 1 (B1 K)
@[irreducible] def K4 (K : EP) : EP := seqK (fun fr h => ev PP true none (cd 481) (an 481) (fr.mask 6163) (K6 K) h) (K6 K)
@[irreducible] def K2 (K : EP) : EP := blockK 2 (K4 K)
@[irreducible] def L2 (y8 : OA) (y7 y6 : Nat) (a1 : Int) (cmp4 : Value) (i11 j12 : Int) (K : EP) (h : Heap) : Prop := Lp PP true (cd 1920) (mkFr 0 90 [(0, (.slice y8 y7 y6)), (1, .int .i64 a1), (4, cmp4), (11, .int .i64 i11), (12, .int .i64 j12)]) K h
@[irreducible] def K7 (K : EP) : EP := seqK (fun fr h => ev PP true none (cd 963) (an 963) (fr.mask 6163) (K6 K) h) (K6 K)
@[irreducible] def K5 (K : EP) : EP := blockK 4 (K7 K)
@[irreducible] def L3 (y8 : OA) (y7 y6 : Nat) (a1 : Int) (cmp4 : Value) (i11 j12 : Int) (K : EP) (h : Heap) : Prop := Lp PP true (cd 3848) (mkFr 0 90 [(0, (.slice y8 y7 y6)), (1, .int .i64 a1), (4, cmp4), (11, .int .i64 i11), (12, .int .i64 j12)]) K h
theorem L1_of {y8 : OA} {y7 y6 : Nat} {a1 : Int} {cmp4 : Value} {i11 j12 : Int} {K : EP} {h : Heap} (H :
L2 y8 y7 y6 a1 cmp4 i11 j12 (K2 K) h) : L1 y8 y7 y6 a1 cmp4 i11 j12 K h := by unfold L1; exact Lp.of_txt (an 120) 6163 (by kernel_rfl) H
theorem L2_of {y8 : OA} {y7 y6 : Nat} {a1 : Int} {cmp4 : Value} {i11 j12 : Int} {K : EP} {h : Heap} (H :
let t33 : Bool := decide (i11 ≤ j12)
br t33 (
hwp PP (Instr.indexAt y14 (.slice y8 y7 y6) (.int .i64 a1)) (fun v h1 => ∃ (t38 : Addr), v = (.pointer (some t38)) ∧
∃ (t39f0 t39f1 t39f2 : ByteArray), rdCells h1 t38 0 [.string t39f0, .string t39f1, .string t39f2] ∧
hwp PP (Instr.indexAt y14 (.slice y8 y7 y6) (.int .i64 i11)) (fun v_1 h2 => ∃ (t42 : Addr), v_1 = (.pointer (some t42)) ∧
∃ (t43f0 t43f1 t43f2 : ByteArray), rdCells h2 t42 0 [.string t43f0, .string t43f1, .string t43f2] ∧
callV PP cmp4 [(.agg #[.string t39f0, .string t39f1, .string t39f2]), (.agg #[.string t43f0, .string t43f1, .string t43f2])] (fun v_2 h3 => ∃ (t44 : Int), v_2 = (.int .i64 t44) ∧
let t45 : Bool := decide (t44 < 0)
let t46 : Bool := (!t45)
br t46 (
let t49 : Int := IntKind.i64.wrap (i11 + 1)
L2 y8 y7 y6 a1 cmp4 t49 j12 K h3) (
K (.exit 2) (X2 y8 y7 y6 a1 cmp4 i11 j12) h3)) h2) h1) h) (
K (.exit 2) (X2 y8 y7 y6 a1 cmp4 i11 j12) h)) : L2 y8 y7 y6 a1 cmp4 i11 j12 K h := by unfold L2; exact Lp.of_txt (an 1920) 6163 (by kernel_rfl) H
theorem L2_X2 {K : EP} {y8 : OA} {y7 y6 : Nat} {a1 : Int} {cmp4 : Value} {i11 j12 : Int} {h : Heap} (H :
L3 y8 y7 y6 a1 cmp4 i11 j12 (K5 K) h) : (K2 K) (.exit 2) (X2 y8 y7 y6 a1 cmp4 i11 j12) h := y20 (by kernel_rfl) H
theorem L3_of {y8 : OA} {y7 y6 : Nat} {a1 : Int} {cmp4 : Value} {i11 j12 : Int} {K : EP} {h : Heap} (H :
let t52 : Bool := decide (i11 ≤ j12)
br t52 (
hwp PP (Instr.indexAt y14 (.slice y8 y7 y6) (.int .i64 a1)) (fun v h1 => ∃ (t57 : Addr), v = (.pointer (some t57)) ∧
∃ (t58f0 t58f1 t58f2 : ByteArray), rdCells h1 t57 0 [.string t58f0, .string t58f1, .string t58f2] ∧
hwp PP (Instr.indexAt y14 (.slice y8 y7 y6) (.int .i64 j12)) (fun v_1 h2 => ∃ (t61 : Addr), v_1 = (.pointer (some t61)) ∧
∃ (t62f0 t62f1 t62f2 : ByteArray), rdCells h2 t61 0 [.string t62f0, .string t62f1, .string t62f2] ∧
callV PP cmp4 [(.agg #[.string t58f0, .string t58f1, .string t58f2]), (.agg #[.string t62f0, .string t62f1, .string t62f2])] (fun v_2 h3 => ∃ (t63 : Int), v_2 = (.int .i64 t63) ∧
let t64 : Bool := decide (t63 < 0)
br t64 (
let t67 : Int := IntKind.i64.wrap (j12 - 1)
L3 y8 y7 y6 a1 cmp4 i11 t67 K h3) (
K (.exit 4) (X4 y8 y7 y6 a1 cmp4 i11 j12) h3)) h2) h1) h) (
K (.exit 4) (X4 y8 y7 y6 a1 cmp4 i11 j12) h)) : L3 y8 y7 y6 a1 cmp4 i11 j12 K h := by unfold L3; exact Lp.of_txt (an 3848) 6163 (by kernel_rfl) H
theorem L3_X4 {K : EP} {y8 : OA} {y7 y6 : Nat} {a1 : Int} {cmp4 : Value} {i11 j12 : Int} {h : Heap} (H :
let t70 : Bool := decide (i11 > j12)
br t70 (
K (.exit 0) (X0 i11) h) (
hwp PP (Instr.indexAt y14 (.slice y8 y7 y6) (.int .i64 j12)) (fun v h1 => ∃ (t77 : Addr), v = (.pointer (some t77)) ∧
∃ (t78f0 t78f1 t78f2 : ByteArray), rdCells h1 t77 0 [.string t78f0, .string t78f1, .string t78f2] ∧
hwp PP (Instr.indexAt y14 (.slice y8 y7 y6) (.int .i64 i11)) (fun v_1 h2 => ∃ (t81 : Addr), v_1 = (.pointer (some t81)) ∧
∃ (t82f0 t82f1 t82f2 : ByteArray), rdCells h2 t81 0 [.string t82f0, .string t82f1, .string t82f2] ∧
hwp PP (Instr.indexAt y14 (.slice y8 y7 y6) (.int .i64 i11)) (fun v_2 h3 => ∃ (t83 : Addr), v_2 = (.pointer (some t83)) ∧
wrCells t83 0 [.string t78f0, .string t78f1, .string t78f2] (fun h4 =>
hwp PP (Instr.indexAt y14 (.slice y8 y7 y6) (.int .i64 j12)) (fun v_3 h5 => ∃ (t84 : Addr), v_3 = (.pointer (some t84)) ∧
wrCells t84 0 [.string t82f0, .string t82f1, .string t82f2] (fun h6 =>
let t86 : Int := IntKind.i64.wrap (i11 + 1)
let t88 : Int := IntKind.i64.wrap (j12 - 1)
L1 y8 y7 y6 a1 cmp4 t86 t88 K h6) h5) h4) h3) h2) h1) h)) : (K5 K) (.exit 4) (X4 y8 y7 y6 a1 cmp4 i11 j12) h := y20 (by kernel_rfl) H
theorem L1_X0 {Q : VP} {i11 : Int} {h : Heap} (H :
Q (.int .i64 i11) h) : (K1 Q) (.exit 0) (X0 i11) h := y20 (by kernel_rfl) H
theorem door {y8 : OA} {y7 y6 : Nat} {a1 b2 pivot3 : Int} {cmp4 : Value} {Q : VP} {h : Heap} (H :
hwp PP (Instr.indexAt y14 (.slice y8 y7 y6) (.int .i64 pivot3)) (fun v h1 => ∃ (t19 : Addr), v = (.pointer (some t19)) ∧
∃ (t20f0 t20f1 t20f2 : ByteArray), rdCells h1 t19 0 [.string t20f0, .string t20f1, .string t20f2] ∧
hwp PP (Instr.indexAt y14 (.slice y8 y7 y6) (.int .i64 a1)) (fun v_1 h2 => ∃ (t23 : Addr), v_1 = (.pointer (some t23)) ∧
∃ (t24f0 t24f1 t24f2 : ByteArray), rdCells h2 t23 0 [.string t24f0, .string t24f1, .string t24f2] ∧
hwp PP (Instr.indexAt y14 (.slice y8 y7 y6) (.int .i64 a1)) (fun v_2 h3 => ∃ (t25 : Addr), v_2 = (.pointer (some t25)) ∧
wrCells t25 0 [.string t20f0, .string t20f1, .string t20f2] (fun h4 =>
hwp PP (Instr.indexAt y14 (.slice y8 y7 y6) (.int .i64 pivot3)) (fun v_3 h5 => ∃ (t26 : Addr), v_3 = (.pointer (some t26)) ∧
wrCells t26 0 [.string t24f0, .string t24f1, .string t24f2] (fun h6 =>
let t28 : Int := IntKind.i64.wrap (a1 + 1)
let t30 : Int := IntKind.i64.wrap (b2 - 1)
L1 y8 y7 y6 a1 cmp4 t28 t30 (K1 Q) h6) h5) h4) h3) h2) h1) h) : SpecH PP z355 [(.slice y8 y7 y6), .int .i64 a1, .int .i64 b2, .int .i64 pivot3, cmp4] h Q :=
  y12 (ann := ann) Tryz.func191 rfl rfl (by kernel_rfl) H
end z354
namespace z350
def ann : Ann := (.seq 31 (rg 2 31) (.seq 23 (rg 16 23) (.seq 12307 (rg 6 12307) (.seq 12307 (.block (.loop 12307 (.seq 12307 (.seq 140737488367635 (rg 16 140737488367635) (.cond .leaf (.exit 12307))) (.block (rg 3 12307))))) (.seq 12307 (.block (.loop 12307 (.seq 12307 (.seq 73786976294838218771 (rg 17 73786976294838218771) (.cond .leaf (.exit 12307))) (.block (rg 3 12307))))) (.seq 12307 (.seq 2361183241434822619155 (rg 3 2361183241434822619155) (.cond (.seq 8192 (rg 16 8192) (.seq 3072 (rg 3 3072) (.exit 3072))) .leaf)) (.seq 12307 (rg 16 12307) (.seq 12307 (rg 3 12307) (.seq 12307 (rg 3 12307) (.seq 8195 (.block (.loop 12307 (.block (.seq 12307 (.block (.loop 12307 (.seq 12307 (.seq 1329227995784915872903807060280356883 (rg 16 1329227995784915872903807060280356883) (.cond .leaf (.exit 12307))) (.block (rg 3 12307))))) (.seq 12307 (.block (.loop 12307 (.seq 12307 (.seq 696898287454081973172991196020261297074195 (rg 17 696898287454081973172991196020261297074195) (.cond .leaf (.exit 12307))) (.block (rg 3 12307))))) (.seq 12307 (.seq 22300745198530623141535718272648361505992723 (rg 3 22300745198530623141535718272648361505992723) (.cond (.exit 8195) .leaf)) (.seq 12307 (rg 16 12307) (.seq 12307 (rg 3 12307) (rg 3 12307))))))))) (.seq 8192 (rg 16 8192) (.seq 3072 (rg 3 3072) (.exit 3072)))))))))))))
noncomputable abbrev cd := cdF Tryz.f192
abbrev an := anF ann
@[irreducible] def X0 (y8 : OA) (y7 y6 : Nat) (a1 : Int) (cmp4 : Value) (i12 j13 : Int) : Fr := (mkFr 0 178 [(0, (.slice y8 y7 y6)), (1, .int .i64 a1), (4, cmp4), (12, .int .i64 i12), (13, .int .i64 j13)])
@[irreducible] def X2 (y8 : OA) (y7 y6 : Nat) (a1 : Int) (cmp4 : Value) (i12 j13 : Int) : Fr := (mkFr 0 178 [(0, (.slice y8 y7 y6)), (1, .int .i64 a1), (4, cmp4), (12, .int .i64 i12), (13, .int .i64 j13)])
@[irreducible] def X6 (y8 : OA) (y7 y6 : Nat) (a1 : Int) (cmp4 : Value) (i12 j13 : Int) : Fr := (mkFr 0 178 [(0, (.slice y8 y7 y6)), (1, .int .i64 a1), (4, cmp4), (12, .int .i64 i12), (13, .int .i64 j13)])
@[irreducible] def X8 (y8 : OA) (y7 y6 : Nat) (a1 : Int) (cmp4 : Value) (i12 j13 : Int) : Fr := (mkFr 0 178 [(0, (.slice y8 y7 y6)), (1, .int .i64 a1), (4, cmp4), (12, .int .i64 i12), (13, .int .i64 j13)])
@[irreducible] def X4 (y8 : OA) (y7 y6 : Nat) (a1 j13 : Int) : Fr := (mkFr 0 178 [(0, (.slice y8 y7 y6)), (1, .int .i64 a1), (13, .int .i64 j13)])
@[irreducible] def L1 (y8 : OA) (y7 y6 : Nat) (a1 : Int) (cmp4 : Value) (i12 j13 : Int) (K : EP) (h : Heap) : Prop := Lp PP true (cd 120) (mkFr 0 178 [(0, (.slice y8 y7 y6)), (1, .int .i64 a1), (4, cmp4), (12, .int .i64 i12), (13, .int .i64 j13)]) K h
@[irreducible] def K3 (Q : VP) : EP := seqK (fun fr h => ev PP true none (cd 31) (an 31) (fr.mask 12307) (bodyK PP Tryz.f192 Q) h) (bodyK PP Tryz.f192 Q)
@[irreducible] def K1 (Q : VP) : EP := blockK 0 (K3 Q)
@[irreducible] def K4 (Q : VP) : EP := seqK (fun fr h => ev PP true none (cd 63) (an 63) (fr.mask 12307) (bodyK PP Tryz.f192 Q) h) (bodyK PP Tryz.f192 Q)
@[irreducible] def K2 (Q : VP) : EP := blockK 2 (K4 Q)
@[irreducible] def L2 (y8 : OA) (y7 y6 : Nat) (a1 : Int) (cmp4 : Value) (i12 j13 : Int) (K : EP) (h : Heap) : Prop := Lp PP true (cd 248) (mkFr 0 178 [(0, (.slice y8 y7 y6)), (1, .int .i64 a1), (4, cmp4), (12, .int .i64 i12), (13, .int .i64 j13)]) K h
@[irreducible] def K6 (Q : VP) : EP := seqK (fun fr h => ev PP true none (cd 2047) (an 2047) (fr.mask 8195) (bodyK PP Tryz.f192 Q) h) (bodyK PP Tryz.f192 Q)
@[irreducible] def K5 (Q : VP) : EP := blockK 4 (K6 Q)
@[irreducible] def L3 (y8 : OA) (y7 y6 : Nat) (a1 : Int) (cmp4 : Value) (i12 j13 : Int) (K : EP) (h : Heap) : Prop := Lp PP true (cd 8184) (mkFr 0 178 [(0, (.slice y8 y7 y6)), (1, .int .i64 a1), (4, cmp4), (12, .int .i64 i12), (13, .int .i64 j13)]) K h
@[irreducible] def B3 (K : EP) : EP := seqK (fun fr h => Lp PP true (cd 8184) (fr.mask 12307) K h) K
@[irreducible] def K10 (K : EP) : EP := blockK 5 (B3 K)
@[irreducible] def K8 (K : EP) : EP := seqK (fun fr h => ev PP true none (cd 32737) (an 32737) (fr.mask 12307) (K10 K) h) (K10 K)
@[irreducible] def K7 (K : EP) : EP := blockK 6 (K8 K)
@[irreducible] def L4 (y8 : OA) (y7 y6 : Nat) (a1 : Int) (cmp4 : Value) (i12 j13 : Int) (K : EP) (h : Heap) : Prop := Lp PP true (cd 130944) (mkFr 0 178 [(0, (.slice y8 y7 y6)), (1, .int .i64 a1), (4, cmp4), (12, .int .i64 i12), (13, .int .i64 j13)]) K h
@[irreducible] def K11 (K : EP) : EP := seqK (fun fr h => ev PP true none (cd 65475) (an 65475) (fr.mask 12307) (K10 K) h) (K10 K)
@[irreducible] def K9 (K : EP) : EP := blockK 8 (K11 K)
@[irreducible] def L5 (y8 : OA) (y7 y6 : Nat) (a1 : Int) (cmp4 : Value) (i12 j13 : Int) (K : EP) (h : Heap) : Prop := Lp PP true (cd 261896) (mkFr 0 178 [(0, (.slice y8 y7 y6)), (1, .int .i64 a1), (4, cmp4), (12, .int .i64 i12), (13, .int .i64 j13)]) K h
theorem L1_of {y8 : OA} {y7 y6 : Nat} {a1 : Int} {cmp4 : Value} {i12 j13 : Int} {K : EP} {h : Heap} (H :
let t34 : Bool := decide (i12 ≤ j13)
br t34 (
hwp PP (Instr.indexAt y14 (.slice y8 y7 y6) (.int .i64 i12)) (fun v h1 => ∃ (t39 : Addr), v = (.pointer (some t39)) ∧
∃ (t40f0 t40f1 t40f2 : ByteArray), rdCells h1 t39 0 [.string t40f0, .string t40f1, .string t40f2] ∧
hwp PP (Instr.indexAt y14 (.slice y8 y7 y6) (.int .i64 a1)) (fun v_1 h2 => ∃ (t43 : Addr), v_1 = (.pointer (some t43)) ∧
∃ (t44f0 t44f1 t44f2 : ByteArray), rdCells h2 t43 0 [.string t44f0, .string t44f1, .string t44f2] ∧
callV PP cmp4 [(.agg #[.string t40f0, .string t40f1, .string t40f2]), (.agg #[.string t44f0, .string t44f1, .string t44f2])] (fun v_2 h3 => ∃ (t45 : Int), v_2 = (.int .i64 t45) ∧
let t46 : Bool := decide (t45 < 0)
br t46 (
let t49 : Int := IntKind.i64.wrap (i12 + 1)
L1 y8 y7 y6 a1 cmp4 t49 j13 K h3) (
K (.exit 0) (X0 y8 y7 y6 a1 cmp4 i12 j13) h3)) h2) h1) h) (
K (.exit 0) (X0 y8 y7 y6 a1 cmp4 i12 j13) h)) : L1 y8 y7 y6 a1 cmp4 i12 j13 K h := by unfold L1; exact Lp.of_txt (an 120) 12307 (by kernel_rfl) H
theorem L1_X0 {Q : VP} {y8 : OA} {y7 y6 : Nat} {a1 : Int} {cmp4 : Value} {i12 j13 : Int} {h : Heap} (H :
L2 y8 y7 y6 a1 cmp4 i12 j13 (K2 Q) h) : (K1 Q) (.exit 0) (X0 y8 y7 y6 a1 cmp4 i12 j13) h := y20 (by kernel_rfl) H
theorem L2_of {y8 : OA} {y7 y6 : Nat} {a1 : Int} {cmp4 : Value} {i12 j13 : Int} {K : EP} {h : Heap} (H :
let t52 : Bool := decide (i12 ≤ j13)
br t52 (
hwp PP (Instr.indexAt y14 (.slice y8 y7 y6) (.int .i64 j13)) (fun v h1 => ∃ (t57 : Addr), v = (.pointer (some t57)) ∧
∃ (t58f0 t58f1 t58f2 : ByteArray), rdCells h1 t57 0 [.string t58f0, .string t58f1, .string t58f2] ∧
hwp PP (Instr.indexAt y14 (.slice y8 y7 y6) (.int .i64 a1)) (fun v_1 h2 => ∃ (t61 : Addr), v_1 = (.pointer (some t61)) ∧
∃ (t62f0 t62f1 t62f2 : ByteArray), rdCells h2 t61 0 [.string t62f0, .string t62f1, .string t62f2] ∧
callV PP cmp4 [(.agg #[.string t58f0, .string t58f1, .string t58f2]), (.agg #[.string t62f0, .string t62f1, .string t62f2])] (fun v_2 h3 => ∃ (t63 : Int), v_2 = (.int .i64 t63) ∧
let t64 : Bool := decide (t63 < 0)
let t65 : Bool := (!t64)
br t65 (
let t68 : Int := IntKind.i64.wrap (j13 - 1)
L2 y8 y7 y6 a1 cmp4 i12 t68 K h3) (
K (.exit 2) (X2 y8 y7 y6 a1 cmp4 i12 j13) h3)) h2) h1) h) (
K (.exit 2) (X2 y8 y7 y6 a1 cmp4 i12 j13) h)) : L2 y8 y7 y6 a1 cmp4 i12 j13 K h := by unfold L2; exact Lp.of_txt (an 248) 12307 (by kernel_rfl) H
theorem L2_X2 {Q : VP} {y8 : OA} {y7 y6 : Nat} {a1 : Int} {cmp4 : Value} {i12 j13 : Int} {h : Heap} (H :
let t71 : Bool := decide (i12 > j13)
br t71 (
hwp PP (Instr.indexAt y14 (.slice y8 y7 y6) (.int .i64 a1)) (fun v h1 => ∃ (t78 : Addr), v = (.pointer (some t78)) ∧
∃ (t79f0 t79f1 t79f2 : ByteArray), rdCells h1 t78 0 [.string t79f0, .string t79f1, .string t79f2] ∧
hwp PP (Instr.indexAt y14 (.slice y8 y7 y6) (.int .i64 j13)) (fun v_1 h2 => ∃ (t82 : Addr), v_1 = (.pointer (some t82)) ∧
∃ (t83f0 t83f1 t83f2 : ByteArray), rdCells h2 t82 0 [.string t83f0, .string t83f1, .string t83f2] ∧
hwp PP (Instr.indexAt y14 (.slice y8 y7 y6) (.int .i64 j13)) (fun v_2 h3 => ∃ (t84 : Addr), v_2 = (.pointer (some t84)) ∧
wrCells t84 0 [.string t79f0, .string t79f1, .string t79f2] (fun h4 =>
hwp PP (Instr.indexAt y14 (.slice y8 y7 y6) (.int .i64 a1)) (fun v_3 h5 => ∃ (t85 : Addr), v_3 = (.pointer (some t85)) ∧
wrCells t85 0 [.string t83f0, .string t83f1, .string t83f2] (fun h6 =>
Q (.tuple #[.int .i64 j13, .bool true]) h6) h5) h4) h3) h2) h1) h) (
hwp PP (Instr.indexAt y14 (.slice y8 y7 y6) (.int .i64 j13)) (fun v_4 h7 => ∃ (t93 : Addr), v_4 = (.pointer (some t93)) ∧
∃ (t94f0 t94f1 t94f2 : ByteArray), rdCells h7 t93 0 [.string t94f0, .string t94f1, .string t94f2] ∧
hwp PP (Instr.indexAt y14 (.slice y8 y7 y6) (.int .i64 i12)) (fun v_5 h8 => ∃ (t97 : Addr), v_5 = (.pointer (some t97)) ∧
∃ (t98f0 t98f1 t98f2 : ByteArray), rdCells h8 t97 0 [.string t98f0, .string t98f1, .string t98f2] ∧
hwp PP (Instr.indexAt y14 (.slice y8 y7 y6) (.int .i64 i12)) (fun v_6 h9 => ∃ (t99 : Addr), v_6 = (.pointer (some t99)) ∧
wrCells t99 0 [.string t94f0, .string t94f1, .string t94f2] (fun h10 =>
hwp PP (Instr.indexAt y14 (.slice y8 y7 y6) (.int .i64 j13)) (fun v_7 h11 => ∃ (t100 : Addr), v_7 = (.pointer (some t100)) ∧
wrCells t100 0 [.string t98f0, .string t98f1, .string t98f2] (fun h12 =>
let t102 : Int := IntKind.i64.wrap (i12 + 1)
let t104 : Int := IntKind.i64.wrap (j13 - 1)
L3 y8 y7 y6 a1 cmp4 t102 t104 (K5 Q) h12) h11) h10) h9) h8) h7) h)) : (K2 Q) (.exit 2) (X2 y8 y7 y6 a1 cmp4 i12 j13) h := y20 (by kernel_rfl) H
theorem L3_of {y8 : OA} {y7 y6 : Nat} {a1 : Int} {cmp4 : Value} {i12 j13 : Int} {K : EP} {h : Heap} (H :
L4 y8 y7 y6 a1 cmp4 i12 j13 (K7 K) h) : L3 y8 y7 y6 a1 cmp4 i12 j13 K h := by unfold L3; exact Lp.of_txt (an 8184) 12307 (by kernel_rfl) H
theorem L4_of {y8 : OA} {y7 y6 : Nat} {a1 : Int} {cmp4 : Value} {i12 j13 : Int} {K : EP} {h : Heap} (H :
let t107 : Bool := decide (i12 ≤ j13)
br t107 (
hwp PP (Instr.indexAt y14 (.slice y8 y7 y6) (.int .i64 i12)) (fun v h1 => ∃ (t112 : Addr), v = (.pointer (some t112)) ∧
∃ (t113f0 t113f1 t113f2 : ByteArray), rdCells h1 t112 0 [.string t113f0, .string t113f1, .string t113f2] ∧
hwp PP (Instr.indexAt y14 (.slice y8 y7 y6) (.int .i64 a1)) (fun v_1 h2 => ∃ (t116 : Addr), v_1 = (.pointer (some t116)) ∧
∃ (t117f0 t117f1 t117f2 : ByteArray), rdCells h2 t116 0 [.string t117f0, .string t117f1, .string t117f2] ∧
callV PP cmp4 [(.agg #[.string t113f0, .string t113f1, .string t113f2]), (.agg #[.string t117f0, .string t117f1, .string t117f2])] (fun v_2 h3 => ∃ (t118 : Int), v_2 = (.int .i64 t118) ∧
let t119 : Bool := decide (t118 < 0)
br t119 (
let t122 : Int := IntKind.i64.wrap (i12 + 1)
L4 y8 y7 y6 a1 cmp4 t122 j13 K h3) (
K (.exit 6) (X6 y8 y7 y6 a1 cmp4 i12 j13) h3)) h2) h1) h) (
K (.exit 6) (X6 y8 y7 y6 a1 cmp4 i12 j13) h)) : L4 y8 y7 y6 a1 cmp4 i12 j13 K h := by unfold L4; exact Lp.of_txt (an 130944) 12307 (by kernel_rfl) H
theorem L4_X6 {K : EP} {y8 : OA} {y7 y6 : Nat} {a1 : Int} {cmp4 : Value} {i12 j13 : Int} {h : Heap} (H :
L5 y8 y7 y6 a1 cmp4 i12 j13 (K9 K) h) : (K7 K) (.exit 6) (X6 y8 y7 y6 a1 cmp4 i12 j13) h := y20 (by kernel_rfl) H
theorem L5_of {y8 : OA} {y7 y6 : Nat} {a1 : Int} {cmp4 : Value} {i12 j13 : Int} {K : EP} {h : Heap} (H :
let t125 : Bool := decide (i12 ≤ j13)
br t125 (
hwp PP (Instr.indexAt y14 (.slice y8 y7 y6) (.int .i64 j13)) (fun v h1 => ∃ (t130 : Addr), v = (.pointer (some t130)) ∧
∃ (t131f0 t131f1 t131f2 : ByteArray), rdCells h1 t130 0 [.string t131f0, .string t131f1, .string t131f2] ∧
hwp PP (Instr.indexAt y14 (.slice y8 y7 y6) (.int .i64 a1)) (fun v_1 h2 => ∃ (t134 : Addr), v_1 = (.pointer (some t134)) ∧
∃ (t135f0 t135f1 t135f2 : ByteArray), rdCells h2 t134 0 [.string t135f0, .string t135f1, .string t135f2] ∧
callV PP cmp4 [(.agg #[.string t131f0, .string t131f1, .string t131f2]), (.agg #[.string t135f0, .string t135f1, .string t135f2])] (fun v_2 h3 => ∃ (t136 : Int), v_2 = (.int .i64 t136) ∧
let t137 : Bool := decide (t136 < 0)
let t138 : Bool := (!t137)
br t138 (
let t141 : Int := IntKind.i64.wrap (j13 - 1)
L5 y8 y7 y6 a1 cmp4 i12 t141 K h3) (
K (.exit 8) (X8 y8 y7 y6 a1 cmp4 i12 j13) h3)) h2) h1) h) (
K (.exit 8) (X8 y8 y7 y6 a1 cmp4 i12 j13) h)) : L5 y8 y7 y6 a1 cmp4 i12 j13 K h := by unfold L5; exact Lp.of_txt (an 261896) 12307 (by kernel_rfl) H
theorem L5_X8 {K : EP} {y8 : OA} {y7 y6 : Nat} {a1 : Int} {cmp4 : Value} {i12 j13 : Int} {h : Heap} (H :
let t144 : Bool := decide (i12 > j13)
br t144 (
K (.exit 4) (X4 y8 y7 y6 a1 j13) h) (
hwp PP (Instr.indexAt y14 (.slice y8 y7 y6) (.int .i64 j13)) (fun v h1 => ∃ (t151 : Addr), v = (.pointer (some t151)) ∧
∃ (t152f0 t152f1 t152f2 : ByteArray), rdCells h1 t151 0 [.string t152f0, .string t152f1, .string t152f2] ∧
hwp PP (Instr.indexAt y14 (.slice y8 y7 y6) (.int .i64 i12)) (fun v_1 h2 => ∃ (t155 : Addr), v_1 = (.pointer (some t155)) ∧
∃ (t156f0 t156f1 t156f2 : ByteArray), rdCells h2 t155 0 [.string t156f0, .string t156f1, .string t156f2] ∧
hwp PP (Instr.indexAt y14 (.slice y8 y7 y6) (.int .i64 i12)) (fun v_2 h3 => ∃ (t157 : Addr), v_2 = (.pointer (some t157)) ∧
wrCells t157 0 [.string t152f0, .string t152f1, .string t152f2] (fun h4 =>
hwp PP (Instr.indexAt y14 (.slice y8 y7 y6) (.int .i64 j13)) (fun v_3 h5 => ∃ (t158 : Addr), v_3 = (.pointer (some t158)) ∧
wrCells t158 0 [.string t156f0, .string t156f1, .string t156f2] (fun h6 =>
let t160 : Int := IntKind.i64.wrap (i12 + 1)
let t162 : Int := IntKind.i64.wrap (j13 - 1)
L3 y8 y7 y6 a1 cmp4 t160 t162 K h6) h5) h4) h3) h2) h1) h)) : (K9 K) (.exit 8) (X8 y8 y7 y6 a1 cmp4 i12 j13) h := y20 (by kernel_rfl) H
theorem L3_X4 {Q : VP} {y8 : OA} {y7 y6 : Nat} {a1 j13 : Int} {h : Heap} (H :
hwp PP (Instr.indexAt y14 (.slice y8 y7 y6) (.int .i64 a1)) (fun v h1 => ∃ (t169 : Addr), v = (.pointer (some t169)) ∧
∃ (t170f0 t170f1 t170f2 : ByteArray), rdCells h1 t169 0 [.string t170f0, .string t170f1, .string t170f2] ∧
hwp PP (Instr.indexAt y14 (.slice y8 y7 y6) (.int .i64 j13)) (fun v_1 h2 => ∃ (t173 : Addr), v_1 = (.pointer (some t173)) ∧
∃ (t174f0 t174f1 t174f2 : ByteArray), rdCells h2 t173 0 [.string t174f0, .string t174f1, .string t174f2] ∧
hwp PP (Instr.indexAt y14 (.slice y8 y7 y6) (.int .i64 j13)) (fun v_2 h3 => ∃ (t175 : Addr), v_2 = (.pointer (some t175)) ∧
wrCells t175 0 [.string t170f0, .string t170f1, .string t170f2] (fun h4 =>
hwp PP (Instr.indexAt y14 (.slice y8 y7 y6) (.int .i64 a1)) (fun v_3 h5 => ∃ (t176 : Addr), v_3 = (.pointer (some t176)) ∧
wrCells t176 0 [.string t174f0, .string t174f1, .string t174f2] (fun h6 =>
Q (.tuple #[.int .i64 j13, .bool false]) h6) h5) h4) h3) h2) h1) h) : (K5 Q) (.exit 4) (X4 y8 y7 y6 a1 j13) h := y20 (by kernel_rfl) H
theorem door {y8 : OA} {y7 y6 : Nat} {a1 b2 pivot3 : Int} {cmp4 : Value} {Q : VP} {h : Heap} (H :
hwp PP (Instr.indexAt y14 (.slice y8 y7 y6) (.int .i64 pivot3)) (fun v h1 => ∃ (t20 : Addr), v = (.pointer (some t20)) ∧
∃ (t21f0 t21f1 t21f2 : ByteArray), rdCells h1 t20 0 [.string t21f0, .string t21f1, .string t21f2] ∧
hwp PP (Instr.indexAt y14 (.slice y8 y7 y6) (.int .i64 a1)) (fun v_1 h2 => ∃ (t24 : Addr), v_1 = (.pointer (some t24)) ∧
∃ (t25f0 t25f1 t25f2 : ByteArray), rdCells h2 t24 0 [.string t25f0, .string t25f1, .string t25f2] ∧
hwp PP (Instr.indexAt y14 (.slice y8 y7 y6) (.int .i64 a1)) (fun v_2 h3 => ∃ (t26 : Addr), v_2 = (.pointer (some t26)) ∧
wrCells t26 0 [.string t21f0, .string t21f1, .string t21f2] (fun h4 =>
hwp PP (Instr.indexAt y14 (.slice y8 y7 y6) (.int .i64 pivot3)) (fun v_3 h5 => ∃ (t27 : Addr), v_3 = (.pointer (some t27)) ∧
wrCells t27 0 [.string t25f0, .string t25f1, .string t25f2] (fun h6 =>
let t29 : Int := IntKind.i64.wrap (a1 + 1)
let t31 : Int := IntKind.i64.wrap (b2 - 1)
L1 y8 y7 y6 a1 cmp4 t29 t31 (K1 Q) h6) h5) h4) h3) h2) h1) h) : SpecH PP z351 [(.slice y8 y7 y6), .int .i64 a1, .int .i64 b2, .int .i64 pivot3, cmp4] h Q :=
  y12 (ann := ann) Tryz.func192 rfl rfl (by kernel_rfl) H
end z350
namespace z368
def ann : Ann := (.seq 1053 (rg 2 1053) (.block (.loop 1053 (.block (.seq 3101 (rg 4 3101) (.seq 3101 (.seq 265245 (rg 3 265245) (.cond (.exit 0) .leaf)) (.seq 3101 (.seq 1099511630877 (rg 22 1099511630877) (.join (.cond (rg 3 3101) .leaf))) (.join (.seq 3101 (.seq 288230376151714845 (rg 16 288230376151714845) (.cond (.exit 0) .leaf)) (.seq 2077 (rg 24 2077) (rg 2 1053)))))))))))
noncomputable abbrev cd := cdF Tryz.f195
abbrev an := anF ann
@[irreducible] def X0  : Fr := (mkFr 0 82 [])
@[irreducible] def Xret  : Fr := (mkFr 0 82 [])
@[irreducible] def L1 (y8 : OA) (y7 y6 : Nat) (hi2 y57 : Int) (cmp4 : Value) (y70 : Int) (K : EP) (h : Heap) : Prop := Lp PP true (cd 12) (mkFr 0 82 [(0, (.slice y8 y7 y6)), (2, .int .i64 hi2), (3, .int .i64 y57), (4, cmp4), (10, .int .i64 y70)]) K h
@[irreducible] def B1 (K : EP) : EP := seqK (fun fr h => Lp PP true (cd 12) (fr.mask 1053) K h) K
@[irreducible] def K3 (K : EP) : EP := blockK 1 (B1 K)
@[irreducible] def K2 (K : EP) : EP := seqK (fun fr h => Jn PP true (cd 199) (fr.mask 3101) (K3 K) h) (K3 K)
@[irreducible] def J1 (y8 : OA) (y7 y6 : Nat) (hi2 y57 : Int) (cmp4 : Value) (y70 y86 : Int) (t40 : Bool) (K : EP) (h : Heap) : Prop := Jn PP true (cd 397) (mkFr 0 82 [(0, (.slice y8 y7 y6)), (2, .int .i64 hi2), (3, .int .i64 y57), (4, cmp4), (10, .int .i64 y70), (11, .int .i64 y86), (40, .bool t40)]) (K2 K) h
@[irreducible] def K1 (Q : VP) : EP := blockK 0 (bodyK PP Tryz.f195 Q)
@[irreducible] def J2 (y8 : OA) (y7 y6 : Nat) (hi2 y57 : Int) (cmp4 : Value) (y70 y86 : Int) (K : EP) (h : Heap) : Prop := Jn PP true (cd 199) (mkFr 0 82 [(0, (.slice y8 y7 y6)), (2, .int .i64 hi2), (3, .int .i64 y57), (4, cmp4), (10, .int .i64 y70), (11, .int .i64 y86)]) (K3 K) h
theorem L1_of {y8 : OA} {y7 y6 : Nat} {hi2 y57 : Int} {cmp4 : Value} {y70 : Int} {K : EP} {h : Heap} (H :
let t14 : Int := IntKind.i64.wrap (2 * y70)
let t15 : Int := IntKind.i64.wrap (t14 + 1)
let t18 : Bool := decide (t15 ≥ hi2)
br t18 (
K (.exit 0) (X0) h) (
let t20 : Int := IntKind.i64.wrap (t15 + 1)
let t22 : Bool := decide (t20 < hi2)
br t22 (
let t28 : Int := IntKind.i64.wrap (y57 + t15)
hwp PP (Instr.indexAt y11 (.slice y8 y7 y6) (.int .i64 t28)) (fun v h1 => ∃ (t29 : Addr), v = (.pointer (some t29)) ∧
∃ (t30f0 t30f1 t30f2 : ByteArray) (t30f3 : Bool) (t30f4 : ByteArray), rdCells h1 t29 0 [.string t30f0, .string t30f1, .string t30f2, .bool t30f3, .string t30f4] ∧
let t34 : Int := IntKind.i64.wrap (y57 + t15)
let t35 : Int := IntKind.i64.wrap (t34 + 1)
hwp PP (Instr.indexAt y11 (.slice y8 y7 y6) (.int .i64 t35)) (fun v_1 h2 => ∃ (t36 : Addr), v_1 = (.pointer (some t36)) ∧
∃ (t37f0 t37f1 t37f2 : ByteArray) (t37f3 : Bool) (t37f4 : ByteArray), rdCells h2 t36 0 [.string t37f0, .string t37f1, .string t37f2, .bool t37f3, .string t37f4] ∧
callV PP cmp4 [(.agg #[.string t30f0, .string t30f1, .string t30f2, .bool t30f3, .string t30f4]), (.agg #[.string t37f0, .string t37f1, .string t37f2, .bool t37f3, .string t37f4])] (fun v_2 h3 => ∃ (t38 : Int), v_2 = (.int .i64 t38) ∧
let t39 : Bool := decide (t38 < 0)
J1 y8 y7 y6 hi2 y57 cmp4 y70 t15 t39 K h3) h2) h1) h) (
J1 y8 y7 y6 hi2 y57 cmp4 y70 t15 false K h))) : L1 y8 y7 y6 hi2 y57 cmp4 y70 K h := by unfold L1; exact Lp.of_txt (an 12) 1053 (by kernel_rfl) H
theorem L1_X0 {Q : VP}  {h : Heap} (H :
Q (.tuple #[]) h) : (K1 Q) (.exit 0) (X0 ) h := y20 (by kernel_rfl) H
theorem J1_of {y8 : OA} {y7 y6 : Nat} {hi2 y57 : Int} {cmp4 : Value} {y70 y86 : Int} {t40 : Bool} {K : EP} {h : Heap} (H :
br t40 (
let t42 : Int := IntKind.i64.wrap (y86 + 1)
J2 y8 y7 y6 hi2 y57 cmp4 y70 t42 K h) (
J2 y8 y7 y6 hi2 y57 cmp4 y70 y86 K h)) : J1 y8 y7 y6 hi2 y57 cmp4 y70 y86 t40 K h := by unfold J1; exact Jn.of_txt (an 397) (by kernel_rfl) H
theorem J2_of {y8 : OA} {y7 y6 : Nat} {hi2 y57 : Int} {cmp4 : Value} {y70 y86 : Int} {K : EP} {h : Heap} (H :
let t47 : Int := IntKind.i64.wrap (y57 + y70)
hwp PP (Instr.indexAt y11 (.slice y8 y7 y6) (.int .i64 t47)) (fun v h1 => ∃ (t48 : Addr), v = (.pointer (some t48)) ∧
∃ (t49f0 t49f1 t49f2 : ByteArray) (t49f3 : Bool) (t49f4 : ByteArray), rdCells h1 t48 0 [.string t49f0, .string t49f1, .string t49f2, .bool t49f3, .string t49f4] ∧
let t53 : Int := IntKind.i64.wrap (y57 + y86)
hwp PP (Instr.indexAt y11 (.slice y8 y7 y6) (.int .i64 t53)) (fun v_1 h2 => ∃ (t54 : Addr), v_1 = (.pointer (some t54)) ∧
∃ (t55f0 t55f1 t55f2 : ByteArray) (t55f3 : Bool) (t55f4 : ByteArray), rdCells h2 t54 0 [.string t55f0, .string t55f1, .string t55f2, .bool t55f3, .string t55f4] ∧
callV PP cmp4 [(.agg #[.string t49f0, .string t49f1, .string t49f2, .bool t49f3, .string t49f4]), (.agg #[.string t55f0, .string t55f1, .string t55f2, .bool t55f3, .string t55f4])] (fun v_2 h3 => ∃ (t56 : Int), v_2 = (.int .i64 t56) ∧
let t57 : Bool := decide (t56 < 0)
let t58 : Bool := (!t57)
br t58 (
K .ret (Xret) h3) (
let t62 : Int := IntKind.i64.wrap (y57 + y70)
let t66 : Int := IntKind.i64.wrap (y57 + y86)
let t70 : Int := IntKind.i64.wrap (y57 + y86)
hwp PP (Instr.indexAt y11 (.slice y8 y7 y6) (.int .i64 t70)) (fun v_3 h4 => ∃ (t71 : Addr), v_3 = (.pointer (some t71)) ∧
∃ (t72f0 t72f1 t72f2 : ByteArray) (t72f3 : Bool) (t72f4 : ByteArray), rdCells h4 t71 0 [.string t72f0, .string t72f1, .string t72f2, .bool t72f3, .string t72f4] ∧
let t76 : Int := IntKind.i64.wrap (y57 + y70)
hwp PP (Instr.indexAt y11 (.slice y8 y7 y6) (.int .i64 t76)) (fun v_4 h5 => ∃ (t77 : Addr), v_4 = (.pointer (some t77)) ∧
∃ (t78f0 t78f1 t78f2 : ByteArray) (t78f3 : Bool) (t78f4 : ByteArray), rdCells h5 t77 0 [.string t78f0, .string t78f1, .string t78f2, .bool t78f3, .string t78f4] ∧
hwp PP (Instr.indexAt y11 (.slice y8 y7 y6) (.int .i64 t62)) (fun v_5 h6 => ∃ (t79 : Addr), v_5 = (.pointer (some t79)) ∧
wrCells t79 0 [.string t72f0, .string t72f1, .string t72f2, .bool t72f3, .string t72f4] (fun h7 =>
hwp PP (Instr.indexAt y11 (.slice y8 y7 y6) (.int .i64 t66)) (fun v_6 h8 => ∃ (t80 : Addr), v_6 = (.pointer (some t80)) ∧
wrCells t80 0 [.string t78f0, .string t78f1, .string t78f2, .bool t78f3, .string t78f4] (fun h9 =>
L1 y8 y7 y6 hi2 y57 cmp4 y86 K h9) h8) h7) h6) h5) h4) h3)) h2) h1) h) : J2 y8 y7 y6 hi2 y57 cmp4 y70 y86 K h := by unfold J2; exact Jn.of_txt (an 199) (by kernel_rfl) H
theorem L1_Xret {Q : VP}  {h : Heap} (H :
Q (.tuple #[]) h) : (K1 Q) .ret (Xret ) h := y20 (by kernel_rfl) H
theorem door {y8 : OA} {y7 y6 : Nat} {lo1 hi2 y57 : Int} {cmp4 : Value} {Q : VP} {h : Heap} (H :
L1 y8 y7 y6 hi2 y57 cmp4 lo1 (K1 Q) h) : SpecH PP z369 [(.slice y8 y7 y6), .int .i64 lo1, .int .i64 hi2, .int .i64 y57, cmp4] h Q :=
  y12 (ann := ann) Tryz.func195 rfl rfl (by kernel_rfl) H
end z368
namespace z334
def ann : Ann := (.seq 15 (rg 1 15) (.seq 256 (rg 10 256) (.exit 256)))
theorem door {y8 : OA} {y7 y6 : Nat} {a1 : Int} {swaps2 : OA} {cmp3 : Value} {Q : VP} {h : Heap} (H :
let t11 : Int := IntKind.i64.wrap (a1 - 1)
let t14 : Int := IntKind.i64.wrap (a1 + 1)
SpecH PP z339 [(.slice y8 y7 y6), .int .i64 t11, .int .i64 a1, .int .i64 t14, .pointer swaps2, cmp3] h (fun v h1 => ∃ (t17 : Int), v = (.int .i64 t17) ∧
Q (.int .i64 t17) h1)) : SpecH PP z335 [(.slice y8 y7 y6), .int .i64 a1, .pointer swaps2, cmp3] h Q :=
  y12 (ann := ann) Tryz.func196 rfl rfl (by kernel_rfl) H
end z334
namespace z338
def ann : Ann := (.seq 63 (rg 1 63) (.seq 63 (rg 11 63) (.seq 55 (rg 11 55) (.seq 4 (rg 11 4) (.seq 4096 (rg 2 4096) (.exit 4096))))))
theorem door {y8 : OA} {y7 y6 : Nat} {a1 b2 c3 : Int} {swaps4 : OA} {cmp5 : Value} {Q : VP} {h : Heap} (H :
SpecH PP z345 [(.slice y8 y7 y6), .int .i64 a1, .int .i64 b2, .pointer swaps4, cmp5] h (fun v h1 => ∃ (t19 t19_1 : Int), v = (.tuple #[.int .i64 t19, .int .i64 t19_1]) ∧
SpecH PP z345 [(.slice y8 y7 y6), .int .i64 t19_1, .int .i64 c3, .pointer swaps4, cmp5] h1 (fun v_1 h2 => ∃ (t28 t28_1 : Int), v_1 = (.tuple #[.int .i64 t28, .int .i64 t28_1]) ∧
SpecH PP z345 [(.slice y8 y7 y6), .int .i64 t19, .int .i64 t28, .pointer swaps4, cmp5] h2 (fun v_2 h3 => ∃ (t37 t37_1 : Int), v_2 = (.tuple #[.int .i64 t37, .int .i64 t37_1]) ∧
Q (.int .i64 t37_1) h3)))) : SpecH PP z339 [(.slice y8 y7 y6), .int .i64 a1, .int .i64 b2, .int .i64 c3, .pointer swaps4, cmp5] h Q :=
  y12 (ann := ann) Tryz.func197 rfl rfl (by kernel_rfl) H
end z338
namespace z366
def ann : Ann := (.seq 1053 (rg 2 1053) (.block (.loop 1053 (.block (.seq 3101 (rg 4 3101) (.seq 3101 (.seq 265245 (rg 3 265245) (.cond (.exit 0) .leaf)) (.seq 3101 (.seq 1099511630877 (rg 22 1099511630877) (.join (.cond (rg 3 3101) .leaf))) (.join (.seq 3101 (.seq 288230376151714845 (rg 16 288230376151714845) (.cond (.exit 0) .leaf)) (.seq 2077 (rg 24 2077) (rg 2 1053)))))))))))
noncomputable abbrev cd := cdF Tryz.f201
abbrev an := anF ann
@[irreducible] def X0  : Fr := (mkFr 0 82 [])
@[irreducible] def Xret  : Fr := (mkFr 0 82 [])
@[irreducible] def L1 (y8 : OA) (y7 y6 : Nat) (hi2 y57 : Int) (cmp4 : Value) (y70 : Int) (K : EP) (h : Heap) : Prop := Lp PP true (cd 12) (mkFr 0 82 [(0, (.slice y8 y7 y6)), (2, .int .i64 hi2), (3, .int .i64 y57), (4, cmp4), (10, .int .i64 y70)]) K h
@[irreducible] def B1 (K : EP) : EP := seqK (fun fr h => Lp PP true (cd 12) (fr.mask 1053) K h) K
@[irreducible] def K3 (K : EP) : EP := blockK 1 (B1 K)
@[irreducible] def K2 (K : EP) : EP := seqK (fun fr h => Jn PP true (cd 199) (fr.mask 3101) (K3 K) h) (K3 K)
@[irreducible] def J1 (y8 : OA) (y7 y6 : Nat) (hi2 y57 : Int) (cmp4 : Value) (y70 y86 : Int) (t40 : Bool) (K : EP) (h : Heap) : Prop := Jn PP true (cd 397) (mkFr 0 82 [(0, (.slice y8 y7 y6)), (2, .int .i64 hi2), (3, .int .i64 y57), (4, cmp4), (10, .int .i64 y70), (11, .int .i64 y86), (40, .bool t40)]) (K2 K) h
@[irreducible] def K1 (Q : VP) : EP := blockK 0 (bodyK PP Tryz.f201 Q)
@[irreducible] def J2 (y8 : OA) (y7 y6 : Nat) (hi2 y57 : Int) (cmp4 : Value) (y70 y86 : Int) (K : EP) (h : Heap) : Prop := Jn PP true (cd 199) (mkFr 0 82 [(0, (.slice y8 y7 y6)), (2, .int .i64 hi2), (3, .int .i64 y57), (4, cmp4), (10, .int .i64 y70), (11, .int .i64 y86)]) (K3 K) h
theorem L1_of {y8 : OA} {y7 y6 : Nat} {hi2 y57 : Int} {cmp4 : Value} {y70 : Int} {K : EP} {h : Heap} (H :
let t14 : Int := IntKind.i64.wrap (2 * y70)
let t15 : Int := IntKind.i64.wrap (t14 + 1)
let t18 : Bool := decide (t15 ≥ hi2)
br t18 (
K (.exit 0) (X0) h) (
let t20 : Int := IntKind.i64.wrap (t15 + 1)
let t22 : Bool := decide (t20 < hi2)
br t22 (
let t28 : Int := IntKind.i64.wrap (y57 + t15)
hwp PP (Instr.indexAt y14 (.slice y8 y7 y6) (.int .i64 t28)) (fun v h1 => ∃ (t29 : Addr), v = (.pointer (some t29)) ∧
∃ (t30f0 t30f1 t30f2 : ByteArray), rdCells h1 t29 0 [.string t30f0, .string t30f1, .string t30f2] ∧
let t34 : Int := IntKind.i64.wrap (y57 + t15)
let t35 : Int := IntKind.i64.wrap (t34 + 1)
hwp PP (Instr.indexAt y14 (.slice y8 y7 y6) (.int .i64 t35)) (fun v_1 h2 => ∃ (t36 : Addr), v_1 = (.pointer (some t36)) ∧
∃ (t37f0 t37f1 t37f2 : ByteArray), rdCells h2 t36 0 [.string t37f0, .string t37f1, .string t37f2] ∧
callV PP cmp4 [(.agg #[.string t30f0, .string t30f1, .string t30f2]), (.agg #[.string t37f0, .string t37f1, .string t37f2])] (fun v_2 h3 => ∃ (t38 : Int), v_2 = (.int .i64 t38) ∧
let t39 : Bool := decide (t38 < 0)
J1 y8 y7 y6 hi2 y57 cmp4 y70 t15 t39 K h3) h2) h1) h) (
J1 y8 y7 y6 hi2 y57 cmp4 y70 t15 false K h))) : L1 y8 y7 y6 hi2 y57 cmp4 y70 K h := by unfold L1; exact Lp.of_txt (an 12) 1053 (by kernel_rfl) H
theorem L1_X0 {Q : VP}  {h : Heap} (H :
Q (.tuple #[]) h) : (K1 Q) (.exit 0) (X0 ) h := y20 (by kernel_rfl) H
theorem J1_of {y8 : OA} {y7 y6 : Nat} {hi2 y57 : Int} {cmp4 : Value} {y70 y86 : Int} {t40 : Bool} {K : EP} {h : Heap} (H :
br t40 (
let t42 : Int := IntKind.i64.wrap (y86 + 1)
J2 y8 y7 y6 hi2 y57 cmp4 y70 t42 K h) (
J2 y8 y7 y6 hi2 y57 cmp4 y70 y86 K h)) : J1 y8 y7 y6 hi2 y57 cmp4 y70 y86 t40 K h := by unfold J1; exact Jn.of_txt (an 397) (by kernel_rfl) H
theorem J2_of {y8 : OA} {y7 y6 : Nat} {hi2 y57 : Int} {cmp4 : Value} {y70 y86 : Int} {K : EP} {h : Heap} (H :
let t47 : Int := IntKind.i64.wrap (y57 + y70)
hwp PP (Instr.indexAt y14 (.slice y8 y7 y6) (.int .i64 t47)) (fun v h1 => ∃ (t48 : Addr), v = (.pointer (some t48)) ∧
∃ (t49f0 t49f1 t49f2 : ByteArray), rdCells h1 t48 0 [.string t49f0, .string t49f1, .string t49f2] ∧
let t53 : Int := IntKind.i64.wrap (y57 + y86)
hwp PP (Instr.indexAt y14 (.slice y8 y7 y6) (.int .i64 t53)) (fun v_1 h2 => ∃ (t54 : Addr), v_1 = (.pointer (some t54)) ∧
∃ (t55f0 t55f1 t55f2 : ByteArray), rdCells h2 t54 0 [.string t55f0, .string t55f1, .string t55f2] ∧
callV PP cmp4 [(.agg #[.string t49f0, .string t49f1, .string t49f2]), (.agg #[.string t55f0, .string t55f1, .string t55f2])] (fun v_2 h3 => ∃ (t56 : Int), v_2 = (.int .i64 t56) ∧
let t57 : Bool := decide (t56 < 0)
let t58 : Bool := (!t57)
br t58 (
K .ret (Xret) h3) (
let t62 : Int := IntKind.i64.wrap (y57 + y70)
let t66 : Int := IntKind.i64.wrap (y57 + y86)
let t70 : Int := IntKind.i64.wrap (y57 + y86)
hwp PP (Instr.indexAt y14 (.slice y8 y7 y6) (.int .i64 t70)) (fun v_3 h4 => ∃ (t71 : Addr), v_3 = (.pointer (some t71)) ∧
∃ (t72f0 t72f1 t72f2 : ByteArray), rdCells h4 t71 0 [.string t72f0, .string t72f1, .string t72f2] ∧
let t76 : Int := IntKind.i64.wrap (y57 + y70)
hwp PP (Instr.indexAt y14 (.slice y8 y7 y6) (.int .i64 t76)) (fun v_4 h5 => ∃ (t77 : Addr), v_4 = (.pointer (some t77)) ∧
∃ (t78f0 t78f1 t78f2 : ByteArray), rdCells h5 t77 0 [.string t78f0, .string t78f1, .string t78f2] ∧
hwp PP (Instr.indexAt y14 (.slice y8 y7 y6) (.int .i64 t62)) (fun v_5 h6 => ∃ (t79 : Addr), v_5 = (.pointer (some t79)) ∧
wrCells t79 0 [.string t72f0, .string t72f1, .string t72f2] (fun h7 =>
hwp PP (Instr.indexAt y14 (.slice y8 y7 y6) (.int .i64 t66)) (fun v_6 h8 => ∃ (t80 : Addr), v_6 = (.pointer (some t80)) ∧
wrCells t80 0 [.string t78f0, .string t78f1, .string t78f2] (fun h9 =>
L1 y8 y7 y6 hi2 y57 cmp4 y86 K h9) h8) h7) h6) h5) h4) h3)) h2) h1) h) : J2 y8 y7 y6 hi2 y57 cmp4 y70 y86 K h := by unfold J2; exact Jn.of_txt (an 199) (by kernel_rfl) H
theorem L1_Xret {Q : VP}  {h : Heap} (H :
Q (.tuple #[]) h) : (K1 Q) .ret (Xret ) h := y20 (by kernel_rfl) H
theorem door {y8 : OA} {y7 y6 : Nat} {lo1 hi2 y57 : Int} {cmp4 : Value} {Q : VP} {h : Heap} (H :
L1 y8 y7 y6 hi2 y57 cmp4 lo1 (K1 Q) h) : SpecH PP z367 [(.slice y8 y7 y6), .int .i64 lo1, .int .i64 hi2, .int .i64 y57, cmp4] h Q :=
  y12 (ann := ann) Tryz.func201 rfl rfl (by kernel_rfl) H
end z366
namespace z332
def ann : Ann := (.seq 15 (rg 1 15) (.seq 256 (rg 10 256) (.exit 256)))
theorem door {y8 : OA} {y7 y6 : Nat} {a1 : Int} {swaps2 : OA} {cmp3 : Value} {Q : VP} {h : Heap} (H :
let t11 : Int := IntKind.i64.wrap (a1 - 1)
let t14 : Int := IntKind.i64.wrap (a1 + 1)
SpecH PP z337 [(.slice y8 y7 y6), .int .i64 t11, .int .i64 a1, .int .i64 t14, .pointer swaps2, cmp3] h (fun v h1 => ∃ (t17 : Int), v = (.int .i64 t17) ∧
Q (.int .i64 t17) h1)) : SpecH PP z333 [(.slice y8 y7 y6), .int .i64 a1, .pointer swaps2, cmp3] h Q :=
  y12 (ann := ann) Tryz.func202 rfl rfl (by kernel_rfl) H
end z332
namespace z336
def ann : Ann := (.seq 63 (rg 1 63) (.seq 63 (rg 11 63) (.seq 55 (rg 11 55) (.seq 4 (rg 11 4) (.seq 4096 (rg 2 4096) (.exit 4096))))))
theorem door {y8 : OA} {y7 y6 : Nat} {a1 b2 c3 : Int} {swaps4 : OA} {cmp5 : Value} {Q : VP} {h : Heap} (H :
SpecH PP z343 [(.slice y8 y7 y6), .int .i64 a1, .int .i64 b2, .pointer swaps4, cmp5] h (fun v h1 => ∃ (t19 t19_1 : Int), v = (.tuple #[.int .i64 t19, .int .i64 t19_1]) ∧
SpecH PP z343 [(.slice y8 y7 y6), .int .i64 t19_1, .int .i64 c3, .pointer swaps4, cmp5] h1 (fun v_1 h2 => ∃ (t28 t28_1 : Int), v_1 = (.tuple #[.int .i64 t28, .int .i64 t28_1]) ∧
SpecH PP z343 [(.slice y8 y7 y6), .int .i64 t19, .int .i64 t28, .pointer swaps4, cmp5] h2 (fun v_2 h3 => ∃ (t37 t37_1 : Int), v_2 = (.tuple #[.int .i64 t37, .int .i64 t37_1]) ∧
Q (.int .i64 t37_1) h3)))) : SpecH PP z337 [(.slice y8 y7 y6), .int .i64 a1, .int .i64 b2, .int .i64 c3, .pointer swaps4, cmp5] h Q :=
  y12 (ann := ann) Tryz.func203 rfl rfl (by kernel_rfl) H
end z336
namespace z344
def ann : Ann := (.seq 31 (rg 2 31) (.seq 6 (.seq 4194318 (rg 11 4194318) (.cond (.seq 6 (rg 6 6) (.seq 3072 (rg 4 3072) (.exit 3072))) .leaf)) (.seq 3072 (rg 4 3072) (.exit 3072))))
theorem door {y8 : OA} {y7 y6 : Nat} {a1 b2 : Int} {swaps3 : OA} {cmp4 : Value} {Q : VP} {h : Heap} (H :
hwp PP (Instr.indexAt y11 (.slice y8 y7 y6) (.int .i64 b2)) (fun v h1 => ∃ (t15 : Addr), v = (.pointer (some t15)) ∧
∃ (t16f0 t16f1 t16f2 : ByteArray) (t16f3 : Bool) (t16f4 : ByteArray), rdCells h1 t15 0 [.string t16f0, .string t16f1, .string t16f2, .bool t16f3, .string t16f4] ∧
hwp PP (Instr.indexAt y11 (.slice y8 y7 y6) (.int .i64 a1)) (fun v_1 h2 => ∃ (t19 : Addr), v_1 = (.pointer (some t19)) ∧
∃ (t20f0 t20f1 t20f2 : ByteArray) (t20f3 : Bool) (t20f4 : ByteArray), rdCells h2 t19 0 [.string t20f0, .string t20f1, .string t20f2, .bool t20f3, .string t20f4] ∧
callV PP cmp4 [(.agg #[.string t16f0, .string t16f1, .string t16f2, .bool t16f3, .string t16f4]), (.agg #[.string t20f0, .string t20f1, .string t20f2, .bool t20f3, .string t20f4])] (fun v_2 h3 => ∃ (t21 : Int), v_2 = (.int .i64 t21) ∧
let t22 : Bool := decide (t21 < 0)
br t22 (
nilc swaps3 (fun t24 =>
∃ (t25 : Int), cellH h3 t24 = some (.int .i64 t25) ∧
let t26 : Int := IntKind.i64.wrap (t25 + 1)
nilc swaps3 (fun t27 =>
wr t27 (.int .i64 t26) (fun h4 =>
Q (.tuple #[.int .i64 b2, .int .i64 a1]) h4) h3))) (
Q (.tuple #[.int .i64 a1, .int .i64 b2]) h3)) h2) h1) h) : SpecH PP z345 [(.slice y8 y7 y6), .int .i64 a1, .int .i64 b2, .pointer swaps3, cmp4] h Q :=
  y12 (ann := ann) Tryz.func204 rfl rfl (by kernel_rfl) H
end z344
namespace z342
def ann : Ann := (.seq 31 (rg 2 31) (.seq 6 (.seq 4194318 (rg 11 4194318) (.cond (.seq 6 (rg 6 6) (.seq 3072 (rg 4 3072) (.exit 3072))) .leaf)) (.seq 3072 (rg 4 3072) (.exit 3072))))
theorem door {y8 : OA} {y7 y6 : Nat} {a1 b2 : Int} {swaps3 : OA} {cmp4 : Value} {Q : VP} {h : Heap} (H :
hwp PP (Instr.indexAt y14 (.slice y8 y7 y6) (.int .i64 b2)) (fun v h1 => ∃ (t15 : Addr), v = (.pointer (some t15)) ∧
∃ (t16f0 t16f1 t16f2 : ByteArray), rdCells h1 t15 0 [.string t16f0, .string t16f1, .string t16f2] ∧
hwp PP (Instr.indexAt y14 (.slice y8 y7 y6) (.int .i64 a1)) (fun v_1 h2 => ∃ (t19 : Addr), v_1 = (.pointer (some t19)) ∧
∃ (t20f0 t20f1 t20f2 : ByteArray), rdCells h2 t19 0 [.string t20f0, .string t20f1, .string t20f2] ∧
callV PP cmp4 [(.agg #[.string t16f0, .string t16f1, .string t16f2]), (.agg #[.string t20f0, .string t20f1, .string t20f2])] (fun v_2 h3 => ∃ (t21 : Int), v_2 = (.int .i64 t21) ∧
let t22 : Bool := decide (t21 < 0)
br t22 (
nilc swaps3 (fun t24 =>
∃ (t25 : Int), cellH h3 t24 = some (.int .i64 t25) ∧
let t26 : Int := IntKind.i64.wrap (t25 + 1)
nilc swaps3 (fun t27 =>
wr t27 (.int .i64 t26) (fun h4 =>
Q (.tuple #[.int .i64 b2, .int .i64 a1]) h4) h3))) (
Q (.tuple #[.int .i64 a1, .int .i64 b2]) h3)) h2) h1) h) : SpecH PP z343 [(.slice y8 y7 y6), .int .i64 a1, .int .i64 b2, .pointer swaps3, cmp4] h Q :=
  y12 (ann := ann) Tryz.func207 rfl rfl (by kernel_rfl) H
end z342

end Go.Proofs.YtglcanljknjcfaaGreatDoor

set_option maxRecDepth 100000
namespace Go.Proofs.YtglcanljknjcfaaGreatDoor
open Go Go.HW
structure Key where
 t : ByteArray
 a : ByteArray
 e : ByteArray
 deriving Inhabited, DecidableEq
structure Bx where
 t : ByteArray
 a : ByteArray
 deriving Inhabited, DecidableEq
structure Wr where
 k : Key
 there : Bool
 data : ByteArray
 deriving Inhabited, DecidableEq
def keyV (k : Key) : List Value := [.string k.t, .string k.a, .string k.e]
def bxV (b : Bx) : List Value := [.string b.t, .string b.a]
def wrV (w : Wr) : List Value := [.string w.k.t, .string w.k.a, .string w.k.e, .bool w.there, .string w.data]
def keyA (k : Key) : Value := .agg (keyV k).toArray
def bxA (b : Bx) : Value := .agg (bxV b).toArray
def wrA (w : Wr) : Value := .agg (wrV w).toArray
theorem s1 (s : ByteArray) : (s == s) = true := by rw [bytes_beq]; exact decide_eq_true rfl
theorem KeyK : Keys PP y23 keyA := by
 obtain ⟨fs, hu⟩ := struct_of (P := PP) (t := y23) (by kernel_rfl)
 refine Keys.plain hu (fun a b => ?_) (fun b a => ?_) (fun a => ?_)
 ·have : eqv PP 6 y23 (keyA a) (keyA b) = some (decide (a.t = b.t) && (decide (a.a = b.a) && (decide (a.e = b.e) && true))) := by kernel_rfl
  rw [this]; cases a; cases b; simp [Key.mk.injEq, Bool.decide_and]
 ·cases b <;> kernel_rfl
 ·rw [show (10000 : Nat) = 9998 + 1 + 1 from rfl]; simp [keyA, keyV, Instr.sameBits, s1]
theorem BoxK : Keys PP y74 bxA := by
 obtain ⟨fs, hu⟩ := struct_of (P := PP) (t := y74) (by kernel_rfl)
 refine Keys.plain hu (fun a b => ?_) (fun b a => ?_) (fun a => ?_)
 ·have : eqv PP 6 y74 (bxA a) (bxA b) = some (decide (a.t = b.t) && (decide (a.a = b.a) && true)) := by kernel_rfl
  rw [this]; cases a; cases b; simp [Bx.mk.injEq, Bool.decide_and]
 ·cases b <;> kernel_rfl
 ·rw [show (10000 : Nat) = 9998 + 1 + 1 from rfl]; simp [bxA, bxV, Instr.sameBits, s1]
end Go.Proofs.YtglcanljknjcfaaGreatDoor

namespace Go.Proofs.YtglcanljknjcfaaGreatDoor
open Go Go.HW
theorem bl_eq : ∀ (x y : List UInt8), Op.bytesLess x y = decide (x < y)
 | [], [] => by simp [Op.bytesLess]
 | _ :: _, [] => by simp [Op.bytesLess]
 | [], _ :: _ => by simp [Op.bytesLess]
 | a :: x, b :: y => by
  rw [Op.bytesLess, bl_eq x y]
  simp only [List.cons_lt_cons_iff]
  by_cases h1 : a < b <;> by_cases h2 : a = b <;> by_cases h3 : x < y <;> simp [h1, h2, h3]
theorem strLt_eq (x y : ByteArray) : strLt x y = decide (x.data.toList < y.data.toList) := by
 unfold strLt; rw [bl_eq, ByteArray.toList_eq, ByteArray.toList_eq]
theorem ba_ext {x y : ByteArray} (h : x.data.toList = y.data.toList) : x = y := by
 cases x; cases y; simp only at h; rw [Array.toList_inj.1 h]
theorem sl_irrefl (x : ByteArray) : strLt x x = false := by rw [strLt_eq]; simp [List.lt_irrefl]
theorem sl_trans {x y z : ByteArray} (h1 : strLt x y = true) (h2 : strLt y z = true) : strLt x z = true := by
 rw [strLt_eq, decide_eq_true_eq] at *; exact List.lt_trans h1 h2
theorem sl_tri {x y : ByteArray} (h1 : strLt x y = false) (h2 : strLt y x = false) : x = y := by
 rw [strLt_eq, decide_eq_false_iff_not, List.not_lt] at *; exact ba_ext (List.le_antisymm h2 h1)
theorem sl_asymm {x y : ByteArray} (h : strLt x y = true) : strLt y x = false := by
 cases e : strLt y x with
 | false => rfl
 | true => have := sl_trans h e; rw [sl_irrefl] at this; cases this
def klt (a b : Key) : Bool := if a.t ≠ b.t then strLt a.t b.t else if a.a ≠ b.a then strLt a.a b.a else strLt a.e b.e
theorem y109 (a : Key) : klt a a = false := by unfold klt; simp [sl_irrefl]
theorem klt_asymm {a b : Key} (h : klt a b = true) : klt b a = false := by
 unfold klt at *
 by_cases e1 : a.t = b.t
 ·rw [if_neg (by simpa using e1)] at h
  rw [if_neg (by simpa using e1.symm)]
  by_cases e2 : a.a = b.a
  ·rw [if_neg (by simpa using e2)] at h
   rw [if_neg (by simpa using e2.symm)]; exact sl_asymm h
  ·rw [if_pos (by simpa using e2)] at h
   rw [if_pos (fun q => e2 q.symm)]; exact sl_asymm h
 ·rw [if_pos (by simpa using e1)] at h
  rw [if_pos (fun q => e1 q.symm)]; exact sl_asymm h
theorem klt_tri {a b : Key} (h1 : klt a b = false) (h2 : klt b a = false) : a = b := by
 unfold klt at *
 by_cases e1 : a.t = b.t
 ·rw [if_neg (by simpa using e1)] at h1
  rw [if_neg (by simpa using e1.symm)] at h2
  by_cases e2 : a.a = b.a
  ·rw [if_neg (by simpa using e2)] at h1
   rw [if_neg (by simpa using e2.symm)] at h2
   have e3 := sl_tri h1 h2
   cases a; cases b; simp only at e1 e2 e3; rw [e1, e2, e3]
  ·rw [if_pos (by simpa using e2)] at h1
   rw [if_pos (fun q => e2 q.symm)] at h2
   exact absurd (sl_tri h1 h2) e2
 ·rw [if_pos (by simpa using e1)] at h1
  rw [if_pos (fun q => e1 q.symm)] at h2
  exact absurd (sl_tri h1 h2) e1
theorem y175 {a b c : Key} (h1 : klt a b = true) (h2 : klt b c = true) : klt a c = true := by
 unfold klt at *
 by_cases e1 : a.t = b.t
 ·rw [if_neg (by simpa using e1)] at h1
  rw [e1]
  by_cases f1 : b.t = c.t
  ·rw [if_neg (by simpa using f1)] at h2
   rw [if_neg (by simpa using f1)]
   by_cases e2 : a.a = b.a
   ·rw [if_neg (by simpa using e2)] at h1
    rw [e2]
    by_cases f2 : b.a = c.a
    ·rw [if_neg (by simpa using f2)] at h2
     rw [if_neg (by simpa using f2)]; exact sl_trans h1 h2
    ·rw [if_pos (by simpa using f2)] at h2
     rw [if_pos (by simpa using f2)]; exact h2
   ·rw [if_pos (by simpa using e2)] at h1
    by_cases f2 : b.a = c.a
    ·rw [← f2, if_pos (by simpa using e2)]; exact h1
    ·rw [if_pos (by simpa using f2)] at h2
     have h3 := sl_trans h1 h2
     rw [if_pos (fun q => by rw [q, sl_irrefl] at h3; cases h3)]; exact h3
  ·rw [if_pos (by simpa using f1)] at h2
   rw [if_pos (by simpa using f1)]; exact h2
 ·rw [if_pos (by simpa using e1)] at h1
  by_cases f1 : b.t = c.t
  ·rw [← f1, if_pos (by simpa using e1)]; exact h1
  ·rw [if_pos (by simpa using f1)] at h2
   have h3 := sl_trans h1 h2
   rw [if_pos (fun q => by rw [q, sl_irrefl] at h3; cases h3)]; exact h3
theorem klt_ntrans {a b c : Key} (h1 : klt a b = false) (h2 : klt b c = false) : klt a c = false := by
 cases e : klt a c with
 | false => rfl
 | true =>
  cases e2 : klt b a with
  | false => have := klt_tri h1 e2; subst this; rw [e] at h2; cases h2
  | true => have := y175 e2 e; rw [this] at h2; cases h2
def wlt (x y : Wr) : Bool := klt x.k y.k
theorem wlt_swo : Sort.SWO wlt := ⟨fun x => y109 _, fun x y z => y175, fun x y z => klt_ntrans⟩
def Rise (l : List Wr) : Prop := l.Pairwise fun x y => wlt x y = true
theorem rise_uniq : ∀ {l m : List Wr}, Rise l → Rise m → l.Perm m → l = m
 | [], m, _, _, p => by rw [List.nil_perm.1 p]
 | x :: l, [], _, _, p => by have := List.perm_nil.1 p; cases this
 | x :: l, y :: m, h1, h2, p => by
  have h1' := List.pairwise_cons.1 h1
  have h2' := List.pairwise_cons.1 h2
  have e : x = y := by
   by_cases e : x = y
   ·exact e
   have hx : x ∈ y :: m := p.subset (List.mem_cons_self ..)
   have hy : y ∈ x :: l := p.symm.subset (List.mem_cons_self ..)
   rcases List.mem_cons.1 hx with q | q
   ·exact absurd q e
   rcases List.mem_cons.1 hy with q2 | q2
   ·exact absurd q2.symm e
   have a := h2'.1 x q
   have b := h1'.1 y q2
   have := klt_asymm a
   unfold wlt at b; rw [this] at b; cases b
  subst e
  rw [rise_uniq h1'.2 h2'.2 ((List.perm_cons x).1 p)]
end Go.Proofs.YtglcanljknjcfaaGreatDoor

set_option maxRecDepth 20000
namespace Go.Proofs.YtglcanljknjcfaaGreatDoor
open Go Go.HW
variable {h : Heap} {L : List Assn} {Q : Value → Heap → Prop}
def cmpI (x y : ByteArray) : Int := if strLt x y = true then -1 else if x = y then 0 else 1
theorem isNaN_pure (x : ByteArray) : PureAt PP z245 [.string x] (.bool false) := by
 intro h
 refine z244.door ?_
 simp
theorem y171 (x y : ByteArray) : PureAt PP z239 [.string x, .string y] (.int .i64 (cmpI x y)) := by
 intro h
 refine z238.door ⟨_, isNaN_pure x, _, rfl, _, isNaN_pure y, _, rfl, y13 rfl (y13 rfl ?_)⟩
 unfold cmpI
 refine (y16 _ _ _).2 ⟨fun e => ?_, fun e => (y16 _ _ _).2 ⟨fun e2 => ?_, fun e2 => ?_⟩⟩
 ·rw [if_pos e]; simp
 ·rw [e] at e2
  have e3 : ¬ x = y := by simpa using e2
  rw [if_neg (by rw [e]; simp), if_neg e3]; simp
 ·rw [e] at e2
  have e3 : x = y := by simpa using e2
  rw [if_neg (by rw [e]; simp), if_pos e3]; simp
theorem or_hs {a b c : Int} {bk : Nat} (H : Hs h (pt bk y63 [.int .i64 a, .int .i64 b, .int .i64 c] :: L)) (k : ∀ h', Hs h' L → Q (.int .i64 (if a ≠ 0 then a else if b ≠ 0 then b else c)) h') : SpecH PP z243 [.slice (some ⟨bk, 0, none⟩) 3 3] h Q := by
 refine z242.door ?_
 have r : Rd h (some ⟨bk, 0, none⟩) [.int .i64 a, .int .i64 b, .int .i64 c] := H.ptrd rfl
 refine z242.L1_of (y22 rfl ?_)
 refine idx (i := 0) E_sl_int r (by decide) (by decide) rfl fun t ht => ⟨_, ht, (y16 _ _ _).2 ⟨fun e => z242.L1_Xret ?_, fun e => ?_⟩⟩
 ·have e : a ≠ 0 := bne_iff_ne.1 e
  rw [if_pos e] at k; exact k h H.tl
 have e : a = 0 := bne_eq_false_iff_eq.1 e
 rw [if_neg (by simpa using e)] at k
 dsimp only
 refine z242.L1_of (y22 rfl ?_)
 refine idx (i := 1) E_sl_int r (by decide) (by decide) rfl fun t ht => ⟨_, ht, (y16 _ _ _).2 ⟨fun e => z242.L1_Xret ?_, fun e => ?_⟩⟩
 ·have e : b ≠ 0 := bne_iff_ne.1 e
  rw [if_pos e] at k; exact k h H.tl
 have e : b = 0 := bne_eq_false_iff_eq.1 e
 rw [if_neg (by simpa using e)] at k
 dsimp only
 refine z242.L1_of (y22 rfl ?_)
 refine idx (i := 2) E_sl_int r (by decide) (by decide) rfl fun t ht => ⟨_, ht, (y16 _ _ _).2 ⟨fun e => z242.L1_Xret (k h H.tl), fun e => ?_⟩⟩
 have e : c = 0 := bne_eq_false_iff_eq.1 e
 dsimp only
 refine z242.L1_of (y13 rfl (z242.L1_X0 ?_))
 rw [e] at k
 exact k h H.tl
theorem cmpI_lt {x y : ByteArray} : decide (cmpI x y < 0) = strLt x y := by
 unfold cmpI
 cases e : strLt x y with
 | true => simp
 | false => rw [if_neg (by simp)]; split <;> simp
theorem cmpI_ne {x y : ByteArray} : cmpI x y ≠ 0 ↔ x ≠ y := by
 unfold cmpI
 by_cases e : x = y
 ·subst e; rw [sl_irrefl]; simp
 ·cases e2 : strLt x y <;> simp [e]
theorem cmp3 (x y : Key) : decide ((if cmpI x.t y.t ≠ 0 then cmpI x.t y.t else if cmpI x.a y.a ≠ 0 then cmpI x.a y.a else cmpI x.e y.e) < 0) = klt x y := by
 unfold klt
 simp only [cmpI_ne]
 split
 ·exact cmpI_lt
 ·split
  ·exact cmpI_lt
  ·exact cmpI_lt
end Go.Proofs.YtglcanljknjcfaaGreatDoor

namespace Go.Proofs.YtglcanljknjcfaaGreatDoor
open Go Go.HW
structure Cm where
 at_ : Int
 a : OA
 n : Nat
 c : Nat
 ws : List Wr
def cmV (x : Cm) : List Value := [.int .i64 x.at_, .slice x.a x.n x.c]
structure CmOk (L : List Assn) (x : Cm) : Prop where
 rd : Gv L x.a (x.ws.flatMap wrV)
 n : x.ws.length = x.n
 lt : x.n < 2 ^ 60
theorem CmOk.cons {L : List Assn} {A : Assn} {x : Cm} (h : CmOk L x) : CmOk (A :: L) x := ⟨h.rd.cons, h.n, h.lt⟩
end Go.Proofs.YtglcanljknjcfaaGreatDoor

set_option maxRecDepth 20000
namespace Go.Proofs.YtglcanljknjcfaaGreatDoor.Srtapi_Key
open Go Go.HW Go.Sort
variable {h : Heap} {L : List Assn} {Q : Value → Heap → Prop} {a : OA} {n c : Nat}
def S (a : OA) (n c : Nat) (d : Array Key) : Assn := own a n c y23 3 (d.toList.flatMap keyV)
theorem phl (x : Key) : (keyV x).length = 3 := rfl
def CmpOk (cmp : Value) (lt : Key → Key → Bool) : Prop := ∀ (x y : Key) (M : List Assn) (h : Heap) (R : VP), Hs h M → (∀ h' (r : Int), decide (r < 0) = lt x y → Hs h' M → R (.int .i64 r) h') → callV PP cmp [.agg (keyV x).toArray, .agg (keyV y).toArray] R h
theorem wI {x : Int} (h1 : -9223372036854775808 ≤ x) (h2 : x < 9223372036854775808) : IntKind.i64.wrap x = x := y34 h1 h2
theorem wA {i j : Nat} (h : i + j < 2 ^ 62) : IntKind.i64.wrap ((i : Int) + (j : Int)) = ((i + j : Nat) : Int) := by rw [wI (by omega) (by omega)]; omega
theorem wS {i j : Nat} (h : j ≤ i) (h2 : i < 2 ^ 62) : IntKind.i64.wrap ((i : Int) - (j : Int)) = ((i - j : Nat) : Int) := by rw [wI (by omega) (by omega)]; omega
theorem w1 {i : Nat} (h : i < 2 ^ 62) : IntKind.i64.wrap ((i : Int) + 1) = ((i + 1 : Nat) : Int) := by rw [wI (by omega) (by omega)]; omega
theorem p1 {i : Nat} (h : 1 ≤ i) (h2 : i < 2 ^ 62) : IntKind.i64.wrap ((i : Int) - 1) = ((i - 1 : Nat) : Int) := by rw [wI (by omega) (by omega)]; omega
theorem toL {d : Array Key} {i : Nat} (hi : i < d.size) : d.toList[i]? = some d[i]! := by simp [hi]
theorem lk {d : Array Key} {i : Nat} {M : List Assn} (hn : d.size = n) (hi : i < n) (H : Hs h (S a n c d :: M)) {R : Addr → Heap → Prop} (K : ∀ t, rdCells h t 0 (keyV d[i]!) → R t h) :
  hwp PP (Instr.indexAt y14 (.slice a n c) (.int .i64 (i : Int))) (fun u h1 => ∃ t, u = .pointer (some t) ∧ R t h1) h :=
 idxf y169 (φ := keyV) (l := d.toList) (x := d[i]!) H.rd phl (by decide) (by omega) (by omega) (by rw [Int.toNat_natCast]; exact toL (by omega)) K
theorem y75 {d : Array Key} {i j : Nat} (hn : d.size = n) (hi : i < n) (hj : j < n) (H : Hs h (S a n c d :: L)) {K : Heap → Prop} (k : ∀ h', Hs h' (S a n c (swp d i j) :: L) → K h') :
  hwp PP (Instr.indexAt y14 (.slice a n c) (.int .i64 (j : Int))) (fun v h1 => ∃ (t88 : Addr), v = (.pointer (some t88)) ∧
  ∃ (f0 : ByteArray) (f1 : ByteArray) (f2 : ByteArray), rdCells h1 t88 0 [(.string f0), (.string f1), (.string f2)] ∧
  hwp PP (Instr.indexAt y14 (.slice a n c) (.int .i64 (i : Int))) (fun v_1 h2 => ∃ (t92 : Addr), v_1 = (.pointer (some t92)) ∧
  ∃ (g0 : ByteArray) (g1 : ByteArray) (g2 : ByteArray), rdCells h2 t92 0 [(.string g0), (.string g1), (.string g2)] ∧
  hwp PP (Instr.indexAt y14 (.slice a n c) (.int .i64 (i : Int))) (fun v_2 h3 => ∃ (t94 : Addr), v_2 = (.pointer (some t94)) ∧
  wrCells t94 0 [(.string f0), (.string f1), (.string f2)] (fun h4 =>
  hwp PP (Instr.indexAt y14 (.slice a n c) (.int .i64 (j : Int))) (fun v_3 h5 => ∃ (t96 : Addr), v_3 = (.pointer (some t96)) ∧
  wrCells t96 0 [(.string g0), (.string g1), (.string g2)] K h5) h4) h3) h2) h1) h := by
 refine lk hn hj H fun t ht => ⟨_, _, _, ht, ?_⟩
 refine lk hn hi H fun t ht => ⟨_, _, _, ht, ?_⟩
 have one : ∀ x : Key, ∀ v ∈ keyV x, oneC v = true := fun x v hv => by
  simp only [keyV, List.mem_cons, List.not_mem_nil, or_false] at hv
  rcases hv with rfl | rfl | rfl <;> rfl
 refine Hs.idx_wrf (φ := keyV) d[j]! y169 H (by omega) (by omega) phl (by decide) (one _) fun h4 H4 => ?_
 refine Hs.idx_wrf (φ := keyV) d[i]! y169 H4 (by omega) (by omega) phl (by decide) (one _) fun h6 H6 => ?_
 refine k h6 ?_
 have e : (d.toList.set (i : Int).toNat d[j]!).set (j : Int).toNat d[i]! = (swp d i j).toList := by
  rw [Int.toNat_natCast, Int.toNat_natCast, swp, Array.toList_setIfInBounds, Array.toList_setIfInBounds]
 rw [e] at H6
 exact H6
theorem y62 {d : Array Key} {i j : Nat} : (swp d i j).size = d.size := by simp [swp]
variable {cmp : Value} {lt : Key → Key → Bool}
theorem y185 (hc : CmpOk cmp lt) {d : Array Key} {i j s sw : Nat} (hn : d.size = n) (hi : i < n) (hj : j < n) (hs : s < 1000) (H : Hs h (pt sw y63 [.int .i64 (s : Int)] :: S a n c d :: L))
  (k : ∀ h', Hs h' (pt sw y63 [.int .i64 ((order2 lt d i j s).2.2 : Nat)] :: S a n c d :: L) → Q (.tuple #[.int .i64 ((order2 lt d i j s).1 : Nat), .int .i64 ((order2 lt d i j s).2.1 : Nat)]) h') :
  SpecH PP z343 [.slice a n c, .int .i64 (i : Int), .int .i64 (j : Int), .pointer (some ⟨sw, 0, none⟩), cmp] h Q := by
 refine z342.door ?_
 refine lk hn hj H.tl fun t ht => ⟨_, _, _, ht, ?_⟩
 refine lk hn hi H.tl fun t ht => ⟨_, _, _, ht, ?_⟩
 refine hc d[j]! d[i]! _ _ _ H fun h1 r hr H1 => ⟨_, rfl, ?_⟩
 dsimp only
 rw [hr]
 unfold order2 at k
 refine (y16 _ _ _).2 ⟨fun e => ?_, fun e => ?_⟩
 ·rw [if_pos e] at k
  refine ⟨_, H1.cell (off := 0) rfl, ?_⟩
  dsimp only [nilc]
  refine H1.sto (off := 0) (by simp) fun h2 H2 => ?_
  rw [w1 (by omega)] at H2
  exact k h2 H2
 ·rw [if_neg (by rw [e]; simp)] at k
  exact k h1 H1
theorem y139 {d : Array Key} {i j s : Nat} {p : Nat → Prop} (hi : p i) (hj : p j) : p (order2 lt d i j s).1 ∧ p (order2 lt d i j s).2.1 ∧ (order2 lt d i j s).2.2 ≤ s + 1 := by
 unfold order2; split
 ·exact ⟨hj, hi, by simp⟩
 ·exact ⟨hi, hj, by simp⟩
theorem median_hs (hc : CmpOk cmp lt) {d : Array Key} {i j l s sw : Nat} (hn : d.size = n) (hi : i < n) (hj : j < n) (hl : l < n) (hs : s < 900) (H : Hs h (pt sw y63 [.int .i64 (s : Int)] :: S a n c d :: L))
  (k : ∀ h', Hs h' (pt sw y63 [.int .i64 ((median lt d i j l s).2 : Nat)] :: S a n c d :: L) → Q (.int .i64 ((median lt d i j l s).1 : Nat)) h') :
  SpecH PP z337 [.slice a n c, .int .i64 (i : Int), .int .i64 (j : Int), .int .i64 (l : Int), .pointer (some ⟨sw, 0, none⟩), cmp] h Q := by
 refine z336.door ?_
 obtain ⟨q1, q2, q3⟩ := y139 (lt := lt) (d := d) (s := s) (p := (· < n)) hi hj
 refine y185 hc hn hi hj (by omega) H fun h1 H1 => ⟨_, _, rfl, ?_⟩
 unfold median at k
 dsimp only at k
 generalize order2 lt d i j s = r1 at *
 obtain ⟨r, r', r''⟩ := r1
 dsimp only at q1 q2 q3 H1 k ⊢
 obtain ⟨q4, q5, q6⟩ := y139 (lt := lt) (d := d) (s := r'') (p := (· < n)) q2 hl
 refine y185 hc hn q2 hl (by omega) H1 fun h2 H2 => ⟨_, _, rfl, ?_⟩
 generalize order2 lt d r' l r'' = r2 at *
 obtain ⟨u, u', u''⟩ := r2
 dsimp only at q4 q5 q6 H2 k ⊢
 exact y185 hc hn q1 q4 (by omega) H2 fun h3 H3 => ⟨_, _, rfl, k h3 H3⟩
theorem y186 {d : Array Key} {i j l s : Nat} {p : Nat → Prop} (hi : p i) (hj : p j) (hl : p l) : p (median lt d i j l s).1 ∧ (median lt d i j l s).2 ≤ s + 3 := by
 unfold median
 dsimp only
 obtain ⟨q1, q2, q3⟩ := y139 (lt := lt) (d := d) (s := s) (p := p) hi hj
 generalize order2 lt d i j s = r1 at *
 obtain ⟨q4, q5, q6⟩ := y139 (lt := lt) (d := d) (s := r1.2.2) (p := p) q2 hl
 generalize order2 lt d r1.2.1 l r1.2.2 = r2 at *
 obtain ⟨q7, q8, q9⟩ := y139 (lt := lt) (d := d) (s := r2.2.2) (p := p) q1 q4
 exact ⟨q8, by omega⟩
theorem y114 (hc : CmpOk cmp lt) {d : Array Key} {i s sw : Nat} (hn : d.size = n) (hi : 1 ≤ i) (hi2 : i + 1 < n) (hmax : n < 2 ^ 61) (hs : s < 900) (H : Hs h (pt sw y63 [.int .i64 (s : Int)] :: S a n c d :: L))
  (k : ∀ h', Hs h' (pt sw y63 [.int .i64 ((medianAdjacent lt d i s).2 : Nat)] :: S a n c d :: L) → Q (.int .i64 ((medianAdjacent lt d i s).1 : Nat)) h') :
  SpecH PP z333 [.slice a n c, .int .i64 (i : Int), .pointer (some ⟨sw, 0, none⟩), cmp] h Q := by
 refine z332.door ?_
 dsimp only
 rw [w1 (by omega), p1 hi (by omega)]
 exact median_hs hc hn (by omega) (by omega) (by omega) hs H fun h1 H1 => ⟨_, rfl, k h1 H1⟩
def hintN : Hint → Nat | .unknown => 0 | .increasing => 1 | .decreasing => 2
theorem y201 (hc : CmpOk cmp lt) {d : Array Key} {x y : Nat} (hn : d.size = n) (hxy : x < y) (hy : y ≤ n) (hmax : n < 2 ^ 60) (H : Hs h (S a n c d :: L))
  (k : ∀ h', Hs h' (S a n c d :: L) → Q (.tuple #[.int .i64 ((choosePivot lt d x y).1 : Nat), .int .i64 (hintN (choosePivot lt d x y).2 : Nat)]) h') :
  SpecH PP z321 [.slice a n c, .int .i64 (x : Int), .int .i64 (y : Int), cmp] h Q := by
 refine z320.door ?_
 dsimp only
 have H1 := H.new (t := y63) (cs := #[.int .i64 0]) (xs := [.int .i64 ((0 : Nat) : Int)])
 generalize Array.size h = sw at H1 ⊢
 rw [wS (by omega) (by omega)]
 have t4 : Int.tdiv ((y - x : Nat) : Int) 4 = (((y - x) / 4 : Nat) : Int) := tdiv_n _ 4
 rw [t4, wI (x := (((y - x) / 4 : Nat) : Int)) (by omega) (by omega)]
 have m : ∀ q : Nat, q ≤ 3 → IntKind.i64.wrap ((((y - x) / 4 : Nat) : Int) * (q : Int)) = (((y - x) / 4 * q : Nat) : Int) := fun q hq => by
  have : (y - x) / 4 * q ≤ (y - x) / 4 * 3 := Nat.mul_le_mul_left _ hq
  rw [show (((y - x) / 4 : Nat) : Int) * (q : Int) = (((y - x) / 4 * q : Nat) : Int) by simp, wI (by omega) (by omega)]
 have m1 := m 1 (by omega); have m2 := m 2 (by omega); have m3 := m 3 (by omega)
 simp only [Int.cast_ofNat_Int, Int.ofNat_one] at m1 m2 m3
 have m1' : IntKind.i64.wrap ((((y - x) / 4 : Nat) : Int) * 1) = (((y - x) / 4 * 1 : Nat) : Int) := m1
 rw [m1', m2, m3, wA (by omega), wA (by omega), wA (by omega)]
 have J2 : ∀ {h : Heap} {p s : Nat}, Hs h (pt sw y63 [.int .i64 (s : Int)] :: S a n c d :: L) → choosePivot lt d x y = (p, if s = 0 then .increasing else if s = 12 then .decreasing else .unknown) → z320.J2 ⟨sw, 0, none⟩ (p : Int) Q h := by
  intro h p s H e
  rw [e] at k
  refine z320.J2_of ⟨_, H.cell (off := 0) rfl, (y16 _ _ _).2 ⟨fun e1 => ?_, fun e1 => (y16 _ _ _).2 ⟨fun e2 => ?_, fun e2 => ?_⟩⟩⟩
  ·rw [if_pos (by have := beq_iff_eq.1 e1; omega)] at k; exact k h H.tl
  ·rw [if_neg (by have := beq_eq_false_iff_ne.1 e1; omega), if_pos (by have := beq_iff_eq.1 e2; omega)] at k; exact k h H.tl
  ·rw [if_neg (by have := beq_eq_false_iff_ne.1 e1; omega), if_neg (by have := beq_eq_false_iff_ne.1 e2; omega)] at k; exact k h H.tl
 have J1 : ∀ {h : Heap} {i j l s : Nat}, i < n → j < n → l < n → s < 900 → Hs h (pt sw y63 [.int .i64 (s : Int)] :: S a n c d :: L) → choosePivot lt d x y = ((median lt d i j l s).1, if (median lt d i j l s).2 = 0 then .increasing else if (median lt d i j l s).2 = 12 then .decreasing else .unknown) →
   z320.J1 a n c cmp ⟨sw, 0, none⟩ (i : Int) (j : Int) (l : Int) Q h := by
  intro h i j l s hi hj hl hs H e
  exact z320.J1_of (median_hs hc hn hi hj hl hs H fun h1 H1 => ⟨_, rfl, J2 H1 e⟩)
 have hq : 4 * ((y - x) / 4) ≤ y - x := Nat.mul_div_le _ _
 refine (y16 _ _ _).2 ⟨fun e8 => ?_, fun e8 => ?_⟩
 ·have e8 := of_decide_eq_true e8
  refine (y16 _ _ _).2 ⟨fun e50 => ?_, fun e50 => ?_⟩
  ·have e50 := of_decide_eq_true e50
   have u : ∀ A B C, medianAdjacent lt d (x + (y - x) / 4 * 1) 0 = A → medianAdjacent lt d (x + (y - x) / 4 * 2) A.2 = B → medianAdjacent lt d (x + (y - x) / 4 * 3) B.2 = C →
     choosePivot lt d x y = ((median lt d A.1 B.1 C.1 C.2).1, if (median lt d A.1 B.1 C.1 C.2).2 = 0 then .increasing else if (median lt d A.1 B.1 C.1 C.2).2 = 12 then .decreasing else .unknown) := by
    rintro _ _ _ rfl rfl rfl
    unfold choosePivot; dsimp only; rw [if_pos (by omega), if_pos (by omega)]
   obtain ⟨a1, a2⟩ : (medianAdjacent lt d (x + (y - x) / 4 * 1) 0).1 < n ∧ (medianAdjacent lt d (x + (y - x) / 4 * 1) 0).2 ≤ 0 + 3 := y186 (p := (· < n)) (by omega) (by omega) (by omega)
   refine y114 hc hn (by omega) (by omega) (by omega) (by omega) H1 fun h2 H2 => ⟨_, rfl, ?_⟩
   generalize hA : medianAdjacent lt d (x + (y - x) / 4 * 1) 0 = A at H2 a1 a2 ⊢
   obtain ⟨b1, b2⟩ : (medianAdjacent lt d (x + (y - x) / 4 * 2) A.2).1 < n ∧ (medianAdjacent lt d (x + (y - x) / 4 * 2) A.2).2 ≤ A.2 + 3 := y186 (p := (· < n)) (by omega) (by omega) (by omega)
   refine y114 hc hn (by omega) (by omega) (by omega) (by omega) H2 fun h3 H3 => ⟨_, rfl, ?_⟩
   generalize hB : medianAdjacent lt d (x + (y - x) / 4 * 2) A.2 = B at H3 b1 b2 ⊢
   obtain ⟨c1, c2⟩ : (medianAdjacent lt d (x + (y - x) / 4 * 3) B.2).1 < n ∧ (medianAdjacent lt d (x + (y - x) / 4 * 3) B.2).2 ≤ B.2 + 3 := y186 (p := (· < n)) (by omega) (by omega) (by omega)
   refine y114 hc hn (by omega) (by omega) (by omega) (by omega) H3 fun h4 H4 => ⟨_, rfl, ?_⟩
   generalize hC : medianAdjacent lt d (x + (y - x) / 4 * 3) B.2 = C at H4 c1 c2 ⊢
   exact J1 a1 b1 c1 (by omega) H4 (u A B C hA hB hC)
  ·have e50 := of_decide_eq_false e50
   exact J1 (s := 0) (by omega) (by omega) (by omega) (by omega) H1 (by unfold choosePivot; dsimp only; rw [if_pos (by omega), if_neg (by omega)])
 ·have e8 := of_decide_eq_false e8
  exact J2 (s := 0) H1 (by unfold choosePivot; dsimp only; rw [if_neg (by omega)])
theorem y202 {d : Array Key} {x y : Nat} (hxy : x < y) : x ≤ (choosePivot lt d x y).1 ∧ (choosePivot lt d x y).1 < y := choosePivot_holds lt d x y hxy
end Go.Proofs.YtglcanljknjcfaaGreatDoor.Srtapi_Key

set_option maxRecDepth 20000
namespace Go.Proofs.YtglcanljknjcfaaGreatDoor.Srtapi_Key
open Go Go.HW Go.Sort
variable {h : Heap} {L : List Assn} {Q : Value → Heap → Prop} {a : OA} {n c : Nat} {cmp : Value} {lt : Key → Key → Bool}
theorem reverse_hs {d : Array Key} {x y : Nat} (hn : d.size = n) (hxy : x < y) (hy : y ≤ n) (hmax : n < 2 ^ 60) (H : Hs h (S a n c d :: L)) (k : ∀ h', Hs h' (S a n c (reverseRange d x y) :: L) → Q (.tuple #[]) h') :
  SpecH PP z363 [.slice a n c, .int .i64 (x : Int), .int .i64 (y : Int), cmp] h Q := by
 refine z362.door ?_
 dsimp only
 rw [p1 (by omega) (by omega)]
 have go : ∀ (r i j : Nat) {h : Heap} {e : Array Key}, j ≤ i + r → j < n → e.size = n → reverseLoop i j e = reverseRange d x y → Hs h (S a n c e :: L) → z362.L1 a n c (i : Int) (j : Int) (z362.K1 Q) h := by
  intro r
  induction r with
  | zero =>
   intro i j h e hr hj hs he H
   rw [reverseLoop, if_neg (by omega)] at he
   refine z362.L1_of (y13 (decide_eq_false (by omega)) (z362.L1_X0 (k h ?_)))
   rw [← he]; exact H
  | succ r ih =>
   intro i j h e hr hj hs he H
   rw [reverseLoop] at he
   refine z362.L1_of ((y16 _ _ _).2 ⟨fun e1 => ?_, fun e1 => z362.L1_X0 (k h ?_)⟩)
   ·have e1 := of_decide_eq_true e1
    rw [if_pos (by omega)] at he
    refine y75 hs (by omega) hj H fun h2 H2 => ?_
    dsimp only
    rw [w1 (by omega), p1 (by omega) (by omega)]
    exact ih (i + 1) (j - 1) (by omega) (by omega) (by rw [y62]; exact hs) he H2
   ·have e1 := of_decide_eq_false e1
    rw [if_neg (by omega)] at he
    rw [← he]; exact H
 exact go y x (y - 1) (by omega) (by omega) hn rfl H
theorem insertion_hs (hc : CmpOk cmp lt) {d : Array Key} {x y : Nat} (hn : d.size = n) (hxy : x ≤ y) (hy : y ≤ n) (hmax : n < 2 ^ 60) (H : Hs h (S a n c d :: L)) (k : ∀ h', Hs h' (S a n c (insertionSort lt d x y) :: L) → Q (.tuple #[]) h') :
    SpecH PP z329 [.slice a n c, .int .i64 (x : Int), .int .i64 (y : Int), cmp] h Q := by
  refine z328.door ?_
  dsimp only
  rw [w1 (by omega)]
  have inn : ∀ (j : Nat) {i : Nat} {K : EP} {h : Heap} {e f : Array Key}, j < n → e.size = n → insInner lt x j e = f → (∀ h', Hs h' (S a n c f :: L) → z328.K2 K (.exit 2) (z328.X2 a n c (x : Int) (y : Int) cmp (i : Int)) h') →
      Hs h (S a n c e :: L) → z328.L2 a n c (x : Int) (y : Int) cmp (i : Int) (j : Int) (z328.K2 K) h := by
    intro j
    induction j with
    | zero =>
      intro i K h e f hj hs he kk H
      rw [insInner] at he
      refine z328.L2_of (y13 (decide_eq_false (by omega)) (kk h ?_))
      rw [← he]; exact H
    | succ j ih =>
      intro i K h e f hj hs he kk H
      rw [insInner] at he
      refine z328.L2_of ((y16 _ _ _).2 ⟨fun e1 => ?_, fun e1 => kk h ?_⟩)
      · have e1 := of_decide_eq_true e1
        rw [p1 (by omega) (by omega), show j + 1 - 1 = j by omega]
        refine lk hs hj H fun t ht => ⟨_, _, _, ht, ?_⟩
        refine lk hs (by omega) H fun t ht => ⟨_, _, _, ht, ?_⟩
        refine hc e[j + 1]! e[j]! _ _ _ H fun h1 r hr H1 => ⟨_, rfl, ?_⟩
        dsimp only
        rw [hr]
        refine (y16 _ _ _).2 ⟨fun e2 => ?_, fun e2 => kk h1 ?_⟩
        · rw [if_pos (by rw [e2, decide_eq_true (by omega)]; rfl)] at he
          refine y75 hs hj (by omega) H1 fun h2 H2 => ?_
          exact ih (by omega) (by rw [y62]; exact hs) he kk H2
        · rw [if_neg (by rw [e2]; simp)] at he
          rw [← he]; exact H1
      · have e1 := of_decide_eq_false e1
        rw [if_neg (by rw [decide_eq_false (by omega)]; simp)] at he
        rw [← he]; exact H
  have go : ∀ (r i : Nat) {h : Heap} {e : Array Key}, y ≤ i + r → i ≤ y + 1 → e.size = n → insOuter lt x y i e = insertionSort lt d x y → Hs h (S a n c e :: L) → z328.L1 a n c (x : Int) (y : Int) cmp (i : Int) (z328.K1 Q) h := by
    intro r
    induction r with
    | zero =>
      intro i h e hr hi hs he H
      rw [insOuter, if_neg (by omega)] at he
      refine z328.L1_of (y13 (decide_eq_false (by omega)) (z328.L1_X0 (k h ?_)))
      rw [← he]; exact H
    | succ r ih =>
      intro i h e hr hi hs he H
      rw [insOuter] at he
      refine z328.L1_of ((y16 _ _ _).2 ⟨fun e1 => ?_, fun e1 => z328.L1_X0 (k h ?_)⟩)
      · have e1 := of_decide_eq_true e1
        rw [if_pos (by omega)] at he
        have sz : ∀ (j : Nat) (e : Array Key), (insInner lt x j e).size = e.size := by
          intro j
          induction j with
          | zero => intro e; rfl
          | succ j ih => intro e; rw [insInner]; split
                         · rw [ih, y62]
                         · rfl
        refine inn i (i := i) (by omega) hs rfl (fun h2 H2 => z328.L2_X2 ?_) H
        dsimp only
        rw [w1 (by omega)]
        exact ih (i + 1) (by omega) (by omega) (by rw [sz]; exact hs) he H2
      · have e1 := of_decide_eq_false e1
        rw [if_neg (by omega)] at he
        rw [← he]; exact H
  exact go y (x + 1) (by omega) (by omega) hn rfl H
theorem y178 : ∀ (r : Nat) {hi first root : Nat} {d : Array Key}, hi ≤ root + r → (siftDown lt hi first root d).size = d.size := by
 intro r
 induction r with
 | zero => intro hi first root d hr; rw [siftDown, dif_pos (by omega)]
 | succ r ih =>
  intro hi first root d hr
  rw [siftDown]
  split
  ·rfl
  ·split
   ·split
    ·rfl
    ·split
     ·rw [ih (by omega), y62]
     ·rfl
   ·split
    ·rfl
    ·rw [ih (by omega), y62]
theorem y197 (hc : CmpOk cmp lt) {d : Array Key} {lo hi first : Nat} (hn : d.size = n) (hf : first + hi ≤ n) (hlo : lo ≤ n) (hmax : n < 2 ^ 59) (H : Hs h (S a n c d :: L)) (k : ∀ h', Hs h' (S a n c (siftDown lt hi first lo d) :: L) → Q (.tuple #[]) h') :
  SpecH PP z367 [.slice a n c, .int .i64 (lo : Int), .int .i64 (hi : Int), .int .i64 (first : Int), cmp] h Q := by
 refine z366.door ?_
 have go : ∀ (r root : Nat) {h : Heap} {e : Array Key}, hi ≤ root + r → root ≤ n → e.size = n → siftDown lt hi first root e = siftDown lt hi first lo d → Hs h (S a n c e :: L) → z366.L1 a n c (hi : Int) (first : Int) cmp (root : Int) (z366.K1 Q) h := by
  intro r
  induction r with
  | zero =>
   intro root h e hr hi2 hs he H
   rw [siftDown, dif_pos (by omega)] at he
   refine z366.L1_of ?_
   dsimp only
   rw [wI (x := 2 * (root : Int)) (by omega) (by omega), wI (x := 2 * (root : Int) + 1) (by omega) (by omega)]
   refine y22 (decide_eq_true (by omega)) (z366.L1_X0 (k h ?_))
   rw [← he]; exact H
  | succ r ih =>
   intro root h e hr hi2 hs he H
   refine z366.L1_of ?_
   dsimp only
   rw [wI (x := 2 * (root : Int)) (by omega) (by omega), show IntKind.i64.wrap (2 * (root : Int) + 1) = ((2 * root + 1 : Nat) : Int) by rw [wI (by omega) (by omega)]; omega]
   rw [siftDown] at he
   refine (y16 _ _ _).2 ⟨fun e1 => z366.L1_X0 (k h ?_), fun e1 => ?_⟩
   ·have e1 := of_decide_eq_true e1
    rw [dif_pos (by omega)] at he
    rw [← he]; exact H
   have e1 := of_decide_eq_false e1
   rw [dif_neg (by omega)] at he
   have J2 : ∀ {h : Heap} {ch : Nat}, root < ch → ch < hi → (if (!lt e[first + root]! e[first + ch]!) = true then e else siftDown lt hi first ch (swp e (first + root) (first + ch))) = siftDown lt hi first lo d → Hs h (S a n c e :: L) →
     z366.J2 a n c (hi : Int) (first : Int) cmp (root : Int) (ch : Int) (z366.K1 Q) h := by
    intro h ch hch hch2 he H
    refine z366.J2_of ?_
    dsimp only
    rw [wA (by omega), wA (by omega)]
    refine lk hs (by omega) H fun t ht => ⟨_, _, _, ht, ?_⟩
    refine lk hs (by omega) H fun t ht => ⟨_, _, _, ht, ?_⟩
    refine hc e[first + root]! e[first + ch]! _ _ _ H fun h1 r hr H1 => ⟨_, rfl, ?_⟩
    rw [hr]
    refine (y16 _ _ _).2 ⟨fun e2 => z366.L1_Xret (k h1 ?_), fun e2 => ?_⟩
    ·rw [if_pos e2] at he
     rw [← he]; exact H1
    ·rw [if_neg (by rw [e2]; simp)] at he
     refine y75 hs (by omega) (by omega) H1 fun h2 H2 => ?_
     exact ih ch (by omega) (by omega) (by rw [y62]; exact hs) he H2
   have J1 : ∀ {h : Heap} (b : Bool), (2 * root + 1 + 1 < hi && lt e[first + (2 * root + 1)]! e[first + (2 * root + 1) + 1]!) = b → Hs h (S a n c e :: L) →
     z366.J1 a n c (hi : Int) (first : Int) cmp (root : Int) ((2 * root + 1 : Nat) : Int) b (z366.K1 Q) h := by
    intro h b eb H
    refine z366.J1_of ((y16 _ _ _).2 ⟨fun e2 => ?_, fun e2 => ?_⟩)
    ·subst e2
     rw [if_pos eb] at he
     have : 2 * root + 2 < hi := by
      have := (Bool.and_eq_true _ _ ▸ eb).1
      have := of_decide_eq_true this; omega
     rw [dif_pos this] at he
     dsimp only
     rw [w1 (by omega)]
     exact J2 (by omega) (by omega) he H
    ·subst e2
     rw [if_neg (by rw [eb]; simp)] at he
     exact J2 (by omega) (by omega) he H
   rw [w1 (by omega)]
   refine (y16 _ _ _).2 ⟨fun e2 => ?_, fun e2 => J1 false ?_ H⟩
   ·have e2 := of_decide_eq_true e2
    rw [wA (by omega), w1 (by omega)]
    refine lk hs (by omega) H fun t ht => ⟨_, _, _, ht, ?_⟩
    refine lk hs (by omega) H fun t ht => ⟨_, _, _, ht, ?_⟩
    refine hc e[first + (2 * root + 1)]! e[first + (2 * root + 1) + 1]! _ _ _ H fun h1 r hr H1 => ⟨_, rfl, ?_⟩
    refine J1 _ ?_ H1
    rw [hr, decide_eq_true (by omega), Bool.true_and]
   ·have e2 := of_decide_eq_false e2
    rw [decide_eq_false (by omega), Bool.false_and]
 exact go hi lo (by omega) hlo hn rfl H
theorem heap_hs (hc : CmpOk cmp lt) {d : Array Key} {x y : Nat} (hn : d.size = n) (hxy : x < y) (hy : y ≤ n) (hmax : n < 2 ^ 59) (H : Hs h (S a n c d :: L)) (k : ∀ h', Hs h' (S a n c (heapSort lt d x y) :: L) → Q (.tuple #[]) h') :
  SpecH PP z325 [.slice a n c, .int .i64 (x : Int), .int .i64 (y : Int), cmp] h Q := by
 refine z324.door ?_
 dsimp only
 rw [wS (by omega) (by omega), p1 (by omega) (by omega)]
 have t2 : Int.tdiv ((y - x - 1 : Nat) : Int) 2 = (((y - x - 1) / 2 : Nat) : Int) := tdiv_n _ 2
 rw [t2, wI (by omega) (by omega)]
 have pop : ∀ (m : Nat) {h : Heap} {e : Array Key}, m ≤ y - x → e.size = n → heapPop lt x m e = heapSort lt d x y → Hs h (S a n c e :: L) → z324.L2 a n c cmp (x : Int) 0 ((m : Int) - 1) (z324.K2 Q) h := by
  intro m
  induction m with
  | zero =>
   intro h e hm hs he H
   rw [heapPop] at he
   refine z324.L2_of (y13 (decide_eq_false (by omega)) (z324.L2_X2 (k h ?_)))
   rw [← he]; exact H
  | succ m ih =>
   intro h e hm hs he H
   rw [heapPop] at he
   refine z324.L2_of (y22 (decide_eq_true (by omega)) ?_)
   rw [show ((m + 1 : Nat) : Int) - 1 = (m : Int) by omega]
   dsimp only
   rw [wA (by omega)]
   refine y75 hs (by omega) (by omega) H fun h2 H2 => ?_
   refine y197 (lo := 0) hc (by rw [y62]; exact hs) (by omega) (by omega) hmax H2 fun h3 H3 => ⟨rfl, ?_⟩
   rw [wI (by omega) (by omega)]
   exact ih (by omega) (by rw [y178 m (by omega), y62]; exact hs) he H3
 have build : ∀ (m : Nat) {h : Heap} {e : Array Key}, m ≤ y - x → e.size = n → heapPop lt x (y - x) (heapBuild lt (y - x) x m e) = heapSort lt d x y → Hs h (S a n c e :: L) →
   z324.L1 a n c cmp (x : Int) 0 ((y - x : Nat) : Int) ((m : Int) - 1) (z324.K1 Q) h := by
  intro m
  induction m with
  | zero =>
   intro h e hm hs he H
   rw [heapBuild] at he
   refine z324.L1_of (y13 (decide_eq_false (by omega)) (z324.L1_X0 ?_))
   dsimp only
   rw [wI (by omega) (by omega)]
   exact pop (y - x) (Nat.le_refl _) hs he H
  | succ m ih =>
   intro h e hm hs he H
   rw [heapBuild] at he
   refine z324.L1_of (y22 (decide_eq_true (by omega)) ?_)
   rw [show ((m + 1 : Nat) : Int) - 1 = (m : Int) by omega]
   refine y197 hc hs (by omega) (by omega) hmax H fun h3 H3 => ⟨rfl, ?_⟩
   dsimp only
   rw [wI (by omega) (by omega)]
   exact ih (by omega) (by rw [y178 (y - x) (by omega)]; exact hs) he H3
 have := build ((y - x - 1) / 2 + 1) (by omega) hn rfl H
 rw [show (((y - x - 1) / 2 + 1 : Nat) : Int) - 1 = (((y - x - 1) / 2 : Nat) : Int) by omega] at this
 exact this
end Go.Proofs.YtglcanljknjcfaaGreatDoor.Srtapi_Key

set_option maxRecDepth 20000
namespace Go.Proofs.YtglcanljknjcfaaGreatDoor.Srtapi_Key
open Go Go.HW Go.Sort
variable {h : Heap} {L : List Assn} {Q : Value → Heap → Prop} {a : OA} {n c : Nat} {cmp : Value} {lt : Key → Key → Bool}
theorem scanSorted_le {d : Array Key} {y : Nat} : ∀ (r i : Nat), y ≤ i + r → i ≤ y → i ≤ scanSorted lt d y i ∧ scanSorted lt d y i ≤ y := by
 intro r
 induction r with
 | zero => intro i h1 h2; rw [scanSorted, if_neg (by rw [decide_eq_false (by omega)]; simp)]; omega
 | succ r ih =>
  intro i h1 h2
  rw [scanSorted]
  split
  ·rename_i e
   have := of_decide_eq_true (Bool.and_eq_true _ _ ▸ e).1
   have := ih (i + 1) (by omega) (by omega)
   omega
  ·omega
theorem shiftUp_size {y : Nat} : ∀ (r j : Nat) (d : Array Key), y ≤ j + r → (shiftUp lt y j d).size = d.size := by
 intro r
 induction r with
 | zero => intro j d h; rw [shiftUp, if_neg (by omega)]
 | succ r ih =>
  intro j d h
  rw [shiftUp]
  split
  ·split
   ·rfl
   ·rw [ih _ _ (by omega), y62]
  ·rfl
theorem partialIns_hs (hc : CmpOk cmp lt) {d : Array Key} {x y : Nat} (hn : d.size = n) (hxy : x < y) (hy : y ≤ n) (hmax : n < 2 ^ 59) (H : Hs h (S a n c d :: L))
  (k : ∀ h', Hs h' (S a n c (partialInsertionSort lt d x y).1 :: L) → Q (.bool (partialInsertionSort lt d x y).2) h') :
  SpecH PP z347 [.slice a n c, .int .i64 (x : Int), .int .i64 (y : Int), cmp] h Q := by
 refine z346.door ?_
 dsimp only
 rw [w1 (by omega)]
 have go : ∀ (s i : Nat) {h : Heap} {e : Array Key}, s ≤ 5 → x < i → i ≤ y → e.size = n → partialIns lt x y s i e = partialInsertionSort lt d x y → Hs h (S a n c e :: L) →
   z346.L1 a n c (x : Int) (y : Int) cmp (i : Int) ((5 - s : Nat) : Int) (z346.K1 Q) h := by
  intro s
  induction s with
  | zero =>
   intro i h e hs5 hxi hi hs he H
   rw [partialIns] at he
   refine z346.L1_of (y13 (decide_eq_false (by omega)) (z346.L1_X0 ?_))
   rw [← he] at k
   exact k h H
  | succ s ih =>
   intro i h e hs5 hxi hi hs he H
   refine z346.L1_of (y22 (decide_eq_true (by omega)) ?_)
   rw [partialIns] at he
   have hsc := scanSorted_le (lt := lt) (d := e) y i (by omega) hi
   have J2 : ∀ {i2 : Nat} {h : Heap} {f : Array Key}, x < i2 → i2 ≤ y → f.size = n → partialIns lt x y s i2 f = partialInsertionSort lt d x y → Hs h (S a n c f :: L) →
     z346.J2 a n c (x : Int) (y : Int) cmp (i2 : Int) ((5 - (s + 1) : Nat) : Int) (z346.K1 Q) h := by
    intro i2 h f h1 h2 hs he H
    refine z346.J2_of ?_
    dsimp only
    rw [w1 (by omega), show 5 - (s + 1) + 1 = 5 - s by omega]
    exact ih i2 (by omega) h1 h2 hs he H
   have up : ∀ (r j : Nat) {i2 : Nat} {h : Heap} {f g : Array Key}, y ≤ j + r → 1 ≤ j → x < i2 → i2 ≤ y → f.size = n → shiftUp lt y j f = g → partialIns lt x y s i2 g = partialInsertionSort lt d x y → Hs h (S a n c f :: L) →
     z346.L4 a n c (x : Int) (y : Int) cmp (i2 : Int) ((5 - (s + 1) : Nat) : Int) (j : Int) (z346.K7 (z346.K1 Q)) h := by
    intro r
    induction r with
    | zero =>
     intro j i2 h f g hr hj h1 h2 hs hg he H
     rw [shiftUp, if_neg (by omega)] at hg
     subst hg
     exact z346.L4_of (y13 (decide_eq_false (by omega)) (z346.L4_X6 (J2 h1 h2 hs he H)))
    | succ r ih4 =>
     intro j i2 h f g hr hj h1 h2 hs hg he H
     have hgs : g.size = n := by rw [← hg, shiftUp_size (r + 1) j f hr, hs]
     rw [shiftUp] at hg
     refine z346.L4_of ((y16 _ _ _).2 ⟨fun e1 => ?_, fun e1 => z346.L4_X6 ?_⟩)
     ·have e1 := of_decide_eq_true e1
      rw [if_pos (by omega)] at hg
      dsimp only
      rw [p1 hj (by omega)]
      refine lk hs (by omega) H fun t ht => ⟨_, _, _, ht, ?_⟩
      refine lk hs (by omega) H fun t ht => ⟨_, _, _, ht, ?_⟩
      refine hc f[j]! f[j - 1]! _ _ _ H fun h3 r hr H3 => ⟨_, rfl, ?_⟩
      rw [hr]
      refine (y16 _ _ _).2 ⟨fun e2 => z346.L4_X6 ?_, fun e2 => ?_⟩
      ·rw [if_pos e2] at hg; subst hg
       exact J2 h1 h2 hs he H3
      ·rw [if_neg (by rw [e2]; simp)] at hg
       refine y75 hs (by omega) (by omega) H3 fun h5 H5 => ?_
       rw [w1 (by omega)]
       exact ih4 (j + 1) (by omega) (by omega) h1 h2 (by rw [y62]; exact hs) hg he H5
     ·have e1 := of_decide_eq_false e1
      rw [if_neg (by omega)] at hg
      subst hg
      exact J2 h1 h2 hs he H
   have J1 : ∀ {i2 : Nat} {h : Heap} {f : Array Key}, x < i2 → i2 < y → f.size = n → partialIns lt x y s i2 (if y - i2 ≥ 2 then shiftUp lt y (i2 + 1) f else f) = partialInsertionSort lt d x y → Hs h (S a n c f :: L) →
     z346.J1 a n c (x : Int) (y : Int) cmp (i2 : Int) ((5 - (s + 1) : Nat) : Int) (z346.K1 Q) h := by
    intro i2 h f h1 h2 hs he H
    refine z346.J1_of ?_
    dsimp only
    rw [wS (by omega) (by omega)]
    refine (y16 _ _ _).2 ⟨fun e1 => ?_, fun e1 => ?_⟩
    ·have e1 := of_decide_eq_true e1
     rw [if_pos (by omega)] at he
     rw [w1 (by omega)]
     exact up y (i2 + 1) (by omega) (by omega) h1 (by omega) hs rfl he H
    ·have e1 := of_decide_eq_false e1
     rw [if_neg (by omega)] at he
     exact J2 h1 (by omega) hs he H
   have down : ∀ (j : Nat) {i2 : Nat} {h : Heap} {f g : Array Key}, j < i2 → x < i2 → i2 < y → f.size = n → shiftDown lt j f = g → partialIns lt x y s i2 (if y - i2 ≥ 2 then shiftUp lt y (i2 + 1) g else g) = partialInsertionSort lt d x y → Hs h (S a n c f :: L) →
     z346.L3 a n c (x : Int) (y : Int) cmp (i2 : Int) ((5 - (s + 1) : Nat) : Int) (j : Int) (z346.K5 (z346.K1 Q)) h := by
    intro j
    induction j with
    | zero =>
     intro i2 h f g hj h1 h2 hs hg he H
     rw [shiftDown] at hg
     subst hg
     exact z346.L3_of (y13 (decide_eq_false (by omega)) (z346.L3_X4 (J1 h1 h2 hs he H)))
    | succ j ih3 =>
     intro i2 h f g hj h1 h2 hs hg he H
     rw [shiftDown] at hg
     refine z346.L3_of (y22 (decide_eq_true (by omega)) ?_)
     dsimp only
     rw [p1 (by omega) (by omega), show j + 1 - 1 = j by omega]
     refine lk hs (by omega) H fun t ht => ⟨_, _, _, ht, ?_⟩
     refine lk hs (by omega) H fun t ht => ⟨_, _, _, ht, ?_⟩
     refine hc f[j + 1]! f[j]! _ _ _ H fun h3 r hr H3 => ⟨_, rfl, ?_⟩
     rw [hr]
     refine (y16 _ _ _).2 ⟨fun e2 => z346.L3_X4 ?_, fun e2 => ?_⟩
     ·rw [if_pos e2] at hg; subst hg
      exact J1 h1 h2 hs he H3
     ·rw [if_neg (by rw [e2]; simp)] at hg
      refine y75 hs (by omega) (by omega) H3 fun h5 H5 => ?_
      exact ih3 (by omega) h1 h2 (by rw [y62]; exact hs) hg he H5
   have scan : ∀ (r i0 : Nat) {h : Heap}, y ≤ i0 + r → x < i0 → i0 ≤ y → scanSorted lt e y i0 = scanSorted lt e y i → Hs h (S a n c e :: L) →
     z346.L2 a n c (x : Int) (y : Int) cmp (i0 : Int) ((5 - (s + 1) : Nat) : Int) (z346.K2 (z346.K1 Q)) h := by
    have stop : ∀ {i0 : Nat} {h : Heap}, i0 = scanSorted lt e y i → Hs h (S a n c e :: L) →
      z346.K2 (z346.K1 Q) (.exit 2) (z346.X2 a n c (x : Int) (y : Int) cmp (i0 : Int) ((5 - (s + 1) : Nat) : Int)) h := by
     intro i0 h ei H
     dsimp only at he
     rw [← ei] at he hsc
     refine z346.L2_X2 ?_
     refine (y16 _ _ _).2 ⟨fun e1 => z346.L1_Xret ?_, fun e1 => ?_⟩
     ·have e1 := beq_iff_eq.1 e1
      rw [if_pos (by omega)] at he
      rw [← he] at k
      exact k h H
     have e1 := beq_eq_false_iff_ne.1 e1
     rw [if_neg (by omega)] at he
     dsimp only
     rw [wS (by omega) (by omega)]
     refine (y16 _ _ _).2 ⟨fun e2 => z346.L1_Xret ?_, fun e2 => ?_⟩
     ·have e2 := of_decide_eq_true e2
      rw [if_pos (by omega)] at he
      rw [← he] at k
      exact k h H
     have e2 := of_decide_eq_false e2
     rw [if_neg (by omega)] at he
     rw [p1 (by omega) (by omega)]
     refine y75 hs (by omega) (by omega) H fun h5 H5 => ?_
     rw [wS (by omega) (by omega)]
     refine (y16 _ _ _).2 ⟨fun e3 => ?_, fun e3 => ?_⟩
     ·have e3 := of_decide_eq_true e3
      rw [show (if i0 - x ≥ 2 then shiftDown lt (i0 - 1) (swp e i0 (i0 - 1)) else swp e i0 (i0 - 1)) = shiftDown lt (i0 - 1) (swp e i0 (i0 - 1)) from if_pos (by omega)] at he
      exact down (i0 - 1) (by omega) (by omega) (by omega) (by rw [y62]; exact hs) rfl he H5
     ·have e3 := of_decide_eq_false e3
      rw [show (if i0 - x ≥ 2 then shiftDown lt (i0 - 1) (swp e i0 (i0 - 1)) else swp e i0 (i0 - 1)) = swp e i0 (i0 - 1) from if_neg (by omega)] at he
      exact J1 (by omega) (by omega) (by rw [y62]; exact hs) he H5
    intro r
    induction r with
    | zero =>
     intro i0 h hr h1 h2 he2 H
     rw [scanSorted, if_neg (by rw [decide_eq_false (by omega)]; simp)] at he2
     exact z346.L2_of (y13 (decide_eq_false (by omega)) (stop he2 H))
    | succ r ih2 =>
     intro i0 h hr h1 h2 he2 H
     rw [scanSorted] at he2
     refine z346.L2_of ((y16 _ _ _).2 ⟨fun e1 => ?_, fun e1 => stop ?_ H⟩)
     ·have e1 := of_decide_eq_true e1
      dsimp only
      rw [p1 (by omega) (by omega)]
      refine lk hs (by omega) H fun t ht => ⟨_, _, _, ht, ?_⟩
      refine lk hs (by omega) H fun t ht => ⟨_, _, _, ht, ?_⟩
      refine hc e[i0]! e[i0 - 1]! _ _ _ H fun h3 r hr H3 => ⟨_, rfl, ?_⟩
      rw [hr]
      refine (y16 _ _ _).2 ⟨fun e2 => ?_, fun e2 => stop ?_ H3⟩
      ·rw [if_pos (by rw [e2, decide_eq_true (by omega)]; rfl)] at he2
       rw [w1 (by omega)]
       exact ih2 (i0 + 1) (by omega) (by omega) (by omega) he2 H3
      ·rw [if_neg (by rw [e2]; simp)] at he2; exact he2
     ·have e1 := of_decide_eq_false e1
      rw [if_neg (by rw [decide_eq_false (by omega)]; simp)] at he2; exact he2
   exact scan y i (by omega) hxi hi rfl H
 exact go 5 (x + 1) (Nat.le_refl _) (by omega) (by omega) hn rfl H
theorem y121 {p : Key → Bool} {d : Array Key} {j : Nat} : ∀ (r i : Nat), j + 1 ≤ i + r → i ≤ scanUp p d j i ∧ (scanUp p d j i ≤ j + 1 ∨ scanUp p d j i = i) := by
 intro r
 induction r with
 | zero => intro i h1; rw [scanUp, if_neg (by rw [decide_eq_false (by omega)]; simp)]; omega
 | succ r ih =>
  intro i h1
  rw [scanUp]
  split
  ·rename_i e
   have := of_decide_eq_true (Bool.and_eq_true _ _ ▸ e).1
   have := ih (i + 1) (by omega)
   omega
  ·omega
theorem y92 {p : Key → Bool} {d : Array Key} {i : Nat} : ∀ (j : Nat), scanDown p d i j ≤ j
 | 0 => Nat.le_refl _
 | j + 1 => by
  rw [scanDown]; split
  ·have := y92 (p := p) (d := d) (i := i) j; omega
  ·exact Nat.le_refl _
theorem partition_hs (hc : CmpOk cmp lt) {d : Array Key} {x y p : Nat} (hn : d.size = n) (hxp : x ≤ p) (hpy : p < y) (hxy : x + 1 < y) (hy : y ≤ n) (hmax : n < 2 ^ 59) (H : Hs h (S a n c d :: L))
  (k : ∀ h', Hs h' (S a n c (Sort.partition lt d x y p).2.2 :: L) → Q (.tuple #[.int .i64 ((Sort.partition lt d x y p).1 : Nat), .bool (Sort.partition lt d x y p).2.1]) h') :
  SpecH PP z351 [.slice a n c, .int .i64 (x : Int), .int .i64 (y : Int), .int .i64 (p : Int), cmp] h Q := by
 refine z350.door ?_
 refine y75 hn (by omega) (by omega) H fun h1 H1 => ?_
 dsimp only
 rw [w1 (by omega), p1 (by omega) (by omega)]
 unfold Sort.partition at k
 dsimp only at k
 have hs1 : (swp d x p).size = n := by rw [y62, hn]
 generalize swp d x p = e at H1 k hs1
 have hi0 := y121 (p := fun z => lt z e[x]!) (d := e) (j := y - 1) y (x + 1) (by omega)
 have later : ∀ (m i j : Nat) {h : Heap} {f : Array Key}, j + 1 ≤ i + m → x + 1 ≤ i → j < y → f.size = n →
   (∀ h', Hs h' (S a n c (swp (partLoop lt x i j f).2 (partLoop lt x i j f).1 x) :: L) → Q (.tuple #[.int .i64 ((partLoop lt x i j f).1 : Nat), .bool false]) h') → Hs h (S a n c f :: L) →
   z350.L3 a n c (x : Int) cmp (i : Int) (j : Int) (z350.K5 Q) h := by
  intro m
  induction m using Nat.strongRecOn with
  | _ m ihm =>
  intro i j h f hm hxi hj hs kk H
  refine z350.L3_of ?_
  rw [partLoop] at kk
  have hu := y121 (p := fun z => lt z f[x]!) (d := f) (j := j) (j + 1) i (by omega)
  have endK : ∀ {h : Heap} {i2 j2 : Nat}, i2 = scanUp (fun z => lt z f[x]!) f j i → j2 = scanDown (fun z => !lt z f[x]!) f i2 j → Hs h (S a n c f :: L) →
    z350.K9 (z350.K5 Q) (.exit 8) (z350.X8 a n c (x : Int) cmp (i2 : Int) (j2 : Int)) h := by
   intro h i2 j2 ei ej H
   rw [← ei] at kk hu
   have hd := y92 (p := fun z => !lt z f[x]!) (d := f) (i := i2) j
   rw [← ej] at kk hd
   refine z350.L5_X8 ((y16 _ _ _).2 ⟨fun e1 => z350.L3_X4 ?_, fun e1 => ?_⟩)
   ·have e1 := of_decide_eq_true e1
    rw [if_pos (by omega)] at kk
    exact y75 hs (by omega) (by omega) H fun h5 H5 => kk h5 H5
   ·have e1 := of_decide_eq_false e1
    rw [if_neg (by omega), dif_pos (by omega)] at kk
    refine y75 hs (by omega) (by omega) H fun h5 H5 => ?_
    dsimp only
    rw [w1 (by omega), p1 (by omega) (by omega)]
    exact ihm (j2 - 1 + 1 - (i2 + 1)) (by omega) (i2 + 1) (j2 - 1) (by omega) (by omega) (by omega) (by rw [y62]; exact hs) kk H5
  have dn : ∀ (j3 : Nat) {h : Heap} {i2 : Nat}, i2 = scanUp (fun z => lt z f[x]!) f j i → j3 ≤ j → scanDown (fun z => !lt z f[x]!) f i2 j3 = scanDown (fun z => !lt z f[x]!) f i2 j → Hs h (S a n c f :: L) →
    z350.L5 a n c (x : Int) cmp (i2 : Int) (j3 : Int) (z350.K9 (z350.K5 Q)) h := by
   intro j3
   induction j3 with
   | zero =>
    intro h i2 ei hj3 he H
    rw [scanDown] at he
    exact z350.L5_of (y13 (decide_eq_false (by omega)) (endK ei he H))
   | succ j3 ihd =>
    intro h i2 ei hj3 he H
    rw [scanDown] at he
    refine z350.L5_of ((y16 _ _ _).2 ⟨fun e1 => ?_, fun e1 => endK ei ?_ H⟩)
    ·have e1 := of_decide_eq_true e1
     refine lk hs (by omega) H fun t ht => ⟨_, _, _, ht, ?_⟩
     refine lk hs (by omega) H fun t ht => ⟨_, _, _, ht, ?_⟩
     refine hc f[j3 + 1]! f[x]! _ _ _ H fun h3 r hr H3 => ⟨_, rfl, ?_⟩
     dsimp only
     rw [hr]
     refine (y16 _ _ _).2 ⟨fun e2 => ?_, fun e2 => endK ei ?_ H3⟩
     ·rw [if_pos (by rw [e2, decide_eq_true (by omega)]; rfl)] at he
      rw [p1 (by omega) (by omega)]
      exact ihd ei (by omega) he H3
     ·rw [if_neg (by rw [e2]; simp)] at he; exact he
    ·have e1 := of_decide_eq_false e1
     rw [if_neg (by rw [decide_eq_false (by omega)]; simp)] at he; exact he
  have upp : ∀ (r i3 : Nat) {h : Heap}, j + 1 ≤ i3 + r → i ≤ i3 → scanUp (fun z => lt z f[x]!) f j i3 = scanUp (fun z => lt z f[x]!) f j i → Hs h (S a n c f :: L) →
    z350.L4 a n c (x : Int) cmp (i3 : Int) (j : Int) (z350.K7 (z350.K5 Q)) h := by
   intro r
   induction r with
   | zero =>
    intro i3 h hr h1 he H
    rw [scanUp, if_neg (by rw [decide_eq_false (by omega)]; simp)] at he
    exact z350.L4_of (y13 (decide_eq_false (by omega)) (z350.L4_X6 (dn j he (Nat.le_refl _) rfl H)))
   | succ r ihu =>
    intro i3 h hr h1 he H
    rw [scanUp] at he
    refine z350.L4_of ((y16 _ _ _).2 ⟨fun e1 => ?_, fun e1 => z350.L4_X6 (dn j ?_ (Nat.le_refl _) rfl H)⟩)
    ·have e1 := of_decide_eq_true e1
     refine lk hs (by omega) H fun t ht => ⟨_, _, _, ht, ?_⟩
     refine lk hs (by omega) H fun t ht => ⟨_, _, _, ht, ?_⟩
     refine hc f[i3]! f[x]! _ _ _ H fun h3 r hr H3 => ⟨_, rfl, ?_⟩
     dsimp only
     rw [hr]
     refine (y16 _ _ _).2 ⟨fun e2 => ?_, fun e2 => z350.L4_X6 (dn j ?_ (Nat.le_refl _) rfl H3)⟩
     ·rw [if_pos (by rw [e2, decide_eq_true (by omega)]; rfl)] at he
      rw [w1 (by omega)]
      exact ihu (i3 + 1) (by omega) (by omega) he H3
     ·rw [if_neg (by rw [e2]; simp)] at he; exact he
    ·have e1 := of_decide_eq_false e1
     rw [if_neg (by rw [decide_eq_false (by omega)]; simp)] at he; exact he
  exact upp (j + 1) i (by omega) (Nat.le_refl _) rfl H
 have endK : ∀ {h : Heap} {i2 j2 : Nat}, i2 = scanUp (fun z => lt z e[x]!) e (y - 1) (x + 1) → j2 = scanDown (fun z => !lt z e[x]!) e i2 (y - 1) → Hs h (S a n c e :: L) →
   z350.K2 Q (.exit 2) (z350.X2 a n c (x : Int) cmp (i2 : Int) (j2 : Int)) h := by
  intro h i2 j2 ei ej H
  rw [← ei] at k hi0
  have hd := y92 (p := fun z => !lt z e[x]!) (d := e) (i := i2) (y - 1)
  rw [← ej] at k hd
  refine z350.L2_X2 ((y16 _ _ _).2 ⟨fun e1 => ?_, fun e1 => ?_⟩)
  ·have e1 := of_decide_eq_true e1
   rw [if_pos (by omega)] at k
   exact y75 hs1 (by omega) (by omega) H fun h5 H5 => k h5 H5
  ·have e1 := of_decide_eq_false e1
   rw [if_neg (by omega)] at k
   refine y75 hs1 (by omega) (by omega) H fun h5 H5 => ?_
   dsimp only
   rw [w1 (by omega), p1 (by omega) (by omega)]
   exact later y (i2 + 1) (j2 - 1) (by omega) (by omega) (by omega) (by rw [y62]; exact hs1) k H5
 have dn : ∀ (j3 : Nat) {h : Heap} {i2 : Nat}, i2 = scanUp (fun z => lt z e[x]!) e (y - 1) (x + 1) → j3 ≤ y - 1 → scanDown (fun z => !lt z e[x]!) e i2 j3 = scanDown (fun z => !lt z e[x]!) e i2 (y - 1) → Hs h (S a n c e :: L) →
   z350.L2 a n c (x : Int) cmp (i2 : Int) (j3 : Int) (z350.K2 Q) h := by
  intro j3
  induction j3 with
  | zero =>
   intro h i2 ei hj3 he H
   rw [← ei] at hi0
   rw [scanDown] at he
   exact z350.L2_of (y13 (decide_eq_false (by omega)) (endK ei he H))
  | succ j3 ihd =>
   intro h i2 ei hj3 he H
   have hi1 := hi0
   rw [← ei] at hi1
   rw [scanDown] at he
   refine z350.L2_of ((y16 _ _ _).2 ⟨fun e1 => ?_, fun e1 => endK ei ?_ H⟩)
   ·have e1 := of_decide_eq_true e1
    refine lk hs1 (by omega) H fun t ht => ⟨_, _, _, ht, ?_⟩
    refine lk hs1 (by omega) H fun t ht => ⟨_, _, _, ht, ?_⟩
    refine hc e[j3 + 1]! e[x]! _ _ _ H fun h3 r hr H3 => ⟨_, rfl, ?_⟩
    dsimp only
    rw [hr]
    refine (y16 _ _ _).2 ⟨fun e2 => ?_, fun e2 => endK ei ?_ H3⟩
    ·rw [if_pos (by rw [e2, decide_eq_true (by omega)]; rfl)] at he
     rw [p1 (by omega) (by omega)]
     exact ihd ei (by omega) he H3
    ·rw [if_neg (by rw [e2]; simp)] at he; exact he
   ·have e1 := of_decide_eq_false e1
    rw [if_neg (by rw [decide_eq_false (by omega)]; simp)] at he; exact he
 have upp : ∀ (r i3 : Nat) {h : Heap}, y ≤ i3 + r → x + 1 ≤ i3 → scanUp (fun z => lt z e[x]!) e (y - 1) i3 = scanUp (fun z => lt z e[x]!) e (y - 1) (x + 1) → Hs h (S a n c e :: L) →
   z350.L1 a n c (x : Int) cmp (i3 : Int) ((y - 1 : Nat) : Int) (z350.K1 Q) h := by
  intro r
  induction r with
  | zero =>
   intro i3 h hr h1 he H
   rw [scanUp, if_neg (by rw [decide_eq_false (by omega)]; simp)] at he
   exact z350.L1_of (y13 (decide_eq_false (by omega)) (z350.L1_X0 (dn (y - 1) he (Nat.le_refl _) rfl H)))
  | succ r ihu =>
   intro i3 h hr h1 he H
   rw [scanUp] at he
   refine z350.L1_of ((y16 _ _ _).2 ⟨fun e1 => ?_, fun e1 => z350.L1_X0 (dn (y - 1) ?_ (Nat.le_refl _) rfl H)⟩)
   ·have e1 := of_decide_eq_true e1
    refine lk hs1 (by omega) H fun t ht => ⟨_, _, _, ht, ?_⟩
    refine lk hs1 (by omega) H fun t ht => ⟨_, _, _, ht, ?_⟩
    refine hc e[i3]! e[x]! _ _ _ H fun h3 r hr H3 => ⟨_, rfl, ?_⟩
    dsimp only
    rw [hr]
    refine (y16 _ _ _).2 ⟨fun e2 => ?_, fun e2 => z350.L1_X0 (dn (y - 1) ?_ (Nat.le_refl _) rfl H3)⟩
    ·rw [if_pos (by rw [e2, decide_eq_true (by omega)]; rfl)] at he
     rw [w1 (by omega)]
     exact ihu (i3 + 1) (by omega) (by omega) he H3
    ·rw [if_neg (by rw [e2]; simp)] at he; exact he
   ·have e1 := of_decide_eq_false e1
    rw [if_neg (by rw [decide_eq_false (by omega)]; simp)] at he; exact he
 exact upp y (x + 1) (by omega) (Nat.le_refl _) rfl H1
theorem y193 (hc : CmpOk cmp lt) {d : Array Key} {x y p : Nat} (hn : d.size = n) (hxp : x ≤ p) (hpy : p < y) (hxy : x + 1 < y) (hy : y ≤ n) (hmax : n < 2 ^ 59) (H : Hs h (S a n c d :: L))
  (k : ∀ h', Hs h' (S a n c (partitionEqual lt d x y p).2 :: L) → Q (.int .i64 ((partitionEqual lt d x y p).1 : Nat)) h') :
  SpecH PP z355 [.slice a n c, .int .i64 (x : Int), .int .i64 (y : Int), .int .i64 (p : Int), cmp] h Q := by
 refine z354.door ?_
 refine y75 hn (by omega) (by omega) H fun h1 H1 => ?_
 dsimp only
 rw [w1 (by omega), p1 (by omega) (by omega)]
 unfold partitionEqual at k
 have hs1 : (swp d x p).size = n := by rw [y62, hn]
 generalize swp d x p = e at H1 k hs1
 have later : ∀ (m i j : Nat) {h : Heap} {f : Array Key}, j + 1 ≤ i + m → x + 1 ≤ i → j < y → f.size = n →
   (∀ h', Hs h' (S a n c (partEqLoop lt x i j f).2 :: L) → Q (.int .i64 ((partEqLoop lt x i j f).1 : Nat)) h') → Hs h (S a n c f :: L) →
   z354.L1 a n c (x : Int) cmp (i : Int) (j : Int) (z354.K1 Q) h := by
  intro m
  induction m using Nat.strongRecOn with
  | _ m ihm =>
  intro i j h f hm hxi hj hs kk H
  refine z354.L1_of ?_
  rw [partEqLoop] at kk
  have hu := y121 (p := fun z => !lt f[x]! z) (d := f) (j := j) (j + 1) i (by omega)
  have endK : ∀ {h : Heap} {i2 j2 : Nat}, i2 = scanUp (fun z => !lt f[x]! z) f j i → j2 = scanDown (fun z => lt f[x]! z) f i2 j → Hs h (S a n c f :: L) →
    z354.K5 (z354.K1 Q) (.exit 4) (z354.X4 a n c (x : Int) cmp (i2 : Int) (j2 : Int)) h := by
   intro h i2 j2 ei ej H
   rw [← ei] at kk hu
   have hd := y92 (p := fun z => lt f[x]! z) (d := f) (i := i2) j
   rw [← ej] at kk hd
   refine z354.L3_X4 ((y16 _ _ _).2 ⟨fun e1 => z354.L1_X0 ?_, fun e1 => ?_⟩)
   ·have e1 := of_decide_eq_true e1
    rw [if_pos (by omega)] at kk
    exact kk h H
   ·have e1 := of_decide_eq_false e1
    rw [if_neg (by omega), dif_pos (by omega)] at kk
    refine y75 hs (by omega) (by omega) H fun h5 H5 => ?_
    dsimp only
    rw [w1 (by omega), p1 (by omega) (by omega)]
    exact ihm (j2 - 1 + 1 - (i2 + 1)) (by omega) (i2 + 1) (j2 - 1) (by omega) (by omega) (by omega) (by rw [y62]; exact hs) kk H5
  have dn : ∀ (j3 : Nat) {h : Heap} {i2 : Nat}, i2 = scanUp (fun z => !lt f[x]! z) f j i → j3 ≤ j → scanDown (fun z => lt f[x]! z) f i2 j3 = scanDown (fun z => lt f[x]! z) f i2 j → Hs h (S a n c f :: L) →
    z354.L3 a n c (x : Int) cmp (i2 : Int) (j3 : Int) (z354.K5 (z354.K1 Q)) h := by
   intro j3
   induction j3 with
   | zero =>
    intro h i2 ei hj3 he H
    rw [scanDown] at he
    exact z354.L3_of (y13 (decide_eq_false (by omega)) (endK ei he H))
   | succ j3 ihd =>
    intro h i2 ei hj3 he H
    rw [scanDown] at he
    refine z354.L3_of ((y16 _ _ _).2 ⟨fun e1 => ?_, fun e1 => endK ei ?_ H⟩)
    ·have e1 := of_decide_eq_true e1
     refine lk hs (by omega) H fun t ht => ⟨_, _, _, ht, ?_⟩
     refine lk hs (by omega) H fun t ht => ⟨_, _, _, ht, ?_⟩
     refine hc f[x]! f[j3 + 1]! _ _ _ H fun h3 r hr H3 => ⟨_, rfl, ?_⟩
     dsimp only
     rw [hr]
     refine (y16 _ _ _).2 ⟨fun e2 => ?_, fun e2 => endK ei ?_ H3⟩
     ·rw [if_pos (by rw [e2, decide_eq_true (by omega)]; rfl)] at he
      rw [p1 (by omega) (by omega)]
      exact ihd ei (by omega) he H3
     ·rw [if_neg (by rw [e2]; simp)] at he; exact he
    ·have e1 := of_decide_eq_false e1
     rw [if_neg (by rw [decide_eq_false (by omega)]; simp)] at he; exact he
  have upp : ∀ (r i3 : Nat) {h : Heap}, j + 1 ≤ i3 + r → i ≤ i3 → scanUp (fun z => !lt f[x]! z) f j i3 = scanUp (fun z => !lt f[x]! z) f j i → Hs h (S a n c f :: L) →
    z354.L2 a n c (x : Int) cmp (i3 : Int) (j : Int) (z354.K2 (z354.K1 Q)) h := by
   intro r
   induction r with
   | zero =>
    intro i3 h hr h1 he H
    rw [scanUp, if_neg (by rw [decide_eq_false (by omega)]; simp)] at he
    exact z354.L2_of (y13 (decide_eq_false (by omega)) (z354.L2_X2 (dn j he (Nat.le_refl _) rfl H)))
   | succ r ihu =>
    intro i3 h hr h1 he H
    rw [scanUp] at he
    refine z354.L2_of ((y16 _ _ _).2 ⟨fun e1 => ?_, fun e1 => z354.L2_X2 (dn j ?_ (Nat.le_refl _) rfl H)⟩)
    ·have e1 := of_decide_eq_true e1
     refine lk hs (by omega) H fun t ht => ⟨_, _, _, ht, ?_⟩
     refine lk hs (by omega) H fun t ht => ⟨_, _, _, ht, ?_⟩
     refine hc f[x]! f[i3]! _ _ _ H fun h3 r hr H3 => ⟨_, rfl, ?_⟩
     dsimp only
     rw [hr]
     refine (y16 _ _ _).2 ⟨fun e2 => ?_, fun e2 => z354.L2_X2 (dn j ?_ (Nat.le_refl _) rfl H3)⟩
     ·rw [if_pos (by rw [e2, decide_eq_true (by omega)]; rfl)] at he
      rw [w1 (by omega)]
      exact ihu (i3 + 1) (by omega) (by omega) he H3
     ·rw [if_neg (by rw [e2]; simp)] at he; exact he
    ·have e1 := of_decide_eq_false e1
     rw [if_neg (by rw [decide_eq_false (by omega)]; simp)] at he; exact he
  exact upp (j + 1) i (by omega) (Nat.le_refl _) rfl H
 exact later y (x + 1) (y - 1) (by omega) (by omega) (by omega) hs1 k H1
end Go.Proofs.YtglcanljknjcfaaGreatDoor.Srtapi_Key

set_option maxRecDepth 20000
namespace Go.Proofs.YtglcanljknjcfaaGreatDoor.Srtapi_Key
open Go Go.HW Go.Sort
variable {h : Heap} {L : List Assn} {Q : Value → Heap → Prop} {a : OA} {n c : Nat} {cmp : Value} {lt : Key → Key → Bool}
theorem bits_half {x : Nat} (h : 1 ≤ x) : bitsLen x = bitsLen (x / 2) + 1 := by
 unfold bitsLen
 rw [if_neg (by omega)]
 by_cases e : x = 1
 ·subst e; rfl
 ·rw [if_neg (by omega), Nat.log2_def, if_pos (by omega)]
theorem y142 {x : Nat} : ∀ (k : Nat), 2 ^ k ≤ x → bitsLen x = bitsLen (x / 2 ^ k) + k
 | 0, _ => by simp
 | k + 1, h => by
  have h2 : 2 ^ k * 2 ≤ x := by rw [← Nat.pow_succ]; exact h
  have h3 : 2 ≤ x / 2 ^ k := by rw [Nat.le_div_iff_mul_le (Nat.two_pow_pos k)]; omega
  rw [y142 k (by omega), bits_half (by omega), Nat.div_div_eq_div_mul, ← Nat.pow_succ]
  show bitsLen (x / 2 ^ (k + 1)) + 1 + k = bitsLen (x / 2 ^ (k + 1)) + (k + 1)
  omega
abbrev len8 : ByteArray := ⟨#[0, 1, 2, 2, 3, 3, 3, 3, 4, 4, 4, 4, 4, 4, 4, 4, 5, 5, 5, 5, 5, 5, 5, 5, 5, 5, 5, 5, 5, 5, 5, 5, 6, 6, 6, 6, 6, 6, 6, 6, 6, 6, 6, 6, 6, 6, 6, 6, 6, 6, 6, 6, 6, 6, 6, 6, 6, 6, 6, 6, 6, 6, 6, 6, 7, 7, 7, 7, 7, 7, 7, 7, 7, 7, 7, 7, 7, 7, 7, 7, 7, 7, 7, 7, 7, 7, 7, 7, 7, 7, 7, 7, 7, 7, 7, 7, 7, 7, 7, 7, 7, 7, 7, 7, 7, 7, 7, 7, 7, 7, 7, 7, 7, 7, 7, 7, 7, 7, 7, 7, 7, 7, 7, 7, 7, 7, 7, 7, 8, 8, 8, 8, 8, 8, 8, 8, 8, 8, 8, 8, 8, 8, 8, 8, 8, 8, 8, 8, 8, 8, 8, 8, 8, 8, 8, 8, 8, 8, 8, 8, 8, 8, 8, 8, 8, 8, 8, 8, 8, 8, 8, 8, 8, 8, 8, 8, 8, 8, 8, 8, 8, 8, 8, 8, 8, 8, 8, 8, 8, 8, 8, 8, 8, 8, 8, 8, 8, 8, 8, 8, 8, 8, 8, 8, 8, 8, 8, 8, 8, 8, 8, 8, 8, 8, 8, 8, 8, 8, 8, 8, 8, 8, 8, 8, 8, 8, 8, 8, 8, 8, 8, 8, 8, 8, 8, 8, 8, 8, 8, 8, 8, 8, 8, 8, 8, 8, 8, 8, 8, 8, 8, 8, 8, 8, 8, 8]⟩
theorem len8_ok : ∀ x, x < 256 → (sb len8)[x]? = some (bitsLen x) := by
 have : ∀ x : Fin 256, (sb len8)[x.val]? = some (bitsLen x.val) := by decide +kernel
 exact fun x hx => this ⟨x, hx⟩
theorem Len_hs {x : Nat} (hx : x < 2 ^ 62) (H : Hs h L) (k : ∀ h', Hs h' L → Q (.int .i64 (bitsLen x : Nat)) h') : SpecH PP z271 [.int .u64 x] h Q := by
 refine z270.door (z274.door ?_)
 have J3 : ∀ {y m : Nat}, y < 256 → m ≤ 60 → bitsLen y + m = bitsLen x → z274.J3 (y : Int) (m : Int) (fun v h1 => ∃ (t7 : Int), v = .int .i64 t7 ∧ Q (.int .i64 t7) h1) h := by
  intro y m hy hm e
  refine z274.J3_of ?_
  dsimp only
  rw [wrap_u8_id (a := y) hy]
  have hsz : y < len8.size := hy
  have hv := len8_ok y hy
  have hb : bitsLen y ≤ 8 := by
   have : ∀ z : Fin 256, bitsLen z.val ≤ 8 := by decide +kernel
   exact this ⟨y, hy⟩
  refine hwp_sidx y91 hsz ⟨_, rfl, ?_⟩
  rw [List.getElem?_eq_getElem (by rw [y116]; exact hsz)] at hv
  rw [Option.some.inj hv, y34 (z := (bitsLen y : Nat)) (by omega) (by omega), y34 (by omega) (by omega)]
  refine ⟨_, rfl, ?_⟩
  rw [show (m : Int) + (bitsLen y : Nat) = ((bitsLen x : Nat) : Int) by omega]
  exact k h H
 have J2 : ∀ {y m : Nat}, y < 65536 → m ≤ 50 → bitsLen y + m = bitsLen x → z274.J2 (y : Int) (m : Int) (fun v h1 => ∃ (t7 : Int), v = .int .i64 t7 ∧ Q (.int .i64 t7) h1) h := by
  intro y m hy hm e
  refine z274.J2_of ((y16 _ _ _).2 ⟨fun e1 => ?_, fun e1 => ?_⟩)
  ·have e1 := of_decide_eq_true e1
   dsimp only
   rw [show sShr .u64 (y : Int) 8 = ((y / 2 ^ 8 : Nat) : Int) from shr_u64 (m := 8) (by omega), show IntKind.i64.wrap ((m : Int) + 8) = ((m + 8 : Nat) : Int) by rw [y34 (by omega) (by omega)]; omega]
   exact J3 (by omega) (by omega) (by have := y142 (x := y) 8 (by omega); omega)
  ·have e1 := of_decide_eq_false e1
   exact J3 (by omega) (by omega) e
 have J1 : ∀ {y m : Nat}, y < 4294967296 → m ≤ 32 → bitsLen y + m = bitsLen x → z274.J1 (y : Int) (m : Int) (fun v h1 => ∃ (t7 : Int), v = .int .i64 t7 ∧ Q (.int .i64 t7) h1) h := by
  intro y m hy hm e
  refine z274.J1_of ((y16 _ _ _).2 ⟨fun e1 => ?_, fun e1 => ?_⟩)
  ·have e1 := of_decide_eq_true e1
   dsimp only
   rw [show sShr .u64 (y : Int) 16 = ((y / 2 ^ 16 : Nat) : Int) from shr_u64 (m := 16) (by omega), show IntKind.i64.wrap ((m : Int) + 16) = ((m + 16 : Nat) : Int) by rw [y34 (by omega) (by omega)]; omega]
   exact J2 (by omega) (by omega) (by have := y142 (x := y) 16 (by omega); omega)
  ·have e1 := of_decide_eq_false e1
   exact J2 (by omega) (by omega) e
 refine (y16 _ _ _).2 ⟨fun e1 => ?_, fun e1 => ?_⟩
 ·have e1 := of_decide_eq_true e1
  dsimp only
  rw [show sShr .u64 (x : Int) 32 = ((x / 2 ^ 32 : Nat) : Int) from shr_u64 (m := 32) (by omega)]
  exact J1 (m := 32) (by omega) (by omega) (by have := y142 (x := x) 32 (by omega); omega)
 ·have e1 := of_decide_eq_false e1
  exact J1 (m := 0) (by omega) (by omega) rfl
theorem next_hs {r : UInt64} {rb : Nat} (H : Hs h (pt rb y76 [.int .u64 (r.toNat : Nat)] :: L)) (k : ∀ h', Hs h' (pt rb y76 [.int .u64 ((xorNext r).toNat : Nat)] :: L) → Q (.int .u64 ((xorNext r).toNat : Nat)) h') :
  SpecH PP z371 [.pointer (some ⟨rb, 0, none⟩)] h Q := by
 refine z370.door ?_
 dsimp only [nilc]
 have sh : ∀ (s : UInt64) (m : Nat) (hm : m < 64), (s <<< UInt64.ofNat m).toNat = s.toNat * 2 ^ m % 18446744073709551616 := fun s m hm => by
  rw [UInt64.toNat_shiftLeft, Nat.shiftLeft_eq]
  have : (UInt64.ofNat m).toNat % 64 = m := by simp; omega
  rw [this]
 have sr : ∀ (s : UInt64) (m : Nat) (hm : m < 64), (s >>> UInt64.ofNat m).toNat = s.toNat / 2 ^ m := fun s m hm => by
  rw [UInt64.toNat_shiftRight, Nat.shiftRight_eq_div_pow]
  have : (UInt64.ofNat m).toNat % 64 = m := by simp; omega
  rw [this]
 have lt64 : ∀ s : UInt64, s.toNat < 18446744073709551616 := fun s => s.toNat_lt
 have A : ∀ (s : UInt64), bXor .u64 (s.toNat : Nat) (sShl .u64 (s.toNat : Nat) 13) = (((s ^^^ (s <<< 13)).toNat : Nat) : Int) := fun s => by
  rw [show sShl .u64 (s.toNat : Int) 13 = ((s.toNat * 2 ^ 13 % 18446744073709551616 : Nat) : Int) from shl_u64 (m := 13) (lt64 s), xor_u64 (lt64 s) (Nat.mod_lt _ (by decide)), UInt64.toNat_xor, ← sh s 13 (by decide)]; rfl
 have B : ∀ (s : UInt64), bXor .u64 (s.toNat : Nat) (sShr .u64 (s.toNat : Nat) 7) = (((s ^^^ (s >>> 7)).toNat : Nat) : Int) := fun s => by
  rw [show sShr .u64 (s.toNat : Int) 7 = ((s.toNat / 2 ^ 7 : Nat) : Int) from shr_u64 (m := 7) (lt64 s), xor_u64 (lt64 s) (by have := lt64 s; omega), UInt64.toNat_xor, ← sr s 7 (by decide)]; rfl
 have C : ∀ (s : UInt64), bXor .u64 (s.toNat : Nat) (sShl .u64 (s.toNat : Nat) 17) = (((s ^^^ (s <<< 17)).toNat : Nat) : Int) := fun s => by
  rw [show sShl .u64 (s.toNat : Int) 17 = ((s.toNat * 2 ^ 17 % 18446744073709551616 : Nat) : Int) from shl_u64 (m := 17) (lt64 s), xor_u64 (lt64 s) (Nat.mod_lt _ (by decide)), UInt64.toNat_xor, ← sh s 17 (by decide)]; rfl
 refine ⟨_, H.cell (off := 0) rfl, _, H.cell (off := 0) rfl, H.sto (off := 0) (by simp) fun h1 H1 => ?_⟩
 rw [A r] at H1
 refine ⟨_, H1.cell (off := 0) rfl, _, H1.cell (off := 0) rfl, H1.sto (off := 0) (by simp) fun h2 H2 => ?_⟩
 rw [B] at H2
 refine ⟨_, H2.cell (off := 0) rfl, _, H2.cell (off := 0) rfl, H2.sto (off := 0) (by simp) fun h3 H3 => ⟨_, H3.cell (off := 0) rfl, ?_⟩⟩
 rw [C] at H3 ⊢
 exact k h3 H3
theorem bits_pow {x : Nat} (h : 1 ≤ x) : x < 2 ^ bitsLen x ∧ 2 ^ bitsLen x ≤ 2 * x := by
 unfold bitsLen
 rw [if_neg (by omega)]
 have h1 := Nat.lt_log2_self (n := x)
 have h2 := Nat.log2_self_le (n := x) (by omega)
 rw [Nat.pow_succ] at h1 ⊢
 omega
theorem break_hs {d : Array Key} {x y : Nat} (hn : d.size = n) (hxy : x ≤ y) (hy : y ≤ n) (hmax : n < 2 ^ 59) (H : Hs h (S a n c d :: L)) (k : ∀ h', Hs h' (S a n c (breakPatterns d x y) :: L) → Q (.tuple #[]) h') :
  SpecH PP z317 [.slice a n c, .int .i64 (x : Int), .int .i64 (y : Int), cmp] h Q := by
 refine z316.door ?_
 dsimp only
 rw [wS hxy (by omega)]
 unfold breakPatterns at k
 dsimp only at k
 generalize hm : y - x = m at k ⊢
 refine (y16 _ _ _).2 ⟨fun e => ?_, fun e => ?_⟩
 ·have e := of_decide_eq_true e
  rw [if_pos (by omega)] at k
  rw [y134 (a := m) (by omega)]
  refine (H.new (t := y76) (cs := #[.int .u64 0]) (xs := [.int .u64 0])).sto (off := 0) (by simp) fun h1 H1 => ?_
  generalize Array.size h = rb at H1 ⊢
  have em : m = (UInt64.ofNat m).toNat := by simp; omega
  refine z340.door ?_
  dsimp only
  rw [y134 (a := m) (by omega)]
  refine Len_hs (by omega) H1 fun h2 H2 => ⟨_, rfl, y22 (decide_eq_true (by omega)) ⟨_, rfl, ?_⟩⟩
  obtain ⟨b1, b2⟩ := bits_pow (x := m) (by omega)
  have hmod : sShl .u64 1 (bitsLen m : Nat) = ((1 <<< bitsLen m : Nat) : Int) := by
   rw [show sShl .u64 1 ((bitsLen m : Nat) : Int) = ((1 * 2 ^ bitsLen m % 18446744073709551616 : Nat) : Int) from shl_u64 (a := 1) (by decide), Nat.shiftLeft_eq, Nat.mod_eq_of_lt (by omega)]
  rw [hmod]
  have hM : 1 <<< bitsLen m = 2 ^ bitsLen m := by rw [Nat.shiftLeft_eq, Nat.one_mul]
  generalize hMM : 1 <<< bitsLen m = M at k hM ⊢
  have q4 : 4 * (m / 4) ≤ m := Nat.mul_div_le _ _
  have t4 : Int.tdiv (m : Int) 4 = ((m / 4 : Nat) : Int) := tdiv_n _ 4
  have tt : IntKind.i64.wrap (IntKind.i64.wrap (Int.tdiv (m : Int) 4) * 2) = ((m / 4 * 2 : Nat) : Int) := by rw [t4, wI (x := ((m / 4 : Nat) : Int)) (by omega) (by omega), wI (by omega) (by omega)]; omega
  rw [tt, wA (by omega), p1 (by omega) (by omega)]
  rw [show (Value.int .u64 (m : Int)) = .int .u64 ((UInt64.ofNat m).toNat : Nat) by rw [← em]] at H2
  have round : ∀ (r : Nat) {h : Heap} {s : UInt64} {f : Array Key}, 1 ≤ r → r ≤ 3 → (∀ h', Hs h' (S a n c (breakStep x m M (s, f) (x + m / 4 * 2 + 2 - r)).2 :: pt rb y76 [.int .u64 ((breakStep x m M (s, f) (x + m / 4 * 2 + 2 - r)).1.toNat : Nat)] :: L) →
    z316.L1 a n c (x : Int) (m : Int) ⟨rb, 0, none⟩ (M : Int) ((x + m / 4 * 2 + 2 - r + 1 : Nat) : Int) (z316.K1 Q) h') →
    Hs h (S a n c f :: pt rb y76 [.int .u64 (s.toNat : Nat)] :: L) → z316.L1 a n c (x : Int) (m : Int) ⟨rb, 0, none⟩ (M : Int) ((x + m / 4 * 2 + 2 - r : Nat) : Int) (z316.K1 Q) h := by
   intro r h s f hr1 hr kk H
   have hs : f.size = n := by have := H.own_len; rw [y153 phl] at this; simp only [Array.length_toList] at this; omega
   refine z316.L1_of ?_
   dsimp only
   rw [tt, wA (by omega), w1 (by omega)]
   refine y22 (decide_eq_true (by omega)) ?_
   refine next_hs H.m1 fun h1 H1 => ⟨_, rfl, ?_⟩
   unfold breakStep at kk
   dsimp only at kk
   have hx := (xorNext s).toNat_lt
   generalize (xorNext s) = s2 at H1 kk hx ⊢
   have hand : bAnd .u64 (s2.toNat : Nat) (IntKind.u64.wrap ((M : Int) - 1)) = ((s2.toNat &&& (M - 1) : Nat) : Int) := by
    rw [show (M : Int) - 1 = ((M - 1 : Nat) : Int) by omega, y134 (by omega), and_u64 hx (by omega)]
   have hle : s2.toNat &&& (M - 1) ≤ M - 1 := Nat.and_le_right
   rw [hand, wI (by omega) (by omega)]
   generalize s2.toNat &&& (M - 1) = o at kk hle ⊢
   have J : ∀ o2 : Nat, o2 < m → o2 = (if o ≥ m then o - m else o) → z316.J1 a n c (x : Int) (m : Int) ⟨rb, 0, none⟩ (M : Int) ((x + m / 4 * 2 + 2 - r : Nat) : Int) (o2 : Int) (z316.K1 Q) h1 := by
    intro o2 ho eo
    rw [← eo] at kk
    refine z316.J1_of ?_
    dsimp only
    rw [wA (by omega)]
    refine y75 hs (by omega) (by omega) H1.m1 fun h3 H3 => ?_
    rw [w1 (by omega)]
    exact kk h3 H3
   refine (y16 _ _ _).2 ⟨fun e1 => ?_, fun e1 => ?_⟩
   ·have e1 := of_decide_eq_true e1
    rw [wS (by omega) (by omega)]
    exact J (o - m) (by omega) (by rw [if_pos (by omega)])
   ·have e1 := of_decide_eq_false e1
    exact J o (by omega) (by rw [if_neg (by omega)])
  have H2' := H2.m1
  rw [show x + m / 4 * 2 - 1 = x + m / 4 * 2 + 2 - 3 by omega] at k ⊢
  refine round 3 (by omega) (by omega) (fun h3 H3 => ?_) H2'
  rw [show x + m / 4 * 2 + 2 - 3 + 1 = x + m / 4 * 2 + 2 - 2 by omega] at k ⊢
  refine round 2 (by omega) (by omega) (fun h4 H4 => ?_) H3
  rw [show x + m / 4 * 2 + 2 - 2 + 1 = x + m / 4 * 2 + 2 - 1 by omega]
  rw [show x + m / 4 * 2 + 2 - 3 + 2 = x + m / 4 * 2 + 2 - 1 by omega] at k
  refine round 1 (by omega) (by omega) (fun h5 H5 => ?_) H4
  refine z316.L1_of ?_
  dsimp only
  rw [tt, wA (by omega), w1 (by omega)]
  exact y13 (decide_eq_false (by omega)) (z316.L1_X0 (k h5 (H5.m1.tl)))
 ·have e := of_decide_eq_false e
  rw [if_neg (by omega)] at k
  exact k h H
end Go.Proofs.YtglcanljknjcfaaGreatDoor.Srtapi_Key

set_option maxRecDepth 20000
namespace Go.Proofs.YtglcanljknjcfaaGreatDoor.Srtapi_Key
open Go Go.HW Go.Sort
variable {h : Heap} {L : List Assn} {Q : Value → Heap → Prop} {a : OA} {n c : Nat} {cmp : Value} {lt : Key → Key → Bool}
theorem S_size {d : Array Key} (H : Hs h (S a n c d :: L)) : d.size = n := by
 have := H.own_len
 rw [y153 phl] at this
 simp only [Array.length_toList] at this
 omega
def st3 (lt : Key → Key → Bool) (d3 : Array Key) (x y lim : Nat) (wb wp : Bool) (pivot : Nat) : Array Key :=
 if x > 0 && !lt d3[x - 1]! d3[pivot]! then
  if _h : x < (partitionEqual lt d3 x y pivot).1 ∧ (partitionEqual lt d3 x y pivot).1 ≤ y then pdq lt (partitionEqual lt d3 x y pivot).2 (partitionEqual lt d3 x y pivot).1 y lim wb wp else (partitionEqual lt d3 x y pivot).2
 else
  if _h : x ≤ (Sort.partition lt d3 x y pivot).1 ∧ (Sort.partition lt d3 x y pivot).1 < y then
   if (Sort.partition lt d3 x y pivot).1 - x < y - (Sort.partition lt d3 x y pivot).1 then
    pdq lt (pdq lt (Sort.partition lt d3 x y pivot).2.2 x (Sort.partition lt d3 x y pivot).1 lim true true) ((Sort.partition lt d3 x y pivot).1 + 1) y lim (decide ((Sort.partition lt d3 x y pivot).1 - x ≥ (y - x) / 8)) (Sort.partition lt d3 x y pivot).2.1
   else
    pdq lt (pdq lt (Sort.partition lt d3 x y pivot).2.2 ((Sort.partition lt d3 x y pivot).1 + 1) y lim true true) x (Sort.partition lt d3 x y pivot).1 lim (decide (y - (Sort.partition lt d3 x y pivot).1 ≥ (y - x) / 8)) (Sort.partition lt d3 x y pivot).2.1
  else (Sort.partition lt d3 x y pivot).2.2
def st2 (lt : Key → Key → Bool) (d2 : Array Key) (x y lim : Nat) (wb wp : Bool) (pivot : Nat) (hint : Hint) : Array Key :=
 let pi := if wb && wp && hint = .increasing then partialInsertionSort lt d2 x y else (d2, false)
 if pi.2 then pi.1 else st3 lt pi.1 x y lim wb wp pivot
def st1 (lt : Key → Key → Bool) (d1 : Array Key) (x y lim : Nat) (wb wp : Bool) : Array Key :=
 st2 lt (if (choosePivot lt d1 x y).2 = .decreasing then reverseRange d1 x y else d1) x y lim wb wp (if (choosePivot lt d1 x y).2 = .decreasing then (y - 1) - ((choosePivot lt d1 x y).1 - x) else (choosePivot lt d1 x y).1)
  (if (choosePivot lt d1 x y).2 = .decreasing then Hint.increasing else (choosePivot lt d1 x y).2)
theorem pdq_st (d : Array Key) (x y lim : Nat) (wb wp : Bool) : pdq lt d x y lim wb wp = if y - x ≤ 12 then insertionSort lt d x y else if lim = 0 then heapSort lt d x y else
  st1 lt (if !wb then breakPatterns d x y else d) x y (if !wb then lim - 1 else lim) wb wp := by
 rw [pdq]
 rfl
theorem y166 {p : Key → Bool} {d : Array Key} {i : Nat} : ∀ (j : Nat), scanDown p d i j = j ∨ i ≤ scanDown p d i j + 1
 | 0 => .inl rfl
 | j + 1 => by
  rw [scanDown]; split
  ·rename_i e
   have := of_decide_eq_true (Bool.and_eq_true _ _ ▸ e).1
   rcases y166 (p := p) (d := d) (i := i) j with e2 | e2
   ·rw [e2]; exact .inr (by omega)
   ·exact .inr e2
  ·exact .inl rfl
theorem partLoop_in {x y : Nat} : ∀ (m i j : Nat) (f : Array Key), j + 1 ≤ i + m → x + 1 ≤ i → x ≤ j → j < y → x ≤ (partLoop lt x i j f).1 ∧ (partLoop lt x i j f).1 < y := by
 intro m
 induction m using Nat.strongRecOn with
 | _ m ihm =>
 intro i j f hm hi hj hy
 rw [partLoop]
 have hu := y121 (p := fun z => lt z f[x]!) (d := f) (j := j) (j + 1) i (by omega)
 generalize scanUp (fun z => lt z f[x]!) f j i = i2 at hu ⊢
 have hd := y92 (p := fun z => !lt z f[x]!) (d := f) (i := i2) j
 have hd2 := y166 (p := fun z => !lt z f[x]!) (d := f) (i := i2) j
 generalize scanDown (fun z => !lt z f[x]!) f i2 j = j2 at hd hd2 ⊢
 split
 ·omega
 ·rw [dif_pos (by omega)]
  exact ihm (j2 - 1 + 1 - (i2 + 1)) (by omega) _ _ _ (by omega) (by omega) (by omega) (by omega)
theorem partEqLoop_in {x y : Nat} : ∀ (m i j : Nat) (f : Array Key), j + 1 ≤ i + m → x + 1 ≤ i → i ≤ y → j < y → x < (partEqLoop lt x i j f).1 ∧ (partEqLoop lt x i j f).1 ≤ y := by
 intro m
 induction m using Nat.strongRecOn with
 | _ m ihm =>
 intro i j f hm hi hiy hy
 rw [partEqLoop]
 have hu := y121 (p := fun z => !lt f[x]! z) (d := f) (j := j) (j + 1) i (by omega)
 generalize scanUp (fun z => !lt f[x]! z) f j i = i2 at hu ⊢
 have hd := y92 (p := fun z => lt f[x]! z) (d := f) (i := i2) j
 generalize scanDown (fun z => lt f[x]! z) f i2 j = j2 at hd ⊢
 split
 ·omega
 ·rw [dif_pos (by omega)]
  exact ihm (j2 - 1 + 1 - (i2 + 1)) (by omega) _ _ _ (by omega) (by omega) (by omega) (by omega)
theorem partition_in {d : Array Key} {x y p : Nat} (h : x + 1 < y) : x ≤ (Sort.partition lt d x y p).1 ∧ (Sort.partition lt d x y p).1 < y := by
 unfold Sort.partition
 dsimp only
 generalize swp d x p = e
 have hu := y121 (p := fun z => lt z e[x]!) (d := e) (j := y - 1) y (x + 1) (by omega)
 generalize scanUp (fun z => lt z e[x]!) e (y - 1) (x + 1) = i2 at hu ⊢
 have hd := y92 (p := fun z => !lt z e[x]!) (d := e) (i := i2) (y - 1)
 have hd2 := y166 (p := fun z => !lt z e[x]!) (d := e) (i := i2) (y - 1)
 generalize scanDown (fun z => !lt z e[x]!) e i2 (y - 1) = j2 at hd hd2 ⊢
 split
 ·dsimp only; omega
 ·dsimp only
  exact partLoop_in y _ _ _ (by omega) (by omega) (by omega) (by omega)
theorem y194 {d : Array Key} {x y p : Nat} (h : x + 1 < y) : x < (partitionEqual lt d x y p).1 ∧ (partitionEqual lt d x y p).1 ≤ y := by
 unfold partitionEqual
 exact partEqLoop_in y _ _ _ (by omega) (by omega) (by omega) (by omega)
theorem pdq_loop (hc : CmpOk cmp lt) (hmax : n < 2 ^ 59) : ∀ (m x y lim : Nat) (wb wp : Bool) {h : Heap} {Q : Value → Heap → Prop} {d : Array Key}, y ≤ x + m → x ≤ y → y ≤ n → lim < 2 ^ 60 → Hs h (S a n c d :: L) → (∀ h', Hs h' (S a n c (pdq lt d x y lim wb wp) :: L) → Q (.tuple #[]) h') →
  z358.L1 a n c (x : Int) (y : Int) (lim : Int) cmp wb wp (z358.K1 Q) h := by
 intro m
 induction m using Nat.strongRecOn with
 | _ m ihm =>
 intro x y lim wb wp h Q d hm hxy hy hlim H k
 have hn := S_size H
 refine z358.L1_of ?_
 dsimp only
 rw [wS hxy (by omega)]
 rw [pdq_st] at k
 refine (y16 _ _ _).2 ⟨fun e => ?_, fun e => ?_⟩
 ·have e := of_decide_eq_true e
  rw [if_pos (by omega)] at k
  exact insertion_hs hc hn hxy hy (by omega) H fun h1 H1 => ⟨rfl, z358.L1_Xret (k h1 H1)⟩
 have e := of_decide_eq_false e
 rw [if_neg (by omega)] at k
 refine (y16 _ _ _).2 ⟨fun e0 => ?_, fun e0 => ?_⟩
 ·have e0 := beq_iff_eq.1 e0
  rw [if_pos (by omega)] at k
  exact heap_hs hc hn (by omega) hy hmax H fun h1 H1 => ⟨rfl, z358.L1_Xret (k h1 H1)⟩
 have e0 := beq_eq_false_iff_ne.1 e0
 rw [if_neg (by omega)] at k
 have J5 : ∀ {h : Heap} {d3 : Array Key} {lim : Nat} {p : Nat} (b : Bool), x ≤ p → p < y → lim < 2 ^ 60 → (decide (x > 0) && !lt d3[x - 1]! d3[p]!) = b → (∀ h', Hs h' (S a n c (st3 lt d3 x y lim wb wp p) :: L) → Q (.tuple #[]) h') → Hs h (S a n c d3 :: L) →
   z358.J5 a n c (x : Int) (y : Int) (lim : Int) cmp wb wp ((y - x : Nat) : Int) (p : Int) b (z358.K1 Q) h := by
  intro h d3 lim p b hp1 hp2 hlim hb k H
  have hn := S_size H
  unfold st3 at k
  refine z358.J5_of ((y16 _ _ _).2 ⟨fun e1 => ?_, fun e1 => ?_⟩)
  ·subst e1
   rw [if_pos hb] at k
   have hin := y194 (lt := lt) (d := d3) (x := x) (y := y) (p := p) (by omega)
   rw [dif_pos hin] at k
   refine y193 hc hn hp1 hp2 (by omega) hy hmax H fun h1 H1 => ⟨_, rfl, ?_⟩
   generalize partitionEqual lt d3 x y p = r at hin k H1 ⊢
   exact ihm (y - r.1) (by omega) r.1 y lim wb wp (by omega) hin.2 hy hlim H1 k
  ·subst e1
   rw [if_neg (by rw [hb]; simp)] at k
   have hin := partition_in (lt := lt) (d := d3) (x := x) (y := y) (p := p) (by omega)
   rw [dif_pos hin] at k
   refine partition_hs hc hn hp1 hp2 (by omega) hy hmax H fun h1 H1 => ⟨_, _, rfl, ?_⟩
   generalize Sort.partition lt d3 x y p = r at hin k H1 ⊢
   have t8 : Int.tdiv ((y - x : Nat) : Int) 8 = (((y - x) / 8 : Nat) : Int) := tdiv_n _ 8
   dsimp only
   rw [wS hin.1 (by omega), wS (by omega) (by omega), t8, wI (x := (((y - x) / 8 : Nat) : Int)) (by omega) (by omega), w1 (i := r.1) (by omega)]
   refine (y16 _ _ _).2 ⟨fun e2 => ?_, fun e2 => ?_⟩
   ·have e2 := of_decide_eq_true e2
    rw [if_pos (by omega)] at k
    refine z358.door (ihm (r.1 - x) (by omega) x r.1 lim true true (by omega) hin.1 (by omega) hlim H1 fun h2 H2 => ⟨rfl, ?_⟩)
    rw [show decide (((r.1 - x : Nat) : Int) ≥ (((y - x) / 8 : Nat) : Int)) = decide (r.1 - x ≥ (y - x) / 8) from decide_eq_decide.2 (by omega)]
    exact ihm (y - (r.1 + 1)) (by omega) (r.1 + 1) y lim _ _ (by omega) (by omega) hy hlim H2 k
   ·have e2 := of_decide_eq_false e2
    rw [if_neg (by omega)] at k
    refine z358.door (ihm (y - (r.1 + 1)) (by omega) (r.1 + 1) y lim true true (by omega) (by omega) hy hlim H1 fun h2 H2 => ⟨rfl, ?_⟩)
    rw [show decide (((y - r.1 : Nat) : Int) ≥ (((y - x) / 8 : Nat) : Int)) = decide (y - r.1 ≥ (y - x) / 8) from decide_eq_decide.2 (by omega)]
    exact ihm (r.1 - x) (by omega) x r.1 lim _ _ (by omega) hin.1 (by omega) hlim H2 k
 have J4 : ∀ {h : Heap} {d3 : Array Key} {lim : Nat} {p : Nat}, x ≤ p → p < y → lim < 2 ^ 60 → (∀ h', Hs h' (S a n c (st3 lt d3 x y lim wb wp p) :: L) → Q (.tuple #[]) h') → Hs h (S a n c d3 :: L) →
   z358.J4 a n c (x : Int) (y : Int) (lim : Int) cmp wb wp ((y - x : Nat) : Int) (p : Int) (z358.K1 Q) h := by
  intro h d3 lim p hp1 hp2 hlim k H
  have hn := S_size H
  refine z358.J4_of ((y16 _ _ _).2 ⟨fun e1 => ?_, fun e1 => ?_⟩)
  ·have e1 := of_decide_eq_true e1
   dsimp only
   rw [p1 (by omega) (by omega)]
   refine lk hn (by omega) H fun t ht => ⟨_, _, _, ht, ?_⟩
   refine lk hn (by omega) H fun t ht => ⟨_, _, _, ht, ?_⟩
   refine hc d3[x - 1]! d3[p]! _ _ _ H fun h3 r hr H3 => ⟨_, rfl, ?_⟩
   rw [hr]
   exact J5 _ hp1 hp2 hlim (by rw [decide_eq_true (by omega)]; rfl) k H3
  ·have e1 := of_decide_eq_false e1
   exact J5 false hp1 hp2 hlim (by rw [decide_eq_false (by omega)]; rfl) k H
 have J3 : ∀ {h : Heap} {d2 : Array Key} {lim : Nat} {p : Nat} {hint : Hint} (b : Bool), x ≤ p → p < y → lim < 2 ^ 60 → (wb && wp && decide (hint = .increasing)) = b → (∀ h', Hs h' (S a n c (st2 lt d2 x y lim wb wp p hint) :: L) → Q (.tuple #[]) h') → Hs h (S a n c d2 :: L) →
   z358.J3 a n c (x : Int) (y : Int) (lim : Int) cmp wb wp ((y - x : Nat) : Int) (p : Int) b (z358.K1 Q) h := by
  intro h d2 lim p hint b hp1 hp2 hlim hb k H
  have hn := S_size H
  unfold st2 at k
  dsimp only at k
  refine z358.J3_of ((y16 _ _ _).2 ⟨fun e1 => ?_, fun e1 => ?_⟩)
  ·subst e1
   rw [show (if (wb && wp && decide (hint = .increasing)) = true then partialInsertionSort lt d2 x y else (d2, false)) = partialInsertionSort lt d2 x y from if_pos hb] at k
   refine partialIns_hs hc hn (by omega) hy hmax H fun h1 H1 => ⟨_, rfl, ?_⟩
   generalize partialInsertionSort lt d2 x y = r at k H1 ⊢
   refine (y16 _ _ _).2 ⟨fun e2 => z358.L1_Xret (k h1 ?_), fun e2 => ?_⟩
   ·rw [if_pos e2]; exact H1
   ·rw [if_neg (by rw [e2]; simp)] at k
    exact J4 hp1 hp2 hlim k H1
  ·subst e1
   rw [show (if (wb && wp && decide (hint = .increasing)) = true then partialInsertionSort lt d2 x y else (d2, false)) = (d2, false) from if_neg (by rw [hb]; simp)] at k
   exact J4 hp1 hp2 hlim k H
 have J2 : ∀ {h : Heap} {d2 : Array Key} {lim : Nat} {p : Nat} {hint : Hint}, x ≤ p → p < y → lim < 2 ^ 60 → (∀ h', Hs h' (S a n c (st2 lt d2 x y lim wb wp p hint) :: L) → Q (.tuple #[]) h') → Hs h (S a n c d2 :: L) →
   z358.J2 a n c (x : Int) (y : Int) (lim : Int) cmp wb wp ((y - x : Nat) : Int) (p : Int) (hintN hint : Nat) (z358.K1 Q) h := by
  intro h d2 lim p hint hp1 hp2 hlim k H
  refine z358.J2_of ?_
  refine (y16 _ _ _).2 ⟨fun e1 => (y16 _ _ _).2 ⟨fun e2 => J3 (hint := hint) _ hp1 hp2 hlim ?_ k H, fun e2 => J3 (hint := hint) _ hp1 hp2 hlim ?_ k H⟩, fun e1 => J3 (hint := hint) _ hp1 hp2 hlim ?_ k H⟩
  ·rw [e1, e2]; cases hint <;> rfl
  ·rw [e1, e2]; rfl
  ·rw [e1]; rfl
 have J1 : ∀ {h : Heap} {d1 : Array Key} {lim : Nat}, lim < 2 ^ 60 → (∀ h', Hs h' (S a n c (st1 lt d1 x y lim wb wp) :: L) → Q (.tuple #[]) h') → Hs h (S a n c d1 :: L) →
   z358.J1 a n c (x : Int) (y : Int) (lim : Int) cmp wb wp ((y - x : Nat) : Int) (z358.K1 Q) h := by
  intro h d1 lim hlim k H
  have hn := S_size H
  refine z358.J1_of ?_
  have hin := y202 (lt := lt) (d := d1) (x := x) (y := y) (by omega)
  refine y201 hc hn (by omega) hy (by omega) H fun h1 H1 => ⟨_, _, rfl, ?_⟩
  unfold st1 at k
  generalize choosePivot lt d1 x y = r at hin k ⊢
  obtain ⟨p, hint⟩ := r
  dsimp only at hin k ⊢
  refine (y16 _ _ _).2 ⟨fun e1 => ?_, fun e1 => ?_⟩
  ·have e2 : hint = .decreasing := by cases hint <;> first | rfl | (simp [hintN] at e1)
   rw [if_pos e2, if_pos e2, if_pos e2] at k
   refine reverse_hs hn (by omega) hy (by omega) H1 fun h2 H2 => ⟨rfl, ?_⟩
   rw [p1 (by omega) (by omega), wS hin.1 (by omega), wS (by omega) (by omega)]
   exact J2 (hint := .increasing) (by omega) (by omega) hlim k H2
  ·have e2 : hint ≠ .decreasing := by rintro rfl; simp [hintN] at e1
   rw [if_neg e2, if_neg e2, if_neg e2] at k
   exact J2 hin.1 hin.2 hlim k H1
 refine (y16 _ _ _).2 ⟨fun e1 => ?_, fun e1 => ?_⟩
 ·rw [if_pos e1, if_pos e1] at k
  refine break_hs hn hxy hy hmax H fun h1 H1 => ⟨rfl, ?_⟩
  rw [p1 (by omega) (by omega)]
  exact J1 (by omega) k H1
 ·rw [if_neg (by rw [e1]; simp), if_neg (by rw [e1]; simp)] at k
  exact J1 hlim k H
theorem SortFunc_hs (hc : CmpOk cmp lt) (hw : SWO lt) {d : Array Key} (hmax : n < 2 ^ 59) (H : Hs h (S a n c d :: L)) (k : ∀ h' (e : Array Key), e.toList.Perm d.toList → (∀ i j, i < j → j < n → lt e[j]! e[i]! = false) → Hs h' (S a n c e :: L) → Q (.tuple #[]) h') :
  SpecH PP z311 [.slice a n c, cmp] h Q := by
 have hn := S_size H
 refine z310.door ?_
 dsimp only
 rw [y134 (by omega)]
 refine Len_hs (by omega) H fun h1 H1 => ⟨_, rfl, ?_⟩
 have hb : bitsLen n < 2 ^ 60 := by
  rcases Nat.eq_zero_or_pos n with rfl | hp
  ·show 0 < _; decide
  ·have := bits_pow hp
   have h2 : bitsLen n < 2 ^ bitsLen n := Nat.lt_two_pow_self
   omega
 refine z358.door ?_
 have hp := pdq_sorts lt hw d 0 n (bitsLen n) true true (by omega) (by omega) (.inl rfl)
 refine pdq_loop hc hmax n 0 n (bitsLen n) true true (by omega) (by omega) (Nat.le_refl _) hb H1 fun h2 H2 => ⟨rfl, ?_⟩
 refine k h2 _ ?_ (fun i j hij hj => hp.2 i j (Nat.zero_le _) hij hj) H2
 have := hp.1.2.2
 have ex : ∀ z : Array Key, z.size = n → z.extract 0 n = z := fun z hz => by rw [← hz]; exact Array.extract_size
 rw [ex _ (hp.1.1.trans hn), ex d hn] at this
 exact this
end Go.Proofs.YtglcanljknjcfaaGreatDoor.Srtapi_Key
