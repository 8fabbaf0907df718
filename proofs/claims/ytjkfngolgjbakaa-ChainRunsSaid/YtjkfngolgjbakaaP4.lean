/- Texts of the proof, laid together: What the functions of this text come to, as predicates on heaps (printed by my own program out of the dump), each with its proof against the program.; Keys and writes, as cells; as keys of maps.; The library's sort by a function, at one element: what its parts compute (the kit's plain law of the sort tells the rest). Printed by sortgen.py.; The library's sort by a function, at one element, second part: reverse, insertion, heap. Printed by sortgen.py.; The library's sort by a function, at one element, third part: partial insertion, partitions. Printed by sortgen.py.; The library's sort by a function, at one element, fourth part: patterns, the whole. Printed by sortgen.py.; The library's sort by a function, at one element, last part: pdqsort and SortFunc. Printed by sortgen.py.; The order of keys (plain).; cmp.Compare of strings, cmp.Or of three, the order of keys.; Commits, as cells.; Versions, chains, the store's memory.; Contracts of package chain: New, Now, newest, Get, Last.; Contracts of package chain: keys, List, Versions.; Contracts of package chain: Put, Versions.; Contracts of package chain: Versions, Prune.; Rows of archives, each with entries of its own.; Contracts of package chain: Dump.; The document's store: newest, Get, Less. -/
import Derived.Test.YtjkfngolgjbakaaP1
import Derived.Test.YtjkfngolgjbakaaP2
import Derived.Test.YtjkfngolgjbakaaProg
import Derived.Sort.AssemblyPlain
import Derived.Sort.Statements
import Derived.Test.YtjkfngolgjbakaaP3
set_option linter.unusedVariables false
set_option maxRecDepth 100000
namespace Go.Proofs.Ytjkfngolgjbakaa
open Go Go.HW
/-! ### slices.reverseRangeCmpFunc[haversack/api.Key]: function 53 -/
namespace slices_reverseRangeCmpFunc_api_Key
def ann : Ann := (.seq 261 (.region [(List.range 2, 261)]) (.seq 769 (.region [(List.range 3, 769)]) (.block (.loop 769 (.seq 769 (.seq 33537 (.region [(List.range 3, 33537)]) (.cond .leaf (.exit 0))) (.block (.seq 769 (.region [(List.range 16, 769)]) (.seq 769 (.region [(List.range 3, 769)]) (.region [(List.range 3, 769)])))))))))
noncomputable abbrev cd (n : Nat) : Code := sub (bodyOf Try.f53) (pth n)
abbrev an (n : Nat) : Ann := subA ann (pth n)
@[irreducible] def X0  : Fr := (mkFr 0 34 [])
@[irreducible] def L1 (data0 : OA) (data0n data0c : Nat) (i8 j9 : Int) (K : EP) (h : Heap) : Prop := Lp PP true (cd 28) (mkFr 0 34 [(0, (.slice data0 data0n data0c)), (8, (.int .i64 i8)), (9, (.int .i64 j9))]) K h
@[irreducible] def B1 (K : EP) : EP := seqK (fun fr h => Lp PP true (cd 28) (fr.mask 769) K h) K
@[irreducible] def K1 (Q : VP) : EP := blockK 0 (bodyK PP Try.f53 Q)
theorem L1_of {data0 : OA} {data0n data0c : Nat} {i8 j9 : Int} {K : EP} {h : Heap} (H :
 let t15 : Bool := decide (i8 < j9)
 br t15 (
 hwp PP (Instr.indexAt T_sl_api_Key (.slice data0 data0n data0c) (.int .i64 j9)) (fun v h1 => ∃ (t22 : Addr), v = (.pointer (some t22)) ∧
 ∃ (t23f0 t23f1 t23f2 : ByteArray), rdCells h1 t22 0 [(.string t23f0), (.string t23f1), (.string t23f2)] ∧
 hwp PP (Instr.indexAt T_sl_api_Key (.slice data0 data0n data0c) (.int .i64 i8)) (fun v_1 h2 => ∃ (t26 : Addr), v_1 = (.pointer (some t26)) ∧
 ∃ (t27f0 t27f1 t27f2 : ByteArray), rdCells h2 t26 0 [(.string t27f0), (.string t27f1), (.string t27f2)] ∧
 hwp PP (Instr.indexAt T_sl_api_Key (.slice data0 data0n data0c) (.int .i64 i8)) (fun v_2 h3 => ∃ (t28 : Addr), v_2 = (.pointer (some t28)) ∧
 wrCells t28 0 [(.string t23f0), (.string t23f1), (.string t23f2)] (fun h4 =>
 hwp PP (Instr.indexAt T_sl_api_Key (.slice data0 data0n data0c) (.int .i64 j9)) (fun v_3 h5 => ∃ (t29 : Addr), v_3 = (.pointer (some t29)) ∧
 wrCells t29 0 [(.string t27f0), (.string t27f1), (.string t27f2)] (fun h6 =>
 let t31 : Int := IntKind.i64.wrap (i8 + 1)
 let t33 : Int := IntKind.i64.wrap (j9 - 1)
 L1 data0 data0n data0c t31 t33 K h6) h5) h4) h3) h2) h1) h) (
 K (.exit 0) (X0) h)) : L1 data0 data0n data0c i8 j9 K h := by unfold L1; exact Lp.of_txt (an 28) 769 (by kernel_rfl) H
theorem L1_X0 {Q : VP}  {h : Heap} (H :
 Q (.tuple #[]) h) : (K1 Q) (.exit 0) (X0 ) h := of_eq_txt (by kernel_rfl) H
theorem door {data0 : OA} {data0n data0c : Nat} {a1 b2 : Int} {cmp3 : Value} {Q : VP} {h : Heap} (H :
 let t12 : Int := IntKind.i64.wrap (b2 - 1)
 L1 data0 data0n data0c a1 t12 (K1 Q) h) : SpecH PP F_slices_reverseRangeCmpFunc_api_Key [(.slice data0 data0n data0c), (.int .i64 a1), (.int .i64 b2), cmp3] h Q :=
   spec_of_txt (ann := ann) Try.func53 rfl rfl (by kernel_rfl) H
end slices_reverseRangeCmpFunc_api_Key
/-! ### slices.partialInsertionSortCmpFunc[haversack/api.Key]: function 54 -/
namespace slices_partialInsertionSortCmpFunc_api_Key
def ann : Ann := (.seq 15 (.region [(List.range 1, 15)]) (.seq 527 (.region [(List.range 3, 527)]) (.seq 0 (.seq 1551 (.region [(List.range 1, 1551)]) (.block (.loop 1551 (.seq 1551 (.seq 67087 (.region [(List.range 2, 67087)]) (.cond .leaf (.exit 0))) (.seq 1551 (.block (.seq 1551 (.block (.loop 1551 (.seq 1551 (.seq 68719478287 (.region [(List.range 18, 68719478287)]) (.cond .leaf (.exit 1551))) (.block (.region [(List.range 3, 1551)]))))) (.seq 1551 (.seq 2199023257103 (.region [(List.range 3, 2199023257103)]) (.cond (.seq 256 (.region [(List.range 1, 256)]) (.exit 256)) .leaf)) (.seq 1551 (.seq 35184372090383 (.region [(List.range 4, 35184372090383)]) (.cond (.seq 256 (.region [(List.range 1, 256)]) (.exit 256)) .leaf)) (.seq 1551 (.region [(List.range 18, 1551)]) (.seq 1551 (.seq 36893488147419104783 (.region [(List.range 4, 36893488147419104783)]) (.cond (.seq 3599 (.region [(List.range 3, 3599)]) (.block (.loop 3599 (.seq 3599 (.seq 590295810358705655311 (.region [(List.range 2, 590295810358705655311)]) (.cond .leaf (.exit 1551))) (.seq 3599 (.block (.seq 3599 (.seq 19342813113834066795302415 (.region [(List.range 13, 19342813113834066795302415)]) (.cond (.exit 1551) .leaf)) (.region [(List.range 18, 3599)]))) (.region [(List.range 3, 3599)])))))) .leaf)) (.join (.seq 20282409603651670423947251287567 (.region [(List.range 4, 20282409603651670423947251287567)]) (.cond (.seq 5647 (.region [(List.range 3, 5647)]) (.block (.loop 5647 (.seq 5647 (.seq 649037107316853453566312041158159 (.region [(List.range 3, 649037107316853453566312041158159)]) (.cond .leaf (.exit 1551))) (.seq 5647 (.block (.seq 5647 (.seq 21267647932558653966460912964485518863 (.region [(List.range 13, 21267647932558653966460912964485518863)]) (.cond (.exit 1551) .leaf)) (.region [(List.range 18, 5647)]))) (.region [(List.range 3, 5647)])))))) .leaf))))))))) (.join (.region [(List.range 3, 1551)]))))))) (.seq 256 (.region [(List.range 1, 256)]) (.exit 256)))))
noncomputable abbrev cd (n : Nat) : Code := sub (bodyOf Try.f54) (pth n)
abbrev an (n : Nat) : Ann := subA ann (pth n)
@[irreducible] def X0  : Fr := (mkFr 0 141 [])
@[irreducible] def X2 (data0 : OA) (data0n data0c : Nat) (a1 b2 : Int) (cmp3 : Value) (i9 j10 : Int) : Fr := (mkFr 0 141 [(0, (.slice data0 data0n data0c)), (1, (.int .i64 a1)), (2, (.int .i64 b2)), (3, cmp3), (9, (.int .i64 i9)), (10, (.int .i64 j10))])
@[irreducible] def Xret (t8 : Bool) : Fr := (mkFr 0 141 [(8, (.bool t8))])
@[irreducible] def X4 (data0 : OA) (data0n data0c : Nat) (a1 b2 : Int) (cmp3 : Value) (i9 j10 : Int) : Fr := (mkFr 0 141 [(0, (.slice data0 data0n data0c)), (1, (.int .i64 a1)), (2, (.int .i64 b2)), (3, cmp3), (9, (.int .i64 i9)), (10, (.int .i64 j10))])
@[irreducible] def X6 (data0 : OA) (data0n data0c : Nat) (a1 b2 : Int) (cmp3 : Value) (i9 j10 : Int) : Fr := (mkFr 0 141 [(0, (.slice data0 data0n data0c)), (1, (.int .i64 a1)), (2, (.int .i64 b2)), (3, cmp3), (9, (.int .i64 i9)), (10, (.int .i64 j10))])
@[irreducible] def L1 (data0 : OA) (data0n data0c : Nat) (a1 b2 : Int) (cmp3 : Value) (i9 j10 : Int) (K : EP) (h : Heap) : Prop := Lp PP true (cd 116) (mkFr 0 141 [(0, (.slice data0 data0n data0c)), (1, (.int .i64 a1)), (2, (.int .i64 b2)), (3, cmp3), (9, (.int .i64 i9)), (10, (.int .i64 j10))]) K h
@[irreducible] def B1 (K : EP) : EP := seqK (fun fr h => Lp PP true (cd 116) (fr.mask 1551) K h) K
@[irreducible] def K3 (Q : VP) : EP := seqK (fun fr h => ev PP true none (cd 15) (an 15) (fr.mask 0) (bodyK PP Try.f54 Q) h) (bodyK PP Try.f54 Q)
@[irreducible] def K1 (Q : VP) : EP := blockK 0 (K3 Q)
@[irreducible] def K9 (K : EP) : EP := seqK (fun fr h => Jn PP true (cd 467) (fr.mask 1551) (B1 K) h) (B1 K)
@[irreducible] def K6 (K : EP) : EP := blockK 1 (K9 K)
@[irreducible] def K4 (K : EP) : EP := seqK (fun fr h => ev PP true none (cd 1865) (an 1865) (fr.mask 1551) (K6 K) h) (K6 K)
@[irreducible] def K2 (K : EP) : EP := blockK 2 (K4 K)
@[irreducible] def L2 (data0 : OA) (data0n data0c : Nat) (a1 b2 : Int) (cmp3 : Value) (i9 j10 : Int) (K : EP) (h : Heap) : Prop := Lp PP true (cd 7456) (mkFr 0 141 [(0, (.slice data0 data0n data0c)), (1, (.int .i64 a1)), (2, (.int .i64 b2)), (3, cmp3), (9, (.int .i64 i9)), (10, (.int .i64 j10))]) K h
@[irreducible] def B2 (K : EP) : EP := seqK (fun fr h => Lp PP true (cd 7456) (fr.mask 1551) K h) K
@[irreducible] def J1 (data0 : OA) (data0n data0c : Nat) (a1 b2 : Int) (cmp3 : Value) (i9 j10 : Int) (K : EP) (h : Heap) : Prop := Jn PP true (cd 29855) (mkFr 0 141 [(0, (.slice data0 data0n data0c)), (1, (.int .i64 a1)), (2, (.int .i64 b2)), (3, cmp3), (9, (.int .i64 i9)), (10, (.int .i64 j10))]) (K6 K) h
@[irreducible] def K8 (K : EP) : EP := seqK (fun fr h => Jn PP true (cd 29855) (fr.mask 1551) (K6 K) h) (K6 K)
@[irreducible] def K5 (K : EP) : EP := blockK 4 (K8 K)
@[irreducible] def K7 (K : EP) : EP := blockK 6 (K6 K)
@[irreducible] def L3 (data0 : OA) (data0n data0c : Nat) (a1 b2 : Int) (cmp3 : Value) (i9 j10 j11 : Int) (K : EP) (h : Heap) : Prop := Lp PP true (cd 955348) (mkFr 0 141 [(0, (.slice data0 data0n data0c)), (1, (.int .i64 a1)), (2, (.int .i64 b2)), (3, cmp3), (9, (.int .i64 i9)), (10, (.int .i64 j10)), (11, (.int .i64 j11))]) K h
@[irreducible] def B3 (K : EP) : EP := seqK (fun fr h => Lp PP true (cd 955348) (fr.mask 3599) K h) K
@[irreducible] def L4 (data0 : OA) (data0n data0c : Nat) (a1 b2 : Int) (cmp3 : Value) (i9 j10 j12 : Int) (K : EP) (h : Heap) : Prop := Lp PP true (cd 955380) (mkFr 0 141 [(0, (.slice data0 data0n data0c)), (1, (.int .i64 a1)), (2, (.int .i64 b2)), (3, cmp3), (9, (.int .i64 i9)), (10, (.int .i64 j10)), (12, (.int .i64 j12))]) K h
@[irreducible] def B4 (K : EP) : EP := seqK (fun fr h => Lp PP true (cd 955380) (fr.mask 5647) K h) K
@[irreducible] def J2 (data0 : OA) (data0n data0c : Nat) (a1 b2 : Int) (cmp3 : Value) (i9 j10 : Int) (K : EP) (h : Heap) : Prop := Jn PP true (cd 467) (mkFr 0 141 [(0, (.slice data0 data0n data0c)), (1, (.int .i64 a1)), (2, (.int .i64 b2)), (3, cmp3), (9, (.int .i64 i9)), (10, (.int .i64 j10))]) (B1 K) h
theorem L1_of {data0 : OA} {data0n data0c : Nat} {a1 b2 : Int} {cmp3 : Value} {i9 j10 : Int} {K : EP} {h : Heap} (H :
 let t16 : Bool := decide (j10 < 5)
 br t16 (
 L2 data0 data0n data0c a1 b2 cmp3 i9 j10 (K2 K) h) (
 K (.exit 0) (X0) h)) : L1 data0 data0n data0c a1 b2 cmp3 i9 j10 K h := by unfold L1; exact Lp.of_txt (an 116) 1551 (by kernel_rfl) H
theorem L1_X0 {Q : VP}  {h : Heap} (H :
 Q (.bool false) h) : (K1 Q) (.exit 0) (X0 ) h := of_eq_txt (by kernel_rfl) H
theorem L2_of {data0 : OA} {data0n data0c : Nat} {a1 b2 : Int} {cmp3 : Value} {i9 j10 : Int} {K : EP} {h : Heap} (H :
 let t21 : Bool := decide (i9 < b2)
 br t21 (
 hwp PP (Instr.indexAt T_sl_api_Key (.slice data0 data0n data0c) (.int .i64 i9)) (fun v h1 => ∃ (t26 : Addr), v = (.pointer (some t26)) ∧
 ∃ (t27f0 t27f1 t27f2 : ByteArray), rdCells h1 t26 0 [(.string t27f0), (.string t27f1), (.string t27f2)] ∧
 let t30 : Int := IntKind.i64.wrap (i9 - 1)
 hwp PP (Instr.indexAt T_sl_api_Key (.slice data0 data0n data0c) (.int .i64 t30)) (fun v_1 h2 => ∃ (t31 : Addr), v_1 = (.pointer (some t31)) ∧
 ∃ (t32f0 t32f1 t32f2 : ByteArray), rdCells h2 t31 0 [(.string t32f0), (.string t32f1), (.string t32f2)] ∧
 callV PP cmp3 [(.agg #[(.string t27f0), (.string t27f1), (.string t27f2)]), (.agg #[(.string t32f0), (.string t32f1), (.string t32f2)])] (fun v_2 h3 => ∃ (t33 : Int), v_2 = (.int .i64 t33) ∧
 let t34 : Bool := decide (t33 < 0)
 let t35 : Bool := (!t34)
 br t35 (
 let t38 : Int := IntKind.i64.wrap (i9 + 1)
 L2 data0 data0n data0c a1 b2 cmp3 t38 j10 K h3) (
 K (.exit 2) (X2 data0 data0n data0c a1 b2 cmp3 i9 j10) h3)) h2) h1) h) (
 K (.exit 2) (X2 data0 data0n data0c a1 b2 cmp3 i9 j10) h)) : L2 data0 data0n data0c a1 b2 cmp3 i9 j10 K h := by unfold L2; exact Lp.of_txt (an 7456) 1551 (by kernel_rfl) H
theorem L2_X2 {K : EP} {data0 : OA} {data0n data0c : Nat} {a1 b2 : Int} {cmp3 : Value} {i9 j10 : Int} {h : Heap} (H :
 let t41 : Bool := (i9 == b2)
 br t41 (
 K .ret (Xret true) h) (
 let t44 : Int := IntKind.i64.wrap (b2 - a1)
 let t45 : Bool := decide (t44 < 50)
 br t45 (
 K .ret (Xret false) h) (
 let t50 : Int := IntKind.i64.wrap (i9 - 1)
 let t53 : Int := IntKind.i64.wrap (i9 - 1)
 hwp PP (Instr.indexAt T_sl_api_Key (.slice data0 data0n data0c) (.int .i64 t53)) (fun v h1 => ∃ (t54 : Addr), v = (.pointer (some t54)) ∧
 ∃ (t55f0 t55f1 t55f2 : ByteArray), rdCells h1 t54 0 [(.string t55f0), (.string t55f1), (.string t55f2)] ∧
 hwp PP (Instr.indexAt T_sl_api_Key (.slice data0 data0n data0c) (.int .i64 i9)) (fun v_1 h2 => ∃ (t58 : Addr), v_1 = (.pointer (some t58)) ∧
 ∃ (t59f0 t59f1 t59f2 : ByteArray), rdCells h2 t58 0 [(.string t59f0), (.string t59f1), (.string t59f2)] ∧
 hwp PP (Instr.indexAt T_sl_api_Key (.slice data0 data0n data0c) (.int .i64 i9)) (fun v_2 h3 => ∃ (t60 : Addr), v_2 = (.pointer (some t60)) ∧
 wrCells t60 0 [(.string t55f0), (.string t55f1), (.string t55f2)] (fun h4 =>
 hwp PP (Instr.indexAt T_sl_api_Key (.slice data0 data0n data0c) (.int .i64 t50)) (fun v_3 h5 => ∃ (t61 : Addr), v_3 = (.pointer (some t61)) ∧
 wrCells t61 0 [(.string t59f0), (.string t59f1), (.string t59f2)] (fun h6 =>
 let t64 : Int := IntKind.i64.wrap (i9 - a1)
 let t65 : Bool := decide (t64 ≥ 2)
 br t65 (
 let t67 : Int := IntKind.i64.wrap (i9 - 1)
 L3 data0 data0n data0c a1 b2 cmp3 i9 j10 t67 (K5 K) h6) (
 J1 data0 data0n data0c a1 b2 cmp3 i9 j10 K h6)) h5) h4) h3) h2) h1) h))) : (K2 K) (.exit 2) (X2 data0 data0n data0c a1 b2 cmp3 i9 j10) h := of_eq_txt (by kernel_rfl) H
theorem J1_of {data0 : OA} {data0n data0c : Nat} {a1 b2 : Int} {cmp3 : Value} {i9 j10 : Int} {K : EP} {h : Heap} (H :
 let t103 : Int := IntKind.i64.wrap (b2 - i9)
 let t104 : Bool := decide (t103 ≥ 2)
 br t104 (
 let t106 : Int := IntKind.i64.wrap (i9 + 1)
 L4 data0 data0n data0c a1 b2 cmp3 i9 j10 t106 (K7 K) h) (
 J2 data0 data0n data0c a1 b2 cmp3 i9 j10 K h)) : J1 data0 data0n data0c a1 b2 cmp3 i9 j10 K h := by unfold J1; exact Jn.of_txt (an 29855) (by kernel_rfl) H
theorem L1_Xret {Q : VP} {t8 : Bool} {h : Heap} (H :
 Q (.bool t8) h) : (K1 Q) .ret (Xret t8) h := of_eq_txt (by kernel_rfl) H
theorem L3_of {data0 : OA} {data0n data0c : Nat} {a1 b2 : Int} {cmp3 : Value} {i9 j10 j11 : Int} {K : EP} {h : Heap} (H :
 let t69 : Bool := decide (j11 ≥ 1)
 br t69 (
 hwp PP (Instr.indexAt T_sl_api_Key (.slice data0 data0n data0c) (.int .i64 j11)) (fun v h1 => ∃ (t75 : Addr), v = (.pointer (some t75)) ∧
 ∃ (t76f0 t76f1 t76f2 : ByteArray), rdCells h1 t75 0 [(.string t76f0), (.string t76f1), (.string t76f2)] ∧
 let t79 : Int := IntKind.i64.wrap (j11 - 1)
 hwp PP (Instr.indexAt T_sl_api_Key (.slice data0 data0n data0c) (.int .i64 t79)) (fun v_1 h2 => ∃ (t80 : Addr), v_1 = (.pointer (some t80)) ∧
 ∃ (t81f0 t81f1 t81f2 : ByteArray), rdCells h2 t80 0 [(.string t81f0), (.string t81f1), (.string t81f2)] ∧
 callV PP cmp3 [(.agg #[(.string t76f0), (.string t76f1), (.string t76f2)]), (.agg #[(.string t81f0), (.string t81f1), (.string t81f2)])] (fun v_2 h3 => ∃ (t82 : Int), v_2 = (.int .i64 t82) ∧
 let t83 : Bool := decide (t82 < 0)
 let t84 : Bool := (!t83)
 br t84 (
 K (.exit 4) (X4 data0 data0n data0c a1 b2 cmp3 i9 j10) h3) (
 let t89 : Int := IntKind.i64.wrap (j11 - 1)
 let t92 : Int := IntKind.i64.wrap (j11 - 1)
 hwp PP (Instr.indexAt T_sl_api_Key (.slice data0 data0n data0c) (.int .i64 t92)) (fun v_3 h4 => ∃ (t93 : Addr), v_3 = (.pointer (some t93)) ∧
 ∃ (t94f0 t94f1 t94f2 : ByteArray), rdCells h4 t93 0 [(.string t94f0), (.string t94f1), (.string t94f2)] ∧
 hwp PP (Instr.indexAt T_sl_api_Key (.slice data0 data0n data0c) (.int .i64 j11)) (fun v_4 h5 => ∃ (t97 : Addr), v_4 = (.pointer (some t97)) ∧
 ∃ (t98f0 t98f1 t98f2 : ByteArray), rdCells h5 t97 0 [(.string t98f0), (.string t98f1), (.string t98f2)] ∧
 hwp PP (Instr.indexAt T_sl_api_Key (.slice data0 data0n data0c) (.int .i64 j11)) (fun v_5 h6 => ∃ (t99 : Addr), v_5 = (.pointer (some t99)) ∧
 wrCells t99 0 [(.string t94f0), (.string t94f1), (.string t94f2)] (fun h7 =>
 hwp PP (Instr.indexAt T_sl_api_Key (.slice data0 data0n data0c) (.int .i64 t89)) (fun v_6 h8 => ∃ (t100 : Addr), v_6 = (.pointer (some t100)) ∧
 wrCells t100 0 [(.string t98f0), (.string t98f1), (.string t98f2)] (fun h9 =>
 let t71 : Int := IntKind.i64.wrap (j11 - 1)
 L3 data0 data0n data0c a1 b2 cmp3 i9 j10 t71 K h9) h8) h7) h6) h5) h4) h3)) h2) h1) h) (
 K (.exit 4) (X4 data0 data0n data0c a1 b2 cmp3 i9 j10) h)) : L3 data0 data0n data0c a1 b2 cmp3 i9 j10 j11 K h := by unfold L3; exact Lp.of_txt (an 955348) 3599 (by kernel_rfl) H
theorem L3_X4 {K : EP} {data0 : OA} {data0n data0c : Nat} {a1 b2 : Int} {cmp3 : Value} {i9 j10 : Int} {h : Heap} (H :
 J1 data0 data0n data0c a1 b2 cmp3 i9 j10 K h) : (K5 K) (.exit 4) (X4 data0 data0n data0c a1 b2 cmp3 i9 j10) h := of_eq_txt (by kernel_rfl) H
theorem L4_of {data0 : OA} {data0n data0c : Nat} {a1 b2 : Int} {cmp3 : Value} {i9 j10 j12 : Int} {K : EP} {h : Heap} (H :
 let t109 : Bool := decide (j12 < b2)
 br t109 (
 hwp PP (Instr.indexAt T_sl_api_Key (.slice data0 data0n data0c) (.int .i64 j12)) (fun v h1 => ∃ (t115 : Addr), v = (.pointer (some t115)) ∧
 ∃ (t116f0 t116f1 t116f2 : ByteArray), rdCells h1 t115 0 [(.string t116f0), (.string t116f1), (.string t116f2)] ∧
 let t119 : Int := IntKind.i64.wrap (j12 - 1)
 hwp PP (Instr.indexAt T_sl_api_Key (.slice data0 data0n data0c) (.int .i64 t119)) (fun v_1 h2 => ∃ (t120 : Addr), v_1 = (.pointer (some t120)) ∧
 ∃ (t121f0 t121f1 t121f2 : ByteArray), rdCells h2 t120 0 [(.string t121f0), (.string t121f1), (.string t121f2)] ∧
 callV PP cmp3 [(.agg #[(.string t116f0), (.string t116f1), (.string t116f2)]), (.agg #[(.string t121f0), (.string t121f1), (.string t121f2)])] (fun v_2 h3 => ∃ (t122 : Int), v_2 = (.int .i64 t122) ∧
 let t123 : Bool := decide (t122 < 0)
 let t124 : Bool := (!t123)
 br t124 (
 K (.exit 6) (X6 data0 data0n data0c a1 b2 cmp3 i9 j10) h3) (
 let t129 : Int := IntKind.i64.wrap (j12 - 1)
 let t132 : Int := IntKind.i64.wrap (j12 - 1)
 hwp PP (Instr.indexAt T_sl_api_Key (.slice data0 data0n data0c) (.int .i64 t132)) (fun v_3 h4 => ∃ (t133 : Addr), v_3 = (.pointer (some t133)) ∧
 ∃ (t134f0 t134f1 t134f2 : ByteArray), rdCells h4 t133 0 [(.string t134f0), (.string t134f1), (.string t134f2)] ∧
 hwp PP (Instr.indexAt T_sl_api_Key (.slice data0 data0n data0c) (.int .i64 j12)) (fun v_4 h5 => ∃ (t137 : Addr), v_4 = (.pointer (some t137)) ∧
 ∃ (t138f0 t138f1 t138f2 : ByteArray), rdCells h5 t137 0 [(.string t138f0), (.string t138f1), (.string t138f2)] ∧
 hwp PP (Instr.indexAt T_sl_api_Key (.slice data0 data0n data0c) (.int .i64 j12)) (fun v_5 h6 => ∃ (t139 : Addr), v_5 = (.pointer (some t139)) ∧
 wrCells t139 0 [(.string t134f0), (.string t134f1), (.string t134f2)] (fun h7 =>
 hwp PP (Instr.indexAt T_sl_api_Key (.slice data0 data0n data0c) (.int .i64 t129)) (fun v_6 h8 => ∃ (t140 : Addr), v_6 = (.pointer (some t140)) ∧
 wrCells t140 0 [(.string t138f0), (.string t138f1), (.string t138f2)] (fun h9 =>
 let t111 : Int := IntKind.i64.wrap (j12 + 1)
 L4 data0 data0n data0c a1 b2 cmp3 i9 j10 t111 K h9) h8) h7) h6) h5) h4) h3)) h2) h1) h) (
 K (.exit 6) (X6 data0 data0n data0c a1 b2 cmp3 i9 j10) h)) : L4 data0 data0n data0c a1 b2 cmp3 i9 j10 j12 K h := by unfold L4; exact Lp.of_txt (an 955380) 5647 (by kernel_rfl) H
theorem L4_X6 {K : EP} {data0 : OA} {data0n data0c : Nat} {a1 b2 : Int} {cmp3 : Value} {i9 j10 : Int} {h : Heap} (H :
 J2 data0 data0n data0c a1 b2 cmp3 i9 j10 K h) : (K7 K) (.exit 6) (X6 data0 data0n data0c a1 b2 cmp3 i9 j10) h := of_eq_txt (by kernel_rfl) H
theorem J2_of {data0 : OA} {data0n data0c : Nat} {a1 b2 : Int} {cmp3 : Value} {i9 j10 : Int} {K : EP} {h : Heap} (H :
 let t18 : Int := IntKind.i64.wrap (j10 + 1)
 L1 data0 data0n data0c a1 b2 cmp3 i9 t18 K h) : J2 data0 data0n data0c a1 b2 cmp3 i9 j10 K h := by unfold J2; exact Jn.of_txt (an 467) (by kernel_rfl) H
theorem door {data0 : OA} {data0n data0c : Nat} {a1 b2 : Int} {cmp3 : Value} {Q : VP} {h : Heap} (H :
 let t14 : Int := IntKind.i64.wrap (a1 + 1)
 L1 data0 data0n data0c a1 b2 cmp3 t14 0 (K1 Q) h) : SpecH PP F_slices_partialInsertionSortCmpFunc_api_Key [(.slice data0 data0n data0c), (.int .i64 a1), (.int .i64 b2), cmp3] h Q :=
   spec_of_txt (ann := ann) Try.func54 rfl rfl (by kernel_rfl) H
end slices_partialInsertionSortCmpFunc_api_Key
/-! ### slices.partitionEqualCmpFunc[haversack/api.Key]: function 55 -/
namespace slices_partitionEqualCmpFunc_api_Key
def ann : Ann := (.seq 31 (.region [(List.range 1, 31)]) (.seq 23 (.region [(List.range 16, 23)]) (.seq 6163 (.region [(List.range 6, 6163)]) (.seq 2048 (.block (.loop 6163 (.block (.seq 6163 (.block (.loop 6163 (.seq 6163 (.seq 140737488361491 (.region [(List.range 17, 140737488361491)]) (.cond .leaf (.exit 6163))) (.block (.region [(List.range 3, 6163)]))))) (.seq 6163 (.block (.loop 6163 (.seq 6163 (.seq 36893488147419109395 (.region [(List.range 16, 36893488147419109395)]) (.cond .leaf (.exit 6163))) (.block (.region [(List.range 3, 6163)]))))) (.seq 6163 (.seq 1180591620717411309587 (.region [(List.range 3, 1180591620717411309587)]) (.cond (.exit 2048) .leaf)) (.seq 6163 (.region [(List.range 16, 6163)]) (.seq 6163 (.region [(List.range 3, 6163)]) (.region [(List.range 3, 6163)]))))))))) (.seq 1024 (.region [(List.range 2, 1024)]) (.exit 1024))))))
noncomputable abbrev cd (n : Nat) : Code := sub (bodyOf Try.f55) (pth n)
abbrev an (n : Nat) : Ann := subA ann (pth n)
@[irreducible] def X2 (data0 : OA) (data0n data0c : Nat) (a1 : Int) (cmp4 : Value) (i11 j12 : Int) : Fr := (mkFr 0 90 [(0, (.slice data0 data0n data0c)), (1, (.int .i64 a1)), (4, cmp4), (11, (.int .i64 i11)), (12, (.int .i64 j12))])
@[irreducible] def X4 (data0 : OA) (data0n data0c : Nat) (a1 : Int) (cmp4 : Value) (i11 j12 : Int) : Fr := (mkFr 0 90 [(0, (.slice data0 data0n data0c)), (1, (.int .i64 a1)), (4, cmp4), (11, (.int .i64 i11)), (12, (.int .i64 j12))])
@[irreducible] def X0 (i11 : Int) : Fr := (mkFr 0 90 [(11, (.int .i64 i11))])
@[irreducible] def L1 (data0 : OA) (data0n data0c : Nat) (a1 : Int) (cmp4 : Value) (i11 j12 : Int) (K : EP) (h : Heap) : Prop := Lp PP true (cd 120) (mkFr 0 90 [(0, (.slice data0 data0n data0c)), (1, (.int .i64 a1)), (4, cmp4), (11, (.int .i64 i11)), (12, (.int .i64 j12))]) K h
@[irreducible] def B1 (K : EP) : EP := seqK (fun fr h => Lp PP true (cd 120) (fr.mask 6163) K h) K
@[irreducible] def K3 (Q : VP) : EP := seqK (fun fr h => ev PP true none (cd 31) (an 31) (fr.mask 2048) (bodyK PP Try.f55 Q) h) (bodyK PP Try.f55 Q)
@[irreducible] def K1 (Q : VP) : EP := blockK 0 (K3 Q)
@[irreducible] def K6 (K : EP) : EP := blockK 1 (B1 K)
@[irreducible] def K4 (K : EP) : EP := seqK (fun fr h => ev PP true none (cd 481) (an 481) (fr.mask 6163) (K6 K) h) (K6 K)
@[irreducible] def K2 (K : EP) : EP := blockK 2 (K4 K)
@[irreducible] def L2 (data0 : OA) (data0n data0c : Nat) (a1 : Int) (cmp4 : Value) (i11 j12 : Int) (K : EP) (h : Heap) : Prop := Lp PP true (cd 1920) (mkFr 0 90 [(0, (.slice data0 data0n data0c)), (1, (.int .i64 a1)), (4, cmp4), (11, (.int .i64 i11)), (12, (.int .i64 j12))]) K h
@[irreducible] def B2 (K : EP) : EP := seqK (fun fr h => Lp PP true (cd 1920) (fr.mask 6163) K h) K
@[irreducible] def K7 (K : EP) : EP := seqK (fun fr h => ev PP true none (cd 963) (an 963) (fr.mask 6163) (K6 K) h) (K6 K)
@[irreducible] def K5 (K : EP) : EP := blockK 4 (K7 K)
@[irreducible] def L3 (data0 : OA) (data0n data0c : Nat) (a1 : Int) (cmp4 : Value) (i11 j12 : Int) (K : EP) (h : Heap) : Prop := Lp PP true (cd 3848) (mkFr 0 90 [(0, (.slice data0 data0n data0c)), (1, (.int .i64 a1)), (4, cmp4), (11, (.int .i64 i11)), (12, (.int .i64 j12))]) K h
@[irreducible] def B3 (K : EP) : EP := seqK (fun fr h => Lp PP true (cd 3848) (fr.mask 6163) K h) K
theorem L1_of {data0 : OA} {data0n data0c : Nat} {a1 : Int} {cmp4 : Value} {i11 j12 : Int} {K : EP} {h : Heap} (H :
 L2 data0 data0n data0c a1 cmp4 i11 j12 (K2 K) h) : L1 data0 data0n data0c a1 cmp4 i11 j12 K h := by unfold L1; exact Lp.of_txt (an 120) 6163 (by kernel_rfl) H
theorem L2_of {data0 : OA} {data0n data0c : Nat} {a1 : Int} {cmp4 : Value} {i11 j12 : Int} {K : EP} {h : Heap} (H :
 let t33 : Bool := decide (i11 ≤ j12)
 br t33 (
 hwp PP (Instr.indexAt T_sl_api_Key (.slice data0 data0n data0c) (.int .i64 a1)) (fun v h1 => ∃ (t38 : Addr), v = (.pointer (some t38)) ∧
 ∃ (t39f0 t39f1 t39f2 : ByteArray), rdCells h1 t38 0 [(.string t39f0), (.string t39f1), (.string t39f2)] ∧
 hwp PP (Instr.indexAt T_sl_api_Key (.slice data0 data0n data0c) (.int .i64 i11)) (fun v_1 h2 => ∃ (t42 : Addr), v_1 = (.pointer (some t42)) ∧
 ∃ (t43f0 t43f1 t43f2 : ByteArray), rdCells h2 t42 0 [(.string t43f0), (.string t43f1), (.string t43f2)] ∧
 callV PP cmp4 [(.agg #[(.string t39f0), (.string t39f1), (.string t39f2)]), (.agg #[(.string t43f0), (.string t43f1), (.string t43f2)])] (fun v_2 h3 => ∃ (t44 : Int), v_2 = (.int .i64 t44) ∧
 let t45 : Bool := decide (t44 < 0)
 let t46 : Bool := (!t45)
 br t46 (
 let t49 : Int := IntKind.i64.wrap (i11 + 1)
 L2 data0 data0n data0c a1 cmp4 t49 j12 K h3) (
 K (.exit 2) (X2 data0 data0n data0c a1 cmp4 i11 j12) h3)) h2) h1) h) (
 K (.exit 2) (X2 data0 data0n data0c a1 cmp4 i11 j12) h)) : L2 data0 data0n data0c a1 cmp4 i11 j12 K h := by unfold L2; exact Lp.of_txt (an 1920) 6163 (by kernel_rfl) H
theorem L2_X2 {K : EP} {data0 : OA} {data0n data0c : Nat} {a1 : Int} {cmp4 : Value} {i11 j12 : Int} {h : Heap} (H :
 L3 data0 data0n data0c a1 cmp4 i11 j12 (K5 K) h) : (K2 K) (.exit 2) (X2 data0 data0n data0c a1 cmp4 i11 j12) h := of_eq_txt (by kernel_rfl) H
theorem L3_of {data0 : OA} {data0n data0c : Nat} {a1 : Int} {cmp4 : Value} {i11 j12 : Int} {K : EP} {h : Heap} (H :
 let t52 : Bool := decide (i11 ≤ j12)
 br t52 (
 hwp PP (Instr.indexAt T_sl_api_Key (.slice data0 data0n data0c) (.int .i64 a1)) (fun v h1 => ∃ (t57 : Addr), v = (.pointer (some t57)) ∧
 ∃ (t58f0 t58f1 t58f2 : ByteArray), rdCells h1 t57 0 [(.string t58f0), (.string t58f1), (.string t58f2)] ∧
 hwp PP (Instr.indexAt T_sl_api_Key (.slice data0 data0n data0c) (.int .i64 j12)) (fun v_1 h2 => ∃ (t61 : Addr), v_1 = (.pointer (some t61)) ∧
 ∃ (t62f0 t62f1 t62f2 : ByteArray), rdCells h2 t61 0 [(.string t62f0), (.string t62f1), (.string t62f2)] ∧
 callV PP cmp4 [(.agg #[(.string t58f0), (.string t58f1), (.string t58f2)]), (.agg #[(.string t62f0), (.string t62f1), (.string t62f2)])] (fun v_2 h3 => ∃ (t63 : Int), v_2 = (.int .i64 t63) ∧
 let t64 : Bool := decide (t63 < 0)
 br t64 (
 let t67 : Int := IntKind.i64.wrap (j12 - 1)
 L3 data0 data0n data0c a1 cmp4 i11 t67 K h3) (
 K (.exit 4) (X4 data0 data0n data0c a1 cmp4 i11 j12) h3)) h2) h1) h) (
 K (.exit 4) (X4 data0 data0n data0c a1 cmp4 i11 j12) h)) : L3 data0 data0n data0c a1 cmp4 i11 j12 K h := by unfold L3; exact Lp.of_txt (an 3848) 6163 (by kernel_rfl) H
theorem L3_X4 {K : EP} {data0 : OA} {data0n data0c : Nat} {a1 : Int} {cmp4 : Value} {i11 j12 : Int} {h : Heap} (H :
 let t70 : Bool := decide (i11 > j12)
 br t70 (
 K (.exit 0) (X0 i11) h) (
 hwp PP (Instr.indexAt T_sl_api_Key (.slice data0 data0n data0c) (.int .i64 j12)) (fun v h1 => ∃ (t77 : Addr), v = (.pointer (some t77)) ∧
 ∃ (t78f0 t78f1 t78f2 : ByteArray), rdCells h1 t77 0 [(.string t78f0), (.string t78f1), (.string t78f2)] ∧
 hwp PP (Instr.indexAt T_sl_api_Key (.slice data0 data0n data0c) (.int .i64 i11)) (fun v_1 h2 => ∃ (t81 : Addr), v_1 = (.pointer (some t81)) ∧
 ∃ (t82f0 t82f1 t82f2 : ByteArray), rdCells h2 t81 0 [(.string t82f0), (.string t82f1), (.string t82f2)] ∧
 hwp PP (Instr.indexAt T_sl_api_Key (.slice data0 data0n data0c) (.int .i64 i11)) (fun v_2 h3 => ∃ (t83 : Addr), v_2 = (.pointer (some t83)) ∧
 wrCells t83 0 [(.string t78f0), (.string t78f1), (.string t78f2)] (fun h4 =>
 hwp PP (Instr.indexAt T_sl_api_Key (.slice data0 data0n data0c) (.int .i64 j12)) (fun v_3 h5 => ∃ (t84 : Addr), v_3 = (.pointer (some t84)) ∧
 wrCells t84 0 [(.string t82f0), (.string t82f1), (.string t82f2)] (fun h6 =>
 let t86 : Int := IntKind.i64.wrap (i11 + 1)
 let t88 : Int := IntKind.i64.wrap (j12 - 1)
 L1 data0 data0n data0c a1 cmp4 t86 t88 K h6) h5) h4) h3) h2) h1) h)) : (K5 K) (.exit 4) (X4 data0 data0n data0c a1 cmp4 i11 j12) h := of_eq_txt (by kernel_rfl) H
theorem L1_X0 {Q : VP} {i11 : Int} {h : Heap} (H :
 Q (.int .i64 i11) h) : (K1 Q) (.exit 0) (X0 i11) h := of_eq_txt (by kernel_rfl) H
theorem door {data0 : OA} {data0n data0c : Nat} {a1 b2 pivot3 : Int} {cmp4 : Value} {Q : VP} {h : Heap} (H :
 hwp PP (Instr.indexAt T_sl_api_Key (.slice data0 data0n data0c) (.int .i64 pivot3)) (fun v h1 => ∃ (t19 : Addr), v = (.pointer (some t19)) ∧
 ∃ (t20f0 t20f1 t20f2 : ByteArray), rdCells h1 t19 0 [(.string t20f0), (.string t20f1), (.string t20f2)] ∧
 hwp PP (Instr.indexAt T_sl_api_Key (.slice data0 data0n data0c) (.int .i64 a1)) (fun v_1 h2 => ∃ (t23 : Addr), v_1 = (.pointer (some t23)) ∧
 ∃ (t24f0 t24f1 t24f2 : ByteArray), rdCells h2 t23 0 [(.string t24f0), (.string t24f1), (.string t24f2)] ∧
 hwp PP (Instr.indexAt T_sl_api_Key (.slice data0 data0n data0c) (.int .i64 a1)) (fun v_2 h3 => ∃ (t25 : Addr), v_2 = (.pointer (some t25)) ∧
 wrCells t25 0 [(.string t20f0), (.string t20f1), (.string t20f2)] (fun h4 =>
 hwp PP (Instr.indexAt T_sl_api_Key (.slice data0 data0n data0c) (.int .i64 pivot3)) (fun v_3 h5 => ∃ (t26 : Addr), v_3 = (.pointer (some t26)) ∧
 wrCells t26 0 [(.string t24f0), (.string t24f1), (.string t24f2)] (fun h6 =>
 let t28 : Int := IntKind.i64.wrap (a1 + 1)
 let t30 : Int := IntKind.i64.wrap (b2 - 1)
 L1 data0 data0n data0c a1 cmp4 t28 t30 (K1 Q) h6) h5) h4) h3) h2) h1) h) : SpecH PP F_slices_partitionEqualCmpFunc_api_Key [(.slice data0 data0n data0c), (.int .i64 a1), (.int .i64 b2), (.int .i64 pivot3), cmp4] h Q :=
   spec_of_txt (ann := ann) Try.func55 rfl rfl (by kernel_rfl) H
end slices_partitionEqualCmpFunc_api_Key
/-! ### slices.partitionCmpFunc[haversack/api.Key]: function 56 -/
namespace slices_partitionCmpFunc_api_Key
def ann : Ann := (.seq 31 (.region [(List.range 2, 31)]) (.seq 23 (.region [(List.range 16, 23)]) (.seq 12307 (.region [(List.range 6, 12307)]) (.seq 12307 (.block (.loop 12307 (.seq 12307 (.seq 140737488367635 (.region [(List.range 16, 140737488367635)]) (.cond .leaf (.exit 12307))) (.block (.region [(List.range 3, 12307)]))))) (.seq 12307 (.block (.loop 12307 (.seq 12307 (.seq 73786976294838218771 (.region [(List.range 17, 73786976294838218771)]) (.cond .leaf (.exit 12307))) (.block (.region [(List.range 3, 12307)]))))) (.seq 12307 (.seq 2361183241434822619155 (.region [(List.range 3, 2361183241434822619155)]) (.cond (.seq 8192 (.region [(List.range 16, 8192)]) (.seq 3072 (.region [(List.range 3, 3072)]) (.exit 3072))) .leaf)) (.seq 12307 (.region [(List.range 16, 12307)]) (.seq 12307 (.region [(List.range 3, 12307)]) (.seq 12307 (.region [(List.range 3, 12307)]) (.seq 8195 (.block (.loop 12307 (.block (.seq 12307 (.block (.loop 12307 (.seq 12307 (.seq 1329227995784915872903807060280356883 (.region [(List.range 16, 1329227995784915872903807060280356883)]) (.cond .leaf (.exit 12307))) (.block (.region [(List.range 3, 12307)]))))) (.seq 12307 (.block (.loop 12307 (.seq 12307 (.seq 696898287454081973172991196020261297074195 (.region [(List.range 17, 696898287454081973172991196020261297074195)]) (.cond .leaf (.exit 12307))) (.block (.region [(List.range 3, 12307)]))))) (.seq 12307 (.seq 22300745198530623141535718272648361505992723 (.region [(List.range 3, 22300745198530623141535718272648361505992723)]) (.cond (.exit 8195) .leaf)) (.seq 12307 (.region [(List.range 16, 12307)]) (.seq 12307 (.region [(List.range 3, 12307)]) (.region [(List.range 3, 12307)]))))))))) (.seq 8192 (.region [(List.range 16, 8192)]) (.seq 3072 (.region [(List.range 3, 3072)]) (.exit 3072)))))))))))))
noncomputable abbrev cd (n : Nat) : Code := sub (bodyOf Try.f56) (pth n)
abbrev an (n : Nat) : Ann := subA ann (pth n)
@[irreducible] def X0 (data0 : OA) (data0n data0c : Nat) (a1 : Int) (cmp4 : Value) (i12 j13 : Int) : Fr := (mkFr 0 178 [(0, (.slice data0 data0n data0c)), (1, (.int .i64 a1)), (4, cmp4), (12, (.int .i64 i12)), (13, (.int .i64 j13))])
@[irreducible] def X2 (data0 : OA) (data0n data0c : Nat) (a1 : Int) (cmp4 : Value) (i12 j13 : Int) : Fr := (mkFr 0 178 [(0, (.slice data0 data0n data0c)), (1, (.int .i64 a1)), (4, cmp4), (12, (.int .i64 i12)), (13, (.int .i64 j13))])
@[irreducible] def X6 (data0 : OA) (data0n data0c : Nat) (a1 : Int) (cmp4 : Value) (i12 j13 : Int) : Fr := (mkFr 0 178 [(0, (.slice data0 data0n data0c)), (1, (.int .i64 a1)), (4, cmp4), (12, (.int .i64 i12)), (13, (.int .i64 j13))])
@[irreducible] def X8 (data0 : OA) (data0n data0c : Nat) (a1 : Int) (cmp4 : Value) (i12 j13 : Int) : Fr := (mkFr 0 178 [(0, (.slice data0 data0n data0c)), (1, (.int .i64 a1)), (4, cmp4), (12, (.int .i64 i12)), (13, (.int .i64 j13))])
@[irreducible] def X4 (data0 : OA) (data0n data0c : Nat) (a1 j13 : Int) : Fr := (mkFr 0 178 [(0, (.slice data0 data0n data0c)), (1, (.int .i64 a1)), (13, (.int .i64 j13))])
@[irreducible] def L1 (data0 : OA) (data0n data0c : Nat) (a1 : Int) (cmp4 : Value) (i12 j13 : Int) (K : EP) (h : Heap) : Prop := Lp PP true (cd 120) (mkFr 0 178 [(0, (.slice data0 data0n data0c)), (1, (.int .i64 a1)), (4, cmp4), (12, (.int .i64 i12)), (13, (.int .i64 j13))]) K h
@[irreducible] def B1 (K : EP) : EP := seqK (fun fr h => Lp PP true (cd 120) (fr.mask 12307) K h) K
@[irreducible] def K3 (Q : VP) : EP := seqK (fun fr h => ev PP true none (cd 31) (an 31) (fr.mask 12307) (bodyK PP Try.f56 Q) h) (bodyK PP Try.f56 Q)
@[irreducible] def K1 (Q : VP) : EP := blockK 0 (K3 Q)
@[irreducible] def K4 (Q : VP) : EP := seqK (fun fr h => ev PP true none (cd 63) (an 63) (fr.mask 12307) (bodyK PP Try.f56 Q) h) (bodyK PP Try.f56 Q)
@[irreducible] def K2 (Q : VP) : EP := blockK 2 (K4 Q)
@[irreducible] def L2 (data0 : OA) (data0n data0c : Nat) (a1 : Int) (cmp4 : Value) (i12 j13 : Int) (K : EP) (h : Heap) : Prop := Lp PP true (cd 248) (mkFr 0 178 [(0, (.slice data0 data0n data0c)), (1, (.int .i64 a1)), (4, cmp4), (12, (.int .i64 i12)), (13, (.int .i64 j13))]) K h
@[irreducible] def B2 (K : EP) : EP := seqK (fun fr h => Lp PP true (cd 248) (fr.mask 12307) K h) K
@[irreducible] def K6 (Q : VP) : EP := seqK (fun fr h => ev PP true none (cd 2047) (an 2047) (fr.mask 8195) (bodyK PP Try.f56 Q) h) (bodyK PP Try.f56 Q)
@[irreducible] def K5 (Q : VP) : EP := blockK 4 (K6 Q)
@[irreducible] def L3 (data0 : OA) (data0n data0c : Nat) (a1 : Int) (cmp4 : Value) (i12 j13 : Int) (K : EP) (h : Heap) : Prop := Lp PP true (cd 8184) (mkFr 0 178 [(0, (.slice data0 data0n data0c)), (1, (.int .i64 a1)), (4, cmp4), (12, (.int .i64 i12)), (13, (.int .i64 j13))]) K h
@[irreducible] def B3 (K : EP) : EP := seqK (fun fr h => Lp PP true (cd 8184) (fr.mask 12307) K h) K
@[irreducible] def K10 (K : EP) : EP := blockK 5 (B3 K)
@[irreducible] def K8 (K : EP) : EP := seqK (fun fr h => ev PP true none (cd 32737) (an 32737) (fr.mask 12307) (K10 K) h) (K10 K)
@[irreducible] def K7 (K : EP) : EP := blockK 6 (K8 K)
@[irreducible] def L4 (data0 : OA) (data0n data0c : Nat) (a1 : Int) (cmp4 : Value) (i12 j13 : Int) (K : EP) (h : Heap) : Prop := Lp PP true (cd 130944) (mkFr 0 178 [(0, (.slice data0 data0n data0c)), (1, (.int .i64 a1)), (4, cmp4), (12, (.int .i64 i12)), (13, (.int .i64 j13))]) K h
@[irreducible] def B4 (K : EP) : EP := seqK (fun fr h => Lp PP true (cd 130944) (fr.mask 12307) K h) K
@[irreducible] def K11 (K : EP) : EP := seqK (fun fr h => ev PP true none (cd 65475) (an 65475) (fr.mask 12307) (K10 K) h) (K10 K)
@[irreducible] def K9 (K : EP) : EP := blockK 8 (K11 K)
@[irreducible] def L5 (data0 : OA) (data0n data0c : Nat) (a1 : Int) (cmp4 : Value) (i12 j13 : Int) (K : EP) (h : Heap) : Prop := Lp PP true (cd 261896) (mkFr 0 178 [(0, (.slice data0 data0n data0c)), (1, (.int .i64 a1)), (4, cmp4), (12, (.int .i64 i12)), (13, (.int .i64 j13))]) K h
@[irreducible] def B5 (K : EP) : EP := seqK (fun fr h => Lp PP true (cd 261896) (fr.mask 12307) K h) K
theorem L1_of {data0 : OA} {data0n data0c : Nat} {a1 : Int} {cmp4 : Value} {i12 j13 : Int} {K : EP} {h : Heap} (H :
 let t34 : Bool := decide (i12 ≤ j13)
 br t34 (
 hwp PP (Instr.indexAt T_sl_api_Key (.slice data0 data0n data0c) (.int .i64 i12)) (fun v h1 => ∃ (t39 : Addr), v = (.pointer (some t39)) ∧
 ∃ (t40f0 t40f1 t40f2 : ByteArray), rdCells h1 t39 0 [(.string t40f0), (.string t40f1), (.string t40f2)] ∧
 hwp PP (Instr.indexAt T_sl_api_Key (.slice data0 data0n data0c) (.int .i64 a1)) (fun v_1 h2 => ∃ (t43 : Addr), v_1 = (.pointer (some t43)) ∧
 ∃ (t44f0 t44f1 t44f2 : ByteArray), rdCells h2 t43 0 [(.string t44f0), (.string t44f1), (.string t44f2)] ∧
 callV PP cmp4 [(.agg #[(.string t40f0), (.string t40f1), (.string t40f2)]), (.agg #[(.string t44f0), (.string t44f1), (.string t44f2)])] (fun v_2 h3 => ∃ (t45 : Int), v_2 = (.int .i64 t45) ∧
 let t46 : Bool := decide (t45 < 0)
 br t46 (
 let t49 : Int := IntKind.i64.wrap (i12 + 1)
 L1 data0 data0n data0c a1 cmp4 t49 j13 K h3) (
 K (.exit 0) (X0 data0 data0n data0c a1 cmp4 i12 j13) h3)) h2) h1) h) (
 K (.exit 0) (X0 data0 data0n data0c a1 cmp4 i12 j13) h)) : L1 data0 data0n data0c a1 cmp4 i12 j13 K h := by unfold L1; exact Lp.of_txt (an 120) 12307 (by kernel_rfl) H
theorem L1_X0 {Q : VP} {data0 : OA} {data0n data0c : Nat} {a1 : Int} {cmp4 : Value} {i12 j13 : Int} {h : Heap} (H :
 L2 data0 data0n data0c a1 cmp4 i12 j13 (K2 Q) h) : (K1 Q) (.exit 0) (X0 data0 data0n data0c a1 cmp4 i12 j13) h := of_eq_txt (by kernel_rfl) H
theorem L2_of {data0 : OA} {data0n data0c : Nat} {a1 : Int} {cmp4 : Value} {i12 j13 : Int} {K : EP} {h : Heap} (H :
 let t52 : Bool := decide (i12 ≤ j13)
 br t52 (
 hwp PP (Instr.indexAt T_sl_api_Key (.slice data0 data0n data0c) (.int .i64 j13)) (fun v h1 => ∃ (t57 : Addr), v = (.pointer (some t57)) ∧
 ∃ (t58f0 t58f1 t58f2 : ByteArray), rdCells h1 t57 0 [(.string t58f0), (.string t58f1), (.string t58f2)] ∧
 hwp PP (Instr.indexAt T_sl_api_Key (.slice data0 data0n data0c) (.int .i64 a1)) (fun v_1 h2 => ∃ (t61 : Addr), v_1 = (.pointer (some t61)) ∧
 ∃ (t62f0 t62f1 t62f2 : ByteArray), rdCells h2 t61 0 [(.string t62f0), (.string t62f1), (.string t62f2)] ∧
 callV PP cmp4 [(.agg #[(.string t58f0), (.string t58f1), (.string t58f2)]), (.agg #[(.string t62f0), (.string t62f1), (.string t62f2)])] (fun v_2 h3 => ∃ (t63 : Int), v_2 = (.int .i64 t63) ∧
 let t64 : Bool := decide (t63 < 0)
 let t65 : Bool := (!t64)
 br t65 (
 let t68 : Int := IntKind.i64.wrap (j13 - 1)
 L2 data0 data0n data0c a1 cmp4 i12 t68 K h3) (
 K (.exit 2) (X2 data0 data0n data0c a1 cmp4 i12 j13) h3)) h2) h1) h) (
 K (.exit 2) (X2 data0 data0n data0c a1 cmp4 i12 j13) h)) : L2 data0 data0n data0c a1 cmp4 i12 j13 K h := by unfold L2; exact Lp.of_txt (an 248) 12307 (by kernel_rfl) H
theorem L2_X2 {Q : VP} {data0 : OA} {data0n data0c : Nat} {a1 : Int} {cmp4 : Value} {i12 j13 : Int} {h : Heap} (H :
 let t71 : Bool := decide (i12 > j13)
 br t71 (
 hwp PP (Instr.indexAt T_sl_api_Key (.slice data0 data0n data0c) (.int .i64 a1)) (fun v h1 => ∃ (t78 : Addr), v = (.pointer (some t78)) ∧
 ∃ (t79f0 t79f1 t79f2 : ByteArray), rdCells h1 t78 0 [(.string t79f0), (.string t79f1), (.string t79f2)] ∧
 hwp PP (Instr.indexAt T_sl_api_Key (.slice data0 data0n data0c) (.int .i64 j13)) (fun v_1 h2 => ∃ (t82 : Addr), v_1 = (.pointer (some t82)) ∧
 ∃ (t83f0 t83f1 t83f2 : ByteArray), rdCells h2 t82 0 [(.string t83f0), (.string t83f1), (.string t83f2)] ∧
 hwp PP (Instr.indexAt T_sl_api_Key (.slice data0 data0n data0c) (.int .i64 j13)) (fun v_2 h3 => ∃ (t84 : Addr), v_2 = (.pointer (some t84)) ∧
 wrCells t84 0 [(.string t79f0), (.string t79f1), (.string t79f2)] (fun h4 =>
 hwp PP (Instr.indexAt T_sl_api_Key (.slice data0 data0n data0c) (.int .i64 a1)) (fun v_3 h5 => ∃ (t85 : Addr), v_3 = (.pointer (some t85)) ∧
 wrCells t85 0 [(.string t83f0), (.string t83f1), (.string t83f2)] (fun h6 =>
 Q (.tuple #[(.int .i64 j13), (.bool true)]) h6) h5) h4) h3) h2) h1) h) (
 hwp PP (Instr.indexAt T_sl_api_Key (.slice data0 data0n data0c) (.int .i64 j13)) (fun v_4 h7 => ∃ (t93 : Addr), v_4 = (.pointer (some t93)) ∧
 ∃ (t94f0 t94f1 t94f2 : ByteArray), rdCells h7 t93 0 [(.string t94f0), (.string t94f1), (.string t94f2)] ∧
 hwp PP (Instr.indexAt T_sl_api_Key (.slice data0 data0n data0c) (.int .i64 i12)) (fun v_5 h8 => ∃ (t97 : Addr), v_5 = (.pointer (some t97)) ∧
 ∃ (t98f0 t98f1 t98f2 : ByteArray), rdCells h8 t97 0 [(.string t98f0), (.string t98f1), (.string t98f2)] ∧
 hwp PP (Instr.indexAt T_sl_api_Key (.slice data0 data0n data0c) (.int .i64 i12)) (fun v_6 h9 => ∃ (t99 : Addr), v_6 = (.pointer (some t99)) ∧
 wrCells t99 0 [(.string t94f0), (.string t94f1), (.string t94f2)] (fun h10 =>
 hwp PP (Instr.indexAt T_sl_api_Key (.slice data0 data0n data0c) (.int .i64 j13)) (fun v_7 h11 => ∃ (t100 : Addr), v_7 = (.pointer (some t100)) ∧
 wrCells t100 0 [(.string t98f0), (.string t98f1), (.string t98f2)] (fun h12 =>
 let t102 : Int := IntKind.i64.wrap (i12 + 1)
 let t104 : Int := IntKind.i64.wrap (j13 - 1)
 L3 data0 data0n data0c a1 cmp4 t102 t104 (K5 Q) h12) h11) h10) h9) h8) h7) h)) : (K2 Q) (.exit 2) (X2 data0 data0n data0c a1 cmp4 i12 j13) h := of_eq_txt (by kernel_rfl) H
theorem L3_of {data0 : OA} {data0n data0c : Nat} {a1 : Int} {cmp4 : Value} {i12 j13 : Int} {K : EP} {h : Heap} (H :
 L4 data0 data0n data0c a1 cmp4 i12 j13 (K7 K) h) : L3 data0 data0n data0c a1 cmp4 i12 j13 K h := by unfold L3; exact Lp.of_txt (an 8184) 12307 (by kernel_rfl) H
theorem L4_of {data0 : OA} {data0n data0c : Nat} {a1 : Int} {cmp4 : Value} {i12 j13 : Int} {K : EP} {h : Heap} (H :
 let t107 : Bool := decide (i12 ≤ j13)
 br t107 (
 hwp PP (Instr.indexAt T_sl_api_Key (.slice data0 data0n data0c) (.int .i64 i12)) (fun v h1 => ∃ (t112 : Addr), v = (.pointer (some t112)) ∧
 ∃ (t113f0 t113f1 t113f2 : ByteArray), rdCells h1 t112 0 [(.string t113f0), (.string t113f1), (.string t113f2)] ∧
 hwp PP (Instr.indexAt T_sl_api_Key (.slice data0 data0n data0c) (.int .i64 a1)) (fun v_1 h2 => ∃ (t116 : Addr), v_1 = (.pointer (some t116)) ∧
 ∃ (t117f0 t117f1 t117f2 : ByteArray), rdCells h2 t116 0 [(.string t117f0), (.string t117f1), (.string t117f2)] ∧
 callV PP cmp4 [(.agg #[(.string t113f0), (.string t113f1), (.string t113f2)]), (.agg #[(.string t117f0), (.string t117f1), (.string t117f2)])] (fun v_2 h3 => ∃ (t118 : Int), v_2 = (.int .i64 t118) ∧
 let t119 : Bool := decide (t118 < 0)
 br t119 (
 let t122 : Int := IntKind.i64.wrap (i12 + 1)
 L4 data0 data0n data0c a1 cmp4 t122 j13 K h3) (
 K (.exit 6) (X6 data0 data0n data0c a1 cmp4 i12 j13) h3)) h2) h1) h) (
 K (.exit 6) (X6 data0 data0n data0c a1 cmp4 i12 j13) h)) : L4 data0 data0n data0c a1 cmp4 i12 j13 K h := by unfold L4; exact Lp.of_txt (an 130944) 12307 (by kernel_rfl) H
theorem L4_X6 {K : EP} {data0 : OA} {data0n data0c : Nat} {a1 : Int} {cmp4 : Value} {i12 j13 : Int} {h : Heap} (H :
 L5 data0 data0n data0c a1 cmp4 i12 j13 (K9 K) h) : (K7 K) (.exit 6) (X6 data0 data0n data0c a1 cmp4 i12 j13) h := of_eq_txt (by kernel_rfl) H
theorem L5_of {data0 : OA} {data0n data0c : Nat} {a1 : Int} {cmp4 : Value} {i12 j13 : Int} {K : EP} {h : Heap} (H :
 let t125 : Bool := decide (i12 ≤ j13)
 br t125 (
 hwp PP (Instr.indexAt T_sl_api_Key (.slice data0 data0n data0c) (.int .i64 j13)) (fun v h1 => ∃ (t130 : Addr), v = (.pointer (some t130)) ∧
 ∃ (t131f0 t131f1 t131f2 : ByteArray), rdCells h1 t130 0 [(.string t131f0), (.string t131f1), (.string t131f2)] ∧
 hwp PP (Instr.indexAt T_sl_api_Key (.slice data0 data0n data0c) (.int .i64 a1)) (fun v_1 h2 => ∃ (t134 : Addr), v_1 = (.pointer (some t134)) ∧
 ∃ (t135f0 t135f1 t135f2 : ByteArray), rdCells h2 t134 0 [(.string t135f0), (.string t135f1), (.string t135f2)] ∧
 callV PP cmp4 [(.agg #[(.string t131f0), (.string t131f1), (.string t131f2)]), (.agg #[(.string t135f0), (.string t135f1), (.string t135f2)])] (fun v_2 h3 => ∃ (t136 : Int), v_2 = (.int .i64 t136) ∧
 let t137 : Bool := decide (t136 < 0)
 let t138 : Bool := (!t137)
 br t138 (
 let t141 : Int := IntKind.i64.wrap (j13 - 1)
 L5 data0 data0n data0c a1 cmp4 i12 t141 K h3) (
 K (.exit 8) (X8 data0 data0n data0c a1 cmp4 i12 j13) h3)) h2) h1) h) (
 K (.exit 8) (X8 data0 data0n data0c a1 cmp4 i12 j13) h)) : L5 data0 data0n data0c a1 cmp4 i12 j13 K h := by unfold L5; exact Lp.of_txt (an 261896) 12307 (by kernel_rfl) H
theorem L5_X8 {K : EP} {data0 : OA} {data0n data0c : Nat} {a1 : Int} {cmp4 : Value} {i12 j13 : Int} {h : Heap} (H :
 let t144 : Bool := decide (i12 > j13)
 br t144 (
 K (.exit 4) (X4 data0 data0n data0c a1 j13) h) (
 hwp PP (Instr.indexAt T_sl_api_Key (.slice data0 data0n data0c) (.int .i64 j13)) (fun v h1 => ∃ (t151 : Addr), v = (.pointer (some t151)) ∧
 ∃ (t152f0 t152f1 t152f2 : ByteArray), rdCells h1 t151 0 [(.string t152f0), (.string t152f1), (.string t152f2)] ∧
 hwp PP (Instr.indexAt T_sl_api_Key (.slice data0 data0n data0c) (.int .i64 i12)) (fun v_1 h2 => ∃ (t155 : Addr), v_1 = (.pointer (some t155)) ∧
 ∃ (t156f0 t156f1 t156f2 : ByteArray), rdCells h2 t155 0 [(.string t156f0), (.string t156f1), (.string t156f2)] ∧
 hwp PP (Instr.indexAt T_sl_api_Key (.slice data0 data0n data0c) (.int .i64 i12)) (fun v_2 h3 => ∃ (t157 : Addr), v_2 = (.pointer (some t157)) ∧
 wrCells t157 0 [(.string t152f0), (.string t152f1), (.string t152f2)] (fun h4 =>
 hwp PP (Instr.indexAt T_sl_api_Key (.slice data0 data0n data0c) (.int .i64 j13)) (fun v_3 h5 => ∃ (t158 : Addr), v_3 = (.pointer (some t158)) ∧
 wrCells t158 0 [(.string t156f0), (.string t156f1), (.string t156f2)] (fun h6 =>
 let t160 : Int := IntKind.i64.wrap (i12 + 1)
 let t162 : Int := IntKind.i64.wrap (j13 - 1)
 L3 data0 data0n data0c a1 cmp4 t160 t162 K h6) h5) h4) h3) h2) h1) h)) : (K9 K) (.exit 8) (X8 data0 data0n data0c a1 cmp4 i12 j13) h := of_eq_txt (by kernel_rfl) H
theorem L3_X4 {Q : VP} {data0 : OA} {data0n data0c : Nat} {a1 j13 : Int} {h : Heap} (H :
 hwp PP (Instr.indexAt T_sl_api_Key (.slice data0 data0n data0c) (.int .i64 a1)) (fun v h1 => ∃ (t169 : Addr), v = (.pointer (some t169)) ∧
 ∃ (t170f0 t170f1 t170f2 : ByteArray), rdCells h1 t169 0 [(.string t170f0), (.string t170f1), (.string t170f2)] ∧
 hwp PP (Instr.indexAt T_sl_api_Key (.slice data0 data0n data0c) (.int .i64 j13)) (fun v_1 h2 => ∃ (t173 : Addr), v_1 = (.pointer (some t173)) ∧
 ∃ (t174f0 t174f1 t174f2 : ByteArray), rdCells h2 t173 0 [(.string t174f0), (.string t174f1), (.string t174f2)] ∧
 hwp PP (Instr.indexAt T_sl_api_Key (.slice data0 data0n data0c) (.int .i64 j13)) (fun v_2 h3 => ∃ (t175 : Addr), v_2 = (.pointer (some t175)) ∧
 wrCells t175 0 [(.string t170f0), (.string t170f1), (.string t170f2)] (fun h4 =>
 hwp PP (Instr.indexAt T_sl_api_Key (.slice data0 data0n data0c) (.int .i64 a1)) (fun v_3 h5 => ∃ (t176 : Addr), v_3 = (.pointer (some t176)) ∧
 wrCells t176 0 [(.string t174f0), (.string t174f1), (.string t174f2)] (fun h6 =>
 Q (.tuple #[(.int .i64 j13), (.bool false)]) h6) h5) h4) h3) h2) h1) h) : (K5 Q) (.exit 4) (X4 data0 data0n data0c a1 j13) h := of_eq_txt (by kernel_rfl) H
theorem door {data0 : OA} {data0n data0c : Nat} {a1 b2 pivot3 : Int} {cmp4 : Value} {Q : VP} {h : Heap} (H :
 hwp PP (Instr.indexAt T_sl_api_Key (.slice data0 data0n data0c) (.int .i64 pivot3)) (fun v h1 => ∃ (t20 : Addr), v = (.pointer (some t20)) ∧
 ∃ (t21f0 t21f1 t21f2 : ByteArray), rdCells h1 t20 0 [(.string t21f0), (.string t21f1), (.string t21f2)] ∧
 hwp PP (Instr.indexAt T_sl_api_Key (.slice data0 data0n data0c) (.int .i64 a1)) (fun v_1 h2 => ∃ (t24 : Addr), v_1 = (.pointer (some t24)) ∧
 ∃ (t25f0 t25f1 t25f2 : ByteArray), rdCells h2 t24 0 [(.string t25f0), (.string t25f1), (.string t25f2)] ∧
 hwp PP (Instr.indexAt T_sl_api_Key (.slice data0 data0n data0c) (.int .i64 a1)) (fun v_2 h3 => ∃ (t26 : Addr), v_2 = (.pointer (some t26)) ∧
 wrCells t26 0 [(.string t21f0), (.string t21f1), (.string t21f2)] (fun h4 =>
 hwp PP (Instr.indexAt T_sl_api_Key (.slice data0 data0n data0c) (.int .i64 pivot3)) (fun v_3 h5 => ∃ (t27 : Addr), v_3 = (.pointer (some t27)) ∧
 wrCells t27 0 [(.string t25f0), (.string t25f1), (.string t25f2)] (fun h6 =>
 let t29 : Int := IntKind.i64.wrap (a1 + 1)
 let t31 : Int := IntKind.i64.wrap (b2 - 1)
 L1 data0 data0n data0c a1 cmp4 t29 t31 (K1 Q) h6) h5) h4) h3) h2) h1) h) : SpecH PP F_slices_partitionCmpFunc_api_Key [(.slice data0 data0n data0c), (.int .i64 a1), (.int .i64 b2), (.int .i64 pivot3), cmp4] h Q :=
   spec_of_txt (ann := ann) Try.func56 rfl rfl (by kernel_rfl) H
end slices_partitionCmpFunc_api_Key
/-! ### math/bits.Len32: function 57 -/
namespace math_bits_Len32
def ann : Ann := (.seq 5 (.region [(List.range 1, 5)]) (.seq 5 (.seq 21 (.region [(List.range 2, 21)]) (.cond (.seq 1 (.region [(List.range 3, 1)]) (.region [(List.range 1, 5)])) .leaf)) (.join (.seq 5 (.seq 261 (.region [(List.range 2, 261)]) (.cond (.seq 5 (.region [(List.range 3, 5)]) (.region [(List.range 3, 5)])) .leaf)) (.join (.seq 4 (.region [(List.range 7, 4)]) (.exit 4)))))))
noncomputable abbrev cd (n : Nat) : Code := sub (bodyOf Try.f57) (pth n)
abbrev an (n : Nat) : Ann := subA ann (pth n)
@[irreducible] def J1 (x0 xn2 : Int) (Q : VP) (h : Heap) : Prop := Jn PP true (cd 7) (mkFr 0 19 [(0, (.int .u32 x0)), (2, (.int .i64 xn2))]) (bodyK PP Try.f57 Q) h
@[irreducible] def J2 (x0 xn2 : Int) (Q : VP) (h : Heap) : Prop := Jn PP true (cd 15) (mkFr 0 19 [(0, (.int .u32 x0)), (2, (.int .i64 xn2))]) (bodyK PP Try.f57 Q) h
theorem J1_of {x0 xn2 : Int} {Q : VP} {h : Heap} (H :
 let t8 : Bool := decide (x0 ≥ 256)
 br t8 (
 let t10 : Int := sShr .u32 x0 8
 let t12 : Int := IntKind.i64.wrap (xn2 + 8)
 J2 t10 t12 Q h) (
 J2 x0 xn2 Q h)) : J1 x0 xn2 Q h := by unfold J1; exact Jn.of_txt (an 7) (by kernel_rfl) H
theorem J2_of {x0 xn2 : Int} {Q : VP} {h : Heap} (H :
 let t15 : Int := IntKind.u8.wrap x0
 hwp PP (Instr.index T_string (.string (⟨#[0, 1, 2, 2, 3, 3, 3, 3, 4, 4, 4, 4, 4, 4, 4, 4, 5, 5, 5, 5, 5, 5, 5, 5, 5, 5, 5, 5, 5, 5, 5, 5, 6, 6, 6, 6, 6, 6, 6, 6, 6, 6, 6, 6, 6, 6, 6, 6, 6, 6, 6, 6, 6, 6, 6, 6, 6, 6, 6, 6, 6, 6, 6, 6, 7, 7, 7, 7, 7, 7, 7, 7, 7, 7, 7, 7, 7, 7, 7, 7, 7, 7, 7, 7, 7, 7, 7, 7, 7, 7, 7, 7, 7, 7, 7, 7, 7, 7, 7, 7, 7, 7, 7, 7, 7, 7, 7, 7, 7, 7, 7, 7, 7, 7, 7, 7, 7, 7, 7, 7, 7, 7, 7, 7, 7, 7, 7, 7, 8, 8, 8, 8, 8, 8, 8, 8, 8, 8, 8, 8, 8, 8, 8, 8, 8, 8, 8, 8, 8, 8, 8, 8, 8, 8, 8, 8, 8, 8, 8, 8, 8, 8, 8, 8, 8, 8, 8, 8, 8, 8, 8, 8, 8, 8, 8, 8, 8, 8, 8, 8, 8, 8, 8, 8, 8, 8, 8, 8, 8, 8, 8, 8, 8, 8, 8, 8, 8, 8, 8, 8, 8, 8, 8, 8, 8, 8, 8, 8, 8, 8, 8, 8, 8, 8, 8, 8, 8, 8, 8, 8, 8, 8, 8, 8, 8, 8, 8, 8, 8, 8, 8, 8, 8, 8, 8, 8, 8, 8, 8, 8, 8, 8, 8, 8, 8, 8, 8, 8, 8, 8, 8, 8, 8, 8, 8, 8]⟩ : ByteArray)) (.int .u8 t15)) (fun v h1 => ∃ (t16 : Int), v = (.int .u8 t16) ∧
 let t17 : Int := IntKind.i64.wrap t16
 let t18 : Int := IntKind.i64.wrap (xn2 + t17)
 Q (.int .i64 t18) h1) h) : J2 x0 xn2 Q h := by unfold J2; exact Jn.of_txt (an 15) (by kernel_rfl) H
theorem door {x0 : Int} {Q : VP} {h : Heap} (H :
 let t4 : Bool := decide (x0 ≥ 65536)
 br t4 (
 let t6 : Int := sShr .u32 x0 16
 J1 t6 16 Q h) (
 J1 x0 0 Q h)) : SpecH PP F_math_bits_Len32 [(.int .u32 x0)] h Q :=
   spec_of_txt (ann := ann) Try.func57 rfl rfl (by kernel_rfl) H
end math_bits_Len32
/-! ### math/bits.Len64: function 58 -/
namespace math_bits_Len64
def ann : Ann := (.seq 5 (.region [(List.range 1, 5)]) (.seq 5 (.seq 21 (.region [(List.range 2, 21)]) (.cond (.seq 1 (.region [(List.range 3, 1)]) (.region [(List.range 1, 5)])) .leaf)) (.join (.seq 5 (.seq 261 (.region [(List.range 2, 261)]) (.cond (.seq 5 (.region [(List.range 3, 5)]) (.region [(List.range 3, 5)])) .leaf)) (.join (.seq 5 (.seq 16389 (.region [(List.range 2, 16389)]) (.cond (.seq 5 (.region [(List.range 3, 5)]) (.region [(List.range 3, 5)])) .leaf)) (.join (.seq 4 (.region [(List.range 7, 4)]) (.exit 4)))))))))
noncomputable abbrev cd (n : Nat) : Code := sub (bodyOf Try.f58) (pth n)
abbrev an (n : Nat) : Ann := subA ann (pth n)
@[irreducible] def J1 (x0 xn2 : Int) (Q : VP) (h : Heap) : Prop := Jn PP true (cd 7) (mkFr 0 25 [(0, (.int .u64 x0)), (2, (.int .i64 xn2))]) (bodyK PP Try.f58 Q) h
@[irreducible] def J2 (x0 xn2 : Int) (Q : VP) (h : Heap) : Prop := Jn PP true (cd 15) (mkFr 0 25 [(0, (.int .u64 x0)), (2, (.int .i64 xn2))]) (bodyK PP Try.f58 Q) h
@[irreducible] def J3 (x0 xn2 : Int) (Q : VP) (h : Heap) : Prop := Jn PP true (cd 31) (mkFr 0 25 [(0, (.int .u64 x0)), (2, (.int .i64 xn2))]) (bodyK PP Try.f58 Q) h
theorem J1_of {x0 xn2 : Int} {Q : VP} {h : Heap} (H :
 let t8 : Bool := decide (x0 ≥ 65536)
 br t8 (
 let t10 : Int := sShr .u64 x0 16
 let t12 : Int := IntKind.i64.wrap (xn2 + 16)
 J2 t10 t12 Q h) (
 J2 x0 xn2 Q h)) : J1 x0 xn2 Q h := by unfold J1; exact Jn.of_txt (an 7) (by kernel_rfl) H
theorem J2_of {x0 xn2 : Int} {Q : VP} {h : Heap} (H :
 let t14 : Bool := decide (x0 ≥ 256)
 br t14 (
 let t16 : Int := sShr .u64 x0 8
 let t18 : Int := IntKind.i64.wrap (xn2 + 8)
 J3 t16 t18 Q h) (
 J3 x0 xn2 Q h)) : J2 x0 xn2 Q h := by unfold J2; exact Jn.of_txt (an 15) (by kernel_rfl) H
theorem J3_of {x0 xn2 : Int} {Q : VP} {h : Heap} (H :
 let t21 : Int := IntKind.u8.wrap x0
 hwp PP (Instr.index T_string (.string (⟨#[0, 1, 2, 2, 3, 3, 3, 3, 4, 4, 4, 4, 4, 4, 4, 4, 5, 5, 5, 5, 5, 5, 5, 5, 5, 5, 5, 5, 5, 5, 5, 5, 6, 6, 6, 6, 6, 6, 6, 6, 6, 6, 6, 6, 6, 6, 6, 6, 6, 6, 6, 6, 6, 6, 6, 6, 6, 6, 6, 6, 6, 6, 6, 6, 7, 7, 7, 7, 7, 7, 7, 7, 7, 7, 7, 7, 7, 7, 7, 7, 7, 7, 7, 7, 7, 7, 7, 7, 7, 7, 7, 7, 7, 7, 7, 7, 7, 7, 7, 7, 7, 7, 7, 7, 7, 7, 7, 7, 7, 7, 7, 7, 7, 7, 7, 7, 7, 7, 7, 7, 7, 7, 7, 7, 7, 7, 7, 7, 8, 8, 8, 8, 8, 8, 8, 8, 8, 8, 8, 8, 8, 8, 8, 8, 8, 8, 8, 8, 8, 8, 8, 8, 8, 8, 8, 8, 8, 8, 8, 8, 8, 8, 8, 8, 8, 8, 8, 8, 8, 8, 8, 8, 8, 8, 8, 8, 8, 8, 8, 8, 8, 8, 8, 8, 8, 8, 8, 8, 8, 8, 8, 8, 8, 8, 8, 8, 8, 8, 8, 8, 8, 8, 8, 8, 8, 8, 8, 8, 8, 8, 8, 8, 8, 8, 8, 8, 8, 8, 8, 8, 8, 8, 8, 8, 8, 8, 8, 8, 8, 8, 8, 8, 8, 8, 8, 8, 8, 8, 8, 8, 8, 8, 8, 8, 8, 8, 8, 8, 8, 8, 8, 8, 8, 8, 8, 8]⟩ : ByteArray)) (.int .u8 t21)) (fun v h1 => ∃ (t22 : Int), v = (.int .u8 t22) ∧
 let t23 : Int := IntKind.i64.wrap t22
 let t24 : Int := IntKind.i64.wrap (xn2 + t23)
 Q (.int .i64 t24) h1) h) : J3 x0 xn2 Q h := by unfold J3; exact Jn.of_txt (an 31) (by kernel_rfl) H
theorem door {x0 : Int} {Q : VP} {h : Heap} (H :
 let t4 : Bool := decide (x0 ≥ 4294967296)
 br t4 (
 let t6 : Int := sShr .u64 x0 32
 J1 t6 32 Q h) (
 J1 x0 0 Q h)) : SpecH PP F_math_bits_Len64 [(.int .u64 x0)] h Q :=
   spec_of_txt (ann := ann) Try.func58 rfl rfl (by kernel_rfl) H
end math_bits_Len64
/-! ### slices.siftDownCmpFunc[haversack/api.Key]: function 59 -/
namespace slices_siftDownCmpFunc_api_Key
def ann : Ann := (.seq 1053 (.region [(List.range 2, 1053)]) (.block (.loop 1053 (.block (.seq 3101 (.region [(List.range 4, 3101)]) (.seq 3101 (.seq 265245 (.region [(List.range 3, 265245)]) (.cond (.exit 0) .leaf)) (.seq 3101 (.seq 1099511630877 (.region [(List.range 22, 1099511630877)]) (.join (.cond (.region [(List.range 3, 3101)]) .leaf))) (.join (.seq 3101 (.seq 288230376151714845 (.region [(List.range 16, 288230376151714845)]) (.cond (.exit 0) .leaf)) (.seq 2077 (.region [(List.range 24, 2077)]) (.region [(List.range 2, 1053)])))))))))))
noncomputable abbrev cd (n : Nat) : Code := sub (bodyOf Try.f59) (pth n)
abbrev an (n : Nat) : Ann := subA ann (pth n)
@[irreducible] def X0  : Fr := (mkFr 0 82 [])
@[irreducible] def Xret  : Fr := (mkFr 0 82 [])
@[irreducible] def L1 (data0 : OA) (data0n data0c : Nat) (hi2 first3 : Int) (cmp4 : Value) (root10 : Int) (K : EP) (h : Heap) : Prop := Lp PP true (cd 12) (mkFr 0 82 [(0, (.slice data0 data0n data0c)), (2, (.int .i64 hi2)), (3, (.int .i64 first3)), (4, cmp4), (10, (.int .i64 root10))]) K h
@[irreducible] def B1 (K : EP) : EP := seqK (fun fr h => Lp PP true (cd 12) (fr.mask 1053) K h) K
@[irreducible] def K3 (K : EP) : EP := blockK 1 (B1 K)
@[irreducible] def K2 (K : EP) : EP := seqK (fun fr h => Jn PP true (cd 199) (fr.mask 3101) (K3 K) h) (K3 K)
@[irreducible] def J1 (data0 : OA) (data0n data0c : Nat) (hi2 first3 : Int) (cmp4 : Value) (root10 child11 : Int) (t40 : Bool) (K : EP) (h : Heap) : Prop := Jn PP true (cd 397) (mkFr 0 82 [(0, (.slice data0 data0n data0c)), (2, (.int .i64 hi2)), (3, (.int .i64 first3)), (4, cmp4), (10, (.int .i64 root10)), (11, (.int .i64 child11)), (40, (.bool t40))]) (K2 K) h
@[irreducible] def K1 (Q : VP) : EP := blockK 0 (bodyK PP Try.f59 Q)
@[irreducible] def J2 (data0 : OA) (data0n data0c : Nat) (hi2 first3 : Int) (cmp4 : Value) (root10 child11 : Int) (K : EP) (h : Heap) : Prop := Jn PP true (cd 199) (mkFr 0 82 [(0, (.slice data0 data0n data0c)), (2, (.int .i64 hi2)), (3, (.int .i64 first3)), (4, cmp4), (10, (.int .i64 root10)), (11, (.int .i64 child11))]) (K3 K) h
theorem L1_of {data0 : OA} {data0n data0c : Nat} {hi2 first3 : Int} {cmp4 : Value} {root10 : Int} {K : EP} {h : Heap} (H :
 let t14 : Int := IntKind.i64.wrap (2 * root10)
 let t15 : Int := IntKind.i64.wrap (t14 + 1)
 let t18 : Bool := decide (t15 ≥ hi2)
 br t18 (
 K (.exit 0) (X0) h) (
 let t20 : Int := IntKind.i64.wrap (t15 + 1)
 let t22 : Bool := decide (t20 < hi2)
 br t22 (
 let t28 : Int := IntKind.i64.wrap (first3 + t15)
 hwp PP (Instr.indexAt T_sl_api_Key (.slice data0 data0n data0c) (.int .i64 t28)) (fun v h1 => ∃ (t29 : Addr), v = (.pointer (some t29)) ∧
 ∃ (t30f0 t30f1 t30f2 : ByteArray), rdCells h1 t29 0 [(.string t30f0), (.string t30f1), (.string t30f2)] ∧
 let t34 : Int := IntKind.i64.wrap (first3 + t15)
 let t35 : Int := IntKind.i64.wrap (t34 + 1)
 hwp PP (Instr.indexAt T_sl_api_Key (.slice data0 data0n data0c) (.int .i64 t35)) (fun v_1 h2 => ∃ (t36 : Addr), v_1 = (.pointer (some t36)) ∧
 ∃ (t37f0 t37f1 t37f2 : ByteArray), rdCells h2 t36 0 [(.string t37f0), (.string t37f1), (.string t37f2)] ∧
 callV PP cmp4 [(.agg #[(.string t30f0), (.string t30f1), (.string t30f2)]), (.agg #[(.string t37f0), (.string t37f1), (.string t37f2)])] (fun v_2 h3 => ∃ (t38 : Int), v_2 = (.int .i64 t38) ∧
 let t39 : Bool := decide (t38 < 0)
 J1 data0 data0n data0c hi2 first3 cmp4 root10 t15 t39 K h3) h2) h1) h) (
 J1 data0 data0n data0c hi2 first3 cmp4 root10 t15 false K h))) : L1 data0 data0n data0c hi2 first3 cmp4 root10 K h := by unfold L1; exact Lp.of_txt (an 12) 1053 (by kernel_rfl) H
theorem L1_X0 {Q : VP}  {h : Heap} (H :
 Q (.tuple #[]) h) : (K1 Q) (.exit 0) (X0 ) h := of_eq_txt (by kernel_rfl) H
theorem J1_of {data0 : OA} {data0n data0c : Nat} {hi2 first3 : Int} {cmp4 : Value} {root10 child11 : Int} {t40 : Bool} {K : EP} {h : Heap} (H :
 br t40 (
 let t42 : Int := IntKind.i64.wrap (child11 + 1)
 J2 data0 data0n data0c hi2 first3 cmp4 root10 t42 K h) (
 J2 data0 data0n data0c hi2 first3 cmp4 root10 child11 K h)) : J1 data0 data0n data0c hi2 first3 cmp4 root10 child11 t40 K h := by unfold J1; exact Jn.of_txt (an 397) (by kernel_rfl) H
theorem J2_of {data0 : OA} {data0n data0c : Nat} {hi2 first3 : Int} {cmp4 : Value} {root10 child11 : Int} {K : EP} {h : Heap} (H :
 let t47 : Int := IntKind.i64.wrap (first3 + root10)
 hwp PP (Instr.indexAt T_sl_api_Key (.slice data0 data0n data0c) (.int .i64 t47)) (fun v h1 => ∃ (t48 : Addr), v = (.pointer (some t48)) ∧
 ∃ (t49f0 t49f1 t49f2 : ByteArray), rdCells h1 t48 0 [(.string t49f0), (.string t49f1), (.string t49f2)] ∧
 let t53 : Int := IntKind.i64.wrap (first3 + child11)
 hwp PP (Instr.indexAt T_sl_api_Key (.slice data0 data0n data0c) (.int .i64 t53)) (fun v_1 h2 => ∃ (t54 : Addr), v_1 = (.pointer (some t54)) ∧
 ∃ (t55f0 t55f1 t55f2 : ByteArray), rdCells h2 t54 0 [(.string t55f0), (.string t55f1), (.string t55f2)] ∧
 callV PP cmp4 [(.agg #[(.string t49f0), (.string t49f1), (.string t49f2)]), (.agg #[(.string t55f0), (.string t55f1), (.string t55f2)])] (fun v_2 h3 => ∃ (t56 : Int), v_2 = (.int .i64 t56) ∧
 let t57 : Bool := decide (t56 < 0)
 let t58 : Bool := (!t57)
 br t58 (
 K .ret (Xret) h3) (
 let t62 : Int := IntKind.i64.wrap (first3 + root10)
 let t66 : Int := IntKind.i64.wrap (first3 + child11)
 let t70 : Int := IntKind.i64.wrap (first3 + child11)
 hwp PP (Instr.indexAt T_sl_api_Key (.slice data0 data0n data0c) (.int .i64 t70)) (fun v_3 h4 => ∃ (t71 : Addr), v_3 = (.pointer (some t71)) ∧
 ∃ (t72f0 t72f1 t72f2 : ByteArray), rdCells h4 t71 0 [(.string t72f0), (.string t72f1), (.string t72f2)] ∧
 let t76 : Int := IntKind.i64.wrap (first3 + root10)
 hwp PP (Instr.indexAt T_sl_api_Key (.slice data0 data0n data0c) (.int .i64 t76)) (fun v_4 h5 => ∃ (t77 : Addr), v_4 = (.pointer (some t77)) ∧
 ∃ (t78f0 t78f1 t78f2 : ByteArray), rdCells h5 t77 0 [(.string t78f0), (.string t78f1), (.string t78f2)] ∧
 hwp PP (Instr.indexAt T_sl_api_Key (.slice data0 data0n data0c) (.int .i64 t62)) (fun v_5 h6 => ∃ (t79 : Addr), v_5 = (.pointer (some t79)) ∧
 wrCells t79 0 [(.string t72f0), (.string t72f1), (.string t72f2)] (fun h7 =>
 hwp PP (Instr.indexAt T_sl_api_Key (.slice data0 data0n data0c) (.int .i64 t66)) (fun v_6 h8 => ∃ (t80 : Addr), v_6 = (.pointer (some t80)) ∧
 wrCells t80 0 [(.string t78f0), (.string t78f1), (.string t78f2)] (fun h9 =>
 L1 data0 data0n data0c hi2 first3 cmp4 child11 K h9) h8) h7) h6) h5) h4) h3)) h2) h1) h) : J2 data0 data0n data0c hi2 first3 cmp4 root10 child11 K h := by unfold J2; exact Jn.of_txt (an 199) (by kernel_rfl) H
theorem L1_Xret {Q : VP}  {h : Heap} (H :
 Q (.tuple #[]) h) : (K1 Q) .ret (Xret ) h := of_eq_txt (by kernel_rfl) H
theorem door {data0 : OA} {data0n data0c : Nat} {lo1 hi2 first3 : Int} {cmp4 : Value} {Q : VP} {h : Heap} (H :
 L1 data0 data0n data0c hi2 first3 cmp4 lo1 (K1 Q) h) : SpecH PP F_slices_siftDownCmpFunc_api_Key [(.slice data0 data0n data0c), (.int .i64 lo1), (.int .i64 hi2), (.int .i64 first3), cmp4] h Q :=
   spec_of_txt (ann := ann) Try.func59 rfl rfl (by kernel_rfl) H
end slices_siftDownCmpFunc_api_Key
/-! ### slices.nextPowerOfTwo: function 60 -/
namespace slices_nextPowerOfTwo
def ann : Ann := (.seq 1 (.region [(List.range 1, 1)]) (.seq 4 (.region [(List.range 5, 4)]) (.exit 4)))
noncomputable abbrev cd (n : Nat) : Code := sub (bodyOf Try.f60) (pth n)
abbrev an (n : Nat) : Ann := subA ann (pth n)
theorem door {length0 : Int} {Q : VP} {h : Heap} (H :
 let t4 : Int := IntKind.u64.wrap length0
 SpecH PP F_math_bits_Len [(.int .u64 t4)] h (fun v h1 => ∃ (t5 : Int), v = (.int .i64 t5) ∧
 br (decide (0 ≤ t5)) (
 let t6 : Int := sShl .u64 1 t5
 Q (.int .u64 t6) h1) False)) : SpecH PP F_slices_nextPowerOfTwo [(.int .i64 length0)] h Q :=
   spec_of_txt (ann := ann) Try.func60 rfl rfl (by kernel_rfl) H
end slices_nextPowerOfTwo
/-! ### (*slices.xorshift).Next: function 61 -/
namespace slices_xorshift_Next
def ann : Ann := (.seq 1 (.region [(List.range 1, 1)]) (.seq 1 (.region [(List.range 10, 1)]) (.seq 1 (.region [(List.range 10, 1)]) (.seq 1 (.region [(List.range 10, 1)]) (.seq 4 (.region [(List.range 4, 4)]) (.exit 4))))))
noncomputable abbrev cd (n : Nat) : Code := sub (bodyOf Try.f61) (pth n)
abbrev an (n : Nat) : Ann := subA ann (pth n)
theorem door {r0 : OA} {Q : VP} {h : Heap} (H :
 nilc r0 (fun t4 =>
 ∃ (t5 : Int), cellH h t4 = some (.int .u64 t5) ∧
 nilc r0 (fun t7 =>
 ∃ (t8 : Int), cellH h t7 = some (.int .u64 t8) ∧
 let t9 : Int := sShl .u64 t8 13
 let t10 : Int := bXor .u64 t5 t9
 nilc r0 (fun t11 =>
 wr t11 (.int .u64 t10) (fun h1 =>
 nilc r0 (fun t13 =>
 ∃ (t14 : Int), cellH h1 t13 = some (.int .u64 t14) ∧
 nilc r0 (fun t16 =>
 ∃ (t17 : Int), cellH h1 t16 = some (.int .u64 t17) ∧
 let t18 : Int := sShr .u64 t17 7
 let t19 : Int := bXor .u64 t14 t18
 nilc r0 (fun t20 =>
 wr t20 (.int .u64 t19) (fun h2 =>
 nilc r0 (fun t22 =>
 ∃ (t23 : Int), cellH h2 t22 = some (.int .u64 t23) ∧
 nilc r0 (fun t25 =>
 ∃ (t26 : Int), cellH h2 t25 = some (.int .u64 t26) ∧
 let t27 : Int := sShl .u64 t26 17
 let t28 : Int := bXor .u64 t23 t27
 nilc r0 (fun t29 =>
 wr t29 (.int .u64 t28) (fun h3 =>
 nilc r0 (fun t31 =>
 ∃ (t32 : Int), cellH h3 t31 = some (.int .u64 t32) ∧
 Q (.int .u64 t32) h3)) h2)))) h1)))) h)))) : SpecH PP F_slices_xorshift_Next [(.pointer r0)] h Q :=
   spec_of_txt (ann := ann) Try.func61 rfl rfl (by kernel_rfl) H
end slices_xorshift_Next
/-! ### slices.medianAdjacentCmpFunc[haversack/api.Key]: function 62 -/
namespace slices_medianAdjacentCmpFunc_api_Key
def ann : Ann := (.seq 15 (.region [(List.range 1, 15)]) (.seq 256 (.region [(List.range 10, 256)]) (.exit 256)))
noncomputable abbrev cd (n : Nat) : Code := sub (bodyOf Try.f62) (pth n)
abbrev an (n : Nat) : Ann := subA ann (pth n)
theorem door {data0 : OA} {data0n data0c : Nat} {a1 : Int} {swaps2 : OA} {cmp3 : Value} {Q : VP} {h : Heap} (H :
 let t11 : Int := IntKind.i64.wrap (a1 - 1)
 let t14 : Int := IntKind.i64.wrap (a1 + 1)
 SpecH PP F_slices_medianCmpFunc_api_Key [(.slice data0 data0n data0c), (.int .i64 t11), (.int .i64 a1), (.int .i64 t14), (.pointer swaps2), cmp3] h (fun v h1 => ∃ (t17 : Int), v = (.int .i64 t17) ∧
 Q (.int .i64 t17) h1)) : SpecH PP F_slices_medianAdjacentCmpFunc_api_Key [(.slice data0 data0n data0c), (.int .i64 a1), (.pointer swaps2), cmp3] h Q :=
   spec_of_txt (ann := ann) Try.func62 rfl rfl (by kernel_rfl) H
end slices_medianAdjacentCmpFunc_api_Key
/-! ### slices.medianCmpFunc[haversack/api.Key]: function 63 -/
namespace slices_medianCmpFunc_api_Key
def ann : Ann := (.seq 63 (.region [(List.range 1, 63)]) (.seq 63 (.region [(List.range 11, 63)]) (.seq 55 (.region [(List.range 11, 55)]) (.seq 4 (.region [(List.range 11, 4)]) (.seq 4096 (.region [(List.range 2, 4096)]) (.exit 4096))))))
noncomputable abbrev cd (n : Nat) : Code := sub (bodyOf Try.f63) (pth n)
abbrev an (n : Nat) : Ann := subA ann (pth n)
theorem door {data0 : OA} {data0n data0c : Nat} {a1 b2 c3 : Int} {swaps4 : OA} {cmp5 : Value} {Q : VP} {h : Heap} (H :
 SpecH PP F_slices_order2CmpFunc_api_Key [(.slice data0 data0n data0c), (.int .i64 a1), (.int .i64 b2), (.pointer swaps4), cmp5] h (fun v h1 => ∃ (t19 t19_1 : Int), v = (.tuple #[(.int .i64 t19), (.int .i64 t19_1)]) ∧
 SpecH PP F_slices_order2CmpFunc_api_Key [(.slice data0 data0n data0c), (.int .i64 t19_1), (.int .i64 c3), (.pointer swaps4), cmp5] h1 (fun v_1 h2 => ∃ (t28 t28_1 : Int), v_1 = (.tuple #[(.int .i64 t28), (.int .i64 t28_1)]) ∧
 SpecH PP F_slices_order2CmpFunc_api_Key [(.slice data0 data0n data0c), (.int .i64 t19), (.int .i64 t28), (.pointer swaps4), cmp5] h2 (fun v_2 h3 => ∃ (t37 t37_1 : Int), v_2 = (.tuple #[(.int .i64 t37), (.int .i64 t37_1)]) ∧
 Q (.int .i64 t37_1) h3)))) : SpecH PP F_slices_medianCmpFunc_api_Key [(.slice data0 data0n data0c), (.int .i64 a1), (.int .i64 b2), (.int .i64 c3), (.pointer swaps4), cmp5] h Q :=
   spec_of_txt (ann := ann) Try.func63 rfl rfl (by kernel_rfl) H
end slices_medianCmpFunc_api_Key
/-! ### slices.order2CmpFunc[haversack/api.Key]: function 64 -/
namespace slices_order2CmpFunc_api_Key
def ann : Ann := (.seq 31 (.region [(List.range 2, 31)]) (.seq 6 (.seq 4194318 (.region [(List.range 11, 4194318)]) (.cond (.seq 6 (.region [(List.range 6, 6)]) (.seq 3072 (.region [(List.range 4, 3072)]) (.exit 3072))) .leaf)) (.seq 3072 (.region [(List.range 4, 3072)]) (.exit 3072))))
noncomputable abbrev cd (n : Nat) : Code := sub (bodyOf Try.f64) (pth n)
abbrev an (n : Nat) : Ann := subA ann (pth n)
theorem door {data0 : OA} {data0n data0c : Nat} {a1 b2 : Int} {swaps3 : OA} {cmp4 : Value} {Q : VP} {h : Heap} (H :
 hwp PP (Instr.indexAt T_sl_api_Key (.slice data0 data0n data0c) (.int .i64 b2)) (fun v h1 => ∃ (t15 : Addr), v = (.pointer (some t15)) ∧
 ∃ (t16f0 t16f1 t16f2 : ByteArray), rdCells h1 t15 0 [(.string t16f0), (.string t16f1), (.string t16f2)] ∧
 hwp PP (Instr.indexAt T_sl_api_Key (.slice data0 data0n data0c) (.int .i64 a1)) (fun v_1 h2 => ∃ (t19 : Addr), v_1 = (.pointer (some t19)) ∧
 ∃ (t20f0 t20f1 t20f2 : ByteArray), rdCells h2 t19 0 [(.string t20f0), (.string t20f1), (.string t20f2)] ∧
 callV PP cmp4 [(.agg #[(.string t16f0), (.string t16f1), (.string t16f2)]), (.agg #[(.string t20f0), (.string t20f1), (.string t20f2)])] (fun v_2 h3 => ∃ (t21 : Int), v_2 = (.int .i64 t21) ∧
 let t22 : Bool := decide (t21 < 0)
 br t22 (
 nilc swaps3 (fun t24 =>
 ∃ (t25 : Int), cellH h3 t24 = some (.int .i64 t25) ∧
 let t26 : Int := IntKind.i64.wrap (t25 + 1)
 nilc swaps3 (fun t27 =>
 wr t27 (.int .i64 t26) (fun h4 =>
 Q (.tuple #[(.int .i64 b2), (.int .i64 a1)]) h4) h3))) (
 Q (.tuple #[(.int .i64 a1), (.int .i64 b2)]) h3)) h2) h1) h) : SpecH PP F_slices_order2CmpFunc_api_Key [(.slice data0 data0n data0c), (.int .i64 a1), (.int .i64 b2), (.pointer swaps3), cmp4] h Q :=
   spec_of_txt (ann := ann) Try.func64 rfl rfl (by kernel_rfl) H
end slices_order2CmpFunc_api_Key

end Go.Proofs.Ytjkfngolgjbakaa

set_option maxRecDepth 100000
set_option linter.unusedVariables false
namespace Go.Proofs.Ytjkfngolgjbakaa
open Go Go.HW
structure Key where
  t : ByteArray
  a : ByteArray
  e : ByteArray
  deriving Inhabited, DecidableEq
structure Bx where
  t : ByteArray
  a : ByteArray
  deriving Inhabited, DecidableEq
structure Wr where
  k : Key
  there : Bool
  data : ByteArray
  deriving Inhabited, DecidableEq
def keyV (k : Key) : List Value := [.string k.t, .string k.a, .string k.e]
def bxV (b : Bx) : List Value := [.string b.t, .string b.a]
def wrV (w : Wr) : List Value := [.string w.k.t, .string w.k.a, .string w.k.e, .bool w.there, .string w.data]
def keyA (k : Key) : Value := .agg (keyV k).toArray
def bxA (b : Bx) : Value := .agg (bxV b).toArray
def wrA (w : Wr) : Value := .agg (wrV w).toArray
theorem s1 (s : ByteArray) : (s == s) = true := by rw [bytes_beq]; exact decide_eq_true rfl
theorem KeyK : Keys PP T_api_Key keyA := by
  obtain ⟨fs, hu⟩ := struct_of (P := PP) (t := T_api_Key) (by kernel_rfl)
  refine Keys.plain hu (fun a b => ?_) (fun b a => ?_) (fun a => ?_)
  · have : eqv PP 6 T_api_Key (keyA a) (keyA b) = some (decide (a.t = b.t) && (decide (a.a = b.a) && (decide (a.e = b.e) && true))) := by kernel_rfl
    rw [this]; cases a; cases b; simp [Key.mk.injEq, Bool.decide_and]
  · cases b <;> kernel_rfl
  · rw [show (10000 : Nat) = 9998 + 1 + 1 from rfl]; simp [keyA, keyV, Instr.sameBits, s1]
theorem BoxK : Keys PP T_api_Box bxA := by
  obtain ⟨fs, hu⟩ := struct_of (P := PP) (t := T_api_Box) (by kernel_rfl)
  refine Keys.plain hu (fun a b => ?_) (fun b a => ?_) (fun a => ?_)
  · have : eqv PP 6 T_api_Box (bxA a) (bxA b) = some (decide (a.t = b.t) && (decide (a.a = b.a) && true)) := by kernel_rfl
    rw [this]; cases a; cases b; simp [Bx.mk.injEq, Bool.decide_and]
  · cases b <;> kernel_rfl
  · rw [show (10000 : Nat) = 9998 + 1 + 1 from rfl]; simp [bxA, bxV, Instr.sameBits, s1]
end Go.Proofs.Ytjkfngolgjbakaa

set_option maxRecDepth 20000
set_option linter.unusedVariables false
set_option linter.unusedSimpArgs false
namespace Go.Proofs.Ytjkfngolgjbakaa.Srtapi_Key
open Go Go.HW Go.Sort
variable {h : Heap} {L : List Assn} {Q : Value → Heap → Prop} {a : OA} {n c : Nat}
def S (a : OA) (n c : Nat) (d : Array Key) : Assn := own a n c T_api_Key 3 (d.toList.flatMap keyV)
theorem phl (x : Key) : (keyV x).length = 3 := rfl
/-- What the comparing function does. -/
def CmpOk (cmp : Value) (lt : Key → Key → Bool) : Prop := ∀ (x y : Key) (M : List Assn) (h : Heap) (R : VP), Hs h M → (∀ h' (r : Int), decide (r < 0) = lt x y → Hs h' M → R (.int .i64 r) h') → callV PP cmp [.agg (keyV x).toArray, .agg (keyV y).toArray] R h
theorem wI {x : Int} (h1 : -9223372036854775808 ≤ x) (h2 : x < 9223372036854775808) : IntKind.i64.wrap x = x := wrap_i64_z h1 h2
theorem wA {i j : Nat} (h : i + j < 2 ^ 62) : IntKind.i64.wrap ((i : Int) + (j : Int)) = ((i + j : Nat) : Int) := by rw [wI (by omega) (by omega)]; omega
theorem wS {i j : Nat} (h : j ≤ i) (h2 : i < 2 ^ 62) : IntKind.i64.wrap ((i : Int) - (j : Int)) = ((i - j : Nat) : Int) := by rw [wI (by omega) (by omega)]; omega
theorem w1 {i : Nat} (h : i < 2 ^ 62) : IntKind.i64.wrap ((i : Int) + 1) = ((i + 1 : Nat) : Int) := by rw [wI (by omega) (by omega)]; omega
theorem p1 {i : Nat} (h : 1 ≤ i) (h2 : i < 2 ^ 62) : IntKind.i64.wrap ((i : Int) - 1) = ((i - 1 : Nat) : Int) := by rw [wI (by omega) (by omega)]; omega
theorem toL {d : Array Key} {i : Nat} (hi : i < d.size) : d.toList[i]? = some d[i]! := by simp [hi]
/-- An element is looked at. -/
theorem lk {d : Array Key} {i : Nat} {M : List Assn} (hn : d.size = n) (hi : i < n) (H : Hs h (S a n c d :: M)) {R : Addr → Heap → Prop} (K : ∀ t, rdCells h t 0 (keyV d[i]!) → R t h) :
    hwp PP (Instr.indexAt T_sl_api_Key (.slice a n c) (.int .i64 (i : Int))) (fun u h1 => ∃ t, u = .pointer (some t) ∧ R t h1) h :=
  idxf E_sl_api_Key (φ := keyV) (l := d.toList) (x := d[i]!) H.rd phl (by decide) (by omega) (by omega) (by rw [Int.toNat_natCast]; exact toL (by omega)) K
/-- Two elements are exchanged. -/
theorem swap_hs {d : Array Key} {i j : Nat} (hn : d.size = n) (hi : i < n) (hj : j < n) (H : Hs h (S a n c d :: L)) {K : Heap → Prop} (k : ∀ h', Hs h' (S a n c (swp d i j) :: L) → K h') :
    hwp PP (Instr.indexAt T_sl_api_Key (.slice a n c) (.int .i64 (j : Int))) (fun v h1 => ∃ (t88 : Addr), v = (.pointer (some t88)) ∧
    ∃ (f0 : ByteArray) (f1 : ByteArray) (f2 : ByteArray), rdCells h1 t88 0 [(.string f0), (.string f1), (.string f2)] ∧
    hwp PP (Instr.indexAt T_sl_api_Key (.slice a n c) (.int .i64 (i : Int))) (fun v_1 h2 => ∃ (t92 : Addr), v_1 = (.pointer (some t92)) ∧
    ∃ (g0 : ByteArray) (g1 : ByteArray) (g2 : ByteArray), rdCells h2 t92 0 [(.string g0), (.string g1), (.string g2)] ∧
    hwp PP (Instr.indexAt T_sl_api_Key (.slice a n c) (.int .i64 (i : Int))) (fun v_2 h3 => ∃ (t94 : Addr), v_2 = (.pointer (some t94)) ∧
    wrCells t94 0 [(.string f0), (.string f1), (.string f2)] (fun h4 =>
    hwp PP (Instr.indexAt T_sl_api_Key (.slice a n c) (.int .i64 (j : Int))) (fun v_3 h5 => ∃ (t96 : Addr), v_3 = (.pointer (some t96)) ∧
    wrCells t96 0 [(.string g0), (.string g1), (.string g2)] K h5) h4) h3) h2) h1) h := by
  refine lk hn hj H fun t ht => ⟨_, _, _, ht, ?_⟩
  refine lk hn hi H fun t ht => ⟨_, _, _, ht, ?_⟩
  have one : ∀ x : Key, ∀ v ∈ keyV x, oneC v = true := fun x v hv => by
    simp only [keyV, List.mem_cons, List.not_mem_nil, or_false] at hv
    rcases hv with rfl | rfl | rfl <;> rfl
  refine Hs.idx_wrf (φ := keyV) d[j]! E_sl_api_Key H (by omega) (by omega) phl (by decide) (one _) fun h4 H4 => ?_
  refine Hs.idx_wrf (φ := keyV) d[i]! E_sl_api_Key H4 (by omega) (by omega) phl (by decide) (one _) fun h6 H6 => ?_
  refine k h6 ?_
  have e : (d.toList.set (i : Int).toNat d[j]!).set (j : Int).toNat d[i]! = (swp d i j).toList := by
    rw [Int.toNat_natCast, Int.toNat_natCast, swp, Array.toList_setIfInBounds, Array.toList_setIfInBounds]
  rw [e] at H6
  exact H6
theorem swp_size {d : Array Key} {i j : Nat} : (swp d i j).size = d.size := by simp [swp]
/-! ### order2, median, choosePivot -/
variable {cmp : Value} {lt : Key → Key → Bool}
theorem order2_hs (hc : CmpOk cmp lt) {d : Array Key} {i j s sw : Nat} (hn : d.size = n) (hi : i < n) (hj : j < n) (hs : s < 1000) (H : Hs h (pt sw T_int [.int .i64 (s : Int)] :: S a n c d :: L))
    (k : ∀ h', Hs h' (pt sw T_int [.int .i64 ((order2 lt d i j s).2.2 : Nat)] :: S a n c d :: L) → Q (.tuple #[.int .i64 ((order2 lt d i j s).1 : Nat), .int .i64 ((order2 lt d i j s).2.1 : Nat)]) h') :
    SpecH PP F_slices_order2CmpFunc_api_Key [.slice a n c, .int .i64 (i : Int), .int .i64 (j : Int), .pointer (some ⟨sw, 0, none⟩), cmp] h Q := by
  refine slices_order2CmpFunc_api_Key.door ?_
  refine lk hn hj H.tl fun t ht => ⟨_, _, _, ht, ?_⟩
  refine lk hn hi H.tl fun t ht => ⟨_, _, _, ht, ?_⟩
  refine hc d[j]! d[i]! _ _ _ H fun h1 r hr H1 => ⟨_, rfl, ?_⟩
  dsimp only
  rw [hr]
  unfold order2 at k
  refine (br_iff _ _ _).2 ⟨fun e => ?_, fun e => ?_⟩
  · rw [if_pos e] at k
    refine ⟨_, H1.cell (off := 0) rfl, ?_⟩
    dsimp only [nilc]
    refine H1.sto (off := 0) (by simp) fun h2 H2 => ?_
    rw [w1 (by omega)] at H2
    exact k h2 H2
  · rw [if_neg (by rw [e]; simp)] at k
    exact k h1 H1
theorem order2_in {d : Array Key} {i j s : Nat} {p : Nat → Prop} (hi : p i) (hj : p j) : p (order2 lt d i j s).1 ∧ p (order2 lt d i j s).2.1 ∧ (order2 lt d i j s).2.2 ≤ s + 1 := by
  unfold order2; split
  · exact ⟨hj, hi, by simp⟩
  · exact ⟨hi, hj, by simp⟩
theorem median_hs (hc : CmpOk cmp lt) {d : Array Key} {i j l s sw : Nat} (hn : d.size = n) (hi : i < n) (hj : j < n) (hl : l < n) (hs : s < 900) (H : Hs h (pt sw T_int [.int .i64 (s : Int)] :: S a n c d :: L))
    (k : ∀ h', Hs h' (pt sw T_int [.int .i64 ((median lt d i j l s).2 : Nat)] :: S a n c d :: L) → Q (.int .i64 ((median lt d i j l s).1 : Nat)) h') :
    SpecH PP F_slices_medianCmpFunc_api_Key [.slice a n c, .int .i64 (i : Int), .int .i64 (j : Int), .int .i64 (l : Int), .pointer (some ⟨sw, 0, none⟩), cmp] h Q := by
  refine slices_medianCmpFunc_api_Key.door ?_
  obtain ⟨q1, q2, q3⟩ := order2_in (lt := lt) (d := d) (s := s) (p := (· < n)) hi hj
  refine order2_hs hc hn hi hj (by omega) H fun h1 H1 => ⟨_, _, rfl, ?_⟩
  unfold median at k
  dsimp only at k
  generalize order2 lt d i j s = r1 at *
  obtain ⟨r, r', r''⟩ := r1
  dsimp only at q1 q2 q3 H1 k ⊢
  obtain ⟨q4, q5, q6⟩ := order2_in (lt := lt) (d := d) (s := r'') (p := (· < n)) q2 hl
  refine order2_hs hc hn q2 hl (by omega) H1 fun h2 H2 => ⟨_, _, rfl, ?_⟩
  generalize order2 lt d r' l r'' = r2 at *
  obtain ⟨u, u', u''⟩ := r2
  dsimp only at q4 q5 q6 H2 k ⊢
  exact order2_hs hc hn q1 q4 (by omega) H2 fun h3 H3 => ⟨_, _, rfl, k h3 H3⟩
theorem median_in {d : Array Key} {i j l s : Nat} {p : Nat → Prop} (hi : p i) (hj : p j) (hl : p l) : p (median lt d i j l s).1 ∧ (median lt d i j l s).2 ≤ s + 3 := by
  unfold median
  dsimp only
  obtain ⟨q1, q2, q3⟩ := order2_in (lt := lt) (d := d) (s := s) (p := p) hi hj
  generalize order2 lt d i j s = r1 at *
  obtain ⟨q4, q5, q6⟩ := order2_in (lt := lt) (d := d) (s := r1.2.2) (p := p) q2 hl
  generalize order2 lt d r1.2.1 l r1.2.2 = r2 at *
  obtain ⟨q7, q8, q9⟩ := order2_in (lt := lt) (d := d) (s := r2.2.2) (p := p) q1 q4
  exact ⟨q8, by omega⟩
theorem medianAdjacent_hs (hc : CmpOk cmp lt) {d : Array Key} {i s sw : Nat} (hn : d.size = n) (hi : 1 ≤ i) (hi2 : i + 1 < n) (hmax : n < 2 ^ 61) (hs : s < 900) (H : Hs h (pt sw T_int [.int .i64 (s : Int)] :: S a n c d :: L))
    (k : ∀ h', Hs h' (pt sw T_int [.int .i64 ((medianAdjacent lt d i s).2 : Nat)] :: S a n c d :: L) → Q (.int .i64 ((medianAdjacent lt d i s).1 : Nat)) h') :
    SpecH PP F_slices_medianAdjacentCmpFunc_api_Key [.slice a n c, .int .i64 (i : Int), .pointer (some ⟨sw, 0, none⟩), cmp] h Q := by
  refine slices_medianAdjacentCmpFunc_api_Key.door ?_
  dsimp only
  rw [w1 (by omega), p1 hi (by omega)]
  exact median_hs hc hn (by omega) (by omega) (by omega) hs H fun h1 H1 => ⟨_, rfl, k h1 H1⟩
def hintN : Hint → Nat | .unknown => 0 | .increasing => 1 | .decreasing => 2
theorem choosePivot_hs (hc : CmpOk cmp lt) {d : Array Key} {x y : Nat} (hn : d.size = n) (hxy : x < y) (hy : y ≤ n) (hmax : n < 2 ^ 60) (H : Hs h (S a n c d :: L))
    (k : ∀ h', Hs h' (S a n c d :: L) → Q (.tuple #[.int .i64 ((choosePivot lt d x y).1 : Nat), .int .i64 (hintN (choosePivot lt d x y).2 : Nat)]) h') :
    SpecH PP F_slices_choosePivotCmpFunc_api_Key [.slice a n c, .int .i64 (x : Int), .int .i64 (y : Int), cmp] h Q := by
  refine slices_choosePivotCmpFunc_api_Key.door ?_
  dsimp only
  have H1 := H.new (t := T_int) (cs := #[.int .i64 0]) (xs := [.int .i64 ((0 : Nat) : Int)])
  generalize Array.size h = sw at H1 ⊢
  rw [wS (by omega) (by omega)]
  have t4 : Int.tdiv ((y - x : Nat) : Int) 4 = (((y - x) / 4 : Nat) : Int) := tdiv_n _ 4
  rw [t4, wI (x := (((y - x) / 4 : Nat) : Int)) (by omega) (by omega)]
  have m : ∀ q : Nat, q ≤ 3 → IntKind.i64.wrap ((((y - x) / 4 : Nat) : Int) * (q : Int)) = (((y - x) / 4 * q : Nat) : Int) := fun q hq => by
    have : (y - x) / 4 * q ≤ (y - x) / 4 * 3 := Nat.mul_le_mul_left _ hq
    rw [show (((y - x) / 4 : Nat) : Int) * (q : Int) = (((y - x) / 4 * q : Nat) : Int) by simp, wI (by omega) (by omega)]
  have m1 := m 1 (by omega); have m2 := m 2 (by omega); have m3 := m 3 (by omega)
  simp only [Int.cast_ofNat_Int, Int.ofNat_one] at m1 m2 m3
  have m1' : IntKind.i64.wrap ((((y - x) / 4 : Nat) : Int) * 1) = (((y - x) / 4 * 1 : Nat) : Int) := m1
  rw [m1', m2, m3, wA (by omega), wA (by omega), wA (by omega)]
  have J2 : ∀ {h : Heap} {p s : Nat}, Hs h (pt sw T_int [.int .i64 (s : Int)] :: S a n c d :: L) → choosePivot lt d x y = (p, if s = 0 then .increasing else if s = 12 then .decreasing else .unknown) → slices_choosePivotCmpFunc_api_Key.J2 ⟨sw, 0, none⟩ (p : Int) Q h := by
    intro h p s H e
    rw [e] at k
    refine slices_choosePivotCmpFunc_api_Key.J2_of ⟨_, H.cell (off := 0) rfl, (br_iff _ _ _).2 ⟨fun e1 => ?_, fun e1 => (br_iff _ _ _).2 ⟨fun e2 => ?_, fun e2 => ?_⟩⟩⟩
    · rw [if_pos (by have := beq_iff_eq.1 e1; omega)] at k; exact k h H.tl
    · rw [if_neg (by have := beq_eq_false_iff_ne.1 e1; omega), if_pos (by have := beq_iff_eq.1 e2; omega)] at k; exact k h H.tl
    · rw [if_neg (by have := beq_eq_false_iff_ne.1 e1; omega), if_neg (by have := beq_eq_false_iff_ne.1 e2; omega)] at k; exact k h H.tl
  have J1 : ∀ {h : Heap} {i j l s : Nat}, i < n → j < n → l < n → s < 900 → Hs h (pt sw T_int [.int .i64 (s : Int)] :: S a n c d :: L) → choosePivot lt d x y = ((median lt d i j l s).1, if (median lt d i j l s).2 = 0 then .increasing else if (median lt d i j l s).2 = 12 then .decreasing else .unknown) →
      slices_choosePivotCmpFunc_api_Key.J1 a n c cmp ⟨sw, 0, none⟩ (i : Int) (j : Int) (l : Int) Q h := by
    intro h i j l s hi hj hl hs H e
    exact slices_choosePivotCmpFunc_api_Key.J1_of (median_hs hc hn hi hj hl hs H fun h1 H1 => ⟨_, rfl, J2 H1 e⟩)
  have hq : 4 * ((y - x) / 4) ≤ y - x := Nat.mul_div_le _ _
  refine (br_iff _ _ _).2 ⟨fun e8 => ?_, fun e8 => ?_⟩
  · have e8 := of_decide_eq_true e8
    refine (br_iff _ _ _).2 ⟨fun e50 => ?_, fun e50 => ?_⟩
    · have e50 := of_decide_eq_true e50
      have u : ∀ A B C, medianAdjacent lt d (x + (y - x) / 4 * 1) 0 = A → medianAdjacent lt d (x + (y - x) / 4 * 2) A.2 = B → medianAdjacent lt d (x + (y - x) / 4 * 3) B.2 = C →
          choosePivot lt d x y = ((median lt d A.1 B.1 C.1 C.2).1, if (median lt d A.1 B.1 C.1 C.2).2 = 0 then .increasing else if (median lt d A.1 B.1 C.1 C.2).2 = 12 then .decreasing else .unknown) := by
        rintro _ _ _ rfl rfl rfl
        unfold choosePivot; dsimp only; rw [if_pos (by omega), if_pos (by omega)]
      obtain ⟨a1, a2⟩ : (medianAdjacent lt d (x + (y - x) / 4 * 1) 0).1 < n ∧ (medianAdjacent lt d (x + (y - x) / 4 * 1) 0).2 ≤ 0 + 3 := median_in (p := (· < n)) (by omega) (by omega) (by omega)
      refine medianAdjacent_hs hc hn (by omega) (by omega) (by omega) (by omega) H1 fun h2 H2 => ⟨_, rfl, ?_⟩
      generalize hA : medianAdjacent lt d (x + (y - x) / 4 * 1) 0 = A at H2 a1 a2 ⊢
      obtain ⟨b1, b2⟩ : (medianAdjacent lt d (x + (y - x) / 4 * 2) A.2).1 < n ∧ (medianAdjacent lt d (x + (y - x) / 4 * 2) A.2).2 ≤ A.2 + 3 := median_in (p := (· < n)) (by omega) (by omega) (by omega)
      refine medianAdjacent_hs hc hn (by omega) (by omega) (by omega) (by omega) H2 fun h3 H3 => ⟨_, rfl, ?_⟩
      generalize hB : medianAdjacent lt d (x + (y - x) / 4 * 2) A.2 = B at H3 b1 b2 ⊢
      obtain ⟨c1, c2⟩ : (medianAdjacent lt d (x + (y - x) / 4 * 3) B.2).1 < n ∧ (medianAdjacent lt d (x + (y - x) / 4 * 3) B.2).2 ≤ B.2 + 3 := median_in (p := (· < n)) (by omega) (by omega) (by omega)
      refine medianAdjacent_hs hc hn (by omega) (by omega) (by omega) (by omega) H3 fun h4 H4 => ⟨_, rfl, ?_⟩
      generalize hC : medianAdjacent lt d (x + (y - x) / 4 * 3) B.2 = C at H4 c1 c2 ⊢
      exact J1 a1 b1 c1 (by omega) H4 (u A B C hA hB hC)
    · have e50 := of_decide_eq_false e50
      exact J1 (s := 0) (by omega) (by omega) (by omega) (by omega) H1 (by unfold choosePivot; dsimp only; rw [if_pos (by omega), if_neg (by omega)])
  · have e8 := of_decide_eq_false e8
    exact J2 (s := 0) H1 (by unfold choosePivot; dsimp only; rw [if_neg (by omega)])
theorem choosePivot_in {d : Array Key} {x y : Nat} (hxy : x < y) : x ≤ (choosePivot lt d x y).1 ∧ (choosePivot lt d x y).1 < y := choosePivot_holds lt d x y hxy
end Go.Proofs.Ytjkfngolgjbakaa.Srtapi_Key

set_option maxRecDepth 20000
set_option linter.unusedVariables false
set_option linter.unusedSimpArgs false
namespace Go.Proofs.Ytjkfngolgjbakaa.Srtapi_Key
open Go Go.HW Go.Sort
variable {h : Heap} {L : List Assn} {Q : Value → Heap → Prop} {a : OA} {n c : Nat} {cmp : Value} {lt : Key → Key → Bool}
/-! ### reverseRange -/
theorem reverse_hs {d : Array Key} {x y : Nat} (hn : d.size = n) (hxy : x < y) (hy : y ≤ n) (hmax : n < 2 ^ 60) (H : Hs h (S a n c d :: L)) (k : ∀ h', Hs h' (S a n c (reverseRange d x y) :: L) → Q (.tuple #[]) h') :
    SpecH PP F_slices_reverseRangeCmpFunc_api_Key [.slice a n c, .int .i64 (x : Int), .int .i64 (y : Int), cmp] h Q := by
  refine slices_reverseRangeCmpFunc_api_Key.door ?_
  dsimp only
  rw [p1 (by omega) (by omega)]
  have go : ∀ (r i j : Nat) {h : Heap} {e : Array Key}, j ≤ i + r → j < n → e.size = n → reverseLoop i j e = reverseRange d x y → Hs h (S a n c e :: L) → slices_reverseRangeCmpFunc_api_Key.L1 a n c (i : Int) (j : Int) (slices_reverseRangeCmpFunc_api_Key.K1 Q) h := by
    intro r
    induction r with
    | zero =>
      intro i j h e hr hj hs he H
      rw [reverseLoop, if_neg (by omega)] at he
      refine slices_reverseRangeCmpFunc_api_Key.L1_of (br_false (decide_eq_false (by omega)) (slices_reverseRangeCmpFunc_api_Key.L1_X0 (k h ?_)))
      rw [← he]; exact H
    | succ r ih =>
      intro i j h e hr hj hs he H
      rw [reverseLoop] at he
      refine slices_reverseRangeCmpFunc_api_Key.L1_of ((br_iff _ _ _).2 ⟨fun e1 => ?_, fun e1 => slices_reverseRangeCmpFunc_api_Key.L1_X0 (k h ?_)⟩)
      · have e1 := of_decide_eq_true e1
        rw [if_pos (by omega)] at he
        refine swap_hs hs (by omega) hj H fun h2 H2 => ?_
        dsimp only
        rw [w1 (by omega), p1 (by omega) (by omega)]
        exact ih (i + 1) (j - 1) (by omega) (by omega) (by rw [swp_size]; exact hs) he H2
      · have e1 := of_decide_eq_false e1
        rw [if_neg (by omega)] at he
        rw [← he]; exact H
  exact go y x (y - 1) (by omega) (by omega) hn rfl H
/-! ### insertionSort -/
theorem insertion_hs (hc : CmpOk cmp lt) {d : Array Key} {x y : Nat} (hn : d.size = n) (hxy : x ≤ y) (hy : y ≤ n) (hmax : n < 2 ^ 60) (H : Hs h (S a n c d :: L)) (k : ∀ h', Hs h' (S a n c (insertionSort lt d x y) :: L) → Q (.tuple #[]) h') :
    SpecH PP F_slices_insertionSortCmpFunc_api_Key [.slice a n c, .int .i64 (x : Int), .int .i64 (y : Int), cmp] h Q := by
  refine slices_insertionSortCmpFunc_api_Key.door ?_
  dsimp only
  rw [w1 (by omega)]
  have inn : ∀ (j : Nat) {i : Nat} {K : EP} {h : Heap} {e f : Array Key}, j < n → e.size = n → insInner lt x j e = f → (∀ h', Hs h' (S a n c f :: L) → slices_insertionSortCmpFunc_api_Key.K2 K (.exit 2) (slices_insertionSortCmpFunc_api_Key.X2 a n c (x : Int) (y : Int) cmp (i : Int)) h') →
      Hs h (S a n c e :: L) → slices_insertionSortCmpFunc_api_Key.L2 a n c (x : Int) (y : Int) cmp (i : Int) (j : Int) (slices_insertionSortCmpFunc_api_Key.K2 K) h := by
    intro j
    induction j with
    | zero =>
      intro i K h e f hj hs he kk H
      rw [insInner] at he
      refine slices_insertionSortCmpFunc_api_Key.L2_of (br_false (decide_eq_false (by omega)) (kk h ?_))
      rw [← he]; exact H
    | succ j ih =>
      intro i K h e f hj hs he kk H
      rw [insInner] at he
      refine slices_insertionSortCmpFunc_api_Key.L2_of ((br_iff _ _ _).2 ⟨fun e1 => ?_, fun e1 => kk h ?_⟩)
      · have e1 := of_decide_eq_true e1
        rw [p1 (by omega) (by omega), show j + 1 - 1 = j by omega]
        refine lk hs hj H fun t ht => ⟨_, _, _, ht, ?_⟩
        refine lk hs (by omega) H fun t ht => ⟨_, _, _, ht, ?_⟩
        refine hc e[j + 1]! e[j]! _ _ _ H fun h1 r hr H1 => ⟨_, rfl, ?_⟩
        dsimp only
        rw [hr]
        refine (br_iff _ _ _).2 ⟨fun e2 => ?_, fun e2 => kk h1 ?_⟩
        · rw [if_pos (by rw [e2, decide_eq_true (by omega)]; rfl)] at he
          refine swap_hs hs hj (by omega) H1 fun h2 H2 => ?_
          exact ih (by omega) (by rw [swp_size]; exact hs) he kk H2
        · rw [if_neg (by rw [e2]; simp)] at he
          rw [← he]; exact H1
      · have e1 := of_decide_eq_false e1
        rw [if_neg (by rw [decide_eq_false (by omega)]; simp)] at he
        rw [← he]; exact H
  have go : ∀ (r i : Nat) {h : Heap} {e : Array Key}, y ≤ i + r → i ≤ y + 1 → e.size = n → insOuter lt x y i e = insertionSort lt d x y → Hs h (S a n c e :: L) → slices_insertionSortCmpFunc_api_Key.L1 a n c (x : Int) (y : Int) cmp (i : Int) (slices_insertionSortCmpFunc_api_Key.K1 Q) h := by
    intro r
    induction r with
    | zero =>
      intro i h e hr hi hs he H
      rw [insOuter, if_neg (by omega)] at he
      refine slices_insertionSortCmpFunc_api_Key.L1_of (br_false (decide_eq_false (by omega)) (slices_insertionSortCmpFunc_api_Key.L1_X0 (k h ?_)))
      rw [← he]; exact H
    | succ r ih =>
      intro i h e hr hi hs he H
      rw [insOuter] at he
      refine slices_insertionSortCmpFunc_api_Key.L1_of ((br_iff _ _ _).2 ⟨fun e1 => ?_, fun e1 => slices_insertionSortCmpFunc_api_Key.L1_X0 (k h ?_)⟩)
      · have e1 := of_decide_eq_true e1
        rw [if_pos (by omega)] at he
        have sz : ∀ (j : Nat) (e : Array Key), (insInner lt x j e).size = e.size := by
          intro j
          induction j with
          | zero => intro e; rfl
          | succ j ih => intro e; rw [insInner]; split
                         · rw [ih, swp_size]
                         · rfl
        refine inn i (i := i) (by omega) hs rfl (fun h2 H2 => slices_insertionSortCmpFunc_api_Key.L2_X2 ?_) H
        dsimp only
        rw [w1 (by omega)]
        exact ih (i + 1) (by omega) (by omega) (by rw [sz]; exact hs) he H2
      · have e1 := of_decide_eq_false e1
        rw [if_neg (by omega)] at he
        rw [← he]; exact H
  exact go y (x + 1) (by omega) (by omega) hn rfl H
/-! ### siftDown, heapSort -/
theorem siftDown_size : ∀ (r : Nat) {hi first root : Nat} {d : Array Key}, hi ≤ root + r → (siftDown lt hi first root d).size = d.size := by
  intro r
  induction r with
  | zero => intro hi first root d hr; rw [siftDown, dif_pos (by omega)]
  | succ r ih =>
    intro hi first root d hr
    rw [siftDown]
    split
    · rfl
    · split
      · split
        · rfl
        · split
          · rw [ih (by omega), swp_size]
          · rfl
      · split
        · rfl
        · rw [ih (by omega), swp_size]
theorem siftDown_hs (hc : CmpOk cmp lt) {d : Array Key} {lo hi first : Nat} (hn : d.size = n) (hf : first + hi ≤ n) (hlo : lo ≤ n) (hmax : n < 2 ^ 59) (H : Hs h (S a n c d :: L)) (k : ∀ h', Hs h' (S a n c (siftDown lt hi first lo d) :: L) → Q (.tuple #[]) h') :
    SpecH PP F_slices_siftDownCmpFunc_api_Key [.slice a n c, .int .i64 (lo : Int), .int .i64 (hi : Int), .int .i64 (first : Int), cmp] h Q := by
  refine slices_siftDownCmpFunc_api_Key.door ?_
  have go : ∀ (r root : Nat) {h : Heap} {e : Array Key}, hi ≤ root + r → root ≤ n → e.size = n → siftDown lt hi first root e = siftDown lt hi first lo d → Hs h (S a n c e :: L) → slices_siftDownCmpFunc_api_Key.L1 a n c (hi : Int) (first : Int) cmp (root : Int) (slices_siftDownCmpFunc_api_Key.K1 Q) h := by
    intro r
    induction r with
    | zero =>
      intro root h e hr hi2 hs he H
      rw [siftDown, dif_pos (by omega)] at he
      refine slices_siftDownCmpFunc_api_Key.L1_of ?_
      dsimp only
      rw [wI (x := 2 * (root : Int)) (by omega) (by omega), wI (x := 2 * (root : Int) + 1) (by omega) (by omega)]
      refine br_true (decide_eq_true (by omega)) (slices_siftDownCmpFunc_api_Key.L1_X0 (k h ?_))
      rw [← he]; exact H
    | succ r ih =>
      intro root h e hr hi2 hs he H
      refine slices_siftDownCmpFunc_api_Key.L1_of ?_
      dsimp only
      rw [wI (x := 2 * (root : Int)) (by omega) (by omega), show IntKind.i64.wrap (2 * (root : Int) + 1) = ((2 * root + 1 : Nat) : Int) by rw [wI (by omega) (by omega)]; omega]
      rw [siftDown] at he
      refine (br_iff _ _ _).2 ⟨fun e1 => slices_siftDownCmpFunc_api_Key.L1_X0 (k h ?_), fun e1 => ?_⟩
      · have e1 := of_decide_eq_true e1
        rw [dif_pos (by omega)] at he
        rw [← he]; exact H
      have e1 := of_decide_eq_false e1
      rw [dif_neg (by omega)] at he
      have J2 : ∀ {h : Heap} {ch : Nat}, root < ch → ch < hi → (if (!lt e[first + root]! e[first + ch]!) = true then e else siftDown lt hi first ch (swp e (first + root) (first + ch))) = siftDown lt hi first lo d → Hs h (S a n c e :: L) →
          slices_siftDownCmpFunc_api_Key.J2 a n c (hi : Int) (first : Int) cmp (root : Int) (ch : Int) (slices_siftDownCmpFunc_api_Key.K1 Q) h := by
        intro h ch hch hch2 he H
        refine slices_siftDownCmpFunc_api_Key.J2_of ?_
        dsimp only
        rw [wA (by omega), wA (by omega)]
        refine lk hs (by omega) H fun t ht => ⟨_, _, _, ht, ?_⟩
        refine lk hs (by omega) H fun t ht => ⟨_, _, _, ht, ?_⟩
        refine hc e[first + root]! e[first + ch]! _ _ _ H fun h1 r hr H1 => ⟨_, rfl, ?_⟩
        rw [hr]
        refine (br_iff _ _ _).2 ⟨fun e2 => slices_siftDownCmpFunc_api_Key.L1_Xret (k h1 ?_), fun e2 => ?_⟩
        · rw [if_pos e2] at he
          rw [← he]; exact H1
        · rw [if_neg (by rw [e2]; simp)] at he
          refine swap_hs hs (by omega) (by omega) H1 fun h2 H2 => ?_
          exact ih ch (by omega) (by omega) (by rw [swp_size]; exact hs) he H2
      have J1 : ∀ {h : Heap} (b : Bool), (2 * root + 1 + 1 < hi && lt e[first + (2 * root + 1)]! e[first + (2 * root + 1) + 1]!) = b → Hs h (S a n c e :: L) →
          slices_siftDownCmpFunc_api_Key.J1 a n c (hi : Int) (first : Int) cmp (root : Int) ((2 * root + 1 : Nat) : Int) b (slices_siftDownCmpFunc_api_Key.K1 Q) h := by
        intro h b eb H
        refine slices_siftDownCmpFunc_api_Key.J1_of ((br_iff _ _ _).2 ⟨fun e2 => ?_, fun e2 => ?_⟩)
        · subst e2
          rw [if_pos eb] at he
          have : 2 * root + 2 < hi := by
            have := (Bool.and_eq_true _ _ ▸ eb).1
            have := of_decide_eq_true this; omega
          rw [dif_pos this] at he
          dsimp only
          rw [w1 (by omega)]
          exact J2 (by omega) (by omega) he H
        · subst e2
          rw [if_neg (by rw [eb]; simp)] at he
          exact J2 (by omega) (by omega) he H
      rw [w1 (by omega)]
      refine (br_iff _ _ _).2 ⟨fun e2 => ?_, fun e2 => J1 false ?_ H⟩
      · have e2 := of_decide_eq_true e2
        rw [wA (by omega), w1 (by omega)]
        refine lk hs (by omega) H fun t ht => ⟨_, _, _, ht, ?_⟩
        refine lk hs (by omega) H fun t ht => ⟨_, _, _, ht, ?_⟩
        refine hc e[first + (2 * root + 1)]! e[first + (2 * root + 1) + 1]! _ _ _ H fun h1 r hr H1 => ⟨_, rfl, ?_⟩
        refine J1 _ ?_ H1
        rw [hr, decide_eq_true (by omega), Bool.true_and]
      · have e2 := of_decide_eq_false e2
        rw [decide_eq_false (by omega), Bool.false_and]
  exact go hi lo (by omega) hlo hn rfl H
theorem heap_hs (hc : CmpOk cmp lt) {d : Array Key} {x y : Nat} (hn : d.size = n) (hxy : x < y) (hy : y ≤ n) (hmax : n < 2 ^ 59) (H : Hs h (S a n c d :: L)) (k : ∀ h', Hs h' (S a n c (heapSort lt d x y) :: L) → Q (.tuple #[]) h') :
    SpecH PP F_slices_heapSortCmpFunc_api_Key [.slice a n c, .int .i64 (x : Int), .int .i64 (y : Int), cmp] h Q := by
  refine slices_heapSortCmpFunc_api_Key.door ?_
  dsimp only
  rw [wS (by omega) (by omega), p1 (by omega) (by omega)]
  have t2 : Int.tdiv ((y - x - 1 : Nat) : Int) 2 = (((y - x - 1) / 2 : Nat) : Int) := tdiv_n _ 2
  rw [t2, wI (by omega) (by omega)]
  have pop : ∀ (m : Nat) {h : Heap} {e : Array Key}, m ≤ y - x → e.size = n → heapPop lt x m e = heapSort lt d x y → Hs h (S a n c e :: L) → slices_heapSortCmpFunc_api_Key.L2 a n c cmp (x : Int) 0 ((m : Int) - 1) (slices_heapSortCmpFunc_api_Key.K2 Q) h := by
    intro m
    induction m with
    | zero =>
      intro h e hm hs he H
      rw [heapPop] at he
      refine slices_heapSortCmpFunc_api_Key.L2_of (br_false (decide_eq_false (by omega)) (slices_heapSortCmpFunc_api_Key.L2_X2 (k h ?_)))
      rw [← he]; exact H
    | succ m ih =>
      intro h e hm hs he H
      rw [heapPop] at he
      refine slices_heapSortCmpFunc_api_Key.L2_of (br_true (decide_eq_true (by omega)) ?_)
      rw [show ((m + 1 : Nat) : Int) - 1 = (m : Int) by omega]
      dsimp only
      rw [wA (by omega)]
      refine swap_hs hs (by omega) (by omega) H fun h2 H2 => ?_
      refine siftDown_hs (lo := 0) hc (by rw [swp_size]; exact hs) (by omega) (by omega) hmax H2 fun h3 H3 => ⟨rfl, ?_⟩
      rw [wI (by omega) (by omega)]
      exact ih (by omega) (by rw [siftDown_size m (by omega), swp_size]; exact hs) he H3
  have build : ∀ (m : Nat) {h : Heap} {e : Array Key}, m ≤ y - x → e.size = n → heapPop lt x (y - x) (heapBuild lt (y - x) x m e) = heapSort lt d x y → Hs h (S a n c e :: L) →
      slices_heapSortCmpFunc_api_Key.L1 a n c cmp (x : Int) 0 ((y - x : Nat) : Int) ((m : Int) - 1) (slices_heapSortCmpFunc_api_Key.K1 Q) h := by
    intro m
    induction m with
    | zero =>
      intro h e hm hs he H
      rw [heapBuild] at he
      refine slices_heapSortCmpFunc_api_Key.L1_of (br_false (decide_eq_false (by omega)) (slices_heapSortCmpFunc_api_Key.L1_X0 ?_))
      dsimp only
      rw [wI (by omega) (by omega)]
      exact pop (y - x) (Nat.le_refl _) hs he H
    | succ m ih =>
      intro h e hm hs he H
      rw [heapBuild] at he
      refine slices_heapSortCmpFunc_api_Key.L1_of (br_true (decide_eq_true (by omega)) ?_)
      rw [show ((m + 1 : Nat) : Int) - 1 = (m : Int) by omega]
      refine siftDown_hs hc hs (by omega) (by omega) hmax H fun h3 H3 => ⟨rfl, ?_⟩
      dsimp only
      rw [wI (by omega) (by omega)]
      exact ih (by omega) (by rw [siftDown_size (y - x) (by omega)]; exact hs) he H3
  have := build ((y - x - 1) / 2 + 1) (by omega) hn rfl H
  rw [show (((y - x - 1) / 2 + 1 : Nat) : Int) - 1 = (((y - x - 1) / 2 : Nat) : Int) by omega] at this
  exact this
end Go.Proofs.Ytjkfngolgjbakaa.Srtapi_Key

set_option maxRecDepth 20000
set_option linter.unusedVariables false
set_option linter.unusedSimpArgs false
namespace Go.Proofs.Ytjkfngolgjbakaa.Srtapi_Key
open Go Go.HW Go.Sort
variable {h : Heap} {L : List Assn} {Q : Value → Heap → Prop} {a : OA} {n c : Nat} {cmp : Value} {lt : Key → Key → Bool}
/-! ### partialInsertionSort -/
theorem scanSorted_le {d : Array Key} {y : Nat} : ∀ (r i : Nat), y ≤ i + r → i ≤ y → i ≤ scanSorted lt d y i ∧ scanSorted lt d y i ≤ y := by
  intro r
  induction r with
  | zero => intro i h1 h2; rw [scanSorted, if_neg (by rw [decide_eq_false (by omega)]; simp)]; omega
  | succ r ih =>
    intro i h1 h2
    rw [scanSorted]
    split
    · rename_i e
      have := of_decide_eq_true (Bool.and_eq_true _ _ ▸ e).1
      have := ih (i + 1) (by omega) (by omega)
      omega
    · omega
theorem shiftDown_size : ∀ (j : Nat) (d : Array Key), (shiftDown lt j d).size = d.size
  | 0, d => rfl
  | j + 1, d => by rw [shiftDown]; split
                   · rfl
                   · rw [shiftDown_size j, swp_size]
theorem shiftUp_size {y : Nat} : ∀ (r j : Nat) (d : Array Key), y ≤ j + r → (shiftUp lt y j d).size = d.size := by
  intro r
  induction r with
  | zero => intro j d h; rw [shiftUp, if_neg (by omega)]
  | succ r ih =>
    intro j d h
    rw [shiftUp]
    split
    · split
      · rfl
      · rw [ih _ _ (by omega), swp_size]
    · rfl
theorem partialIns_hs (hc : CmpOk cmp lt) {d : Array Key} {x y : Nat} (hn : d.size = n) (hxy : x < y) (hy : y ≤ n) (hmax : n < 2 ^ 59) (H : Hs h (S a n c d :: L))
    (k : ∀ h', Hs h' (S a n c (partialInsertionSort lt d x y).1 :: L) → Q (.bool (partialInsertionSort lt d x y).2) h') :
    SpecH PP F_slices_partialInsertionSortCmpFunc_api_Key [.slice a n c, .int .i64 (x : Int), .int .i64 (y : Int), cmp] h Q := by
  refine slices_partialInsertionSortCmpFunc_api_Key.door ?_
  dsimp only
  rw [w1 (by omega)]
  have go : ∀ (s i : Nat) {h : Heap} {e : Array Key}, s ≤ 5 → x < i → i ≤ y → e.size = n → partialIns lt x y s i e = partialInsertionSort lt d x y → Hs h (S a n c e :: L) →
      slices_partialInsertionSortCmpFunc_api_Key.L1 a n c (x : Int) (y : Int) cmp (i : Int) ((5 - s : Nat) : Int) (slices_partialInsertionSortCmpFunc_api_Key.K1 Q) h := by
    intro s
    induction s with
    | zero =>
      intro i h e hs5 hxi hi hs he H
      rw [partialIns] at he
      refine slices_partialInsertionSortCmpFunc_api_Key.L1_of (br_false (decide_eq_false (by omega)) (slices_partialInsertionSortCmpFunc_api_Key.L1_X0 ?_))
      rw [← he] at k
      exact k h H
    | succ s ih =>
      intro i h e hs5 hxi hi hs he H
      refine slices_partialInsertionSortCmpFunc_api_Key.L1_of (br_true (decide_eq_true (by omega)) ?_)
      rw [partialIns] at he
      have hsc := scanSorted_le (lt := lt) (d := e) y i (by omega) hi
      have J2 : ∀ {i2 : Nat} {h : Heap} {f : Array Key}, x < i2 → i2 ≤ y → f.size = n → partialIns lt x y s i2 f = partialInsertionSort lt d x y → Hs h (S a n c f :: L) →
          slices_partialInsertionSortCmpFunc_api_Key.J2 a n c (x : Int) (y : Int) cmp (i2 : Int) ((5 - (s + 1) : Nat) : Int) (slices_partialInsertionSortCmpFunc_api_Key.K1 Q) h := by
        intro i2 h f h1 h2 hs he H
        refine slices_partialInsertionSortCmpFunc_api_Key.J2_of ?_
        dsimp only
        rw [w1 (by omega), show 5 - (s + 1) + 1 = 5 - s by omega]
        exact ih i2 (by omega) h1 h2 hs he H
      have up : ∀ (r j : Nat) {i2 : Nat} {h : Heap} {f g : Array Key}, y ≤ j + r → 1 ≤ j → x < i2 → i2 ≤ y → f.size = n → shiftUp lt y j f = g → partialIns lt x y s i2 g = partialInsertionSort lt d x y → Hs h (S a n c f :: L) →
          slices_partialInsertionSortCmpFunc_api_Key.L4 a n c (x : Int) (y : Int) cmp (i2 : Int) ((5 - (s + 1) : Nat) : Int) (j : Int) (slices_partialInsertionSortCmpFunc_api_Key.K7 (slices_partialInsertionSortCmpFunc_api_Key.K1 Q)) h := by
        intro r
        induction r with
        | zero =>
          intro j i2 h f g hr hj h1 h2 hs hg he H
          rw [shiftUp, if_neg (by omega)] at hg
          subst hg
          exact slices_partialInsertionSortCmpFunc_api_Key.L4_of (br_false (decide_eq_false (by omega)) (slices_partialInsertionSortCmpFunc_api_Key.L4_X6 (J2 h1 h2 hs he H)))
        | succ r ih4 =>
          intro j i2 h f g hr hj h1 h2 hs hg he H
          have hgs : g.size = n := by rw [← hg, shiftUp_size (r + 1) j f hr, hs]
          rw [shiftUp] at hg
          refine slices_partialInsertionSortCmpFunc_api_Key.L4_of ((br_iff _ _ _).2 ⟨fun e1 => ?_, fun e1 => slices_partialInsertionSortCmpFunc_api_Key.L4_X6 ?_⟩)
          · have e1 := of_decide_eq_true e1
            rw [if_pos (by omega)] at hg
            dsimp only
            rw [p1 hj (by omega)]
            refine lk hs (by omega) H fun t ht => ⟨_, _, _, ht, ?_⟩
            refine lk hs (by omega) H fun t ht => ⟨_, _, _, ht, ?_⟩
            refine hc f[j]! f[j - 1]! _ _ _ H fun h3 r hr H3 => ⟨_, rfl, ?_⟩
            rw [hr]
            refine (br_iff _ _ _).2 ⟨fun e2 => slices_partialInsertionSortCmpFunc_api_Key.L4_X6 ?_, fun e2 => ?_⟩
            · rw [if_pos e2] at hg; subst hg
              exact J2 h1 h2 hs he H3
            · rw [if_neg (by rw [e2]; simp)] at hg
              refine swap_hs hs (by omega) (by omega) H3 fun h5 H5 => ?_
              rw [w1 (by omega)]
              exact ih4 (j + 1) (by omega) (by omega) h1 h2 (by rw [swp_size]; exact hs) hg he H5
          · have e1 := of_decide_eq_false e1
            rw [if_neg (by omega)] at hg
            subst hg
            exact J2 h1 h2 hs he H
      have J1 : ∀ {i2 : Nat} {h : Heap} {f : Array Key}, x < i2 → i2 < y → f.size = n → partialIns lt x y s i2 (if y - i2 ≥ 2 then shiftUp lt y (i2 + 1) f else f) = partialInsertionSort lt d x y → Hs h (S a n c f :: L) →
          slices_partialInsertionSortCmpFunc_api_Key.J1 a n c (x : Int) (y : Int) cmp (i2 : Int) ((5 - (s + 1) : Nat) : Int) (slices_partialInsertionSortCmpFunc_api_Key.K1 Q) h := by
        intro i2 h f h1 h2 hs he H
        refine slices_partialInsertionSortCmpFunc_api_Key.J1_of ?_
        dsimp only
        rw [wS (by omega) (by omega)]
        refine (br_iff _ _ _).2 ⟨fun e1 => ?_, fun e1 => ?_⟩
        · have e1 := of_decide_eq_true e1
          rw [if_pos (by omega)] at he
          rw [w1 (by omega)]
          exact up y (i2 + 1) (by omega) (by omega) h1 (by omega) hs rfl he H
        · have e1 := of_decide_eq_false e1
          rw [if_neg (by omega)] at he
          exact J2 h1 (by omega) hs he H
      have down : ∀ (j : Nat) {i2 : Nat} {h : Heap} {f g : Array Key}, j < i2 → x < i2 → i2 < y → f.size = n → shiftDown lt j f = g → partialIns lt x y s i2 (if y - i2 ≥ 2 then shiftUp lt y (i2 + 1) g else g) = partialInsertionSort lt d x y → Hs h (S a n c f :: L) →
          slices_partialInsertionSortCmpFunc_api_Key.L3 a n c (x : Int) (y : Int) cmp (i2 : Int) ((5 - (s + 1) : Nat) : Int) (j : Int) (slices_partialInsertionSortCmpFunc_api_Key.K5 (slices_partialInsertionSortCmpFunc_api_Key.K1 Q)) h := by
        intro j
        induction j with
        | zero =>
          intro i2 h f g hj h1 h2 hs hg he H
          rw [shiftDown] at hg
          subst hg
          exact slices_partialInsertionSortCmpFunc_api_Key.L3_of (br_false (decide_eq_false (by omega)) (slices_partialInsertionSortCmpFunc_api_Key.L3_X4 (J1 h1 h2 hs he H)))
        | succ j ih3 =>
          intro i2 h f g hj h1 h2 hs hg he H
          rw [shiftDown] at hg
          refine slices_partialInsertionSortCmpFunc_api_Key.L3_of (br_true (decide_eq_true (by omega)) ?_)
          dsimp only
          rw [p1 (by omega) (by omega), show j + 1 - 1 = j by omega]
          refine lk hs (by omega) H fun t ht => ⟨_, _, _, ht, ?_⟩
          refine lk hs (by omega) H fun t ht => ⟨_, _, _, ht, ?_⟩
          refine hc f[j + 1]! f[j]! _ _ _ H fun h3 r hr H3 => ⟨_, rfl, ?_⟩
          rw [hr]
          refine (br_iff _ _ _).2 ⟨fun e2 => slices_partialInsertionSortCmpFunc_api_Key.L3_X4 ?_, fun e2 => ?_⟩
          · rw [if_pos e2] at hg; subst hg
            exact J1 h1 h2 hs he H3
          · rw [if_neg (by rw [e2]; simp)] at hg
            refine swap_hs hs (by omega) (by omega) H3 fun h5 H5 => ?_
            exact ih3 (by omega) h1 h2 (by rw [swp_size]; exact hs) hg he H5
      have scan : ∀ (r i0 : Nat) {h : Heap}, y ≤ i0 + r → x < i0 → i0 ≤ y → scanSorted lt e y i0 = scanSorted lt e y i → Hs h (S a n c e :: L) →
          slices_partialInsertionSortCmpFunc_api_Key.L2 a n c (x : Int) (y : Int) cmp (i0 : Int) ((5 - (s + 1) : Nat) : Int) (slices_partialInsertionSortCmpFunc_api_Key.K2 (slices_partialInsertionSortCmpFunc_api_Key.K1 Q)) h := by
        have stop : ∀ {i0 : Nat} {h : Heap}, i0 = scanSorted lt e y i → Hs h (S a n c e :: L) →
            slices_partialInsertionSortCmpFunc_api_Key.K2 (slices_partialInsertionSortCmpFunc_api_Key.K1 Q) (.exit 2) (slices_partialInsertionSortCmpFunc_api_Key.X2 a n c (x : Int) (y : Int) cmp (i0 : Int) ((5 - (s + 1) : Nat) : Int)) h := by
          intro i0 h ei H
          dsimp only at he
          rw [← ei] at he hsc
          refine slices_partialInsertionSortCmpFunc_api_Key.L2_X2 ?_
          refine (br_iff _ _ _).2 ⟨fun e1 => slices_partialInsertionSortCmpFunc_api_Key.L1_Xret ?_, fun e1 => ?_⟩
          · have e1 := beq_iff_eq.1 e1
            rw [if_pos (by omega)] at he
            rw [← he] at k
            exact k h H
          have e1 := beq_eq_false_iff_ne.1 e1
          rw [if_neg (by omega)] at he
          dsimp only
          rw [wS (by omega) (by omega)]
          refine (br_iff _ _ _).2 ⟨fun e2 => slices_partialInsertionSortCmpFunc_api_Key.L1_Xret ?_, fun e2 => ?_⟩
          · have e2 := of_decide_eq_true e2
            rw [if_pos (by omega)] at he
            rw [← he] at k
            exact k h H
          have e2 := of_decide_eq_false e2
          rw [if_neg (by omega)] at he
          rw [p1 (by omega) (by omega)]
          refine swap_hs hs (by omega) (by omega) H fun h5 H5 => ?_
          rw [wS (by omega) (by omega)]
          refine (br_iff _ _ _).2 ⟨fun e3 => ?_, fun e3 => ?_⟩
          · have e3 := of_decide_eq_true e3
            rw [show (if i0 - x ≥ 2 then shiftDown lt (i0 - 1) (swp e i0 (i0 - 1)) else swp e i0 (i0 - 1)) = shiftDown lt (i0 - 1) (swp e i0 (i0 - 1)) from if_pos (by omega)] at he
            exact down (i0 - 1) (by omega) (by omega) (by omega) (by rw [swp_size]; exact hs) rfl he H5
          · have e3 := of_decide_eq_false e3
            rw [show (if i0 - x ≥ 2 then shiftDown lt (i0 - 1) (swp e i0 (i0 - 1)) else swp e i0 (i0 - 1)) = swp e i0 (i0 - 1) from if_neg (by omega)] at he
            exact J1 (by omega) (by omega) (by rw [swp_size]; exact hs) he H5
        intro r
        induction r with
        | zero =>
          intro i0 h hr h1 h2 he2 H
          rw [scanSorted, if_neg (by rw [decide_eq_false (by omega)]; simp)] at he2
          exact slices_partialInsertionSortCmpFunc_api_Key.L2_of (br_false (decide_eq_false (by omega)) (stop he2 H))
        | succ r ih2 =>
          intro i0 h hr h1 h2 he2 H
          rw [scanSorted] at he2
          refine slices_partialInsertionSortCmpFunc_api_Key.L2_of ((br_iff _ _ _).2 ⟨fun e1 => ?_, fun e1 => stop ?_ H⟩)
          · have e1 := of_decide_eq_true e1
            dsimp only
            rw [p1 (by omega) (by omega)]
            refine lk hs (by omega) H fun t ht => ⟨_, _, _, ht, ?_⟩
            refine lk hs (by omega) H fun t ht => ⟨_, _, _, ht, ?_⟩
            refine hc e[i0]! e[i0 - 1]! _ _ _ H fun h3 r hr H3 => ⟨_, rfl, ?_⟩
            rw [hr]
            refine (br_iff _ _ _).2 ⟨fun e2 => ?_, fun e2 => stop ?_ H3⟩
            · rw [if_pos (by rw [e2, decide_eq_true (by omega)]; rfl)] at he2
              rw [w1 (by omega)]
              exact ih2 (i0 + 1) (by omega) (by omega) (by omega) he2 H3
            · rw [if_neg (by rw [e2]; simp)] at he2; exact he2
          · have e1 := of_decide_eq_false e1
            rw [if_neg (by rw [decide_eq_false (by omega)]; simp)] at he2; exact he2
      exact scan y i (by omega) hxi hi rfl H
  exact go 5 (x + 1) (Nat.le_refl _) (by omega) (by omega) hn rfl H
/-! ### the partitions -/
theorem scanUp_le {p : Key → Bool} {d : Array Key} {j : Nat} : ∀ (r i : Nat), j + 1 ≤ i + r → i ≤ scanUp p d j i ∧ (scanUp p d j i ≤ j + 1 ∨ scanUp p d j i = i) := by
  intro r
  induction r with
  | zero => intro i h1; rw [scanUp, if_neg (by rw [decide_eq_false (by omega)]; simp)]; omega
  | succ r ih =>
    intro i h1
    rw [scanUp]
    split
    · rename_i e
      have := of_decide_eq_true (Bool.and_eq_true _ _ ▸ e).1
      have := ih (i + 1) (by omega)
      omega
    · omega
theorem scanDown_le {p : Key → Bool} {d : Array Key} {i : Nat} : ∀ (j : Nat), scanDown p d i j ≤ j
  | 0 => Nat.le_refl _
  | j + 1 => by
    rw [scanDown]; split
    · have := scanDown_le (p := p) (d := d) (i := i) j; omega
    · exact Nat.le_refl _
theorem partition_hs (hc : CmpOk cmp lt) {d : Array Key} {x y p : Nat} (hn : d.size = n) (hxp : x ≤ p) (hpy : p < y) (hxy : x + 1 < y) (hy : y ≤ n) (hmax : n < 2 ^ 59) (H : Hs h (S a n c d :: L))
    (k : ∀ h', Hs h' (S a n c (Sort.partition lt d x y p).2.2 :: L) → Q (.tuple #[.int .i64 ((Sort.partition lt d x y p).1 : Nat), .bool (Sort.partition lt d x y p).2.1]) h') :
    SpecH PP F_slices_partitionCmpFunc_api_Key [.slice a n c, .int .i64 (x : Int), .int .i64 (y : Int), .int .i64 (p : Int), cmp] h Q := by
  refine slices_partitionCmpFunc_api_Key.door ?_
  refine swap_hs hn (by omega) (by omega) H fun h1 H1 => ?_
  dsimp only
  rw [w1 (by omega), p1 (by omega) (by omega)]
  unfold Sort.partition at k
  dsimp only at k
  have hs1 : (swp d x p).size = n := by rw [swp_size, hn]
  generalize swp d x p = e at H1 k hs1
  have hi0 := scanUp_le (p := fun z => lt z e[x]!) (d := e) (j := y - 1) y (x + 1) (by omega)
  -- the later rounds
  have later : ∀ (m i j : Nat) {h : Heap} {f : Array Key}, j + 1 ≤ i + m → x + 1 ≤ i → j < y → f.size = n →
      (∀ h', Hs h' (S a n c (swp (partLoop lt x i j f).2 (partLoop lt x i j f).1 x) :: L) → Q (.tuple #[.int .i64 ((partLoop lt x i j f).1 : Nat), .bool false]) h') → Hs h (S a n c f :: L) →
      slices_partitionCmpFunc_api_Key.L3 a n c (x : Int) cmp (i : Int) (j : Int) (slices_partitionCmpFunc_api_Key.K5 Q) h := by
    intro m
    induction m using Nat.strongRecOn with
    | _ m ihm =>
    intro i j h f hm hxi hj hs kk H
    refine slices_partitionCmpFunc_api_Key.L3_of ?_
    rw [partLoop] at kk
    have hu := scanUp_le (p := fun z => lt z f[x]!) (d := f) (j := j) (j + 1) i (by omega)
    have endK : ∀ {h : Heap} {i2 j2 : Nat}, i2 = scanUp (fun z => lt z f[x]!) f j i → j2 = scanDown (fun z => !lt z f[x]!) f i2 j → Hs h (S a n c f :: L) →
        slices_partitionCmpFunc_api_Key.K9 (slices_partitionCmpFunc_api_Key.K5 Q) (.exit 8) (slices_partitionCmpFunc_api_Key.X8 a n c (x : Int) cmp (i2 : Int) (j2 : Int)) h := by
      intro h i2 j2 ei ej H
      rw [← ei] at kk hu
      have hd := scanDown_le (p := fun z => !lt z f[x]!) (d := f) (i := i2) j
      rw [← ej] at kk hd
      refine slices_partitionCmpFunc_api_Key.L5_X8 ((br_iff _ _ _).2 ⟨fun e1 => slices_partitionCmpFunc_api_Key.L3_X4 ?_, fun e1 => ?_⟩)
      · have e1 := of_decide_eq_true e1
        rw [if_pos (by omega)] at kk
        exact swap_hs hs (by omega) (by omega) H fun h5 H5 => kk h5 H5
      · have e1 := of_decide_eq_false e1
        rw [if_neg (by omega), dif_pos (by omega)] at kk
        refine swap_hs hs (by omega) (by omega) H fun h5 H5 => ?_
        dsimp only
        rw [w1 (by omega), p1 (by omega) (by omega)]
        exact ihm (j2 - 1 + 1 - (i2 + 1)) (by omega) (i2 + 1) (j2 - 1) (by omega) (by omega) (by omega) (by rw [swp_size]; exact hs) kk H5
    have dn : ∀ (j3 : Nat) {h : Heap} {i2 : Nat}, i2 = scanUp (fun z => lt z f[x]!) f j i → j3 ≤ j → scanDown (fun z => !lt z f[x]!) f i2 j3 = scanDown (fun z => !lt z f[x]!) f i2 j → Hs h (S a n c f :: L) →
        slices_partitionCmpFunc_api_Key.L5 a n c (x : Int) cmp (i2 : Int) (j3 : Int) (slices_partitionCmpFunc_api_Key.K9 (slices_partitionCmpFunc_api_Key.K5 Q)) h := by
      intro j3
      induction j3 with
      | zero =>
        intro h i2 ei hj3 he H
        rw [scanDown] at he
        exact slices_partitionCmpFunc_api_Key.L5_of (br_false (decide_eq_false (by omega)) (endK ei he H))
      | succ j3 ihd =>
        intro h i2 ei hj3 he H
        rw [scanDown] at he
        refine slices_partitionCmpFunc_api_Key.L5_of ((br_iff _ _ _).2 ⟨fun e1 => ?_, fun e1 => endK ei ?_ H⟩)
        · have e1 := of_decide_eq_true e1
          refine lk hs (by omega) H fun t ht => ⟨_, _, _, ht, ?_⟩
          refine lk hs (by omega) H fun t ht => ⟨_, _, _, ht, ?_⟩
          refine hc f[j3 + 1]! f[x]! _ _ _ H fun h3 r hr H3 => ⟨_, rfl, ?_⟩
          dsimp only
          rw [hr]
          refine (br_iff _ _ _).2 ⟨fun e2 => ?_, fun e2 => endK ei ?_ H3⟩
          · rw [if_pos (by rw [e2, decide_eq_true (by omega)]; rfl)] at he
            rw [p1 (by omega) (by omega)]
            exact ihd ei (by omega) he H3
          · rw [if_neg (by rw [e2]; simp)] at he; exact he
        · have e1 := of_decide_eq_false e1
          rw [if_neg (by rw [decide_eq_false (by omega)]; simp)] at he; exact he
    have upp : ∀ (r i3 : Nat) {h : Heap}, j + 1 ≤ i3 + r → i ≤ i3 → scanUp (fun z => lt z f[x]!) f j i3 = scanUp (fun z => lt z f[x]!) f j i → Hs h (S a n c f :: L) →
        slices_partitionCmpFunc_api_Key.L4 a n c (x : Int) cmp (i3 : Int) (j : Int) (slices_partitionCmpFunc_api_Key.K7 (slices_partitionCmpFunc_api_Key.K5 Q)) h := by
      intro r
      induction r with
      | zero =>
        intro i3 h hr h1 he H
        rw [scanUp, if_neg (by rw [decide_eq_false (by omega)]; simp)] at he
        exact slices_partitionCmpFunc_api_Key.L4_of (br_false (decide_eq_false (by omega)) (slices_partitionCmpFunc_api_Key.L4_X6 (dn j he (Nat.le_refl _) rfl H)))
      | succ r ihu =>
        intro i3 h hr h1 he H
        rw [scanUp] at he
        refine slices_partitionCmpFunc_api_Key.L4_of ((br_iff _ _ _).2 ⟨fun e1 => ?_, fun e1 => slices_partitionCmpFunc_api_Key.L4_X6 (dn j ?_ (Nat.le_refl _) rfl H)⟩)
        · have e1 := of_decide_eq_true e1
          refine lk hs (by omega) H fun t ht => ⟨_, _, _, ht, ?_⟩
          refine lk hs (by omega) H fun t ht => ⟨_, _, _, ht, ?_⟩
          refine hc f[i3]! f[x]! _ _ _ H fun h3 r hr H3 => ⟨_, rfl, ?_⟩
          dsimp only
          rw [hr]
          refine (br_iff _ _ _).2 ⟨fun e2 => ?_, fun e2 => slices_partitionCmpFunc_api_Key.L4_X6 (dn j ?_ (Nat.le_refl _) rfl H3)⟩
          · rw [if_pos (by rw [e2, decide_eq_true (by omega)]; rfl)] at he
            rw [w1 (by omega)]
            exact ihu (i3 + 1) (by omega) (by omega) he H3
          · rw [if_neg (by rw [e2]; simp)] at he; exact he
        · have e1 := of_decide_eq_false e1
          rw [if_neg (by rw [decide_eq_false (by omega)]; simp)] at he; exact he
    exact upp (j + 1) i (by omega) (Nat.le_refl _) rfl H
  -- the first round
  have endK : ∀ {h : Heap} {i2 j2 : Nat}, i2 = scanUp (fun z => lt z e[x]!) e (y - 1) (x + 1) → j2 = scanDown (fun z => !lt z e[x]!) e i2 (y - 1) → Hs h (S a n c e :: L) →
      slices_partitionCmpFunc_api_Key.K2 Q (.exit 2) (slices_partitionCmpFunc_api_Key.X2 a n c (x : Int) cmp (i2 : Int) (j2 : Int)) h := by
    intro h i2 j2 ei ej H
    rw [← ei] at k hi0
    have hd := scanDown_le (p := fun z => !lt z e[x]!) (d := e) (i := i2) (y - 1)
    rw [← ej] at k hd
    refine slices_partitionCmpFunc_api_Key.L2_X2 ((br_iff _ _ _).2 ⟨fun e1 => ?_, fun e1 => ?_⟩)
    · have e1 := of_decide_eq_true e1
      rw [if_pos (by omega)] at k
      exact swap_hs hs1 (by omega) (by omega) H fun h5 H5 => k h5 H5
    · have e1 := of_decide_eq_false e1
      rw [if_neg (by omega)] at k
      refine swap_hs hs1 (by omega) (by omega) H fun h5 H5 => ?_
      dsimp only
      rw [w1 (by omega), p1 (by omega) (by omega)]
      exact later y (i2 + 1) (j2 - 1) (by omega) (by omega) (by omega) (by rw [swp_size]; exact hs1) k H5
  have dn : ∀ (j3 : Nat) {h : Heap} {i2 : Nat}, i2 = scanUp (fun z => lt z e[x]!) e (y - 1) (x + 1) → j3 ≤ y - 1 → scanDown (fun z => !lt z e[x]!) e i2 j3 = scanDown (fun z => !lt z e[x]!) e i2 (y - 1) → Hs h (S a n c e :: L) →
      slices_partitionCmpFunc_api_Key.L2 a n c (x : Int) cmp (i2 : Int) (j3 : Int) (slices_partitionCmpFunc_api_Key.K2 Q) h := by
    intro j3
    induction j3 with
    | zero =>
      intro h i2 ei hj3 he H
      rw [← ei] at hi0
      rw [scanDown] at he
      exact slices_partitionCmpFunc_api_Key.L2_of (br_false (decide_eq_false (by omega)) (endK ei he H))
    | succ j3 ihd =>
      intro h i2 ei hj3 he H
      have hi1 := hi0
      rw [← ei] at hi1
      rw [scanDown] at he
      refine slices_partitionCmpFunc_api_Key.L2_of ((br_iff _ _ _).2 ⟨fun e1 => ?_, fun e1 => endK ei ?_ H⟩)
      · have e1 := of_decide_eq_true e1
        refine lk hs1 (by omega) H fun t ht => ⟨_, _, _, ht, ?_⟩
        refine lk hs1 (by omega) H fun t ht => ⟨_, _, _, ht, ?_⟩
        refine hc e[j3 + 1]! e[x]! _ _ _ H fun h3 r hr H3 => ⟨_, rfl, ?_⟩
        dsimp only
        rw [hr]
        refine (br_iff _ _ _).2 ⟨fun e2 => ?_, fun e2 => endK ei ?_ H3⟩
        · rw [if_pos (by rw [e2, decide_eq_true (by omega)]; rfl)] at he
          rw [p1 (by omega) (by omega)]
          exact ihd ei (by omega) he H3
        · rw [if_neg (by rw [e2]; simp)] at he; exact he
      · have e1 := of_decide_eq_false e1
        rw [if_neg (by rw [decide_eq_false (by omega)]; simp)] at he; exact he
  have upp : ∀ (r i3 : Nat) {h : Heap}, y ≤ i3 + r → x + 1 ≤ i3 → scanUp (fun z => lt z e[x]!) e (y - 1) i3 = scanUp (fun z => lt z e[x]!) e (y - 1) (x + 1) → Hs h (S a n c e :: L) →
      slices_partitionCmpFunc_api_Key.L1 a n c (x : Int) cmp (i3 : Int) ((y - 1 : Nat) : Int) (slices_partitionCmpFunc_api_Key.K1 Q) h := by
    intro r
    induction r with
    | zero =>
      intro i3 h hr h1 he H
      rw [scanUp, if_neg (by rw [decide_eq_false (by omega)]; simp)] at he
      exact slices_partitionCmpFunc_api_Key.L1_of (br_false (decide_eq_false (by omega)) (slices_partitionCmpFunc_api_Key.L1_X0 (dn (y - 1) he (Nat.le_refl _) rfl H)))
    | succ r ihu =>
      intro i3 h hr h1 he H
      rw [scanUp] at he
      refine slices_partitionCmpFunc_api_Key.L1_of ((br_iff _ _ _).2 ⟨fun e1 => ?_, fun e1 => slices_partitionCmpFunc_api_Key.L1_X0 (dn (y - 1) ?_ (Nat.le_refl _) rfl H)⟩)
      · have e1 := of_decide_eq_true e1
        refine lk hs1 (by omega) H fun t ht => ⟨_, _, _, ht, ?_⟩
        refine lk hs1 (by omega) H fun t ht => ⟨_, _, _, ht, ?_⟩
        refine hc e[i3]! e[x]! _ _ _ H fun h3 r hr H3 => ⟨_, rfl, ?_⟩
        dsimp only
        rw [hr]
        refine (br_iff _ _ _).2 ⟨fun e2 => ?_, fun e2 => slices_partitionCmpFunc_api_Key.L1_X0 (dn (y - 1) ?_ (Nat.le_refl _) rfl H3)⟩
        · rw [if_pos (by rw [e2, decide_eq_true (by omega)]; rfl)] at he
          rw [w1 (by omega)]
          exact ihu (i3 + 1) (by omega) (by omega) he H3
        · rw [if_neg (by rw [e2]; simp)] at he; exact he
      · have e1 := of_decide_eq_false e1
        rw [if_neg (by rw [decide_eq_false (by omega)]; simp)] at he; exact he
  exact upp y (x + 1) (by omega) (Nat.le_refl _) rfl H1
theorem partitionEqual_hs (hc : CmpOk cmp lt) {d : Array Key} {x y p : Nat} (hn : d.size = n) (hxp : x ≤ p) (hpy : p < y) (hxy : x + 1 < y) (hy : y ≤ n) (hmax : n < 2 ^ 59) (H : Hs h (S a n c d :: L))
    (k : ∀ h', Hs h' (S a n c (partitionEqual lt d x y p).2 :: L) → Q (.int .i64 ((partitionEqual lt d x y p).1 : Nat)) h') :
    SpecH PP F_slices_partitionEqualCmpFunc_api_Key [.slice a n c, .int .i64 (x : Int), .int .i64 (y : Int), .int .i64 (p : Int), cmp] h Q := by
  refine slices_partitionEqualCmpFunc_api_Key.door ?_
  refine swap_hs hn (by omega) (by omega) H fun h1 H1 => ?_
  dsimp only
  rw [w1 (by omega), p1 (by omega) (by omega)]
  unfold partitionEqual at k
  have hs1 : (swp d x p).size = n := by rw [swp_size, hn]
  generalize swp d x p = e at H1 k hs1
  have later : ∀ (m i j : Nat) {h : Heap} {f : Array Key}, j + 1 ≤ i + m → x + 1 ≤ i → j < y → f.size = n →
      (∀ h', Hs h' (S a n c (partEqLoop lt x i j f).2 :: L) → Q (.int .i64 ((partEqLoop lt x i j f).1 : Nat)) h') → Hs h (S a n c f :: L) →
      slices_partitionEqualCmpFunc_api_Key.L1 a n c (x : Int) cmp (i : Int) (j : Int) (slices_partitionEqualCmpFunc_api_Key.K1 Q) h := by
    intro m
    induction m using Nat.strongRecOn with
    | _ m ihm =>
    intro i j h f hm hxi hj hs kk H
    refine slices_partitionEqualCmpFunc_api_Key.L1_of ?_
    rw [partEqLoop] at kk
    have hu := scanUp_le (p := fun z => !lt f[x]! z) (d := f) (j := j) (j + 1) i (by omega)
    have endK : ∀ {h : Heap} {i2 j2 : Nat}, i2 = scanUp (fun z => !lt f[x]! z) f j i → j2 = scanDown (fun z => lt f[x]! z) f i2 j → Hs h (S a n c f :: L) →
        slices_partitionEqualCmpFunc_api_Key.K5 (slices_partitionEqualCmpFunc_api_Key.K1 Q) (.exit 4) (slices_partitionEqualCmpFunc_api_Key.X4 a n c (x : Int) cmp (i2 : Int) (j2 : Int)) h := by
      intro h i2 j2 ei ej H
      rw [← ei] at kk hu
      have hd := scanDown_le (p := fun z => lt f[x]! z) (d := f) (i := i2) j
      rw [← ej] at kk hd
      refine slices_partitionEqualCmpFunc_api_Key.L3_X4 ((br_iff _ _ _).2 ⟨fun e1 => slices_partitionEqualCmpFunc_api_Key.L1_X0 ?_, fun e1 => ?_⟩)
      · have e1 := of_decide_eq_true e1
        rw [if_pos (by omega)] at kk
        exact kk h H
      · have e1 := of_decide_eq_false e1
        rw [if_neg (by omega), dif_pos (by omega)] at kk
        refine swap_hs hs (by omega) (by omega) H fun h5 H5 => ?_
        dsimp only
        rw [w1 (by omega), p1 (by omega) (by omega)]
        exact ihm (j2 - 1 + 1 - (i2 + 1)) (by omega) (i2 + 1) (j2 - 1) (by omega) (by omega) (by omega) (by rw [swp_size]; exact hs) kk H5
    have dn : ∀ (j3 : Nat) {h : Heap} {i2 : Nat}, i2 = scanUp (fun z => !lt f[x]! z) f j i → j3 ≤ j → scanDown (fun z => lt f[x]! z) f i2 j3 = scanDown (fun z => lt f[x]! z) f i2 j → Hs h (S a n c f :: L) →
        slices_partitionEqualCmpFunc_api_Key.L3 a n c (x : Int) cmp (i2 : Int) (j3 : Int) (slices_partitionEqualCmpFunc_api_Key.K5 (slices_partitionEqualCmpFunc_api_Key.K1 Q)) h := by
      intro j3
      induction j3 with
      | zero =>
        intro h i2 ei hj3 he H
        rw [scanDown] at he
        exact slices_partitionEqualCmpFunc_api_Key.L3_of (br_false (decide_eq_false (by omega)) (endK ei he H))
      | succ j3 ihd =>
        intro h i2 ei hj3 he H
        rw [scanDown] at he
        refine slices_partitionEqualCmpFunc_api_Key.L3_of ((br_iff _ _ _).2 ⟨fun e1 => ?_, fun e1 => endK ei ?_ H⟩)
        · have e1 := of_decide_eq_true e1
          refine lk hs (by omega) H fun t ht => ⟨_, _, _, ht, ?_⟩
          refine lk hs (by omega) H fun t ht => ⟨_, _, _, ht, ?_⟩
          refine hc f[x]! f[j3 + 1]! _ _ _ H fun h3 r hr H3 => ⟨_, rfl, ?_⟩
          dsimp only
          rw [hr]
          refine (br_iff _ _ _).2 ⟨fun e2 => ?_, fun e2 => endK ei ?_ H3⟩
          · rw [if_pos (by rw [e2, decide_eq_true (by omega)]; rfl)] at he
            rw [p1 (by omega) (by omega)]
            exact ihd ei (by omega) he H3
          · rw [if_neg (by rw [e2]; simp)] at he; exact he
        · have e1 := of_decide_eq_false e1
          rw [if_neg (by rw [decide_eq_false (by omega)]; simp)] at he; exact he
    have upp : ∀ (r i3 : Nat) {h : Heap}, j + 1 ≤ i3 + r → i ≤ i3 → scanUp (fun z => !lt f[x]! z) f j i3 = scanUp (fun z => !lt f[x]! z) f j i → Hs h (S a n c f :: L) →
        slices_partitionEqualCmpFunc_api_Key.L2 a n c (x : Int) cmp (i3 : Int) (j : Int) (slices_partitionEqualCmpFunc_api_Key.K2 (slices_partitionEqualCmpFunc_api_Key.K1 Q)) h := by
      intro r
      induction r with
      | zero =>
        intro i3 h hr h1 he H
        rw [scanUp, if_neg (by rw [decide_eq_false (by omega)]; simp)] at he
        exact slices_partitionEqualCmpFunc_api_Key.L2_of (br_false (decide_eq_false (by omega)) (slices_partitionEqualCmpFunc_api_Key.L2_X2 (dn j he (Nat.le_refl _) rfl H)))
      | succ r ihu =>
        intro i3 h hr h1 he H
        rw [scanUp] at he
        refine slices_partitionEqualCmpFunc_api_Key.L2_of ((br_iff _ _ _).2 ⟨fun e1 => ?_, fun e1 => slices_partitionEqualCmpFunc_api_Key.L2_X2 (dn j ?_ (Nat.le_refl _) rfl H)⟩)
        · have e1 := of_decide_eq_true e1
          refine lk hs (by omega) H fun t ht => ⟨_, _, _, ht, ?_⟩
          refine lk hs (by omega) H fun t ht => ⟨_, _, _, ht, ?_⟩
          refine hc f[x]! f[i3]! _ _ _ H fun h3 r hr H3 => ⟨_, rfl, ?_⟩
          dsimp only
          rw [hr]
          refine (br_iff _ _ _).2 ⟨fun e2 => ?_, fun e2 => slices_partitionEqualCmpFunc_api_Key.L2_X2 (dn j ?_ (Nat.le_refl _) rfl H3)⟩
          · rw [if_pos (by rw [e2, decide_eq_true (by omega)]; rfl)] at he
            rw [w1 (by omega)]
            exact ihu (i3 + 1) (by omega) (by omega) he H3
          · rw [if_neg (by rw [e2]; simp)] at he; exact he
        · have e1 := of_decide_eq_false e1
          rw [if_neg (by rw [decide_eq_false (by omega)]; simp)] at he; exact he
    exact upp (j + 1) i (by omega) (Nat.le_refl _) rfl H
  exact later y (x + 1) (y - 1) (by omega) (by omega) (by omega) hs1 k H1
end Go.Proofs.Ytjkfngolgjbakaa.Srtapi_Key

set_option maxRecDepth 20000
set_option linter.unusedVariables false
set_option linter.unusedSimpArgs false
namespace Go.Proofs.Ytjkfngolgjbakaa.Srtapi_Key
open Go Go.HW Go.Sort
variable {h : Heap} {L : List Assn} {Q : Value → Heap → Prop} {a : OA} {n c : Nat} {cmp : Value} {lt : Key → Key → Bool}
theorem bits_half {x : Nat} (h : 1 ≤ x) : bitsLen x = bitsLen (x / 2) + 1 := by
  unfold bitsLen
  rw [if_neg (by omega)]
  by_cases e : x = 1
  · subst e; rfl
  · rw [if_neg (by omega), Nat.log2_def, if_pos (by omega)]
theorem bits_shift {x : Nat} : ∀ (k : Nat), 2 ^ k ≤ x → bitsLen x = bitsLen (x / 2 ^ k) + k
  | 0, _ => by simp
  | k + 1, h => by
    have h2 : 2 ^ k * 2 ≤ x := by rw [← Nat.pow_succ]; exact h
    have h3 : 2 ≤ x / 2 ^ k := by rw [Nat.le_div_iff_mul_le (Nat.two_pow_pos k)]; omega
    rw [bits_shift k (by omega), bits_half (by omega), Nat.div_div_eq_div_mul, ← Nat.pow_succ]
    show bitsLen (x / 2 ^ (k + 1)) + 1 + k = bitsLen (x / 2 ^ (k + 1)) + (k + 1)
    omega
abbrev len8 : ByteArray := ⟨#[0, 1, 2, 2, 3, 3, 3, 3, 4, 4, 4, 4, 4, 4, 4, 4, 5, 5, 5, 5, 5, 5, 5, 5, 5, 5, 5, 5, 5, 5, 5, 5, 6, 6, 6, 6, 6, 6, 6, 6, 6, 6, 6, 6, 6, 6, 6, 6, 6, 6, 6, 6, 6, 6, 6, 6, 6, 6, 6, 6, 6, 6, 6, 6, 7, 7, 7, 7, 7, 7, 7, 7, 7, 7, 7, 7, 7, 7, 7, 7, 7, 7, 7, 7, 7, 7, 7, 7, 7, 7, 7, 7, 7, 7, 7, 7, 7, 7, 7, 7, 7, 7, 7, 7, 7, 7, 7, 7, 7, 7, 7, 7, 7, 7, 7, 7, 7, 7, 7, 7, 7, 7, 7, 7, 7, 7, 7, 7, 8, 8, 8, 8, 8, 8, 8, 8, 8, 8, 8, 8, 8, 8, 8, 8, 8, 8, 8, 8, 8, 8, 8, 8, 8, 8, 8, 8, 8, 8, 8, 8, 8, 8, 8, 8, 8, 8, 8, 8, 8, 8, 8, 8, 8, 8, 8, 8, 8, 8, 8, 8, 8, 8, 8, 8, 8, 8, 8, 8, 8, 8, 8, 8, 8, 8, 8, 8, 8, 8, 8, 8, 8, 8, 8, 8, 8, 8, 8, 8, 8, 8, 8, 8, 8, 8, 8, 8, 8, 8, 8, 8, 8, 8, 8, 8, 8, 8, 8, 8, 8, 8, 8, 8, 8, 8, 8, 8, 8, 8, 8, 8, 8, 8, 8, 8, 8, 8, 8, 8, 8, 8, 8, 8, 8, 8, 8, 8]⟩
theorem len8_ok : ∀ x, x < 256 → (sb len8)[x]? = some (bitsLen x) := by
  have : ∀ x : Fin 256, (sb len8)[x.val]? = some (bitsLen x.val) := by decide +kernel
  exact fun x hx => this ⟨x, hx⟩
theorem Len_hs {x : Nat} (hx : x < 2 ^ 62) (H : Hs h L) (k : ∀ h', Hs h' L → Q (.int .i64 (bitsLen x : Nat)) h') : SpecH PP F_math_bits_Len [.int .u64 x] h Q := by
  refine math_bits_Len.door (math_bits_Len64.door ?_)
  have J3 : ∀ {y m : Nat}, y < 256 → m ≤ 60 → bitsLen y + m = bitsLen x → math_bits_Len64.J3 (y : Int) (m : Int) (fun v h1 => ∃ (t7 : Int), v = .int .i64 t7 ∧ Q (.int .i64 t7) h1) h := by
    intro y m hy hm e
    refine math_bits_Len64.J3_of ?_
    dsimp only
    rw [wrap_u8_id (a := y) hy]
    have hsz : y < len8.size := hy
    have hv := len8_ok y hy
    have hb : bitsLen y ≤ 8 := by
      have : ∀ z : Fin 256, bitsLen z.val ≤ 8 := by decide +kernel
      exact this ⟨y, hy⟩
    refine hwp_sidx U_string hsz ⟨_, rfl, ?_⟩
    rw [List.getElem?_eq_getElem (by rw [sb_len]; exact hsz)] at hv
    rw [Option.some.inj hv, wrap_i64_z (z := (bitsLen y : Nat)) (by omega) (by omega), wrap_i64_z (by omega) (by omega)]
    refine ⟨_, rfl, ?_⟩
    rw [show (m : Int) + (bitsLen y : Nat) = ((bitsLen x : Nat) : Int) by omega]
    exact k h H
  have J2 : ∀ {y m : Nat}, y < 65536 → m ≤ 50 → bitsLen y + m = bitsLen x → math_bits_Len64.J2 (y : Int) (m : Int) (fun v h1 => ∃ (t7 : Int), v = .int .i64 t7 ∧ Q (.int .i64 t7) h1) h := by
    intro y m hy hm e
    refine math_bits_Len64.J2_of ((br_iff _ _ _).2 ⟨fun e1 => ?_, fun e1 => ?_⟩)
    · have e1 := of_decide_eq_true e1
      dsimp only
      rw [show sShr .u64 (y : Int) 8 = ((y / 2 ^ 8 : Nat) : Int) from shr_u64 (m := 8) (by omega), show IntKind.i64.wrap ((m : Int) + 8) = ((m + 8 : Nat) : Int) by rw [wrap_i64_z (by omega) (by omega)]; omega]
      exact J3 (by omega) (by omega) (by have := bits_shift (x := y) 8 (by omega); omega)
    · have e1 := of_decide_eq_false e1
      exact J3 (by omega) (by omega) e
  have J1 : ∀ {y m : Nat}, y < 4294967296 → m ≤ 32 → bitsLen y + m = bitsLen x → math_bits_Len64.J1 (y : Int) (m : Int) (fun v h1 => ∃ (t7 : Int), v = .int .i64 t7 ∧ Q (.int .i64 t7) h1) h := by
    intro y m hy hm e
    refine math_bits_Len64.J1_of ((br_iff _ _ _).2 ⟨fun e1 => ?_, fun e1 => ?_⟩)
    · have e1 := of_decide_eq_true e1
      dsimp only
      rw [show sShr .u64 (y : Int) 16 = ((y / 2 ^ 16 : Nat) : Int) from shr_u64 (m := 16) (by omega), show IntKind.i64.wrap ((m : Int) + 16) = ((m + 16 : Nat) : Int) by rw [wrap_i64_z (by omega) (by omega)]; omega]
      exact J2 (by omega) (by omega) (by have := bits_shift (x := y) 16 (by omega); omega)
    · have e1 := of_decide_eq_false e1
      exact J2 (by omega) (by omega) e
  refine (br_iff _ _ _).2 ⟨fun e1 => ?_, fun e1 => ?_⟩
  · have e1 := of_decide_eq_true e1
    dsimp only
    rw [show sShr .u64 (x : Int) 32 = ((x / 2 ^ 32 : Nat) : Int) from shr_u64 (m := 32) (by omega)]
    exact J1 (m := 32) (by omega) (by omega) (by have := bits_shift (x := x) 32 (by omega); omega)
  · have e1 := of_decide_eq_false e1
    exact J1 (m := 0) (by omega) (by omega) rfl
theorem next_hs {r : UInt64} {rb : Nat} (H : Hs h (pt rb T_slices_xorshift [.int .u64 (r.toNat : Nat)] :: L)) (k : ∀ h', Hs h' (pt rb T_slices_xorshift [.int .u64 ((xorNext r).toNat : Nat)] :: L) → Q (.int .u64 ((xorNext r).toNat : Nat)) h') :
    SpecH PP F_slices_xorshift_Next [.pointer (some ⟨rb, 0, none⟩)] h Q := by
  refine slices_xorshift_Next.door ?_
  dsimp only [nilc]
  have sh : ∀ (s : UInt64) (m : Nat) (hm : m < 64), (s <<< UInt64.ofNat m).toNat = s.toNat * 2 ^ m % 18446744073709551616 := fun s m hm => by
    rw [UInt64.toNat_shiftLeft, Nat.shiftLeft_eq]
    have : (UInt64.ofNat m).toNat % 64 = m := by simp; omega
    rw [this]
  have sr : ∀ (s : UInt64) (m : Nat) (hm : m < 64), (s >>> UInt64.ofNat m).toNat = s.toNat / 2 ^ m := fun s m hm => by
    rw [UInt64.toNat_shiftRight, Nat.shiftRight_eq_div_pow]
    have : (UInt64.ofNat m).toNat % 64 = m := by simp; omega
    rw [this]
  have lt64 : ∀ s : UInt64, s.toNat < 18446744073709551616 := fun s => s.toNat_lt
  have A : ∀ (s : UInt64), bXor .u64 (s.toNat : Nat) (sShl .u64 (s.toNat : Nat) 13) = (((s ^^^ (s <<< 13)).toNat : Nat) : Int) := fun s => by
    rw [show sShl .u64 (s.toNat : Int) 13 = ((s.toNat * 2 ^ 13 % 18446744073709551616 : Nat) : Int) from shl_u64 (m := 13) (lt64 s), xor_u64 (lt64 s) (Nat.mod_lt _ (by decide)), UInt64.toNat_xor, ← sh s 13 (by decide)]; rfl
  have B : ∀ (s : UInt64), bXor .u64 (s.toNat : Nat) (sShr .u64 (s.toNat : Nat) 7) = (((s ^^^ (s >>> 7)).toNat : Nat) : Int) := fun s => by
    rw [show sShr .u64 (s.toNat : Int) 7 = ((s.toNat / 2 ^ 7 : Nat) : Int) from shr_u64 (m := 7) (lt64 s), xor_u64 (lt64 s) (by have := lt64 s; omega), UInt64.toNat_xor, ← sr s 7 (by decide)]; rfl
  have C : ∀ (s : UInt64), bXor .u64 (s.toNat : Nat) (sShl .u64 (s.toNat : Nat) 17) = (((s ^^^ (s <<< 17)).toNat : Nat) : Int) := fun s => by
    rw [show sShl .u64 (s.toNat : Int) 17 = ((s.toNat * 2 ^ 17 % 18446744073709551616 : Nat) : Int) from shl_u64 (m := 17) (lt64 s), xor_u64 (lt64 s) (Nat.mod_lt _ (by decide)), UInt64.toNat_xor, ← sh s 17 (by decide)]; rfl
  refine ⟨_, H.cell (off := 0) rfl, _, H.cell (off := 0) rfl, H.sto (off := 0) (by simp) fun h1 H1 => ?_⟩
  rw [A r] at H1
  refine ⟨_, H1.cell (off := 0) rfl, _, H1.cell (off := 0) rfl, H1.sto (off := 0) (by simp) fun h2 H2 => ?_⟩
  rw [B] at H2
  refine ⟨_, H2.cell (off := 0) rfl, _, H2.cell (off := 0) rfl, H2.sto (off := 0) (by simp) fun h3 H3 => ⟨_, H3.cell (off := 0) rfl, ?_⟩⟩
  rw [C] at H3 ⊢
  exact k h3 H3
theorem bits_pow {x : Nat} (h : 1 ≤ x) : x < 2 ^ bitsLen x ∧ 2 ^ bitsLen x ≤ 2 * x := by
  unfold bitsLen
  rw [if_neg (by omega)]
  have h1 := Nat.lt_log2_self (n := x)
  have h2 := Nat.log2_self_le (n := x) (by omega)
  rw [Nat.pow_succ] at h1 ⊢
  omega
theorem break_hs {d : Array Key} {x y : Nat} (hn : d.size = n) (hxy : x ≤ y) (hy : y ≤ n) (hmax : n < 2 ^ 59) (H : Hs h (S a n c d :: L)) (k : ∀ h', Hs h' (S a n c (breakPatterns d x y) :: L) → Q (.tuple #[]) h') :
    SpecH PP F_slices_breakPatternsCmpFunc_api_Key [.slice a n c, .int .i64 (x : Int), .int .i64 (y : Int), cmp] h Q := by
  refine slices_breakPatternsCmpFunc_api_Key.door ?_
  dsimp only
  rw [wS hxy (by omega)]
  unfold breakPatterns at k
  dsimp only at k
  generalize hm : y - x = m at k ⊢
  refine (br_iff _ _ _).2 ⟨fun e => ?_, fun e => ?_⟩
  · have e := of_decide_eq_true e
    rw [if_pos (by omega)] at k
    rw [wrap_u64_id (a := m) (by omega)]
    refine (H.new (t := T_slices_xorshift) (cs := #[.int .u64 0]) (xs := [.int .u64 0])).sto (off := 0) (by simp) fun h1 H1 => ?_
    generalize Array.size h = rb at H1 ⊢
    have em : m = (UInt64.ofNat m).toNat := by simp; omega
    refine slices_nextPowerOfTwo.door ?_
    dsimp only
    rw [wrap_u64_id (a := m) (by omega)]
    refine Len_hs (by omega) H1 fun h2 H2 => ⟨_, rfl, br_true (decide_eq_true (by omega)) ⟨_, rfl, ?_⟩⟩
    obtain ⟨b1, b2⟩ := bits_pow (x := m) (by omega)
    have hmod : sShl .u64 1 (bitsLen m : Nat) = ((1 <<< bitsLen m : Nat) : Int) := by
      rw [show sShl .u64 1 ((bitsLen m : Nat) : Int) = ((1 * 2 ^ bitsLen m % 18446744073709551616 : Nat) : Int) from shl_u64 (a := 1) (by decide), Nat.shiftLeft_eq, Nat.mod_eq_of_lt (by omega)]
    rw [hmod]
    have hM : 1 <<< bitsLen m = 2 ^ bitsLen m := by rw [Nat.shiftLeft_eq, Nat.one_mul]
    generalize hMM : 1 <<< bitsLen m = M at k hM ⊢
    have q4 : 4 * (m / 4) ≤ m := Nat.mul_div_le _ _
    have t4 : Int.tdiv (m : Int) 4 = ((m / 4 : Nat) : Int) := tdiv_n _ 4
    have tt : IntKind.i64.wrap (IntKind.i64.wrap (Int.tdiv (m : Int) 4) * 2) = ((m / 4 * 2 : Nat) : Int) := by rw [t4, wI (x := ((m / 4 : Nat) : Int)) (by omega) (by omega), wI (by omega) (by omega)]; omega
    rw [tt, wA (by omega), p1 (by omega) (by omega)]
    rw [show (Value.int .u64 (m : Int)) = .int .u64 ((UInt64.ofNat m).toNat : Nat) by rw [← em]] at H2
    have round : ∀ (r : Nat) {h : Heap} {s : UInt64} {f : Array Key}, 1 ≤ r → r ≤ 3 → (∀ h', Hs h' (S a n c (breakStep x m M (s, f) (x + m / 4 * 2 + 2 - r)).2 :: pt rb T_slices_xorshift [.int .u64 ((breakStep x m M (s, f) (x + m / 4 * 2 + 2 - r)).1.toNat : Nat)] :: L) →
        slices_breakPatternsCmpFunc_api_Key.L1 a n c (x : Int) (m : Int) ⟨rb, 0, none⟩ (M : Int) ((x + m / 4 * 2 + 2 - r + 1 : Nat) : Int) (slices_breakPatternsCmpFunc_api_Key.K1 Q) h') →
        Hs h (S a n c f :: pt rb T_slices_xorshift [.int .u64 (s.toNat : Nat)] :: L) → slices_breakPatternsCmpFunc_api_Key.L1 a n c (x : Int) (m : Int) ⟨rb, 0, none⟩ (M : Int) ((x + m / 4 * 2 + 2 - r : Nat) : Int) (slices_breakPatternsCmpFunc_api_Key.K1 Q) h := by
      intro r h s f hr1 hr kk H
      have hs : f.size = n := by have := H.own_len; rw [flat_len phl] at this; simp only [Array.length_toList] at this; omega
      refine slices_breakPatternsCmpFunc_api_Key.L1_of ?_
      dsimp only
      rw [tt, wA (by omega), w1 (by omega)]
      refine br_true (decide_eq_true (by omega)) ?_
      refine next_hs H.m1 fun h1 H1 => ⟨_, rfl, ?_⟩
      unfold breakStep at kk
      dsimp only at kk
      have hx := (xorNext s).toNat_lt
      generalize (xorNext s) = s2 at H1 kk hx ⊢
      have hand : bAnd .u64 (s2.toNat : Nat) (IntKind.u64.wrap ((M : Int) - 1)) = ((s2.toNat &&& (M - 1) : Nat) : Int) := by
        rw [show (M : Int) - 1 = ((M - 1 : Nat) : Int) by omega, wrap_u64_id (by omega), and_u64 hx (by omega)]
      have hle : s2.toNat &&& (M - 1) ≤ M - 1 := Nat.and_le_right
      rw [hand, wI (by omega) (by omega)]
      generalize s2.toNat &&& (M - 1) = o at kk hle ⊢
      have J : ∀ o2 : Nat, o2 < m → o2 = (if o ≥ m then o - m else o) → slices_breakPatternsCmpFunc_api_Key.J1 a n c (x : Int) (m : Int) ⟨rb, 0, none⟩ (M : Int) ((x + m / 4 * 2 + 2 - r : Nat) : Int) (o2 : Int) (slices_breakPatternsCmpFunc_api_Key.K1 Q) h1 := by
        intro o2 ho eo
        rw [← eo] at kk
        refine slices_breakPatternsCmpFunc_api_Key.J1_of ?_
        dsimp only
        rw [wA (by omega)]
        refine swap_hs hs (by omega) (by omega) H1.m1 fun h3 H3 => ?_
        rw [w1 (by omega)]
        exact kk h3 H3
      refine (br_iff _ _ _).2 ⟨fun e1 => ?_, fun e1 => ?_⟩
      · have e1 := of_decide_eq_true e1
        rw [wS (by omega) (by omega)]
        exact J (o - m) (by omega) (by rw [if_pos (by omega)])
      · have e1 := of_decide_eq_false e1
        exact J o (by omega) (by rw [if_neg (by omega)])
    have H2' := H2.m1
    rw [show x + m / 4 * 2 - 1 = x + m / 4 * 2 + 2 - 3 by omega] at k ⊢
    refine round 3 (by omega) (by omega) (fun h3 H3 => ?_) H2'
    rw [show x + m / 4 * 2 + 2 - 3 + 1 = x + m / 4 * 2 + 2 - 2 by omega] at k ⊢
    refine round 2 (by omega) (by omega) (fun h4 H4 => ?_) H3
    rw [show x + m / 4 * 2 + 2 - 2 + 1 = x + m / 4 * 2 + 2 - 1 by omega]
    rw [show x + m / 4 * 2 + 2 - 3 + 2 = x + m / 4 * 2 + 2 - 1 by omega] at k
    refine round 1 (by omega) (by omega) (fun h5 H5 => ?_) H4
    refine slices_breakPatternsCmpFunc_api_Key.L1_of ?_
    dsimp only
    rw [tt, wA (by omega), w1 (by omega)]
    exact br_false (decide_eq_false (by omega)) (slices_breakPatternsCmpFunc_api_Key.L1_X0 (k h5 (H5.m1.tl)))
  · have e := of_decide_eq_false e
    rw [if_neg (by omega)] at k
    exact k h H
end Go.Proofs.Ytjkfngolgjbakaa.Srtapi_Key

set_option maxRecDepth 20000
set_option linter.unusedVariables false
set_option linter.unusedSimpArgs false
namespace Go.Proofs.Ytjkfngolgjbakaa.Srtapi_Key
open Go Go.HW Go.Sort
variable {h : Heap} {L : List Assn} {Q : Value → Heap → Prop} {a : OA} {n c : Nat} {cmp : Value} {lt : Key → Key → Bool}
theorem S_size {d : Array Key} (H : Hs h (S a n c d :: L)) : d.size = n := by
  have := H.own_len
  rw [flat_len phl] at this
  simp only [Array.length_toList] at this
  omega
def st3 (lt : Key → Key → Bool) (d3 : Array Key) (x y lim : Nat) (wb wp : Bool) (pivot : Nat) : Array Key :=
  if x > 0 && !lt d3[x - 1]! d3[pivot]! then
    if _h : x < (partitionEqual lt d3 x y pivot).1 ∧ (partitionEqual lt d3 x y pivot).1 ≤ y then pdq lt (partitionEqual lt d3 x y pivot).2 (partitionEqual lt d3 x y pivot).1 y lim wb wp else (partitionEqual lt d3 x y pivot).2
  else
    if _h : x ≤ (Sort.partition lt d3 x y pivot).1 ∧ (Sort.partition lt d3 x y pivot).1 < y then
      if (Sort.partition lt d3 x y pivot).1 - x < y - (Sort.partition lt d3 x y pivot).1 then
        pdq lt (pdq lt (Sort.partition lt d3 x y pivot).2.2 x (Sort.partition lt d3 x y pivot).1 lim true true) ((Sort.partition lt d3 x y pivot).1 + 1) y lim (decide ((Sort.partition lt d3 x y pivot).1 - x ≥ (y - x) / 8)) (Sort.partition lt d3 x y pivot).2.1
      else
        pdq lt (pdq lt (Sort.partition lt d3 x y pivot).2.2 ((Sort.partition lt d3 x y pivot).1 + 1) y lim true true) x (Sort.partition lt d3 x y pivot).1 lim (decide (y - (Sort.partition lt d3 x y pivot).1 ≥ (y - x) / 8)) (Sort.partition lt d3 x y pivot).2.1
    else (Sort.partition lt d3 x y pivot).2.2
def st2 (lt : Key → Key → Bool) (d2 : Array Key) (x y lim : Nat) (wb wp : Bool) (pivot : Nat) (hint : Hint) : Array Key :=
  let pi := if wb && wp && hint = .increasing then partialInsertionSort lt d2 x y else (d2, false)
  if pi.2 then pi.1 else st3 lt pi.1 x y lim wb wp pivot
def st1 (lt : Key → Key → Bool) (d1 : Array Key) (x y lim : Nat) (wb wp : Bool) : Array Key :=
  st2 lt (if (choosePivot lt d1 x y).2 = .decreasing then reverseRange d1 x y else d1) x y lim wb wp (if (choosePivot lt d1 x y).2 = .decreasing then (y - 1) - ((choosePivot lt d1 x y).1 - x) else (choosePivot lt d1 x y).1)
    (if (choosePivot lt d1 x y).2 = .decreasing then Hint.increasing else (choosePivot lt d1 x y).2)
theorem pdq_st (d : Array Key) (x y lim : Nat) (wb wp : Bool) : pdq lt d x y lim wb wp = if y - x ≤ 12 then insertionSort lt d x y else if lim = 0 then heapSort lt d x y else
    st1 lt (if !wb then breakPatterns d x y else d) x y (if !wb then lim - 1 else lim) wb wp := by
  rw [pdq]
  rfl
/-- Where a partition ends, whatever the order. -/
theorem scanDown_lo {p : Key → Bool} {d : Array Key} {i : Nat} : ∀ (j : Nat), scanDown p d i j = j ∨ i ≤ scanDown p d i j + 1
  | 0 => .inl rfl
  | j + 1 => by
    rw [scanDown]; split
    · rename_i e
      have := of_decide_eq_true (Bool.and_eq_true _ _ ▸ e).1
      rcases scanDown_lo (p := p) (d := d) (i := i) j with e2 | e2
      · rw [e2]; exact .inr (by omega)
      · exact .inr e2
    · exact .inl rfl
theorem partLoop_in {x y : Nat} : ∀ (m i j : Nat) (f : Array Key), j + 1 ≤ i + m → x + 1 ≤ i → x ≤ j → j < y → x ≤ (partLoop lt x i j f).1 ∧ (partLoop lt x i j f).1 < y := by
  intro m
  induction m using Nat.strongRecOn with
  | _ m ihm =>
  intro i j f hm hi hj hy
  rw [partLoop]
  have hu := scanUp_le (p := fun z => lt z f[x]!) (d := f) (j := j) (j + 1) i (by omega)
  generalize scanUp (fun z => lt z f[x]!) f j i = i2 at hu ⊢
  have hd := scanDown_le (p := fun z => !lt z f[x]!) (d := f) (i := i2) j
  have hd2 := scanDown_lo (p := fun z => !lt z f[x]!) (d := f) (i := i2) j
  generalize scanDown (fun z => !lt z f[x]!) f i2 j = j2 at hd hd2 ⊢
  split
  · omega
  · rw [dif_pos (by omega)]
    exact ihm (j2 - 1 + 1 - (i2 + 1)) (by omega) _ _ _ (by omega) (by omega) (by omega) (by omega)
theorem partEqLoop_in {x y : Nat} : ∀ (m i j : Nat) (f : Array Key), j + 1 ≤ i + m → x + 1 ≤ i → i ≤ y → j < y → x < (partEqLoop lt x i j f).1 ∧ (partEqLoop lt x i j f).1 ≤ y := by
  intro m
  induction m using Nat.strongRecOn with
  | _ m ihm =>
  intro i j f hm hi hiy hy
  rw [partEqLoop]
  have hu := scanUp_le (p := fun z => !lt f[x]! z) (d := f) (j := j) (j + 1) i (by omega)
  generalize scanUp (fun z => !lt f[x]! z) f j i = i2 at hu ⊢
  have hd := scanDown_le (p := fun z => lt f[x]! z) (d := f) (i := i2) j
  generalize scanDown (fun z => lt f[x]! z) f i2 j = j2 at hd ⊢
  split
  · omega
  · rw [dif_pos (by omega)]
    exact ihm (j2 - 1 + 1 - (i2 + 1)) (by omega) _ _ _ (by omega) (by omega) (by omega) (by omega)
theorem partition_in {d : Array Key} {x y p : Nat} (h : x + 1 < y) : x ≤ (Sort.partition lt d x y p).1 ∧ (Sort.partition lt d x y p).1 < y := by
  unfold Sort.partition
  dsimp only
  generalize swp d x p = e
  have hu := scanUp_le (p := fun z => lt z e[x]!) (d := e) (j := y - 1) y (x + 1) (by omega)
  generalize scanUp (fun z => lt z e[x]!) e (y - 1) (x + 1) = i2 at hu ⊢
  have hd := scanDown_le (p := fun z => !lt z e[x]!) (d := e) (i := i2) (y - 1)
  have hd2 := scanDown_lo (p := fun z => !lt z e[x]!) (d := e) (i := i2) (y - 1)
  generalize scanDown (fun z => !lt z e[x]!) e i2 (y - 1) = j2 at hd hd2 ⊢
  split
  · dsimp only; omega
  · dsimp only
    exact partLoop_in y _ _ _ (by omega) (by omega) (by omega) (by omega)
theorem partitionEqual_in {d : Array Key} {x y p : Nat} (h : x + 1 < y) : x < (partitionEqual lt d x y p).1 ∧ (partitionEqual lt d x y p).1 ≤ y := by
  unfold partitionEqual
  exact partEqLoop_in y _ _ _ (by omega) (by omega) (by omega) (by omega)
theorem pdq_loop (hc : CmpOk cmp lt) (hmax : n < 2 ^ 59) : ∀ (m x y lim : Nat) (wb wp : Bool) {h : Heap} {Q : Value → Heap → Prop} {d : Array Key}, y ≤ x + m → x ≤ y → y ≤ n → lim < 2 ^ 60 → Hs h (S a n c d :: L) → (∀ h', Hs h' (S a n c (pdq lt d x y lim wb wp) :: L) → Q (.tuple #[]) h') →
    slices_pdqsortCmpFunc_api_Key.L1 a n c (x : Int) (y : Int) (lim : Int) cmp wb wp (slices_pdqsortCmpFunc_api_Key.K1 Q) h := by
  intro m
  induction m using Nat.strongRecOn with
  | _ m ihm =>
  intro x y lim wb wp h Q d hm hxy hy hlim H k
  have hn := S_size H
  refine slices_pdqsortCmpFunc_api_Key.L1_of ?_
  dsimp only
  rw [wS hxy (by omega)]
  rw [pdq_st] at k
  refine (br_iff _ _ _).2 ⟨fun e => ?_, fun e => ?_⟩
  · have e := of_decide_eq_true e
    rw [if_pos (by omega)] at k
    exact insertion_hs hc hn hxy hy (by omega) H fun h1 H1 => ⟨rfl, slices_pdqsortCmpFunc_api_Key.L1_Xret (k h1 H1)⟩
  have e := of_decide_eq_false e
  rw [if_neg (by omega)] at k
  refine (br_iff _ _ _).2 ⟨fun e0 => ?_, fun e0 => ?_⟩
  · have e0 := beq_iff_eq.1 e0
    rw [if_pos (by omega)] at k
    exact heap_hs hc hn (by omega) hy hmax H fun h1 H1 => ⟨rfl, slices_pdqsortCmpFunc_api_Key.L1_Xret (k h1 H1)⟩
  have e0 := beq_eq_false_iff_ne.1 e0
  rw [if_neg (by omega)] at k
  -- behind the pivot
  have J5 : ∀ {h : Heap} {d3 : Array Key} {lim : Nat} {p : Nat} (b : Bool), x ≤ p → p < y → lim < 2 ^ 60 → (decide (x > 0) && !lt d3[x - 1]! d3[p]!) = b → (∀ h', Hs h' (S a n c (st3 lt d3 x y lim wb wp p) :: L) → Q (.tuple #[]) h') → Hs h (S a n c d3 :: L) →
      slices_pdqsortCmpFunc_api_Key.J5 a n c (x : Int) (y : Int) (lim : Int) cmp wb wp ((y - x : Nat) : Int) (p : Int) b (slices_pdqsortCmpFunc_api_Key.K1 Q) h := by
    intro h d3 lim p b hp1 hp2 hlim hb k H
    have hn := S_size H
    unfold st3 at k
    refine slices_pdqsortCmpFunc_api_Key.J5_of ((br_iff _ _ _).2 ⟨fun e1 => ?_, fun e1 => ?_⟩)
    · subst e1
      rw [if_pos hb] at k
      have hin := partitionEqual_in (lt := lt) (d := d3) (x := x) (y := y) (p := p) (by omega)
      rw [dif_pos hin] at k
      refine partitionEqual_hs hc hn hp1 hp2 (by omega) hy hmax H fun h1 H1 => ⟨_, rfl, ?_⟩
      generalize partitionEqual lt d3 x y p = r at hin k H1 ⊢
      exact ihm (y - r.1) (by omega) r.1 y lim wb wp (by omega) hin.2 hy hlim H1 k
    · subst e1
      rw [if_neg (by rw [hb]; simp)] at k
      have hin := partition_in (lt := lt) (d := d3) (x := x) (y := y) (p := p) (by omega)
      rw [dif_pos hin] at k
      refine partition_hs hc hn hp1 hp2 (by omega) hy hmax H fun h1 H1 => ⟨_, _, rfl, ?_⟩
      generalize Sort.partition lt d3 x y p = r at hin k H1 ⊢
      have t8 : Int.tdiv ((y - x : Nat) : Int) 8 = (((y - x) / 8 : Nat) : Int) := tdiv_n _ 8
      dsimp only
      rw [wS hin.1 (by omega), wS (by omega) (by omega), t8, wI (x := (((y - x) / 8 : Nat) : Int)) (by omega) (by omega), w1 (i := r.1) (by omega)]
      refine (br_iff _ _ _).2 ⟨fun e2 => ?_, fun e2 => ?_⟩
      · have e2 := of_decide_eq_true e2
        rw [if_pos (by omega)] at k
        refine slices_pdqsortCmpFunc_api_Key.door (ihm (r.1 - x) (by omega) x r.1 lim true true (by omega) hin.1 (by omega) hlim H1 fun h2 H2 => ⟨rfl, ?_⟩)
        rw [show decide (((r.1 - x : Nat) : Int) ≥ (((y - x) / 8 : Nat) : Int)) = decide (r.1 - x ≥ (y - x) / 8) from decide_eq_decide.2 (by omega)]
        exact ihm (y - (r.1 + 1)) (by omega) (r.1 + 1) y lim _ _ (by omega) (by omega) hy hlim H2 k
      · have e2 := of_decide_eq_false e2
        rw [if_neg (by omega)] at k
        refine slices_pdqsortCmpFunc_api_Key.door (ihm (y - (r.1 + 1)) (by omega) (r.1 + 1) y lim true true (by omega) (by omega) hy hlim H1 fun h2 H2 => ⟨rfl, ?_⟩)
        rw [show decide (((y - r.1 : Nat) : Int) ≥ (((y - x) / 8 : Nat) : Int)) = decide (y - r.1 ≥ (y - x) / 8) from decide_eq_decide.2 (by omega)]
        exact ihm (r.1 - x) (by omega) x r.1 lim _ _ (by omega) hin.1 (by omega) hlim H2 k
  have J4 : ∀ {h : Heap} {d3 : Array Key} {lim : Nat} {p : Nat}, x ≤ p → p < y → lim < 2 ^ 60 → (∀ h', Hs h' (S a n c (st3 lt d3 x y lim wb wp p) :: L) → Q (.tuple #[]) h') → Hs h (S a n c d3 :: L) →
      slices_pdqsortCmpFunc_api_Key.J4 a n c (x : Int) (y : Int) (lim : Int) cmp wb wp ((y - x : Nat) : Int) (p : Int) (slices_pdqsortCmpFunc_api_Key.K1 Q) h := by
    intro h d3 lim p hp1 hp2 hlim k H
    have hn := S_size H
    refine slices_pdqsortCmpFunc_api_Key.J4_of ((br_iff _ _ _).2 ⟨fun e1 => ?_, fun e1 => ?_⟩)
    · have e1 := of_decide_eq_true e1
      dsimp only
      rw [p1 (by omega) (by omega)]
      refine lk hn (by omega) H fun t ht => ⟨_, _, _, ht, ?_⟩
      refine lk hn (by omega) H fun t ht => ⟨_, _, _, ht, ?_⟩
      refine hc d3[x - 1]! d3[p]! _ _ _ H fun h3 r hr H3 => ⟨_, rfl, ?_⟩
      rw [hr]
      exact J5 _ hp1 hp2 hlim (by rw [decide_eq_true (by omega)]; rfl) k H3
    · have e1 := of_decide_eq_false e1
      exact J5 false hp1 hp2 hlim (by rw [decide_eq_false (by omega)]; rfl) k H
  have J3 : ∀ {h : Heap} {d2 : Array Key} {lim : Nat} {p : Nat} {hint : Hint} (b : Bool), x ≤ p → p < y → lim < 2 ^ 60 → (wb && wp && decide (hint = .increasing)) = b → (∀ h', Hs h' (S a n c (st2 lt d2 x y lim wb wp p hint) :: L) → Q (.tuple #[]) h') → Hs h (S a n c d2 :: L) →
      slices_pdqsortCmpFunc_api_Key.J3 a n c (x : Int) (y : Int) (lim : Int) cmp wb wp ((y - x : Nat) : Int) (p : Int) b (slices_pdqsortCmpFunc_api_Key.K1 Q) h := by
    intro h d2 lim p hint b hp1 hp2 hlim hb k H
    have hn := S_size H
    unfold st2 at k
    dsimp only at k
    refine slices_pdqsortCmpFunc_api_Key.J3_of ((br_iff _ _ _).2 ⟨fun e1 => ?_, fun e1 => ?_⟩)
    · subst e1
      rw [show (if (wb && wp && decide (hint = .increasing)) = true then partialInsertionSort lt d2 x y else (d2, false)) = partialInsertionSort lt d2 x y from if_pos hb] at k
      refine partialIns_hs hc hn (by omega) hy hmax H fun h1 H1 => ⟨_, rfl, ?_⟩
      generalize partialInsertionSort lt d2 x y = r at k H1 ⊢
      refine (br_iff _ _ _).2 ⟨fun e2 => slices_pdqsortCmpFunc_api_Key.L1_Xret (k h1 ?_), fun e2 => ?_⟩
      · rw [if_pos e2]; exact H1
      · rw [if_neg (by rw [e2]; simp)] at k
        exact J4 hp1 hp2 hlim k H1
    · subst e1
      rw [show (if (wb && wp && decide (hint = .increasing)) = true then partialInsertionSort lt d2 x y else (d2, false)) = (d2, false) from if_neg (by rw [hb]; simp)] at k
      exact J4 hp1 hp2 hlim k H
  have J2 : ∀ {h : Heap} {d2 : Array Key} {lim : Nat} {p : Nat} {hint : Hint}, x ≤ p → p < y → lim < 2 ^ 60 → (∀ h', Hs h' (S a n c (st2 lt d2 x y lim wb wp p hint) :: L) → Q (.tuple #[]) h') → Hs h (S a n c d2 :: L) →
      slices_pdqsortCmpFunc_api_Key.J2 a n c (x : Int) (y : Int) (lim : Int) cmp wb wp ((y - x : Nat) : Int) (p : Int) (hintN hint : Nat) (slices_pdqsortCmpFunc_api_Key.K1 Q) h := by
    intro h d2 lim p hint hp1 hp2 hlim k H
    refine slices_pdqsortCmpFunc_api_Key.J2_of ?_
    refine (br_iff _ _ _).2 ⟨fun e1 => (br_iff _ _ _).2 ⟨fun e2 => J3 (hint := hint) _ hp1 hp2 hlim ?_ k H, fun e2 => J3 (hint := hint) _ hp1 hp2 hlim ?_ k H⟩, fun e1 => J3 (hint := hint) _ hp1 hp2 hlim ?_ k H⟩
    · rw [e1, e2]; cases hint <;> rfl
    · rw [e1, e2]; rfl
    · rw [e1]; rfl
  have J1 : ∀ {h : Heap} {d1 : Array Key} {lim : Nat}, lim < 2 ^ 60 → (∀ h', Hs h' (S a n c (st1 lt d1 x y lim wb wp) :: L) → Q (.tuple #[]) h') → Hs h (S a n c d1 :: L) →
      slices_pdqsortCmpFunc_api_Key.J1 a n c (x : Int) (y : Int) (lim : Int) cmp wb wp ((y - x : Nat) : Int) (slices_pdqsortCmpFunc_api_Key.K1 Q) h := by
    intro h d1 lim hlim k H
    have hn := S_size H
    refine slices_pdqsortCmpFunc_api_Key.J1_of ?_
    have hin := choosePivot_in (lt := lt) (d := d1) (x := x) (y := y) (by omega)
    refine choosePivot_hs hc hn (by omega) hy (by omega) H fun h1 H1 => ⟨_, _, rfl, ?_⟩
    unfold st1 at k
    generalize choosePivot lt d1 x y = r at hin k ⊢
    obtain ⟨p, hint⟩ := r
    dsimp only at hin k ⊢
    refine (br_iff _ _ _).2 ⟨fun e1 => ?_, fun e1 => ?_⟩
    · have e2 : hint = .decreasing := by cases hint <;> first | rfl | (simp [hintN] at e1)
      rw [if_pos e2, if_pos e2, if_pos e2] at k
      refine reverse_hs hn (by omega) hy (by omega) H1 fun h2 H2 => ⟨rfl, ?_⟩
      rw [p1 (by omega) (by omega), wS hin.1 (by omega), wS (by omega) (by omega)]
      exact J2 (hint := .increasing) (by omega) (by omega) hlim k H2
    · have e2 : hint ≠ .decreasing := by rintro rfl; simp [hintN] at e1
      rw [if_neg e2, if_neg e2, if_neg e2] at k
      exact J2 hin.1 hin.2 hlim k H1
  refine (br_iff _ _ _).2 ⟨fun e1 => ?_, fun e1 => ?_⟩
  · rw [if_pos e1, if_pos e1] at k
    refine break_hs hn hxy hy hmax H fun h1 H1 => ⟨rfl, ?_⟩
    rw [p1 (by omega) (by omega)]
    exact J1 (by omega) k H1
  · rw [if_neg (by rw [e1]; simp), if_neg (by rw [e1]; simp)] at k
    exact J1 hlim k H
/-- SortFunc: a permutation that stands in order. -/
theorem SortFunc_hs (hc : CmpOk cmp lt) (hw : SWO lt) {d : Array Key} (hmax : n < 2 ^ 59) (H : Hs h (S a n c d :: L)) (k : ∀ h' (e : Array Key), e.toList.Perm d.toList → (∀ i j, i < j → j < n → lt e[j]! e[i]! = false) → Hs h' (S a n c e :: L) → Q (.tuple #[]) h') :
    SpecH PP F_slices_SortFunc_api_Key_api_Key [.slice a n c, cmp] h Q := by
  have hn := S_size H
  refine slices_SortFunc_api_Key_api_Key.door ?_
  dsimp only
  rw [wrap_u64_id (by omega)]
  refine Len_hs (by omega) H fun h1 H1 => ⟨_, rfl, ?_⟩
  have hb : bitsLen n < 2 ^ 60 := by
    rcases Nat.eq_zero_or_pos n with rfl | hp
    · show 0 < _; decide
    · have := bits_pow hp
      have h2 : bitsLen n < 2 ^ bitsLen n := Nat.lt_two_pow_self
      omega
  refine slices_pdqsortCmpFunc_api_Key.door ?_
  have hp := pdq_sorts lt hw d 0 n (bitsLen n) true true (by omega) (by omega) (.inl rfl)
  refine pdq_loop hc hmax n 0 n (bitsLen n) true true (by omega) (by omega) (Nat.le_refl _) hb H1 fun h2 H2 => ⟨rfl, ?_⟩
  refine k h2 _ ?_ (fun i j hij hj => hp.2 i j (Nat.zero_le _) hij hj) H2
  have := hp.1.2.2
  have ex : ∀ z : Array Key, z.size = n → z.extract 0 n = z := fun z hz => by rw [← hz]; exact Array.extract_size
  rw [ex _ (hp.1.1.trans hn), ex d hn] at this
  exact this
end Go.Proofs.Ytjkfngolgjbakaa.Srtapi_Key

set_option linter.unusedVariables false
namespace Go.Proofs.Ytjkfngolgjbakaa
open Go Go.HW
theorem bl_eq : ∀ (x y : List UInt8), Op.bytesLess x y = decide (x < y)
  | [], [] => by simp [Op.bytesLess]
  | _ :: _, [] => by simp [Op.bytesLess]
  | [], _ :: _ => by simp [Op.bytesLess]
  | a :: x, b :: y => by
    rw [Op.bytesLess, bl_eq x y]
    simp only [List.cons_lt_cons_iff]
    by_cases h1 : a < b <;> by_cases h2 : a = b <;> by_cases h3 : x < y <;> simp [h1, h2, h3]
theorem strLt_eq (x y : ByteArray) : strLt x y = decide (x.data.toList < y.data.toList) := by
  unfold strLt; rw [bl_eq, ByteArray.toList_eq, ByteArray.toList_eq]
theorem ba_ext {x y : ByteArray} (h : x.data.toList = y.data.toList) : x = y := by
  cases x; cases y; simp only at h; rw [Array.toList_inj.1 h]
theorem sl_irrefl (x : ByteArray) : strLt x x = false := by rw [strLt_eq]; simp [List.lt_irrefl]
theorem sl_trans {x y z : ByteArray} (h1 : strLt x y = true) (h2 : strLt y z = true) : strLt x z = true := by
  rw [strLt_eq, decide_eq_true_eq] at *; exact List.lt_trans h1 h2
theorem sl_tri {x y : ByteArray} (h1 : strLt x y = false) (h2 : strLt y x = false) : x = y := by
  rw [strLt_eq, decide_eq_false_iff_not, List.not_lt] at *; exact ba_ext (List.le_antisymm h2 h1)
theorem sl_asymm {x y : ByteArray} (h : strLt x y = true) : strLt y x = false := by
  cases e : strLt y x with
  | false => rfl
  | true => have := sl_trans h e; rw [sl_irrefl] at this; cases this
def klt (a b : Key) : Bool := if a.t ≠ b.t then strLt a.t b.t else if a.a ≠ b.a then strLt a.a b.a else strLt a.e b.e
theorem klt_irrefl (a : Key) : klt a a = false := by unfold klt; simp [sl_irrefl]
theorem klt_asymm {a b : Key} (h : klt a b = true) : klt b a = false := by
  unfold klt at *
  by_cases e1 : a.t = b.t
  · rw [if_neg (by simpa using e1)] at h
    rw [if_neg (by simpa using e1.symm)]
    by_cases e2 : a.a = b.a
    · rw [if_neg (by simpa using e2)] at h
      rw [if_neg (by simpa using e2.symm)]; exact sl_asymm h
    · rw [if_pos (by simpa using e2)] at h
      rw [if_pos (fun q => e2 q.symm)]; exact sl_asymm h
  · rw [if_pos (by simpa using e1)] at h
    rw [if_pos (fun q => e1 q.symm)]; exact sl_asymm h
theorem klt_tri {a b : Key} (h1 : klt a b = false) (h2 : klt b a = false) : a = b := by
  unfold klt at *
  by_cases e1 : a.t = b.t
  · rw [if_neg (by simpa using e1)] at h1
    rw [if_neg (by simpa using e1.symm)] at h2
    by_cases e2 : a.a = b.a
    · rw [if_neg (by simpa using e2)] at h1
      rw [if_neg (by simpa using e2.symm)] at h2
      have e3 := sl_tri h1 h2
      cases a; cases b; simp only at e1 e2 e3; rw [e1, e2, e3]
    · rw [if_pos (by simpa using e2)] at h1
      rw [if_pos (fun q => e2 q.symm)] at h2
      exact absurd (sl_tri h1 h2) e2
  · rw [if_pos (by simpa using e1)] at h1
    rw [if_pos (fun q => e1 q.symm)] at h2
    exact absurd (sl_tri h1 h2) e1
theorem klt_trans {a b c : Key} (h1 : klt a b = true) (h2 : klt b c = true) : klt a c = true := by
  unfold klt at *
  by_cases e1 : a.t = b.t
  · rw [if_neg (by simpa using e1)] at h1
    rw [e1]
    by_cases f1 : b.t = c.t
    · rw [if_neg (by simpa using f1)] at h2
      rw [if_neg (by simpa using f1)]
      by_cases e2 : a.a = b.a
      · rw [if_neg (by simpa using e2)] at h1
        rw [e2]
        by_cases f2 : b.a = c.a
        · rw [if_neg (by simpa using f2)] at h2
          rw [if_neg (by simpa using f2)]; exact sl_trans h1 h2
        · rw [if_pos (by simpa using f2)] at h2
          rw [if_pos (by simpa using f2)]; exact h2
      · rw [if_pos (by simpa using e2)] at h1
        by_cases f2 : b.a = c.a
        · rw [← f2, if_pos (by simpa using e2)]; exact h1
        · rw [if_pos (by simpa using f2)] at h2
          have h3 := sl_trans h1 h2
          rw [if_pos (fun q => by rw [q, sl_irrefl] at h3; cases h3)]; exact h3
    · rw [if_pos (by simpa using f1)] at h2
      rw [if_pos (by simpa using f1)]; exact h2
  · rw [if_pos (by simpa using e1)] at h1
    by_cases f1 : b.t = c.t
    · rw [← f1, if_pos (by simpa using e1)]; exact h1
    · rw [if_pos (by simpa using f1)] at h2
      have h3 := sl_trans h1 h2
      rw [if_pos (fun q => by rw [q, sl_irrefl] at h3; cases h3)]; exact h3
theorem klt_ntrans {a b c : Key} (h1 : klt a b = false) (h2 : klt b c = false) : klt a c = false := by
  cases e : klt a c with
  | false => rfl
  | true =>
    cases e2 : klt b a with
    | false => have := klt_tri h1 e2; subst this; rw [e] at h2; cases h2
    | true => have := klt_trans e2 e; rw [this] at h2; cases h2
def wlt (x y : Wr) : Bool := klt x.k y.k
theorem wlt_swo : Sort.SWO wlt := ⟨fun x => klt_irrefl _, fun x y z => klt_trans, fun x y z => klt_ntrans⟩
/-- Strictly rising rows. -/
def Rise (l : List Wr) : Prop := l.Pairwise fun x y => wlt x y = true
theorem rise_uniq : ∀ {l m : List Wr}, Rise l → Rise m → l.Perm m → l = m
  | [], m, _, _, p => by rw [List.nil_perm.1 p]
  | x :: l, [], _, _, p => by have := List.perm_nil.1 p; cases this
  | x :: l, y :: m, h1, h2, p => by
    have h1' := List.pairwise_cons.1 h1
    have h2' := List.pairwise_cons.1 h2
    have e : x = y := by
      by_cases e : x = y
      · exact e
      have hx : x ∈ y :: m := p.subset (List.mem_cons_self ..)
      have hy : y ∈ x :: l := p.symm.subset (List.mem_cons_self ..)
      rcases List.mem_cons.1 hx with q | q
      · exact absurd q e
      rcases List.mem_cons.1 hy with q2 | q2
      · exact absurd q2.symm e
      have a := h2'.1 x q
      have b := h1'.1 y q2
      have := klt_asymm a
      unfold wlt at b; rw [this] at b; cases b
    subst e
    rw [rise_uniq h1'.2 h2'.2 ((List.perm_cons x).1 p)]
end Go.Proofs.Ytjkfngolgjbakaa

set_option maxRecDepth 20000
set_option linter.unusedVariables false
set_option linter.unusedSimpArgs false
namespace Go.Proofs.Ytjkfngolgjbakaa
open Go Go.HW
variable {h : Heap} {L : List Assn} {Q : Value → Heap → Prop}
def cmpI (x y : ByteArray) : Int := if strLt x y = true then -1 else if x = y then 0 else 1
theorem isNaN_pure (x : ByteArray) : PureAt PP F_cmp_isNaN_string [.string x] (.bool false) := by
  intro h
  refine cmp_isNaN_string.door ?_
  simp
theorem Compare_pure (x y : ByteArray) : PureAt PP F_cmp_Compare_string [.string x, .string y] (.int .i64 (cmpI x y)) := by
  intro h
  refine cmp_Compare_string.door ⟨_, isNaN_pure x, _, rfl, _, isNaN_pure y, _, rfl, br_false rfl (br_false rfl ?_)⟩
  unfold cmpI
  refine (br_iff _ _ _).2 ⟨fun e => ?_, fun e => (br_iff _ _ _).2 ⟨fun e2 => ?_, fun e2 => ?_⟩⟩
  · rw [if_pos e]; simp
  · rw [e] at e2
    have e3 : ¬ x = y := by simpa using e2
    rw [if_neg (by rw [e]; simp), if_neg e3]; simp
  · rw [e] at e2
    have e3 : x = y := by simpa using e2
    rw [if_neg (by rw [e]; simp), if_pos e3]; simp
theorem or_hs {a b c : Int} {bk : Nat} (H : Hs h (pt bk T_int [.int .i64 a, .int .i64 b, .int .i64 c] :: L)) (k : ∀ h', Hs h' L → Q (.int .i64 (if a ≠ 0 then a else if b ≠ 0 then b else c)) h') : SpecH PP F_cmp_Or_int [.slice (some ⟨bk, 0, none⟩) 3 3] h Q := by
  refine cmp_Or_int.door ?_
  have r : Rd h (some ⟨bk, 0, none⟩) [.int .i64 a, .int .i64 b, .int .i64 c] := H.ptrd rfl
  refine cmp_Or_int.L1_of (br_true rfl ?_)
  refine idx (i := 0) E_sl_int r (by decide) (by decide) rfl fun t ht => ⟨_, ht, (br_iff _ _ _).2 ⟨fun e => cmp_Or_int.L1_Xret ?_, fun e => ?_⟩⟩
  · have e : a ≠ 0 := bne_iff_ne.1 e
    rw [if_pos e] at k; exact k h H.tl
  have e : a = 0 := bne_eq_false_iff_eq.1 e
  rw [if_neg (by simpa using e)] at k
  dsimp only
  refine cmp_Or_int.L1_of (br_true rfl ?_)
  refine idx (i := 1) E_sl_int r (by decide) (by decide) rfl fun t ht => ⟨_, ht, (br_iff _ _ _).2 ⟨fun e => cmp_Or_int.L1_Xret ?_, fun e => ?_⟩⟩
  · have e : b ≠ 0 := bne_iff_ne.1 e
    rw [if_pos e] at k; exact k h H.tl
  have e : b = 0 := bne_eq_false_iff_eq.1 e
  rw [if_neg (by simpa using e)] at k
  dsimp only
  refine cmp_Or_int.L1_of (br_true rfl ?_)
  refine idx (i := 2) E_sl_int r (by decide) (by decide) rfl fun t ht => ⟨_, ht, (br_iff _ _ _).2 ⟨fun e => cmp_Or_int.L1_Xret (k h H.tl), fun e => ?_⟩⟩
  have e : c = 0 := bne_eq_false_iff_eq.1 e
  dsimp only
  refine cmp_Or_int.L1_of (br_false rfl (cmp_Or_int.L1_X0 ?_))
  rw [e] at k
  exact k h H.tl
theorem cmpI_lt {x y : ByteArray} : decide (cmpI x y < 0) = strLt x y := by
  unfold cmpI
  cases e : strLt x y with
  | true => simp
  | false => rw [if_neg (by simp)]; split <;> simp
theorem cmpI_ne {x y : ByteArray} : cmpI x y ≠ 0 ↔ x ≠ y := by
  unfold cmpI
  by_cases e : x = y
  · subst e; rw [sl_irrefl]; simp
  · cases e2 : strLt x y <;> simp [e]
theorem cmp3 (x y : Key) : decide ((if cmpI x.t y.t ≠ 0 then cmpI x.t y.t else if cmpI x.a y.a ≠ 0 then cmpI x.a y.a else cmpI x.e y.e) < 0) = klt x y := by
  unfold klt
  simp only [cmpI_ne]
  split
  · exact cmpI_lt
  · split
    · exact cmpI_lt
    · exact cmpI_lt
end Go.Proofs.Ytjkfngolgjbakaa

set_option linter.unusedVariables false
namespace Go.Proofs.Ytjkfngolgjbakaa
open Go Go.HW
structure Cm where
  at_ : Int
  a : OA
  n : Nat
  c : Nat
  ws : List Wr
def cmV (x : Cm) : List Value := [.int .i64 x.at_, .slice x.a x.n x.c]
/-- A commit's writes lie where its slice says. -/
structure CmOk (L : List Assn) (x : Cm) : Prop where
  rd : Gv L x.a (x.ws.flatMap wrV)
  n : x.ws.length = x.n
  lt : x.n < 2 ^ 60
theorem CmOk.cons {L : List Assn} {A : Assn} {x : Cm} (h : CmOk L x) : CmOk (A :: L) x := ⟨h.rd.cons, h.n, h.lt⟩
end Go.Proofs.Ytjkfngolgjbakaa

set_option maxRecDepth 20000
set_option linter.unusedVariables false
set_option linter.unusedSimpArgs false
namespace Go.Proofs.Ytjkfngolgjbakaa
open Go Go.HW
variable {h : Heap} {L : List Assn} {Q : Value → Heap → Prop}
structure Ver where
  at_ : Int
  there : Bool
  data : ByteArray
  deriving Inhabited, DecidableEq
def verV (v : Ver) : List Value := [.int .i64 v.at_, .bool v.there, .string v.data]
theorem verV_len (v : Ver) : (verV v).length = 3 := rfl
theorem verV_one (v : Ver) : ∀ x ∈ verV v, oneC x = true := by
  intro x hx; simp [verV] at hx; rcases hx with rfl | rfl | rfl <;> rfl
theorem keyV_len (x : Key) : (keyV x).length = 3 := rfl
theorem keyV_one (v : Key) : ∀ x ∈ keyV v, oneC x = true := by
  intro x hx; simp [keyV] at hx; rcases hx with rfl | rfl | rfl <;> rfl
theorem wrV_len (x : Wr) : (wrV x).length = 5 := rfl
theorem i1 {i : Nat} (h : i < 2 ^ 62) : IntKind.i64.wrap ((i : Int) + 1) = ((i + 1 : Nat) : Int) := by rw [wrap_i64_z (by omega) (by omega)]; omega
theorem d1 {i : Nat} (h0 : 0 < i) (h : i < 2 ^ 62) : IntKind.i64.wrap ((i : Int) - 1) = ((i - 1 : Nat) : Int) := by rw [wrap_i64_z (by omega) (by omega)]; omega
/-- A chain in memory. -/
structure Ch where
  a : OA
  c : Nat
  vs : List Ver
def chV (x : Ch) : Value := .slice x.a x.vs.length x.c
def chA (x : Ch) : Assn := own x.a x.vs.length x.c T_chain_version 3 (x.vs.flatMap verV)
structure CS where
  ch : List (Key × List Ver)
  now : Int
  floor : Int
def absM (m : List (Key × Ch)) : List (Key × List Ver) := m.map fun x => (x.1, x.2.vs)
def storeA (s : Nat) (v : CS) : Assn := fun μ => ∃ (m : List (Key × Ch)) (r : Nat), absM m = v.ch ∧ Sp [pt s T_chain_Store [.map (some r), .int .i64 v.now, .int .i64 v.floor], mp keyA chV r m, fam chA m] μ
theorem storeA_open {s : Nat} {v : CS} : Hs h (storeA s v :: L) ↔ ∃ (m : List (Key × Ch)) (r : Nat), absM m = v.ch ∧ Hs h (pt s T_chain_Store [.map (some r), .int .i64 v.now, .int .i64 v.floor] :: mp keyA chV r m :: fam chA m :: L) := by
  unfold storeA
  simp only [Hs.ex, Hs.and, Hs.app, List.cons_append, List.nil_append]
theorem absM_keys (m : List (Key × Ch)) : (absM m).map (·.1) = m.map (·.1) := by unfold absM; rw [List.map_map]; rfl
theorem absM_get (m : List (Key × Ch)) (k : Key) : mget (absM m) k = (mget m k).map (·.vs) := by
  induction m with
  | nil => rfl
  | cons x m ih =>
    show mget ((x.1, x.2.vs) :: absM m) k = _
    rw [mget_cons, mget_cons, ih]; split <;> rfl
theorem absM_set (m : List (Key × Ch)) (k : Key) (x : Ch) : absM (mset m k x) = mset (absM m) k x.vs := by
  induction m with
  | nil => rfl
  | cons y m ih =>
    show absM (mset (y :: m) k x) = mset ((y.1, y.2.vs) :: absM m) k x.vs
    rw [mset, mset]
    split
    · rfl
    · show (y.1, y.2.vs) :: absM (mset m k x) = _; rw [ih]
theorem absM_del (m : List (Key × Ch)) (k : Key) : absM (mdel m k) = mdel (absM m) k := by
  unfold absM mdel; rw [List.filter_map]; rfl
/-- The map's text looks at the headers alone. -/
theorem ents_congr {α β γ : Type} [DecidableEq α] {κ : α → Value} {ν : β → Value} {ν' : γ → Value} : ∀ {l : List (α × β)} {l' : List (α × γ)} (bs : List Nat), l.map (fun x => (x.1, ν x.2)) = l'.map (fun x => (x.1, ν' x.2)) → entsOf κ ν l bs = entsOf κ ν' l' bs
  | [], [], _, _ => rfl
  | [], _ :: _, _, h => by cases h
  | _ :: _, [], _, h => by cases h
  | x :: l, y :: l', [], _ => rfl
  | x :: l, y :: l', b :: bs, h => by
    simp only [List.map_cons, List.cons.injEq, Prod.mk.injEq] at h
    show (⟨κ x.1, ν x.2, b⟩ : MapEntry) :: entsOf κ ν l bs = ⟨κ y.1, ν' y.2, b⟩ :: entsOf κ ν' l' bs
    rw [ents_congr bs h.2, h.1.1, h.1.2]
theorem mp_congr {α β γ : Type} [DecidableEq α] {κ : α → Value} {ν : β → Value} {ν' : γ → Value} {r : Nat} {l : List (α × β)} {l' : List (α × γ)} (e : l.map (fun x => (x.1, ν x.2)) = l'.map (fun x => (x.1, ν' x.2))) {m : PM} (h : mp κ ν r l m) : mp κ ν' r l' m := by
  obtain ⟨bs, clock, ⟨h1, h2, h3, h4⟩, h5⟩ := h
  have hl : l.length = l'.length := by have := congrArg List.length e; simpa using this
  have hk : l.map (·.1) = l'.map (·.1) := by have := congrArg (List.map (·.1)) e; simpa [Function.comp_def] using this
  exact ⟨bs, clock, ⟨h1.trans hl, h2, h3, hk ▸ h4⟩, by rw [← ents_congr bs e]; exact h5⟩
theorem mset_same {m : List (Key × Ch)} {k : Key} {x y : Ch} (e : mget m k = some x) (he : chV x = chV y) : (mset m k y).map (fun x => (x.1, chV x.2)) = m.map (fun x => (x.1, chV x.2)) := by
  induction m with
  | nil => simp [mget_nil] at e
  | cons z m ih =>
    rw [mget_cons] at e
    rw [mset]
    by_cases hz : z.1 = k
    · rw [if_pos hz] at e ⊢; cases e; simp [he, hz]
    · rw [if_neg hz] at e ⊢; simp [ih e]
/-! ### What a chain says -/
def mx (a f : Int) : Int := if f > a then f else a
def cnt (vs : List Ver) (t : Int) : Nat := (vs.takeWhile fun v => decide (v.at_ ≤ t)).length
def pick (vs : List Ver) (t : Int) : Option Ver := (vs.takeWhile fun v => decide (v.at_ ≤ t)).getLast?
def getV (vs : List Ver) (t : Int) : ByteArray × Bool := match pick vs t with | some v => if v.there then (v.data, true) else (⟨#[]⟩, false) | none => (⟨#[]⟩, false)
def Rising (vs : List Ver) : Prop := vs.Pairwise fun x y => x.at_ < y.at_
def CS.vs (v : CS) (k : Key) : List Ver := (mget v.ch k).getD []
def CS.get (v : CS) (k : Key) (t : Int) : ByteArray × Bool := getV (v.vs k) (mx t v.floor)
structure CI (v : CS) : Prop where
  keys : (v.ch.map (·.1)).Nodup
  ne : ∀ x ∈ v.ch, x.2 ≠ []
  rise : ∀ x ∈ v.ch, Rising x.2
  now : ∀ x ∈ v.ch, ∀ y ∈ x.2, y.at_ ≤ v.now
  pos : ∀ x ∈ v.ch, ∀ y ∈ x.2, 0 < y.at_
  floor : 0 ≤ v.floor ∧ v.floor ≤ v.now
theorem CS.vs_rise {v : CS} (h : CI v) (k : Key) : Rising (v.vs k) := by
  unfold CS.vs
  cases e : mget v.ch k with
  | none => exact List.Pairwise.nil
  | some x => exact h.rise _ (mget_mem e)
theorem cnt_of {vs : List Ver} {t : Int} {i : Nat} (hi : i ≤ vs.length) (h1 : ∀ j (hj : j < vs.length), j < i → vs[j].at_ ≤ t) (h2 : ∀ hi : i < vs.length, t < vs[i].at_) : cnt vs t = i := by
  unfold cnt
  induction vs generalizing i with
  | nil => simp at hi; subst hi; rfl
  | cons v vs ih =>
    cases i with
    | zero =>
      have := h2 (by simp)
      rw [List.takeWhile_cons_of_neg]
      · rfl
      · simp at this ⊢; omega
    | succ i =>
      have h0 := h1 0 (by simp) (by omega)
      rw [List.takeWhile_cons_of_pos (by simpa using h0), List.length_cons, ih (i := i)]
      · simpa using hi
      · intro j hj hji; have := h1 (j + 1) (by simpa using hj) (by omega); simpa using this
      · intro hi'; have := h2 (by simpa using hi'); simpa using this
theorem cnt_le (vs : List Ver) (t : Int) : cnt vs t ≤ vs.length := by
  unfold cnt; exact (List.takeWhile_sublist _).length_le
theorem pick_none {vs : List Ver} {t : Int} (h : cnt vs t = 0) : pick vs t = none := by
  unfold pick; unfold cnt at h; rw [List.length_eq_zero_iff.1 h]; rfl
theorem pick_some {vs : List Ver} {t : Int} (h : 0 < cnt vs t) : pick vs t = some (vs[cnt vs t - 1]'(by have := cnt_le vs t; omega)) := by
  have hp : vs.takeWhile (fun v => decide (v.at_ ≤ t)) <+: vs := List.takeWhile_prefix _
  unfold pick
  rw [List.getLast?_eq_getElem?]
  have hl : (vs.takeWhile fun v => decide (v.at_ ≤ t)).length = cnt vs t := rfl
  rw [hl, List.getElem?_eq_getElem (by omega)]
  congr 1
  exact hp.getElem _
theorem getV_none {vs : List Ver} {t : Int} (h : cnt vs t = 0) : getV vs t = (⟨#[]⟩, false) := by unfold getV; rw [pick_none h]
theorem getV_some {vs : List Ver} {t : Int} (h : 0 < cnt vs t) : getV vs t = (let v := (vs[cnt vs t - 1]'(by have := cnt_le vs t; omega)); if v.there then (v.data, true) else (⟨#[]⟩, false)) := by unfold getV; rw [pick_some h]
theorem getV_nil (t : Int) : getV [] t = (⟨#[]⟩, false) := rfl
end Go.Proofs.Ytjkfngolgjbakaa

set_option maxRecDepth 20000
set_option linter.unusedVariables false
set_option linter.unusedSimpArgs false
namespace Go.Proofs.Ytjkfngolgjbakaa
open Go Go.HW
variable {h : Heap} {L : List Assn} {Q : Value → Heap → Prop}
def CS.new : CS := ⟨[], 0, 0⟩
theorem CI.new : CI .new := ⟨by simp [CS.new], by simp [CS.new], by simp [CS.new], by simp [CS.new], by simp [CS.new], by simp [CS.new]⟩
theorem CNew_hs (H : Hs h L) (k : ∀ h' s, Hs h' (storeA s .new :: L) → Q (.pointer (some ⟨s, 0, none⟩)) h') : SpecH PP F_chain_New [] h Q := by
  refine chain_New.door ?_
  have H1 := (H.fam_new (α := Key) (A := chA)).mp_new (κ := keyA) (ν := chV)
  have H2 := H1.new (t := T_chain_Store) (cs := #[.map (some (Array.size h)), .int .i64 0, .int .i64 0]) (xs := [.map (some (Array.size h)), .int .i64 0, .int .i64 0])
  exact k _ _ (storeA_open.2 ⟨[], _, rfl, H2⟩)
theorem Now_hs {s : Nat} {v : CS} (H : Hs h (storeA s v :: L)) (k : Q (.int .i64 v.now) h) : SpecH PP F_chain_Store_Now [.pointer (some ⟨s, 0, none⟩)] h Q := by
  obtain ⟨m, r, e, H⟩ := storeA_open.1 H
  refine chain_Store_Now.door (br_false rfl ?_)
  exact ⟨_, H.cell (off := 1) rfl, k⟩
theorem newest1_hs {v : Ver} {t : Int} (H : Hs h L) (k : ∀ h', Hs h' L → Q (.int .i64 (if v.at_ ≤ t then -1 else 1)) h') : SpecH PP F_chain_Store_newest_1 [.agg (verV v).toArray, .int .i64 t] h Q := by
  refine chain_Store_newest_1.door ?_
  have H1 := H.new (t := T_chain_version) (cs := (verV v).toArray) (xs := verV v)
  refine ⟨_, H1.cell (off := 0) rfl, (br_iff _ _ _).2 ⟨fun e => ?_, fun e => ?_⟩⟩
  · rw [if_pos (of_decide_eq_true e)] at k; exact k _ H1.tl
  · rw [if_neg (of_decide_eq_false e)] at k; exact k _ H1.tl
/-- The search: how many versions are not newer. -/
theorem bsearch_hs {a : OA} {n c : Nat} {t : Int} {vs : List Ver} (hs : Rising vs) (hn : vs.length = n) (hmax : n < 2 ^ 40) (g : Gv L a (vs.flatMap verV)) (H : Hs h L) (k : ∀ h' b, Hs h' L → Q (.tuple #[.int .i64 (cnt vs t : Nat), .bool b]) h') :
    SpecH PP F_slices_BinarySearchFunc_chain_version_chain_version_int [.slice a n c, .int .i64 t, .func (.func F_chain_Store_newest_1) #[] #[]] h Q := by
  refine slices_BinarySearchFunc_chain_version_chain_version_int.door ?_
  have call : ∀ {v : Ver} {h : Heap} {R : VP}, Hs h L → (∀ h', Hs h' L → R (.int .i64 (if v.at_ ≤ t then -1 else 1)) h') → callV PP (.func (.func F_chain_Store_newest_1) #[] #[]) [.agg (verV v).toArray, .int .i64 t] R h := by
    intro v h R H k
    refine callV_fn (by kernel_rfl) ?_
    show SpecH PP F_chain_Store_newest_1 [_, _] h R
    exact newest1_hs H k
  have fin : ∀ (i : Nat) {h : Heap}, cnt vs t = i → i ≤ n → Hs h L → slices_BinarySearchFunc_chain_version_chain_version_int.K1 Q (.exit 0) (slices_BinarySearchFunc_chain_version_chain_version_int.X0 a n c t (.func (.func F_chain_Store_newest_1) #[] #[]) (n : Int) (i : Int)) h := by
    intro i h hi hle H
    subst hi
    refine slices_BinarySearchFunc_chain_version_chain_version_int.L1_X0 ((br_iff _ _ _).2 ⟨fun e => ?_, fun e => k _ _ H⟩)
    have e := of_decide_eq_true e
    refine idxf E_sl_chain_version (φ := verV) (l := vs) (x := vs[cnt vs t]'(by omega)) (g _ H) verV_len (by decide) (by omega) (by omega) (by simp) fun t1 ht => ⟨_, _, _, ht, ?_⟩
    exact call H fun h' H' => ⟨_, rfl, k _ _ H'⟩
  have go : ∀ (r i j : Nat) {h : Heap}, j - i ≤ r → i ≤ j → j ≤ n → (∀ x (hx : x < vs.length), x < i → vs[x].at_ ≤ t) → (∀ hj : j < vs.length, t < vs[j].at_) → Hs h L →
      slices_BinarySearchFunc_chain_version_chain_version_int.L1 a n c t (.func (.func F_chain_Store_newest_1) #[] #[]) (n : Int) (i : Int) (j : Int) (slices_BinarySearchFunc_chain_version_chain_version_int.K1 Q) h := by
    intro r
    induction r with
    | zero =>
      intro i j h hr hij hj h1 h2 H
      have : i = j := by omega
      subst this
      refine slices_BinarySearchFunc_chain_version_chain_version_int.L1_of (br_false (decide_eq_false (by omega)) (fin i (cnt_of (by omega) h1 h2) hj H))
    | succ r ih =>
      intro i j h hr hij hj h1 h2 H
      rcases Nat.lt_or_ge i j with hlt | hge
      · refine slices_BinarySearchFunc_chain_version_chain_version_int.L1_of (br_true (decide_eq_true (by omega)) ?_)
        dsimp only
        have em : IntKind.i64.wrap (sShr .u64 (IntKind.u64.wrap (IntKind.i64.wrap ((i : Int) + (j : Int)))) 1) = (((i + j) / 2 : Nat) : Int) := by
          rw [show ((i : Int) + (j : Int)) = ((i + j : Nat) : Int) by omega, wrap_i64_z (z := ((i + j : Nat) : Int)) (by omega) (by omega), wrap_u64_id (by omega), show (1 : Int) = ((1 : Nat) : Int) from rfl, shr_u64 (a := i + j) (m := 1) (by omega), wrap_i64_z (by omega) (by omega)]
        rw [em]
        have hm : (i + j) / 2 < vs.length := by omega
        refine idxf E_sl_chain_version (φ := verV) (l := vs) (x := vs[(i + j) / 2]) (g _ H) verV_len (by decide) (by omega) (by omega) (by rw [Int.toNat_natCast]; simp) fun t1 ht => ⟨_, _, _, ht, ?_⟩
        refine call H fun h' H' => ⟨_, rfl, ?_⟩
        have hr2 := List.pairwise_iff_getElem.1 hs
        by_cases e : vs[(i + j) / 2].at_ ≤ t
        · rw [if_pos e]
          refine br_true (by decide) ?_
          rw [i1 (by omega)]
          refine ih ((i + j) / 2 + 1) j (by omega) (by omega) hj (fun x hx hxi => ?_) h2 H'
          rcases Nat.lt_or_ge x ((i + j) / 2) with q | q
          · have := hr2 x ((i + j) / 2) hx hm q; omega
          · have : x = (i + j) / 2 := by omega
            subst this; exact e
        · rw [if_neg e]
          refine br_false (by decide) ?_
          exact ih i ((i + j) / 2) (by omega) (by omega) (by omega) h1 (fun _ => by omega) H'
      · have : i = j := by omega
        subst this
        refine slices_BinarySearchFunc_chain_version_chain_version_int.L1_of (br_false (decide_eq_false (by omega)) (fin i (cnt_of (by omega) h1 h2) hj H))
  exact go n 0 n (by omega) (by omega) (by omega) (fun x hx h0 => by omega) (fun hj => by omega) H
/-- newest, with the store's cells at hand. -/
theorem newest_hs {s : Nat} {a : OA} {n c : Nat} {t now floor : Int} {r : Value} {vs : List Ver} (hs : Rising vs) (hn : vs.length = n) (hmax : n < 2 ^ 40) (g : Gv (pt s T_chain_Store [r, .int .i64 now, .int .i64 floor] :: L) a (vs.flatMap verV))
    (H : Hs h (pt s T_chain_Store [r, .int .i64 now, .int .i64 floor] :: L)) (k : ∀ h', Hs h' (pt s T_chain_Store [r, .int .i64 now, .int .i64 floor] :: L) → Q (.int .i64 (cnt vs (mx t floor) : Nat)) h') :
    SpecH PP F_chain_Store_newest [.pointer (some ⟨s, 0, none⟩), .slice a n c, .int .i64 t] h Q := by
  refine chain_Store_newest.door ⟨_, H.cell (off := 2) rfl, ?_⟩
  exact bsearch_hs (t := mx t floor) hs hn hmax g H fun h' b H' => ⟨_, _, rfl, k _ H'⟩
theorem zCh : (PP.info? T_sl_chain_version).bind (·.zero) = some (.slice none 0 0) := by kernel_rfl
theorem mem_le_sum {x : Nat} : ∀ {l : List Nat}, x ∈ l → x ≤ l.sum
  | y :: l, h => by
    rw [List.sum_cons]
    rcases List.mem_cons.1 h with rfl | h
    · omega
    · have := mem_le_sum h; omega
theorem sum_small {v : CS} {k : Key} {x : List Ver} (hb : (v.ch.map (fun x => x.2.length)).sum < 2 ^ 40) (e : mget v.ch k = some x) : x.length < 2 ^ 40 := by
  have := mem_le_sum (l := v.ch.map (fun x => x.2.length)) (List.mem_map_of_mem (f := fun x => x.2.length) (mget_mem e))
  simp only at this; omega
def CS.total (v : CS) : Nat := (v.ch.map (fun x => x.2.length)).sum
/-- Get, with the map held by X. -/
theorem GetX_hs {s r : Nat} {v : CS} {m : List (Key × Ch)} {X : Assn} {k : Key} {t : Int} (hX : ∀ {h : Heap} {M : List Assn}, Hs h (X :: M) → Hs h (mp keyA chV r m :: M)) (em : absM m = v.ch) (hv : CI v) (hb : v.total < 2 ^ 40) (H : Hs h (pt s T_chain_Store [.map (some r), .int .i64 v.now, .int .i64 v.floor] :: X :: fam chA m :: L))
    (kk : ∀ h', Hs h' (pt s T_chain_Store [.map (some r), .int .i64 v.now, .int .i64 v.floor] :: X :: fam chA m :: L) → Q (.tuple #[.string (v.get k t).1, .bool (v.get k t).2]) h') :
    SpecH PP F_chain_Store_Get [.pointer (some ⟨s, 0, none⟩), keyA k, .int .i64 t] h Q := by
  refine chain_Store_Get.door ?_
  dsimp only
  have H0 := H.new (t := T_api_Key) (cs := (keyV k).toArray) (xs := keyV k)
  refine br_false rfl ?_
  have hnd : (m.map (·.1)).Nodup := by rw [← absM_keys, em]; exact hv.keys
  refine ⟨_, H0.m1.cell (off := 0) rfl, _, _, _, H0.rdc0, ?_⟩
  refine (hX H0.m2).lookup1 (t := T_map_api_Key_sl_chain_version) U_map_api_Key_sl_chain_version KeyK zCh k ?_
  unfold CS.get CS.vs at kk
  rw [← em, absM_get] at kk
  have H1 := H0.tl
  cases e : mget m k with
  | none =>
    rw [e] at kk
    refine ⟨_, _, _, rfl, ?_⟩
    refine newest_hs (vs := []) List.Pairwise.nil rfl (by omega) (fun h H => Rd.nil _ _) H1 fun h2 H2 => ⟨_, rfl, ?_⟩
    refine br_true rfl (chain_Store_Get.J1_of (br_true rfl ?_))
    exact kk h2 H2
  | some x =>
    rw [e] at kk
    have hx : mget v.ch k = some x.vs := by rw [← em, absM_get, e]; rfl
    have hsm := sum_small (v := v) hb hx
    have hrs : Rising x.vs := hv.rise _ (mget_mem hx)
    refine ⟨_, _, _, rfl, ?_⟩
    have H2 := (H1.m2.fam_take hnd e).m2
    have back : ∀ {h' : Heap}, Hs h' (pt s T_chain_Store [.map (some r), .int .i64 v.now, .int .i64 v.floor] :: chA x :: fam chA (mdel m k) :: X :: L) → Hs h' (pt s T_chain_Store [.map (some r), .int .i64 v.now, .int .i64 v.floor] :: X :: fam chA m :: L) := fun H => (H.r2.fam_back hnd e).r2
    have g : Gv (pt s T_chain_Store [.map (some r), .int .i64 v.now, .int .i64 v.floor] :: chA x :: fam chA (mdel m k) :: X :: L) x.a (x.vs.flatMap verV) := Gv.cons (Gv.own)
    refine newest_hs hrs rfl hsm g H2 fun h2 H2 => ⟨_, rfl, ?_⟩
    have hle := cnt_le x.vs (mx t v.floor)
    rcases Nat.eq_zero_or_pos (cnt x.vs (mx t v.floor)) with q | q
    · refine br_true (by rw [q]; rfl) (chain_Store_Get.J1_of (br_true rfl ?_))
      have := kk h2 (back H2)
      rw [show getV ((some x).map (·.vs) |>.getD []) (mx t v.floor) = _ from getV_none q] at this
      exact this
    · refine br_false (beq_eq_false_iff_ne.2 (by omega)) ?_
      have hk := kk h2 (back H2)
      rw [show getV ((some x).map (·.vs) |>.getD []) (mx t v.floor) = _ from getV_some q] at hk
      rw [d1 q (by omega)]
      refine idxf E_sl_chain_version (φ := verV) (l := x.vs) (x := x.vs[cnt x.vs (mx t v.floor) - 1]) (g _ H2) verV_len (by decide) (by omega) (by omega) (by rw [Int.toNat_natCast]; simp) fun t1 ht => ⟨_, ht.2.1, ?_⟩
      cases e3 : (x.vs[cnt x.vs (mx t v.floor) - 1]).there with
      | false =>
        rw [if_neg (by rw [e3]; simp)] at hk
        exact chain_Store_Get.J1_of (br_true rfl hk)
      | true =>
        rw [if_pos e3] at hk
        refine chain_Store_Get.J1_of (br_false rfl ?_)
        dsimp only
        rw [d1 q (by omega)]
        exact idxf E_sl_chain_version (φ := verV) (l := x.vs) (x := x.vs[cnt x.vs (mx t v.floor) - 1]) (g _ H2) verV_len (by decide) (by omega) (by omega) (by rw [Int.toNat_natCast]; simp) fun t1 ht => ⟨_, ht.2.2.1, hk⟩
theorem Get_hs {s : Nat} {v : CS} {k : Key} {t : Int} (hv : CI v) (hb : v.total < 2 ^ 40) (H : Hs h (storeA s v :: L)) (kk : ∀ h', Hs h' (storeA s v :: L) → Q (.tuple #[.string (v.get k t).1, .bool (v.get k t).2]) h') :
    SpecH PP F_chain_Store_Get [.pointer (some ⟨s, 0, none⟩), keyA k, .int .i64 t] h Q := by
  obtain ⟨m, r, em, H⟩ := storeA_open.1 H
  exact GetX_hs (X := mp keyA chV r m) id em hv hb H fun h' H' => kk h' (storeA_open.2 ⟨m, r, em, H'⟩)
def CS.last (v : CS) (k : Key) : Int := match (v.vs k).getLast? with | some x => x.at_ | none => 0
theorem Last_hs {s : Nat} {v : CS} {k : Key} (hv : CI v) (hb : v.total < 2 ^ 40) (H : Hs h (storeA s v :: L)) (kk : ∀ h', Hs h' (storeA s v :: L) → Q (.int .i64 (v.last k)) h') : SpecH PP F_chain_Store_Last [.pointer (some ⟨s, 0, none⟩), keyA k] h Q := by
  obtain ⟨m, r, em, H⟩ := storeA_open.1 H
  refine chain_Store_Last.door ?_
  dsimp only
  have H0 := H.new (t := T_api_Key) (cs := (keyV k).toArray) (xs := keyV k)
  refine br_false rfl ?_
  have hnd : (m.map (·.1)).Nodup := by rw [← absM_keys, em]; exact hv.keys
  refine ⟨_, H0.m1.cell (off := 0) rfl, _, _, _, H0.rdc0, ?_⟩
  refine H0.m2.lookup1 (t := T_map_api_Key_sl_chain_version) U_map_api_Key_sl_chain_version KeyK zCh k ?_
  have kk := kk _ (storeA_open.2 ⟨m, r, em, H0.tl⟩)
  unfold CS.last CS.vs at kk
  rw [← em, absM_get] at kk
  cases e : mget m k with
  | none =>
    rw [e] at kk
    exact ⟨_, _, _, rfl, chain_Store_Last.J1_of (br_true rfl kk)⟩
  | some x =>
    rw [e] at kk
    have hx : mget v.ch k = some x.vs := by rw [← em, absM_get, e]; rfl
    have hsm := sum_small (v := v) hb hx
    have hne : x.vs ≠ [] := hv.ne _ (mget_mem hx)
    have hpos := List.length_pos_iff.2 hne
    refine ⟨_, _, _, rfl, chain_Store_Last.J1_of (br_false (beq_eq_false_iff_ne.2 (by omega)) ⟨_, H0.m1.cell (off := 0) rfl, _, _, _, H0.rdc0, ?_⟩)⟩
    refine H0.m2.lookup1 (t := T_map_api_Key_sl_chain_version) U_map_api_Key_sl_chain_version KeyK zCh k ?_
    rw [e]
    refine ⟨_, _, _, rfl, ?_⟩
    dsimp only
    rw [d1 hpos (by omega)]
    have g := (H0.m3.fam_take hnd e).rd
    refine idxf E_sl_chain_version (φ := verV) (l := x.vs) (x := x.vs[x.vs.length - 1]) g verV_len (by decide) (by omega) (by omega) (by rw [Int.toNat_natCast]; simp) fun t1 ht => ⟨_, ht.1, ?_⟩
    have : ((some x).map (·.vs) |>.getD []).getLast? = some (x.vs[x.vs.length - 1]) := by
      show x.vs.getLast? = _
      rw [List.getLast?_eq_getElem?, List.getElem?_eq_getElem (by omega)]
    rw [this] at kk
    exact kk
end Go.Proofs.Ytjkfngolgjbakaa

set_option maxRecDepth 20000
set_option linter.unusedVariables false
set_option linter.unusedSimpArgs false
namespace Go.Proofs.Ytjkfngolgjbakaa
open Go Go.HW
variable {h : Heap} {L : List Assn} {Q : Value → Heap → Prop}
theorem klt_swo : Sort.SWO klt := ⟨fun x => klt_irrefl _, fun x y z => klt_trans, fun x y z => klt_ntrans⟩
/-- Strictly rising keys. -/
def KRise (l : List Key) : Prop := l.Pairwise fun x y => klt x y = true
theorem krise_uniq : ∀ {l m : List Key}, KRise l → KRise m → (∀ k, k ∈ l ↔ k ∈ m) → l = m
  | [], [], _, _, _ => rfl
  | [], y :: m, _, _, p => by have := (p y).2 (List.mem_cons_self ..); cases this
  | x :: l, [], _, _, p => by have := (p x).1 (List.mem_cons_self ..); cases this
  | x :: l, y :: m, h1, h2, p => by
    have h1' := List.pairwise_cons.1 h1
    have h2' := List.pairwise_cons.1 h2
    have nx : x ∉ l := fun q => by have := h1'.1 x q; rw [klt_irrefl] at this; cases this
    have ny : y ∉ m := fun q => by have := h2'.1 y q; rw [klt_irrefl] at this; cases this
    have e : x = y := by
      by_cases e : x = y
      · exact e
      have hx : x ∈ y :: m := (p x).1 (List.mem_cons_self ..)
      have hy : y ∈ x :: l := (p y).2 (List.mem_cons_self ..)
      rcases List.mem_cons.1 hx with q | q
      · exact absurd q e
      rcases List.mem_cons.1 hy with q2 | q2
      · exact absurd q2.symm e
      have a := h2'.1 x q
      have b := h1'.1 y q2
      rw [klt_asymm a] at b; cases b
    subst e
    rw [krise_uniq h1'.2 h2'.2 fun k => ?_]
    have := p k
    rw [List.mem_cons, List.mem_cons] at this
    by_cases hk : k = x
    · subst hk; simp [nx, ny]
    · simpa [hk] using this
/-- The keys for which g holds, rising. -/
structure KeysOf (g : Key → Bool) (ks : List Key) : Prop where
  rise : KRise ks
  mem : ∀ k, k ∈ ks ↔ g k = true
theorem KeysOf.uniq {g : Key → Bool} {l m : List Key} (a : KeysOf g l) (b : KeysOf g m) : l = m := krise_uniq a.rise b.rise fun k => (a.mem k).trans (b.mem k).symm
theorem kcmp_ok : Srtapi_Key.CmpOk (.func (.func F_chain_Store_keys_1) #[] #[]) klt := by
  intro x y M h R H k
  refine callV_fn (by kernel_rfl) ?_
  show SpecH PP F_chain_Store_keys_1 [_, _] h R
  refine chain_Store_keys_1.door ?_
  dsimp only
  have H1 := H.new (t := T_api_Key) (cs := (keyV x).toArray) (xs := keyV x)
  have H2 := H1.new (t := T_api_Key) (cs := (keyV y).toArray) (xs := keyV y)
  refine ⟨_, H2.m1.cell (off := 0) rfl, _, H2.cell (off := 0) rfl, _, Compare_pure _ _, _, rfl, _, H2.m1.cell (off := 1) rfl, _, H2.cell (off := 1) rfl, _, Compare_pure _ _, _, rfl, _, H2.m1.cell (off := 2) rfl, _, H2.cell (off := 2) rfl, _, Compare_pure _ _, _, rfl, ?_⟩
  refine or_hs (H2.tl.tl.new (xs := [.int .i64 (cmpI x.t y.t), .int .i64 (cmpI x.a y.a), .int .i64 (cmpI x.e y.e)])) fun h4 H4 => ⟨_, rfl, k h4 _ ?_ H4⟩
  exact cmp3 x y
theorem key_app {l : List Key} {a : OA} {c : Nat} {w : Key} {h : Heap} {K : VP} (hs : l.length ≤ 2 ^ 40) (H : Hs h (own a l.length c T_api_Key 3 (l.flatMap keyV) :: L))
    (k : ∀ h' a' c', Hs h' (own a' (l ++ [w]).length c' T_api_Key 3 ((l ++ [w]).flatMap keyV) :: L) → K (.slice a' (l ++ [w]).length c') h') :
    hwp PP (Builtin.append_ #[T_sl_api_Key, T_sl_api_Key] T_sl_api_Key #[.slice a l.length c, .slice (some ⟨Array.size h, 0, none⟩) 1 1]) K (Array.push h (.cells (keyV w).toArray T_api_Key (0, 0))) := by
  refine H.app_vals E_sl_api_Key (m := 1) (ys := keyV w) rfl rfl (keyV_one w) (fun h' a' c' H' => ?_) (by omega) (by omega)
  have e : l.flatMap keyV ++ keyV w = (l ++ [w]).flatMap keyV := by simp
  rw [e] at H'
  have := k h' a' c'
  rw [List.length_append] at this
  exact this H'
theorem str_app {l : List ByteArray} {a : OA} {c : Nat} {w : ByteArray} {h : Heap} {K : VP} (hs : l.length ≤ 2 ^ 40) (H : Hs h (own a l.length c T_string 1 (l.map Value.string) :: L))
    (k : ∀ h' a' c', Hs h' (own a' (l ++ [w]).length c' T_string 1 ((l ++ [w]).map Value.string) :: L) → K (.slice a' (l ++ [w]).length c') h') :
    hwp PP (Builtin.append_ #[T_sl_string, T_sl_string] T_sl_string #[.slice a l.length c, .slice (some ⟨Array.size h, 0, none⟩) 1 1]) K (Array.push h (.cells #[.string w] T_string (0, 0))) := by
  refine H.app_vals E_sl_string (m := 1) (ys := [.string w]) rfl rfl (by simp [oneC]) (fun h' a' c' H' => ?_) (by omega) (by omega)
  have e : l.map Value.string ++ [.string w] = (l ++ [w]).map Value.string := by simp
  rw [e] at H'
  have := k h' a' c'
  rw [List.length_append] at this
  exact this H'
theorem nodup_snoc {α : Type} {l : List α} {x : α} (h : l.Nodup) (hx : x ∉ l) : (l ++ [x]).Nodup :=
  List.nodup_append.2 ⟨h, by simp, fun a ha b hb e => by rw [List.mem_singleton.1 hb] at e; exact hx (e ▸ ha)⟩
theorem nodup_len {α : Type} [DecidableEq α] : ∀ {l m : List α}, l.Nodup → (∀ k ∈ l, k ∈ m) → l.length ≤ m.length
  | [], _, _, _ => Nat.zero_le _
  | x :: l, m, h, hs => by
    have hc := List.nodup_cons.1 h
    have hx := hs x (List.mem_cons_self ..)
    have := nodup_len (l := l) (m := m.erase x) hc.2 fun k hk => by
      have hne : k ≠ x := fun e => hc.1 (e ▸ hk)
      exact (List.mem_erase_of_ne hne).2 (hs k (List.mem_cons_of_mem _ hk))
    rw [List.length_erase_of_mem hx] at this
    have := List.length_pos_of_mem hx
    rw [List.length_cons]; omega
theorem get_mem {v : CS} {k : Key} {t : Int} (h : (v.get k t).2 = true) : k ∈ v.ch.map (·.1) := by
  unfold CS.get CS.vs at h
  cases e : mget v.ch k with
  | none => rw [e] at h; simp [getV_nil] at h
  | some x => exact List.mem_map.2 ⟨_, mget_mem e, rfl⟩
theorem total_ge {v : CS} (hv : CI v) : v.ch.length ≤ v.total := by
  have : ∀ l : List (Key × List Ver), (∀ x ∈ l, x.2 ≠ []) → l.length ≤ (l.map fun x => x.2.length).sum := by
    intro l
    induction l with
    | nil => intro _; simp
    | cons x l ih =>
      intro h
      have h1 := ih fun y hy => h y (List.mem_cons_of_mem _ hy)
      have h2 := List.length_pos_iff.2 (h x (List.mem_cons_self ..))
      simp; omega
  exact this _ hv.ne
/-- keys: what is there and wanted, rising. -/
theorem keys_hs {s : Nat} {v : CS} {t : Int} {wanted : Value} (g : Key → Bool) (hw : ∀ (k : Key) (M : List Assn) (h : Heap) (R : VP), Hs h (M ++ L) → (∀ h', Hs h' (M ++ L) → R (.bool (g k)) h') → callV PP wanted [keyA k] R h)
    (hv : CI v) (hb : v.total < 2 ^ 40) (H : Hs h (storeA s v :: L)) (kk : ∀ h' a c ks, KeysOf (fun k => (v.get k t).2 && g k) ks → ks.length ≤ v.total → Hs h' (own a ks.length c T_api_Key 3 (ks.flatMap keyV) :: storeA s v :: L) → Q (.slice a ks.length c) h') :
    SpecH PP F_chain_Store_keys [.pointer (some ⟨s, 0, none⟩), .int .i64 t, wanted] h Q := by
  obtain ⟨m, r, em, H⟩ := storeA_open.1 H
  refine chain_Store_keys.door (br_false rfl ?_)
  refine ⟨_, H.cell (off := 0) rfl, ?_⟩
  refine H.m1.ranges (t := T_map_api_Key_sl_chain_version) U_map_api_Key_sl_chain_version fun h1 i H1 => ⟨_, rfl, ?_⟩
  have hmk : m.map (·.1) = v.ch.map (·.1) := by rw [← em, absM_keys]
  have hml : m.length ≤ v.total := by have := total_ge hv; have := congrArg List.length hmk; simp at this; omega
  have hmn : (m.map (·.1)).Nodup := by rw [hmk]; exact hv.keys
  have fin : ∀ {h : Heap} {told ks : List Key} {a : OA} {c : Nat}, (∀ x ∈ m, x.1 ∈ told) → ks.length ≤ m.length → ks.Nodup → (∀ k, k ∈ ks ↔ k ∈ told ∧ ((v.get k t).2 && g k) = true) →
      Hs h (own a ks.length c T_api_Key 3 (ks.flatMap keyV) :: rgs keyA chV r i m told :: pt s T_chain_Store [.map (some r), .int .i64 v.now, .int .i64 v.floor] :: fam chA m :: L) →
      chain_Store_keys.K1 Q (.exit 0) (chain_Store_keys.X0 a ks.length c) h := by
    intro h told ks a c hall hkl hkd hks H
    refine chain_Store_keys.L1_X0 ?_
    have hsz : (ks.toArray).size = ks.length := by simp
    have H2 : Hs h (Srtapi_Key.S a ks.length c ks.toArray :: rgs keyA chV r i m told :: pt s T_chain_Store [.map (some r), .int .i64 v.now, .int .i64 v.floor] :: fam chA m :: L) := H
    refine Srtapi_Key.SortFunc_hs kcmp_ok klt_swo (by omega) H2 fun h3 e pe he H3 => ⟨rfl, ?_⟩
    have hn := Srtapi_Key.S_size H3
    have hel : e.toList.length = ks.length := by rw [Array.length_toList, hn]
    have pe : e.toList.Perm ks := pe
    have := kk h3 a c e.toList ⟨?_, fun k => ?_⟩ (by omega)
    · rw [hel] at this
      refine this ?_
      have H4 := H3.m1.rgs_mp
      exact (storeA_open.2 ⟨m, r, em, H4.m2.m3.r2⟩).m1
    · unfold KRise
      rw [List.pairwise_iff_getElem]
      intro i j hi hj hij
      have := he i j hij (by rw [hel] at hj; exact hj)
      rw [getElem!_pos e j (by omega), getElem!_pos e i (by omega)] at this
      have hne : e.toList[i] ≠ e.toList[j] := List.pairwise_iff_getElem.1 (pe.nodup_iff.2 hkd) i j hi hj hij
      cases q : klt e.toList[i] e.toList[j] with
      | true => rfl
      | false => exact absurd (klt_tri q (by simpa using this)) hne
    · rw [pe.mem_iff, hks k]
      constructor
      · exact fun q => q.2
      · intro q
        refine ⟨?_, q⟩
        have hm := get_mem (by rw [Bool.and_eq_true] at q; exact q.1)
        rw [← hmk] at hm
        obtain ⟨x, hx, rfl⟩ := List.mem_map.1 hm
        exact hall x hx
  have go : ∀ (n : Nat) {h : Heap} {told ks : List Key} {a : OA} {c : Nat}, m.length - told.length ≤ n → ks.length ≤ told.length → told.Nodup → (∀ k ∈ told, k ∈ m.map (·.1)) → ks.Nodup → (∀ k, k ∈ ks ↔ k ∈ told ∧ ((v.get k t).2 && g k) = true) →
      Hs h (own a ks.length c T_api_Key 3 (ks.flatMap keyV) :: rgs keyA chV r i m told :: pt s T_chain_Store [.map (some r), .int .i64 v.now, .int .i64 v.floor] :: fam chA m :: L) →
      chain_Store_keys.L1 (some ⟨s, 0, none⟩) t wanted a ks.length c (.pointer (some ⟨i, 0, none⟩)) (chain_Store_keys.K1 Q) h := by
    intro n
    induction n with
    | zero =>
      intro h told ks a c hn hkt hnd hsub hkd hks H
      have htl := nodup_len hnd hsub
      rw [List.length_map] at htl
      refine chain_Store_keys.L1_of (H.m1.nexts (fun e => ⟨false, [], rfl, br_false rfl (fin e (by omega) hkd hks H)⟩) (fun h' x hx hnx _ => ?_))
      have := nodup_len (l := told ++ [x.1]) (m := m.map (·.1)) (nodup_snoc hnd hnx) (fun k hk => by
        rcases List.mem_append.1 hk with hk | hk
        · exact hsub k hk
        · rw [List.mem_singleton.1 hk]; exact List.mem_map_of_mem hx)
      simp at this; omega
    | succ n ih =>
      intro h told ks a c hn hkt hnd hsub hkd hks H
      have htl := nodup_len hnd hsub
      rw [List.length_map] at htl
      refine chain_Store_keys.L1_of (H.m1.nexts (fun e => ⟨false, [], rfl, br_false rfl (fin e (by omega) hkd hks H)⟩) (fun h' x hx hnx H2 => ⟨true, [keyA x.1, chV x.2], rfl, br_true rfl ?_⟩))
      have hnd' := nodup_snoc hnd hnx
      have hsub' : ∀ k ∈ told ++ [x.1], k ∈ m.map (·.1) := fun k hk => by
        rcases List.mem_append.1 hk with hk | hk
        · exact hsub k hk
        · rw [List.mem_singleton.1 hk]; exact List.mem_map_of_mem hx
      have hlt := nodup_len hnd' hsub'
      rw [List.length_append, List.length_map, List.length_singleton] at hlt
      refine H2.entrys (mget_of_mem hmn hx) ⟨_, _, rfl, _, _, _, rfl, ?_⟩
      dsimp only
      refine Hs.wrs (b := Array.size h') (xs := [.string ⟨#[]⟩, .string ⟨#[]⟩, .string ⟨#[]⟩]) H2.new (fun h3 H3 => ⟨_, _, _, H3.rdc0, ?_⟩)
      generalize Array.size h' = k8 at H3 ⊢
      refine GetX_hs (k := x.1) (X := rgs keyA chV r i m (told ++ [x.1])) (fun H => H.rgs_mp) em hv hb H3.m4.m2.m4 fun h4 H4 => ⟨_, _, rfl, ?_⟩
      have no : ((v.get x.1 t).2 && g x.1) = false → ∀ k, k ∈ ks ↔ k ∈ told ++ [x.1] ∧ ((v.get k t).2 && g k) = true := by
        intro e k
        rw [hks k, List.mem_append, List.mem_singleton]
        exact ⟨fun q => ⟨.inl q.1, q.2⟩, fun q => ⟨q.1.resolve_right (fun e2 => by rw [e2, e] at q; exact absurd q.2 (by simp)), q.2⟩⟩
      refine (br_iff _ _ _).2 ⟨fun e => ⟨_, _, _, H4.m3.rdc0, hw x.1 [_, _, _, _, _] h4 _ H4 fun h5 H5 => ⟨_, rfl, chain_Store_keys.J1_of ((br_iff _ _ _).2 ⟨fun e2 => ⟨_, _, _, Hs.rdc0 (Hs.m3 H5), ?_⟩, fun e2 => ?_⟩)⟩⟩, fun e => chain_Store_keys.J1_of (br_false rfl ?_)⟩
      · have H5 : Hs h5 (pt s T_chain_Store [.map (some r), .int .i64 v.now, .int .i64 v.floor] :: rgs keyA chV r i m (told ++ [x.1]) :: fam chA m :: pt k8 T_api_Key (keyV x.1) :: own a ks.length c T_api_Key 3 (ks.flatMap keyV) :: L) := H5
        refine key_app (w := x.1) (by omega) H5.m4 fun h6 a' c' H6 => ⟨_, _, _, rfl, ?_⟩
        refine ih (told := told ++ [x.1]) (ks := ks ++ [x.1]) (by simp; omega) (by simp; omega) hnd' hsub' (nodup_snoc hkd fun q => hnx ((hks _).1 q).1) (fun k => ?_) H6.m4.tl.m2.m1
        rw [List.mem_append, List.mem_append, hks k, List.mem_singleton]
        constructor
        · rintro (q | q)
          · exact ⟨.inl q.1, q.2⟩
          · subst q; exact ⟨.inr rfl, by rw [e, e2]; rfl⟩
        · rintro ⟨q | q, q2⟩
          · exact .inl ⟨q, q2⟩
          · exact .inr q
      · have H5 : Hs h5 (pt s T_chain_Store [.map (some r), .int .i64 v.now, .int .i64 v.floor] :: rgs keyA chV r i m (told ++ [x.1]) :: fam chA m :: pt k8 T_api_Key (keyV x.1) :: own a ks.length c T_api_Key 3 (ks.flatMap keyV) :: L) := H5
        exact ih (told := told ++ [x.1]) (by simp; omega) (by simp; omega) hnd' hsub' hkd (no (by rw [e2, Bool.and_false])) H5.m4.m4.tl.m2.m1
      · exact ih (told := told ++ [x.1]) (by simp; omega) (by simp; omega) hnd' hsub' hkd (no (by rw [e, Bool.false_and])) H4.m4.m4.tl.m2.m1
  have := go m.length (told := []) (ks := []) (a := none) (c := 0) (by simp) (by simp) (by simp) (by simp) (by simp) (by simp) (H1.own_nil T_api_Key 3)
  exact this
/-! ### List -/
theorem CList_hs {s : Nat} {v : CS} {t : Int} {b : Bx} (hv : CI v) (hb : v.total < 2 ^ 40) (H : Hs h (storeA s v :: L)) (kk : ∀ h' a c ks, KeysOf (fun k => (v.get k t).2 && (decide (k.t = b.t) && decide (k.a = b.a))) ks → ks.length ≤ v.total → Hs h' (own a ks.length c T_string 1 (ks.map fun k => .string k.e) :: storeA s v :: L) → Q (.slice a ks.length c) h') :
    SpecH PP F_chain_Store_List [.pointer (some ⟨s, 0, none⟩), bxA b, .int .i64 t] h Q := by
  refine chain_Store_List.door ?_
  dsimp only
  have H1 := H.new (t := T_api_Box) (cs := (bxV b).toArray) (xs := bxV b)
  generalize Array.size h = b4 at H1 ⊢
  refine keys_hs (L := pt b4 T_api_Box (bxV b) :: L) (fun k => decide (k.t = b.t) && decide (k.a = b.a)) (fun k M h R H K => ?_) hv hb H1.m1 fun h2 a c ks hk hl H2 => ⟨_, _, _, rfl, ?_⟩
  · refine callV_fn (by kernel_rfl) ?_
    show SpecH PP F_chain_Store_List_1 [_, _] h R
    refine chain_Store_List_1.door ?_
    dsimp only
    have H0 : Hs h (pt b4 T_api_Box (bxV b) :: (M ++ L)) := H.perm List.perm_middle
    have H1 := H0.new (t := T_api_Key) (cs := (keyV k).toArray) (xs := keyV k)
    have back : ∀ {h' : Heap}, Hs h' (pt b4 T_api_Box (bxV b) :: (M ++ L)) → Hs h' (M ++ pt b4 T_api_Box (bxV b) :: L) := fun H => H.perm List.perm_middle.symm
    refine ⟨_, H1.cell (off := 0) rfl, _, H1.m1.cell (off := 0) rfl, (br_iff _ _ _).2 ⟨fun e => ⟨_, H1.cell (off := 1) rfl, _, H1.m1.cell (off := 1) rfl, ?_⟩, fun e => ?_⟩⟩
    · have := K _ (back H1.tl); rw [e, Bool.true_and] at this; exact this
    · have := K _ (back H1.tl); rw [e, Bool.false_and] at this; exact this
  · have go : ∀ (n i : Nat) {h : Heap} {a' : OA} {c' : Nat}, n + i = ks.length → Hs h (own a' (ks.take i).length c' T_string 1 ((ks.take i).map fun k => .string k.e) :: own a ks.length c T_api_Key 3 (ks.flatMap keyV) :: storeA s v :: L) →
        chain_Store_List.L1 a' (ks.take i).length c' a ks.length c (ks.length : Int) (i : Int) (chain_Store_List.K1 Q) h := by
      intro n
      induction n with
      | zero =>
        intro i h a' c' hi H
        refine chain_Store_List.L1_of (br_false (decide_eq_false (by omega)) (chain_Store_List.L1_X0 ?_))
        rw [List.take_of_length_le (by omega)] at H ⊢
        exact kk h a' c' ks hk hl H.m1.tl
      | succ n ih =>
        intro i h a' c' hi H
        refine chain_Store_List.L1_of (br_true (decide_eq_true (by omega)) ?_)
        refine idxf E_sl_api_Key (φ := keyV) (l := ks) (x := ks[i]) (H.m1.rd) keyV_len (by decide) (by omega) (by omega) (by simp) fun t1 ht => ⟨_, _, _, ht, ?_⟩
        dsimp only
        refine Hs.wrs (b := Array.size h) (xs := [.string ⟨#[]⟩, .string ⟨#[]⟩, .string ⟨#[]⟩]) H.new (fun h3 H3 => ⟨_, H3.cell (off := 2) rfl, ?_⟩)
        have hmm : ((ks.take i).map fun k => Value.string k.e) = ((ks.take i).map Key.e).map Value.string := by rw [List.map_map]; rfl
        have hll : (ks.take i).length = ((ks.take i).map Key.e).length := by simp
        have H4 := H3.tl
        rw [hmm] at H4
        rw [hll] at H4 ⊢
        refine str_app (w := ks[i].e) (by simp; omega) H4 fun h5 a5 c5 H5 => ⟨_, _, _, rfl, ?_⟩
        have e5 : (ks.take i).map Key.e ++ [ks[i].e] = (ks.take (i + 1)).map Key.e := by
          rw [List.take_succ_eq_append_getElem (by omega), List.map_append]; rfl
        rw [e5] at H5 ⊢
        rw [i1 (i := i) (by omega)]
        have := ih (i + 1) (h := h5) (a' := a5) (c' := c5) (by omega)
        rw [show ((ks.take (i + 1)).map fun k => Value.string k.e) = ((ks.take (i + 1)).map Key.e).map Value.string by rw [List.map_map]; rfl, show (ks.take (i + 1)).length = ((ks.take (i + 1)).map Key.e).length by simp] at this
        exact this H5
    have := go ks.length 0 (h := h2) (a' := none) (c' := 0) (by omega)
    exact this ((H2.m2.tl).own_nil T_string 1)
end Go.Proofs.Ytjkfngolgjbakaa

set_option maxRecDepth 20000
set_option linter.unusedVariables false
set_option linter.unusedSimpArgs false
namespace Go.Proofs.Ytjkfngolgjbakaa
open Go Go.HW
variable {h : Heap} {L : List Assn} {Q : Value → Heap → Prop}
def putV (vs : List Ver) (x : Ver) : List Ver := match vs.getLast? with | some y => if y.at_ = x.at_ then vs.dropLast ++ [x] else vs ++ [x] | none => vs ++ [x]
def wver (a : Int) (w : Wr) : Ver := ⟨a, w.there, if w.there then w.data else ⟨#[]⟩⟩
def CS.put1 (a : Int) (v : CS) (w : Wr) : CS := { v with ch := mset v.ch w.k (putV (v.vs w.k) (wver a w)) }
def CS.put (v : CS) (a : Int) (ws : List Wr) : CS := ws.foldl (CS.put1 a) { v with now := a }
def nilCh : Ch := ⟨none, 0, []⟩
def chOf (m : List (Key × Ch)) (k : Key) : Ch := (mget m k).getD nilCh
theorem chOf_vs {m : List (Key × Ch)} {v : CS} (em : absM m = v.ch) (k : Key) : (chOf m k).vs = v.vs k := by
  unfold chOf CS.vs; rw [← em, absM_get]; cases mget m k <;> rfl
theorem look_ch (m : List (Key × Ch)) (k : Key) : (match mget m k with | some v => chV v | none => .slice none 0 0) = chV (chOf m k) := by
  unfold chOf; cases mget m k <;> rfl
theorem take_ch {m : List (Key × Ch)} {k : Key} (hn : (m.map (·.1)).Nodup) (H : Hs h (fam chA m :: L)) : Hs h (chA (chOf m k) :: fam chA (mdel m k) :: L) := by
  unfold chOf
  cases e : mget m k with
  | none => rw [mdel_none e]; exact H.own_nil T_chain_version 3
  | some x => exact H.fam_take hn e
theorem sum_mset {l : List (Key × List Ver)} {k : Key} {x : List Ver} : ((mset l k x).map fun x => x.2.length).sum + ((mget l k).getD []).length = (l.map fun x => x.2.length).sum + x.length := by
  induction l with
  | nil => simp [mset, mget_nil]
  | cons y l ih =>
    rw [mset, mget_cons]
    by_cases e : y.1 = k
    · rw [if_pos e, if_pos e]; simp; omega
    · rw [if_neg e, if_neg e]; simp; omega
theorem putV_len (vs : List Ver) (x : Ver) : (putV vs x).length ≤ vs.length + 1 ∧ vs.length ≤ (putV vs x).length := by
  unfold putV
  split
  · rename_i y e
    have : vs ≠ [] := by rintro rfl; simp at e
    have := List.length_pos_iff.2 this
    split <;> simp <;> omega
  · simp
theorem put1_total (a : Int) (v : CS) (w : Wr) : (v.put1 a w).total ≤ v.total + 1 := by
  have h1 := sum_mset (l := v.ch) (k := w.k) (x := putV (v.vs w.k) (wver a w))
  have h2 := putV_len (v.vs w.k) (wver a w)
  unfold CS.total CS.put1 CS.vs at *
  simp only at *; omega
theorem Put_hs {s : Nat} {v : CS} {x : Cm} (hb : v.total + x.n < 2 ^ 40) (ok : CmOk L x) (H : Hs h (storeA s v :: L)) (k0 : x.at_ ≤ v.now → ∀ h', Hs h' (storeA s v :: L) → Q (.int .i64 120) h')
    (k1 : v.now < x.at_ → ∀ h', Hs h' (storeA s (v.put x.at_ x.ws) :: L) → Q (.int .i64 0) h') : SpecH PP F_chain_Store_Put [.pointer (some ⟨s, 0, none⟩), .agg (cmV x).toArray] h Q := by
  have hn := ok.n
  obtain ⟨m, r, em, H⟩ := storeA_open.1 H
  refine chain_Store_Put.door ?_
  dsimp only
  have H1 := H.new (t := T_api_Commit) (cs := (cmV x).toArray) (xs := cmV x)
  generalize Array.size h = c3 at H1 ⊢
  refine br_false rfl ⟨_, H1.cell (off := 0) rfl, _, H1.m1.cell (off := 1) rfl, (br_iff _ _ _).2 ⟨fun e => ?_, fun e => ?_⟩⟩
  · exact k0 (of_decide_eq_true e) _ (storeA_open.2 ⟨m, r, em, H1.tl⟩)
  have k1 := k1 (by have := of_decide_eq_false e; omega)
  refine ⟨_, H1.cell (off := 0) rfl, ?_⟩
  refine H1.m1.sto (off := 1) (by simp) fun h2 H2 => ?_
  refine ⟨_, _, _, H2.m1.cell (off := 1) rfl, ?_⟩
  have go : ∀ (n i : Nat) {v : CS} {h : Heap}, n + i = x.n → v.now = x.at_ → v.total + n < 2 ^ 40 → (∀ h', Hs h' (storeA s ((x.ws.drop i).foldl (CS.put1 x.at_) v) :: L) → Q (.int .i64 0) h') → Hs h (storeA s v :: pt c3 T_api_Commit (cmV x) :: L) →
      chain_Store_Put.L1 (some ⟨s, 0, none⟩) ⟨c3, 0, none⟩ x.a x.n x.c (x.n : Int) (i : Int) (chain_Store_Put.K1 Q) h := by
    intro n
    induction n with
    | zero =>
      intro i v h hi hnow htot kk H
      rw [List.drop_of_length_le (by omega)] at kk
      exact chain_Store_Put.L1_of (br_false (decide_eq_false (by omega)) (chain_Store_Put.L1_X1 (kk h H.m1.tl)))
    | succ n ih =>
      intro i v h hi hnow htot kk H
      rw [List.drop_eq_getElem_cons (by omega), List.foldl_cons] at kk
      refine chain_Store_Put.L1_of (br_true (decide_eq_true (by omega)) ?_)
      refine idxf E_sl_api_Write (φ := wrV) (l := x.ws) (x := x.ws[i]) (ok.rd.cons.cons _ H) wrV_len (by decide) (by omega) (by omega) (by simp) fun t ht => ⟨_, _, _, _, _, ht, ?_⟩
      generalize x.ws[i] = w at kk ⊢
      dsimp only
      refine Hs.wrs (b := Array.size h) (xs := [.string ⟨#[]⟩, .string ⟨#[]⟩, .string ⟨#[]⟩, .bool false, .string ⟨#[]⟩]) H.new (fun h3 H3 => ?_)
      generalize Array.size h = w6 at H3 ⊢
      refine ⟨_, H3.m2.cell (off := 0) rfl, _, H3.cell (off := 3) rfl, ?_⟩
      refine Hs.wrs (b := Array.size h3) (xs := [.int .i64 0, .bool false, .string ⟨#[]⟩]) H3.new (fun h4 H4 => ?_)
      generalize Array.size h3 = v7 at H4 ⊢
      have J3 : ∀ {h : Heap}, Hs h (storeA s (v.put1 x.at_ w) :: pt v7 T_chain_version (verV (wver x.at_ w)) :: pt w6 T_api_Write (wrV w) :: pt c3 T_api_Commit (cmV x) :: L) → chain_Store_Put.J3 (some ⟨s, 0, none⟩) ⟨c3, 0, none⟩ x.a x.n x.c (x.n : Int) (i : Int) (chain_Store_Put.K1 Q) h := by
        intro h H
        refine chain_Store_Put.J3_of ?_
        dsimp only
        rw [i1 (i := i) (by omega)]
        have := put1_total x.at_ v w
        exact ih (i + 1) (v := v.put1 x.at_ w) (by omega) hnow (by omega) kk H.m1.tl.m1.tl
      have J1 : ∀ {h : Heap}, Hs h (pt v7 T_chain_version (verV (wver x.at_ w)) :: pt w6 T_api_Write (wrV w) :: storeA s v :: pt c3 T_api_Commit (cmV x) :: L) → chain_Store_Put.J1 (some ⟨s, 0, none⟩) ⟨c3, 0, none⟩ ⟨w6, 0, none⟩ ⟨v7, 0, none⟩ x.a x.n x.c (x.n : Int) (i : Int) (chain_Store_Put.K1 Q) h := by
        intro h H
        obtain ⟨m, r, em, H⟩ := storeA_open.1 H.m2
        have hnd := H.m1.mp_nodup
        have evs := chOf_vs em w.k
        refine chain_Store_Put.J1_of ⟨_, H.cell (off := 0) rfl, _, _, _, H.m4.rdo 0 rfl, ?_⟩
        refine H.m1.lookup1 (t := T_map_api_Key_sl_chain_version) U_map_api_Key_sl_chain_version KeyK zCh w.k ?_
        refine ⟨(chOf m w.k).a, (chOf m w.k).vs.length, (chOf m w.k).c, by unfold chOf; cases mget m w.k <;> rfl, ?_⟩
        have hlen : (chOf m w.k).vs.length ≤ v.total := by
          rw [evs]
          unfold CS.vs CS.total
          cases e : mget v.ch w.k with
          | none => simp
          | some y => exact mem_le_sum (List.mem_map_of_mem (f := fun x => x.2.length) (mget_mem e))
        have H5 : Hs h (chA (chOf m w.k) :: fam chA (mdel m w.k) :: mp keyA chV r m :: pt s T_chain_Store [.map (some r), .int .i64 v.now, .int .i64 v.floor] :: pt v7 T_chain_version (verV (wver x.at_ w)) :: pt w6 T_api_Write (wrV w) :: pt c3 T_api_Commit (cmV x) :: L) := take_ch hnd H.m2.m2.m1
        clear H
        generalize hx : chOf m w.k = ch at H5 evs hlen ⊢
        -- behind an append
        have AP : ∀ {R : VP}, (∀ h' a' c', Hs h' (own a' (ch.vs.length + 1) c' T_chain_version 3 (ch.vs.flatMap verV ++ verV (wver x.at_ w)) :: fam chA (mdel m w.k) :: mp keyA chV r m :: pt s T_chain_Store [.map (some r), .int .i64 v.now, .int .i64 v.floor] :: pt v7 T_chain_version (verV (wver x.at_ w)) :: pt w6 T_api_Write (wrV w) :: pt c3 T_api_Commit (cmV x) :: L) → R (.slice a' (ch.vs.length + 1) c') h') →
            hwp PP (Builtin.append_ #[T_sl_chain_version, T_sl_chain_version] T_sl_chain_version #[.slice ch.a ch.vs.length ch.c, .slice (some ⟨Array.size h, 0, none⟩) 1 1]) R (Array.push h (.cells (verV (wver x.at_ w)).toArray T_chain_version (0, 0))) := fun K =>
          Hs.app_vals H5 E_sl_chain_version (m := 1) (ys := verV (wver x.at_ w)) rfl rfl (verV_one _) K (by omega) (by omega)
        have UP : ∀ {h' : Heap} {a' : OA} {c' : Nat}, putV (v.vs w.k) (wver x.at_ w) = ch.vs ++ [wver x.at_ w] → Hs h' (own a' (ch.vs.length + 1) c' T_chain_version 3 (ch.vs.flatMap verV ++ verV (wver x.at_ w)) :: fam chA (mdel m w.k) :: mp keyA chV r m :: pt s T_chain_Store [.map (some r), .int .i64 v.now, .int .i64 v.floor] :: pt v7 T_chain_version (verV (wver x.at_ w)) :: pt w6 T_api_Write (wrV w) :: pt c3 T_api_Commit (cmV x) :: L) →
            hwp PP (Instr.mapUpdate T_map_api_Key_sl_chain_version (.map (some r)) (keyA w.k) (.slice a' (ch.vs.length + 1) c')) (fun _ h29 => chain_Store_Put.J3 (some ⟨s, 0, none⟩) ⟨c3, 0, none⟩ x.a x.n x.c (x.n : Int) (i : Int) (chain_Store_Put.K1 Q) h29) h' := by
          intro h' a' c' hp H
          have e1 : ch.vs.length + 1 = (⟨a', c', ch.vs ++ [wver x.at_ w]⟩ : Ch).vs.length := by simp
          have e2 : ch.vs.flatMap verV ++ verV (wver x.at_ w) = (⟨a', c', ch.vs ++ [wver x.at_ w]⟩ : Ch).vs.flatMap verV := by simp
          rw [e1, e2] at H
          rw [e1]
          refine H.m2.mset (t := T_map_api_Key_sl_chain_version) U_map_api_Key_sl_chain_version KeyK w.k (⟨a', c', ch.vs ++ [wver x.at_ w]⟩ : Ch) rfl fun h2 H2 => J3 ?_
          have H3 : Hs h2 (chA ⟨a', c', ch.vs ++ [wver x.at_ w]⟩ :: fam chA (mdel m w.k) :: mp keyA chV r (mset m w.k ⟨a', c', ch.vs ++ [wver x.at_ w]⟩) :: pt s T_chain_Store [.map (some r), .int .i64 v.now, .int .i64 v.floor] :: pt v7 T_chain_version (verV (wver x.at_ w)) :: pt w6 T_api_Write (wrV w) :: pt c3 T_api_Commit (cmV x) :: L) := H2.m2.m2
          exact storeA_open.2 ⟨_, r, by rw [absM_set, em, ← hp]; rfl, (H3.fam_put hnd).m1.m2⟩
        have J2f : putV (v.vs w.k) (wver x.at_ w) = ch.vs ++ [wver x.at_ w] → chain_Store_Put.J2 (some ⟨s, 0, none⟩) ⟨c3, 0, none⟩ ⟨w6, 0, none⟩ ⟨v7, 0, none⟩ ch.a ch.vs.length ch.c (ch.vs.length : Int) x.a x.n x.c (x.n : Int) (i : Int) false (chain_Store_Put.K1 Q) h := by
          intro hp
          have cA : cellH h ⟨s, 0, none⟩ = some (.map (some r)) := H5.m3.cell (off := 0) rfl
          have cB : rdCells h ⟨w6, 0, none⟩ 0 (keyV w.k) := H5.m5.rdo 0 rfl
          have HP := (H5.new (t := T_chain_version) (cs := (verV (wver x.at_ w)).toArray) (xs := verV (wver x.at_ w))).tl
          have pA : cellH (Array.push h (.cells (verV (wver x.at_ w)).toArray T_chain_version (0, 0))) ⟨s, 0, none⟩ = some (.map (some r)) := HP.m3.cell (off := 0) rfl
          have pB : rdCells (Array.push h (.cells (verV (wver x.at_ w)).toArray T_chain_version (0, 0))) ⟨w6, 0, none⟩ 0 (keyV w.k) := HP.m5.rdo 0 rfl
          refine chain_Store_Put.J2_of (br_false rfl ?_)
          dsimp only [nilc]
          refine ⟨_, _, _, H5.m4.rdc0, ?_⟩
          have u0 := AP (R := fun v h => ∃ (a : OA) (n c : Nat), v = .slice a n c ∧ hwp PP (Instr.mapUpdate T_map_api_Key_sl_chain_version (.map (some r)) (keyA w.k) (.slice a n c)) (fun _ h29 => chain_Store_Put.J3 (some ⟨s, 0, none⟩) ⟨c3, 0, none⟩ x.a x.n x.c (x.n : Int) (i : Int) (chain_Store_Put.K1 Q) h29) h) fun h' a' c' H' => ⟨_, _, _, rfl, UP hp H'⟩
          have u1 := AP (R := fun v h => ∃ (a : OA) (n c : Nat), v = .slice a n c ∧ ∃ (k0 k1 k2 : ByteArray), rdCells h ⟨w6, 0, none⟩ 0 [.string k0, .string k1, .string k2] ∧ hwp PP (Instr.mapUpdate T_map_api_Key_sl_chain_version (.map (some r)) (.agg #[.string k0, .string k1, .string k2]) (.slice a n c)) (fun _ h29 => chain_Store_Put.J3 (some ⟨s, 0, none⟩) ⟨c3, 0, none⟩ x.a x.n x.c (x.n : Int) (i : Int) (chain_Store_Put.K1 Q) h29) h) fun h' a' c' H' => ⟨_, _, _, rfl, _, _, _, H'.m5.rdo 0 rfl, UP hp H'⟩
          have u2 := AP (R := fun v h => ∃ (a : OA) (n c : Nat), v = .slice a n c ∧ ∃ (r : ON), cellH h ⟨s, 0, none⟩ = some (.map r) ∧ hwp PP (Instr.mapUpdate T_map_api_Key_sl_chain_version (.map r) (keyA w.k) (.slice a n c)) (fun _ h29 => chain_Store_Put.J3 (some ⟨s, 0, none⟩) ⟨c3, 0, none⟩ x.a x.n x.c (x.n : Int) (i : Int) (chain_Store_Put.K1 Q) h29) h) fun h' a' c' H' => ⟨_, _, _, rfl, _, H'.m3.cell (off := 0) rfl, UP hp H'⟩
          have u3 := AP (R := fun v h => ∃ (a : OA) (n c : Nat), v = .slice a n c ∧ ∃ (r : ON), cellH h ⟨s, 0, none⟩ = some (.map r) ∧ ∃ (k0 k1 k2 : ByteArray), rdCells h ⟨w6, 0, none⟩ 0 [.string k0, .string k1, .string k2] ∧ hwp PP (Instr.mapUpdate T_map_api_Key_sl_chain_version (.map r) (.agg #[.string k0, .string k1, .string k2]) (.slice a n c)) (fun _ h29 => chain_Store_Put.J3 (some ⟨s, 0, none⟩) ⟨c3, 0, none⟩ x.a x.n x.c (x.n : Int) (i : Int) (chain_Store_Put.K1 Q) h29) h) fun h' a' c' H' => ⟨_, _, _, rfl, _, H'.m3.cell (off := 0) rfl, _, _, _, H'.m5.rdo 0 rfl, UP hp H'⟩
          exact ⟨⟨_, cA, ⟨_, _, _, cB, u0⟩, ⟨⟨_, _, _, pB, u0⟩, u1, trivial⟩, trivial⟩,
            ⟨_, _, _, cB, ⟨_, cA, u0⟩, ⟨⟨_, pA, u0⟩, u2, trivial⟩, trivial⟩,
            ⟨⟨_, pA, ⟨_, _, _, pB, u0⟩, u1, trivial⟩, ⟨_, _, _, pB, ⟨_, pA, u0⟩, u2, trivial⟩, u3, trivial⟩, trivial⟩
        rcases Nat.eq_zero_or_pos ch.vs.length with q | q
        · refine br_false (decide_eq_false (by omega)) (J2f ?_)
          have : ch.vs = [] := List.length_eq_zero_iff.1 q
          rw [← evs, this]; rfl
        · refine br_true (decide_eq_true (by omega)) ?_
          rw [d1 q (by omega)]
          have hl : ch.vs.getLast? = some ch.vs[ch.vs.length - 1] := by rw [List.getLast?_eq_getElem?, List.getElem?_eq_getElem (by omega)]
          refine idxf E_sl_chain_version (φ := verV) (l := ch.vs) (x := ch.vs[ch.vs.length - 1]) (Hs.rd H5) verV_len (by decide) (by omega) (by omega) (by rw [Int.toNat_natCast]; simp) fun t1 ht => ⟨_, ht.1, _, H5.m6.cell (off := 0) rfl, ?_⟩
          cases e3 : (ch.vs[ch.vs.length - 1].at_ == x.at_) with
          | false =>
            refine J2f ?_
            have e3 := beq_eq_false_iff_ne.1 e3
            unfold putV
            rw [← evs, hl]
            exact if_neg e3
          | true =>
            have e3 := beq_iff_eq.1 e3
            have hp : putV (v.vs w.k) (wver x.at_ w) = ch.vs.set (ch.vs.length - 1) (wver x.at_ w) := by
              unfold putV
              rw [← evs, hl]
              refine (if_pos e3).trans ?_
              rw [List.set_eq_take_append_cons_drop, if_pos (by omega), List.drop_of_length_le (by omega), List.dropLast_eq_take]
            refine chain_Store_Put.J2_of (br_true rfl ⟨_, _, _, H5.m4.rdc0, ?_⟩)
            rw [d1 q (by omega)]
            refine Hs.idx_wrf (wver x.at_ w) E_sl_chain_version (l := ch.vs) H5 (by omega) (by omega) verV_len (by decide) (verV_one _) fun h' H' => J3 ?_
            rw [Int.toNat_natCast] at H'
            have e1 : ch.vs.length = (⟨ch.a, ch.c, ch.vs.set (ch.vs.length - 1) (wver x.at_ w)⟩ : Ch).vs.length := by simp
            have hg : mget m w.k = some ch := by
              unfold chOf at hx
              cases e : mget m w.k with
              | none => rw [e] at hx; rw [← hx] at q; exact absurd q (by simp [nilCh])
              | some y => rw [e] at hx; rw [← hx]; rfl
            have H6 : Hs h' (chA ⟨ch.a, ch.c, ch.vs.set (ch.vs.length - 1) (wver x.at_ w)⟩ :: fam chA (mdel m w.k) :: mp keyA chV r m :: pt s T_chain_Store [.map (some r), .int .i64 v.now, .int .i64 v.floor] :: pt v7 T_chain_version (verV (wver x.at_ w)) :: pt w6 T_api_Write (wrV w) :: pt c3 T_api_Commit (cmV x) :: L) := by
              unfold chA; rw [← e1]; exact H'
            have H7 := (H6.fam_put hnd).m1.mono fun μ k => mp_congr (ν' := chV) (mset_same (y := ⟨ch.a, ch.c, ch.vs.set (ch.vs.length - 1) (wver x.at_ w)⟩) hg (by unfold chV; rw [← e1])).symm k
            exact storeA_open.2 ⟨_, r, by rw [absM_set, em, ← hp]; rfl, H7.m2⟩
      refine ⟨_, H4.m1.cell (off := 3) rfl, (br_iff _ _ _).2 ⟨fun e => ⟨_, H4.m1.cell (off := 4) rfl, ?_⟩, fun e => J1 ?_⟩⟩
      · refine H4.sto (off := 2) (by simp) fun h5 H5 => J1 ?_
        have : wver x.at_ w = ⟨x.at_, w.there, w.data⟩ := by unfold wver; rw [if_pos e]
        rw [this]; exact H5
      · have : wver x.at_ w = ⟨x.at_, w.there, ⟨#[]⟩⟩ := by unfold wver; rw [if_neg (by rw [e]; simp)]
        rw [this]; exact H4
  have := go x.n 0 (v := { v with now := x.at_ }) (h := h2) (by omega) rfl hb (by rw [List.drop_zero]; exact k1) (storeA_open.2 ⟨m, r, em, H2.m1.r3⟩)
  exact this
end Go.Proofs.Ytjkfngolgjbakaa

set_option maxRecDepth 20000
set_option linter.unusedVariables false
set_option linter.unusedSimpArgs false
namespace Go.Proofs.Ytjkfngolgjbakaa
open Go Go.HW
variable {h : Heap} {L : List Assn} {Q : Value → Heap → Prop}
theorem sum_perm {l m : List Nat} (p : l.Perm m) : l.sum = m.sum := by
  induction p with
  | nil => rfl
  | cons x _ ih => simp [ih]
  | swap x y l => simp; omega
  | trans _ _ h1 h2 => exact h1.trans h2
theorem abs_total {m : List (Key × Ch)} {v : CS} (em : absM m = v.ch) : (m.map fun x => x.2.vs.length).sum = v.total := by
  unfold CS.total; rw [← em]; unfold absM; rw [List.map_map]; rfl
theorem Versions_hs {s : Nat} {v : CS} (hb : v.total < 2 ^ 40) (H : Hs h (storeA s v :: L)) (kk : ∀ h', Hs h' (storeA s v :: L) → Q (.int .i64 (v.total : Nat)) h') : SpecH PP F_chain_Store_Versions [.pointer (some ⟨s, 0, none⟩)] h Q := by
  obtain ⟨m, r, em, H⟩ := storeA_open.1 H
  have ht := abs_total em
  refine chain_Store_Versions.door (br_true rfl ⟨_, H.cell (off := 0) rfl, ?_⟩)
  refine H.m1.range (t := T_map_api_Key_sl_chain_version) U_map_api_Key_sl_chain_version fun h1 i H1 => ⟨_, rfl, ?_⟩
  have go : ∀ (n : Nat) {h : Heap} {done todo : List (Key × Ch)}, todo.length ≤ n → Hs h (rgn keyA chV r i m done todo :: pt s T_chain_Store [.map (some r), .int .i64 v.now, .int .i64 v.floor] :: fam chA m :: L) →
      chain_Store_Versions.L1 (((done.map fun x => x.2.vs.length).sum : Nat) : Int) (.pointer (some ⟨i, 0, none⟩)) (chain_Store_Versions.K1 Q) h := by
    intro n
    induction n with
    | zero =>
      intro h done todo hn H
      have hp := H.rgn_perm
      refine chain_Store_Versions.L1_of (H.next (fun e => ⟨false, [], rfl, br_false rfl (chain_Store_Versions.L1_X0 (chain_Store_Versions.J1_of ?_))⟩) (fun h' x todo' p _ => by have := p.length_eq; simp at this; omega))
      rw [e, List.append_nil] at hp
      rw [sum_perm (hp.map fun x => x.2.vs.length), ht]
      exact kk h (storeA_open.2 ⟨m, r, em, H.rgn_end.m1⟩)
    | succ n ih =>
      intro h done todo hn H
      have hp := H.rgn_perm
      refine chain_Store_Versions.L1_of (H.next (fun e => ⟨false, [], rfl, br_false rfl (chain_Store_Versions.L1_X0 (chain_Store_Versions.J1_of ?_))⟩) (fun h' x todo' p H2 => ⟨true, [keyA x.1, chV x.2], rfl, br_true rfl ?_⟩))
      · rw [e, List.append_nil] at hp
        rw [sum_perm (hp.map fun x => x.2.vs.length), ht]
        exact kk h (storeA_open.2 ⟨m, r, em, H.rgn_end.m1⟩)
      · have hl := p.length_eq
        rw [List.length_cons] at hl
        have hp2 := H2.rgn_perm
        have hs := sum_perm (hp2.map fun x => x.2.vs.length)
        rw [ht, List.map_append, List.sum_append, List.map_append, List.sum_append] at hs
        simp only [List.map_cons, List.map_nil, List.sum_cons, List.sum_nil] at hs
        refine H2.entry ⟨_, _, rfl, x.2.a, x.2.vs.length, x.2.c, rfl, ?_⟩
        have := ih (h := h') (done := done ++ [x]) (todo := todo') (by omega) H2
        rw [List.map_append, List.sum_append] at this
        simp only [List.map_cons, List.map_nil, List.sum_cons, List.sum_nil] at this
        dsimp only
        rw [wrap_i64_z (by omega) (by omega)]
        rw [show (((done.map fun x => x.2.vs.length).sum : Nat) : Int) + ((x.2.vs.length : Nat) : Int) = (((done.map fun x => x.2.vs.length).sum + (x.2.vs.length + 0) : Nat) : Int) by omega]
        exact this
  have := go m.length (done := []) (todo := m) (Nat.le_refl _) H1
  exact this
/-! ### Prune -/
/-- How many versions of a chain go. -/
def prn (f : Int) (vs : List Ver) : Nat := match pick vs f with | some v => if v.there then cnt vs f - 1 else cnt vs f | none => cnt vs f
def prV (f : Int) (vs : List Ver) : List Ver := vs.drop (prn f vs)
def prK (f : Int) (o : Option (List Ver)) : Option (List Ver) := o.bind fun vs => if prV f vs = [] then none else some (prV f vs)
theorem prn_le (f : Int) (vs : List Ver) : prn f vs ≤ vs.length := by
  have := cnt_le vs f
  unfold prn; split
  · split <;> omega
  · exact this
/-- What is left. -/
structure Pruned (v v' : CS) (f : Int) (gone : Nat) : Prop where
  now : v'.now = v.now
  floor : v'.floor = f
  nd : (v'.ch.map (·.1)).Nodup
  get : ∀ k, mget v'.ch k = prK f (mget v.ch k)
  tot : v'.total + gone = v.total
theorem Clone_hs {a : OA} {n c : Nat} {vs : List Ver} (hn : vs.length = n) (hn0 : a = none → n = 0) (hmax : n < 2 ^ 40) (g : Gv L a (vs.flatMap verV)) (H : Hs h L) (kk : ∀ h' a' c', Hs h' (own a' n c' T_chain_version 3 (vs.flatMap verV) :: L) → Q (.slice a' n c') h') :
    SpecH PP F_slices_Clone_chain_version_chain_version [.slice a n c] h Q := by
  refine slices_Clone_chain_version_chain_version.door ?_
  cases a with
  | none =>
    have := hn0 rfl
    subst this
    have e : vs = [] := List.length_eq_zero_iff.1 hn
    subst e
    exact br_true rfl (kk h none 0 (H.own_nil T_chain_version 3))
  | some ad =>
    refine br_false rfl ?_
    have H1 := H.new (t := T_chain_version) (cs := #[]) (xs := [])
    have H2 : Hs _ (own (some ⟨Array.size h, 0, none⟩) 0 0 T_chain_version 3 [] :: L) := H1.pt_own 0 rfl rfl (Nat.le_refl _) (by simp)
    refine H2.app_sl E_sl_chain_version (m := n) (ys := vs.flatMap verV) (g _ H2.tl) (by rw [flat_len verV_len, hn]) (fun e => by cases e) (fun x hx => by obtain ⟨v, _, hv⟩ := List.mem_flatMap.1 hx; exact verV_one v x hv) (fun h' a' c' H' => ⟨_, _, _, rfl, ?_⟩) (by omega) (by omega)
    rw [Nat.zero_add] at H' ⊢
    exact kk h' a' c' H'
theorem prK_nil (f : Int) : prK f none = none := rfl
theorem take_of_total {m : List (Key × Ch)} {k : Key} {x : Ch} (e : mget m k = some x) : x.vs.length ≤ (m.map fun x => x.2.vs.length).sum := mem_le_sum (List.mem_map_of_mem (f := fun x : Key × Ch => x.2.vs.length) (mget_mem e))
theorem total_mset {m : List (Key × Ch)} {k : Key} {x y : Ch} (e : mget m k = some x) : ((mset m k y).map fun x => x.2.vs.length).sum + x.vs.length = (m.map fun x => x.2.vs.length).sum + y.vs.length := by
  induction m with
  | nil => simp [mget_nil] at e
  | cons z m ih =>
    rw [mget_cons] at e
    rw [mset]
    by_cases hz : z.1 = k
    · rw [if_pos hz] at e ⊢; cases e; simp; omega
    · rw [if_neg hz] at e ⊢; have := ih e; simp; omega
theorem total_mdel {m : List (Key × Ch)} {k : Key} {x : Ch} (hn : (m.map (·.1)).Nodup) (e : mget m k = some x) : ((mdel m k).map fun x => x.2.vs.length).sum + x.vs.length = (m.map fun x => x.2.vs.length).sum := by
  have := sum_perm ((mget_perm hn e).map fun x => x.2.vs.length)
  simp only [List.map_cons, List.sum_cons] at this; omega
theorem Prune_hs {s : Nat} {v : CS} {t : Int} (hv : CI v) (hb : v.total < 2 ^ 40) (H : Hs h (storeA s v :: L)) (k0 : t ≤ v.floor → Q (.int .i64 0) h)
    (k1 : v.floor < t → ∀ h' v' gone, Pruned v v' (if v.now < t then v.now else t) gone → Hs h' (storeA s v' :: L) → Q (.int .i64 (gone : Nat)) h') : SpecH PP F_chain_Store_Prune [.pointer (some ⟨s, 0, none⟩), .int .i64 t] h Q := by
  obtain ⟨m, r, em, H⟩ := storeA_open.1 H
  refine chain_Store_Prune.door (br_false rfl ⟨_, H.cell (off := 2) rfl, chain_Store_Prune.J1_of ((br_iff _ _ _).2 ⟨fun e => k0 (of_decide_eq_true e), fun e => ?_⟩)⟩)
  have k1 := k1 (by have := of_decide_eq_false e; omega)
  dsimp only [nilc]
  refine ⟨_, H.cell (off := 1) rfl, H.sto (off := 2) (by simp) fun h1 H1 => ?_⟩
  generalize hf : (if v.now < t then v.now else t) = f at H1 k1 ⊢
  refine ⟨_, H1.cell (off := 0) rfl, ?_⟩
  have H1 : Hs h1 (pt s T_chain_Store [.map (some r), .int .i64 v.now, .int .i64 f] :: mp keyA chV r m :: fam chA m :: L) := H1
  refine H1.m1.ranges (t := T_map_api_Key_sl_chain_version) U_map_api_Key_sl_chain_version fun h2 i H2 => ⟨_, rfl, ?_⟩
  have hmx : mx f f = f := by unfold mx; split <;> rfl
  have ht0 := abs_total em
  have fin : ∀ {h : Heap} {told : List Key} {m' : List (Key × Ch)} {gone : Nat}, (∀ x ∈ m', x.1 ∈ told) → (∀ k, mget (absM m') k = if k ∈ told then prK f (mget v.ch k) else mget v.ch k) → (m'.map fun x => x.2.vs.length).sum + gone = v.total →
      Hs h (rgs keyA chV r i m' told :: pt s T_chain_Store [.map (some r), .int .i64 v.now, .int .i64 f] :: fam chA m' :: L) → chain_Store_Prune.K2 Q (.exit 0) (chain_Store_Prune.X0 (gone : Nat)) h := by
    intro h told m' gone hall hget htot H
    refine chain_Store_Prune.L1_X0 ?_
    have hnd := H.rgs_nodup
    refine k1 h ⟨absM m', v.now, f⟩ gone ⟨rfl, rfl, by rw [absM_keys]; exact hnd, fun k => ?_, ?_⟩ (storeA_open.2 ⟨m', r, rfl, H.rgs_mp.m1⟩)
    · show mget (absM m') k = _
      rw [hget k]
      by_cases hk : k ∈ told
      · rw [if_pos hk]
      · rw [if_neg hk]
        have : mget (absM m') k = none := by
          rw [mget_none, absM_keys]
          intro q
          obtain ⟨x, hx, rfl⟩ := List.mem_map.1 q
          exact hk (hall x hx)
        rw [hget k, if_neg hk] at this
        rw [this]; rfl
    · rw [← abs_total (v := ⟨absM m', v.now, f⟩) rfl]; exact htot
  have go : ∀ (n : Nat) {h : Heap} {told : List Key} {m' : List (Key × Ch)} {gone : Nat}, m.length - told.length ≤ n → told.Nodup → (∀ k ∈ told, k ∈ m.map (·.1)) → (∀ k, mget (absM m') k = if k ∈ told then prK f (mget v.ch k) else mget v.ch k) → (m'.map fun x => x.2.vs.length).sum + gone = v.total →
      Hs h (rgs keyA chV r i m' told :: pt s T_chain_Store [.map (some r), .int .i64 v.now, .int .i64 f] :: fam chA m' :: L) → chain_Store_Prune.L1 (some ⟨s, 0, none⟩) (gone : Nat) (.pointer (some ⟨i, 0, none⟩)) (chain_Store_Prune.K2 Q) h := by
    intro n
    induction n with
    | zero =>
      intro h told m' gone hn hnd hsub hget htot H
      have htl := nodup_len hnd hsub
      rw [List.length_map] at htl
      refine chain_Store_Prune.L1_of (H.nexts (fun e => ⟨false, [], rfl, br_false rfl (fin e hget htot H)⟩) (fun h' x hx hnx H' => ?_))
      have h3 : mget (absM m') x.1 = some x.2.vs := by rw [absM_get, mget_of_mem H.rgs_nodup hx]; rfl
      rw [hget, if_neg hnx] at h3
      have := nodup_len (l := told ++ [x.1]) (m := m.map (·.1)) (nodup_snoc hnd hnx) (fun k hk => by
        rcases List.mem_append.1 hk with hk | hk
        · exact hsub k hk
        · rw [List.mem_singleton.1 hk, ← absM_keys, em]; exact List.mem_map_of_mem (f := (·.1)) (mget_mem h3))
      simp at this; omega
    | succ n ih =>
      intro h told m' gone hn hnd hsub hget htot H
      have htl := nodup_len hnd hsub
      rw [List.length_map] at htl
      refine chain_Store_Prune.L1_of (H.nexts (fun e => ⟨false, [], rfl, br_false rfl (fin e hget htot H)⟩) (fun h' x hx hnx H2 => ⟨true, [keyA x.1, chV x.2], rfl, br_true rfl ?_⟩))
      have hmn := H.rgs_nodup
      have hgx : mget m' x.1 = some x.2 := mget_of_mem hmn hx
      have h3 : mget (absM m') x.1 = some x.2.vs := by rw [absM_get, hgx]; rfl
      rw [hget, if_neg hnx] at h3
      have hnd' := nodup_snoc hnd hnx
      have hsub' : ∀ k ∈ told ++ [x.1], k ∈ m.map (·.1) := fun k hk => by
        rcases List.mem_append.1 hk with hk | hk
        · exact hsub k hk
        · rw [List.mem_singleton.1 hk, ← absM_keys, em]; exact List.mem_map_of_mem (f := (·.1)) (mget_mem h3)
      have hlt := nodup_len hnd' hsub'
      rw [List.length_append, List.length_map, List.length_singleton] at hlt
      have hxl := take_of_total hgx
      have hrs : Rising x.2.vs := hv.rise _ (mget_mem h3)
      refine H2.entrys hgx ⟨_, _, rfl, _, _, _, rfl, x.2.a, x.2.vs.length, x.2.c, rfl, ?_⟩
      dsimp only
      refine Hs.wrs (b := Array.size h') (xs := [.string ⟨#[]⟩, .string ⟨#[]⟩, .string ⟨#[]⟩]) H2.new (fun hh3 H3 => ?_)
      generalize Array.size h' = k6 at H3 ⊢
      dsimp only [nilc]
      refine ⟨_, H3.m2.cell (off := 2) rfl, ?_⟩
      -- the chain at hand
      have H4 : Hs hh3 (pt s T_chain_Store [.map (some r), .int .i64 v.now, .int .i64 f] :: chA x.2 :: fam chA (mdel m' x.1) :: pt k6 T_api_Key (keyV x.1) :: rgs keyA chV r i m' (told ++ [x.1]) :: L) := (H3.m3.fam_take hmn hgx).m4
      clear H3
      have g : Gv (pt s T_chain_Store [.map (some r), .int .i64 v.now, .int .i64 f] :: chA x.2 :: fam chA (mdel m' x.1) :: pt k6 T_api_Key (keyV x.1) :: rgs keyA chV r i m' (told ++ [x.1]) :: L) x.2.a (x.2.vs.flatMap verV) := Gv.cons Gv.own
      refine newest_hs hrs rfl (by omega) g H4 fun h4 H5 => ⟨_, rfl, ?_⟩
      rw [hmx]
      have hle := cnt_le x.2.vs f
      have hle2 := prn_le f x.2.vs
      -- what each of the three comes to
      have get' : ∀ {m2 : List (Key × Ch)}, (∀ k, k ≠ x.1 → mget m2 k = mget m' k) → mget (absM m2) x.1 = prK f (some x.2.vs) → ∀ k, mget (absM m2) k = if k ∈ told ++ [x.1] then prK f (mget v.ch k) else mget v.ch k := by
        intro m2 h1 h2 k
        by_cases e : k = x.1
        · subst e; rw [if_pos (by simp), h2, h3]
        · have e2 : k ∈ told ++ [x.1] ↔ k ∈ told := by simp [e]
          have : mget (absM m2) k = mget (absM m') k := by rw [absM_get, absM_get, h1 k e]
          rw [this, hget k]
          by_cases q : k ∈ told
          · rw [if_pos q, if_pos (e2.2 q)]
          · rw [if_neg q, if_neg (fun z => q (e2.1 z))]
      have J3 : ∀ {h : Heap} (p : Nat), p = prn f x.2.vs → Hs h (pt s T_chain_Store [.map (some r), .int .i64 v.now, .int .i64 f] :: chA x.2 :: fam chA (mdel m' x.1) :: pt k6 T_api_Key (keyV x.1) :: rgs keyA chV r i m' (told ++ [x.1]) :: L) →
          chain_Store_Prune.J3 (some ⟨s, 0, none⟩) (gone : Nat) ⟨k6, 0, none⟩ x.2.a x.2.vs.length x.2.c (p : Nat) (.pointer (some ⟨i, 0, none⟩)) (chain_Store_Prune.K2 Q) h := by
        intro h p hp H
        refine chain_Store_Prune.J3_of ?_
        dsimp only [nilc]
        rw [wrap_i64_z (by omega) (by omega)]
        have next := @ih
        refine (br_iff _ _ _).2 ⟨fun e => ?_, fun e => (br_iff _ _ _).2 ⟨fun e2 => ?_, fun e2 => ?_⟩⟩
        · have e : p = x.2.vs.length := by have := beq_iff_eq.1 e; omega
          refine ⟨_, H.cell (off := 0) rfl, _, _, _, H.m3.rdc0, ?_⟩
          refine H.m4.mdels (t := T_map_api_Key_sl_chain_version) U_map_api_Key_sl_chain_version KeyK x.1 fun h5 H6 => ⟨rfl, ?_⟩
          have htd := total_mdel hmn hgx
          have := ih (h := h5) (told := told ++ [x.1]) (m' := mdel m' x.1) (gone := gone + p) (by simp; omega) hnd' hsub' (get' (fun k hk => by rw [mget_mdel, if_neg (fun q => hk q.symm)]) (by
            rw [absM_get, mget_mdel, if_pos rfl]
            have : prV f x.2.vs = [] := by unfold prV; exact List.drop_eq_nil_of_le (by omega)
            show none = (if prV f x.2.vs = [] then none else some (prV f x.2.vs))
            rw [if_pos this])) (by omega) ?_
          · rw [show (gone : Int) + (p : Int) = ((gone + p : Nat) : Int) by omega]
            exact this
          · exact H6.sel 5 [0, 1, 3]
        · have e : p ≠ x.2.vs.length := by have := beq_eq_false_iff_ne.1 e; omega
          have e2 := of_decide_eq_true e2
          have g : Gv (pt s T_chain_Store [.map (some r), .int .i64 v.now, .int .i64 f] :: chA x.2 :: fam chA (mdel m' x.1) :: pt k6 T_api_Key (keyV x.1) :: rgs keyA chV r i m' (told ++ [x.1]) :: L) x.2.a (x.2.vs.flatMap verV) := Gv.cons Gv.own
          have hoc := Hs.own_le H.m1
          have hon : x.2.a = none → x.2.c = 0 := fun q => by
            have H := H.m1
            unfold chA at H
            rw [q] at H
            exact H.own_none
          refine cutS (i := p) (j := x.2.vs.length) E_sl_chain_version g (flat_len verV_len _) hoc hon (by omega) (Nat.le_refl _) rfl rfl fun a5 c5 g5 n5 l5 m5 => ⟨_, _, _, rfl, ?_⟩
          rw [flat_cut verV_len] at g5
          have elen : ((x.2.vs.drop p).take (x.2.vs.length - p)) = prV f x.2.vs := by
            rw [List.take_of_length_le (by simp)]; unfold prV; rw [hp]
          rw [elen] at g5
          have pl : (prV f x.2.vs).length = x.2.vs.length - p := by unfold prV; rw [List.length_drop, hp]
          have CL : ∀ {R : VP}, (∀ h' a' c', Hs h' (own a' (x.2.vs.length - p) c' T_chain_version 3 ((prV f x.2.vs).flatMap verV) :: pt s T_chain_Store [.map (some r), .int .i64 v.now, .int .i64 f] :: chA x.2 :: fam chA (mdel m' x.1) :: pt k6 T_api_Key (keyV x.1) :: rgs keyA chV r i m' (told ++ [x.1]) :: L) → R (.slice a' (x.2.vs.length - p) c') h') →
              SpecH PP F_slices_Clone_chain_version_chain_version [.slice a5 (x.2.vs.length - p) c5] h R := fun K => Clone_hs pl n5 (by omega) g5 H K
          have UP : ∀ {h' : Heap} {a' : OA} {c' : Nat}, Hs h' (own a' (x.2.vs.length - p) c' T_chain_version 3 ((prV f x.2.vs).flatMap verV) :: pt s T_chain_Store [.map (some r), .int .i64 v.now, .int .i64 f] :: chA x.2 :: fam chA (mdel m' x.1) :: pt k6 T_api_Key (keyV x.1) :: rgs keyA chV r i m' (told ++ [x.1]) :: L) →
              hwp PP (Instr.mapUpdate T_map_api_Key_sl_chain_version (.map (some r)) (keyA x.1) (.slice a' (x.2.vs.length - p) c')) (fun _ h12 => chain_Store_Prune.L1 (some ⟨s, 0, none⟩) ((gone : Int) + (p : Int)) (.pointer (some ⟨i, 0, none⟩)) (chain_Store_Prune.K2 Q) h12) h' := by
            intro h' a' c' H
            rw [← pl] at H ⊢
            refine H.m5.msets (t := T_map_api_Key_sl_chain_version) U_map_api_Key_sl_chain_version KeyK x.1 (⟨a', c', prV f x.2.vs⟩ : Ch) (by rw [hgx]; simp) rfl fun h5 H6 => ?_
            have htd := total_mset (y := ⟨a', c', prV f x.2.vs⟩) hgx
            simp only at htd
            have := ih (h := h5) (told := told ++ [x.1]) (m' := mset m' x.1 ⟨a', c', prV f x.2.vs⟩) (gone := gone + p) (by simp; omega) hnd' hsub' (get' (fun k hk => by rw [mget_mset, if_neg (fun q => hk q.symm)]) (by
              rw [absM_get, mget_mset, if_pos rfl]
              have : prV f x.2.vs ≠ [] := fun q => by rw [q] at pl; simp at pl; omega
              show some (prV f x.2.vs) = (if prV f x.2.vs = [] then none else some (prV f x.2.vs))
              rw [if_neg this])) (by omega) ?_
            · rw [show (gone : Int) + (p : Int) = ((gone + p : Nat) : Int) by omega]
              exact this
            · have H7 : Hs h5 (chA ⟨a', c', prV f x.2.vs⟩ :: fam chA (mdel m' x.1) :: rgs keyA chV r i (mset m' x.1 ⟨a', c', prV f x.2.vs⟩) (told ++ [x.1]) :: pt s T_chain_Store [.map (some r), .int .i64 v.now, .int .i64 f] :: L) := by
                exact H6.sel 6 [1, 4, 0, 2]
              exact (H7.fam_put hmn).r2
          have cA : cellH h ⟨s, 0, none⟩ = some (.map (some r)) := H.cell (off := 0) rfl
          have cB : rdCells h ⟨k6, 0, none⟩ 0 (keyV x.1) := H.m3.rdc0
          refine ⟨⟨_, cA, ⟨_, _, _, cB, CL fun h' a' c' H' => ⟨_, _, _, rfl, UP H'⟩⟩, CL fun h' a' c' H' => ⟨_, _, _, rfl, _, _, _, H'.m4.rdc0, UP H'⟩, trivial⟩,
            ⟨_, _, _, cB, ⟨_, cA, CL fun h' a' c' H' => ⟨_, _, _, rfl, UP H'⟩⟩, CL fun h' a' c' H' => ⟨_, _, _, rfl, _, H'.m1.cell (off := 0) rfl, UP H'⟩, trivial⟩,
            CL fun h' a' c' H' => ⟨_, _, _, rfl, _, H'.m1.cell (off := 0) rfl, _, _, _, H'.m4.rdc0, UP H'⟩, trivial⟩
        · have e : p ≠ x.2.vs.length := by have := beq_eq_false_iff_ne.1 e; omega
          have e2 : p = 0 := by have := of_decide_eq_false e2; omega
          have := ih (h := h) (told := told ++ [x.1]) (m' := m') (gone := gone + p) (by simp; omega) hnd' hsub' (get' (fun k hk => rfl) (by
            rw [absM_get, hgx]
            have e3 : prV f x.2.vs = x.2.vs := by unfold prV; rw [← hp, e2]; rfl
            have : x.2.vs ≠ [] := fun q => by rw [q] at e; simp at e; omega
            show some x.2.vs = (if prV f x.2.vs = [] then none else some (prV f x.2.vs))
            rw [e3, if_neg this])) (by omega) (((H.r2.fam_back hmn hgx).m3).m2.m3.tl.m1)
          rw [show (gone : Int) + (p : Int) = ((gone + p : Nat) : Int) by omega]
          exact this
      have ep : ∀ {w : Ver}, pick x.2.vs f = some w → prn f x.2.vs = if w.there then cnt x.2.vs f - 1 else cnt x.2.vs f := fun e => by unfold prn; rw [e]
      refine (br_iff _ _ _).2 ⟨fun e => ?_, fun e => chain_Store_Prune.J2_of (br_false rfl (J3 _ ?_ H5))⟩
      · have e : 0 < cnt x.2.vs f := by have := of_decide_eq_true e; omega
        rw [d1 e (by omega)]
        have hpk := ep (pick_some e)
        refine idxf E_sl_chain_version (φ := verV) (l := x.2.vs) (x := x.2.vs[cnt x.2.vs f - 1]) (g _ H5) verV_len (by decide) (by omega) (by omega) (by rw [Int.toNat_natCast]; simp) fun t1 ht => ⟨_, ht.2.1, ?_⟩
        refine chain_Store_Prune.J2_of ((br_iff _ _ _).2 ⟨fun e3 => ?_, fun e3 => J3 _ ?_ H5⟩)
        · rw [d1 e (by omega)]
          exact J3 _ (by rw [hpk, if_pos e3]) H5
        · rw [hpk, if_neg (by rw [e3]; simp)]
      · have e : cnt x.2.vs f = 0 := by have := of_decide_eq_false e; omega
        unfold prn; rw [pick_none e]
  have := go m.length (h := h2) (told := []) (m' := m) (gone := 0) (by simp) (by simp) (by simp) (fun k => by simp [em]) (by omega) H2
  exact this
end Go.Proofs.Ytjkfngolgjbakaa

set_option maxRecDepth 20000
set_option linter.unusedVariables false
set_option linter.unusedSimpArgs false
namespace Go.Proofs.Ytjkfngolgjbakaa
open Go Go.HW
variable {h : Heap} {L : List Assn} {Q : Value → Heap → Prop}
structure Ent where
  n : ByteArray
  d : ByteArray
  deriving Inhabited, DecidableEq
def entV (e : Ent) : List Value := [.string e.n, .string e.d]
theorem entV_len (e : Ent) : (entV e).length = 2 := rfl
theorem entV_one (e : Ent) : ∀ x ∈ entV e, oneC x = true := by
  intro x hx; simp [entV] at hx; rcases hx with rfl | rfl <;> rfl
structure Arc where
  t : ByteArray
  n : ByteArray
  es : List Ent
  deriving Inhabited, DecidableEq
structure PArc where
  t : ByteArray
  n : ByteArray
  a : OA
  c : Nat
  es : List Ent
def PArc.arc (p : PArc) : Arc := ⟨p.t, p.n, p.es⟩
def arcV (p : PArc) : List Value := [.string p.t, .string p.n, .slice p.a p.es.length p.c]
theorem arcV_len (p : PArc) : (arcV p).length = 3 := rfl
def entA (p : PArc) : Assn := own p.a p.es.length p.c T_api_Entry 2 (p.es.flatMap entV)
def arcsA (a : OA) (c : Nat) (D : List Arc) : Assn := fun μ => ∃ P : List PArc, P.map PArc.arc = D ∧ Sp [own a P.length c T_api_Archive 3 (P.flatMap arcV), Sp (P.map entA)] μ
theorem arcsA_open {a : OA} {c : Nat} {D : List Arc} : Hs h (arcsA a c D :: L) ↔ ∃ P : List PArc, P.map PArc.arc = D ∧ Hs h (own a P.length c T_api_Archive 3 (P.flatMap arcV) :: Sp (P.map entA) :: L) := by
  unfold arcsA
  simp only [Hs.ex, Hs.and, Hs.app, List.cons_append, List.nil_append]
theorem arcs_nil (H : Hs h L) : Hs h (arcsA none 0 [] :: L) := arcsA_open.2 ⟨[], rfl, (show Hs h (Sp [] :: L) from ⟨fun _ => none, fun b => h[b]?, trivial, H, fun _ => .inl rfl, (fun _ _ e => nomatch e), .refl _⟩).own_nil T_api_Archive 3⟩
/-- An archive without entries comes up behind the others. -/
theorem arc_app {P : List PArc} {a : OA} {c : Nat} {t n : ByteArray} {K : VP} (hs : P.length ≤ 2 ^ 40) (H : Hs h (own a P.length c T_api_Archive 3 (P.flatMap arcV) :: Sp (P.map entA) :: L))
    (k : ∀ h' a' c', Hs h' (own a' (P ++ [(⟨t, n, none, 0, []⟩ : PArc)]).length c' T_api_Archive 3 ((P ++ [(⟨t, n, none, 0, []⟩ : PArc)]).flatMap arcV) :: Sp ((P ++ [(⟨t, n, none, 0, []⟩ : PArc)]).map entA) :: L) → K (.slice a' (P ++ [(⟨t, n, none, 0, []⟩ : PArc)]).length c') h') :
    hwp PP (Builtin.append_ #[T_sl_api_Archive, T_sl_api_Archive] T_sl_api_Archive #[.slice a P.length c, .slice (some ⟨Array.size h, 0, none⟩) 1 1]) K (Array.push h (.cells #[.string t, .string n, .slice none 0 0] T_api_Archive (0, 0))) := by
  refine H.app_vals E_sl_api_Archive (m := 1) (ys := [.string t, .string n, .slice none 0 0]) rfl rfl (by simp [oneC]) (fun h' a' c' H' => ?_) (by omega) (by omega)
  have e : P.flatMap arcV ++ [.string t, .string n, .slice none 0 0] = (P ++ [(⟨t, n, none, 0, []⟩ : PArc)]).flatMap arcV := by simp [arcV]
  rw [e] at H'
  have := k h' a' c'
  rw [List.length_append] at this
  refine this ?_
  have H2 : Hs h' (entA ⟨t, n, none, 0, []⟩ :: Sp (P.map entA) :: own a' (P.length + 1) c' T_api_Archive 3 ((P ++ [(⟨t, n, none, 0, []⟩ : PArc)]).flatMap arcV) :: L) := H'.m1.own_nil T_api_Entry 2
  rw [List.map_append]
  exact ((Hs.spl.2 H2).spp (List.perm_append_singleton ..).symm).m1
/-- An entry comes up behind those of the last archive: the entries' side. -/
theorem ent_app {P0 : List PArc} {p : PArc} {e : Ent} {A : Assn} {K : VP} (hs : p.es.length ≤ 2 ^ 40) (H : Hs h (A :: Sp ((P0 ++ [p]).map entA) :: L))
    (k : ∀ h' a' c', Hs h' (A :: entA ⟨p.t, p.n, a', c', p.es ++ [e]⟩ :: Sp (P0.map entA) :: L) → K (.slice a' (p.es ++ [e]).length c') h') :
    hwp PP (Builtin.append_ #[T_sl_api_Entry, T_sl_api_Entry] T_sl_api_Entry #[.slice p.a p.es.length p.c, .slice (some ⟨Array.size h, 0, none⟩) 1 1]) K (Array.push h (.cells (entV e).toArray T_api_Entry (0, 0))) := by
  have H1 := H.m1
  rw [List.map_append] at H1
  have H2 : Hs h (own p.a p.es.length p.c T_api_Entry 2 (p.es.flatMap entV) :: Sp (P0.map entA) :: A :: L) := Hs.spl.1 (H1.spp (List.perm_append_singleton ..))
  refine H2.app_vals E_sl_api_Entry (m := 1) (ys := entV e) rfl rfl (entV_one e) (fun h' a' c' H' => ?_) (by omega) (by omega)
  have e1 : p.es.flatMap entV ++ entV e = (p.es ++ [e]).flatMap entV := by simp
  rw [e1] at H'
  have := k h' a' c'
  have e2 : (p.es ++ [e]).length = p.es.length + 1 := by simp
  rw [e2] at this
  refine this ?_
  have H3 : Hs h' (entA ⟨p.t, p.n, a', c', p.es ++ [e]⟩ :: Sp (P0.map entA) :: A :: L) := by unfold entA; rw [e2]; exact H'
  exact H3.m2
/-- .. and the archive's. -/
theorem ent_wr {P0 : List PArc} {p p' : PArc} {b off c : Nat} {K : Heap → Prop} (ht : p'.t = p.t) (hn : p'.n = p.n) (H : Hs h (own (some ⟨b, off, none⟩) (P0 ++ [p]).length c T_api_Archive 3 ((P0 ++ [p]).flatMap arcV) :: entA p' :: Sp (P0.map entA) :: L))
    (k : ∀ h', Hs h' (own (some ⟨b, off, none⟩) (P0 ++ [p']).length c T_api_Archive 3 ((P0 ++ [p']).flatMap arcV) :: Sp ((P0 ++ [p']).map entA) :: L) → K h') : wr ⟨b, off + (P0.length * 3 + 2), none⟩ (.slice p'.a p'.es.length p'.c) K h := by
  have hl : ((P0 ++ [p]).flatMap arcV).length = P0.length * 3 + 3 := by rw [flat_len arcV_len]; simp; omega
  refine H.setAt rfl (by omega) rfl fun h' H' => k h' ?_
  have e : ((P0 ++ [p]).flatMap arcV).set (P0.length * 3 + 2) (.slice p'.a p'.es.length p'.c) = (P0 ++ [p']).flatMap arcV := by
    rw [List.flatMap_append, List.flatMap_append, List.set_append_right _ _ (by rw [flat_len arcV_len]; omega), flat_len arcV_len, show P0.length * 3 + 2 - P0.length * 3 = 2 by omega]
    simp [arcV, ht, hn]
  rw [e] at H'
  have el : (P0 ++ [p']).length = (P0 ++ [p]).length := by simp
  rw [el, List.map_append]
  exact ((Hs.spl.2 H'.r2).spp (List.perm_append_singleton ..).symm).m1
/-- The dump, key by key. -/
def dstep (D : List Arc) (k : Key) (d : ByteArray) : List Arc := match D.getLast? with
  | some x => if x.t = k.t ∧ x.n = k.a then D.dropLast ++ [⟨x.t, x.n, x.es ++ [⟨k.e, d⟩]⟩] else D ++ [⟨k.t, k.a, [⟨k.e, d⟩]⟩]
  | none => D ++ [⟨k.t, k.a, [⟨k.e, d⟩]⟩]
def dumpOf (g : Key → ByteArray) (ks : List Key) : List Arc := ks.foldl (fun D k => dstep D k (g k)) []
end Go.Proofs.Ytjkfngolgjbakaa

set_option maxRecDepth 20000
set_option linter.unusedVariables false
set_option linter.unusedSimpArgs false
namespace Go.Proofs.Ytjkfngolgjbakaa
open Go Go.HW
variable {h : Heap} {L : List Assn} {Q : Value → Heap → Prop}
theorem snoc_of {α : Type} {l : List α} (h : 0 < l.length) : ∃ l0 x, l = l0 ++ [x] := by
  rcases List.eq_nil_or_concat l with e | ⟨a, b, e⟩
  · rw [e] at h; simp at h
  · exact ⟨a, b, by rw [e]; simp⟩
theorem dstep_snoc {P0 : List PArc} {p : PArc} {k : Key} {d : ByteArray} (h : p.t = k.t ∧ p.n = k.a) {a : OA} {c : Nat} : dstep ((P0 ++ [p]).map PArc.arc) k d = (P0 ++ [(⟨p.t, p.n, a, c, p.es ++ [⟨k.e, d⟩]⟩ : PArc)]).map PArc.arc := by
  unfold dstep
  rw [List.map_append, List.map_append]
  simp only [List.map_cons, List.map_nil, List.getLast?_concat, List.dropLast_concat]
  rw [if_pos (by exact h)]; rfl
theorem dstep_new {P : List PArc} {k : Key} {d : ByteArray} (h : ∀ P0 p, P = P0 ++ [p] → ¬ (p.t = k.t ∧ p.n = k.a)) {a : OA} {c : Nat} : dstep (P.map PArc.arc) k d = (P ++ [(⟨k.t, k.a, a, c, [] ++ [⟨k.e, d⟩]⟩ : PArc)]).map PArc.arc := by
  unfold dstep
  rcases Nat.eq_zero_or_pos P.length with q | q
  · have : P = [] := List.length_eq_zero_iff.1 q
    subst this; rfl
  · obtain ⟨P0, p, rfl⟩ := snoc_of q
    rw [List.map_append]
    simp only [List.map_cons, List.map_nil, List.getLast?_concat]
    rw [if_neg (by exact h P0 p rfl)]
    simp [PArc.arc]
def esum (P : List PArc) : Nat := (P.map fun p => p.es.length).sum
theorem Dump_hs {s : Nat} {v : CS} {t : Int} (hv : CI v) (hb : v.total < 2 ^ 39) (H : Hs h (storeA s v :: L)) (kk : ∀ h' a c ks, KeysOf (fun k => (v.get k t).2) ks → ks.length ≤ v.total → Hs h' (arcsA a c (dumpOf (fun k => (v.get k t).1) ks) :: storeA s v :: L) → Q (.slice a (dumpOf (fun k => (v.get k t).1) ks).length c) h') :
    SpecH PP F_chain_Store_Dump [.pointer (some ⟨s, 0, none⟩), .int .i64 t] h Q := by
  refine chain_Store_Dump.door ?_
  refine keys_hs (L := L) (fun _ => true) (fun k M h R H K => ?_) hv (by omega) H fun h2 ka kc ks hk hl H2 => ⟨_, _, _, rfl, ?_⟩
  · refine callV_fn (by kernel_rfl) ?_
    show SpecH PP F_chain_Store_Dump_1 [_] h R
    refine chain_Store_Dump_1.door ?_
    exact K _ (H.ext (.push _ _))
  have hk : KeysOf (fun k => (v.get k t).2) ks := ⟨hk.rise, fun k => by rw [hk.mem k, Bool.and_true]⟩
  have go : ∀ (n i : Nat) {h : Heap} {P : List PArc} {a : OA} {c : Nat}, n + i = ks.length → P.map PArc.arc = dumpOf (fun k => (v.get k t).1) (ks.take i) → P.length ≤ i → (∀ p ∈ P, p.es.length ≤ i) → Hs h (own a P.length c T_api_Archive 3 (P.flatMap arcV) :: Sp (P.map entA) :: own ka ks.length kc T_api_Key 3 (ks.flatMap keyV) :: storeA s v :: L) →
      chain_Store_Dump.L1 (some ⟨s, 0, none⟩) t a P.length c ka ks.length kc (ks.length : Int) (i : Int) (chain_Store_Dump.K1 Q) h := by
    intro n
    induction n with
    | zero =>
      intro i h P a c hi hP hPl hel H
      refine chain_Store_Dump.L1_of (br_false (decide_eq_false (by omega)) (chain_Store_Dump.L1_X0 ?_))
      rw [List.take_of_length_le (by omega)] at hP
      have := kk h a c ks hk hl
      rw [← hP, List.length_map] at this
      exact this ((arcsA_open.2 ⟨P, rfl, H.sel 4 [0, 1, 3]⟩))
    | succ n ih =>
      intro i h P a c hi hP hPl hel H
      refine chain_Store_Dump.L1_of (br_true (decide_eq_true (by omega)) ?_)
      refine idxf E_sl_api_Key (φ := keyV) (l := ks) (x := ks[i]) (Hs.rd H.m2) keyV_len (by decide) (by omega) (by omega) (by simp) fun t1 ht => ⟨_, _, _, ht, ?_⟩
      have hP2 : dstep (P.map PArc.arc) ks[i] (v.get ks[i] t).1 = dumpOf (fun k => (v.get k t).1) (ks.take (i + 1)) := by
        rw [hP, List.take_succ_eq_append_getElem (by omega)]; unfold dumpOf; rw [List.foldl_append]; rfl
      generalize ks[i] = k at hP2 ⊢
      dsimp only
      refine Hs.wrs (b := Array.size h) (xs := [.string ⟨#[]⟩, .string ⟨#[]⟩, .string ⟨#[]⟩]) H.new (fun h3 H3 => ?_)
      generalize Array.size h = k7 at H3 ⊢
      -- the last archive takes the entry
      have J2 : ∀ {h : Heap} {P0 : List PArc} {p : PArc} {a : OA} {c : Nat}, (∀ a' c', dstep (P.map PArc.arc) k (v.get k t).1 = (P0 ++ [(⟨p.t, p.n, a', c', p.es ++ [⟨k.e, (v.get k t).1⟩]⟩ : PArc)]).map PArc.arc) → (P0 ++ [p]).length ≤ i + 1 → p.es.length ≤ i → (∀ p ∈ P0, p.es.length ≤ i) →
          Hs h (own a (P0 ++ [p]).length c T_api_Archive 3 ((P0 ++ [p]).flatMap arcV) :: Sp ((P0 ++ [p]).map entA) :: pt k7 T_api_Key (keyV k) :: own ka ks.length kc T_api_Key 3 (ks.flatMap keyV) :: storeA s v :: L) →
          chain_Store_Dump.J2 (some ⟨s, 0, none⟩) t a (P0 ++ [p]).length c ⟨k7, 0, none⟩ ka ks.length kc (ks.length : Int) (i : Int) (chain_Store_Dump.K1 Q) h := by
        intro h P0 p a c hd hl1 hl2 hl3 H
        have hpos : (P0 ++ [p]).length = P0.length + 1 := by simp
        refine chain_Store_Dump.J2_of ⟨_, _, _, H.m2.rdc0, ?_⟩
        refine Get_hs (k := k) hv (by omega) H.m4 fun h4 H4 => ⟨_, _, rfl, ?_⟩
        have H4 : Hs h4 (own a (P0 ++ [p]).length c T_api_Archive 3 ((P0 ++ [p]).flatMap arcV) :: Sp ((P0 ++ [p]).map entA) :: pt k7 T_api_Key (keyV k) :: own ka ks.length kc T_api_Key 3 (ks.flatMap keyV) :: storeA s v :: L) := H4.sel 5 [1, 2, 3, 4, 0]
        dsimp only
        rw [d1 (by omega) (by omega)]
        refine Hs.idx_at E_sl_api_Archive H4 (by decide) (by omega) (by omega) fun b off ea => ?_
        subst ea
        have hx : (P0 ++ [p])[P0.length]? = some p := by simp
        have hr := H4.own_rdc (i := P0.length) arcV_len hx
        have ei : (((P0 ++ [p]).length - 1 : Nat) : Int).toNat = P0.length := by rw [Int.toNat_natCast]; omega
        rw [ei]
        refine ⟨_, _, _, hr.2.2.1, _, H4.m2.cell (off := 2) rfl, ?_⟩
        refine ent_app (e := ⟨k.e, (v.get k t).1⟩) (by omega) H4 fun h5 a5 c5 H5 => ⟨_, _, _, rfl, ?_⟩
        rw [add_mk]
        refine ent_wr (p := p) (p' := ⟨p.t, p.n, a5, c5, p.es ++ [⟨k.e, (v.get k t).1⟩]⟩) rfl rfl H5 fun h6 H6 => ?_
        rw [i1 (i := i) (by omega)]
        have hlen : (P0 ++ [p]).length = (P0 ++ [(⟨p.t, p.n, a5, c5, p.es ++ [⟨k.e, (v.get k t).1⟩]⟩ : PArc)]).length := by simp
        rw [hlen]
        refine ih (i + 1) (by omega) (by rw [← hP2, hd]) (by rw [← hlen]; omega) (fun q hq => ?_) (H6.sel 5 [0, 1, 3, 4])
        rcases List.mem_append.1 hq with hq | hq
        · have := hl3 q hq; omega
        · rw [List.mem_singleton.1 hq]; simp; omega
      have H3 : Hs h3 (own a P.length c T_api_Archive 3 (P.flatMap arcV) :: Sp (P.map entA) :: pt k7 T_api_Key (keyV k) :: own ka ks.length kc T_api_Key 3 (ks.flatMap keyV) :: storeA s v :: L) := H3.sel 3 [1, 2, 0]
      have J1t : (∀ P0 p, P = P0 ++ [p] → ¬ (p.t = k.t ∧ p.n = k.a)) → chain_Store_Dump.J1 (some ⟨s, 0, none⟩) t a P.length c ⟨k7, 0, none⟩ ka ks.length kc (ks.length : Int) (i : Int) true (chain_Store_Dump.K1 Q) h3 := by
        intro hne
        refine chain_Store_Dump.J1_of (br_true rfl ⟨_, H3.m2.cell (off := 0) rfl, _, H3.m2.cell (off := 1) rfl, ?_⟩)
        refine arc_app (by omega) H3 fun h4 a' c' H4 => ⟨_, _, _, rfl, ?_⟩
        exact J2 (p := ⟨k.t, k.a, none, 0, []⟩) (fun a' c' => dstep_new hne) (by simp; omega) (by simp) hel H4
      refine (br_iff _ _ _).2 ⟨fun e => J1t (fun P0 p e2 => ?_), fun e => ?_⟩
      · have := beq_iff_eq.1 e; rw [e2] at this; simp at this; omega
      · have hpos : 0 < P.length := by have := beq_eq_false_iff_ne.1 e; omega
        obtain ⟨P0, p, rfl⟩ := snoc_of hpos
        have hx : (P0 ++ [p])[P0.length]? = some p := by simp
        have ei : (((P0 ++ [p]).length - 1 : Nat) : Int).toNat = P0.length := by rw [Int.toNat_natCast]; simp
        rw [d1 hpos (by omega)]
        have el : ∀ {R : Addr → Heap → Prop}, (∀ t, rdCells h3 t 0 (arcV p) → R t h3) → hwp PP (Instr.indexAt T_sl_api_Archive (.slice a (P0 ++ [p]).length c) (.int .i64 (((P0 ++ [p]).length - 1 : Nat) : Int))) (fun u h1 => ∃ t, u = .pointer (some t) ∧ R t h1) h3 := fun K =>
          idxf E_sl_api_Archive (φ := arcV) (l := P0 ++ [p]) (x := p) H3.rd arcV_len (by decide) (by omega) (by omega) (by rw [ei]; exact hx) K
        refine el fun t1 ht1 => ⟨_, ht1.1, _, H3.m2.cell (off := 0) rfl, (br_iff _ _ _).2 ⟨fun e1 => J1t fun P1 q e2 => ?_, fun e1 => ?_⟩⟩
        · obtain ⟨_, e3⟩ := List.append_inj' e2 rfl
          have e3 : p = q := by simpa using e3
          subst e3
          simp at e1; exact fun q => e1 q.1
        · refine el fun t2 ht2 => ⟨_, ht2.2.1, _, H3.m2.cell (off := 1) rfl, ?_⟩
          cases e4 : (!decide (p.n = k.a)) with
          | true =>
            refine J1t fun P1 q e2 => ?_
            obtain ⟨_, e3⟩ := List.append_inj' e2 rfl
            have e3 : p = q := by simpa using e3
            subst e3
            simp at e4; exact fun q => e4 q.2
          | false =>
            have h1 : p.t = k.t := by simpa using e1
            have h2 : p.n = k.a := by simpa using e4
            exact chain_Store_Dump.J1_of (br_false rfl (J2 (fun a' c' => dstep_snoc ⟨h1, h2⟩) (by omega) (hel p (by simp)) (fun q hq => hel q (List.mem_append_left _ hq)) H3))
  have H3 := (arcsA_open.1 (arcs_nil H2))
  obtain ⟨P, hP, H3⟩ := H3
  have : P = [] := List.map_eq_nil_iff.1 hP
  subst this
  exact go ks.length 0 (by omega) rfl (Nat.le_refl _) (by simp) H3
end Go.Proofs.Ytjkfngolgjbakaa

set_option maxRecDepth 20000
set_option linter.unusedVariables false
set_option linter.unusedSimpArgs false
namespace Go.Proofs.Ytjkfngolgjbakaa
open Go Go.HW
variable {h : Heap} {L : List Assn} {Q : Value → Heap → Prop}
structure RV where
  k : Key
  at_ : Int
  there : Bool
  data : ByteArray
  deriving Inhabited, DecidableEq
def rvV (x : RV) : List Value := [.string x.k.t, .string x.k.a, .string x.k.e, .int .i64 x.at_, .bool x.there, .string x.data]
theorem rvV_len (x : RV) : (rvV x).length = 6 := rfl
theorem rvV_one (v : RV) : ∀ x ∈ rvV v, oneC x = true := by
  intro x hx; simp [rvV] at hx; rcases hx with rfl | rfl | rfl | rfl | rfl | rfl <;> rfl
def RV.ver (x : RV) : Ver := ⟨x.at_, x.there, x.data⟩
structure RS where
  l : List RV
  now : Int
  floor : Int
def refA (r : Nat) (v : RS) : Assn := fun μ => ∃ a c, Sp [pt r T_haversackref12_Store [.slice a v.l.length c, .int .i64 v.now, .int .i64 v.floor], own a v.l.length c T_haversackref12_Version 6 (v.l.flatMap rvV)] μ
theorem refA_open {r : Nat} {v : RS} : Hs h (refA r v :: L) ↔ ∃ a c, Hs h (pt r T_haversackref12_Store [.slice a v.l.length c, .int .i64 v.now, .int .i64 v.floor] :: own a v.l.length c T_haversackref12_Version 6 (v.l.flatMap rvV) :: L) := by
  unfold refA
  simp only [Hs.ex, Hs.app, List.cons_append, List.nil_append]
def RS.vs (v : RS) (k : Key) : List Ver := (v.l.filter fun x => decide (x.k = k)).map RV.ver
def RS.get (v : RS) (k : Key) (t : Int) : ByteArray × Bool := getV (v.vs k) (mx t v.floor)
structure RI (v : RS) : Prop where
  rise : v.l.Pairwise fun x y => x.k = y.k → x.at_ < y.at_
  now : ∀ x ∈ v.l, x.at_ ≤ v.now
  pos : ∀ x ∈ v.l, 0 < x.at_
  floor : 0 ≤ v.floor ∧ v.floor ≤ v.now
theorem RS.vs_rise {v : RS} (h : RI v) (k : Key) : Rising (v.vs k) := by
  unfold RS.vs Rising
  rw [List.pairwise_map, List.pairwise_filter]
  refine h.rise.imp fun {x y} hxy hx hy => ?_
  have hx := of_decide_eq_true hx
  have hy := of_decide_eq_true hy
  exact hxy (hx.trans hy.symm)
theorem pick_of {vs : List Ver} {t : Int} {v : Ver} (hr : Rising vs) (hv : v ∈ vs) (ht : v.at_ ≤ t) (hm : ∀ w ∈ vs, w.at_ ≤ t → w.at_ ≤ v.at_) : pick vs t = some v := by
  induction vs with
  | nil => cases hv
  | cons x vs ih =>
    have hc := List.pairwise_cons.1 hr
    have hxv : x.at_ ≤ v.at_ := by
      rcases List.mem_cons.1 hv with e | e
      · rw [e]; omega
      · have := hc.1 v e; omega
    unfold pick
    rw [List.takeWhile_cons_of_pos (by simp; omega)]
    rcases List.mem_cons.1 hv with e | e
    · subst e
      have : vs.takeWhile (fun w => decide (w.at_ ≤ t)) = [] := by
        cases vs with
        | nil => rfl
        | cons y vs =>
          have h1 := hc.1 y (List.mem_cons_self ..)
          rw [List.takeWhile_cons_of_neg]
          simp only [decide_eq_true_eq]
          intro h2
          have := hm y (by simp) h2
          omega
      rw [this]; rfl
    · have := ih hc.2 e fun w hw => hm w (List.mem_cons_of_mem _ hw)
      unfold pick at this
      rw [List.getLast?_cons, this]; rfl
theorem pick_no {vs : List Ver} {t : Int} (h : ∀ w ∈ vs, ¬ w.at_ ≤ t) : pick vs t = none := by
  unfold pick
  cases vs with
  | nil => rfl
  | cons y vs => rw [List.takeWhile_cons_of_neg (by simpa using h y (by simp))]; rfl
/-- Where the newest version of an entry stands. -/
def NewAt (l : List RV) (k : Key) (t : Int) (i : Int) : Prop := (i = -1 ∧ ∀ x ∈ l, x.k = k → ¬ x.at_ ≤ t) ∨ ∃ j, i = (j : Nat) ∧ ∃ hj : j < l.length, l[j].k = k ∧ l[j].at_ ≤ t ∧ ∀ x ∈ l, x.k = k → x.at_ ≤ t → x.at_ ≤ l[j].at_
theorem new_pick {v : RS} (hv : RI v) {k : Key} {t i : Int} (hn : NewAt v.l k t i) : (i = -1 ∧ pick (v.vs k) t = none) ∨ ∃ j, i = (j : Nat) ∧ ∃ hj : j < v.l.length, pick (v.vs k) t = some v.l[j].ver := by
  rcases hn with ⟨h1, h2⟩ | ⟨j, h1, hj, h2, h3, h4⟩
  · left; refine ⟨h1, pick_no fun w hw => ?_⟩
    obtain ⟨x, hx, rfl⟩ := List.mem_map.1 hw
    rw [List.mem_filter] at hx
    exact h2 x hx.1 (of_decide_eq_true hx.2)
  · right; refine ⟨j, h1, hj, pick_of (RS.vs_rise hv k) ?_ h3 fun w hw => ?_⟩
    · exact List.mem_map_of_mem (List.mem_filter.2 ⟨List.getElem_mem hj, decide_eq_true h2⟩)
    · obtain ⟨x, hx, rfl⟩ := List.mem_map.1 hw
      rw [List.mem_filter] at hx
      exact h4 x hx.1 (of_decide_eq_true hx.2)
theorem key_dec (x k : Key) : (decide (x.t = k.t) && (decide (x.a = k.a) && (decide (x.e = k.e) && true))) = decide (x = k) := by
  cases x; cases k; simp [Key.mk.injEq, Bool.decide_and]
theorem Rnewest_hs {r : Nat} {v : RS} {k : Key} {t : Int} (hb : v.l.length < 2 ^ 40) (H : Hs h (refA r v :: L)) (kk : ∀ h' i, NewAt v.l k (mx t v.floor) i → Hs h' (refA r v :: L) → Q (.int .i64 i) h') :
    SpecH PP F_ref12_Store_newest [.pointer (some ⟨r, 0, none⟩), keyA k, .int .i64 t] h Q := by
  obtain ⟨a, c, H⟩ := refA_open.1 H
  refine ref12_Store_newest.door ?_
  dsimp only [nilc]
  have H1 := H.new (t := T_api_Key) (cs := (keyV k).toArray) (xs := keyV k)
  refine ⟨_, H1.m1.cell (off := 2) rfl, ?_⟩
  have eT : (if v.floor > t then v.floor else t) = mx t v.floor := rfl
  rw [eT]
  generalize mx t v.floor = T at kk ⊢
  suffices main : ∀ {h1 : Heap} {k4 : Nat}, Hs h1 (pt k4 T_api_Key (keyV k) :: pt r T_haversackref12_Store [.slice a v.l.length c, .int .i64 v.now, .int .i64 v.floor] :: own a v.l.length c T_haversackref12_Version 6 (v.l.flatMap rvV) :: L) → ref12_Store_newest.L1 (some ⟨r, 0, none⟩) T ⟨k4, 0, none⟩ (-1) 0 (ref12_Store_newest.K1 Q) h1 from main H1
  intro h1 k4 H1
  have cS : cellH h1 ⟨r, 0, none⟩ = some (.slice a v.l.length c) := H1.m1.cell (off := 0) rfl
  have cK : rdCells h1 ⟨k4, 0, none⟩ 0 (keyV k) := H1.rdc0
  have el : ∀ {i : Nat} (hi : i < v.l.length) {R : Addr → Heap → Prop}, (∀ t, rdCells h1 t 0 (rvV v.l[i]) → R t h1) → hwp PP (Instr.indexAt T_sl_haversackref12_Version (.slice a v.l.length c) (.int .i64 (i : Int))) (fun u h2 => ∃ t, u = .pointer (some t) ∧ R t h2) h1 := fun {i} hi {R} K =>
    idxf E_sl_haversackref12_Version (φ := rvV) (l := v.l) (x := v.l[i]) (Hs.rd H1.m2) rvV_len (by decide) (by omega) (by omega) (by simp) K
  have back : Hs h1 (refA r v :: L) := refA_open.2 ⟨a, c, H1.tl⟩
  -- the newest among the first i
  have go : ∀ (n i : Nat) (b : Int), n + i = v.l.length → NewAt (v.l.take i) k T b → ref12_Store_newest.L1 (some ⟨r, 0, none⟩) T ⟨k4, 0, none⟩ b (i : Int) (ref12_Store_newest.K1 Q) h1 := by
    intro n
    induction n with
    | zero =>
      intro i b hi hb
      refine ref12_Store_newest.L1_of ⟨_, _, _, cS, br_false (decide_eq_false (by omega)) (ref12_Store_newest.L1_X0 ?_)⟩
      rw [List.take_of_length_le (by omega)] at hb
      exact kk h1 b hb back
    | succ n ih =>
      intro i b hi hb
      have hil : i < v.l.length := by omega
      have J2 : ∀ b', NewAt (v.l.take (i + 1)) k T b' → ref12_Store_newest.J2 (some ⟨r, 0, none⟩) T ⟨k4, 0, none⟩ b' (i : Int) (ref12_Store_newest.K1 Q) h1 := by
        intro b' hb'
        refine ref12_Store_newest.J2_of ?_
        dsimp only
        rw [i1 (i := i) (by omega)]
        exact ih (i + 1) b' (by omega) hb'
      have et : v.l.take (i + 1) = v.l.take i ++ [v.l[i]] := List.take_succ_eq_append_getElem hil
      -- not better
      have keep : ¬ (v.l[i].k = k ∧ v.l[i].at_ ≤ T ∧ ∀ x ∈ v.l.take i, x.k = k → x.at_ ≤ T → x.at_ < v.l[i].at_) → ref12_Store_newest.J1 (some ⟨r, 0, none⟩) T ⟨k4, 0, none⟩ b (i : Int) false (ref12_Store_newest.K1 Q) h1 := by
        intro hne
        refine ref12_Store_newest.J1_of (br_false rfl (J2 b ?_))
        rw [et]
        rcases hb with ⟨h1, h2⟩ | ⟨j, h1, hj, h2, h3, h4⟩
        · left; refine ⟨h1, fun x hx => ?_⟩
          rcases List.mem_append.1 hx with hx | hx
          · exact h2 x hx
          · rw [List.mem_singleton.1 hx]
            exact fun q1 q2 => hne ⟨q1, q2, fun y hy q3 q4 => absurd q4 (h2 y hy q3)⟩
        · right
          refine ⟨j, h1, by rw [List.length_append]; omega, ?_⟩
          rw [List.getElem_append_left hj]
          refine ⟨h2, h3, fun x hx => ?_⟩
          rcases List.mem_append.1 hx with hx | hx
          · exact h4 x hx
          · rw [List.mem_singleton.1 hx]
            intro q1 q2
            rcases Int.lt_or_le (v.l.take i)[j].at_ v.l[i].at_ with q | q
            · exact absurd ⟨q1, q2, fun y hy q3 q4 => by have := h4 y hy q3 q4; omega⟩ hne
            · exact q
      have new : v.l[i].k = k → v.l[i].at_ ≤ T → (∀ x ∈ v.l.take i, x.k = k → x.at_ ≤ T → x.at_ ≤ v.l[i].at_) → ref12_Store_newest.J1 (some ⟨r, 0, none⟩) T ⟨k4, 0, none⟩ b (i : Int) true (ref12_Store_newest.K1 Q) h1 := by
        intro q1 q2 q3
        refine ref12_Store_newest.J1_of (br_true rfl (J2 _ ?_))
        rw [et]
        right
        have hl : (v.l.take i).length = i := by rw [List.length_take]; omega
        refine ⟨i, rfl, by rw [List.length_append]; simp; omega, ?_⟩
        rw [List.getElem_append_right (by omega)]
        simp only [hl, Nat.sub_self, List.getElem_cons_zero]
        refine ⟨q1, q2, fun x hx => ?_⟩
        rcases List.mem_append.1 hx with hx | hx
        · exact q3 x hx
        · rw [List.mem_singleton.1 hx]; exact fun _ _ => Int.le_refl _
      refine ref12_Store_newest.L1_of ⟨_, _, _, cS, br_true (decide_eq_true (by omega)) ⟨_, _, _, cS, el hil fun t1 ht => ⟨_, _, _, ⟨ht.1, ht.2.1, ht.2.2.1, trivial⟩, _, _, _, cK, ?_⟩⟩⟩
      rw [key_dec]
      refine (br_iff _ _ _).2 ⟨fun e => ?_, fun e => keep fun q => absurd q.1 (of_decide_eq_false e)⟩
      have e := of_decide_eq_true e
      refine ⟨_, _, _, cS, el hil fun t2 ht2 => ⟨_, ht2.2.2.2.1, (br_iff _ _ _).2 ⟨fun e2 => ?_, fun e2 => keep fun q => absurd q.2.1 (of_decide_eq_false e2)⟩⟩⟩
      have e2 := of_decide_eq_true e2
      have hb0 := hb
      rcases hb with ⟨h1, h2⟩ | ⟨j, h1, hj, h2, h3, h4⟩
      · refine br_true (decide_eq_true (by omega)) (new e e2 fun x hx q3 q4 => absurd q4 (h2 x hx q3))
      · have hj2 : j < v.l.length := by rw [List.length_take] at hj; omega
        refine br_false (decide_eq_false (by omega)) ⟨_, _, _, cS, ?_⟩
        subst h1
        refine el hj2 fun t3 ht3 => ⟨_, ht3.2.2.2.1, _, _, _, cS, el hil fun t4 ht4 => ⟨_, ht4.2.2.2.1, ?_⟩⟩
        have ej : (v.l.take i)[j] = v.l[j] := by simp
        rw [ej] at h4
        cases e5 : decide (v.l[j].at_ < v.l[i].at_) with
        | true => exact new e e2 fun x hx q3 q4 => by have := h4 x hx q3 q4; have := of_decide_eq_true e5; omega
        | false =>
          have e5 := of_decide_eq_false e5
          refine keep fun q => ?_
          have := q.2.2 _ (List.getElem_mem hj) h2 h3
          rw [ej] at this; omega
  exact go v.l.length 0 (-1) (by omega) (.inl ⟨rfl, by simp⟩)
theorem RGet_hs {r : Nat} {v : RS} {k : Key} {t : Int} (hv : RI v) (hb : v.l.length < 2 ^ 40) (H : Hs h (refA r v :: L)) (kk : ∀ h', Hs h' (refA r v :: L) → Q (.tuple #[.string (v.get k t).1, .bool (v.get k t).2]) h') :
    SpecH PP F_ref12_Store_Get [.pointer (some ⟨r, 0, none⟩), keyA k, .int .i64 t] h Q := by
  refine ref12_Store_Get.door ?_
  dsimp only
  have H1 := H.new (t := T_api_Key) (cs := (keyV k).toArray) (xs := keyV k)
  refine ⟨_, _, _, H1.rdc0, Rnewest_hs (k := k) hb H1.m1 fun h2 i hn H2 => ⟨_, rfl, ?_⟩⟩
  have kk := kk h2 (H2.m1.tl)
  obtain ⟨a, c, H3⟩ := refA_open.1 H2
  unfold RS.get getV at kk
  rcases new_pick hv hn with ⟨rfl, e⟩ | ⟨j, rfl, hj, e⟩
  · rw [e] at kk
    dsimp only at kk
    exact br_true rfl (ref12_Store_Get.J1_of (br_true rfl kk))
  · rw [e] at kk
    dsimp only at kk
    have el : ∀ {R : Addr → Heap → Prop}, (∀ t, rdCells h2 t 0 (rvV v.l[j]) → R t h2) → hwp PP (Instr.indexAt T_sl_haversackref12_Version (.slice a v.l.length c) (.int .i64 (j : Int))) (fun u h2 => ∃ t, u = .pointer (some t) ∧ R t h2) h2 := fun K =>
      idxf E_sl_haversackref12_Version (φ := rvV) (l := v.l) (x := v.l[j]) (Hs.rd H3.m1) rvV_len (by decide) (by omega) (by omega) (by simp) K
    refine br_false (decide_eq_false (by omega)) ⟨_, _, _, H3.cell (off := 0) rfl, el fun t1 ht => ⟨_, ht.2.2.2.2.1, ?_⟩⟩
    cases e2 : v.l[j].there with
    | false => exact ref12_Store_Get.J1_of (br_true rfl (by rw [show v.l[j].ver.there = false from e2, if_neg (by simp)] at kk; exact kk))
    | true => exact ref12_Store_Get.J1_of (br_false rfl ⟨_, _, _, H3.cell (off := 0) rfl, el fun t1 ht => ⟨_, ht.2.2.2.2.2.1, by rw [show v.l[j].ver.there = true from e2, if_pos rfl] at kk; exact kk⟩⟩)
theorem RLess_hs {a b : Key} (H : Hs h L) (kk : ∀ h', Hs h' L → Q (.bool (klt a b)) h') : SpecH PP F_ref12_Less [keyA a, keyA b] h Q := by
  refine ref12_Less.door ?_
  dsimp only
  have H1 := H.new (t := T_api_Key) (cs := (keyV a).toArray) (xs := keyV a)
  have H2 := H1.new (t := T_api_Key) (cs := (keyV b).toArray) (xs := keyV b)
  have fin := kk _ H2.tl.tl
  unfold klt at fin
  refine ⟨_, H2.m1.cell (off := 0) rfl, _, H2.cell (off := 0) rfl, (br_iff _ _ _).2 ⟨fun e => ?_, fun e => ?_⟩⟩
  · rw [if_pos (by simpa using e)] at fin
    exact ⟨_, H2.m1.cell (off := 0) rfl, _, H2.cell (off := 0) rfl, fin⟩
  rw [if_neg (by simpa using e)] at fin
  refine ⟨_, H2.m1.cell (off := 1) rfl, _, H2.cell (off := 1) rfl, (br_iff _ _ _).2 ⟨fun e2 => ?_, fun e2 => ?_⟩⟩
  · rw [if_pos (by simpa using e2)] at fin
    exact ⟨_, H2.m1.cell (off := 1) rfl, _, H2.cell (off := 1) rfl, fin⟩
  rw [if_neg (by simpa using e2)] at fin
  exact ⟨_, H2.m1.cell (off := 2) rfl, _, H2.cell (off := 2) rfl, fin⟩
end Go.Proofs.Ytjkfngolgjbakaa
