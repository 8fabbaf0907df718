/- Texts of the proof, laid together: What the functions of this text come to, as predicates on heaps (printed by my own program out of the dump), each with its proof against the program.; Little: numbers put and got.; A port's fields: what they do to the bytes, and the contracts.; A request's fields: the closures, and the walk of a kind.; What was thrown is turned into an error; requests are put and got.; A request is got.; A response's fields.; A response is put, and got.; The document's answer: kinds, numbers and texts laid; a request put.; The document's answer: bytes are cut; a request got.; The document's answer: responses put and got; are two the same?; Plain laws of requests: what is put, what is got.; Plain laws of requests: got as the document has it; there and back. -/
import Derived.Test.YtnidhafhgclakaaP1
import Derived.Test.YtnidhafhgclakaaP2
import Derived.Test.YtnidhafhgclakaaProg
import Derived.Test.YtnidhafhgclakaaP3
set_option linter.unusedVariables false
set_option maxRecDepth 100000
namespace Go.Proofs.Ytnidhafhgclakaa
open Go Go.HW
/-! ### (*haversack/wire.port).bytes: function 49 -/
namespace wire_port_bytes
def ann : Ann := (.seq 7 (.seq 519 (.region [(List.range 4, 519)]) (.cond (.seq 0 (.region [(List.range 12, 0)]) (.exit 0)) .leaf)) (.seq 7 (.thr (List.range 7) 7 7 0) (.seq 5 (.region [(List.range 10, 5)]) (.region [(List.range 10, 0)]))))
noncomputable abbrev cd (n : Nat) : Code := sub (bodyOf Try.f49) (pth n)
abbrev an (n : Nat) : Ann := subA ann (pth n)
theorem door {p0 s1 : OA} {xn2 : Int} {Q X : VP} {h : Heap} (H :
 nilc p0 (fun t7 =>
 ∃ (t9 : Bool), cellH h (Addr.add t7 1) = some (.bool t9) ∧
 br t9 (
 nilc p0 (fun t12 =>
 ∃ (t14 : OA) (t14n t14c : Nat), cellH h t12 = some (.slice t14 t14n t14c) ∧
 nilc s1 (fun t16 =>
 ∃ (t17 : ByteArray), cellH h t16 = some (.string t17) ∧
 hwp PP (Builtin.append_ #[T_sl_uint8, T_string] T_sl_uint8 #[(.slice t14 t14n t14c), (.string t17)]) (fun v h1 => ∃ (t18 : OA) (t18n t18c : Nat), v = (.slice t18 t18n t18c) ∧
 nilc p0 (fun t19 =>
 wr t19 (.slice t18 t18n t18c) (fun h2 =>
 Q (.tuple #[]) h2) h1)) h))) (
 nilc p0 (fun t23 =>
 ∃ (t25 : OA) (t25n t25c : Nat), cellH h t23 = some (.slice t25 t25n t25c) ∧
 let t27 : Bool := decide (xn2 ≤ (t25n : Int))
 SpecT PP F_wire_is [(.bool t27), (.int .i64 190)] h (fun v_1 h3 => v_1 = (.tuple #[]) ∧
 nilc p0 (fun t31 =>
 ∃ (t33 : OA) (t33n t33c : Nat), cellH h3 t31 = some (.slice t33 t33n t33c) ∧
 hwp PP (Instr.sliceAt T_sl_uint8 (.slice t33 t33n t33c) none (some (.int .i64 xn2)) none) (fun v_2 h4 => ∃ (t35 : OA) (t35n t35c : Nat), v_2 = (.slice t35 t35n t35c) ∧
 hwp PP (Go.convert T_sl_uint8 T_string (.slice t35 t35n t35c)) (fun v_3 h5 => ∃ (t36 : ByteArray), v_3 = (.string t36) ∧
 nilc s1 (fun t37 =>
 wr t37 (.string t36) (fun h6 =>
 nilc p0 (fun t40 =>
 ∃ (t42 : OA) (t42n t42c : Nat), cellH h6 t40 = some (.slice t42 t42n t42c) ∧
 hwp PP (Instr.sliceAt T_sl_uint8 (.slice t42 t42n t42c) (some (.int .i64 xn2)) none none) (fun v_4 h7 => ∃ (t44 : OA) (t44n t44c : Nat), v_4 = (.slice t44 t44n t44c) ∧
 nilc p0 (fun t45 =>
 wr t45 (.slice t44 t44n t44c) (fun h8 =>
 Q (.tuple #[]) h8) h7)) h6)) h5)) h4) h3)) (fun v_5 h9 => X v_5 h9))))) : SpecT PP F_wire_port_bytes [(.pointer p0), (.pointer s1), (.int .i64 xn2)] h Q X := specT_of_txt (ann := ann) Try.func49 rfl rfl (by kernel_rfl) H
end wire_port_bytes
/-! ### haversack/little.Put32: function 50 -/
namespace little_Put32
def ann : Ann := (.seq 3 (.region [(List.range 1, 3)]) (.seq 16 (.region [(List.range 5, 16)]) (.exit 16)))
noncomputable abbrev cd (n : Nat) : Code := sub (bodyOf Try.f50) (pth n)
abbrev an (n : Nat) : Ann := subA ann (pth n)
theorem door {b0 : OA} {b0n b0c : Nat} {v1 : Int} {Q : VP} {h : Heap} (H :
 let t7 : Int := IntKind.u64.wrap v1
 SpecH PP F_little_put [(.slice b0 b0n b0c), (.int .u64 t7), (.int .i64 4)] h (fun v h1 => ∃ (t8 : OA) (t8n t8c : Nat), v = (.slice t8 t8n t8c) ∧
 Q (.slice t8 t8n t8c) h1)) : SpecH PP F_little_Put32 [(.slice b0 b0n b0c), (.int .u32 v1)] h Q :=
   spec_of_txt (ann := ann) Try.func50 rfl rfl (by kernel_rfl) H
end little_Put32
/-! ### haversack/little.Get32: function 51 -/
namespace little_Get32
def ann : Ann := (.seq 3 (.region [(List.range 2, 3)]) (.seq 192 (.region [(List.range 8, 192)]) (.seq 48 (.region [(List.range 5, 48)]) (.exit 48))))
noncomputable abbrev cd (n : Nat) : Code := sub (bodyOf Try.f51) (pth n)
abbrev an (n : Nat) : Ann := subA ann (pth n)
theorem door {b0 : OA} {b0n b0c : Nat} {at1 : Int} {Q : VP} {h : Heap} (H :
 SpecH PP F_little_get [(.slice b0 b0n b0c), (.int .i64 at1), (.int .i64 4)] h (fun v h1 => ∃ (t11 t11_1 : Int), v = (.tuple #[(.int .u64 t11), (.int .i64 t11_1)]) ∧
 let t15 : Int := IntKind.u32.wrap t11
 Q (.tuple #[(.int .u32 t15), (.int .i64 t11_1)]) h1)) : SpecH PP F_little_Get32 [(.slice b0 b0n b0c), (.int .i64 at1)] h Q :=
   spec_of_txt (ann := ann) Try.func51 rfl rfl (by kernel_rfl) H
end little_Get32
/-! ### haversack/little.Put16: function 52 -/
namespace little_Put16
def ann : Ann := (.seq 3 (.region [(List.range 1, 3)]) (.seq 16 (.region [(List.range 5, 16)]) (.exit 16)))
noncomputable abbrev cd (n : Nat) : Code := sub (bodyOf Try.f52) (pth n)
abbrev an (n : Nat) : Ann := subA ann (pth n)
theorem door {b0 : OA} {b0n b0c : Nat} {v1 : Int} {Q : VP} {h : Heap} (H :
 let t7 : Int := IntKind.u64.wrap v1
 SpecH PP F_little_put [(.slice b0 b0n b0c), (.int .u64 t7), (.int .i64 2)] h (fun v h1 => ∃ (t8 : OA) (t8n t8c : Nat), v = (.slice t8 t8n t8c) ∧
 Q (.slice t8 t8n t8c) h1)) : SpecH PP F_little_Put16 [(.slice b0 b0n b0c), (.int .u16 v1)] h Q :=
   spec_of_txt (ann := ann) Try.func52 rfl rfl (by kernel_rfl) H
end little_Put16
/-! ### haversack/little.Get16: function 53 -/
namespace little_Get16
def ann : Ann := (.seq 3 (.region [(List.range 2, 3)]) (.seq 192 (.region [(List.range 8, 192)]) (.seq 48 (.region [(List.range 5, 48)]) (.exit 48))))
noncomputable abbrev cd (n : Nat) : Code := sub (bodyOf Try.f53) (pth n)
abbrev an (n : Nat) : Ann := subA ann (pth n)
theorem door {b0 : OA} {b0n b0c : Nat} {at1 : Int} {Q : VP} {h : Heap} (H :
 SpecH PP F_little_get [(.slice b0 b0n b0c), (.int .i64 at1), (.int .i64 2)] h (fun v h1 => ∃ (t11 t11_1 : Int), v = (.tuple #[(.int .u64 t11), (.int .i64 t11_1)]) ∧
 let t15 : Int := IntKind.u16.wrap t11
 Q (.tuple #[(.int .u16 t15), (.int .i64 t11_1)]) h1)) : SpecH PP F_little_Get16 [(.slice b0 b0n b0c), (.int .i64 at1)] h Q :=
   spec_of_txt (ann := ann) Try.func53 rfl rfl (by kernel_rfl) H
end little_Get16
/-! ### haversack/little.put: function 54 -/
namespace little_put
def ann : Ann := (.seq 7 (.region [(List.range 1, 7)]) (.seq 135 (.region [(List.range 8, 135)]) (.seq 134 (.region [(List.range 3, 134)]) (.seq 128 (.seq 786562 (.region [(List.range 2, 786562)]) (.block (.loop 786562 (.seq 1835138 (.region [(List.range 1, 1835138)]) (.seq 786562 (.cond .leaf (.exit 128)) (.seq 786562 (.block (.seq 786562 (.region [(List.range 6, 786562)]) (.region [(List.range 3, 786562)]))) (.region [(List.range 2, 786562)]))))))) (.seq 64 (.region [(List.range 2, 64)]) (.exit 64))))))
noncomputable abbrev cd (n : Nat) : Code := sub (bodyOf Try.f54) (pth n)
abbrev an (n : Nat) : Ann := subA ann (pth n)
@[irreducible] def X0 (out7 : OA) (out7n out7c : Nat) : Fr := (mkFr 0 30 [(7, (.slice out7 out7n out7c))])
@[irreducible] def L1 (v1 : Int) (out7 : OA) (out7n out7c : Nat) (t18 t19 : Int) (K : EP) (h : Heap) : Prop := Lp PP true (cd 244) (mkFr 0 30 [(1, (.int .u64 v1)), (7, (.slice out7 out7n out7c)), (18, (.int .i64 t18)), (19, (.int .i64 t19))]) K h
@[irreducible] def B1 (K : EP) : EP := seqK (fun fr h => Lp PP true (cd 244) (fr.mask 786562) K h) K
@[irreducible] def K2 (Q : VP) : EP := seqK (fun fr h => ev PP true none (cd 31) (an 31) (fr.mask 128) (bodyK PP Try.f54 Q) h) (bodyK PP Try.f54 Q)
@[irreducible] def K1 (Q : VP) : EP := blockK 0 (K2 Q)
theorem L1_of {v1 : Int} {out7 : OA} {out7n out7c : Nat} {t18 t19 : Int} {K : EP} {h : Heap} (H :
 let t20 : Bool := decide (t19 < t18)
 br t20 (
 let t23 : Int := IntKind.u8.wrap v1
 let h1 : Heap := Array.push h (.cells #[(.int .u8 t23)] T_uint8 (0, 0))
 hwp PP (Builtin.append_ #[T_sl_uint8, T_sl_uint8] T_sl_uint8 #[(.slice out7 out7n out7c), (.slice (some ⟨Array.size h, 0, none⟩) 1 1)]) (fun v h2 => ∃ (t25 : OA) (t25n t25c : Nat), v = (.slice t25 t25n t25c) ∧
 let t27 : Int := sShr .u64 v1 8
 let t28 : Int := IntKind.i64.wrap (t19 + 1)
 L1 t27 t25 t25n t25c t18 t28 K h2) h1) (
 K (.exit 0) (X0 out7 out7n out7c) h)) : L1 v1 out7 out7n out7c t18 t19 K h := by unfold L1; exact Lp.of_txt (an 244) 786562 (by kernel_rfl) H
theorem L1_X0 {Q : VP} {out7 : OA} {out7n out7c : Nat} {h : Heap} (H :
 Q (.slice out7 out7n out7c) h) : (K1 Q) (.exit 0) (X0 out7 out7n out7c) h := of_eq_txt (by kernel_rfl) H
theorem door {b0 : OA} {b0n b0c : Nat} {v1 xn2 : Int} {Q : VP} {h : Heap} (H :
 let t13 : Int := IntKind.i64.wrap ((b0n : Int) + xn2)
 hwp PP (Instr.makeSlice T_sl_uint8 (.int .i64 (b0n : Int)) (.int .i64 t13)) (fun v h1 => ∃ (t14 : OA) (t14n t14c : Nat), v = (.slice t14 t14n t14c) ∧
 hwp PP (Builtin.copy_ #[T_sl_uint8, T_sl_uint8] T_int #[(.slice t14 t14n t14c), (.slice b0 b0n b0c)]) (fun v_1 h2 => ∃ (t17 : Int), v_1 = (.int .i64 t17) ∧
 L1 v1 t14 t14n t14c xn2 0 (K1 Q) h2) h1) h) : SpecH PP F_little_put [(.slice b0 b0n b0c), (.int .u64 v1), (.int .i64 xn2)] h Q :=
   spec_of_txt (ann := ann) Try.func54 rfl rfl (by kernel_rfl) H
end little_put
/-! ### haversack/little.get: function 55 -/
namespace little_get
def ann : Ann := (.seq 199 (.region [(List.range 2, 199)]) (.seq 199 (.seq 1048775 (.region [(List.range 10, 1048775)]) (.join (.cond (.seq 192 (.region [(List.range 2, 192)]) (.exit 192)) .leaf))) (.seq 455 (.region [(List.range 1, 455)]) (.seq 256 (.seq 134218176 (.region [(List.range 7, 134218176)]) (.block (.range 448 (.region [(List.range 1, 1280)]) (.block (.region [(List.range 6, 0)]))))) (.seq 192 (.region [(List.range 3, 192)]) (.exit 192))))))
noncomputable abbrev cd (n : Nat) : Code := sub (bodyOf Try.f55) (pth n)
abbrev an (n : Nat) : Ann := subA ann (pth n)
@[irreducible] def K1 (Q : VP) : EP := seqK (fun fr h => ev PP true none (cd 7) (an 7) (fr.mask 199) (bodyKR PP Try.f55 Q) h) (bodyKR PP Try.f55 Q)
@[irreducible] def J1 (b0 : OA) (b0n b0c : Nat) (at1 xn2 t6 t7 : Int) (t20 : Bool) (Q : VP) (h : Heap) : Prop := Jn PP true (cd 13) (mkFr 0 36 [(0, (.slice b0 b0n b0c)), (1, (.int .i64 at1)), (2, (.int .i64 xn2)), (6, (.int .u64 t6)), (7, (.int .i64 t7)), (20, (.bool t20))]) (K1 Q) h
@[irreducible] def K3 (Q : VP) : EP := seqK (fun fr h => ev PP true none (cd 31) (an 31) (fr.mask 256) (bodyKR PP Try.f55 Q) h) (bodyKR PP Try.f55 Q)
@[irreducible] def K2 (Q : VP) : EP := blockK 0 (K3 Q)
@[irreducible] def R1 (t6 t7 : Int) (v8 : Addr) (t28 : Value) (t29 : Int) (l : Nat) (K : VP) (h : Heap) : Prop := ev PP false none (cd 244) (an 244) (setAll (mkFr 0 36 [(6, (.int .u64 t6)), (7, (.int .i64 t7)), (8, (.pointer (some v8)))]) [(28, t28), (29, (.int .u8 t29))]) (roundK PP l (cd 245) (an 245) 1280 K) h
theorem J1_of {b0 : OA} {b0n b0c : Nat} {at1 xn2 t6 t7 : Int} {t20 : Bool} {Q : VP} {h : Heap} (H :
 br t20 (
 ∀ h1, Takes h h1 → Q (.tuple #[(.int .u64 0), (.int .i64 20)]) h1) (
 let v8 : Addr := ⟨Array.size h, 0, none⟩
 let h2 : Heap := Array.push h (.cells #[(.int .u64 0)] T_uint64 (0, 0))
 let t25 : Int := IntKind.i64.wrap (at1 + xn2)
 hwp PP (Instr.sliceAt T_sl_uint8 (.slice b0 b0n b0c) (some (.int .i64 at1)) (some (.int .i64 t25)) none) (fun v h3 => ∃ (t26 : OA) (t26n t26c : Nat), v = (.slice t26 t26n t26c) ∧
 SpecH PP F_slices_Backward_byte_byte [(.slice t26 t26n t26c)] h3 (fun v_1 h4 => ∃ (t27 : Value), v_1 = t27 ∧
 rangeK PP t27 #[28, 29] (cd 244) (cd 245) (mkFr 0 36 [(6, (.int .u64 t6)), (7, (.int .i64 t7)), (8, (.pointer (some v8)))]) (K2 Q) h4)) h2)) : J1 b0 b0n b0c at1 xn2 t6 t7 t20 Q h := by unfold J1; exact Jn.of_txt (an 13) (by kernel_rfl) H
theorem R1_of {t6 t7 : Int} {v8 : Addr} {t28 : Value} {t29 : Int} {l : Nat} {K : VP} {h : Heap} (H :
 ∃ xL : Loop, h[l]? = some (.loop xL) ∧ xL.state = .ready ∧
 let h1 : Heap := h.setIfInBounds l (.loop { xL with state := .busy })
 ∃ (t30 : Int), cellH h1 v8 = some (.int .u64 t30) ∧
 let t31 : Int := sShl .u64 t30 8
 let t33 : Int := IntKind.u64.wrap t29
 let t34 : Int := bOr .u64 t31 t33
 wr v8 (.int .u64 t34) (fun h2 =>
 ∃ xL_1, h2[l]? = some (.loop xL_1) ∧ K (.bool true) (h2.setIfInBounds l (endL xL_1 none))) h1) : R1 t6 t7 v8 t28 t29 l K h := of_eq_txt (by kernel_rfl) H
theorem R1_yield {t6 t7 : Int} {v8 : Addr} {t28 : Value} {t29 : Int} {l : Nat} {K : VP} {h : Heap} {L : Loop} (hl : h[l]? = some (.loop L)) (hp : L.params = #[28, 29]) (ha : L.assign = (cd 244)) (hb : L.body = (cd 245)) (hf : FrRel (mkFr 0 36 [(6, (.int .u64 t6)), (7, (.int .i64 t7)), (8, (.pointer (some v8)))]) L.tmps) (H : R1 t6 t7 v8 t28 t29 l K h) : callV PP (.func (.yield l) #[] #[]) [t28, (.int .u8 t29)] K h := by
   unfold R1 at H
   refine yield_ok (ann := an 244) (annB := an 245) (m := 1280) hl (by rw [hp]; rfl) hf ?_
   rw [ha, hb, hp]; exact H
theorem R1_outn0 {Q : VP} {t6 t7 : Int} {v8 : Addr} {h : Heap} (H :
 ∃ (t35 : Int), cellH h v8 = some (.int .u64 t35) ∧
 ∀ h1, Takes h h1 → Q (.tuple #[(.int .u64 t35), (.int .i64 0)]) h1) : (K2 Q) .normal (mkFr 0 36 [(6, (.int .u64 t6)), (7, (.int .i64 t7)), (8, (.pointer (some v8)))]) h := of_eq_txt (by kernel_rfl) H
theorem door {b0 : OA} {b0n b0c : Nat} {at1 xn2 : Int} {Q : VP} {h : Heap} (H :
 let t12 : Bool := decide (at1 < 0)
 br t12 (
 J1 b0 b0n b0c at1 xn2 0 0 true Q h) (
 let t18 : Int := IntKind.i64.wrap ((b0n : Int) - xn2)
 let t19 : Bool := decide (at1 > t18)
 J1 b0 b0n b0c at1 xn2 0 0 t19 Q h)) : SpecH PP F_little_get [(.slice b0 b0n b0c), (.int .i64 at1), (.int .i64 xn2)] h Q :=
   spec_of_txtR (ann := ann) Try.func55 rfl (by kernel_rfl) H
end little_get
/-! ### slices.Backward[[]byte,byte]: function 56 -/
namespace slices_Backward_byte_byte
def ann : Ann := (.seq 2 (.region [(List.range 2, 2)]) (.seq 4 (.region [(List.range 2, 4)]) (.exit 4)))
noncomputable abbrev cd (n : Nat) : Code := sub (bodyOf Try.f56) (pth n)
abbrev an (n : Nat) : Ann := subA ann (pth n)
theorem door {s0 : OA} {s0n s0c : Nat} {Q : VP} {h : Heap} (H :
 let s1 : Addr := ⟨Array.size h, 0, none⟩
 let h1 : Heap := Array.push h (.cells #[(.slice s0 s0n s0c)] T_sl_uint8 (0, 0))
 Q (.func (.func F_slices_Backward_byte_byte_1) #[] #[(.pointer (some s1))]) h1) : SpecH PP F_slices_Backward_byte_byte [(.slice s0 s0n s0c)] h Q :=
   spec_of_txt (ann := ann) Try.func56 rfl rfl (by kernel_rfl) H
end slices_Backward_byte_byte
/-! ### slices.Backward[[]byte,byte]$1: function 57 -/
namespace slices_Backward_byte_byte_1
def ann : Ann := (.seq 11 (.region [(List.range 4, 11)]) (.block (.loop 11 (.seq 11 (.seq 267 (.region [(List.range 2, 267)]) (.cond .leaf (.exit 0))) (.seq 11 (.block (.seq 262155 (.region [(List.range 8, 262155)]) (.cond (.exit 0) .leaf))) (.region [(List.range 3, 11)]))))))
noncomputable abbrev cd (n : Nat) : Code := sub (bodyOf Try.f57) (pth n)
abbrev an (n : Nat) : Ann := subA ann (pth n)
@[irreducible] def Xret  : Fr := (mkFr 0 19 [])
@[irreducible] def X0  : Fr := (mkFr 0 19 [])
@[irreducible] def L1 (yield0 : Value) (t1 : Addr) (i3 : Int) (K : EP) (h : Heap) : Prop := Lp PP true (cd 12) (mkFr 0 19 [(0, yield0), (1, (.pointer (some t1))), (3, (.int .i64 i3))]) K h
@[irreducible] def B1 (K : EP) : EP := seqK (fun fr h => Lp PP true (cd 12) (fr.mask 11) K h) K
@[irreducible] def K1 (Q : VP) : EP := blockK 0 (bodyK PP Try.f57 Q)
theorem L1_of {yield0 : Value} {t1 : Addr} {i3 : Int} {K : EP} {h : Heap} (H :
 let t8 : Bool := decide (i3 ≥ 0)
 br t8 (
 ∃ (t13 : OA) (t13n t13c : Nat), cellH h t1 = some (.slice t13 t13n t13c) ∧
 hwp PP (Instr.indexAt T_sl_uint8 (.slice t13 t13n t13c) (.int .i64 i3)) (fun v h1 => ∃ (t15 : Addr), v = (.pointer (some t15)) ∧
 ∃ (t16 : Int), cellH h1 t15 = some (.int .u8 t16) ∧
 callV PP yield0 [(.int .i64 i3), (.int .u8 t16)] (fun v_1 h2 => ∃ (t17 : Bool), v_1 = (.bool t17) ∧
 let t18 : Bool := (!t17)
 br t18 (
 K .ret (Xret) h2) (
 let t10 : Int := IntKind.i64.wrap (i3 - 1)
 L1 yield0 t1 t10 K h2)) h1) h) (
 K (.exit 0) (X0) h)) : L1 yield0 t1 i3 K h := by unfold L1; exact Lp.of_txt (an 12) 11 (by kernel_rfl) H
theorem L1_Xret {Q : VP}  {h : Heap} (H :
 Q (.tuple #[]) h) : (K1 Q) .ret (Xret ) h := of_eq_txt (by kernel_rfl) H
theorem L1_X0 {Q : VP}  {h : Heap} (H :
 Q (.tuple #[]) h) : (K1 Q) (.exit 0) (X0 ) h := of_eq_txt (by kernel_rfl) H
theorem door {yield0 : Value} {t1 : Addr} {Q : VP} {h : Heap} (H :
 ∃ (t4 : OA) (t4n t4c : Nat), cellH h t1 = some (.slice t4 t4n t4c) ∧
 let t6 : Int := IntKind.i64.wrap ((t4n : Int) - 1)
 L1 yield0 t1 t6 (K1 Q) h) : SpecH PP F_slices_Backward_byte_byte_1 [yield0, (.pointer (some t1))] h Q :=
   spec_of_txt (ann := ann) Try.func57 rfl rfl (by kernel_rfl) H
end slices_Backward_byte_byte_1

end Go.Proofs.Ytnidhafhgclakaa

set_option linter.unusedVariables false
set_option linter.unusedSimpArgs false
namespace Go.Proofs.Ytnidhafhgclakaa
open Go Go.HW
variable {h : Heap} {L : List Assn} {Q : Value → Heap → Prop}
theorem addN (a b : Nat) (h : a + b < 2 ^ 62) : IntKind.i64.wrap ((a : Int) + b) = ((a + b : Nat) : Int) := by rw [i64_id (by omega)]; simp

theorem put_loop {m : Nat} {K : Ex → Fr → Heap → Prop} {tot : List Nat} (hm : tot.length < 2 ^ 41)
    (kk : ∀ h' a' c', Hs h' (own a' tot.length c' T_uint8 1 (nV tot) :: L) → K (.exit 0) (little_put.X0 a' tot.length c') h') :
    ∀ (k i v : Nat) (pre : List Nat) (h : Heap) (a : Option Addr) (n c : Nat), i + k = m → m < 2 ^ 60 → v < 2 ^ 64 → pre ++ dig v k = tot → pre.length = n → Hs h (own a n c T_uint8 1 (nV pre) :: L) →
      little_put.L1 v a n c m i K h := by
  intro k
  induction k with
  | zero =>
    intro i v pre h a n c hi hmb hv hp hn H
    refine little_put.L1_of ?_
    refine br_false (by simp; omega) ?_
    simp [dig] at hp
    subst hp; subst hn
    exact kk h a c H
  | succ k ih =>
    intro i v pre h a n c hi hmb hv hp hn H
    have hpl : n + 1 ≤ tot.length := by rw [← hp]; simp [dig]; omega
    refine little_put.L1_of ?_
    refine br_true (by simp; omega) ?_
    dsimp only
    rw [wrap_u8]
    refine H.app_vals (ys := nV [v % 256]) (m := 1) E_sl_uint8 rfl rfl (nV_one _) ?_ (by omega) (by omega)
    intro h' a' c' H'
    refine ⟨_, _, _, rfl, ?_⟩
    rw [inc (by omega), show sShr .u64 (v : Int) 8 = ((v / 2 ^ 8 : Nat) : Int) from shr_u64 (m := 8) (by omega)]
    refine ih (i + 1) (v / 2 ^ 8) (pre ++ [v % 256]) h' a' (n + 1) c' (by omega) hmb (by omega) ?_ (by simp [hn]) (by rw [nV_app]; exact H')
    rw [← hp, List.append_assoc]
    congr 1
    have e : ∀ k w, dig w (k + 1) = w % 256 :: dig (w / 256) k := by
      intro k
      induction k with
      | zero => intro w; simp [dig]
      | succ k ih =>
        intro w
        rw [show dig w (k + 1 + 1) = dig w (k + 1) ++ [w / 256 ^ (k + 1) % 256] from rfl, ih]
        simp only [dig, List.cons_append]
        rw [Nat.div_div_eq_div_mul, ← Nat.pow_succ']
    rw [e]; rfl

theorem put_h {a : OA} {n c v k : Nat} {bs : List Nat} (g : Gv L a (nV bs)) (hn : bs.length = n) (ha : a = none → n = 0) (hmax : n < 2 ^ 40) (hk : k ≤ 8) (hv : v < 2 ^ 64) (H : Hs h L)
    (kk : ∀ h' a' c', Hs h' (own a' (n + k) c' T_uint8 1 (nV (bs ++ dig v k)) :: L) → Q (.slice a' (n + k) c') h') : SpecH PP F_little_put [.slice a n c, .int .u64 v, .int .i64 k] h Q := by
  refine little_put.door ?_
  dsimp only
  rw [addN n k (by omega)]
  refine H.make E_sl_uint8 rfl rfl (by omega) (by omega) (by omega) ?_
  intro h1 b H1
  refine ⟨_, _, _, rfl, ?_⟩
  refine H1.copy (ys := nV bs) (off := 0) E_sl_uint8 (by simp [nV_len, hn]) (g _ H1.tl) ha (by simp [nV_len, hn]) (nV_one _) ?_
  intro h2 H2
  refine ⟨_, rfl, ?_⟩
  have hl : (bs ++ dig v k).length = n + k := by simp [hn, dig_len]
  have H3 : Hs h2 (own (some ⟨b, 0, none⟩) n (n + k) T_uint8 1 (nV bs) :: L) := by
    refine H2.pt_own 0 ?_ (by simp [nV_len, hn]) (by omega) (by simp [nV_len, hn])
    simp [nV_len, hn]
  refine put_loop (tot := bs ++ dig v k) (m := k) (by omega) ?_ k 0 v bs h2 _ n (n + k) (by omega) (by omega) hv rfl hn H3
  intro h' a' c' H'
  rw [hl] at H' ⊢
  exact little_put.L1_X0 (kk h' a' c' H')
theorem put32_h {a : OA} {n c v : Nat} {bs : List Nat} (g : Gv L a (nV bs)) (hn : bs.length = n) (ha : a = none → n = 0) (hmax : n < 2 ^ 40) (hv : v < 2 ^ 32) (H : Hs h L)
    (kk : ∀ h' a' c', Hs h' (own a' (n + 4) c' T_uint8 1 (nV (bs ++ dig v 4)) :: L) → Q (.slice a' (n + 4) c') h') : SpecH PP F_little_Put32 [.slice a n c, .int .u32 v] h Q := by
  refine little_Put32.door ?_
  dsimp only
  rw [wrap_u64_id (by omega)]
  exact put_h (k := 4) g hn ha hmax (by decide) (by omega) H fun h' a' c' H' => ⟨_, _, _, rfl, kk h' a' c' H'⟩
theorem put16_h {a : OA} {n c v : Nat} {bs : List Nat} (g : Gv L a (nV bs)) (hn : bs.length = n) (ha : a = none → n = 0) (hmax : n < 2 ^ 40) (hv : v < 2 ^ 16) (H : Hs h L)
    (kk : ∀ h' a' c', Hs h' (own a' (n + 2) c' T_uint8 1 (nV (bs ++ dig v 2)) :: L) → Q (.slice a' (n + 2) c') h') : SpecH PP F_little_Put16 [.slice a n c, .int .u16 v] h Q := by
  refine little_Put16.door ?_
  dsimp only
  rw [wrap_u64_id (by omega)]
  exact put_h (k := 2) g hn ha hmax (by decide) (by omega) H fun h' a' c' H' => ⟨_, _, _, rfl, kk h' a' c' H'⟩

theorem backward_loop {yield : Value} {t1 : Addr} {K : Ex → Fr → Heap → Prop} {bs : List Nat} {a : Option Addr} {n c : Nat} (hn : bs.length = n) (hmax : n < 2 ^ 40) (I : Nat → Heap → Prop)
    (hI : ∀ (i : Nat) (h : Heap) (hi : i < bs.length), I (i + 1) h → cellH h t1 = some (.slice a n c) ∧ Rd h a (nV bs) ∧ callV PP yield [.int .i64 i, .int .u8 (bs[i] : Nat)] (fun v h2 => v = .bool true ∧ I i h2) h)
    (hx : ∀ h, I 0 h → K (.exit 0) (slices_Backward_byte_byte_1.X0) h) : ∀ (k : Nat) (h : Heap), k ≤ n → I k h → slices_Backward_byte_byte_1.L1 yield t1 ((k : Int) - 1) K h := by
  intro k
  induction k with
  | zero =>
    intro h hk hI0
    refine slices_Backward_byte_byte_1.L1_of ?_
    exact br_false (by simp) (hx h hI0)
  | succ k ih =>
    intro h hk hIk
    have hkl : k < bs.length := by omega
    obtain ⟨h1, h2, h3⟩ := hI k h hkl hIk
    have e : ((k + 1 : Nat) : Int) - 1 = (k : Int) := by omega
    rw [e]; refine slices_Backward_byte_byte_1.L1_of ?_
    refine br_true (by simp) ?_
    refine ⟨_, _, _, h1, ?_⟩
    refine idx E_sl_uint8 h2 (by omega) (by omega) (v := .int .u8 (bs[k] : Nat)) (by simpa using nV_get hkl) ?_
    intro t ht
    refine ⟨_, ht, callV_mono ?_ h3⟩
    rintro v hh ⟨rfl, hI'⟩
    refine ⟨true, rfl, ?_⟩
    refine br_false rfl ?_
    dsimp only
    rw [show IntKind.i64.wrap ((k : Int) - 1) = (k : Int) - 1 from i64_id (by omega)]
    exact ih hh (by omega) hI'

/-- What the ranges' heap is, so far. -/
structure GI (h : Heap) (a : Option Addr) (n c : Nat) (L : Loop) (ys : List Nat) (k : Nat) (hh : Heap) : Prop where
  ext : ExtB h.size h hh
  acc : Blk hh h.size T_uint64 [.int .u64 (val (ys.drop k) : Nat)]
  sl : Blk hh (h.size + 1) T_sl_uint8 [.slice a n c]
  dfr : hh[h.size + 2]? = some (.deferred (some []))
  lp : hh[h.size + 3]? = some (.loop L)

theorem get_spec {a : Option Addr} {n c : Nat} {bs : List Nat} {at1 : Int} {k : Nat} (hr : Rd h a (nV bs)) (hn : bs.length = n) (hnc : n ≤ c) (hn0 : a = none → c = 0) (hmax : n < 2 ^ 40) (hk : k ≤ 8) (h8 : ∀ x ∈ bs, x < 256)
    (H1 : (at1 < 0 ∨ at1 > (n : Int) - k) → ∀ h', ExtB h.size h h' → Q (.tuple #[.int .u64 0, .int .i64 20]) h')
    (H2 : ∀ j : Nat, at1 = j → j + k ≤ n → ∀ h', ExtB h.size h h' → Q (.tuple #[.int .u64 (val ((bs.drop j).take k) : Nat), .int .i64 0]) h') :
    SpecH PP F_little_get [.slice a n c, .int .i64 at1, .int .i64 k] h Q := by
  refine SpecH.keepD (little_get.door ?_)
  have bad : (at1 < 0 ∨ at1 > (n : Int) - k) → little_get.J1 a n c at1 k 0 0 true (fun v h' => KeepD h h' → Q v h') h := by
    intro hb
    refine little_get.J1_of ?_
    refine br_true rfl fun h1 ht hkd => H1 hb h1 (takes_ext (ExtB.refl _ _) ht hkd)
  refine (br_iff _ _ _).2 ⟨fun hb => bad (.inl (by simpa using hb)), fun hb => ?_⟩
  have h0 : 0 ≤ at1 := by simpa using hb
  dsimp only
  rw [show IntKind.i64.wrap ((n : Int) - k) = (n : Int) - k from i64_id (by omega)]
  by_cases hgt : at1 > (n : Int) - k
  · rw [decide_eq_true hgt]; exact bad (.inr hgt)
  rw [decide_eq_false hgt]
  obtain ⟨j, rfl⟩ : ∃ j : Nat, at1 = j := ⟨at1.toNat, by omega⟩
  have hjk : j + k ≤ n := by omega
  refine little_get.J1_of ?_
  refine br_false rfl ?_
  dsimp only
  rw [addN j k (by omega)]
  have hp := ExtB.push (Nat.le_refl h.size) (.cells #[Value.int .u64 0] T_uint64 (0, 0))
  refine slice_rd E_sl_uint8 (hr.keep hp) (by rw [nV_len, hn]) hnc (by exact trivial) (by exact trivial) (by simp [bnd]) (by simp [bnd]; omega) (by simp [bnd]; omega) ?_
  intro a' hr' hblk
  simp only [bnd, Int.toNat_natCast] at hr' ⊢
  rw [show j + k - j = k by omega] at hr' ⊢
  rw [show ((nV bs).drop j).take k = nV ((bs.drop j).take k) by simp [nV, List.map_take, List.map_drop]] at hr'
  have h8' : ∀ x ∈ (bs.drop j).take k, x < 256 := fun x hx => h8 x (List.mem_of_mem_drop (List.mem_of_mem_take hx))
  generalize hys : (bs.drop j).take k = ys at hr' h8'
  have hyl : ys.length = k := by rw [← hys]; simp; omega
  refine ⟨_, _, _, rfl, ?_⟩
  refine slices_Backward_byte_byte.door ?_
  dsimp only
  refine ⟨_, rfl, ?_⟩
  refine ⟨F_slices_Backward_byte_byte_1, #[], _, rfl, (by kernel_rfl : callable PP F_slices_Backward_byte_byte_1 = true), ?_⟩
  intro fn tmps hf
  simp only [Array.size_push]
  show SpecH PP F_slices_Backward_byte_byte_1 [_, _] _ _
  refine slices_Backward_byte_byte_1.door ?_
  generalize hL : (Loop.mk .ready none fn tmps #[28, 29] _ _ _) = L
  have hb' : ∀ ad, a' = some ad → nV ys ≠ [] → ad.block < h.size := by
    intro ad ha hne
    obtain ⟨ad0, h1, h2⟩ := hblk ad ha
    rw [← h2]; subst h1
    refine hr.lt ?_
    intro hb; apply hne
    have : bs = [] := by cases bs with | nil => rfl | cons => simp [nV] at hb
    rw [← hys, this]; simp [nV]
  have rdk : ∀ hh k', GI h a' k (c - j) L ys k' hh → Rd hh a' (nV ys) := fun hh k' G => hr'.keepB (n := h.size) ⟨by have := lt_of_get G.lp; simp; omega, fun i hi => by rw [G.ext.2 i hi, hp.2 i hi]⟩ hb'
  have step : ∀ (i : Nat) (hh : Heap) (hi : i < ys.length), GI h a' k (c - j) L ys (i + 1) hh → cellH hh ⟨h.size + 1, 0, none⟩ = some (.slice a' k (c - j)) ∧ Rd hh a' (nV ys) ∧
      callV PP (.func (.yield (h.size + 3)) #[] #[]) [.int .i64 i, .int .u8 (ys[i] : Nat)] (fun v h2 => v = .bool true ∧ GI h a' k (c - j) L ys i h2) hh := by
    intro i hh hi G
    refine ⟨cell_of G.sl rfl, rdk hh _ G, ?_⟩
    have R : little_get.R1 0 0 ⟨h.size, 0, none⟩ (.int .i64 i) (ys[i] : Nat) (h.size + 3) (fun v h2 => v = .bool true ∧ GI h a' k (c - j) L ys i h2) hh := by
      refine little_get.R1_of ?_
      refine ⟨L, G.lp, by rw [← hL], ?_⟩
      have hacc : Blk (hh.setIfInBounds (h.size + 3) (.loop { L with state := .busy })) h.size T_uint64 [.int .u64 (val (ys.drop (i + 1)) : Nat)] := by
        unfold Blk; rw [get_set, if_neg (by omega)]; exact G.acc
      refine ⟨_, cell_of hacc rfl, ?_⟩
      dsimp only
      have hvl : val (ys.drop (i + 1)) < 256 ^ (ys.drop (i + 1)).length := val_lt fun x hx => h8' x (List.mem_of_mem_drop hx)
      have hvl7 : val (ys.drop (i + 1)) < 2 ^ 56 := Nat.lt_of_lt_of_le hvl (by rw [show (2 : Nat) ^ 56 = 256 ^ 7 by decide]; exact Nat.pow_le_pow_right (by decide) (by simp; omega))
      have hyi := h8' ys[i] (List.getElem_mem hi)
      have ev : bOr .u64 (sShl .u64 (val (ys.drop (i + 1)) : Nat) 8) (IntKind.u64.wrap (ys[i] : Nat)) = ((val (ys.drop i) : Nat) : Int) := by
        rw [show sShl .u64 (val (ys.drop (i + 1)) : Nat) 8 = ((val (ys.drop (i + 1)) * 2 ^ 8 % 18446744073709551616 : Nat) : Int) from shl_u64 (m := 8) (by omega), Nat.mod_eq_of_lt (by omega), wrap_u64_id (by omega),
          or_u64 (by omega) (by omega), Nat.or_comm, or_add (k := 8) (by omega), ← List.getElem_cons_drop hi]
        simp only [val, List.drop_succ_cons, List.drop_zero]
        congr 1
        omega
      rw [ev]
      refine wr_ok hacc (by simp) rfl ?_
      refine ⟨{ L with state := .busy }, ?_, rfl, ?_⟩
      · rw [get_set, if_neg (by omega), get_set, if_pos rfl, if_pos (lt_of_get G.lp)]
      · have eL : endL { L with state := .busy } none = .loop L := by rw [← hL]; rfl
        rw [eL]
        refine ⟨((G.ext.trans (setB _ _ (by omega))).trans (setB _ _ (Nat.le_refl _))).trans (setB _ _ (by omega)), ?_, ?_, ?_, ?_⟩
        · unfold Blk; rw [get_set, if_neg (by omega), get_set, if_pos rfl, if_pos (by simpa using lt_of_get G.acc)]; rfl
        · unfold Blk; rw [get_set, if_neg (by omega), get_set, if_neg (by omega), get_set, if_neg (by omega)]; exact G.sl
        · rw [get_set, if_neg (by omega), get_set, if_neg (by omega), get_set, if_neg (by omega)]; exact G.dfr
        · rw [get_set, if_pos rfl, if_pos (by simpa using lt_of_get G.lp)]
    exact little_get.R1_yield G.lp (by rw [← hL]) (by rw [← hL]) (by rw [← hL]) (by rw [← hL]; exact hf) R
  refine ⟨a', k, c - j, ?_, ?_⟩
  · exact cell_of (cs := #[.slice a' k (c - j)]) (t := T_sl_uint8) (f := (0, 0)) (by rw [get_push, if_neg (by simp), get_push, if_neg (by simp), get_push, if_pos (by simp)]) rfl
  dsimp only
  rw [show IntKind.i64.wrap ((k : Int) - 1) = (k : Int) - 1 from i64_id (by omega)]
  refine backward_loop hyl (by omega) (GI h a' k (c - j) L ys) step ?_ k _ (Nat.le_refl _) ?_
  · intro hh G
    refine slices_Backward_byte_byte_1.L1_X0 ?_
    refine ⟨L, G.lp, by rw [← hL]; simp, G.dfr, ?_⟩
    have : L.pending = none := by rw [← hL]
    rw [this]
    show little_get.K2 _ .normal _ _
    refine little_get.R1_outn0 ?_
    refine ⟨_, cell_of (b := h.size) (off := 0) (cs := #[.int .u64 (val (ys.drop 0) : Nat)]) (t := T_uint64) (f := (0, 0)) (by rw [get_set, if_neg (by omega)]; exact G.acc) rfl, ?_⟩
    intro h1 ht hkd
    rw [List.drop_zero, ← hys]
    exact H2 j rfl hjk h1 (takes_ext (G.ext.trans (setB _ _ (by omega))) ht hkd)
  · refine ⟨?_, ?_, ?_, ?_, ?_⟩
    · refine ⟨by simp; omega, fun i hi => ?_⟩
      rw [get_push, if_neg (by simp; omega), get_push, if_neg (by simp; omega), get_push, if_neg (by simp; omega), get_push, if_neg (by omega)]
    · unfold Blk
      rw [get_push, if_neg (by simp; omega), get_push, if_neg (by simp; omega), get_push, if_neg (by simp), get_push, if_pos rfl, List.drop_of_length_le (by omega)]; rfl
    · unfold Blk
      rw [get_push, if_neg (by simp), get_push, if_neg (by simp), get_push, if_pos (by simp)]
    · rw [get_push, if_neg (by simp), get_push, if_pos (by simp)]
    · rw [get_push, if_pos (by simp)]
/-- The first bytes' number, or a refusal. -/
theorem get32_h {a : OA} {n c : Nat} {bs : List Nat} (g : Gv L a (nV bs)) (hn : bs.length = n) (hnc : n ≤ c) (hn0 : a = none → c = 0) (hmax : n < 2 ^ 40) (h8 : ∀ x ∈ bs, x < 256) (H : Hs h L)
    (kx : n < 4 → ∀ h', Hs h' L → Q (.tuple #[.int .u32 0, .int .i64 20]) h') (kk : 4 ≤ n → ∀ h', Hs h' L → Q (.tuple #[.int .u32 (val (bs.take 4) : Nat), .int .i64 0]) h') : SpecH PP F_little_Get32 [.slice a n c, .int .i64 0] h Q := by
  refine little_Get32.door ?_
  refine get_spec (k := 4) (g h H) hn hnc hn0 hmax (by decide) h8 ?_ ?_
  · intro hb h' e
    exact ⟨_, _, rfl, kx (by omega) h' (H.extB e)⟩
  · intro j hj hjn h' e
    obtain rfl : j = 0 := by omega
    refine ⟨_, _, rfl, ?_⟩
    dsimp only
    rw [List.drop_zero]
    have : val (bs.take 4) < 256 ^ 4 := Nat.lt_of_lt_of_le (val_lt fun x hx => h8 x (List.mem_of_mem_take hx)) (Nat.pow_le_pow_right (by decide) (by simp; omega))
    rw [wrap_u32_id (by omega)]
    exact kk (by omega) h' (H.extB e)
theorem get16_h {a : OA} {n c : Nat} {bs : List Nat} (g : Gv L a (nV bs)) (hn : bs.length = n) (hnc : n ≤ c) (hn0 : a = none → c = 0) (hmax : n < 2 ^ 40) (h8 : ∀ x ∈ bs, x < 256) (H : Hs h L)
    (kx : n < 2 → ∀ h', Hs h' L → Q (.tuple #[.int .u16 0, .int .i64 20]) h') (kk : 2 ≤ n → ∀ h', Hs h' L → Q (.tuple #[.int .u16 (val (bs.take 2) : Nat), .int .i64 0]) h') : SpecH PP F_little_Get16 [.slice a n c, .int .i64 0] h Q := by
  refine little_Get16.door ?_
  refine get_spec (k := 2) (g h H) hn hnc hn0 hmax (by decide) h8 ?_ ?_
  · intro hb h' e
    exact ⟨_, _, rfl, kx (by omega) h' (H.extB e)⟩
  · intro j hj hjn h' e
    obtain rfl : j = 0 := by omega
    refine ⟨_, _, rfl, ?_⟩
    dsimp only
    rw [List.drop_zero]
    have : val (bs.take 2) < 256 ^ 2 := Nat.lt_of_lt_of_le (val_lt fun x hx => h8 x (List.mem_of_mem_take hx)) (Nat.pow_le_pow_right (by decide) (by simp; omega))
    rw [wrap_u16_id (by omega)]
    exact kk (by omega) h' (H.extB e)
end Go.Proofs.Ytnidhafhgclakaa

set_option linter.unusedVariables false
set_option linter.unusedSimpArgs false
namespace Go.Proofs.Ytnidhafhgclakaa
open Go Go.HW
variable {h : Heap} {L M : List Assn} {Q X : Value → Heap → Prop}

/-! ### What fields do -/
def within (x : Int) : Bool := decide (0 ≤ x) && decide (x ≤ 1000000000)
theorem within_iff {x : Int} : within x = true ↔ 0 ≤ x ∧ x ≤ 1000000000 := by simp [within]
def numS (put : Bool) (bs : List Nat) (x : Int) : Except Int (List Nat × Int) :=
  match put with
  | true => if within x = true then .ok (bs ++ dig x.toNat 4, x) else .error 1
  | false => if 4 ≤ bs.length ∧ val (bs.take 4) ≤ 1000000000 then .ok (bs.drop 4, (val (bs.take 4) : Nat)) else .error 190
def shortS (put : Bool) (bs : List Nat) (x : Int) : Except Int (List Nat × Int) :=
  match put with
  | true => .ok (bs ++ dig x.toNat 2, x)
  | false => if 2 ≤ bs.length then .ok (bs.drop 2, (val (bs.take 2) : Nat)) else .error 190
def smallS (put : Bool) (bs : List Nat) (x : Int) : Except Int (List Nat × Int) :=
  match put with
  | true => .ok (bs ++ [x.toNat], x)
  | false => match bs with
    | b :: l => .ok (l, (b : Int))
    | [] => .error 190
def bytesS (put : Bool) (bs : List Nat) (s : ByteArray) (n : Nat) : Except Int (List Nat × ByteArray) :=
  match put with
  | true => .ok (bs ++ sb s, s)
  | false => if n ≤ bs.length then .ok (bs.drop n, st (bs.take n)) else .error 190
def textS (put : Bool) (bs : List Nat) (s : ByteArray) (most : Nat) : Except Int (List Nat × ByteArray) :=
  match put with
  | true => if s.size ≤ most then .ok (bs ++ dig s.size 2 ++ sb s, s) else .error 2
  | false => if 2 ≤ bs.length ∧ val (bs.take 2) ≤ most ∧ val (bs.take 2) ≤ (bs.drop 2).length then .ok ((bs.drop 2).drop (val (bs.take 2)), st ((bs.drop 2).take (val (bs.take 2)))) else .error 190

/-! ### The port's place -/
abbrev port (a : OA) (n c : Nat) (put : Bool) : List Value := [.slice a n c, .bool put]
def portA (L : List Assn) (pb : Nat) (put : Bool) (bs : List Nat) : Assn :=
  match put with
  | true => fun m => ∃ a, ∃ n, ∃ c, Sp [pt pb T_wire_port (port a n c true), own a n c T_uint8 1 (nV bs)] m
  | false => fun m => ∃ a, ∃ n, ∃ c, (bs.length = n ∧ n ≤ c ∧ (a = none → c = 0) ∧ (∀ x ∈ bs, x < 256) ∧ Gv L a (nV bs)) ∧ pt pb T_wire_port (port a n c false) m
theorem portP {pb : Nat} {bs : List Nat} : Hs h (portA L pb true bs :: M) ↔ ∃ a n c, Hs h (pt pb T_wire_port (port a n c true) :: own a n c T_uint8 1 (nV bs) :: M) := by
  unfold portA
  rw [Hs.ex]
  constructor
  · rintro ⟨a, H⟩
    obtain ⟨n, H⟩ := Hs.ex.1 H
    obtain ⟨c, H⟩ := Hs.ex.1 H
    exact ⟨a, n, c, Hs.app.1 H⟩
  · rintro ⟨a, n, c, H⟩
    exact ⟨a, Hs.ex.2 ⟨n, Hs.ex.2 ⟨c, Hs.app.2 H⟩⟩⟩
theorem portG {pb : Nat} {bs : List Nat} : Hs h (portA L pb false bs :: M) ↔ ∃ a n c, (bs.length = n ∧ n ≤ c ∧ (a = none → c = 0) ∧ (∀ x ∈ bs, x < 256) ∧ Gv L a (nV bs)) ∧ Hs h (pt pb T_wire_port (port a n c false) :: M) := by
  unfold portA
  rw [Hs.ex]
  constructor
  · rintro ⟨a, H⟩
    obtain ⟨n, H⟩ := Hs.ex.1 H
    obtain ⟨c, H⟩ := Hs.ex.1 H
    exact ⟨a, n, c, Hs.and.1 H⟩
  · rintro ⟨a, n, c, H⟩
    exact ⟨a, Hs.ex.2 ⟨n, Hs.ex.2 ⟨c, Hs.and.2 H⟩⟩⟩
def endV (e : Int) : Value := .iface T_wire_end (.agg #[.int .i64 e])
theorem is_h {b : Bool} {e : Int} (kk : b = true → Q (.tuple #[]) h) (kx : b = false → X (endV e) h) : SpecT PP F_wire_is [.bool b, .int .i64 e] h Q X := by
  refine wire_is.door ?_
  cases b
  · exact br_true rfl (kx rfl)
  · exact br_false rfl (kk rfl)
theorem set_same {α : Type} {l : List α} {i : Nat} {v : α} (h : l[i]? = some v) : l.set i v = l := by
  obtain ⟨hi, rfl⟩ := List.getElem?_eq_some_iff.1 h
  exact List.set_getElem_self hi
theorem nV_cut (bs : List Nat) (i : Nat) : (nV bs).drop i = nV (bs.drop i) := by simp [nV, List.map_drop]

theorem number_h {pb rb off : Nat} {t : TypeId} {xs : List Value} {x : Int} {put : Bool} {bs : List Nat} (H : Hs h (portA L pb put bs :: pt rb t xs :: M)) (hM : ∀ h, Hs h M → Hs h L) (hx : xs[off]? = some (.int .i64 x)) (hb : bs.length < 2 ^ 40)
    (kk : ∀ bs' x' h', numS put bs x = .ok (bs', x') → Hs h' (portA L pb put bs' :: pt rb t (xs.set off (.int .i64 x')) :: M) → Q (.tuple #[]) h')
    (kx : ∀ e h', numS put bs x = .error e → Hs h' (pt rb t xs :: M) → X (endV e) h') : SpecT PP F_wire_port_number [.pointer (some ⟨pb, 0, none⟩), .pointer (some ⟨rb, off, none⟩)] h Q X := by
  have hoff : off < xs.length := (List.getElem?_eq_some_iff.1 hx).1
  refine wire_port_number.door ?_
  cases put with
  | true =>
    obtain ⟨a, n, c, H⟩ := portP.1 H
    have hn : bs.length = n := by have := H.m1.own_len; simpa [nV_len] using this
    have Rx : cellH h ⟨rb, off, none⟩ = some (.int .i64 x) := H.m2.cell hx
    have bad : within x = false → X (endV 1) h := fun hw => kx 1 h (by simp [numS, hw]) H.tl.tl
    have good : within x = true → wire_port_number.J1 (some ⟨pb, 0, none⟩) (some ⟨rb, off, none⟩) Q X h := by
      intro hw
      obtain ⟨h0, h1⟩ := within_iff.1 hw
      obtain ⟨k, rfl⟩ := Int.eq_ofNat_of_zero_le h0
      refine wire_port_number.J1_of ?_
      refine ⟨_, _, _, H.cell (off := 0) rfl, _, Rx, ?_⟩
      dsimp only
      rw [wrap_u32_id (by omega)]
      have g : Gv (own a n c T_uint8 1 (nV bs) :: pt pb T_wire_port (port a n c true) :: pt rb t xs :: M) a (nV bs) := Gv.own
      refine put32_h g hn (fun ha => ?_) (by omega) (by omega) H.m1 ?_
      · have := H.m1.Own.none_zero ha; exact this
      · intro h2 a2 c2 H2
        refine ⟨_, _, _, rfl, ?_⟩
        refine H2.m2.sto (off := 0) (by simp) ?_
        intro h3 H3
        refine kk (bs ++ dig k 4) k h3 (by simp [numS, hw]) ?_
        rw [set_same hx]
        exact portP.2 ⟨a2, n + 4, c2, H3.sel 4 [0, 1, 3]⟩
    refine ⟨true, H.cell (off := 1) rfl, br_true rfl ⟨x, Rx, ?_⟩⟩
    dsimp only
    by_cases h0 : 0 ≤ x
    · refine br_true (by simpa using h0) ⟨x, Rx, is_h (fun hb => ⟨rfl, good ?_⟩) fun hb => bad ?_⟩
      · exact within_iff.2 ⟨h0, by simpa using hb⟩
      · have : ¬ x ≤ 1000000000 := by simpa using hb
        simp [within, this]
    · exact br_false (by simpa using h0) (is_h (fun hb => by cases hb) fun hb => bad (by simp [within, h0]))
  | false =>
    obtain ⟨a, n, c, ⟨hn, hnc, hn0, h8, g⟩, H⟩ := portG.1 H
    have gM : Gv M a (nV bs) := fun h H => g h (hM h H)
    have bad : ¬ (4 ≤ bs.length ∧ val (bs.take 4) ≤ 1000000000) → ∀ h', Hs h' (pt rb t xs :: M) → X (endV 190) h' := fun hw h' H' => kx 190 h' (by simp only [numS, if_neg hw]) H'
    refine ⟨false, H.cell (off := 1) rfl, br_false rfl ?_⟩
    refine ⟨_, _, _, H.cell (off := 0) rfl, ?_⟩
    refine get32_h (gM.cons.cons) hn hnc hn0 (by omega) h8 H ?_ ?_
    · intro hlt h2 H2
      refine ⟨_, _, rfl, ?_⟩
      exact br_false rfl (is_h (fun hb => by cases hb) fun _ => bad (by omega) _ H2.tl)
    · intro hge h2 H2
      refine ⟨_, _, rfl, ?_⟩
      refine br_true rfl (is_h (fun hv => ⟨rfl, ?_⟩) fun hv => bad ?_ _ H2.tl)
      · have hv' : val (bs.take 4) ≤ 1000000000 := by have : ((val (bs.take 4) : Nat) : Int) ≤ 1000000000 := by simpa using hv
                                                      omega
        refine wire_port_number.J2_of ?_
        dsimp only
        rw [wrap_i64_z (by omega) (by omega)]
        refine H2.m1.sto (off := off) hoff ?_
        intro h3 H3
        refine ⟨_, _, _, H3.m1.cell (off := 0) rfl, ?_⟩
        refine bytes_tailG (i := 4) E_sl_uint8 g hn hnc hn0 (by omega) ?_
        intro a' c' g' e1 e2 e3
        refine ⟨_, _, _, rfl, ?_⟩
        refine H3.m1.sto (off := 0) (by simp) ?_
        intro h4 H4
        refine kk (bs.drop 4) ((val (bs.take 4) : Nat) : Int) h4 (by simp only [numS, if_pos (show 4 ≤ bs.length ∧ val (bs.take 4) ≤ 1000000000 from ⟨by omega, hv'⟩)]) ?_
        exact portG.2 ⟨a', n - 4, c', ⟨by simp [hn], e2, e3, fun x hx => h8 x (List.mem_of_mem_drop hx), g'⟩, H4⟩
      · rintro ⟨_, hle⟩
        have : ¬ ((val (bs.take 4) : Nat) : Int) ≤ 1000000000 := by simpa using hv
        omega
theorem short_h {pb rb off : Nat} {t : TypeId} {xs : List Value} {x : Int} {put : Bool} {bs : List Nat} (H : Hs h (portA L pb put bs :: pt rb t xs :: M)) (hM : ∀ h, Hs h M → Hs h L) (hx : xs[off]? = some (.int .i64 x)) (hb : bs.length < 2 ^ 40) (h16 : put = true → 0 ≤ x ∧ x < 65536)
    (kk : ∀ bs' x' h', shortS put bs x = .ok (bs', x') → Hs h' (portA L pb put bs' :: pt rb t (xs.set off (.int .i64 x')) :: M) → Q (.tuple #[]) h')
    (kx : ∀ e h', shortS put bs x = .error e → Hs h' (pt rb t xs :: M) → X (endV e) h') : SpecT PP F_wire_port_short [.pointer (some ⟨pb, 0, none⟩), .pointer (some ⟨rb, off, none⟩)] h Q X := by
  have hoff : off < xs.length := (List.getElem?_eq_some_iff.1 hx).1
  refine wire_port_short.door ?_
  cases put with
  | true =>
    obtain ⟨a, n, c, H⟩ := portP.1 H
    have hn : bs.length = n := by have := H.m1.own_len; simpa [nV_len] using this
    have Rx : cellH h ⟨rb, off, none⟩ = some (.int .i64 x) := H.m2.cell hx
    obtain ⟨h0, h1⟩ := h16 rfl
    obtain ⟨k, rfl⟩ := Int.eq_ofNat_of_zero_le h0
    refine ⟨true, H.cell (off := 1) rfl, br_true rfl ?_⟩
    refine ⟨_, _, _, H.cell (off := 0) rfl, _, Rx, ?_⟩
    dsimp only
    rw [wrap_u16_id (by omega)]
    have g : Gv (own a n c T_uint8 1 (nV bs) :: pt pb T_wire_port (port a n c true) :: pt rb t xs :: M) a (nV bs) := Gv.own
    refine put16_h g hn (fun ha => H.m1.Own.none_zero ha) (by omega) (by omega) H.m1 ?_
    intro h2 a2 c2 H2
    refine ⟨_, _, _, rfl, ?_⟩
    refine H2.m2.sto (off := 0) (by simp) ?_
    intro h3 H3
    refine kk (bs ++ dig k 2) k h3 (by simp [shortS]) ?_
    rw [set_same hx]
    exact portP.2 ⟨a2, n + 2, c2, H3.sel 4 [0, 1, 3]⟩
  | false =>
    obtain ⟨a, n, c, ⟨hn, hnc, hn0, h8, g⟩, H⟩ := portG.1 H
    have gM : Gv M a (nV bs) := fun h H => g h (hM h H)
    refine ⟨false, H.cell (off := 1) rfl, br_false rfl ?_⟩
    refine ⟨_, _, _, H.cell (off := 0) rfl, ?_⟩
    refine get16_h (gM.cons.cons) hn hnc hn0 (by omega) h8 H ?_ ?_
    · intro hlt h2 H2
      refine ⟨_, _, rfl, ?_⟩
      exact is_h (fun hb => by cases hb) fun _ => kx 190 _ (by simp only [shortS, if_neg (show ¬ 2 ≤ bs.length by omega)]) H2.tl
    · intro hge h2 H2
      refine ⟨_, _, rfl, ?_⟩
      refine is_h (fun hv => ⟨rfl, ?_⟩) fun hv => by cases hv
      have hvl : val (bs.take 2) < 256 ^ 2 := Nat.lt_of_lt_of_le (val_lt fun x hx => h8 x (List.mem_of_mem_take hx)) (Nat.pow_le_pow_right (by decide) (by simp; omega))
      dsimp only
      rw [wrap_i64_z (by omega) (by omega)]
      refine H2.m1.sto (off := off) hoff ?_
      intro h3 H3
      refine ⟨_, _, _, H3.m1.cell (off := 0) rfl, ?_⟩
      refine bytes_tailG (i := 2) E_sl_uint8 g hn hnc hn0 (by omega) ?_
      intro a' c' g' e1 e2 e3
      refine ⟨_, _, _, rfl, ?_⟩
      refine H3.m1.sto (off := 0) (by simp) ?_
      intro h4 H4
      refine kk (bs.drop 2) ((val (bs.take 2) : Nat) : Int) h4 (by simp only [shortS, if_pos (show 2 ≤ bs.length by omega)]) ?_
      exact portG.2 ⟨a', n - 2, c', ⟨by simp [hn], e2, e3, fun x hx => h8 x (List.mem_of_mem_drop hx), g'⟩, H4⟩
theorem small_h {pb rb off : Nat} {t : TypeId} {xs : List Value} {x : Int} {put : Bool} {bs : List Nat} (H : Hs h (portA L pb put bs :: pt rb t xs :: M)) (hM : ∀ h, Hs h M → Hs h L) (hx : xs[off]? = some (.int .i64 x)) (hb : bs.length < 2 ^ 40) (h16 : put = true → 0 ≤ x ∧ x < 256)
    (kk : ∀ bs' x' h', smallS put bs x = .ok (bs', x') → Hs h' (portA L pb put bs' :: pt rb t (xs.set off (.int .i64 x')) :: M) → Q (.tuple #[]) h')
    (kx : ∀ e h', smallS put bs x = .error e → Hs h' (pt rb t xs :: M) → X (endV e) h') : SpecT PP F_wire_port_small [.pointer (some ⟨pb, 0, none⟩), .pointer (some ⟨rb, off, none⟩)] h Q X := by
  have hoff : off < xs.length := (List.getElem?_eq_some_iff.1 hx).1
  refine wire_port_small.door ?_
  cases put with
  | true =>
    obtain ⟨a, n, c, H⟩ := portP.1 H
    have hn : bs.length = n := by have := H.m1.own_len; simpa [nV_len] using this
    have Rx : cellH h ⟨rb, off, none⟩ = some (.int .i64 x) := H.m2.cell hx
    obtain ⟨h0, h1⟩ := h16 rfl
    obtain ⟨k, rfl⟩ := Int.eq_ofNat_of_zero_le h0
    refine ⟨true, H.cell (off := 1) rfl, br_true rfl ?_⟩
    refine ⟨_, _, _, H.cell (off := 0) rfl, _, Rx, ?_⟩
    dsimp only
    rw [wrap_u8_id (by omega)]
    refine H.m1.app_vals (ys := nV [k]) (m := 1) E_sl_uint8 rfl rfl (nV_one _) ?_ (by omega) (by omega)
    intro h2 a2 c2 H2
    refine ⟨_, _, _, rfl, ?_⟩
    refine H2.m1.sto (off := 0) (by simp) ?_
    intro h3 H3
    refine kk (bs ++ [k]) k h3 (by simp [smallS]) ?_
    rw [set_same hx]
    rw [← nV_app] at H3
    exact portP.2 ⟨a2, n + 1, c2, H3⟩
  | false =>
    obtain ⟨a, n, c, ⟨hn, hnc, hn0, h8, g⟩, Hp⟩ := portG.1 H
    replace H := Hp
    clear Hp
    have gM : Gv M a (nV bs) := fun h H => g h (hM h H)
    refine ⟨false, H.cell (off := 1) rfl, br_false rfl ?_⟩
    refine ⟨_, _, _, H.cell (off := 0) rfl, ?_⟩
    refine is_h (fun hv => ⟨rfl, ?_⟩) fun hv => kx 190 _ ?_ H.tl
    · have hpos : 0 < n := by have : (0 : Int) < n := by simpa using hv
                              omega
      cases bs with
      | nil => simp at hn; omega
      | cons b l =>
        refine ⟨_, _, _, H.cell (off := 0) rfl, ?_⟩
        refine idx E_sl_uint8 (gM _ H.tl.tl) (by omega) (by omega) (v := .int .u8 (b : Nat)) (by simp [nV]) ?_
        intro t' ht
        refine ⟨_, ht, ?_⟩
        have hb8 := h8 b (by simp)
        dsimp only
        rw [wrap_i64_z (by omega) (by omega)]
        refine H.m1.sto (off := off) hoff ?_
        intro h3 H3
        refine ⟨_, _, _, H3.m1.cell (off := 0) rfl, ?_⟩
        refine bytes_tailG (i := 1) E_sl_uint8 g hn hnc hn0 (by omega) ?_
        intro a' c' g' e1 e2 e3
        refine ⟨_, _, _, rfl, ?_⟩
        refine H3.m1.sto (off := 0) (by simp) ?_
        intro h4 H4
        refine kk l _ h4 rfl ?_
        simp at hn
        exact portG.2 ⟨a', n - 1, c', ⟨by omega, e2, e3, fun x hx => h8 x (by simp [hx]), by simpa using g'⟩, H4⟩
    · have : ¬ (0 : Int) < n := by simpa using hv
      have : bs = [] := List.eq_nil_of_length_eq_zero (by omega)
      subst this; rfl
theorem bytes_h {pb rb off k : Nat} {t : TypeId} {xs : List Value} {s : ByteArray} {put : Bool} {bs : List Nat} (H : Hs h (portA L pb put bs :: pt rb t xs :: M)) (hM : ∀ h, Hs h M → Hs h L) (hx : xs[off]? = some (.string s)) (hb : bs.length < 2 ^ 40) (h16 : put = true → s.size < 2 ^ 40)
    (kk : ∀ bs' s' h', bytesS put bs s k = .ok (bs', s') → Hs h' (portA L pb put bs' :: pt rb t (xs.set off (.string s')) :: M) → Q (.tuple #[]) h')
    (kx : ∀ e h', bytesS put bs s k = .error e → Hs h' (pt rb t xs :: M) → X (endV e) h') : SpecT PP F_wire_port_bytes [.pointer (some ⟨pb, 0, none⟩), .pointer (some ⟨rb, off, none⟩), .int .i64 (k : Int)] h Q X := by
  have hoff : off < xs.length := (List.getElem?_eq_some_iff.1 hx).1
  refine wire_port_bytes.door ?_
  cases put with
  | true =>
    obtain ⟨a, n, c, H⟩ := portP.1 H
    have hn : bs.length = n := by have := H.m1.own_len; simpa [nV_len] using this
    have Rx : cellH h ⟨rb, off, none⟩ = some (.string s) := H.m2.cell hx
    have hs := h16 rfl
    refine ⟨true, H.cell (off := 1) rfl, br_true rfl ?_⟩
    refine ⟨_, _, _, H.cell (off := 0) rfl, _, Rx, ?_⟩
    refine H.m1.app_str E_sl_uint8 U_string ?_ (by omega) (by omega)
    intro h2 a2 c2 H2
    refine ⟨_, _, _, rfl, ?_⟩
    refine H2.m1.sto (off := 0) (by simp) ?_
    intro h3 H3
    refine kk (bs ++ sb s) s h3 (by simp [bytesS]) ?_
    rw [set_same hx]
    rw [strV_nV, ← nV_app] at H3
    exact portP.2 ⟨a2, _, c2, H3⟩
  | false =>
    obtain ⟨a, n, c, ⟨hn, hnc, hn0, h8, g⟩, H⟩ := portG.1 H
    have gM : Gv M a (nV bs) := fun h H => g h (hM h H)
    refine ⟨false, H.cell (off := 1) rfl, br_false rfl ?_⟩
    refine ⟨_, _, _, H.cell (off := 0) rfl, ?_⟩
    refine is_h (fun hv => ⟨rfl, ?_⟩) fun hv => kx 190 _ ?_ H.tl
    · have hle : k ≤ n := by have : (k : Int) ≤ n := by simpa using hv
                             omega
      refine ⟨_, _, _, H.cell (off := 0) rfl, ?_⟩
      refine cutG (lo := none) (hi := some (.int .i64 (k : Int))) (i := 0) (j := k) E_sl_uint8 gM hn hnc hn0 (by omega) hle rfl rfl ?_
      intro a1 c1 g1 e1 e2 e3
      simp only [Nat.sub_zero, List.drop_zero] at g1 e1 e2 ⊢
      refine ⟨_, _, _, rfl, ?_⟩
      refine hwp_b2s U_string U_sl_uint8 U_uint8 (g1 _ H.tl.tl) (by simp [hn, hle]) e1 ?_
      refine ⟨_, rfl, ?_⟩
      refine H.m1.sto (off := off) hoff ?_
      intro h3 H3
      refine ⟨_, _, _, H3.m1.cell (off := 0) rfl, ?_⟩
      refine bytes_tailG (i := k) E_sl_uint8 g hn hnc hn0 hle ?_
      intro a' c' g' e1 e2 e3
      refine ⟨_, _, _, rfl, ?_⟩
      refine H3.m1.sto (off := 0) (by simp) ?_
      intro h4 H4
      refine kk (bs.drop k) (st (bs.take k)) h4 (by simp only [bytesS, if_pos (show k ≤ bs.length by omega)]) ?_
      exact portG.2 ⟨a', n - k, c', ⟨by simp [hn], e2, e3, fun x hx => h8 x (List.mem_of_mem_drop hx), g'⟩, H4⟩
    · have : ¬ (k : Int) ≤ n := by simpa using hv
      simp only [bytesS, if_neg (show ¬ k ≤ bs.length by omega)]
theorem text_h {pb rb off most : Nat} {t : TypeId} {xs : List Value} {s : ByteArray} {put : Bool} {bs : List Nat} (H : Hs h (portA L pb put bs :: pt rb t xs :: M)) (hM : ∀ h, Hs h M → Hs h L) (hx : xs[off]? = some (.string s)) (hb : bs.length < 2 ^ 38) (hm : most < 65536) (hss : s.size < 2 ^ 62)
    (kk : ∀ bs' s' h', textS put bs s most = .ok (bs', s') → Hs h' (portA L pb put bs' :: pt rb t (xs.set off (.string s')) :: M) → Q (.tuple #[]) h')
    (kx : ∀ e h', textS put bs s most = .error e → Hs h' (pt rb t xs :: M) → X (endV e) h') : SpecT PP F_wire_port_text [.pointer (some ⟨pb, 0, none⟩), .pointer (some ⟨rb, off, none⟩), .int .i64 (most : Int)] h Q X := by
  refine wire_port_text.door ?_
  refine ⟨s, H.m1.cell hx, ?_⟩
  dsimp only
  have H1 := H.new (t := T_int) (cs := #[.int .i64 0]) (xs := [.int .i64 0])
  refine H1.sto (off := 0) (by simp) ?_
  intro h2 H2
  replace H2 : Hs h2 (pt h.size T_int [.int .i64 (s.size : Int)] :: portA L pb put bs :: pt rb t xs :: M) := H2
  have main : (put = true → s.size ≤ most) → wire_port_text.J1 (some ⟨pb, 0, none⟩) (some ⟨rb, off, none⟩) (most : Int) ⟨h.size, 0, none⟩ Q X h2 := by
    intro hp
    refine wire_port_text.J1_of ?_
    refine short_h (M := pt rb t xs :: M) (H2.sel 3 [1, 0, 2]) (fun h H => hM h H.tl) (off := 0) rfl (by omega) (fun h => by have := hp h; omega) ?_ ?_
    · intro bs1 x1 h3 e1 H3
      refine ⟨rfl, _, H3.m1.cell (off := 0) rfl, ?_⟩
      dsimp only
      refine is_h (fun hv => ⟨rfl, ?_⟩) fun hv => ?_
      · replace H3 : Hs h3 (portA L pb put bs1 :: pt h.size T_int [.int .i64 x1] :: pt rb t xs :: M) := H3
        refine ⟨_, H3.m1.cell (off := 0) rfl, ?_⟩
        have hx0 : 0 ≤ x1 := by
          cases put with
          | true => simp only [shortS, Except.ok.injEq, Prod.mk.injEq] at e1; omega
          | false => simp only [shortS] at e1; split at e1 <;> simp at e1; omega
        obtain ⟨k, rfl⟩ := Int.eq_ofNat_of_zero_le hx0
        have hle : k ≤ most := by have : (k : Int) ≤ most := by simpa using hv
                                  omega
        refine bytes_h (M := pt h.size T_int [.int .i64 k] :: M) (H3.sel 3 [0, 2, 1]) (fun h H => hM h H.tl) hx ?_ (fun h => by have := hp h; omega) ?_ ?_
        · cases put with
          | true => simp only [shortS, Except.ok.injEq, Prod.mk.injEq] at e1; rw [← e1.1]; simp [dig_len]; omega
          | false => simp only [shortS] at e1; split at e1 <;> simp at e1; rw [← e1.1]; simp; omega
        · intro bs2 s2 h4 e2 H4
          refine ⟨rfl, kk bs2 s2 h4 ?_ (H4.sel 3 [0, 1])⟩
          cases put with
          | true =>
            simp only [shortS, bytesS, Except.ok.injEq, Prod.mk.injEq] at e1 e2
            simp only [textS, if_pos (hp rfl)]
            rw [← e2.1, ← e2.2, ← e1.1]; simp
          | false =>
            simp only [shortS, bytesS] at e1 e2
            split at e1 <;> simp only [Except.ok.injEq, Prod.mk.injEq, reduceCtorEq] at e1
            split at e2 <;> simp only [Except.ok.injEq, Prod.mk.injEq, reduceCtorEq] at e2
            rename_i q1 q2
            obtain ⟨rfl, e1⟩ := e1
            have : k = val (bs.take 2) := by omega
            subst this
            simp only [textS, if_pos (show 2 ≤ bs.length ∧ val (bs.take 2) ≤ most ∧ val (bs.take 2) ≤ (bs.drop 2).length from ⟨q1, hle, q2⟩)]
            rw [← e2.1, ← e2.2]
        · intro e h4 e2 H4
          refine kx e h4 ?_ (H4.sel 2 [0])
          cases put with
          | true => simp [bytesS] at e2
          | false =>
            simp only [shortS, bytesS] at e1 e2
            split at e1 <;> simp only [Except.ok.injEq, Prod.mk.injEq, reduceCtorEq] at e1
            split at e2 <;> simp only [Except.error.injEq, reduceCtorEq] at e2
            rename_i q1 q2
            obtain ⟨rfl, e1⟩ := e1
            have : k = val (bs.take 2) := by omega
            subst this
            simp only [textS, if_neg (show ¬ (2 ≤ bs.length ∧ val (bs.take 2) ≤ most ∧ val (bs.take 2) ≤ (bs.drop 2).length) from fun q => q2 q.2.2)]
            rw [e2]
      · refine kx 190 h3 ?_ H3.tl.tl
        have hv' : ¬ x1 ≤ most := by simpa using hv
        cases put with
        | true =>
          simp only [shortS, Except.ok.injEq, Prod.mk.injEq] at e1
          have := hp rfl
          omega
        | false =>
          simp only [shortS] at e1
          split at e1 <;> simp only [Except.ok.injEq, Prod.mk.injEq, reduceCtorEq] at e1
          simp only [textS]
          rw [if_neg]
          rintro ⟨_, q, _⟩
          omega
    · intro e h3 e1 H3
      refine kx e h3 ?_ H3.tl
      cases put with
      | true => simp [shortS] at e1
      | false =>
        simp only [shortS] at e1
        split at e1 <;> simp only [Except.error.injEq, reduceCtorEq] at e1
        rename_i q1
        simp only [textS, if_neg (show ¬ (2 ≤ bs.length ∧ val (bs.take 2) ≤ most ∧ val (bs.take 2) ≤ (bs.drop 2).length) from fun q => q1 q.1)]
        rw [e1]
  cases put with
  | true =>
    obtain ⟨a, n, c, H3⟩ := portP.1 H2.m1
    refine ⟨true, H3.cell (off := 1) rfl, br_false rfl ?_⟩
    refine ⟨_, H2.cell (off := 0) rfl, ?_⟩
    refine is_h (fun hv => ⟨rfl, main fun _ => ?_⟩) fun hv => kx 2 h2 ?_ H2.tl.tl
    · have : (s.size : Int) ≤ most := by simpa using hv
      omega
    · have : ¬ (s.size : Int) ≤ most := by simpa using hv
      simp only [textS, if_neg (show ¬ s.size ≤ most by omega)]
  | false =>
    obtain ⟨a, n, c, f, H3⟩ := portG.1 H2.m1
    refine ⟨false, H3.cell (off := 1) rfl, br_true rfl ?_⟩
    exact is_h (fun hv => ⟨rfl, main fun h => by cases h⟩) fun hv => by cases hv
end Go.Proofs.Ytnidhafhgclakaa

set_option linter.unusedVariables false
set_option linter.unusedSimpArgs false
namespace Go.Proofs.Ytnidhafhgclakaa
open Go Go.HW
variable {h : Heap} {L M : List Assn} {Q X : Value → Heap → Prop}
structure Req where
  kind : Int
  txn : Int
  archive : ByteArray
  entry : ByteArray
  data : ByteArray
  frm : Int
  most : Int
  token : ByteArray
def Req.l (r : Req) : List Value := [.int .i64 r.kind, .int .i64 r.txn, .string r.archive, .string r.entry, .string r.data, .int .i64 r.frm, .int .i64 r.most, .string r.token]
def Req.v (r : Req) : Value := .agg #[.int .i64 r.kind, .int .i64 r.txn, .string r.archive, .string r.entry, .string r.data, .int .i64 r.frm, .int .i64 r.most, .string r.token]
def Req.zero : Req := ⟨0, 0, ⟨#[]⟩, ⟨#[]⟩, ⟨#[]⟩, 0, 0, ⟨#[]⟩⟩
structure RS where
  bs : List Nat
  r : Req
  q : Req
abbrev RF' := RS → Except Int RS
def Req.szs (r : Req) : Prop := r.archive.size < 2 ^ 62 ∧ r.entry.size < 2 ^ 62 ∧ r.data.size < 2 ^ 62 ∧ r.token.size < 2 ^ 62
def fTxn (put : Bool) : RF' := fun s => match numS put s.bs s.r.txn with
  | .ok (bs, x) => .ok ⟨bs, { s.r with txn := x }, { s.q with txn := 0 }⟩
  | .error e => .error e
def fPart (put : Bool) : RF' := fun s => match numS put s.bs s.r.frm with
  | .ok (b1, x) => match numS put b1 s.r.most with
    | .ok (b2, y) => .ok ⟨b2, { s.r with frm := x, most := y }, { s.q with frm := 0, most := 0 }⟩
    | .error e => .error e
  | .error e => .error e
def fArch (put : Bool) : RF' := fun s => match textS put s.bs s.r.archive 255 with
  | .ok (bs, x) => .ok ⟨bs, { s.r with archive := x }, { s.q with archive := ⟨#[]⟩ }⟩
  | .error e => .error e
def fEnt (put : Bool) : RF' := fun s => match textS put s.bs s.r.entry 255 with
  | .ok (bs, x) => .ok ⟨bs, { s.r with entry := x }, { s.q with entry := ⟨#[]⟩ }⟩
  | .error e => .error e
def fDat (put : Bool) : RF' := fun s => match textS put s.bs s.r.data 16384 with
  | .ok (bs, x) => .ok ⟨bs, { s.r with data := x }, { s.q with data := ⟨#[]⟩ }⟩
  | .error e => .error e
def fTok (put : Bool) : RF' := fun s => match textS put s.bs s.r.token 256 with
  | .ok (bs, x) => .ok ⟨bs, { s.r with token := x }, { s.q with token := ⟨#[]⟩ }⟩
  | .error e => .error e
theorem numS_len {put : Bool} {bs bs' : List Nat} {x x' : Int} (e : numS put bs x = .ok (bs', x')) : bs'.length ≤ bs.length + 65536 := by
  cases put <;> simp only [numS] at e <;> split at e <;> simp only [Except.ok.injEq, Prod.mk.injEq, reduceCtorEq] at e <;> rw [← e.1] <;> simp [dig_len] <;> omega
theorem textS_len {put : Bool} {bs bs' : List Nat} {s s' : ByteArray} {most : Nat} (hm : most ≤ 16384) (hs : s.size < 2 ^ 62) (e : textS put bs s most = .ok (bs', s')) : bs'.length ≤ bs.length + 65536 ∧ s'.size < 2 ^ 62 := by
  cases put <;> simp only [textS] at e <;> split at e <;> simp only [Except.ok.injEq, Prod.mk.injEq, reduceCtorEq] at e <;> rw [← e.1, ← e.2]
  · exact ⟨by simp; omega, by rw [st_size]; simp; omega⟩
  · exact ⟨by simp [dig_len, sb_len]; omega, hs⟩
/-- What a field's step keeps. -/
def Keeps (f : RF') : Prop := ∀ s s', f s = .ok s' → s.r.szs → s'.bs.length ≤ s.bs.length + 131072 ∧ s'.r.szs
theorem keeps_txn (put : Bool) : Keeps (fTxn put) := by
  intro s s' e hs
  unfold fTxn at e
  split at e <;> simp only [Except.ok.injEq, reduceCtorEq] at e
  rename_i q
  subst e
  exact ⟨by have := numS_len q; dsimp only; omega, hs⟩
theorem keeps_part (put : Bool) : Keeps (fPart put) := by
  intro s s' e hs
  unfold fPart at e
  split at e <;> simp only [reduceCtorEq] at e
  rename_i q
  split at e <;> simp only [Except.ok.injEq, reduceCtorEq] at e
  rename_i q2
  subst e
  exact ⟨by have := numS_len q; have := numS_len q2; dsimp only; omega, hs⟩
theorem keeps_arch (put : Bool) : Keeps (fArch put) := by
  intro s s' e hs
  unfold fArch at e
  split at e <;> simp only [Except.ok.injEq, reduceCtorEq] at e
  rename_i q
  subst e
  have k := textS_len (by decide) hs.1 q
  exact ⟨by dsimp only; omega, k.2, hs.2.1, hs.2.2.1, hs.2.2.2⟩
theorem keeps_ent (put : Bool) : Keeps (fEnt put) := by
  intro s s' e hs
  unfold fEnt at e
  split at e <;> simp only [Except.ok.injEq, reduceCtorEq] at e
  rename_i q
  subst e
  have k := textS_len (by decide) hs.2.1 q
  exact ⟨by dsimp only; omega, hs.1, k.2, hs.2.2.1, hs.2.2.2⟩
theorem keeps_dat (put : Bool) : Keeps (fDat put) := by
  intro s s' e hs
  unfold fDat at e
  split at e <;> simp only [Except.ok.injEq, reduceCtorEq] at e
  rename_i q
  subst e
  have k := textS_len (by decide) hs.2.2.1 q
  exact ⟨by dsimp only; omega, hs.1, hs.2.1, k.2, hs.2.2.2⟩
theorem keeps_tok (put : Bool) : Keeps (fTok put) := by
  intro s s' e hs
  unfold fTok at e
  split at e <;> simp only [Except.ok.injEq, reduceCtorEq] at e
  rename_i q
  subst e
  have k := textS_len (by decide) hs.2.2.2 q
  exact ⟨by dsimp only; omega, hs.1, hs.2.1, hs.2.2.1, k.2⟩

/-! ### The places -/
def bxs (b1 b2 b3 pb rb sb : Nat) : List Assn := [pt b1 T_p_wire_port [.pointer (some ⟨pb, 0, none⟩)], pt b2 T_p_api_Request [.pointer (some ⟨rb, 0, none⟩)], pt b3 T_p_api_Request [.pointer (some ⟨sb, 0, none⟩)]]
abbrev Pl (L : List Assn) (pb rb sb : Nat) (put : Bool) (s : RS) (M : List Assn) : List Assn := portA L pb put s.bs :: pt rb T_api_Request s.r.l :: pt sb T_api_Request s.q.l :: M
abbrev A3 (b1 b2 b3 pb rb sb : Nat) (M : List Assn) : List Assn := pt b1 T_p_wire_port [.pointer (some ⟨pb, 0, none⟩)] :: pt b2 T_p_api_Request [.pointer (some ⟨rb, 0, none⟩)] :: pt b3 T_p_api_Request [.pointer (some ⟨sb, 0, none⟩)] :: M
theorem callT_of {P : Program} {f : FuncId} {a b : Array Value} {args : List Value} {K X : Value → Heap → Prop} (hc : callable P f = true) (H : SpecT P f (a.toList ++ args ++ b.toList) h K X) : callT P (.func (.func f) a b) args K X h := by
  unfold callT; simp only [hc]; exact H
/-- A closure does a field's step. -/
def Cl (L : List Assn) (put : Bool) (b1 b2 b3 pb rb sb : Nat) (v : Value) (f : RF') : Prop :=
  ∀ {M : List Assn} {s : RS} {h : Heap} {Q X : Value → Heap → Prop}, Hs h (Pl L pb rb sb put s (A3 b1 b2 b3 pb rb sb M)) → (∀ h, Hs h M → Hs h L) → s.bs.length < 2 ^ 36 → s.r.szs →
    (∀ s' h', f s = .ok s' → Hs h' (Pl L pb rb sb put s' (A3 b1 b2 b3 pb rb sb M)) → Q (.tuple #[]) h') →
    (∀ e r' q' h', f s = .error e → Hs h' (pt rb T_api_Request (Req.l r') :: pt sb T_api_Request (Req.l q') :: M) → X (endV e) h') → callT PP v [] Q X h
abbrev clV (f : FuncId) (b1 b2 b3 : Nat) : Value := .func (.func f) #[] #[.pointer (some ⟨b1, 0, none⟩), .pointer (some ⟨b2, 0, none⟩), .pointer (some ⟨b3, 0, none⟩)]
variable {put : Bool} {b1 b2 b3 pb rb sb : Nat}
theorem cl_txn : Cl L put b1 b2 b3 pb rb sb (clV F_wire_port_request_1 b1 b2 b3) (fTxn put) := by
  intro M s h Q X H hM hb hs kk kx
  refine callT_of (by kernel_rfl) (wire_port_request_1.door ?_)
  refine ⟨_, (H.sel 6 [3, 0, 1, 2, 4, 5]).cell (off := 0) rfl, _, (H.sel 6 [4, 0, 1, 2, 3, 5]).cell (off := 0) rfl, ?_⟩
  refine number_h (rb := rb) (off := 1) (t := T_api_Request) (xs := s.r.l) (x := s.r.txn) H (fun h H => hM h H.tl.tl.tl.tl) rfl (by omega) ?_ ?_
  · intro bs x h2 e H2
    refine ⟨rfl, _, (H2.sel 6 [5, 0, 1, 2, 3, 4]).cell (off := 0) rfl, ?_⟩
    refine H2.m2.sto (off := 1) (by simp [Req.l]) ?_
    intro h3 H3
    refine kk ⟨bs, { s.r with txn := x }, { s.q with txn := 0 }⟩ h3 (by simp [fTxn, e]) ?_
    exact H3.r2
  · intro e h2 e1 H2
    exact kx e s.r s.q h2 (by simp [fTxn, e1]) (H2.sel 5 [0, 1])
theorem cl_part : Cl L put b1 b2 b3 pb rb sb (clV F_wire_port_request_5 b1 b2 b3) (fPart put) := by
  intro M s h Q X H hM hb hs kk kx
  refine callT_of (by kernel_rfl) (wire_port_request_5.door ?_)
  refine ⟨_, (H.sel 6 [3, 0, 1, 2, 4, 5]).cell (off := 0) rfl, _, (H.sel 6 [4, 0, 1, 2, 3, 5]).cell (off := 0) rfl, ?_⟩
  refine number_h (rb := rb) (off := 5) (t := T_api_Request) (xs := s.r.l) (x := s.r.frm) H (fun h H => hM h H.tl.tl.tl.tl) rfl (by omega) ?_ ?_
  · intro bs x h2 e H2
    replace H2 : Hs h2 (portA L pb put bs :: pt rb T_api_Request (Req.l { s.r with frm := x }) :: pt sb T_api_Request s.q.l :: A3 b1 b2 b3 pb rb sb M) := H2
    refine ⟨rfl, _, (H2.sel 6 [3, 0, 1, 2, 4, 5]).cell (off := 0) rfl, _, (H2.sel 6 [4, 0, 1, 2, 3, 5]).cell (off := 0) rfl, ?_⟩
    refine number_h (rb := rb) (off := 6) (t := T_api_Request) (x := s.r.most) H2 (fun h H => hM h H.tl.tl.tl.tl) rfl (by have := numS_len e; omega) ?_ ?_
    · intro b2' y h3 e2 H3
      replace H3 : Hs h3 (portA L pb put b2' :: pt rb T_api_Request (Req.l { s.r with frm := x, most := y }) :: pt sb T_api_Request s.q.l :: A3 b1 b2 b3 pb rb sb M) := H3
      refine ⟨rfl, _, (H3.sel 6 [5, 0, 1, 2, 3, 4]).cell (off := 0) rfl, ?_⟩
      have fin : ∀ h5, Hs h5 (pt sb T_api_Request (Req.l { s.q with frm := 0, most := 0 }) :: portA L pb put b2' :: pt rb T_api_Request (Req.l { s.r with frm := x, most := y }) :: A3 b1 b2 b3 pb rb sb M) → Q (.tuple #[]) h5 := fun h5 H5 =>
        kk ⟨b2', { s.r with frm := x, most := y }, { s.q with frm := 0, most := 0 }⟩ h5 (by simp [fPart, e, e2]) H5.r2
      refine ⟨⟨_, (H3.sel 6 [5, 0, 1, 2, 3, 4]).cell (off := 0) rfl, ?_⟩, ?_, trivial⟩
      · refine H3.m2.sto (off := 5) (by simp [Req.l]) fun h4 H4 => ?_
        exact H4.sto (off := 6) (by simp [Req.l]) fun h5 H5 => fin h5 H5
      · refine H3.m2.sto (off := 5) (by simp [Req.l]) fun h4 H4 => ?_
        refine ⟨_, (H4.sel 6 [5, 0, 1, 2, 3, 4]).cell (off := 0) rfl, ?_⟩
        exact H4.sto (off := 6) (by simp [Req.l]) fun h5 H5 => fin h5 H5
    · intro e' h3 e2 H3
      exact kx e' { s.r with frm := x } s.q h3 (by simp [fPart, e, e2]) (H3.sel 5 [0, 1])
  · intro e h2 e1 H2
    exact kx e s.r s.q h2 (by simp [fPart, e1]) (H2.sel 5 [0, 1])
theorem cl_archive : Cl L put b1 b2 b3 pb rb sb (clV F_wire_port_request_2 b1 b2 b3) (fArch put) := by
  intro M s h Q X H hM hb hs kk kx
  refine callT_of (by kernel_rfl) (wire_port_request_2.door ?_)
  refine ⟨_, (H.sel 6 [3, 0, 1, 2, 4, 5]).cell (off := 0) rfl, _, (H.sel 6 [4, 0, 1, 2, 3, 5]).cell (off := 0) rfl, ?_⟩
  refine text_h (rb := rb) (off := 2) (t := T_api_Request) (xs := s.r.l) (s := s.r.archive) (most := 255) H (fun h H => hM h H.tl.tl.tl.tl) rfl (by omega) (by decide) hs.1 ?_ ?_
  · intro bs x h2 e H2
    refine ⟨rfl, _, (H2.sel 6 [5, 0, 1, 2, 3, 4]).cell (off := 0) rfl, ?_⟩
    refine H2.m2.sto (off := 2) (by simp [Req.l]) ?_
    intro h3 H3
    refine kk ⟨bs, { s.r with archive := x }, { s.q with archive := ⟨#[]⟩ }⟩ h3 (by simp [fArch, e]) ?_
    exact H3.r2
  · intro e h2 e1 H2
    exact kx e s.r s.q h2 (by simp [fArch, e1]) (H2.sel 5 [0, 1])
theorem cl_entry : Cl L put b1 b2 b3 pb rb sb (clV F_wire_port_request_3 b1 b2 b3) (fEnt put) := by
  intro M s h Q X H hM hb hs kk kx
  refine callT_of (by kernel_rfl) (wire_port_request_3.door ?_)
  refine ⟨_, (H.sel 6 [3, 0, 1, 2, 4, 5]).cell (off := 0) rfl, _, (H.sel 6 [4, 0, 1, 2, 3, 5]).cell (off := 0) rfl, ?_⟩
  refine text_h (rb := rb) (off := 3) (t := T_api_Request) (xs := s.r.l) (s := s.r.entry) (most := 255) H (fun h H => hM h H.tl.tl.tl.tl) rfl (by omega) (by decide) hs.2.1 ?_ ?_
  · intro bs x h2 e H2
    refine ⟨rfl, _, (H2.sel 6 [5, 0, 1, 2, 3, 4]).cell (off := 0) rfl, ?_⟩
    refine H2.m2.sto (off := 3) (by simp [Req.l]) ?_
    intro h3 H3
    refine kk ⟨bs, { s.r with entry := x }, { s.q with entry := ⟨#[]⟩ }⟩ h3 (by simp [fEnt, e]) ?_
    exact H3.r2
  · intro e h2 e1 H2
    exact kx e s.r s.q h2 (by simp [fEnt, e1]) (H2.sel 5 [0, 1])
theorem cl_data : Cl L put b1 b2 b3 pb rb sb (clV F_wire_port_request_4 b1 b2 b3) (fDat put) := by
  intro M s h Q X H hM hb hs kk kx
  refine callT_of (by kernel_rfl) (wire_port_request_4.door ?_)
  refine ⟨_, (H.sel 6 [3, 0, 1, 2, 4, 5]).cell (off := 0) rfl, _, (H.sel 6 [4, 0, 1, 2, 3, 5]).cell (off := 0) rfl, ?_⟩
  refine text_h (rb := rb) (off := 4) (t := T_api_Request) (xs := s.r.l) (s := s.r.data) (most := 16384) H (fun h H => hM h H.tl.tl.tl.tl) rfl (by omega) (by decide) hs.2.2.1 ?_ ?_
  · intro bs x h2 e H2
    refine ⟨rfl, _, (H2.sel 6 [5, 0, 1, 2, 3, 4]).cell (off := 0) rfl, ?_⟩
    refine H2.m2.sto (off := 4) (by simp [Req.l]) ?_
    intro h3 H3
    refine kk ⟨bs, { s.r with data := x }, { s.q with data := ⟨#[]⟩ }⟩ h3 (by simp [fDat, e]) ?_
    exact H3.r2
  · intro e h2 e1 H2
    exact kx e s.r s.q h2 (by simp [fDat, e1]) (H2.sel 5 [0, 1])

/-! ### One behind the other -/
def runL : List RF' → RF'
  | [], s => .ok s
  | f :: fs, s => match f s with
    | .ok s' => runL fs s'
    | .error e => .error e
inductive Cls (L : List Assn) (put : Bool) (b1 b2 b3 pb rb sb : Nat) : List Value → List RF' → Prop
  | nil : Cls L put b1 b2 b3 pb rb sb [] []
  | cons {v : Value} {f : RF'} {vs : List Value} {fs : List RF'} (h : Cl L put b1 b2 b3 pb rb sb v f) (k : Keeps f) (l : Cls L put b1 b2 b3 pb rb sb vs fs) : Cls L put b1 b2 b3 pb rb sb (v :: vs) (f :: fs)
theorem all_loop {K : Ex → Fr → Heap → Prop} {bl n : Nat} {all : List Value} (hn : all.length = n) (hlt : n < 2 ^ 60) (kp : ∀ v h, X v h → K (.pan v) (wire_port_request_6.Xpan) h) (hM : ∀ h, Hs h M → Hs h L) :
    ∀ (vs : List Value) (fs : List RF'), Cls L put b1 b2 b3 pb rb sb vs fs → ∀ (i : Nat) (s : RS) (h : Heap), all.drop i = vs → i + vs.length = n → Hs h (Pl L pb rb sb put s (A3 b1 b2 b3 pb rb sb (pt bl T_func all :: M))) → s.bs.length + 131072 * vs.length < 2 ^ 36 → s.r.szs →
      (∀ s' h', runL fs s = .ok s' → Hs h' (Pl L pb rb sb put s' (A3 b1 b2 b3 pb rb sb (pt bl T_func all :: M))) → K (.exit 0) (wire_port_request_6.X0) h') →
      (∀ e r' q' h', runL fs s = .error e → Hs h' (pt rb T_api_Request (Req.l r') :: pt sb T_api_Request (Req.l q') :: pt bl T_func all :: M) → X (endV e) h') →
      wire_port_request_6.L1 (some ⟨bl, 0, none⟩) n n n i K h := by
  intro vs fs hc
  induction hc with
  | nil =>
    intro i s h hd hi H hb hs kk kx
    refine wire_port_request_6.L1_of ?_
    exact br_false (by simp at hi; simp; omega) (kk s h rfl H)
  | cons hv hk hl ih =>
    rename_i v f vs fs
    intro i s h hd hi H hb hs kk kx
    have hin : i < n := by simp at hi; omega
    refine wire_port_request_6.L1_of ?_
    refine br_true (by simp; omega) ?_
    have hget : all[i]? = some v := by
      have := congrArg (fun l => l[0]?) hd
      simpa using this
    refine idx E_sl_func (xs := all) (v := v) ((H.sel 7 [6, 0, 1, 2, 3, 4, 5]).ptrd (by simp)) (by omega) (by omega) (by simpa using hget) ?_
    intro t ht
    refine ⟨_, ht, ?_⟩
    simp only [List.length_cons] at hb hi
    refine hv (M := pt bl T_func all :: M) H (fun h H => hM h H.tl) (by omega) hs ?_ ?_
    · intro s' h2 e H2
      refine ⟨rfl, ?_⟩
      dsimp only
      rw [inc (by omega)]
      obtain ⟨k1, k2⟩ := hk s s' e hs
      refine ih (i + 1) s' h2 ?_ (by omega) H2 (by omega) k2 ?_ ?_
      · rw [← List.drop_drop, hd]; rfl
      · intro s2 h3 e2 H3
        exact kk s2 h3 (by simp only [runL, e, e2]) H3
      · intro e' r' q' h3 e2 H3
        exact kx e' r' q' h3 (by simp only [runL, e, e2]) H3
    · intro e r' q' h2 e1 H2
      exact kp _ _ (kx e r' q' h2 (by simp only [runL, e1]) H2)
theorem all_h {bl n : Nat} {vs : List Value} {fs : List RF'} (hc : Cls L put b1 b2 b3 pb rb sb vs fs) (hn : vs.length = n) (hM : ∀ h, Hs h M → Hs h L) {s : RS} (H : Hs h (Pl L pb rb sb put s (A3 b1 b2 b3 pb rb sb (pt bl T_func vs :: M)))) (hb : s.bs.length + 131072 * n < 2 ^ 36) (hs : s.r.szs)
    (kk : ∀ s' h', runL fs s = .ok s' → Hs h' (Pl L pb rb sb put s' (A3 b1 b2 b3 pb rb sb (pt bl T_func vs :: M))) → Q (.tuple #[]) h')
    (kx : ∀ e r' q' h', runL fs s = .error e → Hs h' (pt rb T_api_Request (Req.l r') :: pt sb T_api_Request (Req.l q') :: pt bl T_func vs :: M) → X (endV e) h') :
    callT PP (.func (.func F_wire_port_request_6) #[] #[]) [.slice (some ⟨bl, 0, none⟩) n n] Q X h := by
  refine callT_of (by kernel_rfl) (wire_port_request_6.door ?_)
  refine all_loop (X := X) (all := vs) hn (by omega) (fun v h hx => wire_port_request_6.L1_Xpan hx) hM vs fs hc 0 s h rfl (by omega) H (by omega) hs ?_ ?_
  · intro s' h' e H'
    exact wire_port_request_6.L1_X0 (kk s' h' e H')
  · exact kx
/-- What a kind has. -/
def groups (put : Bool) (k : Int) : List RF' :=
  if k = 1 then [fTok put] else if k = 3 then [fTxn put, fArch put, fEnt put, fPart put] else if k = 4 then [fTxn put, fArch put]
  else if k = 5 ∨ k = 6 then [fTxn put, fArch put, fEnt put, fDat put] else if k = 7 then [fTxn put, fArch put, fEnt put] else if k = 8 ∨ k = 9 then [fTxn put]
  else if k = 10 then [fTxn put, fArch put, fPart put] else if k = 11 then [fTxn put, fArch put, fDat put] else []
def reqS (put : Bool) (s : RS) : Except Int RS :=
  match runL (groups put s.r.kind) s with
  | .ok s' => .ok { s' with q := { s'.q with kind := 0 } }
  | .error e => .error e
theorem kinds (k : Int) : k = 1 ∨ k = 3 ∨ k = 4 ∨ k = 5 ∨ k = 6 ∨ k = 7 ∨ k = 8 ∨ k = 9 ∨ k = 10 ∨ k = 11 ∨ (k ≠ 1 ∧ k ≠ 3 ∧ k ≠ 4 ∧ k ≠ 5 ∧ k ≠ 6 ∧ k ≠ 7 ∧ k ≠ 8 ∧ k ≠ 9 ∧ k ≠ 10 ∧ k ≠ 11) := by omega
theorem request_h {s : RS} (H : Hs h (Pl L pb rb sb put s M)) (hM : ∀ h, Hs h M → Hs h L) (hb : s.bs.length < 2 ^ 35) (hs : s.r.szs)
    (kk : ∀ s' h', reqS put s = .ok s' → Hs h' (Pl L pb rb sb put s' M) → Q (.tuple #[]) h')
    (kx : ∀ e r' q' h', reqS put s = .error e → Hs h' (pt rb T_api_Request (Req.l r') :: pt sb T_api_Request (Req.l q') :: M) → X (endV e) h') :
    SpecT PP F_wire_port_request [.pointer (some ⟨pb, 0, none⟩), .pointer (some ⟨rb, 0, none⟩), .pointer (some ⟨sb, 0, none⟩)] h Q X := by
  refine wire_port_request.door ?_
  dsimp only
  have H1 := H.new (t := T_p_wire_port) (cs := #[.pointer (some ⟨pb, 0, none⟩)]) (xs := [.pointer (some ⟨pb, 0, none⟩)])
  have H2 := H1.new (t := T_p_api_Request) (cs := #[.pointer (some ⟨rb, 0, none⟩)]) (xs := [.pointer (some ⟨rb, 0, none⟩)])
  have H3 := H2.new (t := T_p_api_Request) (cs := #[.pointer (some ⟨sb, 0, none⟩)]) (xs := [.pointer (some ⟨sb, 0, none⟩)])
  generalize hh3 : Array.push (Array.push (Array.push h _) _) _ = h3 at H3 ⊢
  generalize Array.size (Array.push (Array.push h _) _) = c3 at H3 ⊢
  generalize Array.size (Array.push h _) = c2 at H3 ⊢
  generalize h.size = c1 at H3 ⊢
  clear hh3 H1 H2
  replace H3 : Hs h3 (Pl L pb rb sb put s (A3 c1 c2 c3 pb rb sb M)) := H3.sel 6 [3, 4, 5, 2, 1, 0]
  have hJ : ∀ s' h', runL (groups put s.r.kind) s = .ok s' → Hs h' (Pl L pb rb sb put s' (A3 c1 c2 c3 pb rb sb M)) → wire_port_request.J1 ⟨c3, 0, none⟩ Q X h' := by
    intro s' h' e H'
    refine wire_port_request.J1_of ?_
    refine ⟨_, (H'.sel 6 [5, 0, 1, 2, 3, 4]).cell (off := 0) rfl, ?_⟩
    refine H'.m2.sto (off := 0) (by simp [Req.l]) ?_
    intro h4 H4
    refine kk { s' with q := { s'.q with kind := 0 } } h4 (by simp only [reqS, e]) ?_
    exact H4.sel 6 [1, 2, 0]
  have hX : ∀ e r' q' h', runL (groups put s.r.kind) s = .error e → Hs h' (pt rb T_api_Request (Req.l r') :: pt sb T_api_Request (Req.l q') :: M) → X (endV e) h' := fun e r' q' h' he H' => kx e r' q' h' (by simp only [reqS, he]) H'
  have go : ∀ (vs : List Value) (fs : List RF') (n : Nat), Cls L put c1 c2 c3 pb rb sb vs fs → vs.length = n → n < 10 → groups put s.r.kind = fs →
      callT PP (.func (.func F_wire_port_request_6) #[] #[]) [.slice (some ⟨h3.size, 0, none⟩) n n] (fun v h => v = .tuple #[] ∧ wire_port_request.J1 ⟨c3, 0, none⟩ Q X h) (fun v h => X v h) (h3.push (.cells vs.toArray T_func (0, 0))) := by
    intro vs fs n hc hn hlt hg
    have H4 := H3.new (t := T_func) (cs := vs.toArray) (xs := vs)
    refine all_h (M := M) hc hn hM (s := s) (H4.sel 7 [1, 2, 3, 4, 5, 6, 0]) (by omega) hs ?_ ?_
    · intro s' h' e H'
      exact ⟨rfl, hJ s' h' (by rw [hg]; exact e) (H'.sel 7 [0, 1, 2, 3, 4, 5])⟩
    · intro e r' q' h' he H'
      exact hX e r' q' h' (by rw [hg]; exact he) (H'.sel 3 [0, 1])
  have nl := Cls.nil (L := L) (put := put) (b1 := c1) (b2 := c2) (b3 := c3) (pb := pb) (rb := rb) (sb := sb)
  refine ⟨_, (H3.sel 6 [4, 0, 1, 2, 3, 5]).cell (off := 0) rfl, ?_⟩
  refine ⟨s.r.kind, H3.m1.cell (off := 0) rfl, ?_⟩
  obtain ⟨bs, r, q⟩ := s
  obtain ⟨k, txn, archive, entry, data, frm, most, token⟩ := r
  dsimp only at hJ hX go ⊢
  rcases kinds k with rfl | rfl | rfl | rfl | rfl | rfl | rfl | rfl | rfl | rfl | hk
  · refine br_true rfl ?_
    refine ⟨_, (H3.sel 6 [3, 0, 1, 2, 4, 5]).cell (off := 0) rfl, _, (H3.sel 6 [4, 0, 1, 2, 3, 5]).cell (off := 0) rfl, ?_⟩
    refine text_h (rb := rb) (off := 7) (t := T_api_Request) (s := token) (most := 256) H3 (fun h H => hM h H.tl.tl.tl.tl) rfl (by show bs.length < _; have : bs.length < 2 ^ 35 := hb; omega) (by decide) hs.2.2.2 ?_ ?_
    · intro bs' x h2 e H2
      refine ⟨rfl, _, (H2.sel 6 [5, 0, 1, 2, 3, 4]).cell (off := 0) rfl, ?_⟩
      refine H2.m2.sto (off := 7) (by simp [Req.l]) ?_
      intro h4 H4
      refine hJ ⟨bs', ⟨1, txn, archive, entry, data, frm, most, x⟩, { q with token := ⟨#[]⟩ }⟩ h4 (by simp [groups, runL, fTok, e]) ?_
      exact H4.r2
    · intro e h2 e1 H2
      exact hX e ⟨1, txn, archive, entry, data, frm, most, token⟩ q h2 (by simp [groups, runL, fTok, e1]) (H2.sel 5 [0, 1])
  · repeat first | refine br_true rfl ?_ | refine br_false rfl ?_
    exact go _ _ 4 (.cons cl_txn (keeps_txn put) (.cons cl_archive (keeps_arch put) (.cons cl_entry (keeps_ent put) (.cons cl_part (keeps_part put) nl)))) rfl (by decide) rfl
  · repeat first | refine br_true rfl ?_ | refine br_false rfl ?_
    exact go _ _ 2 (.cons cl_txn (keeps_txn put) (.cons cl_archive (keeps_arch put) nl)) rfl (by decide) rfl
  · repeat first | refine br_true rfl ?_ | refine br_false rfl ?_
    exact go _ _ 4 (.cons cl_txn (keeps_txn put) (.cons cl_archive (keeps_arch put) (.cons cl_entry (keeps_ent put) (.cons cl_data (keeps_dat put) nl)))) rfl (by decide) rfl
  · repeat first | refine br_true rfl ?_ | refine br_false rfl ?_
    exact go _ _ 4 (.cons cl_txn (keeps_txn put) (.cons cl_archive (keeps_arch put) (.cons cl_entry (keeps_ent put) (.cons cl_data (keeps_dat put) nl)))) rfl (by decide) rfl
  · repeat first | refine br_true rfl ?_ | refine br_false rfl ?_
    exact go _ _ 3 (.cons cl_txn (keeps_txn put) (.cons cl_archive (keeps_arch put) (.cons cl_entry (keeps_ent put) nl))) rfl (by decide) rfl
  · repeat first | refine br_true rfl ?_ | refine br_false rfl ?_
    exact go _ _ 1 (.cons cl_txn (keeps_txn put) nl) rfl (by decide) rfl
  · repeat first | refine br_true rfl ?_ | refine br_false rfl ?_
    exact go _ _ 1 (.cons cl_txn (keeps_txn put) nl) rfl (by decide) rfl
  · repeat first | refine br_true rfl ?_ | refine br_false rfl ?_
    exact go _ _ 3 (.cons cl_txn (keeps_txn put) (.cons cl_archive (keeps_arch put) (.cons cl_part (keeps_part put) nl))) rfl (by decide) rfl
  · repeat first | refine br_true rfl ?_ | refine br_false rfl ?_
    exact go _ _ 3 (.cons cl_txn (keeps_txn put) (.cons cl_archive (keeps_arch put) (.cons cl_data (keeps_dat put) nl))) rfl (by decide) rfl
  · obtain ⟨q1, q3, q4, q5, q6, q7, q8, q9, q10, q11⟩ := hk
    have hg : groups put k = [] := by simp [groups, q1, q3, q4, q5, q6, q7, q8, q9, q10, q11]
    repeat refine br_false (by simp [q1, q3, q4, q5, q6, q7, q8, q9, q10, q11]) ?_
    exact hJ _ h3 (by rw [hg]; rfl) H3
end Go.Proofs.Ytnidhafhgclakaa

set_option linter.unusedVariables false
set_option linter.unusedSimpArgs false
namespace Go.Proofs.Ytnidhafhgclakaa
open Go Go.HW
variable {h : Heap} {L M : List Assn} {Q X : Value → Heap → Prop}
theorem caughtN {p : OA} {Q0 : MP} (H : Q0 none h) : SpecD PP F_wire_caught [.pointer p] none h Q0 := by
  refine wire_caught.doorD ?_
  refine hwp_runPure (a := .bool false) (by kernel_rfl) ?_
  exact ⟨false, rfl, br_false rfl H⟩
theorem caughtS {eb : Nat} {e e0 : Int} {Q0 : MP} (H : Hs h (pt eb T_api_Errno [.int .i64 e0] :: M)) (kk : ∀ h', Hs h' (pt eb T_api_Errno [.int .i64 e] :: M) → Q0 none h') : SpecD PP F_wire_caught [.pointer (some ⟨eb, 0, none⟩)] (some (endV e)) h Q0 := by
  refine wire_caught.doorD ?_
  refine hwp_runPure (a := .bool true) (by kernel_rfl) ?_
  refine ⟨true, rfl, br_true rfl ?_⟩
  refine hwp_runPure (a := .agg #[.int .i64 e]) (by kernel_rfl) ?_
  refine ⟨e, rfl, ?_⟩
  exact H.sto (off := 0) (by simp) kk
theorem kind_pure (k : Int) : PureAt PP F_wire_kind [.int .i64 k] (.bool (decide (1 ≤ k) && decide (k ≤ 13))) := by
  intro h
  refine wire_kind.door ?_
  by_cases h1 : 1 ≤ k
  · refine br_true (by simpa using h1) ⟨?_, rfl⟩
    simp [h1]
  · refine br_false (by simpa using h1) ⟨?_, rfl⟩
    simp [h1]

/-! ### A request is put -/
def goodKind (k : Int) : Bool := decide (1 ≤ k) && decide (k ≤ 13)
def Req.isZero (q : Req) : Bool := ((q.kind == 0) && ((q.txn == 0) && (decide (q.archive = (⟨#[]⟩ : ByteArray)) && (decide (q.entry = (⟨#[]⟩ : ByteArray)) && (decide (q.data = (⟨#[]⟩ : ByteArray)) && ((q.frm == 0) && ((q.most == 0) && (decide (q.token = (⟨#[]⟩ : ByteArray)) && true))))))))
def Req.bare (r : Req) : Req := { r with archive := ⟨#[]⟩, entry := ⟨#[]⟩, data := ⟨#[]⟩, token := ⟨#[]⟩ }
/-- What PutRequest answers. -/
def putReq (r : Req) : Int × List Nat :=
  if goodKind r.kind = true then
    if within r.txn = true ∧ within r.frm = true ∧ within r.most = true then
      match reqS true ⟨[], r.bare, r⟩ with
      | .error e => (e, [])
      | .ok s1 => if s1.q.isZero = true then
          match reqS true ⟨[r.kind.toNat], r, s1.q⟩ with
          | .error e => (e, [])
          | .ok s2 => (0, s2.bs)
        else (1, [])
    else (1, [])
  else (191, [])
theorem putq_round {K : EP} {r1 e3 : Addr} {b i : Nat} {x : Int} {xs : List Value} (g : Rd h (some ⟨b, 0, none⟩) xs) (hi : i < 3) (hx : xs[i]? = some (.int .i64 x))
    (kk : within x = true → wire_PutRequest.L1 r1 none 0 0 e3 (some ⟨b, 0, none⟩) 3 3 3 ((i + 1 : Nat) : Int) K h) (kx : within x = false → K (.pan (endV 1)) (wire_PutRequest.Xpan none 0 0 e3) h) :
    wire_PutRequest.L1 r1 none 0 0 e3 (some ⟨b, 0, none⟩) 3 3 3 (i : Int) K h := by
  refine wire_PutRequest.L1_of ?_
  refine br_true (by simp; omega) ?_
  refine idx E_sl_int g (by omega) (by omega) (by simpa using hx) ?_
  intro t ht
  refine ⟨x, ht, ?_⟩
  have jn : within x = true → wire_PutRequest.J1 r1 none 0 0 e3 (some ⟨b, 0, none⟩) 3 3 3 (i : Int) K h := by
    intro hw
    refine wire_PutRequest.J1_of ?_
    dsimp only
    rw [inc (by omega)]
    exact kk hw
  dsimp only
  by_cases h0 : 0 ≤ x
  · refine br_true (by simpa using h0) (is_h (fun hb => ⟨rfl, jn ?_⟩) fun hb => kx ?_)
    · exact within_iff.2 ⟨h0, by simpa using hb⟩
    · have : ¬ x ≤ 1000000000 := by simpa using hb
      simp [within, this]
  · exact br_false (by simpa using h0) (is_h (fun hb => by cases hb) fun hb => kx (by simp [within, h0]))
theorem PutRequest_h {r : Req} (H : Hs h L) (hs : r.szs) (kk : ∀ h' a n c, (putReq r).2.length = n → Hs h' (own a n c T_uint8 1 (nV (putReq r).2) :: L) → Q (.tuple #[.slice a n c, .int .i64 (putReq r).1]) h') : SpecH PP F_wire_PutRequest [r.v] h Q := by
  refine SpecT.toH (X := fun _ _ => False) (wire_PutRequest.door ?_) (fun _ _ k => k)
  dsimp only
  have H1 := H.new (t := T_api_Request) (cs := #[(.int .i64 r.kind), (.int .i64 r.txn), (.string r.archive), (.string r.entry), (.string r.data), (.int .i64 r.frm), (.int .i64 r.most), (.string r.token)]) (xs := r.l)
  have H2 := H1.new (t := T_api_Errno) (cs := #[.int .i64 0]) (xs := [.int .i64 0])
  generalize Array.push (Array.push h _) _ = h2 at H2 ⊢
  generalize Array.size (Array.push h _) = eb at H2 ⊢
  generalize h.size = rb at H2 ⊢
  clear H1
  have fail : ∀ (e e0 : Int) (M : List Assn) (h' : Heap), putReq r = (e, []) → (∀ h, Hs h M → Hs h L) → Hs h' (pt eb T_api_Errno [.int .i64 e0] :: M) →
      wire_PutRequest.lv none 0 0 ⟨eb, 0, none⟩ Q (fun _ _ => False) [(F_wire_caught, [.pointer (some ⟨eb, 0, none⟩)], [])] (some (endV e)) h' := by
    intro e e0 M h' he hM H'
    refine wire_PutRequest.lv_cons ⟨by kernel_rfl, caughtS H' fun h3 H3 => wire_PutRequest.lv_nil ⟨e, H3.cell (off := 0) rfl, ?_⟩⟩
    have := kk h3 none 0 0 (by rw [he]; rfl)
    rw [he] at this
    exact this ((hM h3 H3.tl).own_nil T_uint8 1)
  refine ⟨r.kind, H2.m1.cell (off := 0) rfl, _, kind_pure r.kind, _, rfl, ?_⟩
  refine is_h (fun hk => ⟨rfl, ?_⟩) fun hk => fail 191 0 (pt rb T_api_Request r.l :: L) h2 (by simp only [putReq, if_neg (show ¬ goodKind r.kind = true by rw [goodKind, hk]; simp)]) (fun h H => H.tl) H2
  have hgk : goodKind r.kind = true := hk
  have hk2 : 1 ≤ r.kind ∧ r.kind ≤ 13 := by simpa [goodKind] using hgk
  refine ⟨r.txn, H2.m1.cell (off := 1) rfl, r.frm, H2.m1.cell (off := 5) rfl, r.most, H2.m1.cell (off := 6) rfl, ?_⟩
  have H3 := H2.new (t := T_int) (cs := #[.int .i64 r.txn, .int .i64 r.frm, .int .i64 r.most]) (xs := [.int .i64 r.txn, .int .i64 r.frm, .int .i64 r.most])
  generalize Array.push h2 _ = h3 at H3 ⊢
  generalize h2.size = ib at H3 ⊢
  have rd := H3.ptrd (off := 0) (ys := [.int .i64 r.txn, .int .i64 r.frm, .int .i64 r.most]) rfl
  have nw : ∀ x, (x = r.txn ∨ x = r.frm ∨ x = r.most) → within x = false → (wire_PutRequest.K1 Q (fun _ _ => False) [(F_wire_caught, [.pointer (some ⟨eb, 0, none⟩)], [])]) (.pan (endV 1)) (wire_PutRequest.Xpan none 0 0 ⟨eb, 0, none⟩) h3 := by
    intro x hx hw
    refine wire_PutRequest.L1_Xpan (fail 1 0 (pt ib T_int [.int .i64 r.txn, .int .i64 r.frm, .int .i64 r.most] :: pt rb T_api_Request r.l :: L) h3 ?_ (fun h H => H.tl.tl) H3.m1)
    have : ¬ (within r.txn = true ∧ within r.frm = true ∧ within r.most = true) := by rintro ⟨w1, w2, w3⟩; rcases hx with rfl | rfl | rfl <;> simp_all
    simp only [putReq, if_pos hgk, if_neg this]
  refine putq_round (i := 0) rd (by decide) rfl (fun w1 => ?_) (nw _ (.inl rfl))
  refine putq_round (i := 1) rd (by decide) rfl (fun w2 => ?_) (nw _ (.inr (.inl rfl)))
  refine putq_round (i := 2) rd (by decide) rfl (fun w3 => ?_) (nw _ (.inr (.inr rfl)))
  refine wire_PutRequest.L1_of (br_false (by simp) ?_)
  refine wire_PutRequest.L1_X0 ?_
  have Hr : Hs h3 (pt rb T_api_Request r.l :: pt eb T_api_Errno [.int .i64 0] :: L) := H3.tl.m1
  clear H3 rd nw
  refine ⟨_, _, _, _, _, _, _, _, Hr.rdc0 (xs := r.l), _, _, _, _, _, _, _, _, Hr.rdc0 (xs := r.l), ?_⟩
  dsimp only
  have H4 := Hr.new (t := T_api_Request) (cs := #[(.int .i64 0), (.int .i64 0), (.string (⟨#[]⟩ : ByteArray)), (.string (⟨#[]⟩ : ByteArray)), (.string (⟨#[]⟩ : ByteArray)), (.int .i64 0), (.int .i64 0), (.string (⟨#[]⟩ : ByteArray))]) (xs := Req.zero.l)
  have H5 := H4.new (t := T_api_Request) (cs := #[(.int .i64 0), (.int .i64 0), (.string (⟨#[]⟩ : ByteArray)), (.string (⟨#[]⟩ : ByteArray)), (.string (⟨#[]⟩ : ByteArray)), (.int .i64 0), (.int .i64 0), (.string (⟨#[]⟩ : ByteArray))]) (xs := Req.zero.l)
  generalize Array.push (Array.push h3 _) _ = h5 at H5 ⊢
  generalize Array.size (Array.push h3 _) = qb at H5 ⊢
  generalize h3.size = ob at H5 ⊢
  clear H4
  refine Hs.wrs (xs := Req.zero.l) H5.m1 ?_
  intro h6 H6
  refine Hs.wrs (xs := Req.zero.l) H6.m1 ?_
  intro h7 H7
  refine H7.m1.sto (off := 2) (by simp) fun h8 H8 => ?_
  refine H8.sto (off := 3) (by simp) fun h9 H9 => ?_
  refine H9.sto (off := 4) (by simp) fun h10 H10 => ?_
  refine H10.sto (off := 7) (by simp) fun h11 H11 => ?_
  replace H11 : Hs h11 (pt ob T_api_Request r.bare.l :: pt qb T_api_Request r.l :: pt rb T_api_Request r.l :: pt eb T_api_Errno [.int .i64 0] :: L) := H11
  have H12 := H11.new (t := T_wire_port) (cs := #[.slice none 0 0, .bool true]) (xs := port none 0 0 true)
  generalize Array.push h11 _ = h12 at H12 ⊢
  generalize h11.size = pb at H12 ⊢
  have H13 : Hs h12 (Pl L pb ob qb true ⟨[], r.bare, r⟩ (pt rb T_api_Request r.l :: pt eb T_api_Errno [.int .i64 0] :: L)) := portP.2 ⟨none, 0, 0, (H12.own_nil T_uint8 1).m1⟩
  have hput : putReq r = match reqS true ⟨[], r.bare, r⟩ with
      | .error e => (e, [])
      | .ok s1 => if s1.q.isZero = true then
          match reqS true ⟨[r.kind.toNat], r, s1.q⟩ with
          | .error e => (e, [])
          | .ok s2 => (0, s2.bs)
        else (1, []) := by simp only [putReq, if_pos hgk, if_pos (show within r.txn = true ∧ within r.frm = true ∧ within r.most = true from ⟨w1, w2, w3⟩)]
  refine request_h H13 (fun h H => H.tl.tl) (by simp) ⟨show (0 : Nat) < 2 ^ 62 by decide, show (0 : Nat) < 2 ^ 62 by decide, show (0 : Nat) < 2 ^ 62 by decide, show (0 : Nat) < 2 ^ 62 by decide⟩ ?_ ?_
  rotate_left
  · intro e r' q' h13 he H14
    exact fail e 0 (pt rb T_api_Request r.l :: L) h13 (by rw [hput, he]) (fun h H => H.tl) (H14.sel 4 [3, 2])
  intro s1 h13 e1 H14
  rw [e1] at hput
  refine ⟨rfl, _, _, _, _, _, _, _, _, (H14.sel 5 [2, 0, 1, 3, 4]).rdc0 (xs := s1.q.l), ?_⟩
  refine is_h (fun hz => ⟨rfl, ?_⟩) fun hz => fail 1 0 (pt rb T_api_Request r.l :: L) h13 (by rw [hput]; simp only [if_neg (show ¬ s1.q.isZero = true by rw [Req.isZero, hz]; simp)]) (fun h H => H.tl) (H14.sel 5 [4, 3])
  rw [show ((s1.q.kind == 0) && ((s1.q.txn == 0) && (decide (s1.q.archive = (⟨#[]⟩ : ByteArray)) && (decide (s1.q.entry = (⟨#[]⟩ : ByteArray)) && (decide (s1.q.data = (⟨#[]⟩ : ByteArray)) && ((s1.q.frm == 0) && ((s1.q.most == 0) && (decide (s1.q.token = (⟨#[]⟩ : ByteArray)) && true)))))))) = s1.q.isZero from rfl] at hz
  simp only [if_pos hz] at hput
  have H15 : Hs h13 (pt qb T_api_Request s1.q.l :: pt rb T_api_Request r.l :: pt eb T_api_Errno [.int .i64 0] :: L) := H14.sel 5 [2, 3, 4]
  refine ⟨r.kind, H15.m1.cell (off := 0) rfl, ?_⟩
  obtain ⟨k, hkn⟩ := Int.eq_ofNat_of_zero_le (show 0 ≤ r.kind by omega)
  rw [hkn] at hput ⊢
  rw [wrap_u8_id (by omega)]
  have H16 := H15.new (t := T_uint8) (cs := #[.int .u8 (k : Int)]) (xs := nV [k])
  have H17 := (H16.pt_all (n := 1) rfl).new (t := T_wire_port) (cs := #[.slice (some ⟨h13.size, 0, none⟩) 1 1, .bool true]) (xs := port (some ⟨h13.size, 0, none⟩) 1 1 true)
  generalize Array.push (Array.push h13 _) _ = h14 at H17 ⊢
  generalize Array.size (Array.push h13 _) = p2 at H17 ⊢
  have H18 : Hs h14 (Pl L p2 rb qb true ⟨[k], r, s1.q⟩ (pt eb T_api_Errno [.int .i64 0] :: L)) := portP.2 ⟨_, 1, 1, H17.sel 5 [0, 1, 3, 2, 4]⟩
  refine request_h H18 (fun h H => H.tl) (by simp) hs ?_ ?_
  · intro s2 h15 e2 H19
    rw [show ((k : Int)).toNat = k from rfl, e2] at hput
    obtain ⟨a, n, c, H20⟩ := portP.1 H19
    refine ⟨rfl, a, n, c, H20.cell (off := 0) rfl, ?_⟩
    refine (H20.sel 5 [4, 1]).sto (off := 0) (by simp) ?_
    intro h16 H21
    refine wire_PutRequest.lv_cons ⟨by kernel_rfl, caughtN (wire_PutRequest.lv_nil ⟨0, H21.cell (off := 0) rfl, ?_⟩)⟩
    have := kk h16 a n c
    rw [hput] at this
    have hl : s2.bs.length = n := by have := H20.m1.own_len; simpa [nV_len] using this
    exact this hl H21.tl
  · intro e r' q' h15 he H19
    exact fail e 0 L h15 (by rw [hput, show ((k : Int)).toNat = k from rfl, he]) (fun h H => H) (H19.sel 3 [2])
end Go.Proofs.Ytnidhafhgclakaa

set_option linter.unusedVariables false
set_option linter.unusedSimpArgs false
namespace Go.Proofs.Ytnidhafhgclakaa
open Go Go.HW
variable {h : Heap} {L M : List Assn} {Q X : Value → Heap → Prop}
/-- Which errors fields throw. -/
def Errs (put : Bool) (e : Int) : Prop := match put with | true => e = 1 ∨ e = 2 | false => e = 190
theorem numS_err {put : Bool} {bs : List Nat} {x e : Int} (h : numS put bs x = .error e) : Errs put e := by
  cases put <;> simp only [numS] at h <;> split at h <;> simp only [Except.error.injEq, reduceCtorEq] at h <;> subst h
  · rfl
  · exact .inl rfl
theorem textS_err {put : Bool} {bs : List Nat} {s : ByteArray} {m : Nat} {e : Int} (h : textS put bs s m = .error e) : Errs put e := by
  cases put <;> simp only [textS] at h <;> split at h <;> simp only [Except.error.injEq, reduceCtorEq] at h <;> subst h
  · rfl
  · exact .inr rfl
def ErrF (put : Bool) (f : RF') : Prop := ∀ s e, f s = .error e → Errs put e
theorem err_txn (put : Bool) : ErrF put (fTxn put) := by
  intro s e h
  unfold fTxn at h
  split at h <;> simp only [Except.error.injEq, reduceCtorEq] at h
  rename_i q
  subst h; exact numS_err q
theorem err_part (put : Bool) : ErrF put (fPart put) := by
  intro s e h
  unfold fPart at h
  split at h
  · split at h <;> simp only [Except.error.injEq, reduceCtorEq] at h
    rename_i q
    subst h; exact numS_err q
  · simp only [Except.error.injEq] at h
    rename_i q
    subst h; exact numS_err q
theorem err_arch (put : Bool) : ErrF put (fArch put) := by
  intro s e h
  unfold fArch at h
  split at h <;> simp only [Except.error.injEq, reduceCtorEq] at h
  rename_i q
  subst h; exact textS_err q
theorem err_ent (put : Bool) : ErrF put (fEnt put) := by
  intro s e h
  unfold fEnt at h
  split at h <;> simp only [Except.error.injEq, reduceCtorEq] at h
  rename_i q
  subst h; exact textS_err q
theorem err_dat (put : Bool) : ErrF put (fDat put) := by
  intro s e h
  unfold fDat at h
  split at h <;> simp only [Except.error.injEq, reduceCtorEq] at h
  rename_i q
  subst h; exact textS_err q
theorem err_tok (put : Bool) : ErrF put (fTok put) := by
  intro s e h
  unfold fTok at h
  split at h <;> simp only [Except.error.injEq, reduceCtorEq] at h
  rename_i q
  subst h; exact textS_err q

theorem err_runL {put : Bool} : ∀ (fs : List RF') (s : RS) (e : Int), (∀ f ∈ fs, ErrF put f) → runL fs s = .error e → Errs put e
  | [], s, e, _, h => by simp [runL] at h
  | f :: fs, s, e, hf, h => by
    simp only [runL] at h
    split at h
    · exact err_runL fs _ e (fun g hg => hf g (by simp [hg])) h
    · rename_i q
      simp only [Except.error.injEq] at h
      subst h; exact hf f (by simp) _ _ q
theorem err_groups (put : Bool) (k : Int) : ∀ f ∈ groups put k, ErrF put f := by
  intro f hf
  have a1 := err_txn put; have a2 := err_arch put; have a3 := err_ent put; have a4 := err_dat put; have a5 := err_tok put; have a6 := err_part put
  unfold groups at hf
  repeat' split at hf
  all_goals (simp only [List.mem_cons, List.not_mem_nil, or_false] at hf)
  all_goals first
    | exact hf.elim
    | (rcases hf with rfl | rfl | rfl | rfl <;> assumption)
    | (rcases hf with rfl | rfl | rfl <;> assumption)
    | (rcases hf with rfl | rfl <;> assumption)
    | (subst hf; assumption)
theorem reqS_err {put : Bool} {s : RS} {e : Int} (h : reqS put s = .error e) : Errs put e := by
  unfold reqS at h
  split at h <;> simp only [Except.error.injEq, reduceCtorEq] at h
  rename_i q
  subst h; exact err_runL _ _ _ (err_groups put _) q

/-- What GetRequest answers. -/
def getReq (bs : List Nat) : Int × Req :=
  match bs with
  | [] => (190, Req.zero)
  | b :: l => if goodKind b = true then
      match reqS false ⟨l, { Req.zero with kind := b }, Req.zero⟩ with
      | .error e => (e, Req.zero)
      | .ok s => if s.bs.length = 0 then (0, s.r) else (190, Req.zero)
    else (191, Req.zero)
theorem GetRequest_h {a : OA} {n c : Nat} {bs : List Nat} (g : Gv L a (nV bs)) (hn : bs.length = n) (hnc : n ≤ c) (hn0 : a = none → c = 0) (hmax : n < 2 ^ 35) (h8 : ∀ x ∈ bs, x < 256) (H : Hs h L)
    (kk : ∀ h', Hs h' L → Q (.tuple #[(getReq bs).2.v, .int .i64 (getReq bs).1]) h') : SpecH PP F_wire_GetRequest [.slice a n c] h Q := by
  refine SpecT.toH (X := fun _ _ => False) (wire_GetRequest.door ?_) (fun _ _ k => k)
  dsimp only
  have H1 := H.new (t := T_api_Request) (cs := #[(.int .i64 0), (.int .i64 0), (.string (⟨#[]⟩ : ByteArray)), (.string (⟨#[]⟩ : ByteArray)), (.string (⟨#[]⟩ : ByteArray)), (.int .i64 0), (.int .i64 0), (.string (⟨#[]⟩ : ByteArray))]) (xs := Req.zero.l)
  have H2 := H1.new (t := T_api_Errno) (cs := #[.int .i64 0]) (xs := [.int .i64 0])
  generalize Array.push (Array.push h _) _ = h2 at H2 ⊢
  generalize Array.size (Array.push h _) = eb at H2 ⊢
  generalize h.size = rb at H2 ⊢
  clear H1
  have fail : ∀ (e e0 : Int) (r' : Req) (M : List Assn) (h' : Heap), getReq bs = (e, Req.zero) → e ≠ 0 → (∀ h, Hs h M → Hs h L) → Hs h' (pt eb T_api_Errno [.int .i64 e0] :: pt rb T_api_Request r'.l :: M) →
      wire_GetRequest.lv ⟨rb, 0, none⟩ ⟨eb, 0, none⟩ Q (fun _ _ => False) [(F_wire_caught, [.pointer (some ⟨eb, 0, none⟩)], []), (F_wire_GetRequest_1, [], [.pointer (some ⟨eb, 0, none⟩), .pointer (some ⟨rb, 0, none⟩)])] (some (endV e)) h' := by
    intro e e0 r' M h' he hne hM H'
    refine wire_GetRequest.lv_cons ⟨by kernel_rfl, caughtS H' fun h3 H3 => wire_GetRequest.lv_cons ⟨by kernel_rfl, wire_GetRequest_1.doorD ?_⟩⟩
    refine ⟨e, H3.cell (off := 0) rfl, br_true (by simp [hne]) ?_⟩
    refine Hs.wrs (xs := r'.l) H3.m1 ?_
    intro h4 H4
    refine wire_GetRequest.lv_nil ⟨_, _, _, _, _, _, _, _, H4.rdc0, e, H4.m1.cell (off := 0) rfl, ?_⟩
    have := kk h4 (hM h4 H4.tl.tl)
    rw [he] at this
    exact this
  refine is_h (fun hk => ⟨rfl, ?_⟩) fun hk => fail 190 0 Req.zero L h2 ?_ (by decide) (fun h H => H) H2
  rotate_left
  · have : ¬ (0 : Int) < n := by simpa using hk
    have : bs = [] := List.eq_nil_of_length_eq_zero (by omega)
    subst this; rfl
  have hpos : (0 : Int) < n := by simpa using hk
  obtain ⟨b, l, rfl⟩ : ∃ b l, bs = b :: l := by
    cases bs with
    | nil => simp at hn; omega
    | cons b l => exact ⟨b, l, rfl⟩
  have hb8 := h8 b (by simp)
  refine idx E_sl_uint8 (g _ H2.tl.tl) (by omega) (by omega) (v := .int .u8 (b : Nat)) (by simp [nV]) ?_
  intro t ht
  refine ⟨_, ht, ?_⟩
  rw [wrap_i64_z (by omega) (by omega)]
  refine H2.m1.sto (off := 0) (by simp [Req.l]) ?_
  intro h3 H3
  replace H3 : Hs h3 (pt rb T_api_Request (Req.l { Req.zero with kind := (b : Int) }) :: pt eb T_api_Errno [.int .i64 0] :: L) := H3
  refine ⟨_, H3.cell (off := 0) rfl, _, kind_pure _, _, rfl, ?_⟩
  refine is_h (fun hk => ⟨rfl, ?_⟩) fun hk => fail 191 0 _ L h3 (by simp only [getReq, if_neg (show ¬ goodKind (b : Int) = true by rw [goodKind, hk]; simp)]) (by decide) (fun h H => H) H3.m1
  have hget : getReq (b :: l) = match reqS false ⟨l, { Req.zero with kind := b }, Req.zero⟩ with
      | .error e => (e, Req.zero)
      | .ok s => if s.bs.length = 0 then (0, s.r) else (190, Req.zero) := by simp only [getReq, if_pos (show goodKind (b : Int) = true from hk)]
  refine bytes_tailG (i := 1) E_sl_uint8 g hn hnc hn0 (by omega) ?_
  intro a' c' g' e1 e2 e3
  refine ⟨_, _, _, rfl, ?_⟩
  have H4 := H3.new (t := T_wire_port) (cs := #[.slice a' (n - 1) c', .bool false]) (xs := port a' (n - 1) c' false)
  have H5 := H4.new (t := T_api_Request) (cs := #[(.int .i64 0), (.int .i64 0), (.string (⟨#[]⟩ : ByteArray)), (.string (⟨#[]⟩ : ByteArray)), (.string (⟨#[]⟩ : ByteArray)), (.int .i64 0), (.int .i64 0), (.string (⟨#[]⟩ : ByteArray))]) (xs := Req.zero.l)
  generalize Array.push (Array.push h3 _) _ = h5 at H5 ⊢
  generalize Array.size (Array.push h3 _) = qb at H5 ⊢
  generalize h3.size = pb at H5 ⊢
  have hl : l.length = n - 1 := by simp at hn; omega
  have H6 : Hs h5 (Pl L pb rb qb false ⟨l, { Req.zero with kind := b }, Req.zero⟩ (pt eb T_api_Errno [.int .i64 0] :: L)) :=
    portG.2 ⟨a', n - 1, c', ⟨hl, e2, e3, fun x hx => h8 x (by simp [hx]), by simpa using g'⟩, H5.sel 4 [1, 2, 0, 3]⟩
  refine request_h H6 (fun h H => H.tl) (by show l.length < _; omega) ⟨show (0 : Nat) < 2 ^ 62 by decide, show (0 : Nat) < 2 ^ 62 by decide, show (0 : Nat) < 2 ^ 62 by decide, show (0 : Nat) < 2 ^ 62 by decide⟩ ?_ ?_
  · intro s h7 es H7
    rw [es] at hget
    obtain ⟨a2, n2, c2, ⟨f1, f2, f3, f4, f5⟩, H8⟩ := portG.1 H7
    refine ⟨rfl, a2, n2, c2, H8.cell (off := 0) rfl, ?_⟩
    have H9 : Hs h7 (pt rb T_api_Request s.r.l :: pt eb T_api_Errno [.int .i64 0] :: L) := H8.sel 4 [1, 3]
    refine is_h (fun hz => ⟨rfl, ?_⟩) fun hz => fail 190 0 s.r L h7 ?_ (by decide) (fun h H => H) H9.m1
    · have hz' : s.bs.length = 0 := by have : (n2 : Int) = 0 := by simpa using hz
                                       omega
      simp only [if_pos hz'] at hget
      refine ⟨_, _, _, _, _, _, _, _, H9.rdc0 (xs := s.r.l), ?_⟩
      refine Hs.wrs (xs := s.r.l) H9 ?_
      intro h10 H10
      refine H10.m1.sto (off := 0) (by simp) ?_
      intro h11 H11
      refine wire_GetRequest.lv_cons ⟨by kernel_rfl, caughtN (wire_GetRequest.lv_cons ⟨by kernel_rfl, wire_GetRequest_1.doorD ?_⟩)⟩
      refine ⟨0, H11.cell (off := 0) rfl, br_false (by simp) ?_⟩
      refine wire_GetRequest.lv_nil ⟨_, _, _, _, _, _, _, _, H11.m1.rdc0, 0, H11.cell (off := 0) rfl, ?_⟩
      have := kk h11 H11.tl.tl
      rw [hget] at this
      exact this
    · have hz' : ¬ s.bs.length = 0 := by have : ¬ (n2 : Int) = 0 := by simpa using hz
                                         omega
      simp only [if_neg hz'] at hget
      exact hget
  · intro e r' q' h7 es H7
    rw [es] at hget
    have he : e = 190 := reqS_err es
    exact fail e 0 r' L h7 hget (by omega) (fun h H => H) (H7.sel 3 [2, 0])
end Go.Proofs.Ytnidhafhgclakaa

set_option linter.unusedVariables false
set_option linter.unusedSimpArgs false
namespace Go.Proofs.Ytnidhafhgclakaa
open Go Go.HW
variable {h : Heap} {L M : List Assn} {Q X : Value → Heap → Prop}
structure Rsp where
  code : Int
  txn : Int
  at' : Int
  size : Int
  data : ByteArray
  names : List ByteArray
  ub : Int
  ue : Int
def Rsp.l (r : Rsp) (a : OA) (n c : Nat) : List Value := [.int .i64 r.code, .int .i64 r.txn, .int .i64 r.at', .int .i64 r.size, .string r.data, .slice a n c, .int .i64 r.ub, .int .i64 r.ue]
def Rsp.v (r : Rsp) (a : OA) (n c : Nat) : Value := .agg #[.int .i64 r.code, .int .i64 r.txn, .int .i64 r.at', .int .i64 r.size, .string r.data, .slice a n c, .int .i64 r.ub, .int .i64 r.ue]
def Rsp.zero : Rsp := ⟨0, 0, 0, 0, ⟨#[]⟩, [], 0, 0⟩
abbrev sV (l : List ByteArray) : List Value := l.map Value.string
def putNames : List ByteArray → List Nat → Except Int (List Nat)
  | [], bs => .ok bs
  | s :: l, bs => if s.size ≤ 255 then putNames l (bs ++ [s.size] ++ sb s) else .error 2
def getNames : Nat → List Nat → List ByteArray → Except Int (List Nat × List ByteArray)
  | 0, bs, acc => .ok (bs, acc)
  | k + 1, bs, acc => match bs with
    | [] => .error 190
    | n :: l => if n ≤ l.length then getNames k (l.drop n) (acc ++ [st (l.take n)]) else .error 190
def namesS (put : Bool) (k : Nat) (bs : List Nat) (names : List ByteArray) : Except Int (List Nat × List ByteArray) :=
  match put with
  | true => match putNames names bs with
    | .ok b => .ok (b, names)
    | .error e => .error e
  | false => getNames k bs names
def numsS (put : Bool) (bs : List Nat) (r : Rsp) : Except Int (List Nat × Rsp) := do
  let (b1, x1) ← numS put bs r.txn
  let (b2, x2) ← numS put b1 r.at'
  let (b3, x3) ← numS put b2 r.size
  let (b4, x4) ← numS put b3 r.ub
  let (b5, x5) ← numS put b4 r.ue
  .ok (b5, { r with txn := x1, at' := x2, size := x3, ub := x4, ue := x5 })
def manyS (put : Bool) (bs : List Nat) (n : Nat) : Except Int (List Nat × Nat) :=
  match smallS put bs n with
  | .ok (b, m) => if m ≤ 64 then .ok (b, m.toNat) else .error 190
  | .error e => .error e
/-- What response does. -/
def rspS (put : Bool) (bs : List Nat) (r : Rsp) : Except Int (List Nat × Rsp) := do
  let (b0, c) ← shortS put bs r.code
  let (b5, r1) ← numsS put b0 { r with code := c }
  let (b6, d) ← textS put b5 r.data 16384
  let (b7, m) ← manyS put b6 r.names.length
  let (b8, ns) ← namesS put m b7 r.names
  .ok (b8, { r1 with data := d, names := ns })
theorem Hs.tt (H : Hs h L) : Hs h ((fun _ => True) :: L) := (H.own_nil 0 0).mono fun _ _ => trivial
def nmA (L : List Assn) (put : Bool) (a : OA) (n c : Nat) (names : List ByteArray) : Assn :=
  match put with
  | true => fun _ => (names.length = n ∧ n ≤ c ∧ Gv L a (sV names)) ∧ True
  | false => own a n c T_string 1 (sV names)
theorem nm_put {a : OA} {n c : Nat} {names : List ByteArray} : Hs h (nmA L true a n c names :: M) ↔ (names.length = n ∧ n ≤ c ∧ Gv L a (sV names)) ∧ Hs h M :=
  ⟨fun H => ⟨(Hs.and.1 H).1, H.tl⟩, fun ⟨f, H⟩ => Hs.and.2 ⟨f, Hs.tt H⟩⟩

theorem nums_round {K : EP} {pb rb off ib i : Nat} {t : TypeId} {xs ps : List Value} {x : Int} {put : Bool} {bs : List Nat} {ro : OA} (H : Hs h (portA L pb put bs :: pt rb t xs :: M)) (hM : ∀ h, Hs h M → Hs h L) (hp : ∀ h, Hs h M → Rd h (some ⟨ib, 0, none⟩) ps)
    (hi : i < 5) (hpi : ps[i]? = some (.pointer (some ⟨rb, off, none⟩))) (hx : xs[off]? = some (.int .i64 x)) (hb : bs.length < 2 ^ 40)
    (kk : ∀ bs' x' h', numS put bs x = .ok (bs', x') → Hs h' (portA L pb put bs' :: pt rb t (xs.set off (.int .i64 x')) :: M) → wire_port_response.L1 (some ⟨pb, 0, none⟩) ro (some ⟨ib, 0, none⟩) 5 5 5 ((i + 1 : Nat) : Int) K h')
    (kx : ∀ e h', numS put bs x = .error e → Hs h' (pt rb t xs :: M) → K (.pan (endV e)) (wire_port_response.Xpan) h') : wire_port_response.L1 (some ⟨pb, 0, none⟩) ro (some ⟨ib, 0, none⟩) 5 5 5 (i : Int) K h := by
  refine wire_port_response.L1_of ?_
  refine br_true (by simp; omega) ?_
  refine idx E_sl_p_int (hp _ H.tl.tl) (by omega) (by omega) (by simpa using hpi) ?_
  intro t' ht
  refine ⟨_, ht, ?_⟩
  refine number_h (X := fun v h => K (.pan v) (wire_port_response.Xpan) h) H hM hx hb ?_ kx
  intro bs' x' h' e H'
  refine ⟨rfl, ?_⟩
  dsimp only
  rw [inc (by omega)]
  exact kk bs' x' h' e H'

theorem names_put {K : EP} {pb rb nn nc : Nat} {na : OA} {r : Rsp} (hM : ∀ h, Hs h M → Hs h L) (hlen : r.names.length < 2 ^ 30) :
    ∀ (k i : Nat) (bs : List Nat) (h : Heap), i + k = r.names.length → Hs h (portA L pb true bs :: pt rb T_api_Response (r.l na nn nc) :: nmA L true na nn nc r.names :: M) → bs.length + 256 * k < 2 ^ 39 →
      (∀ bs' h', putNames (r.names.drop i) bs = .ok bs' → Hs h' (portA L pb true bs' :: pt rb T_api_Response (r.l na nn nc) :: nmA L true na nn nc r.names :: M) → K (.exit 2) (wire_port_response.X2) h') →
      (∀ e h', putNames (r.names.drop i) bs = .error e → Hs h' (pt rb T_api_Response (r.l na nn nc) :: M) → K (.pan (endV e)) (wire_port_response.Xpan) h') →
      wire_port_response.L2 (some ⟨pb, 0, none⟩) (some ⟨rb, 0, none⟩) (r.names.length : Int) (i : Int) K h := by
  intro k
  induction k with
  | zero =>
    intro i bs h hi H hb kk kx
    refine wire_port_response.L2_of ?_
    exact br_false (by simp; omega) (kk bs h (by rw [List.drop_of_length_le (by omega)]; rfl) H)
  | succ k ih =>
    intro i bs h hi H hb kk kx
    have hil : i < r.names.length := by omega
    obtain ⟨⟨f1, f2, f3⟩, _⟩ := nm_put.1 (H.sel 3 [2, 0, 1])
    have hdrop : r.names.drop i = r.names[i] :: r.names.drop (i + 1) := (List.getElem_cons_drop hil).symm
    rw [hdrop] at kk kx
    simp only [putNames] at kk kx
    refine wire_port_response.L2_of ?_
    refine br_true (by simp; omega) ?_
    dsimp only
    have H1 := H.new (t := T_string) (cs := #[.string (⟨#[]⟩ : ByteArray)]) (xs := [.string (⟨#[]⟩ : ByteArray)])
    generalize Array.push h _ = h1 at H1 ⊢
    generalize h.size = s9 at H1 ⊢
    refine H1.sto (off := 0) (by simp) ?_
    intro h2 H2
    obtain ⟨a, n, c, H3⟩ := portP.1 (H2.sel 4 [1, 0, 2, 3])
    refine ⟨true, H3.cell (off := 1) rfl, br_true rfl ?_⟩
    refine ⟨_, _, _, (H2.sel 4 [2, 0, 1, 3]).cell (off := 5) rfl, ?_⟩
    refine idx E_sl_string (f3 _ (hM _ H2.tl.tl.tl.tl)) (by omega) (by omega) (v := .string r.names[i]) (by simp [hil]) ?_
    intro t ht
    refine ⟨_, ht, ?_⟩
    refine H2.sto (off := 0) (by simp) ?_
    intro h4 H4
    replace H4 : Hs h4 (pt s9 T_string [.string r.names[i]] :: portA L pb true bs :: pt rb T_api_Response (r.l na nn nc) :: nmA L true na nn nc r.names :: M) := H4
    refine ⟨_, H4.cell (off := 0) rfl, ?_⟩
    refine is_h (fun hv => ⟨rfl, ?_⟩) fun hv => ?_
    rotate_left
    · have : ¬ r.names[i].size ≤ 255 := by have : ¬ (r.names[i].size : Int) ≤ 255 := by simpa using hv
                                           omega
      exact kx 2 h4 (by rw [if_neg this]) (H4.sel 4 [2])
    have hle : r.names[i].size ≤ 255 := by have : (r.names[i].size : Int) ≤ 255 := by simpa using hv
                                           omega
    simp only [if_pos hle] at kk kx
    refine wire_port_response.J1_of ?_
    refine ⟨_, H4.cell (off := 0) rfl, ?_⟩
    dsimp only
    have H5 := H4.new (t := T_int) (cs := #[.int .i64 0]) (xs := [.int .i64 0])
    generalize Array.push h4 _ = h5 at H5 ⊢
    generalize h4.size = nb at H5 ⊢
    refine H5.sto (off := 0) (by simp) ?_
    intro h6 H6
    refine small_h (rb := nb) (off := 0) (x := (r.names[i].size : Int)) (M := pt s9 T_string [.string r.names[i]] :: pt rb T_api_Response (r.l na nn nc) :: nmA L true na nn nc r.names :: M) (H6.sel 5 [2, 0, 1, 3, 4]) (fun h H => hM h H.tl.tl.tl) rfl (by omega) (fun _ => by omega) ?_ ?_
    · intro b1 x1 h7 e1 H7
      simp only [smallS, Except.ok.injEq, Prod.mk.injEq] at e1
      obtain ⟨rfl, rfl⟩ := e1
      refine ⟨rfl, _, H7.m1.cell (off := 0) rfl, ?_⟩
      refine bytes_h (rb := s9) (off := 0) (s := r.names[i]) (M := pt nb T_int [.int .i64 (r.names[i].size : Int)] :: pt rb T_api_Response (r.l na nn nc) :: nmA L true na nn nc r.names :: M) (H7.sel 5 [0, 2, 1, 3, 4]) (fun h H => hM h H.tl.tl.tl) rfl (by simp; omega) (fun _ => by omega) ?_ ?_
      · intro b2 s2 h8 e2 H8
        simp only [bytesS, Except.ok.injEq, Prod.mk.injEq] at e2
        obtain ⟨rfl, rfl⟩ := e2
        obtain ⟨a, n, c, H9⟩ := portP.1 H8
        refine ⟨rfl, true, H9.cell (off := 1) rfl, br_false rfl ?_⟩
        refine wire_port_response.J2_of ?_
        dsimp only
        rw [inc (by omega)]
        refine ih (i + 1) _ h8 (by omega) (H8.sel 5 [0, 3, 4]) ?_ ?_ ?_
        · simp [sb_len]; omega
        · intro bs' h' e H'
          exact kk bs' h' (by simpa using e) H'
        · intro e h' he H'
          exact kx e h' (by simpa using he) H'
      · intro e h8 he H8; simp [bytesS] at he
    · intro e h7 he H7; simp [smallS] at he
theorem names_get {K : EP} {pb rb : Nat} {r : Rsp} (hM : ∀ h, Hs h M → Hs h L) {m : Nat} (hm : m ≤ 64) :
    ∀ (k i : Nat) (bs : List Nat) (names : List ByteArray) (na : OA) (nn nc : Nat) (h : Heap), i + k = m → names.length = i → Hs h (portA L pb false bs :: pt rb T_api_Response (r.l na nn nc) :: nmA L false na nn nc names :: M) → bs.length < 2 ^ 39 →
      (∀ bs' ns' na' nn' nc' h', getNames k bs names = .ok (bs', ns') → Hs h' (portA L pb false bs' :: pt rb T_api_Response (r.l na' nn' nc') :: nmA L false na' nn' nc' ns' :: M) → K (.exit 2) (wire_port_response.X2) h') →
      (∀ e na' nn' nc' h', getNames k bs names = .error e → Hs h' (pt rb T_api_Response (r.l na' nn' nc') :: M) → K (.pan (endV e)) (wire_port_response.Xpan) h') →
      wire_port_response.L2 (some ⟨pb, 0, none⟩) (some ⟨rb, 0, none⟩) (m : Int) (i : Int) K h := by
  intro k
  induction k with
  | zero =>
    intro i bs names na nn nc h hi hl H hb kk kx
    refine wire_port_response.L2_of ?_
    exact br_false (by simp; omega) (kk bs names na nn nc h rfl H)
  | succ k ih =>
    intro i bs names na nn nc h hi hl H hb kk kx
    simp only [getNames] at kk kx
    refine wire_port_response.L2_of ?_
    refine br_true (by simp; omega) ?_
    dsimp only
    have H1 := H.new (t := T_string) (cs := #[.string (⟨#[]⟩ : ByteArray)]) (xs := [.string (⟨#[]⟩ : ByteArray)])
    generalize Array.push h _ = h1 at H1 ⊢
    generalize h.size = s9 at H1 ⊢
    refine H1.sto (off := 0) (by simp) ?_
    intro h2 H2
    obtain ⟨a, n, c, f, H3⟩ := portG.1 (H2.sel 4 [1, 0, 2, 3])
    refine ⟨false, H3.cell (off := 1) rfl, br_false rfl ?_⟩
    replace H2 : Hs h2 (pt s9 T_string [.string (⟨#[]⟩ : ByteArray)] :: portA L pb false bs :: pt rb T_api_Response (r.l na nn nc) :: nmA L false na nn nc names :: M) := H2
    refine wire_port_response.J1_of ?_
    refine ⟨_, H2.cell (off := 0) rfl, ?_⟩
    dsimp only
    have H5 := H2.new (t := T_int) (cs := #[.int .i64 0]) (xs := [.int .i64 0])
    generalize Array.push h2 _ = h5 at H5 ⊢
    generalize h2.size = nb at H5 ⊢
    refine H5.sto (off := 0) (by simp) ?_
    intro h6 H6
    refine small_h (rb := nb) (off := 0) (x := ((⟨#[]⟩ : ByteArray).size : Int)) (M := pt s9 T_string [.string (⟨#[]⟩ : ByteArray)] :: pt rb T_api_Response (r.l na nn nc) :: nmA L false na nn nc names :: M) (H6.sel 5 [2, 0, 1, 3, 4]) (fun h H => hM h H.tl.tl.tl) rfl (by omega) (fun q => by cases q) ?_ ?_
    · intro b1 x1 h7 e1 H7
      cases bs with
      | nil => simp [smallS] at e1
      | cons b l =>
        simp only [smallS, Except.ok.injEq, Prod.mk.injEq] at e1
        obtain ⟨rfl, rfl⟩ := e1
        simp only at kk kx
        refine ⟨rfl, _, H7.m1.cell (off := 0) rfl, ?_⟩
        refine bytes_h (rb := s9) (off := 0) (s := ⟨#[]⟩) (k := b) (M := pt nb T_int [.int .i64 (b : Int)] :: pt rb T_api_Response (r.l na nn nc) :: nmA L false na nn nc names :: M) (H7.sel 5 [0, 2, 1, 3, 4]) (fun h H => hM h H.tl.tl.tl) rfl (by simp at hb; omega) (fun q => by cases q) ?_ ?_
        · intro b2 s2 h8 e2 H8
          simp only [bytesS] at e2
          split at e2 <;> simp only [Except.ok.injEq, Prod.mk.injEq, reduceCtorEq] at e2
          rename_i hle
          obtain ⟨rfl, rfl⟩ := e2
          simp only [if_pos hle] at kk kx
          obtain ⟨a, n, c, f, H9⟩ := portG.1 H8
          refine ⟨rfl, false, H9.cell (off := 1) rfl, br_true rfl ?_⟩
          refine ⟨_, _, _, (H8.sel 5 [3, 0, 1, 2, 4]).cell (off := 5) rfl, _, H8.m1.cell (off := 0) rfl, ?_⟩
          have hnn : nn = i := by have := (H8.sel 5 [4, 0, 1, 2, 3]).own_len; simp at this; omega
          refine (H8.sel 5 [4, 0, 3, 1, 2]).app_vals (ys := [.string (st (l.take b))]) (m := 1) E_sl_string rfl rfl (by simp [oneC]) ?_ (by omega) (by omega)
          intro h10 a10 c10 H10
          refine ⟨_, _, _, rfl, ?_⟩
          refine (H10.sel 3 [2, 0, 1]).sto (off := 5) (by simp [Rsp.l]) ?_
          intro h11 H11
          refine wire_port_response.J2_of ?_
          dsimp only
          rw [inc (by omega)]
          have H12 : Hs h11 (portA L pb false (l.drop b) :: pt rb T_api_Response (r.l a10 (nn + 1) c10) :: nmA L false a10 (nn + 1) c10 (names ++ [st (l.take b)]) :: M) := by
            have e : sV names ++ [.string (st (l.take b))] = sV (names ++ [st (l.take b)]) := by simp [sV]
            rw [e] at H11
            exact H11.sel 5 [2, 0, 1]
          refine ih (i + 1) _ _ a10 (nn + 1) c10 h11 (by omega) (by simp [hl]) H12 (by simp at hb ⊢; omega) kk kx
        · intro e h8 he H8
          simp only [bytesS] at he
          split at he <;> simp only [Except.error.injEq, reduceCtorEq] at he
          rename_i hle
          exact kx e na nn nc h8 (by rw [if_neg hle, he]) (H8.sel 4 [2])
    · intro e h7 he H7
      cases bs with
      | nil =>
        simp only [smallS, Except.error.injEq] at he
        exact kx e na nn nc h7 (by rw [he]) (H7.sel 4 [2])
      | cons b l => simp [smallS] at he

theorem okb {α β : Type} {x : α} {f : α → Except Int β} : (Except.ok x >>= f : Except Int β) = f x := rfl
theorem erb {α β : Type} {e : Int} {f : α → Except Int β} : ((Except.error e : Except Int α) >>= f : Except Int β) = Except.error e := rfl
theorem shortS_len {put : Bool} {bs bs' : List Nat} {x x' : Int} (e : shortS put bs x = .ok (bs', x')) : bs'.length ≤ bs.length + 65536 := by
  cases put <;> simp only [shortS] at e
  · split at e <;> simp only [Except.ok.injEq, Prod.mk.injEq, reduceCtorEq] at e
    rw [← e.1]; simp; omega
  · simp only [Except.ok.injEq, Prod.mk.injEq] at e
    rw [← e.1]; simp [dig_len]
theorem response_h {pb rb nn nc : Nat} {na : OA} {put : Bool} {bs : List Nat} {r : Rsp} (H : Hs h (portA L pb put bs :: pt rb T_api_Response (r.l na nn nc) :: nmA L put na nn nc r.names :: M)) (hM : ∀ h, Hs h M → Hs h L) (hb : bs.length < 2 ^ 35) (hd : r.data.size < 2 ^ 62)
    (hc : put = true → 0 ≤ r.code ∧ r.code < 65536) (hN : put = true → r.names.length ≤ 64) (hG : put = false → r.names = [])
    (kk : ∀ bs' r' na' nn' nc' h', rspS put bs r = .ok (bs', r') → Hs h' (portA L pb put bs' :: pt rb T_api_Response (r'.l na' nn' nc') :: nmA L put na' nn' nc' r'.names :: M) → Q (.tuple #[]) h')
    (kx : ∀ e xs h', rspS put bs r = .error e → List.length xs = 8 → Hs h' (pt rb T_api_Response xs :: M) → X (endV e) h') :
    SpecT PP F_wire_port_response [.pointer (some ⟨pb, 0, none⟩), .pointer (some ⟨rb, 0, none⟩)] h Q X := by
  refine wire_port_response.door ?_
  refine ⟨_, H.m1.cell (off := 0) rfl, ?_⟩
  dsimp only
  have H1 := H.new (t := T_int) (cs := #[.int .i64 0]) (xs := [.int .i64 0])
  generalize Array.push h _ = h1 at H1 ⊢
  generalize h.size = cb at H1 ⊢
  refine H1.sto (off := 0) (by simp) ?_
  intro h2 H2
  have hnl : nn = r.names.length := by
    cases put with
    | true => exact (nm_put.1 (H2.sel 4 [3, 0, 1, 2])).1.1.symm
    | false => have := (H2.sel 4 [3, 0, 1, 2]).own_len; simpa using this.symm
  refine short_h (rb := cb) (off := 0) (x := r.code) (M := pt rb T_api_Response (r.l na nn nc) :: nmA L put na nn nc r.names :: M) (H2.sel 4 [1, 0, 2, 3]) (fun h H => hM h H.tl.tl) rfl (by omega) hc ?_ ?_
  rotate_left
  · intro e h3 e1 H3
    exact kx e (r.l na nn nc) h3 (by simp only [rspS, e1]; rfl) rfl (H3.sel 3 [1])
  intro b0 c0 h3 e1 H3
  refine ⟨rfl, _, H3.m1.cell (off := 0) rfl, ?_⟩
  refine (H3.sel 4 [2, 0, 1, 3]).sto (off := 0) (by simp [Rsp.l]) ?_
  intro h4 H4
  replace H4 : Hs h4 (pt rb T_api_Response (Rsp.l { r with code := c0 } na nn nc) :: portA L pb put b0 :: pt cb T_int [.int .i64 c0] :: nmA L put na nn nc r.names :: M) := H4
  have H5 := H4.new (t := T_p_int) (cs := #[(.pointer (some ⟨rb, 1, none⟩)), (.pointer (some ⟨rb, 2, none⟩)), (.pointer (some ⟨rb, 3, none⟩)), (.pointer (some ⟨rb, 6, none⟩)), (.pointer (some ⟨rb, 7, none⟩))]) (xs := [(.pointer (some ⟨rb, 1, none⟩)), (.pointer (some ⟨rb, 2, none⟩)), (.pointer (some ⟨rb, 3, none⟩)), (.pointer (some ⟨rb, 6, none⟩)), (.pointer (some ⟨rb, 7, none⟩))])
  show wire_port_response.L1 (some ⟨pb, 0, none⟩) (some ⟨rb, 0, none⟩) (some ⟨h4.size, 0, none⟩) 5 5 5 0 (wire_port_response.K1 Q X) (h4.push (.cells #[(.pointer (some ⟨rb, 1, none⟩)), (.pointer (some ⟨rb, 2, none⟩)), (.pointer (some ⟨rb, 3, none⟩)), (.pointer (some ⟨rb, 6, none⟩)), (.pointer (some ⟨rb, 7, none⟩))] T_p_int (0, 0)))
  generalize Array.push h4 _ = h5 at H5 ⊢
  generalize h4.size = ib at H5 ⊢
  have hb0 := shortS_len e1
  generalize hps : ([(.pointer (some ⟨rb, 1, none⟩)), (.pointer (some ⟨rb, 2, none⟩)), (.pointer (some ⟨rb, 3, none⟩)), (.pointer (some ⟨rb, 6, none⟩)), (.pointer (some ⟨rb, 7, none⟩))] : List Value) = ps at H5
  have H6 : Hs h5 (portA L pb put b0 :: pt rb T_api_Response (Rsp.l { r with code := c0 } na nn nc) :: pt ib T_p_int ps :: nmA L put na nn nc r.names :: M) := H5.sel 5 [2, 1, 0, 4]
  have hp : ∀ h, Hs h (pt ib T_p_int ps :: nmA L put na nn nc r.names :: M) → Rd h (some ⟨ib, 0, none⟩) ps := fun h H => H.ptrd (by simp)
  have hM2 : ∀ h, Hs h (pt ib T_p_int ps :: nmA L put na nn nc r.names :: M) → Hs h L := fun h H => hM h H.tl.tl
  have bad : ∀ e xs h', numsS put b0 { r with code := c0 } = .error e → List.length xs = 8 → Hs h' (pt rb T_api_Response xs :: pt ib T_p_int ps :: nmA L put na nn nc r.names :: M) → (wire_port_response.K1 Q X) (.pan (endV e)) (wire_port_response.Xpan) h' := fun e xs h' he hl H' =>
    wire_port_response.L1_Xpan (kx e xs h' (by simp only [rspS, e1, okb, he, erb] <;> rfl) hl (H'.sel 3 [0]))
  refine nums_round (i := 0) (off := 1) (x := r.txn) H6 hM2 hp (by decide) (by rw [← hps]; rfl) rfl (by omega) ?_ (fun e h' he H' => bad e _ h' (by simp only [numsS, he, erb] <;> rfl) rfl H')
  intro b1 x1 h7 f1 H7
  refine nums_round (i := 1) (off := 2) (x := r.at') H7 hM2 hp (by decide) (by rw [← hps]; rfl) rfl (by have := numS_len f1; omega) ?_ (fun e h' he H' => bad e _ h' (by simp only [numsS, f1, okb, he, erb] <;> rfl) rfl H')
  intro b2 x2 h8 f2 H8
  refine nums_round (i := 2) (off := 3) (x := r.size) H8 hM2 hp (by decide) (by rw [← hps]; rfl) rfl (by have := numS_len f1; have := numS_len f2; omega) ?_ (fun e h' he H' => bad e _ h' (by simp only [numsS, f1, f2, okb, he, erb] <;> rfl) rfl H')
  intro b3 x3 h9 f3 H9
  refine nums_round (i := 3) (off := 6) (x := r.ub) H9 hM2 hp (by decide) (by rw [← hps]; rfl) rfl (by have := numS_len f1; have := numS_len f2; have := numS_len f3; omega) ?_ (fun e h' he H' => bad e _ h' (by simp only [numsS, f1, f2, f3, okb, he, erb] <;> rfl) rfl H')
  intro b4 x4 h10 f4 H10
  refine nums_round (i := 4) (off := 7) (x := r.ue) H10 hM2 hp (by decide) (by rw [← hps]; rfl) rfl (by have := numS_len f1; have := numS_len f2; have := numS_len f3; have := numS_len f4; omega) ?_ (fun e h' he H' => bad e _ h' (by simp only [numsS, f1, f2, f3, f4, okb, he, erb] <;> rfl) rfl H')
  intro b5 x5 h11 f5 H11
  have hb5 : b5.length < 2 ^ 36 := by have := numS_len f1; have := numS_len f2; have := numS_len f3; have := numS_len f4; have := numS_len f5; omega
  have hnums : numsS put b0 { r with code := c0 } = .ok (b5, { r with code := c0, txn := x1, at' := x2, size := x3, ub := x4, ue := x5 }) := by simp only [numsS, f1, f2, f3, f4, f5, okb]
  generalize hr1 : ({ r with code := c0, txn := x1, at' := x2, size := x3, ub := x4, ue := x5 } : Rsp) = r1 at hnums
  have hr1n : r1.names = r.names := by rw [← hr1]
  replace H11 : Hs h11 (portA L pb put b5 :: pt rb T_api_Response (Rsp.l r1 na nn nc) :: pt ib T_p_int ps :: nmA L put na nn nc r.names :: M) := by rw [← hr1]; exact H11
  have hdat : r1.data = r.data := by rw [← hr1]
  clear bad f1 f2 f3 f4 f5 hr1
  refine wire_port_response.L1_of (br_false (by simp) ?_)
  refine wire_port_response.L1_X0 ?_
  refine text_h (rb := rb) (off := 4) (s := r.data) (most := 16384) H11 hM2 (by rw [← hdat]; rfl) (by omega) (by decide) hd ?_ ?_
  rotate_left
  · intro e h12 e2 H12
    exact kx e _ h12 (by simp only [rspS, e1, okb, hnums, e2, erb] <;> rfl) rfl (H12.sel 3 [0])
  intro b6 d h12 e2 H12
  have hb6 := textS_len (by decide) hd e2
  replace H12 : Hs h12 (portA L pb put b6 :: pt rb T_api_Response (Rsp.l { r1 with data := d } na nn nc) :: pt ib T_p_int ps :: nmA L put na nn nc r.names :: M) := H12
  refine ⟨rfl, _, _, _, H12.m1.cell (off := 5) rfl, ?_⟩
  dsimp only
  have H13 := H12.new (t := T_int) (cs := #[.int .i64 0]) (xs := [.int .i64 0])
  generalize Array.push h12 _ = h13 at H13 ⊢
  generalize h12.size = mb at H13 ⊢
  refine H13.sto (off := 0) (by simp) ?_
  intro h14 H14
  replace H14 : Hs h14 (pt mb T_int [.int .i64 (nn : Int)] :: portA L pb put b6 :: pt rb T_api_Response (Rsp.l { r1 with data := d } na nn nc) :: pt ib T_p_int ps :: nmA L put na nn nc r.names :: M) := H14
  rw [hnl] at H14
  refine small_h (rb := mb) (off := 0) (x := (r.names.length : Int)) (M := pt rb T_api_Response (Rsp.l { r1 with data := d } na r.names.length nc) :: nmA L put na r.names.length nc r.names :: M) (H14.sel 5 [1, 0, 2, 4]) (fun h H => hM h H.tl.tl) rfl (by omega) (fun q => by have := hN q; omega) ?_ ?_
  rotate_left
  · intro e h15 e3 H15
    exact kx e _ h15 (by simp only [rspS, e1, okb, hnums, e2, manyS, e3, erb] <;> rfl) rfl (H15.sel 3 [1])
  intro b7 m h15 e3 H15
  refine ⟨rfl, _, H15.m1.cell (off := 0) rfl, ?_⟩
  refine is_h (fun hv => ⟨rfl, ?_⟩) fun hv => ?_
  rotate_left
  · have : ¬ m ≤ 64 := by simpa using hv
    exact kx 190 _ h15 (by simp only [rspS, e1, okb, hnums, e2, manyS, e3, if_neg this, erb] <;> rfl) rfl (H15.sel 4 [2])
  have hm : m ≤ 64 := by simpa using hv
  refine ⟨_, H15.m1.cell (off := 0) rfl, ?_⟩
  replace H15 : Hs h15 (portA L pb put b7 :: pt rb T_api_Response (Rsp.l { r1 with data := d } na r.names.length nc) :: nmA L put na r.names.length nc r.names :: M) := H15.sel 4 [0, 2, 3]
  cases put with
  | true =>
    simp only [smallS, Except.ok.injEq, Prod.mk.injEq] at e3
    obtain ⟨rfl, rfl⟩ := e3
    have em : manyS true b6 r.names.length = .ok (b6 ++ [r.names.length], r.names.length) := by simp [manyS, smallS, hN rfl]; omega
    have H16 : Hs h15 (portA L pb true (b6 ++ [r.names.length]) :: pt rb T_api_Response (Rsp.l { r1 with data := d } na r.names.length nc) :: nmA L true na r.names.length nc ({ r1 with data := d } : Rsp).names :: M) := by rw [show ({ r1 with data := d } : Rsp).names = r.names from hr1n]; exact H15
    have := names_put (K := wire_port_response.K3 Q X) (r := { r1 with data := d }) hM (by rw [show ({ r1 with data := d } : Rsp).names = r.names from hr1n]; have := hN rfl; omega) r.names.length 0 (b6 ++ [r.names.length]) h15 (by rw [show ({ r1 with data := d } : Rsp).names = r.names from hr1n]; omega) H16 (by have := hN rfl; simp; omega) ?_ ?_
    · rw [show ({ r1 with data := d } : Rsp).names = r.names from hr1n] at this
      exact this
    · intro bs' h' e H'
      rw [show ({ r1 with data := d } : Rsp).names = r.names from hr1n, List.drop_zero] at e
      refine wire_port_response.L2_X2 (kk bs' { r1 with data := d, names := r.names } na r.names.length nc h' (by simp only [rspS, e1, okb, hnums, e2, em, namesS, e]) ?_)
      rw [show ({ r1 with data := d } : Rsp).names = r.names from hr1n] at H'
      exact H'
    · intro e h' he H'
      rw [show ({ r1 with data := d } : Rsp).names = r.names from hr1n, List.drop_zero] at he
      exact wire_port_response.L2_Xpan (kx e _ h' (by simp only [rspS, e1, okb, hnums, e2, em, namesS, he, erb] <;> rfl) rfl H')
  | false =>
    have hn0 := hG rfl
    have hm0 : 0 ≤ m := by
      cases b6 with
      | nil => simp [smallS] at e3
      | cons x l => simp only [smallS, Except.ok.injEq, Prod.mk.injEq] at e3; omega
    obtain ⟨mm, rfl⟩ := Int.eq_ofNat_of_zero_le hm0
    have em : manyS false b6 r.names.length = .ok (b7, mm) := by simp only [manyS, e3, if_pos hm]; rfl
    have hb7 : b7.length ≤ b6.length := by
      cases b6 with
      | nil => simp [smallS] at e3
      | cons x l => simp only [smallS, Except.ok.injEq, Prod.mk.injEq] at e3; rw [← e3.1]; simp
    refine names_get (r := { r1 with data := d }) hM (m := mm) (by omega) mm 0 b7 r.names na r.names.length nc h15 (by omega) (by rw [hn0]; rfl) H15 (by omega) ?_ ?_
    · intro bs' ns' na' nn' nc' h' e H'
      refine wire_port_response.L2_X2 (kk bs' { r1 with data := d, names := ns' } na' nn' nc' h' (by simp only [rspS, e1, okb, hnums, e2, em, namesS, e]) H')
    · intro e na' nn' nc' h' he H'
      exact wire_port_response.L2_Xpan (kx e _ h' (by simp only [rspS, e1, okb, hnums, e2, em, namesS, he, erb]) rfl H')
end Go.Proofs.Ytnidhafhgclakaa

set_option linter.unusedVariables false
set_option linter.unusedSimpArgs false
namespace Go.Proofs.Ytnidhafhgclakaa
open Go Go.HW
variable {h : Heap} {L M : List Assn} {Q X : Value → Heap → Prop}
def rspW (r : Rsp) : Bool := within r.txn && (within r.at' && (within r.size && (within r.ub && within r.ue)))
/-- What PutResponse answers. -/
def putRsp (r : Rsp) : Int × List Nat :=
  if rspW r = true then
    if 0 ≤ r.code ∧ r.code ≤ 65535 then
      if r.names.length ≤ 64 then
        match rspS true [] r with
        | .error e => (e, [])
        | .ok (bs, _) => if bs.length ≤ 20000 then (0, bs) else (2, [])
      else (2, [])
    else (1, [])
  else (1, [])
theorem putr_round {K : EP} {r1 e3 : Addr} {b i : Nat} {x : Int} {xs : List Value} (g : Rd h (some ⟨b, 0, none⟩) xs) (hi : i < 5) (hx : xs[i]? = some (.int .i64 x))
    (kk : within x = true → wire_PutResponse.L1 r1 none 0 0 e3 (some ⟨b, 0, none⟩) 5 5 5 ((i + 1 : Nat) : Int) K h) (kx : within x = false → K (.pan (endV 1)) (wire_PutResponse.Xpan none 0 0 e3) h) :
    wire_PutResponse.L1 r1 none 0 0 e3 (some ⟨b, 0, none⟩) 5 5 5 (i : Int) K h := by
  refine wire_PutResponse.L1_of ?_
  refine br_true (by simp; omega) ?_
  refine idx E_sl_int g (by omega) (by omega) (by simpa using hx) ?_
  intro t ht
  refine ⟨x, ht, ?_⟩
  have jn : within x = true → wire_PutResponse.J1 r1 none 0 0 e3 (some ⟨b, 0, none⟩) 5 5 5 (i : Int) K h := by
    intro hw
    refine wire_PutResponse.J1_of ?_
    dsimp only
    rw [inc (by omega)]
    exact kk hw
  dsimp only
  by_cases h0 : 0 ≤ x
  · refine br_true (by simpa using h0) (is_h (fun hb => ⟨rfl, jn ?_⟩) fun hb => kx ?_)
    · exact within_iff.2 ⟨h0, by simpa using hb⟩
    · have : ¬ x ≤ 1000000000 := by simpa using hb
      simp [within, this]
  · exact br_false (by simpa using h0) (is_h (fun hb => by cases hb) fun hb => kx (by simp [within, h0]))
theorem PutResponse_h {r : Rsp} {na : OA} {nn nc : Nat} (H : Hs h L) (hnn : r.names.length = nn) (hnc : nn ≤ nc) (g : Gv L na (sV r.names)) (hs : r.data.size < 2 ^ 62)
    (kk : ∀ h' a n c, (putRsp r).2.length = n → Hs h' (own a n c T_uint8 1 (nV (putRsp r).2) :: L) → Q (.tuple #[.slice a n c, .int .i64 (putRsp r).1]) h') : SpecH PP F_wire_PutResponse [r.v na nn nc] h Q := by
  refine SpecT.toH (X := fun _ _ => False) (wire_PutResponse.door ?_) (fun _ _ k => k)
  dsimp only
  have H1 := H.new (t := T_api_Response) (cs := #[(.int .i64 r.code), (.int .i64 r.txn), (.int .i64 r.at'), (.int .i64 r.size), (.string r.data), (.slice na nn nc), (.int .i64 r.ub), (.int .i64 r.ue)]) (xs := r.l na nn nc)
  have H2 := H1.new (t := T_api_Errno) (cs := #[.int .i64 0]) (xs := [.int .i64 0])
  generalize Array.push (Array.push h _) _ = h2 at H2 ⊢
  generalize Array.size (Array.push h _) = eb at H2 ⊢
  generalize h.size = rb at H2 ⊢
  clear H1
  have fail : ∀ (e e0 : Int) (M : List Assn) (h' : Heap), putRsp r = (e, []) → (∀ h, Hs h M → Hs h L) → Hs h' (pt eb T_api_Errno [.int .i64 e0] :: M) →
      wire_PutResponse.lv none 0 0 ⟨eb, 0, none⟩ Q (fun _ _ => False) [(F_wire_caught, [.pointer (some ⟨eb, 0, none⟩)], [])] (some (endV e)) h' := by
    intro e e0 M h' he hM H'
    refine wire_PutResponse.lv_cons ⟨by kernel_rfl, caughtS H' fun h3 H3 => wire_PutResponse.lv_nil ⟨e, H3.cell (off := 0) rfl, ?_⟩⟩
    have := kk h3 none 0 0 (by rw [he]; rfl)
    rw [he] at this
    exact this ((hM h3 H3.tl).own_nil T_uint8 1)
  refine ⟨r.txn, H2.m1.cell (off := 1) rfl, r.at', H2.m1.cell (off := 2) rfl, r.size, H2.m1.cell (off := 3) rfl, r.ub, H2.m1.cell (off := 6) rfl, r.ue, H2.m1.cell (off := 7) rfl, ?_⟩
  have H3 := H2.new (t := T_int) (cs := #[.int .i64 r.txn, .int .i64 r.at', .int .i64 r.size, .int .i64 r.ub, .int .i64 r.ue]) (xs := [.int .i64 r.txn, .int .i64 r.at', .int .i64 r.size, .int .i64 r.ub, .int .i64 r.ue])
  generalize Array.push h2 _ = h3 at H3 ⊢
  generalize h2.size = ib at H3 ⊢
  have rd := H3.ptrd (off := 0) (ys := [.int .i64 r.txn, .int .i64 r.at', .int .i64 r.size, .int .i64 r.ub, .int .i64 r.ue]) rfl
  have nw : rspW r = false → (wire_PutResponse.K1 Q (fun _ _ => False) [(F_wire_caught, [.pointer (some ⟨eb, 0, none⟩)], [])]) (.pan (endV 1)) (wire_PutResponse.Xpan none 0 0 ⟨eb, 0, none⟩) h3 := by
    intro hw
    exact wire_PutResponse.L1_Xpan (fail 1 0 (pt ib T_int [.int .i64 r.txn, .int .i64 r.at', .int .i64 r.size, .int .i64 r.ub, .int .i64 r.ue] :: pt rb T_api_Response (r.l na nn nc) :: L) h3 (by simp only [putRsp, if_neg (show ¬ rspW r = true by rw [hw]; simp)]) (fun h H => H.tl.tl) H3.m1)
  refine putr_round (i := 0) rd (by decide) rfl (fun w1 => ?_) (fun w => nw (by simp [rspW, w]))
  refine putr_round (i := 1) rd (by decide) rfl (fun w2 => ?_) (fun w => nw (by simp [rspW, w]))
  refine putr_round (i := 2) rd (by decide) rfl (fun w3 => ?_) (fun w => nw (by simp [rspW, w]))
  refine putr_round (i := 3) rd (by decide) rfl (fun w4 => ?_) (fun w => nw (by simp [rspW, w]))
  refine putr_round (i := 4) rd (by decide) rfl (fun w5 => ?_) (fun w => nw (by simp [rspW, w]))
  have hw : rspW r = true := by simp [rspW, w1, w2, w3, w4, w5]
  refine wire_PutResponse.L1_of (br_false (by simp) ?_)
  refine wire_PutResponse.L1_X0 ?_
  have Hr : Hs h3 (pt rb T_api_Response (r.l na nn nc) :: pt eb T_api_Errno [.int .i64 0] :: L) := H3.tl.m1
  clear H3 rd nw
  have bad1 : ¬ (0 ≤ r.code ∧ r.code ≤ 65535) → wire_PutResponse.lv none 0 0 ⟨eb, 0, none⟩ Q (fun _ _ => False) [(F_wire_caught, [.pointer (some ⟨eb, 0, none⟩)], [])] (some (endV 1)) h3 := fun hc =>
    fail 1 0 (pt rb T_api_Response (r.l na nn nc) :: L) h3 (by simp only [putRsp, if_pos hw, if_neg hc]) (fun h H => H.tl) Hr.m1
  have good : 0 ≤ r.code ∧ r.code ≤ 65535 → wire_PutResponse.J2 ⟨rb, 0, none⟩ none 0 0 ⟨eb, 0, none⟩ Q (fun _ _ => False) [(F_wire_caught, [.pointer (some ⟨eb, 0, none⟩)], [])] h3 := by
    intro hc
    refine wire_PutResponse.J2_of ?_
    refine ⟨_, _, _, Hr.cell (off := 5) rfl, ?_⟩
    refine is_h (fun hv => ⟨rfl, ?_⟩) fun hv => fail 2 0 (pt rb T_api_Response (r.l na nn nc) :: L) h3 ?_ (fun h H => H.tl) Hr.m1
    rotate_left
    · have : ¬ (nn : Int) ≤ 64 := by simpa using hv
      simp only [putRsp, if_pos hw, if_pos hc, if_neg (show ¬ r.names.length ≤ 64 by omega)]
    have hn64 : r.names.length ≤ 64 := by have : (nn : Int) ≤ 64 := by simpa using hv
                                          omega
    have hput : putRsp r = match rspS true [] r with
        | .error e => (e, [])
        | .ok (bs, _) => if bs.length ≤ 20000 then (0, bs) else (2, []) := by simp only [putRsp, if_pos hw, if_pos hc, if_pos hn64]
    dsimp only
    have H4 := Hr.new (t := T_wire_port) (cs := #[.slice none 0 0, .bool true]) (xs := port none 0 0 true)
    generalize Array.push h3 _ = h4 at H4 ⊢
    generalize h3.size = pb at H4 ⊢
    have H5 : Hs h4 (portA L pb true [] :: pt rb T_api_Response (r.l na nn nc) :: nmA L true na nn nc r.names :: pt eb T_api_Errno [.int .i64 0] :: L) := by
      refine portP.2 ⟨none, 0, 0, ?_⟩
      have H6 := (nm_put (L := L)).2 ⟨⟨hnn, hnc, g⟩, H4.own_nil T_uint8 1⟩
      exact H6.sel 5 [2, 1, 3, 0, 4]
    refine response_h H5 (fun h H => H.tl) (by simp) hs (fun _ => by omega) (fun _ => hn64) (fun q => by cases q) ?_ ?_
    · intro bs' r' na' nn' nc' h6 e1 H6
      rw [e1] at hput
      obtain ⟨a, n, c, H7⟩ := portP.1 H6
      have hl : bs'.length = n := by have := H7.m1.own_len; simpa [nV_len] using this
      refine ⟨rfl, a, n, c, H7.cell (off := 0) rfl, ?_⟩
      refine is_h (fun hv => ⟨rfl, ?_⟩) fun hv => fail 2 0 L h6 ?_ (fun h H => H) (H7.sel 5 [4])
      rotate_left
      · have : ¬ (n : Int) ≤ 20000 := by simpa using hv
        simp only [hput, if_neg (show ¬ bs'.length ≤ 20000 by omega)]
      have hle : bs'.length ≤ 20000 := by have : (n : Int) ≤ 20000 := by simpa using hv
                                          omega
      simp only [if_pos hle] at hput
      refine ⟨a, n, c, H7.cell (off := 0) rfl, ?_⟩
      refine (H7.sel 5 [4, 1]).sto (off := 0) (by simp) ?_
      intro h8 H8
      refine wire_PutResponse.lv_cons ⟨by kernel_rfl, caughtN (wire_PutResponse.lv_nil ⟨0, H8.cell (off := 0) rfl, ?_⟩)⟩
      have := kk h8 a n c
      rw [hput] at this
      exact this hl H8.tl
    · intro e xs h6 he hl H6
      exact fail e 0 L h6 (by rw [hput, he]) (fun h H => H) H6.tl
  refine ⟨r.code, Hr.cell (off := 0) rfl, ?_⟩
  dsimp only
  by_cases h0 : 0 ≤ r.code
  · refine br_true (by simpa using h0) ⟨r.code, Hr.cell (off := 0) rfl, is_h (fun hb => ⟨rfl, good ⟨h0, ?_⟩⟩) fun hb => bad1 ?_⟩
    · simpa using hb
    · have : ¬ r.code ≤ 65535 := by simpa using hb
      omega
  · exact br_false (by simpa using h0) (is_h (fun hb => by cases hb) fun hb => bad1 (by omega))

/-! ### A response is got -/
theorem getNames_err : ∀ (k : Nat) (bs : List Nat) (acc : List ByteArray) (e : Int), getNames k bs acc = .error e → e = 190
  | 0, bs, acc, e, h => by simp [getNames] at h
  | k + 1, [], acc, e, h => by simp only [getNames, Except.error.injEq] at h; exact h.symm
  | k + 1, b :: l, acc, e, h => by
    simp only [getNames] at h
    split at h
    · exact getNames_err k _ _ e h
    · simp only [Except.error.injEq] at h; exact h.symm
theorem numsS_err {bs : List Nat} {r : Rsp} {e : Int} (h : numsS false bs r = .error e) : e = 190 := by
  unfold numsS at h
  cases h1 : numS false bs r.txn with
  | error e1 => rw [h1] at h; cases h; exact numS_err h1
  | ok q1 =>
    obtain ⟨b1, x1⟩ := q1
    simp only [h1, okb] at h
    cases h2 : numS false b1 r.at' with
    | error e1 => rw [h2] at h; cases h; exact numS_err h2
    | ok q2 =>
      obtain ⟨b2, x2⟩ := q2
      simp only [h2, okb] at h
      cases h3 : numS false b2 r.size with
      | error e1 => rw [h3] at h; cases h; exact numS_err h3
      | ok q3 =>
        obtain ⟨b3, x3⟩ := q3
        simp only [h3, okb] at h
        cases h4 : numS false b3 r.ub with
        | error e1 => rw [h4] at h; cases h; exact numS_err h4
        | ok q4 =>
          obtain ⟨b4, x4⟩ := q4
          simp only [h4, okb] at h
          cases h5 : numS false b4 r.ue with
          | error e1 => rw [h5] at h; cases h; exact numS_err h5
          | ok q5 => simp only [h5, okb] at h; cases h
theorem rspS_err {bs : List Nat} {r : Rsp} {e : Int} (h : rspS false bs r = .error e) : e = 190 := by
  unfold rspS at h
  cases h1 : shortS false bs r.code with
  | error e1 =>
    rw [h1] at h; cases h
    simp only [shortS] at h1
    split at h1 <;> simp only [Except.error.injEq, reduceCtorEq] at h1
    exact h1.symm
  | ok q1 =>
    obtain ⟨b1, x1⟩ := q1
    simp only [h1, okb] at h
    cases h2 : numsS false b1 { r with code := x1 } with
    | error e1 => rw [h2] at h; cases h; exact numsS_err h2
    | ok q2 =>
      obtain ⟨b2, x2⟩ := q2
      simp only [h2, okb] at h
      cases h3 : textS false b2 r.data 16384 with
      | error e1 => rw [h3] at h; cases h; exact textS_err h3
      | ok q3 =>
        obtain ⟨b3, x3⟩ := q3
        simp only [h3, okb] at h
        cases h4 : manyS false b3 r.names.length with
        | error e1 =>
          rw [h4] at h; cases h
          simp only [manyS, smallS] at h4
          cases b3 with
          | nil => simp only [Except.error.injEq] at h4; exact h4.symm
          | cons b l =>
            simp only at h4
            split at h4 <;> simp only [Except.error.injEq, reduceCtorEq] at h4
            exact h4.symm
        | ok q4 =>
          obtain ⟨b4, x4⟩ := q4
          simp only [h4, okb] at h
          cases h5 : namesS false x4 b4 r.names with
          | error e1 => rw [h5] at h; cases h; exact getNames_err _ _ _ _ h5
          | ok q5 => simp only [h5, okb] at h; cases h
/-- What GetResponse answers. -/
def getRsp (bs : List Nat) : Int × Rsp :=
  if bs.length ≤ 20000 then
    match rspS false bs Rsp.zero with
    | .error e => (e, Rsp.zero)
    | .ok (b, r) => if b.length = 0 then (0, r) else (190, Rsp.zero)
  else (190, Rsp.zero)
theorem GetResponse_h {a : OA} {n c : Nat} {bs : List Nat} (g : Gv L a (nV bs)) (hn : bs.length = n) (hnc : n ≤ c) (hn0 : a = none → c = 0) (h8 : ∀ x ∈ bs, x < 256) (H : Hs h L)
    (kk : ∀ h' na nn nc, (getRsp bs).2.names.length = nn → Hs h' (own na nn nc T_string 1 (sV (getRsp bs).2.names) :: L) → Q (.tuple #[(getRsp bs).2.v na nn nc, .int .i64 (getRsp bs).1]) h') : SpecH PP F_wire_GetResponse [.slice a n c] h Q := by
  refine SpecT.toH (X := fun _ _ => False) (wire_GetResponse.door ?_) (fun _ _ k => k)
  dsimp only
  have H1 := H.new (t := T_api_Response) (cs := #[(.int .i64 0), (.int .i64 0), (.int .i64 0), (.int .i64 0), (.string (⟨#[]⟩ : ByteArray)), (.slice none 0 0), (.int .i64 0), (.int .i64 0)]) (xs := Rsp.zero.l none 0 0)
  have H2 := H1.new (t := T_api_Errno) (cs := #[.int .i64 0]) (xs := [.int .i64 0])
  generalize Array.push (Array.push h _) _ = h2 at H2 ⊢
  generalize Array.size (Array.push h _) = eb at H2 ⊢
  generalize h.size = rb at H2 ⊢
  clear H1
  have fail : ∀ (e e0 : Int) (xs : List Value) (M : List Assn) (h' : Heap), getRsp bs = (e, Rsp.zero) → e ≠ 0 → List.length xs = 8 → (∀ h, Hs h M → Hs h L) → Hs h' (pt eb T_api_Errno [.int .i64 e0] :: pt rb T_api_Response xs :: M) →
      wire_GetResponse.lv ⟨rb, 0, none⟩ ⟨eb, 0, none⟩ Q (fun _ _ => False) [(F_wire_caught, [.pointer (some ⟨eb, 0, none⟩)], []), (F_wire_GetResponse_1, [], [.pointer (some ⟨eb, 0, none⟩), .pointer (some ⟨rb, 0, none⟩)])] (some (endV e)) h' := by
    intro e e0 xs M h' he hne hx hM H'
    refine wire_GetResponse.lv_cons ⟨by kernel_rfl, caughtS H' fun h3 H3 => wire_GetResponse.lv_cons ⟨by kernel_rfl, wire_GetResponse_1.doorD ?_⟩⟩
    refine ⟨e, H3.cell (off := 0) rfl, br_true (by simp [hne]) ?_⟩
    refine Hs.wrs (xs := xs) H3.m1 ?_ (by rw [hx]; rfl)
    intro h4 H4
    refine wire_GetResponse.lv_nil ⟨_, _, _, _, _, _, _, _, _, _, H4.rdc0, e, H4.m1.cell (off := 0) rfl, ?_⟩
    have := kk h4 none 0 0
    rw [he] at this
    exact this rfl ((hM h4 H4.tl.tl).own_nil T_string 1)
  refine is_h (fun hk => ⟨rfl, ?_⟩) fun hk => fail 190 0 _ L h2 ?_ (by decide) rfl (fun h H => H) H2
  rotate_left
  · have : ¬ (n : Int) ≤ 20000 := by simpa using hk
    simp only [getRsp, if_neg (show ¬ bs.length ≤ 20000 by omega)]
  have hle : bs.length ≤ 20000 := by have : (n : Int) ≤ 20000 := by simpa using hk
                                     omega
  have hget : getRsp bs = match rspS false bs Rsp.zero with
      | .error e => (e, Rsp.zero)
      | .ok (b, r) => if b.length = 0 then (0, r) else (190, Rsp.zero) := by simp only [getRsp, if_pos hle]
  have H4 := H2.new (t := T_wire_port) (cs := #[.slice a n c, .bool false]) (xs := port a n c false)
  generalize Array.push h2 _ = h4 at H4 ⊢
  generalize h2.size = pb at H4 ⊢
  have H5 : Hs h4 (portA L pb false bs :: pt rb T_api_Response (Rsp.zero.l none 0 0) :: nmA L false none 0 0 Rsp.zero.names :: pt eb T_api_Errno [.int .i64 0] :: L) := by
    refine portG.2 ⟨a, n, c, ⟨hn, hnc, hn0, h8, g⟩, ?_⟩
    exact (H4.own_nil T_string 1).sel 4 [1, 3, 0, 2]
  refine response_h H5 (fun h H => H.tl) (by omega) (by show (0 : Nat) < 2 ^ 62; decide) (fun q => by cases q) (fun q => by cases q) (fun _ => rfl) ?_ ?_
  · intro bs' r' na' nn' nc' h6 e1 H6
    rw [e1] at hget
    obtain ⟨a2, n2, c2, ⟨f1, f2, f3, f4, f5⟩, H8⟩ := portG.1 H6
    refine ⟨rfl, a2, n2, c2, H8.cell (off := 0) rfl, ?_⟩
    have H9 : Hs h6 (pt rb T_api_Response (r'.l na' nn' nc') :: pt eb T_api_Errno [.int .i64 0] :: own na' nn' nc' T_string 1 (sV r'.names) :: L) := H8.sel 4 [1, 3, 2]
    refine is_h (fun hz => ⟨rfl, ?_⟩) fun hz => fail 190 0 _ L h6 ?_ (by decide) rfl (fun h H => H) (H9.sel 3 [1, 0])
    · have hz' : bs'.length = 0 := by have : (n2 : Int) = 0 := by simpa using hz
                                      omega
      simp only [if_pos hz'] at hget
      refine ⟨_, _, _, _, _, _, _, _, _, _, H9.rdc0 (xs := r'.l na' nn' nc'), ?_⟩
      refine Hs.wrs (xs := r'.l na' nn' nc') H9 ?_
      intro h10 H10
      refine H10.m1.sto (off := 0) (by simp) ?_
      intro h11 H11
      refine wire_GetResponse.lv_cons ⟨by kernel_rfl, caughtN (wire_GetResponse.lv_cons ⟨by kernel_rfl, wire_GetResponse_1.doorD ?_⟩)⟩
      refine ⟨0, H11.cell (off := 0) rfl, br_false (by simp) ?_⟩
      refine wire_GetResponse.lv_nil ⟨_, _, _, _, _, _, _, _, _, _, H11.m1.rdc0, 0, H11.cell (off := 0) rfl, ?_⟩
      have := kk h11 na' nn' nc'
      rw [hget] at this
      exact this (by have := (H11.sel 3 [2]).own_len; simpa using this) H11.tl.tl
    · have hz' : ¬ bs'.length = 0 := by have : ¬ (n2 : Int) = 0 := by simpa using hz
                                        omega
      simp only [if_neg hz'] at hget
      exact hget
  · intro e xs h6 he hl H6
    rw [he] at hget
    have h190 : e = 190 := rspS_err he
    exact fail e 0 xs L h6 hget (by omega) hl (fun h H => H) H6.m1
end Go.Proofs.Ytnidhafhgclakaa

set_option linter.unusedVariables false
set_option linter.unusedSimpArgs false
namespace Go.Proofs.Ytnidhafhgclakaa
open Go Go.HW
variable {h : Heap} {L M : List Assn} {Q X : Value → Heap → Prop}
/-- Which fields a kind has: Txn, Archive, Entry, Data, From, Most, Token. -/
def fTab (k : Int) : List Bool :=
  if k = 1 then [false, false, false, false, false, false, true] else if k = 3 then [true, true, true, false, true, true, false] else if k = 4 then [true, true, false, false, false, false, false]
  else if k = 5 ∨ k = 6 then [true, true, true, true, false, false, false] else if k = 7 then [true, true, true, false, false, false, false] else if k = 8 ∨ k = 9 then [true, false, false, false, false, false, false]
  else if k = 10 then [true, true, false, false, true, true, false] else if k = 11 then [true, true, false, true, false, false, false] else [false, false, false, false, false, false, false]
def has (k : Int) (i : Nat) : Bool := (fTab k).getD i false
def hasV (k : Int) : List Value := [.bool (has k 0), .bool (has k 1), .bool (has k 2), .bool (has k 3), .bool (has k 4), .bool (has k 5), .bool (has k 6)]
theorem kinds2 (k : Int) : k = 1 ∨ k = 2 ∨ k = 3 ∨ k = 4 ∨ k = 5 ∨ k = 6 ∨ k = 7 ∨ k = 8 ∨ k = 9 ∨ k = 10 ∨ k = 11 ∨ k = 12 ∨ k = 13 ∨ (k < 1 ∨ 13 < k) := by omega
theorem fields_h {k : Int} (H : Hs h L) (kk : ∀ h', Hs h' L → Q (.tuple #[.agg #[.bool (has k 0), .bool (has k 1), .bool (has k 2), .bool (has k 3), .bool (has k 4), .bool (has k 5), .bool (has k 6)], .bool (goodKind k)]) h') : SpecH PP F_ref19_fields [.int .i64 k] h Q := by
  refine ref19_fields.door ?_
  dsimp only
  have P := H.new (t := T_7_bool) (cs := #[(.bool false), (.bool false), (.bool false), (.bool false), (.bool false), (.bool false), (.bool false)]) (xs := [(.bool false), (.bool false), (.bool false), (.bool false), (.bool false), (.bool false), (.bool false)])
  generalize Array.push h _ = h1 at P ⊢
  generalize h.size = b at P ⊢
  rcases kinds2 k with rfl | rfl | rfl | rfl | rfl | rfl | rfl | rfl | rfl | rfl | rfl | rfl | rfl | hk
  iterate 13
    (· repeat first | refine br_true rfl ?_ | refine br_false rfl ?_ | refine ref19_fields.J1_of ?_ | refine ref19_fields.J2_of ?_ | refine ref19_fields.J3_of ?_
       refine Hs.wrs (xs := [(.bool false), (.bool false), (.bool false), (.bool false), (.bool false), (.bool false), (.bool false)]) P ?_
       intro h2 H2
       exact ⟨_, _, _, _, _, _, _, H2.rdc0, kk h2 H2.tl⟩)
  have ne : ∀ j : Int, 1 ≤ j → j ≤ 13 → (k == j) = false := fun j h1 h2 => by simp; omega
  refine br_false (ne 1 (by omega) (by omega)) (br_false (ne 2 (by omega) (by omega)) (br_false (ne 12 (by omega) (by omega)) ?_))
  rw [ne 13 (by omega) (by omega)]
  refine ref19_fields.J1_of (br_false rfl (br_false (ne 3 (by omega) (by omega)) (br_false (ne 4 (by omega) (by omega)) (br_false (ne 5 (by omega) (by omega)) ?_))))
  dsimp only
  rw [ne 6 (by omega) (by omega)]
  refine ref19_fields.J2_of (br_false rfl (br_false (ne 7 (by omega) (by omega)) (br_false (ne 8 (by omega) (by omega)) ?_)))
  dsimp only
  rw [ne 9 (by omega) (by omega)]
  refine ref19_fields.J3_of (br_false rfl (br_false (ne 10 (by omega) (by omega)) (br_false (ne 11 (by omega) (by omega)) ?_)))
  refine Hs.wrs (xs := [(.bool false), (.bool false), (.bool false), (.bool false), (.bool false), (.bool false), (.bool false)]) P ?_
  intro h2 H2
  refine ⟨_, _, _, _, _, _, _, H2.rdc0, ?_⟩
  have hf : fTab k = [false, false, false, false, false, false, false] := by
    unfold fTab
    repeat rw [if_neg (by omega)]
  have hg : goodKind k = false := by simp [goodKind]; omega
  have := kk h2 H2.tl
  simp only [has, hf, hg] at this
  exact this
theorem rwithin_pure (x : Int) : PureAt PP F_ref19_within [.int .i64 x] (.bool (within x)) := by
  intro h
  refine ref19_within.door ?_
  by_cases h1 : 0 ≤ x
  · refine br_true (by simpa using h1) ⟨?_, rfl⟩
    simp [within, h1]
  · refine br_false (by simpa using h1) ⟨?_, rfl⟩
    simp [within, h1]
theorem dig_succ : ∀ (k w : Nat), dig w (k + 1) = w % 256 :: dig (w / 256) k := by
  intro k
  induction k with
  | zero => intro w; simp [dig]
  | succ k ih =>
    intro w
    rw [show dig w (k + 1 + 1) = dig w (k + 1) ++ [w / 256 ^ (k + 1) % 256] from rfl, ih]
    simp only [dig, List.cons_append]
    rw [Nat.div_div_eq_div_mul, ← Nat.pow_succ']
theorem tm256 (v : Nat) : Int.tmod (v : Int) 256 = ((v % 256 : Nat) : Int) := tmod_n v 256
theorem td256 (v : Nat) : Int.tdiv (v : Int) 256 = ((v / 256 : Nat) : Int) := tdiv_n v 256
theorem rnumber_loop {K : EP} {tot : List Nat} (hm : tot.length < 2 ^ 41) (kk : ∀ h' a' n' c', tot.length = n' → Hs h' (own a' n' c' T_uint8 1 (nV tot) :: L) → K (.exit 0) (ref19_number.X0 a' n' c') h') :
    ∀ (k i v : Nat) (pre : List Nat) (h : Heap) (a : OA) (n c : Nat), i + k = 4 → v < 2 ^ 62 → pre ++ dig v k = tot → pre.length = n → Hs h (own a n c T_uint8 1 (nV pre) :: L) → ref19_number.L1 a n c v i K h := by
  intro k
  induction k with
  | zero =>
    intro i v pre h a n c hi hv hp hn H
    refine ref19_number.L1_of (br_false (by simp; omega) ?_)
    simp [dig] at hp
    subst hp
    exact kk h a n c hn H
  | succ k ih =>
    intro i v pre h a n c hi hv hp hn H
    refine ref19_number.L1_of (br_true (by simp; omega) ?_)
    have hpl : n + 1 ≤ tot.length := by rw [← hp]; simp [dig]; omega
    dsimp only
    rw [tm256, td256, wrap_u8_id (by omega), wrap_i64_z (by omega) (by omega), inc (by omega)]
    refine H.app_vals (ys := nV [v % 256]) (m := 1) E_sl_uint8 rfl rfl (nV_one _) ?_ (by omega) (by omega)
    intro h' a' c' H'
    refine ⟨_, _, _, rfl, ?_⟩
    refine ih (i + 1) (v / 256) (pre ++ [v % 256]) h' a' (n + 1) c' (by omega) (by omega) ?_ (by simp [hn]) (by rw [nV_app]; exact H')
    rw [← hp, dig_succ]; simp
theorem rnumber_h {a : OA} {n c : Nat} {bs : List Nat} {x : Int} (hw : within x = true) (hn : bs.length = n) (hb : n < 2 ^ 40) (H : Hs h (own a n c T_uint8 1 (nV bs) :: L))
    (kk : ∀ h' a' n' c', (bs ++ dig x.toNat 4).length = n' → Hs h' (own a' n' c' T_uint8 1 (nV (bs ++ dig x.toNat 4)) :: L) → Q (.slice a' n' c') h') : SpecH PP F_ref19_number [.slice a n c, .int .i64 x] h Q := by
  obtain ⟨h0, h1⟩ := within_iff.1 hw
  obtain ⟨v, rfl⟩ := Int.eq_ofNat_of_zero_le h0
  refine ref19_number.door ?_
  refine rnumber_loop (tot := bs ++ dig v 4) (by simp [dig_len]; omega) ?_ 4 0 v bs h a n c (by omega) (by omega) rfl hn H
  intro h' a' n' c' hl H'
  exact ref19_number.L1_X0 (kk h' a' n' c' hl H')
def txtB (s : ByteArray) : List Nat := dig s.size 2 ++ sb s
theorem txtB_len (s : ByteArray) : (txtB s).length = 2 + s.size := by simp [txtB, dig_len, sb_len]
theorem rtext_h {a : OA} {n c : Nat} {bs : List Nat} {s : ByteArray} (hs : s.size < 65536) (hn : bs.length = n) (hb : n < 2 ^ 40) (H : Hs h (own a n c T_uint8 1 (nV bs) :: L))
    (kk : ∀ h' a' n' c', (bs ++ txtB s).length = n' → Hs h' (own a' n' c' T_uint8 1 (nV (bs ++ txtB s)) :: L) → Q (.slice a' n' c') h') : SpecH PP F_ref19_text [.slice a n c, .string s] h Q := by
  refine ref19_text.door ?_
  dsimp only
  rw [tm256, td256, wrap_u8_id (by omega), wrap_i64_z (by omega) (by omega), wrap_u8_id (by omega)]
  refine H.app_vals (ys := nV [s.size % 256, s.size / 256]) (m := 2) E_sl_uint8 rfl rfl (nV_one _) ?_ (by omega) (by omega)
  intro h1 a1 c1 H1
  refine ⟨_, _, _, rfl, ?_⟩
  refine H1.app_str E_sl_uint8 U_string ?_ (by omega) (by omega)
  intro h2 a2 c2 H2
  refine ⟨_, _, _, rfl, ?_⟩
  rw [strV_nV, ← nV_app, ← nV_app] at H2
  have e : bs ++ [s.size % 256, s.size / 256] ++ sb s = bs ++ txtB s := by
    simp [txtB, dig, Nat.mod_eq_of_lt (show s.size / 256 < 256 by omega)]
  rw [e] at H2
  exact kk h2 a2 _ c2 (by rw [List.length_append, txtB_len]; omega) H2

/-! ### A request, put by the document -/
def opt (b : Bool) (l : List Nat) : List Nat := match b with | true => l | false => []
def bodyR (r : Req) : List Nat := [r.kind.toNat] ++ opt (has r.kind 0) (dig r.txn.toNat 4) ++ opt (has r.kind 1) (txtB r.archive) ++ opt (has r.kind 2) (txtB r.entry) ++ opt (has r.kind 3) (txtB r.data)
  ++ opt (has r.kind 4) (dig r.frm.toNat 4 ++ dig r.most.toNat 4) ++ opt (has r.kind 6) (txtB r.token)
def zeroR (r : Req) : Bool := (has r.kind 0 || (r.txn == 0)) && ((has r.kind 1 || decide (r.archive = (⟨#[]⟩ : ByteArray))) && ((has r.kind 2 || decide (r.entry = (⟨#[]⟩ : ByteArray))) && ((has r.kind 3 || decide (r.data = (⟨#[]⟩ : ByteArray)))
  && ((has r.kind 4 || (r.frm == 0)) && ((has r.kind 5 || (r.most == 0)) && (has r.kind 6 || decide (r.token = (⟨#[]⟩ : ByteArray))))))))
def longR (r : Req) : Prop := r.archive.size > 255 ∨ r.entry.size > 255 ∨ r.token.size > 256 ∨ r.data.size > 16384
instance (r : Req) : Decidable (longR r) := by unfold longR; infer_instance
def refPut (r : Req) : Int × List Nat :=
  if goodKind r.kind = true then
    if zeroR r = true ∧ within r.txn = true ∧ within r.frm = true ∧ within r.most = true then
      if longR r then (2, []) else (0, bodyR r)
    else (1, [])
  else (191, [])
theorem stepI {f : Bool} {x : Int} {a : Addr} {A B : Prop} (hc : cellH h a = some (.int .i64 x)) (ka : (f || (x == 0)) = true → A) (kb : (f || (x == 0)) = false → B) : br f A (∃ t : Int, cellH h a = some (.int .i64 t) ∧ br (t == 0) A B) := by
  cases f
  · refine br_false rfl ⟨x, hc, ?_⟩
    cases hx : (x == 0)
    · exact br_false rfl (kb (by simp [hx]))
    · exact br_true rfl (ka (by simp [hx]))
  · exact br_true rfl (ka rfl)
theorem stepS {f : Bool} {x : ByteArray} {a : Addr} {A B : Prop} (hc : cellH h a = some (.string x)) (ka : (f || decide (x = (⟨#[]⟩ : ByteArray))) = true → A) (kb : (f || decide (x = (⟨#[]⟩ : ByteArray))) = false → B) :
    br f A (∃ t : ByteArray, cellH h a = some (.string t) ∧ br (decide (t = (⟨#[]⟩ : ByteArray))) A B) := by
  cases f
  · refine br_false rfl ⟨x, hc, ?_⟩
    cases hx : decide (x = (⟨#[]⟩ : ByteArray))
    · exact br_false rfl (kb (by rw [hx]; rfl))
    · exact br_true rfl (ka (by rw [hx]; rfl))
  · exact br_true rfl (ka rfl)
theorem ix7 {fb i : Nat} {k : Int} (hi : i < 7) {R : Bool → Heap → Prop} (H : Hs h (pt fb T_7_bool (hasV k) :: M)) (K : R (has k i) h) :
    hwp PP (Instr.indexAt T_7_bool (.pointer (some ⟨fb, 0, none⟩)) (.int .i64 (i : Int))) (fun v h5 => ∃ t : Addr, v = .pointer (some t) ∧ ∃ b : Bool, cellH h5 t = some (.bool b) ∧ R b h5) h := by
  refine ai A_7_bool (j := i) hi ⟨has k i, H.cell (off := i) ?_, K⟩
  match i, hi with
  | 0, _ | 1, _ | 2, _ | 3, _ | 4, _ | 5, _ | 6, _ => rfl
theorem rPutRequest_h {r : Req} (hs : r.szs) (H : Hs h L)
    (kk : ∀ h' a n c, (refPut r).2.length = n → Hs h' (own a n c T_uint8 1 (nV (refPut r).2) :: L) → Q (.tuple #[.slice a n c, .int .i64 (refPut r).1]) h') : SpecH PP F_ref19_PutRequest [r.v] h Q := by
  refine ref19_PutRequest.door ?_
  have H1 := H.new (t := T_api_Request) (cs := #[(.int .i64 r.kind), (.int .i64 r.txn), (.string r.archive), (.string r.entry), (.string r.data), (.int .i64 r.frm), (.int .i64 r.most), (.string r.token)]) (xs := r.l)
  refine ⟨r.kind, H1.cell (off := 0) rfl, ?_⟩
  refine fields_h H1 ?_
  intro h2 H2
  refine ⟨_, _, _, _, _, _, _, _, rfl, ?_⟩
  have H3 := H2.new (t := T_7_bool) (cs := #[(.bool false), (.bool false), (.bool false), (.bool false), (.bool false), (.bool false), (.bool false)]) (xs := [(.bool false), (.bool false), (.bool false), (.bool false), (.bool false), (.bool false), (.bool false)])
  refine Hs.wrs (xs := [(.bool false), (.bool false), (.bool false), (.bool false), (.bool false), (.bool false), (.bool false)]) H3 ?_
  intro h4 H4
  replace H4 : Hs h4 (pt h2.size T_7_bool (hasV r.kind) :: pt h.size T_api_Request r.l :: L) := H4
  generalize h2.size = fb at H4 ⊢
  generalize h.size = rb at H4 ⊢
  clear H1 H2 H3
  have fail : ∀ (e : Int) (h' : Heap) (M : List Assn), refPut r = (e, []) → (∀ h, Hs h M → Hs h L) → Hs h' M → Q (.tuple #[.slice none 0 0, .int .i64 e]) h' := by
    intro e h' M he hM H'
    have := kk h' none 0 0
    rw [he] at this
    exact this rfl ((hM _ H').own_nil T_uint8 1)
  have dn : ∀ h, Hs h (pt fb T_7_bool (hasV r.kind) :: pt rb T_api_Request r.l :: L) → Hs h L := fun h H => H.tl.tl
  refine (br_iff _ _ _).2 ⟨fun hg => fail 191 h4 _ (by simp only [refPut, if_neg (show ¬ goodKind r.kind = true by simpa using hg)]) dn H4, fun hg => ?_⟩
  have hg' : goodKind r.kind = true := by simpa using hg
  have hk2 : 1 ≤ r.kind ∧ r.kind ≤ 13 := by simpa [goodKind] using hg'
  -- the sizes are looked at
  have hJ3 : zeroR r = true → within r.txn = true → within r.frm = true → within r.most = true → ∀ b : Bool, (b = true ↔ longR r) → ref19_PutRequest.J3 ⟨rb, 0, none⟩ ⟨fb, 0, none⟩ b Q h4 := by
    intro hz w1 w2 w3 b hb
    refine ref19_PutRequest.J3_of ?_
    refine (br_iff _ _ _).2 ⟨fun h1 => fail 2 h4 _ (by simp only [refPut, if_pos hg', if_pos (show zeroR r = true ∧ within r.txn = true ∧ within r.frm = true ∧ within r.most = true from ⟨hz, w1, w2, w3⟩), if_pos (hb.1 h1)]) dn H4, fun h1 => ?_⟩
    have hnl : ¬ longR r := fun q => by rw [hb.2 q] at h1; cases h1
    have hput : refPut r = (0, bodyR r) := by simp only [refPut, if_pos hg', if_pos (show zeroR r = true ∧ within r.txn = true ∧ within r.frm = true ∧ within r.most = true from ⟨hz, w1, w2, w3⟩), if_neg hnl]
    rw [hput] at kk
    have hsz : r.archive.size ≤ 255 ∧ r.entry.size ≤ 255 ∧ r.token.size ≤ 256 ∧ r.data.size ≤ 16384 := by unfold longR at hnl; omega
    refine ⟨r.kind, H4.m1.cell (off := 0) rfl, ?_⟩
    obtain ⟨k, hkn⟩ := Int.eq_ofNat_of_zero_le (show 0 ≤ r.kind by omega)
    dsimp only
    have H5 := H4.new (t := T_uint8) (cs := #[.int .u8 (IntKind.u8.wrap r.kind)]) (xs := nV [r.kind.toNat]) (by rw [hkn, wrap_u8_id (by omega)]; rfl)
    have H6 := H5.pt_all (n := 1) rfl
    clear H5
    generalize h4.push _ = h5 at H6 ⊢
    generalize (some ⟨h4.size, 0, none⟩ : OA) = a5 at H6 ⊢
    -- from the end on
    have bl : ∀ (b : Bool) (l : List Nat), (opt b l).length ≤ l.length := fun b l => by cases b <;> simp [opt]
    have d4 : ∀ x, (dig x 4).length = 4 := fun x => dig_len x 4
    have R : ∀ {h' : Heap} {a : OA} {n c : Nat} {bs : List Nat}, Hs h' (own a n c T_uint8 1 (nV bs) :: pt fb T_7_bool (hasV r.kind) :: pt rb T_api_Request r.l :: L) → bs.length = n := fun H => by have := H.own_len; simpa [nV_len] using this
    have t0 := txtB_len r.archive; have t1 := txtB_len r.entry; have t2 := txtB_len r.data; have t3 := txtB_len r.token
    have J8 : ∀ (h' : Heap) (a : OA) (n c : Nat) (bs : List Nat), bs.length < 2 ^ 30 → bs ++ opt (has r.kind 6) (txtB r.token) = bodyR r → Hs h' (own a n c T_uint8 1 (nV bs) :: pt fb T_7_bool (hasV r.kind) :: pt rb T_api_Request r.l :: L) → ref19_PutRequest.J8 ⟨rb, 0, none⟩ ⟨fb, 0, none⟩ a n c Q h' := by
      intro h' a n c bs hb he H'
      have hn := R H'
      refine ref19_PutRequest.J8_of (ix7 (i := 6) (by decide) H'.tl ?_)
      refine (br_iff _ _ _).2 ⟨fun hf => ⟨r.token, (H'.sel 3 [2]).cell (off := 7) rfl, rtext_h (by omega) hn (by omega) H' ?_⟩, fun hf => ?_⟩
      · intro h2 a2 n2 c2 e2 H2
        refine ⟨_, _, _, rfl, ref19_PutRequest.J9_of ?_⟩
        rw [hf] at he
        rw [show bs ++ txtB r.token = bodyR r from he] at e2 H2
        exact kk h2 a2 n2 c2 e2 (H2.sel 3 [0])
      · refine ref19_PutRequest.J9_of ?_
        rw [hf] at he
        rw [show bs = bodyR r by simpa [opt] using he] at hn H'
        exact kk h' a n c hn (H'.sel 3 [0])
    have J7 : ∀ (h' : Heap) (a : OA) (n c : Nat) (bs : List Nat), bs.length < 2 ^ 29 → bs ++ opt (has r.kind 4) (dig r.frm.toNat 4 ++ dig r.most.toNat 4) ++ opt (has r.kind 6) (txtB r.token) = bodyR r → Hs h' (own a n c T_uint8 1 (nV bs) :: pt fb T_7_bool (hasV r.kind) :: pt rb T_api_Request r.l :: L) → ref19_PutRequest.J7 ⟨rb, 0, none⟩ ⟨fb, 0, none⟩ a n c Q h' := by
      intro h' a n c bs hb he H'
      have hn := R H'
      refine ref19_PutRequest.J7_of (ix7 (i := 4) (by decide) H'.tl ?_)
      refine (br_iff _ _ _).2 ⟨fun hf => ⟨r.frm, (H'.sel 3 [2]).cell (off := 5) rfl, rnumber_h w2 hn (by omega) H' ?_⟩, fun hf => ?_⟩
      · intro h2 a2 n2 c2 e2 H2
        refine ⟨_, _, _, rfl, r.most, (H2.sel 3 [2]).cell (off := 6) rfl, rnumber_h w3 e2 (by rw [← e2]; simp [d4]; omega) H2 ?_⟩
        intro h3 a3 n3 c3 e3 H3
        refine ⟨_, _, _, rfl, J8 h3 a3 n3 c3 _ (by simp [d4]; omega) ?_ H3⟩
        rw [← he, hf]; simp [opt]
      · refine J8 h' a n c bs (by omega) ?_ H'
        rw [← he, hf]; simp [opt]
    have J6 : ∀ (h' : Heap) (a : OA) (n c : Nat) (bs : List Nat), bs.length < 2 ^ 28 → bs ++ opt (has r.kind 3) (txtB r.data) ++ opt (has r.kind 4) (dig r.frm.toNat 4 ++ dig r.most.toNat 4) ++ opt (has r.kind 6) (txtB r.token) = bodyR r → Hs h' (own a n c T_uint8 1 (nV bs) :: pt fb T_7_bool (hasV r.kind) :: pt rb T_api_Request r.l :: L) → ref19_PutRequest.J6 ⟨rb, 0, none⟩ ⟨fb, 0, none⟩ a n c Q h' := by
      intro h' a n c bs hb he H'
      have hn := R H'
      refine ref19_PutRequest.J6_of (ix7 (i := 3) (by decide) H'.tl ?_)
      refine (br_iff _ _ _).2 ⟨fun hf => ⟨r.data, (H'.sel 3 [2]).cell (off := 4) rfl, rtext_h (by omega) hn (by omega) H' ?_⟩, fun hf => ?_⟩
      · intro h2 a2 n2 c2 e2 H2
        refine ⟨_, _, _, rfl, J7 h2 a2 n2 c2 _ (by simp [t2]; omega) ?_ H2⟩
        rw [← he, hf]; simp [opt]
      · refine J7 h' a n c bs (by omega) ?_ H'
        rw [← he, hf]; simp [opt]
    have J5 : ∀ (h' : Heap) (a : OA) (n c : Nat) (bs : List Nat), bs.length < 2 ^ 27 → bs ++ opt (has r.kind 2) (txtB r.entry) ++ opt (has r.kind 3) (txtB r.data) ++ opt (has r.kind 4) (dig r.frm.toNat 4 ++ dig r.most.toNat 4) ++ opt (has r.kind 6) (txtB r.token) = bodyR r → Hs h' (own a n c T_uint8 1 (nV bs) :: pt fb T_7_bool (hasV r.kind) :: pt rb T_api_Request r.l :: L) → ref19_PutRequest.J5 ⟨rb, 0, none⟩ ⟨fb, 0, none⟩ a n c Q h' := by
      intro h' a n c bs hb he H'
      have hn := R H'
      refine ref19_PutRequest.J5_of (ix7 (i := 2) (by decide) H'.tl ?_)
      refine (br_iff _ _ _).2 ⟨fun hf => ⟨r.entry, (H'.sel 3 [2]).cell (off := 3) rfl, rtext_h (by omega) hn (by omega) H' ?_⟩, fun hf => ?_⟩
      · intro h2 a2 n2 c2 e2 H2
        refine ⟨_, _, _, rfl, J6 h2 a2 n2 c2 _ (by simp [t1]; omega) ?_ H2⟩
        rw [← he, hf]; simp [opt]
      · refine J6 h' a n c bs (by omega) ?_ H'
        rw [← he, hf]; simp [opt]
    have J4 : ∀ (h' : Heap) (a : OA) (n c : Nat) (bs : List Nat), bs.length < 2 ^ 26 → bs ++ opt (has r.kind 1) (txtB r.archive) ++ opt (has r.kind 2) (txtB r.entry) ++ opt (has r.kind 3) (txtB r.data) ++ opt (has r.kind 4) (dig r.frm.toNat 4 ++ dig r.most.toNat 4) ++ opt (has r.kind 6) (txtB r.token) = bodyR r → Hs h' (own a n c T_uint8 1 (nV bs) :: pt fb T_7_bool (hasV r.kind) :: pt rb T_api_Request r.l :: L) → ref19_PutRequest.J4 ⟨rb, 0, none⟩ ⟨fb, 0, none⟩ a n c Q h' := by
      intro h' a n c bs hb he H'
      have hn := R H'
      refine ref19_PutRequest.J4_of (ix7 (i := 1) (by decide) H'.tl ?_)
      refine (br_iff _ _ _).2 ⟨fun hf => ⟨r.archive, (H'.sel 3 [2]).cell (off := 2) rfl, rtext_h (by omega) hn (by omega) H' ?_⟩, fun hf => ?_⟩
      · intro h2 a2 n2 c2 e2 H2
        refine ⟨_, _, _, rfl, J5 h2 a2 n2 c2 _ (by simp [t0]; omega) ?_ H2⟩
        rw [← he, hf]; simp [opt]
      · refine J5 h' a n c bs (by omega) ?_ H'
        rw [← he, hf]; simp [opt]
    refine ix7 (i := 0) (by decide) H6.tl ?_
    refine (br_iff _ _ _).2 ⟨fun hf => ⟨r.txn, (H6.sel 3 [2]).cell (off := 1) rfl, rnumber_h w1 rfl (by decide) H6 ?_⟩, fun hf => ?_⟩
    · intro h2 a2 n2 c2 e2 H2
      refine ⟨_, _, _, rfl, J4 h2 a2 n2 c2 _ (by simp [d4]) ?_ H2⟩
      simp [bodyR, hf, opt]
    · refine J4 _ _ _ _ _ (by simp) ?_ H6
      simp [bodyR, hf, opt]
  have bad : ¬ (zeroR r = true ∧ within r.txn = true ∧ within r.frm = true ∧ within r.most = true) → ref19_PutRequest.J2 ⟨rb, 0, none⟩ ⟨fb, 0, none⟩ true Q h4 := fun hn =>
    ref19_PutRequest.J2_of (br_true rfl (fail 1 h4 _ (by simp only [refPut, if_pos hg', if_neg hn]) dn H4))
  have hJ1 : ∀ z : Bool, z = zeroR r → ref19_PutRequest.J1 ⟨rb, 0, none⟩ ⟨fb, 0, none⟩ z Q h4 := by
    intro z hz
    refine ref19_PutRequest.J1_of ?_
    refine (br_iff _ _ _).2 ⟨fun h1 => bad fun q => ?_, fun h1 => ?_⟩
    · rw [hz, q.1] at h1; cases h1
    have hz1 : zeroR r = true := by rw [← hz]; simpa using h1
    refine ⟨r.txn, H4.m1.cell (off := 1) rfl, _, rwithin_pure _, _, rfl, ?_⟩
    refine (br_iff _ _ _).2 ⟨fun h1 => bad fun q => (by rw [q.2.1] at h1; cases h1), fun h1 => ?_⟩
    refine ⟨r.frm, H4.m1.cell (off := 5) rfl, _, rwithin_pure _, _, rfl, ?_⟩
    refine (br_iff _ _ _).2 ⟨fun h1 => bad fun q => (by rw [q.2.2.1] at h1; cases h1), fun h2 => ?_⟩
    refine ⟨r.most, H4.m1.cell (off := 6) rfl, _, rwithin_pure _, _, rfl, ?_⟩
    dsimp only
    by_cases w3 : within r.most = true
    · rw [w3]
      refine ref19_PutRequest.J2_of (br_false rfl ?_)
      have g3 := hJ3 hz1 (by simpa using h1) (by simpa using h2) w3
      refine ⟨r.archive, H4.m1.cell (off := 2) rfl, ?_⟩
      refine (br_iff _ _ _).2 ⟨fun q1 => g3 true (by unfold longR; simp at q1; simp; omega), fun q1 => ⟨r.entry, H4.m1.cell (off := 3) rfl, ?_⟩⟩
      refine (br_iff _ _ _).2 ⟨fun q2 => g3 true (by unfold longR; simp at q2; simp; omega), fun q2 => ⟨r.token, H4.m1.cell (off := 7) rfl, ?_⟩⟩
      refine (br_iff _ _ _).2 ⟨fun q3 => g3 true (by unfold longR; simp at q3; simp; omega), fun q3 => ⟨r.data, H4.m1.cell (off := 4) rfl, ?_⟩⟩
      refine g3 _ ?_
      unfold longR
      simp at q1 q2 q3
      simp only [decide_eq_true_iff]
      omega
    · rw [show within r.most = false by simpa using w3]
      exact bad fun q => w3 q.2.2.2
  refine ix7 (i := 0) (by decide) H4 ?_
  refine stepI (H4.m1.cell (off := 1) rfl) (fun z0 => ?_) (fun z0 => hJ1 false (by simp only [zeroR, z0, Bool.false_and]))
  refine ix7 (i := 1) (by decide) H4 ?_
  refine stepS (H4.m1.cell (off := 2) rfl) (fun z1 => ?_) (fun z1 => hJ1 false (by simp only [zeroR, z1, Bool.false_and, Bool.and_false]))
  refine ix7 (i := 2) (by decide) H4 ?_
  refine stepS (H4.m1.cell (off := 3) rfl) (fun z2 => ?_) (fun z2 => hJ1 false (by simp only [zeroR, z2, Bool.false_and, Bool.and_false]))
  refine ix7 (i := 3) (by decide) H4 ?_
  refine stepS (H4.m1.cell (off := 4) rfl) (fun z3 => ?_) (fun z3 => hJ1 false (by simp only [zeroR, z3, Bool.false_and, Bool.and_false]))
  refine ix7 (i := 4) (by decide) H4 ?_
  refine stepI (H4.m1.cell (off := 5) rfl) (fun z4 => ?_) (fun z4 => hJ1 false (by simp only [zeroR, z4, Bool.false_and, Bool.and_false]))
  refine ix7 (i := 5) (by decide) H4 ?_
  refine stepI (H4.m1.cell (off := 6) rfl) (fun z5 => ?_) (fun z5 => hJ1 false (by simp only [zeroR, z5, Bool.false_and, Bool.and_false]))
  refine ix7 (i := 6) (by decide) H4 ?_
  refine (br_iff _ _ _).2 ⟨fun q => hJ1 true ?_, fun q => ⟨r.token, H4.m1.cell (off := 7) rfl, hJ1 _ ?_⟩⟩
  · simp only [zeroR, z0, z1, z2, z3, z4, z5, q, Bool.true_and, Bool.true_or]
  · simp only [zeroR, z0, z1, z2, z3, z4, z5, q, Bool.true_and, Bool.false_or]
end Go.Proofs.Ytnidhafhgclakaa

set_option linter.unusedVariables false
set_option linter.unusedSimpArgs false
namespace Go.Proofs.Ytnidhafhgclakaa
open Go Go.HW
variable {h : Heap} {L M : List Assn} {Q X : Value → Heap → Prop}
structure CS where
  bs : List Nat
  bad : Bool
def takeR (s : CS) (n : Nat) : List Nat × CS := if n > s.bs.length then (List.replicate n 0, ⟨s.bs, true⟩) else (s.bs.take n, ⟨s.bs.drop n, s.bad⟩)
def smallR (k : Nat) (s : CS) : Nat × CS := (val (takeR s k).1, (takeR s k).2)
def numberR (s : CS) : Nat × CS := ((smallR 4 s).1, ⟨(smallR 4 s).2.bs, (smallR 4 s).2.bad || !within ((smallR 4 s).1 : Nat)⟩)
def textR (most : Nat) (s : CS) : ByteArray × CS :=
  if (smallR 2 s).1 > most then (⟨#[]⟩, ⟨(smallR 2 s).2.bs, true⟩) else (st (takeR (smallR 2 s).2 (smallR 2 s).1).1, (takeR (smallR 2 s).2 (smallR 2 s).1).2)
theorem takeR_len (s : CS) (n : Nat) : (takeR s n).1.length = n ∧ (takeR s n).2.bs.length ≤ s.bs.length := by
  unfold takeR; split <;> simp <;> omega
theorem takeR_lt {s : CS} {n : Nat} (h : ∀ x ∈ s.bs, x < 256) : (∀ x ∈ (takeR s n).1, x < 256) ∧ ∀ x ∈ (takeR s n).2.bs, x < 256 := by
  unfold takeR; split
  · exact ⟨fun x hx => by rw [List.eq_of_mem_replicate hx]; decide, h⟩
  · exact ⟨fun x hx => h x (List.mem_of_mem_take hx), fun x hx => h x (List.mem_of_mem_drop hx)⟩
/-- The cut's place. -/
def cutA (L : List Assn) (cb : Nat) (s : CS) : Assn := fun m => ∃ a, ∃ n, ∃ c, (s.bs.length = n ∧ n ≤ c ∧ (a = none → c = 0) ∧ (∀ x ∈ s.bs, x < 256) ∧ Gv L a (nV s.bs)) ∧ pt cb T_haversackref19_Cut [.slice a n c, .bool s.bad] m
theorem cutI {cb : Nat} {s : CS} : Hs h (cutA L cb s :: M) ↔ ∃ a n c, (s.bs.length = n ∧ n ≤ c ∧ (a = none → c = 0) ∧ (∀ x ∈ s.bs, x < 256) ∧ Gv L a (nV s.bs)) ∧ Hs h (pt cb T_haversackref19_Cut [.slice a n c, .bool s.bad] :: M) := by
  unfold cutA
  rw [Hs.ex]
  constructor
  · rintro ⟨a, H⟩
    obtain ⟨n, H⟩ := Hs.ex.1 H
    obtain ⟨c, H⟩ := Hs.ex.1 H
    exact ⟨a, n, c, Hs.and.1 H⟩
  · rintro ⟨a, n, c, H⟩
    exact ⟨a, Hs.ex.2 ⟨n, Hs.ex.2 ⟨c, Hs.and.2 H⟩⟩⟩
theorem take_h {cb n : Nat} {s : CS} (H : Hs h (cutA L cb s :: M)) (hM : ∀ h, Hs h M → Hs h L) (hn : n < 2 ^ 40)
    (kk : ∀ h' a' c' M', (∀ m, Sp M' m → Sp M m) → Gv M' a' (nV (takeR s n).1) → (a' = none → n = 0) → Hs h' (cutA L cb (takeR s n).2 :: M') → Q (.slice a' n c') h') : SpecH PP F_ref19_Cut_take [.pointer (some ⟨cb, 0, none⟩), .int .i64 (n : Int)] h Q := by
  obtain ⟨a, m, c, ⟨f1, f2, f3, f4, f5⟩, H1⟩ := cutI.1 H
  refine ref19_Cut_take.door ?_
  refine ⟨a, m, c, H1.cell (off := 0) rfl, ?_⟩
  by_cases hg : n > s.bs.length
  · refine br_true (by simp; omega) ?_
    refine H1.sto (off := 1) (by simp) ?_
    intro h2 H2
    refine H2.make E_sl_uint8 rfl rfl (Nat.le_refl _) (by omega) (by omega) ?_
    intro h3 b H3
    refine ⟨_, _, _, rfl, ?_⟩
    have et : takeR s n = (List.replicate n 0, ⟨s.bs, true⟩) := by simp only [takeR, if_pos hg]
    rw [et] at kk
    refine kk h3 _ _ (pt b T_uint8 (List.replicate n (.int .u8 0)) :: M) (fun m p => Sp.tl p) ?_ (fun e => by cases e) (cutI.2 ⟨a, m, c, ⟨f1, f2, f3, f4, f5⟩, H3.m1⟩)
    intro h' H'
    exact H'.ptrd (by simp [nV])
  · refine br_false (by simp; omega) ?_
    refine ⟨a, m, c, H1.cell (off := 0) rfl, ?_⟩
    have fM : Gv M a (nV s.bs) := fun h H => f5 h (hM h H)
    refine cutG (lo := none) (hi := some (.int .i64 (n : Int))) (i := 0) (j := n) E_sl_uint8 fM f1 f2 f3 (by omega) (by omega) rfl rfl ?_
    intro a1 c1 g1 e1 e2 e3
    simp only [Nat.sub_zero, List.drop_zero] at g1 e1 e2 ⊢
    refine ⟨_, _, _, rfl, a, m, c, H1.cell (off := 0) rfl, ?_⟩
    refine bytes_tailG (i := n) E_sl_uint8 f5 f1 f2 f3 (by omega) ?_
    intro a' c' g' e1' e2' e3'
    refine ⟨_, _, _, rfl, ?_⟩
    refine H1.sto (off := 0) (by simp) ?_
    intro h3 H3
    have et : takeR s n = (s.bs.take n, ⟨s.bs.drop n, s.bad⟩) := by simp only [takeR, if_neg hg]
    rw [et] at kk
    exact kk h3 a1 c1 M (fun m p => p) g1 e1 (cutI.2 ⟨a', m - n, c', ⟨by simp [f1], e2', e3', fun x hx => f4 x (List.mem_of_mem_drop hx), g'⟩, H3⟩)
theorem small_loop {a : OA} {n c : Nat} {bs : List Nat} {K : EP} (hr : Rd h a (nV bs)) (hn : bs.length = n) (hn4 : n ≤ 4) (h8 : ∀ x ∈ bs, x < 256) (kk : K (.exit 0) (ref19_Cut_small.X0 (val bs : Nat)) h) :
    ∀ (k : Nat), k ≤ n → ref19_Cut_small.L1 a n c (val (bs.drop k) : Nat) ((k : Int) - 1) K h := by
  intro k
  induction k with
  | zero =>
    intro hk
    refine ref19_Cut_small.L1_of (br_false (by simp) ?_)
    exact kk
  | succ k ih =>
    intro hk
    have hkl : k < bs.length := by omega
    refine ref19_Cut_small.L1_of (br_true (by simp) ?_)
    rw [show ((k + 1 : Nat) : Int) - 1 = (k : Int) by omega]
    refine idx E_sl_uint8 hr (by omega) (by omega) (v := .int .u8 (bs[k] : Nat)) (by simpa using nV_get hkl) ?_
    intro t ht
    refine ⟨_, ht, ?_⟩
    dsimp only
    have hb := h8 bs[k] (List.getElem_mem hkl)
    have hv : val (bs.drop (k + 1)) < 256 ^ 4 := Nat.lt_of_lt_of_le (val_lt fun x hx => h8 x (List.mem_of_mem_drop hx)) (Nat.pow_le_pow_right (by decide) (by simp; omega))
    have e : IntKind.i64.wrap (IntKind.i64.wrap (256 * ((val (bs.drop (k + 1)) : Nat) : Int)) + IntKind.i64.wrap ((bs[k] : Nat) : Int)) = ((val (bs.drop k) : Nat) : Int) := by
      rw [wrap_i64_z (z := 256 * ((val (bs.drop (k + 1)) : Nat) : Int)) (by omega) (by omega), wrap_i64_z (z := ((bs[k] : Nat) : Int)) (by omega) (by omega), wrap_i64_z (by omega) (by omega), ← List.getElem_cons_drop hkl]
      simp only [val]
      omega
    rw [e, show IntKind.i64.wrap ((k : Int) - 1) = (k : Int) - 1 from i64_id (by omega)]
    exact ih (by omega)
theorem csmall_h {cb k : Nat} {s : CS} (hk : k ≤ 4) (H : Hs h (cutA L cb s :: M)) (hM : ∀ h, Hs h M → Hs h L)
    (kk : ∀ h', Hs h' (cutA L cb (smallR k s).2 :: M) → Q (.int .i64 ((smallR k s).1 : Nat)) h') : SpecH PP F_ref19_Cut_small [.pointer (some ⟨cb, 0, none⟩), .int .i64 (k : Int)] h Q := by
  have h8 : ∀ x ∈ s.bs, x < 256 := by obtain ⟨a, m, c, f, _⟩ := cutI.1 H; exact f.2.2.2.1
  refine ref19_Cut_small.door ?_
  refine take_h H hM (by omega) ?_
  intro h1 a1 c1 M' hM' g1 e1 H1
  refine ⟨_, _, _, rfl, ?_⟩
  dsimp only
  rw [show IntKind.i64.wrap ((k : Int) - 1) = (k : Int) - 1 from i64_id (by omega)]
  have := small_loop (K := ref19_Cut_small.K1 Q) (c := c1) (g1 h1 H1.tl) (takeR_len s k).1 hk (takeR_lt h8).1 (ref19_Cut_small.L1_X0 (kk h1 (H1.mono_tl hM'))) k (Nat.le_refl _)
  rw [List.drop_of_length_le (by rw [(takeR_len s k).1]; exact Nat.le_refl _)] at this
  exact this
theorem smallR_lt {k : Nat} {s : CS} (h : ∀ x ∈ s.bs, x < 256) : (smallR k s).1 < 256 ^ k := by
  have := val_lt (takeR_lt (n := k) h).1
  rwa [(takeR_len s k).1] at this
theorem cut_lt {cb : Nat} {s : CS} (H : Hs h (cutA L cb s :: M)) : ∀ x ∈ s.bs, x < 256 := by obtain ⟨a, m, c, f, _⟩ := cutI.1 H; exact f.2.2.2.1
theorem cnumber_h {cb : Nat} {s : CS} (H : Hs h (cutA L cb s :: M)) (hM : ∀ h, Hs h M → Hs h L) (kk : ∀ h', Hs h' (cutA L cb (numberR s).2 :: M) → Q (.int .i64 ((numberR s).1 : Nat)) h') : SpecH PP F_ref19_Cut_number [.pointer (some ⟨cb, 0, none⟩)] h Q := by
  refine ref19_Cut_number.door ?_
  refine csmall_h (k := 4) (by decide) H hM ?_
  intro h1 H1
  obtain ⟨a, m, c, f, H2⟩ := cutI.1 H1
  refine ⟨_, rfl, _, H2.cell (off := 1) rfl, ?_⟩
  have fin : ∀ b : Bool, b = ((smallR 4 s).2.bad || !within ((smallR 4 s).1 : Nat)) → ∀ h3, Hs h3 (pt cb T_haversackref19_Cut [.slice a m c, .bool b] :: M) → ref19_Cut_number.J1 ((smallR 4 s).1 : Nat) Q h3 := by
    intro b hb h3 H3
    refine ref19_Cut_number.J1_of (kk h3 (cutI.2 ⟨a, m, c, f, ?_⟩))
    subst hb
    exact H3
  refine (br_iff _ _ _).2 ⟨fun hb => H2.sto (off := 1) (by simp) fun h3 H3 => fin true (by simp [hb]) h3 H3, fun hb => ⟨_, rwithin_pure _, _, rfl, H2.sto (off := 1) (by simp) fun h3 H3 => fin _ (by simp [hb]) h3 H3⟩⟩
theorem ctext_h {cb most : Nat} {s : CS} (hm : most < 65536) (H : Hs h (cutA L cb s :: M)) (hM : ∀ h, Hs h M → Hs h L) (kk : ∀ h', Hs h' (cutA L cb (textR most s).2 :: M) → Q (.string (textR most s).1) h') : SpecH PP F_ref19_Cut_text [.pointer (some ⟨cb, 0, none⟩), .int .i64 (most : Int)] h Q := by
  have h8 := cut_lt H
  refine ref19_Cut_text.door ?_
  refine csmall_h (k := 2) (by decide) H hM ?_
  intro h1 H1
  refine ⟨_, rfl, ?_⟩
  have hlt := smallR_lt (k := 2) h8
  refine (br_iff _ _ _).2 ⟨fun hb => ?_, fun hb => ?_⟩
  · have hg : (smallR 2 s).1 > most := by have : ((smallR 2 s).1 : Int) > most := by simpa using hb
                                          omega
    have e : textR most s = (⟨#[]⟩, ⟨(smallR 2 s).2.bs, true⟩) := by simp only [textR, if_pos hg]
    rw [e] at kk
    obtain ⟨a, m, c, f, H2⟩ := cutI.1 H1
    exact H2.sto (off := 1) (by simp) fun h3 H3 => kk h3 (cutI.2 ⟨a, m, c, f, H3⟩)
  · have hg : ¬ (smallR 2 s).1 > most := by have : ¬ ((smallR 2 s).1 : Int) > most := by simpa using hb
                                            omega
    have e : textR most s = (st (takeR (smallR 2 s).2 (smallR 2 s).1).1, (takeR (smallR 2 s).2 (smallR 2 s).1).2) := by simp only [textR, if_neg hg]
    rw [e] at kk
    refine take_h H1 hM (by omega) ?_
    intro h3 a1 c1 M' hM' g1 e1 H3
    refine ⟨_, _, _, rfl, ?_⟩
    refine hwp_b2s U_string U_sl_uint8 U_uint8 (g1 _ H3.tl) (takeR_len _ _).1 e1 ?_
    exact ⟨_, rfl, kk h3 (H3.mono_tl hM')⟩

/-! ### A request, got by the document -/
def rqT (b : Bool) (x : CS × Req) : CS × Req := match b with | true => ((numberR x.1).2, { x.2 with txn := (numberR x.1).1 }) | false => x
def rqA (b : Bool) (x : CS × Req) : CS × Req := match b with | true => ((textR 255 x.1).2, { x.2 with archive := (textR 255 x.1).1 }) | false => x
def rqE (b : Bool) (x : CS × Req) : CS × Req := match b with | true => ((textR 255 x.1).2, { x.2 with entry := (textR 255 x.1).1 }) | false => x
def rqD (b : Bool) (x : CS × Req) : CS × Req := match b with | true => ((textR 16384 x.1).2, { x.2 with data := (textR 16384 x.1).1 }) | false => x
def rqP (b : Bool) (x : CS × Req) : CS × Req := match b with | true => ((numberR (numberR x.1).2).2, { x.2 with frm := (numberR x.1).1, most := (numberR (numberR x.1).2).1 }) | false => x
def rqK (b : Bool) (x : CS × Req) : CS × Req := match b with | true => ((textR 256 x.1).2, { x.2 with token := (textR 256 x.1).1 }) | false => x
def rqAll (k : Int) (x : CS × Req) : CS × Req := rqK (has k 6) (rqP (has k 4) (rqD (has k 3) (rqE (has k 2) (rqA (has k 1) (rqT (has k 0) x)))))
def refGet (bs : List Nat) : Int × Req :=
  match bs with
  | [] => (190, Req.zero)
  | b :: l => if goodKind b = true then
      if ((rqAll b (⟨l, false⟩, { Req.zero with kind := b })).1.bad || decide (0 < (rqAll b (⟨l, false⟩, { Req.zero with kind := b })).1.bs.length)) = true then (190, Req.zero) else (0, (rqAll b (⟨l, false⟩, { Req.zero with kind := b })).2)
    else (191, Req.zero)
theorem rGetRequest_h {a : OA} {n c : Nat} {bs : List Nat} (g : Gv L a (nV bs)) (hn : bs.length = n) (hnc : n ≤ c) (hn0 : a = none → c = 0) (h8 : ∀ x ∈ bs, x < 256) (H : Hs h L)
    (kk : ∀ h', Hs h' L → Q (.tuple #[(refGet bs).2.v, .int .i64 (refGet bs).1]) h') : SpecH PP F_ref19_GetRequest [.slice a n c] h Q := by
  refine ref19_GetRequest.door ?_
  dsimp only
  have H1 := H.new (t := T_api_Request) (cs := #[(.int .i64 0), (.int .i64 0), (.string (⟨#[]⟩ : ByteArray)), (.string (⟨#[]⟩ : ByteArray)), (.string (⟨#[]⟩ : ByteArray)), (.int .i64 0), (.int .i64 0), (.string (⟨#[]⟩ : ByteArray))]) (xs := Req.zero.l)
  generalize Array.push h _ = h1 at H1 ⊢
  generalize h.size = tb at H1 ⊢
  have zero : ∀ (e : Int) (h' : Heap), refGet bs = (e, Req.zero) → Hs h' (pt tb T_api_Request Req.zero.l :: L) → wrCells ⟨tb, 0, none⟩ 0 [(.int .i64 0), (.int .i64 0), (.string (⟨#[]⟩ : ByteArray)), (.string (⟨#[]⟩ : ByteArray)), (.string (⟨#[]⟩ : ByteArray)), (.int .i64 0), (.int .i64 0), (.string (⟨#[]⟩ : ByteArray))] (fun h1 =>
      ∃ (f0 f1 : Int) (f2 f3 f4 : ByteArray) (f5 f6 : Int) (f7 : ByteArray), rdCells h1 ⟨tb, 0, none⟩ 0 [(.int .i64 f0), (.int .i64 f1), (.string f2), (.string f3), (.string f4), (.int .i64 f5), (.int .i64 f6), (.string f7)] ∧
        Q (.tuple #[(.agg #[(.int .i64 f0), (.int .i64 f1), (.string f2), (.string f3), (.string f4), (.int .i64 f5), (.int .i64 f6), (.string f7)]), (.int .i64 e)]) h1) h' := by
    intro e h' he H'
    refine Hs.wrs (xs := Req.zero.l) H' ?_
    intro h2 H2
    refine ⟨_, _, _, _, _, _, _, _, H2.rdc0, ?_⟩
    have := kk h2 H2.tl
    rw [he] at this
    exact this
  cases bs with
  | nil => exact br_true (by simp at hn; simp; omega) (zero 190 h1 rfl H1)
  | cons b l =>
    have hb8 := h8 b (by simp)
    refine br_false (by simp at hn; simp; omega) ?_
    refine idx E_sl_uint8 (g _ H1.tl) (by omega) (by simp at hn; omega) (v := .int .u8 (b : Nat)) (by simp [nV]) ?_
    intro t ht
    refine ⟨_, ht, ?_⟩
    rw [wrap_i64_z (by omega) (by omega)]
    have H2 := H1.new (t := T_api_Request) (cs := #[(.int .i64 0), (.int .i64 0), (.string (⟨#[]⟩ : ByteArray)), (.string (⟨#[]⟩ : ByteArray)), (.string (⟨#[]⟩ : ByteArray)), (.int .i64 0), (.int .i64 0), (.string (⟨#[]⟩ : ByteArray))]) (xs := Req.zero.l)
    generalize Array.push h1 _ = h2 at H2 ⊢
    generalize h1.size = rb at H2 ⊢
    refine Hs.wrs (xs := Req.zero.l) H2 ?_
    intro h3 H3
    replace H3 : Hs h3 (pt rb T_api_Request (Req.l { Req.zero with kind := (b : Int) }) :: pt tb T_api_Request Req.zero.l :: L) := H3
    refine ⟨_, H3.cell (off := 0) rfl, fields_h H3 ?_⟩
    intro h4 H4
    refine ⟨_, _, _, _, _, _, _, _, rfl, ?_⟩
    have H5 := H4.new (t := T_7_bool) (cs := #[(.bool false), (.bool false), (.bool false), (.bool false), (.bool false), (.bool false), (.bool false)]) (xs := [(.bool false), (.bool false), (.bool false), (.bool false), (.bool false), (.bool false), (.bool false)])
    generalize Array.push h4 _ = h5 at H5 ⊢
    generalize h4.size = fb at H5 ⊢
    refine Hs.wrs (xs := [(.bool false), (.bool false), (.bool false), (.bool false), (.bool false), (.bool false), (.bool false)]) H5 ?_
    intro h6 H6
    replace H6 : Hs h6 (pt fb T_7_bool (hasV b) :: pt rb T_api_Request (Req.l { Req.zero with kind := (b : Int) }) :: pt tb T_api_Request Req.zero.l :: L) := H6
    refine (br_iff _ _ _).2 ⟨fun hg => zero 191 h6 (by simp only [refGet, if_neg (show ¬ goodKind (b : Int) = true by simpa using hg)]) (H6.sel 3 [2]), fun hg => ?_⟩
    have hg' : goodKind (b : Int) = true := by simpa using hg
    refine bytes_tailG (i := 1) E_sl_uint8 g hn hnc hn0 (by simp at hn; omega) ?_
    intro a' c' g' e1 e2 e3
    refine ⟨_, _, _, rfl, ?_⟩
    have H7 := H6.new (t := T_haversackref19_Cut) (cs := #[.slice a' (n - 1) c', .bool false]) (xs := [.slice a' (n - 1) c', .bool false])
    generalize Array.push h6 _ = h7 at H7 ⊢
    generalize h6.size = cb at H7 ⊢
    have H8 : Hs h7 (cutA L cb ⟨l, false⟩ :: pt rb T_api_Request (Req.l { Req.zero with kind := (b : Int) }) :: pt fb T_7_bool (hasV b) :: pt tb T_api_Request Req.zero.l :: L) :=
      cutI.2 ⟨a', n - 1, c', ⟨by simp at hn ⊢; omega, e2, e3, fun x hx => h8 x (by simp at hx ⊢; exact .inr hx), by simpa using g'⟩, H7.sel 4 [0, 2, 1, 3]⟩
    have hM : ∀ {r : Req} {h}, Hs h (pt rb T_api_Request r.l :: pt fb T_7_bool (hasV b) :: pt tb T_api_Request Req.zero.l :: L) → Hs h L := fun H => H.tl.tl.tl
    -- from the end on
    have J6 : ∀ (h' : Heap) (x : CS × Req), x = rqAll b (⟨l, false⟩, { Req.zero with kind := b }) → Hs h' (cutA L cb x.1 :: pt rb T_api_Request x.2.l :: pt fb T_7_bool (hasV b) :: pt tb T_api_Request Req.zero.l :: L) → ref19_GetRequest.J6 ⟨tb, 0, none⟩ ⟨rb, 0, none⟩ ⟨cb, 0, none⟩ Q h' := by
      intro h' x hx H'
      obtain ⟨a2, n2, c2, f, H9⟩ := cutI.1 H'
      have J7 : ∀ z : Bool, z = (x.1.bad || decide (0 < x.1.bs.length)) → ref19_GetRequest.J7 ⟨tb, 0, none⟩ ⟨rb, 0, none⟩ z Q h' := by
        intro z hz
        refine ref19_GetRequest.J7_of ?_
        refine (br_iff _ _ _).2 ⟨fun q => zero 190 h' ?_ (H9.sel 4 [3]), fun q => ?_⟩
        · rw [hz, hx] at q
          simp only [refGet, if_pos hg', if_pos q]
        · rw [hz, hx] at q
          have he : refGet (b :: l) = (0, x.2) := by simp only [refGet, if_pos hg', q, hx, Bool.false_eq_true, if_false]
          refine ⟨_, _, _, _, _, _, _, _, H9.m1.rdc0 (xs := x.2.l), ?_⟩
          refine Hs.wrs (xs := Req.zero.l) (H9.sel 4 [3]) ?_
          intro h10 H10
          refine ⟨_, _, _, _, _, _, _, _, H10.rdc0, ?_⟩
          have := kk h10 H10.tl
          rw [he] at this
          exact this
      refine ref19_GetRequest.J6_of ?_
      refine ⟨_, H9.cell (off := 1) rfl, ?_⟩
      refine (br_iff _ _ _).2 ⟨fun q => J7 true (by simp [q]), fun q => ⟨_, _, _, H9.cell (off := 0) rfl, J7 _ ?_⟩⟩
      rw [q, f.1]; simp
    have J5 : ∀ (h' : Heap) (x : CS × Req), rqK (has b 6) x = rqAll b (⟨l, false⟩, { Req.zero with kind := b }) → Hs h' (cutA L cb x.1 :: pt rb T_api_Request x.2.l :: pt fb T_7_bool (hasV b) :: pt tb T_api_Request Req.zero.l :: L) → ref19_GetRequest.J5 ⟨tb, 0, none⟩ ⟨rb, 0, none⟩ ⟨fb, 0, none⟩ ⟨cb, 0, none⟩ Q h' := by
      intro h' x hx H'
      refine ref19_GetRequest.J5_of (ix7 (i := 6) (by decide) (H'.sel 4 [2, 0, 1, 3]) ?_)
      refine (br_iff _ _ _).2 ⟨fun q => ctext_h (most := 256) (by decide) H' (fun h H => hM H) ?_, fun q => J6 h' x (by rw [← hx, q]; rfl) H'⟩
      intro h2 H2
      refine ⟨_, rfl, H2.m1.sto (off := 7) (by simp [Req.l]) fun h3 H3 => J6 h3 ((textR 256 x.1).2, { x.2 with token := (textR 256 x.1).1 }) (by rw [← hx, q]; rfl) H3.m1⟩
    have J4 : ∀ (h' : Heap) (x : CS × Req), rqK (has b 6) (rqP (has b 4) x) = rqAll b (⟨l, false⟩, { Req.zero with kind := b }) → Hs h' (cutA L cb x.1 :: pt rb T_api_Request x.2.l :: pt fb T_7_bool (hasV b) :: pt tb T_api_Request Req.zero.l :: L) → ref19_GetRequest.J4 ⟨tb, 0, none⟩ ⟨rb, 0, none⟩ ⟨fb, 0, none⟩ ⟨cb, 0, none⟩ Q h' := by
      intro h' x hx H'
      refine ref19_GetRequest.J4_of (ix7 (i := 4) (by decide) (H'.sel 4 [2, 0, 1, 3]) ?_)
      refine (br_iff _ _ _).2 ⟨fun q => cnumber_h H' (fun h H => hM H) ?_, fun q => J5 h' x (by rw [← hx, q]; rfl) H'⟩
      intro h2 H2
      refine ⟨_, rfl, H2.m1.sto (off := 5) (by simp [Req.l]) fun h3 H3 => ?_⟩
      replace H3 : Hs h3 (pt rb T_api_Request (Req.l { x.2 with frm := (numberR x.1).1 }) :: cutA L cb (numberR x.1).2 :: pt fb T_7_bool (hasV b) :: pt tb T_api_Request Req.zero.l :: L) := H3
      refine cnumber_h H3.m1 (fun h H => hM H) ?_
      intro h4 H4
      refine ⟨_, rfl, H4.m1.sto (off := 6) (by simp [Req.l]) fun h5 H5 => J5 h5 ((numberR (numberR x.1).2).2, { x.2 with frm := (numberR x.1).1, most := (numberR (numberR x.1).2).1 }) (by rw [← hx, q]; rfl) H5.m1⟩
    have J3 : ∀ (h' : Heap) (x : CS × Req), rqK (has b 6) (rqP (has b 4) (rqD (has b 3) x)) = rqAll b (⟨l, false⟩, { Req.zero with kind := b }) → Hs h' (cutA L cb x.1 :: pt rb T_api_Request x.2.l :: pt fb T_7_bool (hasV b) :: pt tb T_api_Request Req.zero.l :: L) → ref19_GetRequest.J3 ⟨tb, 0, none⟩ ⟨rb, 0, none⟩ ⟨fb, 0, none⟩ ⟨cb, 0, none⟩ Q h' := by
      intro h' x hx H'
      refine ref19_GetRequest.J3_of (ix7 (i := 3) (by decide) (H'.sel 4 [2, 0, 1, 3]) ?_)
      refine (br_iff _ _ _).2 ⟨fun q => ctext_h (most := 16384) (by decide) H' (fun h H => hM H) ?_, fun q => J4 h' x (by rw [← hx, q]; rfl) H'⟩
      intro h2 H2
      refine ⟨_, rfl, H2.m1.sto (off := 4) (by simp [Req.l]) fun h3 H3 => J4 h3 ((textR 16384 x.1).2, { x.2 with data := (textR 16384 x.1).1 }) (by rw [← hx, q]; rfl) H3.m1⟩
    have J2 : ∀ (h' : Heap) (x : CS × Req), rqK (has b 6) (rqP (has b 4) (rqD (has b 3) (rqE (has b 2) x))) = rqAll b (⟨l, false⟩, { Req.zero with kind := b }) → Hs h' (cutA L cb x.1 :: pt rb T_api_Request x.2.l :: pt fb T_7_bool (hasV b) :: pt tb T_api_Request Req.zero.l :: L) → ref19_GetRequest.J2 ⟨tb, 0, none⟩ ⟨rb, 0, none⟩ ⟨fb, 0, none⟩ ⟨cb, 0, none⟩ Q h' := by
      intro h' x hx H'
      refine ref19_GetRequest.J2_of (ix7 (i := 2) (by decide) (H'.sel 4 [2, 0, 1, 3]) ?_)
      refine (br_iff _ _ _).2 ⟨fun q => ctext_h (most := 255) (by decide) H' (fun h H => hM H) ?_, fun q => J3 h' x (by rw [← hx, q]; rfl) H'⟩
      intro h2 H2
      refine ⟨_, rfl, H2.m1.sto (off := 3) (by simp [Req.l]) fun h3 H3 => J3 h3 ((textR 255 x.1).2, { x.2 with entry := (textR 255 x.1).1 }) (by rw [← hx, q]; rfl) H3.m1⟩
    have J1 : ∀ (h' : Heap) (x : CS × Req), rqK (has b 6) (rqP (has b 4) (rqD (has b 3) (rqE (has b 2) (rqA (has b 1) x)))) = rqAll b (⟨l, false⟩, { Req.zero with kind := b }) → Hs h' (cutA L cb x.1 :: pt rb T_api_Request x.2.l :: pt fb T_7_bool (hasV b) :: pt tb T_api_Request Req.zero.l :: L) → ref19_GetRequest.J1 ⟨tb, 0, none⟩ ⟨rb, 0, none⟩ ⟨fb, 0, none⟩ ⟨cb, 0, none⟩ Q h' := by
      intro h' x hx H'
      refine ref19_GetRequest.J1_of (ix7 (i := 1) (by decide) (H'.sel 4 [2, 0, 1, 3]) ?_)
      refine (br_iff _ _ _).2 ⟨fun q => ctext_h (most := 255) (by decide) H' (fun h H => hM H) ?_, fun q => J2 h' x (by rw [← hx, q]; rfl) H'⟩
      intro h2 H2
      refine ⟨_, rfl, H2.m1.sto (off := 2) (by simp [Req.l]) fun h3 H3 => J2 h3 ((textR 255 x.1).2, { x.2 with archive := (textR 255 x.1).1 }) (by rw [← hx, q]; rfl) H3.m1⟩
    refine ix7 (i := 0) (by decide) (H8.sel 4 [2, 0, 1, 3]) ?_
    refine (br_iff _ _ _).2 ⟨fun q => cnumber_h H8 (fun h H => hM H) ?_, fun q => J1 _ (⟨l, false⟩, { Req.zero with kind := (b : Int) }) (by simp only [rqAll, q]; rfl) H8⟩
    intro h9 H9
    refine ⟨_, rfl, H9.m1.sto (off := 1) (by simp [Req.l]) fun h10 H10 => J1 h10 ((numberR ⟨l, false⟩).2, { Req.zero with kind := (b : Int), txn := (numberR ⟨l, false⟩).1 }) (by simp only [rqAll, q]; rfl) H10.m1⟩
end Go.Proofs.Ytnidhafhgclakaa

set_option linter.unusedVariables false
set_option linter.unusedSimpArgs false
namespace Go.Proofs.Ytnidhafhgclakaa
open Go Go.HW
variable {h : Heap} {L M : List Assn} {Q X : Value → Heap → Prop}
def headR (r : Rsp) : List Nat := [r.code.toNat % 256, r.code.toNat / 256] ++ dig r.txn.toNat 4 ++ dig r.at'.toNat 4 ++ dig r.size.toNat 4 ++ dig r.ub.toNat 4 ++ dig r.ue.toNat 4 ++ txtB r.data ++ [r.names.length]
def refPutRsp (r : Rsp) : Int × List Nat :=
  if (0 ≤ r.code ∧ r.code ≤ 65535) ∧ rspW r = true then
    if r.data.size > 16384 ∨ r.names.length > 64 then (2, [])
    else match putNames r.names (headR r) with
      | .ok b => if b.length > 20000 then (2, []) else (0, b)
      | .error _ => (2, [])
  else (1, [])
theorem rputr_loop {K : EP} {rb nn nc : Nat} {na : OA} {r : Rsp} (g : Gv L na (sV r.names)) (hnn : r.names.length = nn) (hnc : nn ≤ nc) (h64 : nn ≤ 64) :
    ∀ (k i : Nat) (bs : List Nat) (a : OA) (n c : Nat) (h : Heap), i + k = nn → bs.length = n → n + 300 * k < 2 ^ 39 → Hs h (own a n c T_uint8 1 (nV bs) :: pt rb T_api_Response (r.l na nn nc) :: L) →
      (∀ b' a' n' c' h', putNames (r.names.drop i) bs = .ok b' → b'.length = n' → Hs h' (own a' n' c' T_uint8 1 (nV b') :: L) → K (.exit 0) (ref19_PutResponse.X0 a' n' c') h') →
      (∀ e h', putNames (r.names.drop i) bs = .error e → Hs h' L → K .ret (ref19_PutResponse.Xret none 0 0 2) h') →
      ref19_PutResponse.L1 ⟨rb, 0, none⟩ a n c (i : Int) K h := by
  intro k
  induction k with
  | zero =>
    intro i bs a n c h hi hn hb H kk kx
    refine ref19_PutResponse.L1_of ⟨_, _, _, H.m1.cell (off := 5) rfl, ?_⟩
    exact br_false (by simp; omega) (kk bs a n c h (by rw [List.drop_of_length_le (by omega)]; rfl) hn (H.sel 2 [0]))
  | succ k ih =>
    intro i bs a n c h hi hn hb H kk kx
    have hil : i < r.names.length := by omega
    have hdrop : r.names.drop i = r.names[i] :: r.names.drop (i + 1) := (List.getElem_cons_drop hil).symm
    rw [hdrop] at kk kx
    simp only [putNames] at kk kx
    refine ref19_PutResponse.L1_of ⟨_, _, _, H.m1.cell (off := 5) rfl, ?_⟩
    refine br_true (by simp; omega) ?_
    refine ⟨_, _, _, H.m1.cell (off := 5) rfl, ?_⟩
    refine idx E_sl_string (g _ H.tl.tl) (by omega) (by omega) (v := .string r.names[i]) (by simp [hil]) ?_
    intro t ht
    refine ⟨_, ht, ?_⟩
    refine (br_iff _ _ _).2 ⟨fun hv => ?_, fun hv => ?_⟩
    · have : ¬ r.names[i].size ≤ 255 := by have : (r.names[i].size : Int) > 255 := by simpa using hv
                                           omega
      exact kx 2 h (by rw [if_neg this]) H.tl.tl
    have hle : r.names[i].size ≤ 255 := by have : ¬ (r.names[i].size : Int) > 255 := by simpa using hv
                                           omega
    simp only [if_pos hle] at kk kx
    refine ⟨_, _, _, H.m1.cell (off := 5) rfl, ?_⟩
    refine idx E_sl_string (g _ H.tl.tl) (by omega) (by omega) (v := .string r.names[i]) (by simp [hil]) ?_
    intro t2 ht2
    refine ⟨_, ht2, ?_⟩
    dsimp only
    rw [wrap_u8_id (by omega)]
    refine H.app_vals (ys := nV [r.names[i].size]) (m := 1) E_sl_uint8 rfl rfl (nV_one _) ?_ (by omega) (by omega)
    intro h4 a4 c4 H4
    refine ⟨_, _, _, rfl, _, _, _, H4.m1.cell (off := 5) rfl, ?_⟩
    refine idx E_sl_string (g _ H4.tl.tl) (by omega) (by omega) (v := .string r.names[i]) (by simp [hil]) ?_
    intro t3 ht3
    refine ⟨_, ht3, ?_⟩
    refine H4.app_str E_sl_uint8 U_string ?_ (by omega) (by omega)
    intro h6 a6 c6 H6
    refine ⟨_, _, _, rfl, ?_⟩
    rw [inc (by omega)]
    rw [strV_nV, ← nV_app, ← nV_app] at H6
    refine ih (i + 1) _ a6 _ c6 h6 (by omega) ?_ ?_ H6 kk kx
    · simp [hn, sb_len]; omega
    · omega
theorem rPutResponse_h {r : Rsp} {na : OA} {nn nc : Nat} (H : Hs h L) (hnn : r.names.length = nn) (hnc : nn ≤ nc) (g : Gv L na (sV r.names))
    (kk : ∀ h' a n c, (refPutRsp r).2.length = n → Hs h' (own a n c T_uint8 1 (nV (refPutRsp r).2) :: L) → Q (.tuple #[.slice a n c, .int .i64 (refPutRsp r).1]) h') : SpecH PP F_ref19_PutResponse [r.v na nn nc] h Q := by
  refine ref19_PutResponse.door ?_
  dsimp only
  have H1 := H.new (t := T_api_Response) (cs := #[(.int .i64 r.code), (.int .i64 r.txn), (.int .i64 r.at'), (.int .i64 r.size), (.string r.data), (.slice na nn nc), (.int .i64 r.ub), (.int .i64 r.ue)]) (xs := r.l na nn nc)
  generalize Array.push h _ = h1 at H1 ⊢
  generalize h.size = rb at H1 ⊢
  have fail : ∀ (e : Int) (h' : Heap), refPutRsp r = (e, []) → Hs h' L → Q (.tuple #[.slice none 0 0, .int .i64 e]) h' := by
    intro e h' he H'
    have := kk h' none 0 0
    rw [he] at this
    exact this rfl (H'.own_nil T_uint8 1)
  have bad : ¬ ((0 ≤ r.code ∧ r.code ≤ 65535) ∧ rspW r = true) → ref19_PutResponse.J1 ⟨rb, 0, none⟩ true Q h1 := fun hn =>
    ref19_PutResponse.J1_of (br_true rfl (fail 1 h1 (by simp only [refPutRsp, if_neg hn]) H1.tl))
  have good : ((0 ≤ r.code ∧ r.code ≤ 65535) ∧ rspW r = true) → ref19_PutResponse.J1 ⟨rb, 0, none⟩ false Q h1 := by
    intro hg
    have hw := hg.2
    simp only [rspW, Bool.and_eq_true] at hw
    obtain ⟨w1, w2, w3, w4, w5⟩ := hw
    refine ref19_PutResponse.J1_of (br_false rfl ?_)
    refine ⟨_, H1.cell (off := 4) rfl, ?_⟩
    have J2 : ∀ b : Bool, (b = true ↔ (r.data.size > 16384 ∨ r.names.length > 64)) → ref19_PutResponse.J2 ⟨rb, 0, none⟩ b Q h1 := by
      intro b hb
      refine ref19_PutResponse.J2_of ?_
      refine (br_iff _ _ _).2 ⟨fun q => fail 2 h1 (by simp only [refPutRsp, if_pos hg, if_pos (hb.1 q)]) H1.tl, fun q => ?_⟩
      have hn : ¬ (r.data.size > 16384 ∨ r.names.length > 64) := fun z => by rw [hb.2 z] at q; cases q
      have hput : refPutRsp r = match putNames r.names (headR r) with
        | .ok b => if b.length > 20000 then (2, []) else (0, b)
        | .error _ => (2, []) := by simp only [refPutRsp, if_pos hg, if_neg hn]
      obtain ⟨k, hkn⟩ := Int.eq_ofNat_of_zero_le hg.1.1
      have hk : k ≤ 65535 := by omega
      refine ⟨_, H1.cell (off := 0) rfl, ?_⟩
      dsimp only
      refine ⟨_, H1.cell (off := 0) rfl, ?_⟩
      rw [hkn, tm256, td256, wrap_u8_id (by omega), wrap_i64_z (by omega) (by omega), wrap_u8_id (by omega)]
      have H2 := (H1.new (t := T_uint8) (cs := #[.int .u8 ((k % 256 : Nat) : Int), .int .u8 ((k / 256 : Nat) : Int)]) (xs := nV [k % 256, k / 256])).pt_all (n := 2) rfl
      generalize h1.push _ = h2 at H2 ⊢
      generalize (some ⟨h1.size, 0, none⟩ : OA) = a2 at H2 ⊢
      have d4 : ∀ x, (dig x 4).length = 4 := fun x => dig_len x 4
      have dt := txtB_len r.data
      refine ⟨_, H2.m1.cell (off := 1) rfl, rnumber_h w1 rfl (by decide) H2 ?_⟩
      intro h3 a3 n3 c3 e3 H3
      refine ⟨_, _, _, rfl, _, H3.m1.cell (off := 2) rfl, rnumber_h w2 e3 (by rw [← e3]; simp [d4]) H3 ?_⟩
      intro h4 a4 n4 c4 e4 H4
      refine ⟨_, _, _, rfl, _, H4.m1.cell (off := 3) rfl, rnumber_h w3 e4 (by rw [← e4]; simp [d4]) H4 ?_⟩
      intro h5 a5 n5 c5 e5 H5
      refine ⟨_, _, _, rfl, _, H5.m1.cell (off := 6) rfl, rnumber_h w4 e5 (by rw [← e5]; simp [d4]) H5 ?_⟩
      intro h6 a6 n6 c6 e6 H6
      refine ⟨_, _, _, rfl, _, H6.m1.cell (off := 7) rfl, rnumber_h w5 e6 (by rw [← e6]; simp [d4]) H6 ?_⟩
      intro h7 a7 n7 c7 e7 H7
      refine ⟨_, _, _, rfl, _, H7.m1.cell (off := 4) rfl, rtext_h (by omega) e7 (by rw [← e7]; simp [d4]) H7 ?_⟩
      intro h8 a8 n8 c8 e8 H8
      refine ⟨_, _, _, rfl, _, _, _, H8.m1.cell (off := 5) rfl, ?_⟩
      rw [wrap_u8_id (by omega)]
      have hn8 : n8 ≤ 20000 := by rw [← e8]; simp [d4, dt]; omega
      refine H8.app_vals (ys := nV [nn]) (m := 1) E_sl_uint8 rfl rfl (nV_one _) ?_ (by omega) (by omega)
      intro h9 a9 c9 H9
      refine ⟨_, _, _, rfl, ?_⟩
      rw [← nV_app] at H9
      have eh : [k % 256, k / 256] ++ dig r.txn.toNat 4 ++ dig r.at'.toNat 4 ++ dig r.size.toNat 4 ++ dig r.ub.toNat 4 ++ dig r.ue.toNat 4 ++ txtB r.data ++ [nn] = headR r := by
        simp only [headR, hkn, hnn]; rfl
      rw [eh] at H9
      have ehl : (headR r).length = n8 + 1 := by rw [← eh, List.length_append, e8]; rfl
      refine rputr_loop (K := ref19_PutResponse.K3 Q) g hnn hnc (by omega) nn 0 (headR r) a9 (n8 + 1) c9 h9 (by omega) ehl (by omega) H9 ?_ ?_
      · intro b' a' n' c' h' e hl H'
        rw [List.drop_zero] at e
        rw [e] at hput
        refine ref19_PutResponse.L1_X0 ?_
        refine (br_iff _ _ _).2 ⟨fun q => fail 2 h' ?_ H'.tl, fun q => ?_⟩
        · have : (n' : Int) > 20000 := by simpa using q
          simp only [hput, if_pos (show b'.length > 20000 by omega)]
        · have : ¬ (n' : Int) > 20000 := by simpa using q
          simp only [if_neg (show ¬ b'.length > 20000 by omega)] at hput
          have := kk h' a' n' c'
          rw [hput] at this
          exact this hl H'
      · intro e h' he H'
        rw [List.drop_zero] at he
        exact ref19_PutResponse.L1_Xret (fail 2 h' (by rw [hput, he]) H')
    refine (br_iff _ _ _).2 ⟨fun q => J2 true (by simp at q; simp; omega), fun q => ⟨_, _, _, H1.cell (off := 5) rfl, J2 _ ?_⟩⟩
    simp at q
    simp only [decide_eq_true_iff]
    omega
  refine ⟨_, H1.cell (off := 0) rfl, ?_⟩
  refine (br_iff _ _ _).2 ⟨fun q => bad fun z => by simp at q; omega, fun q0 => ⟨_, H1.cell (off := 0) rfl, ?_⟩⟩
  refine (br_iff _ _ _).2 ⟨fun q => bad fun z => by simp at q; omega, fun q1 => ⟨_, H1.cell (off := 1) rfl, _, rwithin_pure _, _, rfl, ?_⟩⟩
  have nw : ∀ {x : Int}, (!within x) = true → within x = false := fun q => by simpa using q
  refine (br_iff _ _ _).2 ⟨fun q => bad fun z => by have := z.2; simp [rspW, nw q] at this, fun q2 => ⟨_, H1.cell (off := 2) rfl, _, rwithin_pure _, _, rfl, ?_⟩⟩
  refine (br_iff _ _ _).2 ⟨fun q => bad fun z => by have := z.2; simp [rspW, nw q] at this, fun q3 => ⟨_, H1.cell (off := 3) rfl, _, rwithin_pure _, _, rfl, ?_⟩⟩
  refine (br_iff _ _ _).2 ⟨fun q => bad fun z => by have := z.2; simp [rspW, nw q] at this, fun q4 => ⟨_, H1.cell (off := 6) rfl, _, rwithin_pure _, _, rfl, ?_⟩⟩
  refine (br_iff _ _ _).2 ⟨fun q => bad fun z => by have := z.2; simp [rspW, nw q] at this, fun q5 => ⟨_, H1.cell (off := 7) rfl, _, rwithin_pure _, _, rfl, ?_⟩⟩
  cases w : within r.ue with
  | false => exact bad fun z => by have := z.2; simp [rspW, w] at this
  | true =>
    refine good ⟨by simp at q0 q1; omega, ?_⟩
    simp at q2 q3 q4 q5
    simp [rspW, q2, q3, q4, q5, w]

/-! ### A response, got by the document -/
def loopR : Nat → CS → List ByteArray → CS × List ByteArray
  | 0, s, acc => (s, acc)
  | k + 1, s, acc => if s.bad = true then (s, acc) else loopR k (takeR (smallR 1 s).2 (smallR 1 s).1).2 (acc ++ [st (takeR (smallR 1 s).2 (smallR 1 s).1).1])
def rr1 (x : CS × Rsp) : CS × Rsp := ((numberR x.1).2, { x.2 with txn := (numberR x.1).1 })
def rr2 (x : CS × Rsp) : CS × Rsp := ((numberR x.1).2, { x.2 with at' := (numberR x.1).1 })
def rr3 (x : CS × Rsp) : CS × Rsp := ((numberR x.1).2, { x.2 with size := (numberR x.1).1 })
def rr4 (x : CS × Rsp) : CS × Rsp := ((numberR x.1).2, { x.2 with ub := (numberR x.1).1 })
def rr5 (x : CS × Rsp) : CS × Rsp := ((numberR x.1).2, { x.2 with ue := (numberR x.1).1 })
def rr6 (x : CS × Rsp) : CS × Rsp := ((textR 16384 x.1).2, { x.2 with data := (textR 16384 x.1).1 })
def rrN (x : CS × Rsp) : CS × Rsp :=
  let y := loopR (smallR 1 x.1).1 ⟨(smallR 1 x.1).2.bs, (smallR 1 x.1).2.bad || decide (((smallR 1 x.1).1 : Int) > 64)⟩ []
  (y.1, { x.2 with names := y.2 })
def rrAll (bs : List Nat) : CS × Rsp := rrN (rr6 (rr5 (rr4 (rr3 (rr2 (rr1 ((smallR 2 ⟨bs, false⟩).2, { Rsp.zero with code := (smallR 2 ⟨bs, false⟩).1 })))))))
def refGetRsp (bs : List Nat) : Int × Rsp :=
  if ((rrAll bs).1.bad || (decide (0 < (rrAll bs).1.bs.length) || decide ((bs.length : Int) > 20000))) = true then (190, Rsp.zero) else (0, (rrAll bs).2)
theorem rgetr_loop {K : EP} {b0 : OA} {b0n b0c : Nat} {tb : Addr} {cb rb m : Nat} {r : Rsp} (hM : ∀ h, Hs h M → Hs h L) (hm : m ≤ 255) :
    ∀ (k i : Nat) (s : CS) (names : List ByteArray) (na : OA) (nn nc : Nat) (h : Heap), i + k = m → names.length = nn → nn = i → Hs h (cutA L cb s :: pt rb T_api_Response (r.l na nn nc) :: own na nn nc T_string 1 (sV names) :: M) →
      (∀ na' nn' nc' h', Hs h' (cutA L cb (loopR k s names).1 :: pt rb T_api_Response (r.l na' nn' nc') :: own na' nn' nc' T_string 1 (sV (loopR k s names).2) :: M) → K (.exit 0) (ref19_GetResponse.X0 b0 b0n b0c tb ⟨cb, 0, none⟩ ⟨rb, 0, none⟩) h') →
      ref19_GetResponse.L1 b0 b0n b0c tb ⟨cb, 0, none⟩ ⟨rb, 0, none⟩ (m : Int) (i : Int) K h := by
  intro k
  induction k with
  | zero =>
    intro i s names na nn nc h hi hl hni H kk
    refine ref19_GetResponse.L1_of (br_false (by simp; omega) ?_)
    exact kk na nn nc h H
  | succ k ih =>
    intro i s names na nn nc h hi hl hni H kk
    refine ref19_GetResponse.L1_of (br_true (by simp; omega) ?_)
    obtain ⟨a, n, c, f, H1⟩ := cutI.1 H
    refine ⟨_, H1.cell (off := 1) rfl, ?_⟩
    simp only [loopR] at kk
    refine (br_iff _ _ _).2 ⟨fun q => ?_, fun q => ?_⟩
    · have hb : ¬ s.bad = true := by simpa using q
      simp only [if_neg hb] at kk
      have hM3 : ∀ h, Hs h (pt rb T_api_Response (r.l na nn nc) :: own na nn nc T_string 1 (sV names) :: M) → Hs h L := fun h H => hM h H.tl.tl
      have hlt := smallR_lt (k := 1) (cut_lt H)
      refine csmall_h (k := 1) (by decide) H hM3 ?_
      intro h1 H2
      refine ⟨_, rfl, take_h H2 hM3 (by omega) ?_⟩
      intro h2 a2 c2 M' hM' g2 e2 H3
      have H4 := H3.mono_tl hM'
      refine ⟨_, _, _, rfl, _, _, _, H4.m1.cell (off := 5) rfl, ?_⟩
      refine hwp_b2s U_string U_sl_uint8 U_uint8 (g2 _ H3.tl) (takeR_len _ _).1 e2 ?_
      refine ⟨_, rfl, ?_⟩
      refine (H4.sel 3 [2, 0, 1]).app_vals (ys := [.string (st (takeR (smallR 1 s).2 (smallR 1 s).1).1)]) (m := 1) E_sl_string rfl rfl (by simp [oneC]) ?_ (by omega) (by omega)
      intro h5 a5 c5 H5
      refine ⟨_, _, _, rfl, ?_⟩
      refine (H5.sel 3 [2, 0, 1]).sto (off := 5) (by simp [Rsp.l]) ?_
      intro h6 H6
      dsimp only
      rw [inc (by omega)]
      have e : sV names ++ [.string (st (takeR (smallR 1 s).2 (smallR 1 s).1).1)] = sV (names ++ [st (takeR (smallR 1 s).2 (smallR 1 s).1).1]) := by simp [sV]
      rw [e] at H6
      have H7 : Hs h6 (cutA L cb (takeR (smallR 1 s).2 (smallR 1 s).1).2 :: pt rb T_api_Response (r.l a5 (nn + 1) c5) :: own a5 (nn + 1) c5 T_string 1 (sV (names ++ [st (takeR (smallR 1 s).2 (smallR 1 s).1).1])) :: M) := H6.sel 3 [2, 0, 1]
      exact ih (i + 1) _ _ a5 (nn + 1) c5 h6 (by omega) (by simp [hl]) (by omega) H7 kk
    · have hb : s.bad = true := by simpa using q
      simp only [if_pos hb] at kk
      exact kk na nn nc h H
theorem rGetResponse_h {a : OA} {n c : Nat} {bs : List Nat} (g : Gv L a (nV bs)) (hn : bs.length = n) (hnc : n ≤ c) (hn0 : a = none → c = 0) (h8 : ∀ x ∈ bs, x < 256) (H : Hs h L)
    (kk : ∀ h' na nn nc, (refGetRsp bs).2.names.length = nn → Hs h' (own na nn nc T_string 1 (sV (refGetRsp bs).2.names) :: L) → Q (.tuple #[(refGetRsp bs).2.v na nn nc, .int .i64 (refGetRsp bs).1]) h') : SpecH PP F_ref19_GetResponse [.slice a n c] h Q := by
  refine ref19_GetResponse.door ?_
  dsimp only
  have H1 := H.new (t := T_api_Response) (cs := #[(.int .i64 0), (.int .i64 0), (.int .i64 0), (.int .i64 0), (.string (⟨#[]⟩ : ByteArray)), (.slice none 0 0), (.int .i64 0), (.int .i64 0)]) (xs := Rsp.zero.l none 0 0)
  have H2 := H1.new (t := T_haversackref19_Cut) (cs := #[.slice a n c, .bool false]) (xs := [.slice a n c, .bool false])
  generalize Array.push (Array.push h _) _ = h2 at H2 ⊢
  generalize Array.size (Array.push h _) = cb at H2 ⊢
  generalize h.size = tb at H2 ⊢
  clear H1
  have H3 : Hs h2 (cutA L cb ⟨bs, false⟩ :: pt tb T_api_Response (Rsp.zero.l none 0 0) :: L) := cutI.2 ⟨a, n, c, ⟨hn, hnc, hn0, h8, g⟩, H2⟩
  refine csmall_h (k := 2) (by decide) H3 (fun h H => H.tl) ?_
  intro h3 H4
  refine ⟨_, rfl, ?_⟩
  have H5 := H4.new (t := T_api_Response) (cs := #[(.int .i64 0), (.int .i64 0), (.int .i64 0), (.int .i64 0), (.string (⟨#[]⟩ : ByteArray)), (.slice none 0 0), (.int .i64 0), (.int .i64 0)]) (xs := Rsp.zero.l none 0 0)
  generalize Array.push h3 _ = h4 at H5 ⊢
  generalize h3.size = rb at H5 ⊢
  refine Hs.wrs (xs := Rsp.zero.l none 0 0) H5 ?_
  intro h5 H6
  have PM : ∀ {r : Rsp} {h}, Hs h (pt rb T_api_Response (r.l none 0 0) :: pt tb T_api_Response (Rsp.zero.l none 0 0) :: L) → Hs h L := fun H => H.tl.tl
  -- one number behind the other
  have num : ∀ (x : CS × Rsp) (h' : Heap) (off : Nat) (f : Int → Rsp) (K : Int → Heap → Prop), Hs h' (cutA L cb x.1 :: pt rb T_api_Response (x.2.l none 0 0) :: pt tb T_api_Response (Rsp.zero.l none 0 0) :: L) → off < 8 → (∀ v, (x.2.l none 0 0).set off (.int .i64 v) = (f v).l none 0 0) →
      (∀ h'', Hs h'' (cutA L cb (numberR x.1).2 :: pt rb T_api_Response ((f (numberR x.1).1).l none 0 0) :: pt tb T_api_Response (Rsp.zero.l none 0 0) :: L) → K (numberR x.1).1 h'') →
      SpecH PP F_ref19_Cut_number [.pointer (some ⟨cb, 0, none⟩)] h' (fun v h1 => ∃ t : Int, v = .int .i64 t ∧ wr ⟨rb, off, none⟩ (.int .i64 t) (fun h2 => K t h2) h1) := by
    intro x h' off f K H' ho hf k
    refine cnumber_h H' (fun h H => PM H) ?_
    intro h1 H1
    refine ⟨_, rfl, H1.m1.sto (off := off) (by simpa [Rsp.l] using ho) fun h2 H2 => ?_⟩
    rw [hf] at H2
    exact k h2 H2.m1
  have hall : rrAll bs = rrN (rr6 (rr5 (rr4 (rr3 (rr2 (rr1 ((smallR 2 ⟨bs, false⟩).2, { Rsp.zero with code := (smallR 2 ⟨bs, false⟩).1 })))))))  := rfl
  generalize smallR 2 ⟨bs, false⟩ = s2 at H6 hall
  obtain ⟨v2, c2⟩ := s2
  replace H6 : Hs h5 (pt rb T_api_Response (Rsp.l { Rsp.zero with code := (v2 : Int) } none 0 0) :: cutA L cb c2 :: pt tb T_api_Response (Rsp.zero.l none 0 0) :: L) := H6
  dsimp only at hall
  generalize hx0 : (c2, ({ Rsp.zero with code := (v2 : Int) } : Rsp)) = x0 at hall
  have hx1 : c2 = x0.1 := by rw [← hx0]
  have hx2 : ({ Rsp.zero with code := (v2 : Int) } : Rsp) = x0.2 := by rw [← hx0]
  have hnm0 : x0.2.names = [] := by rw [← hx0]; rfl
  rw [hx1, hx2] at H6
  have H7 : Hs h5 (cutA L cb x0.1 :: pt rb T_api_Response (x0.2.l none 0 0) :: pt tb T_api_Response (Rsp.zero.l none 0 0) :: L) := H6.m1
  refine num x0 h5 1 (fun v => { x0.2 with txn := v }) _ H7 (by decide) (fun v => rfl) ?_
  intro h6 G1
  replace G1 : Hs h6 (cutA L cb (rr1 x0).1 :: pt rb T_api_Response ((rr1 x0).2.l none 0 0) :: pt tb T_api_Response (Rsp.zero.l none 0 0) :: L) := by simpa only [rr1] using G1
  have hn1 : (rr1 x0).2.names = [] := by simpa only [rr1] using hnm0
  generalize rr1 x0 = x1 at G1 hall hn1
  refine num x1 h6 2 (fun v => { x1.2 with at' := v }) _ G1 (by decide) (fun v => rfl) ?_
  intro h7 G2
  replace G2 : Hs h7 (cutA L cb (rr2 x1).1 :: pt rb T_api_Response ((rr2 x1).2.l none 0 0) :: pt tb T_api_Response (Rsp.zero.l none 0 0) :: L) := by simpa only [rr2] using G2
  have hn2 : (rr2 x1).2.names = [] := by simpa only [rr2] using hn1
  generalize rr2 x1 = x2 at G2 hall hn2
  refine num x2 h7 3 (fun v => { x2.2 with size := v }) _ G2 (by decide) (fun v => rfl) ?_
  intro h8' G3
  replace G3 : Hs h8' (cutA L cb (rr3 x2).1 :: pt rb T_api_Response ((rr3 x2).2.l none 0 0) :: pt tb T_api_Response (Rsp.zero.l none 0 0) :: L) := by simpa only [rr3] using G3
  have hn3 : (rr3 x2).2.names = [] := by simpa only [rr3] using hn2
  generalize rr3 x2 = x3 at G3 hall hn3
  refine num x3 h8' 6 (fun v => { x3.2 with ub := v }) _ G3 (by decide) (fun v => rfl) ?_
  intro h9 G4
  replace G4 : Hs h9 (cutA L cb (rr4 x3).1 :: pt rb T_api_Response ((rr4 x3).2.l none 0 0) :: pt tb T_api_Response (Rsp.zero.l none 0 0) :: L) := by simpa only [rr4] using G4
  have hn4 : (rr4 x3).2.names = [] := by simpa only [rr4] using hn3
  generalize rr4 x3 = x4 at G4 hall hn4
  refine num x4 h9 7 (fun v => { x4.2 with ue := v }) _ G4 (by decide) (fun v => rfl) ?_
  intro h10 G5
  replace G5 : Hs h10 (cutA L cb (rr5 x4).1 :: pt rb T_api_Response ((rr5 x4).2.l none 0 0) :: pt tb T_api_Response (Rsp.zero.l none 0 0) :: L) := by simpa only [rr5] using G5
  have hn5 : (rr5 x4).2.names = [] := by simpa only [rr5] using hn4
  generalize rr5 x4 = x5 at G5 hall hn5
  refine ctext_h (most := 16384) (by decide) G5 (fun h H => PM H) ?_
  intro h11 H13
  refine ⟨_, rfl, H13.m1.sto (off := 4) (by simp [Rsp.l]) fun h12 H14 => ?_⟩
  replace H14 : Hs h12 (pt rb T_api_Response (Rsp.l { x5.2 with data := (textR 16384 x5.1).1 } none 0 0) :: cutA L cb (textR 16384 x5.1).2 :: pt tb T_api_Response (Rsp.zero.l none 0 0) :: L) := H14
  have H15 : Hs h12 (cutA L cb (rr6 x5).1 :: pt rb T_api_Response ((rr6 x5).2.l none 0 0) :: pt tb T_api_Response (Rsp.zero.l none 0 0) :: L) := by simpa only [rr6] using H14.m1
  have hnm : (rr6 x5).2.names = [] := by simpa only [rr6] using hn5
  generalize rr6 x5 = x6 at H15 hall hnm
  clear hx0 hx1 hx2 hnm0 H6 H7 G1 G2 G3 G4 G5 H13 H14 num hn1 hn2 hn3 hn4 hn5
  have h256 := smallR_lt (k := 1) (cut_lt H15)
  refine csmall_h (k := 1) (by decide) H15 (fun h H => PM H) ?_
  intro h13 H16
  refine ⟨_, rfl, ?_⟩
  obtain ⟨ca, cn, cc, cf, H17⟩ := cutI.1 H16
  refine ⟨_, H17.cell (off := 1) rfl, ?_⟩
  have zero : ∀ (h' : Heap), refGetRsp bs = (190, Rsp.zero) → Hs h' (pt tb T_api_Response (Rsp.zero.l none 0 0) :: L) → ref19_GetResponse.J2 ⟨tb, 0, none⟩ ⟨rb, 0, none⟩ true Q h' := by
    intro h' he H'
    refine ref19_GetResponse.J2_of (br_true rfl ?_)
    refine Hs.wrs (xs := Rsp.zero.l none 0 0) H' ?_
    intro h2 H2
    refine ⟨_, _, _, _, _, _, _, _, _, _, H2.rdc0, ?_⟩
    have := kk h2 none 0 0
    rw [he] at this
    exact this rfl (H2.tl.own_nil T_string 1)
  have fin : ∀ b : Bool, b = ((smallR 1 x6.1).2.bad || decide (((smallR 1 x6.1).1 : Int) > 64)) → ∀ h', Hs h' (pt cb T_haversackref19_Cut [.slice ca cn cc, .bool b] :: pt rb T_api_Response (x6.2.l none 0 0) :: pt tb T_api_Response (Rsp.zero.l none 0 0) :: L) → ref19_GetResponse.J1 a n c ⟨tb, 0, none⟩ ⟨cb, 0, none⟩ ⟨rb, 0, none⟩ ((smallR 1 x6.1).1 : Nat) Q h' := by
    intro b hb h' H'
    refine ref19_GetResponse.J1_of ?_
    have H18 : Hs h' (cutA L cb ⟨(smallR 1 x6.1).2.bs, b⟩ :: pt rb T_api_Response (x6.2.l none 0 0) :: own none 0 0 T_string 1 (sV []) :: pt tb T_api_Response (Rsp.zero.l none 0 0) :: L) := cutI.2 ⟨ca, cn, cc, cf, (H'.own_nil T_string 1).sel 3 [1, 2, 0]⟩
    refine rgetr_loop (K := ref19_GetResponse.K1 Q) (r := x6.2) (fun h H => H.tl) (by omega) (smallR 1 x6.1).1 0 _ [] none 0 0 h' (by omega) rfl rfl H18 ?_
    intro na' nn' nc' h2 H19
    refine ref19_GetResponse.L1_X0 ?_
    have hl : rrAll bs = ((loopR (smallR 1 x6.1).1 ⟨(smallR 1 x6.1).2.bs, b⟩ []).1, { x6.2 with names := (loopR (smallR 1 x6.1).1 ⟨(smallR 1 x6.1).2.bs, b⟩ []).2 }) := by rw [hall, hb]; rfl
    generalize loopR (smallR 1 x6.1).1 ⟨(smallR 1 x6.1).2.bs, b⟩ [] = y at H19 hl
    obtain ⟨da, dn, dc, df, H20⟩ := cutI.1 H19
    have bad : (y.1.bad || (decide (0 < y.1.bs.length) || decide ((bs.length : Int) > 20000))) = true → ref19_GetResponse.J2 ⟨tb, 0, none⟩ ⟨rb, 0, none⟩ true Q h2 := fun q =>
      zero h2 (by simp only [refGetRsp, hl, if_pos q]) (H20.sel 4 [3])
    have good : (y.1.bad || (decide (0 < y.1.bs.length) || decide ((bs.length : Int) > 20000))) = false → ref19_GetResponse.J2 ⟨tb, 0, none⟩ ⟨rb, 0, none⟩ false Q h2 := by
      intro q
      have he : refGetRsp bs = (0, { x6.2 with names := y.2 }) := by simp only [refGetRsp, hl, q, Bool.false_eq_true, if_false]
      refine ref19_GetResponse.J2_of (br_false rfl ?_)
      refine ⟨_, _, _, _, _, _, _, _, _, _, H20.m1.rdc0 (xs := x6.2.l na' nn' nc'), ?_⟩
      refine Hs.wrs (xs := Rsp.zero.l none 0 0) (H20.sel 4 [3, 2]) ?_
      intro h10 H21
      refine ⟨_, _, _, _, _, _, _, _, _, _, H21.rdc0, ?_⟩
      have := kk h10 na' nn' nc'
      rw [he] at this
      exact this (by have := H21.m1.own_len; simpa using this) H21.tl
    refine ⟨_, H20.cell (off := 1) rfl, ?_⟩
    refine (br_iff _ _ _).2 ⟨fun q => bad (by simp [q]), fun q => ⟨_, _, _, H20.cell (off := 0) rfl, ?_⟩⟩
    refine (br_iff _ _ _).2 ⟨fun q2 => bad ?_, fun q2 => ?_⟩
    · have : (dn : Int) > 0 := by simpa using q2
      have : 0 < y.1.bs.length := by rw [df.1]; omega
      simp [this]
    · have q3 : ¬ (dn : Int) > 0 := by simpa using q2
      have q4 : ¬ 0 < y.1.bs.length := by rw [df.1]; omega
      dsimp only
      cases q5 : decide ((n : Int) > 20000) with
      | true => exact bad (by rw [hn, q5]; simp)
      | false => exact good (by rw [hn, q5, q, decide_eq_false q4]; rfl)
  refine (br_iff _ _ _).2 ⟨fun q => H17.sto (off := 1) (by simp) fun h14 H18 => fin true (by simp [q]) h14 H18, fun q => H17.sto (off := 1) (by simp) fun h14 H18 => fin _ (by rw [q]; rfl) h14 H18⟩

/-! ### Are two responses the same? -/
theorem same_loop {K : EP} {ab bb : Nat} {a b : Rsp} {na ma : OA} {nn nc mn mc : Nat} (g1 : Gv L na (sV a.names)) (g2 : Gv L ma (sV b.names)) (hnn : a.names.length = nn) (hmn : b.names.length = mn) (he : nn = mn) (hmax : nn < 2 ^ 60)
    (H : Hs h (pt ab T_api_Response (a.l na nn nc) :: pt bb T_api_Response (b.l ma mn mc) :: L)) (kk : a.names = b.names → K (.exit 0) (ref19_Same.X0) h) (kx : a.names ≠ b.names → K .ret (ref19_Same.Xret false) h) :
    ∀ (k i : Nat), i + k = nn → a.names.take i = b.names.take i → ref19_Same.L1 ⟨ab, 0, none⟩ ⟨bb, 0, none⟩ (i : Int) K h := by
  intro k
  induction k with
  | zero =>
    intro i hi ht
    refine ref19_Same.L1_of ⟨_, _, _, H.cell (off := 5) rfl, ?_⟩
    refine br_false (by simp; omega) (kk ?_)
    rwa [List.take_of_length_le (by omega), List.take_of_length_le (by omega)] at ht
  | succ k ih =>
    intro i hi ht
    have ha : i < a.names.length := by omega
    have hb : i < b.names.length := by omega
    refine ref19_Same.L1_of ⟨_, _, _, H.cell (off := 5) rfl, ?_⟩
    refine br_true (by simp; omega) ⟨_, _, _, H.cell (off := 5) rfl, ?_⟩
    refine idx E_sl_string (g1 _ H.tl.tl) (by omega) (by omega) (v := .string a.names[i]) (by simp [ha]) ?_
    intro t1 h1
    refine ⟨_, h1, _, _, _, H.m1.cell (off := 5) rfl, ?_⟩
    refine idx E_sl_string (g2 _ H.tl.tl) (by omega) (by omega) (v := .string b.names[i]) (by simp [hb]) ?_
    intro t2 h2
    refine ⟨_, h2, ?_⟩
    refine (br_iff _ _ _).2 ⟨fun q => kx fun e => ?_, fun q => ?_⟩
    · have hne : ¬ a.names[i] = b.names[i] := by simpa using q
      exact hne (by simp only [e])
    · have heq : a.names[i] = b.names[i] := by simpa using q
      dsimp only
      rw [inc (by omega)]
      refine ih (i + 1) (by omega) ?_
      rw [List.take_succ_eq_append_getElem ha, List.take_succ_eq_append_getElem hb, ht, heq]
theorem Same_h {a b : Rsp} {na ma : OA} {nn nc mn mc : Nat} (H : Hs h L) (g1 : Gv L na (sV a.names)) (g2 : Gv L ma (sV b.names)) (hnn : a.names.length = nn) (hmn : b.names.length = mn) (hmax : nn < 2 ^ 60)
    (kk : a = b → ∀ h', Hs h' L → Q (.bool true) h') (kx : a ≠ b → ∀ h', Hs h' L → Q (.bool false) h') : SpecH PP F_ref19_Same [a.v na nn nc, b.v ma mn mc] h Q := by
  refine ref19_Same.door ?_
  have H1 := H.new (t := T_api_Response) (cs := #[(.int .i64 a.code), (.int .i64 a.txn), (.int .i64 a.at'), (.int .i64 a.size), (.string a.data), (.slice na nn nc), (.int .i64 a.ub), (.int .i64 a.ue)]) (xs := a.l na nn nc)
  have H2 := H1.new (t := T_api_Response) (cs := #[(.int .i64 b.code), (.int .i64 b.txn), (.int .i64 b.at'), (.int .i64 b.size), (.string b.data), (.slice ma mn mc), (.int .i64 b.ub), (.int .i64 b.ue)]) (xs := b.l ma mn mc)
  dsimp only
  generalize Array.push (Array.push h _) _ = h2 at H2 ⊢
  generalize Array.size (Array.push h _) = bb at H2 ⊢
  generalize h.size = ab at H2 ⊢
  clear H1
  have H3 : Hs h2 (pt ab T_api_Response (a.l na nn nc) :: pt bb T_api_Response (b.l ma mn mc) :: L) := H2.m1
  have bad : a ≠ b → ref19_Same.J1 ⟨ab, 0, none⟩ ⟨bb, 0, none⟩ true Q h2 := fun hne => ref19_Same.J1_of (br_true rfl (kx hne h2 H3.tl.tl))
  refine ⟨_, H3.cell (off := 0) rfl, _, H3.m1.cell (off := 0) rfl, ?_⟩
  refine (br_iff _ _ _).2 ⟨fun q => bad fun e => by rw [e] at q; simp at q, fun q0 => ⟨_, H3.cell (off := 1) rfl, _, H3.m1.cell (off := 1) rfl, ?_⟩⟩
  refine (br_iff _ _ _).2 ⟨fun q => bad fun e => by rw [e] at q; simp at q, fun q1 => ⟨_, H3.cell (off := 2) rfl, _, H3.m1.cell (off := 2) rfl, ?_⟩⟩
  refine (br_iff _ _ _).2 ⟨fun q => bad fun e => by rw [e] at q; simp at q, fun q2 => ⟨_, H3.cell (off := 3) rfl, _, H3.m1.cell (off := 3) rfl, ?_⟩⟩
  refine (br_iff _ _ _).2 ⟨fun q => bad fun e => by rw [e] at q; simp at q, fun q3 => ⟨_, H3.cell (off := 4) rfl, _, H3.m1.cell (off := 4) rfl, ?_⟩⟩
  refine (br_iff _ _ _).2 ⟨fun q => bad fun e => by rw [e] at q; simp at q, fun q4 => ⟨_, _, H3.rdo (vs := [.int .i64 a.ub, .int .i64 a.ue]) 6, _, _, H3.m1.rdo (vs := [.int .i64 b.ub, .int .i64 b.ue]) 6, ?_⟩⟩
  refine (br_iff _ _ _).2 ⟨fun q => bad fun e => by rw [e] at q; simp at q, fun q5 => ⟨_, _, _, H3.cell (off := 5) rfl, _, _, _, H3.m1.cell (off := 5) rfl, ?_⟩⟩
  simp only [bne_eq_false_iff_eq, Bool.not_eq_false', decide_eq_true_iff, Bool.and_eq_true, beq_iff_eq, and_true] at q0 q1 q2 q3 q4 q5
  have eq_iff : a = b ↔ a.names = b.names := by
    constructor
    · intro e; rw [e]
    · intro e
      cases a; cases b
      simp only [Rsp.mk.injEq] at *
      exact ⟨q0, q1, q2, q3, q4, e, q5.1, q5.2⟩
  by_cases hl : nn = mn
  · rw [show ((nn : Int) != (mn : Int)) = false by simp [hl]]
    refine ref19_Same.J1_of (br_false rfl ?_)
    refine same_loop (K := ref19_Same.K2 Q) g1 g2 hnn hmn hl hmax H3 (fun e => ref19_Same.L1_X0 (kk (eq_iff.2 e) h2 H3.tl.tl)) (fun e => ref19_Same.L1_Xret (kx (fun q => e (eq_iff.1 q)) h2 H3.tl.tl)) nn 0 (by omega) (by simp)
  · rw [show ((nn : Int) != (mn : Int)) = true by simp; omega]
    exact bad fun e => hl (by rw [← hnn, ← hmn, e])
end Go.Proofs.Ytnidhafhgclakaa

set_option linter.unusedVariables false
set_option linter.unusedSimpArgs false
namespace Go.Proofs.Ytnidhafhgclakaa
open Go Go.HW

/-! ### Numbers and texts, there and back -/
theorem take_app {α : Type} {d m : List α} {n : Nat} (h : d.length = n) : (d ++ m).take n = d := by subst h; simp
theorem drop_app {α : Type} {d m : List α} {n : Nat} (h : d.length = n) : (d ++ m).drop n = m := by subst h; simp
theorem numS_of {x y : Int} {m : List Nat} (hw : within x = true) : numS false (dig x.toNat 4 ++ m) y = .ok (m, x) := by
  obtain ⟨h0, h1⟩ := within_iff.1 hw
  obtain ⟨k, rfl⟩ := Int.eq_ofNat_of_zero_le h0
  have hd := dig_len (k : Int).toNat 4
  have hv : val (dig (k : Int).toNat 4) = k := by rw [val_dig]; show k % _ = k; omega
  simp only [numS, take_app hd, drop_app hd, hv, List.length_append, hd]
  rw [if_pos (by omega)]
theorem numS_inv {x y : Int} {l l' : List Nat} (h8 : ∀ b ∈ l, b < 256) (h : numS false l y = .ok (l', x)) : within x = true ∧ l = dig x.toNat 4 ++ l' := by
  simp only [numS] at h
  split at h <;> simp only [Except.ok.injEq, Prod.mk.injEq, reduceCtorEq] at h
  rename_i q
  obtain ⟨rfl, rfl⟩ := h
  refine ⟨within_iff.2 ⟨by omega, by omega⟩, ?_⟩
  have := dig_val (l := l.take 4) (fun b hb => h8 b (List.mem_of_mem_take hb))
  rw [show (l.take 4).length = 4 by simp; omega] at this
  rw [Int.toNat_natCast, this, List.take_append_drop]
theorem textS_of {s s0 : ByteArray} {most : Nat} {m : List Nat} (hm : most < 65536) (hs : s.size ≤ most) : textS false (txtB s ++ m) s0 most = .ok (m, s) := by
  have hd := dig_len s.size 2
  have hl := sb_len s
  have hv : val (dig s.size 2) = s.size := by rw [val_dig]; omega
  have e : txtB s ++ m = dig s.size 2 ++ (sb s ++ m) := by simp [txtB]
  simp only [textS, e, take_app hd, drop_app hd, hv, List.length_append, hd, hl]
  rw [if_pos (by omega), drop_app hl, take_app hl, st_sb]
theorem textS_inv {s s0 : ByteArray} {most : Nat} {l l' : List Nat} (h8 : ∀ b ∈ l, b < 256) (h : textS false l s0 most = .ok (l', s)) : s.size ≤ most ∧ l = txtB s ++ l' := by
  simp only [textS] at h
  split at h <;> simp only [Except.ok.injEq, Prod.mk.injEq, reduceCtorEq] at h
  rename_i q
  obtain ⟨rfl, rfl⟩ := h
  have hl : ((l.drop 2).take (val (l.take 2))).length = val (l.take 2) := by rw [List.length_take]; omega
  refine ⟨by rw [st_size, hl]; exact q.2.1, ?_⟩
  have h2 : ∀ b ∈ l.take 2, b < 256 := fun b hb => h8 b (List.mem_of_mem_take hb)
  have h3 : ∀ b ∈ (l.drop 2).take (val (l.take 2)), b < 256 := fun b hb => h8 b (List.mem_of_mem_drop (List.mem_of_mem_take hb))
  have := dig_val h2
  rw [show (l.take 2).length = 2 by simp; omega] at this
  rw [txtB, st_size, hl, this, sb_st h3, List.append_assoc, List.take_append_drop, List.take_append_drop]

/-! ### Readers: what they take does not hang on what stands behind, and less is refused -/
def Exact {α : Type} (R : List Nat → Except Int (List Nat × α)) : Prop :=
  ∀ l l' a, R l = .ok (l', a) → ∃ d, l = d ++ l' ∧ (∀ m, R (d ++ m) = .ok (m, a)) ∧ ∀ p t, p ++ t = d → t ≠ [] → ∃ e, R p = .error e
theorem Exact.bind {α β : Type} {R : List Nat → Except Int (List Nat × α)} {S : α → List Nat → Except Int (List Nat × β)} (hR : Exact R) (hS : ∀ a, Exact (S a)) :
    Exact (fun l => match R l with | .ok (l', a) => S a l' | .error e => .error e) := by
  intro l l' b h
  dsimp only at h
  cases h1 : R l with
  | error e => rw [h1] at h; cases h
  | ok x =>
    obtain ⟨l1, a⟩ := x
    simp only [h1] at h
    obtain ⟨d1, rfl, m1, p1⟩ := hR _ _ _ h1
    obtain ⟨d2, rfl, m2, p2⟩ := hS a _ _ _ h
    refine ⟨d1 ++ d2, by simp, fun m => ?_, fun p t hp ht => ?_⟩
    · dsimp only
      rw [List.append_assoc, m1]; exact m2 m
    · dsimp only
      rcases List.append_eq_append_iff.1 hp with ⟨q, h2, h3⟩ | ⟨q, h2, h3⟩
      · -- the first part is cut, or whole
        cases q with
        | nil =>
          simp only [List.append_nil] at h2
          subst h2
          have := m1 []
          rw [List.append_nil] at this
          rw [this]
          simp only [List.nil_append] at h3
          exact p2 [] d2 rfl (by rw [← h3]; exact ht)
        | cons y q =>
          obtain ⟨e, he⟩ := p1 p (y :: q) h2.symm (by simp)
          rw [he]; exact ⟨e, rfl⟩
      · subst h2
        rw [m1]
        exact p2 q t h3.symm ht
theorem Exact.pure {α : Type} (a : α) : Exact (fun l => .ok (l, a)) := by
  intro l l' b h
  simp only [Except.ok.injEq, Prod.mk.injEq] at h
  obtain ⟨rfl, rfl⟩ := h
  exact ⟨[], rfl, fun m => rfl, fun p t hp ht => by simp at hp; exact absurd hp.2 ht⟩
theorem exact_num (y : Int) : Exact (fun l => numS false l y) := by
  intro l l' x h
  simp only [numS] at h
  split at h <;> simp only [Except.ok.injEq, Prod.mk.injEq, reduceCtorEq] at h
  rename_i q
  obtain ⟨rfl, rfl⟩ := h
  have hl : (l.take 4).length = 4 := by simp; omega
  refine ⟨l.take 4, (List.take_append_drop _ _).symm, fun m => ?_, fun p t hp ht => ⟨190, ?_⟩⟩
  · simp only [numS, take_app hl, drop_app hl, List.length_append, hl]
    rw [if_pos (by omega)]
  · have : p.length < 4 := by
      have e := congrArg List.length hp
      rw [List.length_append, hl] at e
      have : t.length ≠ 0 := fun h0 => ht (List.eq_nil_of_length_eq_zero h0)
      omega
    simp only [numS, if_neg (show ¬ (4 ≤ p.length ∧ val (p.take 4) ≤ 1000000000) by omega)]
theorem exact_text (s0 : ByteArray) (most : Nat) : Exact (fun l => textS false l s0 most) := by
  intro l l' s h
  simp only [textS] at h
  split at h <;> simp only [Except.ok.injEq, Prod.mk.injEq, reduceCtorEq] at h
  rename_i q
  obtain ⟨rfl, rfl⟩ := h
  have hl : (l.take 2).length = 2 := by simp; omega
  have hl2 : ((l.drop 2).take (val (l.take 2))).length = val (l.take 2) := by rw [List.length_take]; omega
  refine ⟨l.take 2 ++ (l.drop 2).take (val (l.take 2)), by rw [List.append_assoc, List.take_append_drop, List.take_append_drop], fun m => ?_, fun p t hp ht => ⟨190, ?_⟩⟩
  · simp only [textS, List.append_assoc, take_app hl, drop_app hl, List.length_append, hl]
    rw [if_pos (by omega), drop_app hl2, take_app hl2]
  · have e := congrArg List.length hp
    rw [List.length_append, List.length_append, hl, hl2] at e
    have ht0 : t.length ≠ 0 := fun h0 => ht (List.eq_nil_of_length_eq_zero h0)
    simp only [textS]
    rw [if_neg]
    rintro ⟨a1, a2, a3⟩
    have e2 : p.take 2 = l.take 2 := by
      have := congrArg (List.take 2) hp
      rw [take_app hl, List.take_append_of_le_length (by omega)] at this
      exact this
    rw [e2, List.length_drop] at a3
    omega

/-! ### The fields of a request -/
inductive Fl where
  | txn | arch | ent | dat | part | tok
def Fl.f (put : Bool) : Fl → RF'
  | .txn => fTxn put | .arch => fArch put | .ent => fEnt put | .dat => fDat put | .part => fPart put | .tok => fTok put
def Fl.enc (r : Req) : Fl → List Nat
  | .txn => dig r.txn.toNat 4 | .arch => txtB r.archive | .ent => txtB r.entry | .dat => txtB r.data | .part => dig r.frm.toNat 4 ++ dig r.most.toNat 4 | .tok => txtB r.token
def Fl.good (r : Req) : Fl → Bool
  | .txn => within r.txn | .arch => decide (r.archive.size ≤ 255) | .ent => decide (r.entry.size ≤ 255) | .dat => decide (r.data.size ≤ 16384) | .part => within r.frm && within r.most | .tok => decide (r.token.size ≤ 256)
def Fl.cp (r r0 : Req) : Fl → Req
  | .txn => { r0 with txn := r.txn } | .arch => { r0 with archive := r.archive } | .ent => { r0 with entry := r.entry } | .dat => { r0 with data := r.data } | .part => { r0 with frm := r.frm, most := r.most } | .tok => { r0 with token := r.token }
def Fl.isT : Fl → Bool
  | .txn | .part => false | _ => true
def fls (k : Int) : List Fl :=
  if k = 1 then [.tok] else if k = 3 then [.txn, .arch, .ent, .part] else if k = 4 then [.txn, .arch]
  else if k = 5 ∨ k = 6 then [.txn, .arch, .ent, .dat] else if k = 7 then [.txn, .arch, .ent] else if k = 8 ∨ k = 9 then [.txn]
  else if k = 10 then [.txn, .arch, .part] else if k = 11 then [.txn, .arch, .dat] else []
theorem groups_fls (put : Bool) (k : Int) : groups put k = (fls k).map (Fl.f put) := by
  rcases kinds k with rfl | rfl | rfl | rfl | rfl | rfl | rfl | rfl | rfl | rfl | hk
  iterate 10 rfl
  obtain ⟨q1, q3, q4, q5, q6, q7, q8, q9, q10, q11⟩ := hk
  simp [groups, fls, q1, q3, q4, q5, q6, q7, q8, q9, q10, q11]
theorem put_ok {f : Fl} {b : List Nat} {r q : Req} (h : f.good r = true) : f.f true ⟨b, r, q⟩ = .ok ⟨b ++ f.enc r, r, f.cp Req.zero q⟩ := by
  cases f
  case txn => simp only [Fl.good] at h; simp [Fl.f, fTxn, numS, h, Fl.enc, Fl.cp, Req.zero]
  case part => simp only [Fl.good, Bool.and_eq_true] at h; simp [Fl.f, fPart, numS, h.1, h.2, Fl.enc, Fl.cp, Req.zero]
  case arch => simp only [Fl.good, decide_eq_true_iff] at h; simp [Fl.f, fArch, textS, h, Fl.enc, Fl.cp, Req.zero, txtB]
  case ent => simp only [Fl.good, decide_eq_true_iff] at h; simp [Fl.f, fEnt, textS, h, Fl.enc, Fl.cp, Req.zero, txtB]
  case dat => simp only [Fl.good, decide_eq_true_iff] at h; simp [Fl.f, fDat, textS, h, Fl.enc, Fl.cp, Req.zero, txtB]
  case tok => simp only [Fl.good, decide_eq_true_iff] at h; simp [Fl.f, fTok, textS, h, Fl.enc, Fl.cp, Req.zero, txtB]
theorem put_bad {f : Fl} {b : List Nat} {r q : Req} (ht : f.isT = true) (h : f.good r = false) : f.f true ⟨b, r, q⟩ = .error 2 := by
  cases f
  case txn => cases ht
  case part => cases ht
  case arch => simp only [Fl.good, decide_eq_false_iff_not] at h; simp [Fl.f, fArch, textS, h]
  case ent => simp only [Fl.good, decide_eq_false_iff_not] at h; simp [Fl.f, fEnt, textS, h]
  case dat => simp only [Fl.good, decide_eq_false_iff_not] at h; simp [Fl.f, fDat, textS, h]
  case tok => simp only [Fl.good, decide_eq_false_iff_not] at h; simp [Fl.f, fTok, textS, h]
def encs (r : Req) (fs : List Fl) : List Nat := fs.flatMap (Fl.enc r)
def cps (r : Req) (fs : List Fl) (r0 : Req) : Req := fs.foldl (fun r0 f => f.cp r r0) r0
theorem run_put_ok {r : Req} : ∀ (fs : List Fl) (b : List Nat) (q : Req), (∀ f ∈ fs, f.good r = true) → runL (fs.map (Fl.f true)) ⟨b, r, q⟩ = .ok ⟨b ++ encs r fs, r, cps Req.zero fs q⟩
  | [], b, q, _ => by simp [runL, encs, cps]
  | f :: fs, b, q, h => by
    simp only [List.map_cons, runL, put_ok (h f (by simp))]
    rw [run_put_ok fs _ _ fun g hg => h g (by simp [hg])]
    simp [encs, cps]
theorem run_put_bad {r : Req} : ∀ (fs : List Fl) (b : List Nat) (q : Req), (∀ f ∈ fs, f.isT = false → f.good r = true) → (∃ f ∈ fs, f.good r = false) → runL (fs.map (Fl.f true)) ⟨b, r, q⟩ = .error 2
  | [], b, q, _, h => by simp at h
  | f :: fs, b, q, hn, h => by
    cases hf : f.good r with
    | true =>
      simp only [List.map_cons, runL, put_ok hf]
      refine run_put_bad fs _ _ (fun g hg => hn g (by simp [hg])) ?_
      obtain ⟨g, hg, hb⟩ := h
      rcases List.mem_cons.1 hg with rfl | hg
      · rw [hf] at hb; cases hb
      · exact ⟨g, hg, hb⟩
    | false =>
      have ht : f.isT = true := by
        cases ht : f.isT with
        | true => rfl
        | false => rw [hn f (by simp) ht] at hf; cases hf
      simp only [List.map_cons, runL, put_bad ht hf]
theorem body_encs (r : Req) : bodyR r = r.kind.toNat :: encs r (fls r.kind) := by
  obtain ⟨k, txn, archive, entry, data, frm, most, token⟩ := r
  rcases kinds k with rfl | rfl | rfl | rfl | rfl | rfl | rfl | rfl | rfl | rfl | hk
  iterate 10 simp [bodyR, has, fTab, fls, encs, Fl.enc, opt]
  obtain ⟨q1, q3, q4, q5, q6, q7, q8, q9, q10, q11⟩ := hk
  simp [bodyR, has, fTab, fls, encs, opt, q1, q3, q4, q5, q6, q7, q8, q9, q10, q11]
theorem zero_cps (r : Req) : Req.isZero { cps Req.zero (fls r.kind) r with kind := 0 } = zeroR r := by
  obtain ⟨k, txn, archive, entry, data, frm, most, token⟩ := r
  rcases kinds k with rfl | rfl | rfl | rfl | rfl | rfl | rfl | rfl | rfl | rfl | hk
  iterate 10 simp [Req.isZero, zeroR, has, fTab, fls, cps, Fl.cp, Req.zero]
  obtain ⟨q1, q3, q4, q5, q6, q7, q8, q9, q10, q11⟩ := hk
  simp [Req.isZero, zeroR, has, fTab, fls, cps, q1, q3, q4, q5, q6, q7, q8, q9, q10, q11]
theorem nums_good {r : Req} (w1 : within r.txn = true) (w2 : within r.frm = true) (w3 : within r.most = true) : ∀ f : Fl, f.isT = false → f.good r = true := by
  intro f hf
  cases f <;> simp_all [Fl.isT, Fl.good]
theorem bare_good {r : Req} (w1 : within r.txn = true) (w2 : within r.frm = true) (w3 : within r.most = true) : ∀ f : Fl, f.good r.bare = true := by
  intro f
  have e : (⟨#[]⟩ : ByteArray).size = 0 := rfl
  cases f <;> simp [Fl.good, Req.bare, w1, w2, w3, e]
theorem long_iff {r : Req} (hz : zeroR r = true) (w1 : within r.txn = true) (w2 : within r.frm = true) (w3 : within r.most = true) : longR r ↔ ∃ f ∈ fls r.kind, f.good r = false := by
  obtain ⟨k, txn, archive, entry, data, frm, most, token⟩ := r
  have e : (⟨#[]⟩ : ByteArray).size = 0 := rfl
  simp only at w1 w2 w3
  rcases kinds k with rfl | rfl | rfl | rfl | rfl | rfl | rfl | rfl | rfl | rfl | hk
  iterate 10
    (· simp [zeroR, has, fTab] at hz
       simp [longR, fls, Fl.good, w1, w2, w3]
       (try simp [hz, e]) <;> (try omega))
  obtain ⟨q1, q3, q4, q5, q6, q7, q8, q9, q10, q11⟩ := hk
  simp [zeroR, has, fTab, q1, q3, q4, q5, q6, q7, q8, q9, q10, q11] at hz
  simp [longR, fls, q1, q3, q4, q5, q6, q7, q8, q9, q10, q11]
  simp [hz, e]
/-- THE LAW of requests that are put. -/
theorem putReq_eq (r : Req) : putReq r = refPut r := by
  unfold putReq refPut
  by_cases hg : goodKind r.kind = true
  · rw [if_pos hg, if_pos hg]
    by_cases hw : within r.txn = true ∧ within r.frm = true ∧ within r.most = true
    · rw [if_pos hw]
      obtain ⟨w1, w2, w3⟩ := hw
      have e1 : reqS true ⟨[], r.bare, r⟩ = .ok ⟨encs r.bare (fls r.kind), r.bare, { cps Req.zero (fls r.kind) r with kind := 0 }⟩ := by
        unfold reqS
        rw [groups_fls]
        have := run_put_ok (r := r.bare) (fls r.kind) [] r fun f _ => bare_good w1 w2 w3 f
        rw [show (⟨[], r.bare, r⟩ : RS).r.kind = r.kind from rfl, this]
        simp
      rw [e1]
      dsimp only
      rw [zero_cps]
      by_cases hz : zeroR r = true
      · rw [if_pos hz, if_pos ⟨hz, w1, w2, w3⟩]
        by_cases hl : longR r
        · rw [if_pos hl]
          have := run_put_bad (r := r) (fls r.kind) [r.kind.toNat] { cps Req.zero (fls r.kind) r with kind := 0 } (fun f _ => nums_good w1 w2 w3 f) ((long_iff hz w1 w2 w3).1 hl)
          unfold reqS
          rw [groups_fls]
          dsimp only
          rw [this]
        · rw [if_neg hl]
          have hgood : ∀ f ∈ fls r.kind, f.good r = true := by
            intro f hf
            cases h : f.good r with
            | true => rfl
            | false => exact absurd ((long_iff hz w1 w2 w3).2 ⟨f, hf, h⟩) hl
          have := run_put_ok (r := r) (fls r.kind) [r.kind.toNat] { cps Req.zero (fls r.kind) r with kind := 0 } hgood
          unfold reqS
          rw [groups_fls]
          dsimp only
          rw [this, body_encs]
          rfl
      · rw [if_neg hz, if_neg fun q => hz q.1]
    · rw [if_neg hw, if_neg fun q => hw q.2]
  · rw [if_neg hg, if_neg hg]

/-! ### Requests that are got -/
theorem get_ok {f : Fl} {m : List Nat} {r r0 q : Req} (h : f.good r = true) : f.f false ⟨f.enc r ++ m, r0, q⟩ = .ok ⟨m, f.cp r r0, f.cp Req.zero q⟩ := by
  cases f
  case txn => simp only [Fl.good] at h; simp only [Fl.f, fTxn, Fl.enc, numS_of h, Fl.cp, Req.zero]
  case part =>
    simp only [Fl.good, Bool.and_eq_true] at h
    simp only [Fl.f, fPart, Fl.enc, List.append_assoc, numS_of h.1, numS_of h.2, Fl.cp, Req.zero]
  case arch => simp only [Fl.good, decide_eq_true_iff] at h; simp only [Fl.f, fArch, Fl.enc, textS_of (show 255 < 65536 by decide) h, Fl.cp, Req.zero]
  case ent => simp only [Fl.good, decide_eq_true_iff] at h; simp only [Fl.f, fEnt, Fl.enc, textS_of (show 255 < 65536 by decide) h, Fl.cp, Req.zero]
  case dat => simp only [Fl.good, decide_eq_true_iff] at h; simp only [Fl.f, fDat, Fl.enc, textS_of (show 16384 < 65536 by decide) h, Fl.cp, Req.zero]
  case tok => simp only [Fl.good, decide_eq_true_iff] at h; simp only [Fl.f, fTok, Fl.enc, textS_of (show 256 < 65536 by decide) h, Fl.cp, Req.zero]
theorem run_get_ok {r : Req} {m : List Nat} : ∀ (fs : List Fl) (r0 q : Req), (∀ f ∈ fs, f.good r = true) → runL (fs.map (Fl.f false)) ⟨encs r fs ++ m, r0, q⟩ = .ok ⟨m, cps r fs r0, cps Req.zero fs q⟩
  | [], r0, q, _ => rfl
  | f :: fs, r0, q, h => by
    have e : encs r (f :: fs) ++ m = f.enc r ++ (encs r fs ++ m) := by simp [encs]
    simp only [List.map_cons, runL, e, get_ok (h f (by simp))]
    rw [run_get_ok fs _ _ fun g hg => h g (by simp [hg])]
    rfl
/-- What was put is got. -/
theorem cps_zero {r : Req} (hz : zeroR r = true) : cps r (fls r.kind) { Req.zero with kind := r.kind } = r := by
  obtain ⟨k, txn, archive, entry, data, frm, most, token⟩ := r
  rcases kinds k with rfl | rfl | rfl | rfl | rfl | rfl | rfl | rfl | rfl | rfl | hk
  iterate 10
    (· simp [zeroR, has, fTab] at hz
       simp [cps, fls, Fl.cp, Req.zero]
       (try simp [hz]))
  obtain ⟨q1, q3, q4, q5, q6, q7, q8, q9, q10, q11⟩ := hk
  simp [zeroR, has, fTab, q1, q3, q4, q5, q6, q7, q8, q9, q10, q11] at hz
  simp [cps, fls, q1, q3, q4, q5, q6, q7, q8, q9, q10, q11, Req.zero]
  simp [hz]
end Go.Proofs.Ytnidhafhgclakaa

set_option linter.unusedVariables false
set_option linter.unusedSimpArgs false
namespace Go.Proofs.Ytnidhafhgclakaa
open Go Go.HW

/-! ### The document's cuts -/
theorem takeR_ok {l : List Nat} {n : Nat} {b : Bool} (h : n ≤ l.length) : takeR ⟨l, b⟩ n = (l.take n, ⟨l.drop n, b⟩) := by simp only [takeR, if_neg (show ¬ n > l.length by omega)]
theorem takeR_bad {l : List Nat} {n : Nat} {b : Bool} (h : l.length < n) : (takeR ⟨l, b⟩ n).2.bad = true := by simp only [takeR, if_pos h]
theorem takeR_sticky {s : CS} {n : Nat} (h : s.bad = true) : (takeR s n).2.bad = true := by unfold takeR; split <;> simp [h]
theorem smallR_sticky {s : CS} {n : Nat} (h : s.bad = true) : (smallR n s).2.bad = true := takeR_sticky h
theorem numberR_sticky {s : CS} (h : s.bad = true) : (numberR s).2.bad = true := by simp only [numberR, smallR_sticky h, Bool.true_or]
theorem textR_sticky {s : CS} {m : Nat} (h : s.bad = true) : (textR m s).2.bad = true := by
  unfold textR; split
  · rfl
  · exact takeR_sticky (smallR_sticky h)
theorem numberR_ok {l l' : List Nat} {x y : Int} (h : numS false l y = .ok (l', x)) : ((numberR ⟨l, false⟩).1 : Int) = x ∧ (numberR ⟨l, false⟩).2 = ⟨l', false⟩ := by
  simp only [numS] at h
  split at h <;> simp only [Except.ok.injEq, Prod.mk.injEq, reduceCtorEq] at h
  rename_i q
  obtain ⟨rfl, rfl⟩ := h
  have e := takeR_ok (b := false) q.1
  refine ⟨by simp only [numberR, smallR, e], ?_⟩
  have w : within ((val (l.take 4) : Nat) : Int) = true := within_iff.2 ⟨by omega, by omega⟩
  simp only [numberR, smallR, e, w]; rfl
theorem numberR_err {l : List Nat} {e y : Int} (h : numS false l y = .error e) : (numberR ⟨l, false⟩).2.bad = true := by
  simp only [numS] at h
  split at h <;> (try simp only [reduceCtorEq] at h)
  rename_i q
  by_cases h4 : 4 ≤ l.length
  · have e := takeR_ok (b := false) h4
    have w : within ((val (l.take 4) : Nat) : Int) = false := by
      cases hw : within ((val (l.take 4) : Nat) : Int) with
      | false => rfl
      | true => have := within_iff.1 hw; exact absurd ⟨h4, by omega⟩ q
    simp only [numberR, smallR, e, w]; rfl
  · have := takeR_bad (b := false) (show l.length < 4 by omega)
    simp only [numberR, smallR, this, Bool.true_or]
theorem textR_ok {l l' : List Nat} {s s0 : ByteArray} {m : Nat} (h : textS false l s0 m = .ok (l', s)) : (textR m ⟨l, false⟩).1 = s ∧ (textR m ⟨l, false⟩).2 = ⟨l', false⟩ := by
  simp only [textS] at h
  split at h <;> simp only [Except.ok.injEq, Prod.mk.injEq, reduceCtorEq] at h
  rename_i q
  obtain ⟨rfl, rfl⟩ := h
  have e := takeR_ok (b := false) q.1
  have e2 := takeR_ok (b := false) q.2.2
  simp only [textR, smallR, e, if_neg (show ¬ val (l.take 2) > m by omega), e2, and_self]
theorem textR_err {l : List Nat} {s0 : ByteArray} {m : Nat} {e : Int} (h : textS false l s0 m = .error e) : (textR m ⟨l, false⟩).2.bad = true := by
  simp only [textS] at h
  split at h <;> (try simp only [reduceCtorEq] at h)
  rename_i q
  by_cases h2 : 2 ≤ l.length
  · have e := takeR_ok (b := false) h2
    by_cases hm : val (l.take 2) > m
    · simp only [textR, smallR, e, if_pos hm]
    · have : (l.drop 2).length < val (l.take 2) := by
        rcases Nat.lt_or_ge (l.drop 2).length (val (l.take 2)) with hq | hq
        · exact hq
        · exact absurd ⟨h2, by omega, hq⟩ q
      have e2 := takeR_bad (b := false) this
      simp only [textR, smallR, e, if_neg hm, e2]
  · have := takeR_bad (b := false) (show l.length < 2 by omega)
    by_cases hm : (smallR 2 ⟨l, false⟩).1 > m
    · simp only [textR, if_pos hm]
    · simp only [textR, if_neg hm]
      exact takeR_sticky this

/-! ### A request, got -/
def Fl.rs : Fl → CS × Req → CS × Req
  | .txn => rqT true | .arch => rqA true | .ent => rqE true | .dat => rqD true | .part => rqP true | .tok => rqK true
theorem rqAll_fls (k : Int) (x : CS × Req) : rqAll k x = (fls k).foldl (fun (x : CS × Req) (f : Fl) => f.rs x) x := by
  rcases kinds k with rfl | rfl | rfl | rfl | rfl | rfl | rfl | rfl | rfl | rfl | hk
  iterate 10 rfl
  obtain ⟨q1, q3, q4, q5, q6, q7, q8, q9, q10, q11⟩ := hk
  simp [rqAll, fls, has, fTab, q1, q3, q4, q5, q6, q7, q8, q9, q10, q11, rqT, rqA, rqE, rqD, rqP, rqK]
theorem rs_sticky (f : Fl) {x : CS × Req} (h : x.1.bad = true) : (f.rs x).1.bad = true := by
  cases f
  case txn => exact numberR_sticky h
  case part => exact numberR_sticky (numberR_sticky h)
  all_goals exact textR_sticky h
theorem rs_ok {f : Fl} {l : List Nat} {r q : Req} {s : RS} (h : f.f false ⟨l, r, q⟩ = .ok s) : f.rs (⟨l, false⟩, r) = (⟨s.bs, false⟩, s.r) := by
  cases f
  case txn =>
    simp only [Fl.f, fTxn] at h
    split at h <;> simp only [Except.ok.injEq, reduceCtorEq] at h
    rename_i e
    obtain ⟨e1, e2⟩ := numberR_ok e
    subst h
    simp only [Fl.rs, rqT, e1, e2]
  case part =>
    simp only [Fl.f, fPart] at h
    split at h <;> (try simp only [reduceCtorEq] at h)
    rename_i e
    split at h <;> simp only [Except.ok.injEq, reduceCtorEq] at h
    rename_i e'
    obtain ⟨e1, e2⟩ := numberR_ok e
    obtain ⟨e3, e4⟩ := numberR_ok e'
    subst h
    simp only [Fl.rs, rqP, e1, e2, e3, e4]
  case arch =>
    simp only [Fl.f, fArch] at h
    split at h <;> simp only [Except.ok.injEq, reduceCtorEq] at h
    rename_i e
    obtain ⟨e1, e2⟩ := textR_ok e
    subst h
    simp only [Fl.rs, rqA, e1, e2]
  case ent =>
    simp only [Fl.f, fEnt] at h
    split at h <;> simp only [Except.ok.injEq, reduceCtorEq] at h
    rename_i e
    obtain ⟨e1, e2⟩ := textR_ok e
    subst h
    simp only [Fl.rs, rqE, e1, e2]
  case dat =>
    simp only [Fl.f, fDat] at h
    split at h <;> simp only [Except.ok.injEq, reduceCtorEq] at h
    rename_i e
    obtain ⟨e1, e2⟩ := textR_ok e
    subst h
    simp only [Fl.rs, rqD, e1, e2]
  case tok =>
    simp only [Fl.f, fTok] at h
    split at h <;> simp only [Except.ok.injEq, reduceCtorEq] at h
    rename_i e
    obtain ⟨e1, e2⟩ := textR_ok e
    subst h
    simp only [Fl.rs, rqK, e1, e2]
theorem rs_err {f : Fl} {l : List Nat} {r q : Req} {e : Int} (h : f.f false ⟨l, r, q⟩ = .error e) : (f.rs (⟨l, false⟩, r)).1.bad = true := by
  cases f
  case txn =>
    simp only [Fl.f, fTxn] at h
    split at h <;> (try simp only [reduceCtorEq] at h)
    rename_i e
    exact numberR_err e
  case part =>
    simp only [Fl.f, fPart] at h
    split at h
    · rename_i e
      split at h <;> (try simp only [reduceCtorEq] at h)
      rename_i e'
      obtain ⟨e1, e2⟩ := numberR_ok e
      show (numberR (numberR ⟨l, false⟩).2).2.bad = true
      rw [e2]; exact numberR_err e'
    · rename_i e
      exact numberR_sticky (numberR_err e)
  case arch =>
    simp only [Fl.f, fArch] at h
    split at h <;> (try simp only [reduceCtorEq] at h)
    rename_i e
    exact textR_err e
  case ent =>
    simp only [Fl.f, fEnt] at h
    split at h <;> (try simp only [reduceCtorEq] at h)
    rename_i e
    exact textR_err e
  case dat =>
    simp only [Fl.f, fDat] at h
    split at h <;> (try simp only [reduceCtorEq] at h)
    rename_i e
    exact textR_err e
  case tok =>
    simp only [Fl.f, fTok] at h
    split at h <;> (try simp only [reduceCtorEq] at h)
    rename_i e
    exact textR_err e
theorem fold_sticky : ∀ (fs : List Fl) {x : CS × Req}, x.1.bad = true → (fs.foldl (fun (x : CS × Req) (f : Fl) => f.rs x) x).1.bad = true
  | [], _, h => h
  | f :: fs, _, h => fold_sticky fs (rs_sticky f h)
theorem fold_ok : ∀ (fs : List Fl) {l : List Nat} {r q : Req} {s : RS}, runL (fs.map (Fl.f false)) ⟨l, r, q⟩ = .ok s → fs.foldl (fun (x : CS × Req) (f : Fl) => f.rs x) (⟨l, false⟩, r) = (⟨s.bs, false⟩, s.r)
  | [], l, r, q, s, h => by simp only [List.map_nil, runL, Except.ok.injEq] at h; subst h; rfl
  | f :: fs, l, r, q, s, h => by
    simp only [List.map_cons, runL] at h
    split at h <;> (try simp only [reduceCtorEq] at h)
    rename_i s1 e
    simp only [List.foldl_cons, rs_ok e]
    exact fold_ok fs h
theorem fold_err : ∀ (fs : List Fl) {l : List Nat} {r q : Req} {e : Int}, runL (fs.map (Fl.f false)) ⟨l, r, q⟩ = .error e → (fs.foldl (fun (x : CS × Req) (f : Fl) => f.rs x) (⟨l, false⟩, r)).1.bad = true
  | [], l, r, q, e, h => by simp [runL] at h
  | f :: fs, l, r, q, e, h => by
    simp only [List.map_cons, runL] at h
    split at h
    · rename_i s1 e1
      simp only [List.foldl_cons, rs_ok e1]
      exact fold_err fs h
    · rename_i e1
      exact fold_sticky fs (rs_err e1)
theorem reqS_ok {put : Bool} {s s' : RS} (h : runL ((fls s.r.kind).map (Fl.f put)) s = .ok s') : reqS put s = .ok { s' with q := { s'.q with kind := 0 } } := by
  unfold reqS; rw [groups_fls, h]
theorem reqS_bad {put : Bool} {s : RS} {e : Int} (h : runL ((fls s.r.kind).map (Fl.f put)) s = .error e) : reqS put s = .error e := by
  unfold reqS; rw [groups_fls, h]
/-- THE LAW of requests that are got. -/
theorem getReq_eq (bs : List Nat) : getReq bs = refGet bs := by
  cases bs with
  | nil => rfl
  | cons b l =>
    unfold getReq refGet
    by_cases hg : goodKind (b : Int) = true
    · simp only [if_pos hg]
      cases h : runL ((fls b).map (Fl.f false)) ⟨l, { Req.zero with kind := (b : Int) }, Req.zero⟩ with
      | error e =>
        have he : e = 190 := by
          have := err_runL (put := false) (groups false b) ⟨l, { Req.zero with kind := (b : Int) }, Req.zero⟩ e (err_groups false b) (by rw [groups_fls]; exact h)
          exact this
        have hb := fold_err (fls b) h
        have hk : reqS false ⟨l, { Req.zero with kind := (b : Int) }, Req.zero⟩ = .error e := reqS_bad h
        rw [hk, rqAll_fls, hb]
        simp [he]
      | ok s =>
        have hs := fold_ok (fls b) h
        have hk : reqS false ⟨l, { Req.zero with kind := (b : Int) }, Req.zero⟩ = .ok { s with q := { s.q with kind := 0 } } := reqS_ok h
        rw [hk, rqAll_fls, hs]
        by_cases hz : s.bs.length = 0
        · simp [hz]
        · have : 0 < s.bs.length := by omega
          simp [hz, this]
    · simp only [if_neg hg]

/-! ### There and back -/
theorem putReq_ok {r : Req} {a : List Nat} (h : putReq r = (0, a)) : goodKind r.kind = true ∧ zeroR r = true ∧ (∀ f ∈ fls r.kind, f.good r = true) ∧ a = r.kind.toNat :: encs r (fls r.kind) := by
  rw [putReq_eq] at h
  unfold refPut at h
  split at h
  · rename_i hg
    split at h
    · rename_i hz
      split at h
      · simp at h
      · rename_i hl
        simp only [Prod.mk.injEq, true_and] at h
        refine ⟨hg, hz.1, fun f hf => ?_, by rw [← h, body_encs]⟩
        cases hb : f.good r with
        | true => rfl
        | false => exact absurd ((long_iff hz.1 hz.2.1 hz.2.2.1 hz.2.2.2).2 ⟨f, hf, hb⟩) hl
    · simp at h
  · simp at h
def rd (f : RF') (x : Req × Req) : List Nat → Except Int (List Nat × (Req × Req)) := fun l => match f ⟨l, x.1, x.2⟩ with
  | .ok s => .ok (s.bs, (s.r, s.q))
  | .error e => .error e
theorem Exact.congr {α : Type} {R S : List Nat → Except Int (List Nat × α)} (h : ∀ l, R l = S l) (hR : Exact R) : Exact S := by rwa [show S = R from funext fun l => (h l).symm]
theorem exact_fl (f : Fl) (x : Req × Req) : Exact (rd (f.f false) x) := by
  cases f
  case txn =>
    refine Exact.congr (fun l => ?_) ((exact_num x.1.txn).bind fun a => Exact.pure (({ x.1 with txn := a }, { x.2 with txn := 0 }) : Req × Req))
    simp only [rd, Fl.f, fTxn]
    cases numS false l x.1.txn <;> rfl
  case part =>
    refine Exact.congr (fun l => ?_) ((exact_num x.1.frm).bind fun a => (exact_num x.1.most).bind fun b => Exact.pure (({ x.1 with frm := a, most := b }, { x.2 with frm := 0, most := 0 }) : Req × Req))
    simp only [rd, Fl.f, fPart]
    cases numS false l x.1.frm with
    | error e => rfl
    | ok y =>
      obtain ⟨l1, a⟩ := y
      dsimp only
      cases numS false l1 x.1.most <;> rfl
  case arch =>
    refine Exact.congr (fun l => ?_) ((exact_text x.1.archive 255).bind fun a => Exact.pure (({ x.1 with archive := a }, { x.2 with archive := ⟨#[]⟩ }) : Req × Req))
    simp only [rd, Fl.f, fArch]
    cases textS false l x.1.archive 255 <;> rfl
  case ent =>
    refine Exact.congr (fun l => ?_) ((exact_text x.1.entry 255).bind fun a => Exact.pure (({ x.1 with entry := a }, { x.2 with entry := ⟨#[]⟩ }) : Req × Req))
    simp only [rd, Fl.f, fEnt]
    cases textS false l x.1.entry 255 <;> rfl
  case dat =>
    refine Exact.congr (fun l => ?_) ((exact_text x.1.data 16384).bind fun a => Exact.pure (({ x.1 with data := a }, { x.2 with data := ⟨#[]⟩ }) : Req × Req))
    simp only [rd, Fl.f, fDat]
    cases textS false l x.1.data 16384 <;> rfl
  case tok =>
    refine Exact.congr (fun l => ?_) ((exact_text x.1.token 256).bind fun a => Exact.pure (({ x.1 with token := a }, { x.2 with token := ⟨#[]⟩ }) : Req × Req))
    simp only [rd, Fl.f, fTok]
    cases textS false l x.1.token 256 <;> rfl
theorem exact_run : ∀ (fs : List Fl) (x : Req × Req), Exact (rd (runL (fs.map (Fl.f false))) x)
  | [], x => Exact.pure x
  | f :: fs, x => by
    refine Exact.congr (fun l => ?_) ((exact_fl f x).bind fun y => exact_run fs y)
    simp only [rd, List.map_cons, runL]
    cases h : f.f false ⟨l, x.1, x.2⟩ <;> rfl
theorem kind_nat {k : Int} (h : goodKind k = true) : ((k.toNat : Nat) : Int) = k := by
  have : 1 ≤ k ∧ k ≤ 13 := by simpa [goodKind] using h
  omega
theorem getReq_run {b : Nat} {l : List Nat} {s : RS} (hg : goodKind (b : Int) = true) (h : runL ((fls b).map (Fl.f false)) ⟨l, { Req.zero with kind := (b : Int) }, Req.zero⟩ = .ok s) : getReq (b :: l) = if s.bs.length = 0 then (0, s.r) else (190, Req.zero) := by
  have hk : reqS false ⟨l, { Req.zero with kind := (b : Int) }, Req.zero⟩ = .ok { s with q := { s.q with kind := 0 } } := reqS_ok h
  simp only [getReq, if_pos hg]
  rw [hk]
theorem getReq_fail {b : Nat} {l : List Nat} {e : Int} (hg : goodKind (b : Int) = true) (h : runL ((fls b).map (Fl.f false)) ⟨l, { Req.zero with kind := (b : Int) }, Req.zero⟩ = .error e) : getReq (b :: l) = (190, Req.zero) := by
  have he : e = 190 := err_runL (put := false) (groups false b) _ e (err_groups false b) (by rw [groups_fls]; exact h)
  have hk : reqS false ⟨l, { Req.zero with kind := (b : Int) }, Req.zero⟩ = .error e := reqS_bad h
  simp only [getReq, if_pos hg]
  rw [hk, he]
/-- What is put is got again; with a byte more, or without the last one, it is refused. -/
theorem req_round {r : Req} {a : List Nat} (h : putReq r = (0, a)) : 1 ≤ a.length ∧ getReq a = (0, r) ∧ (∀ x, getReq (a ++ [x]) = (190, Req.zero)) ∧ getReq (a.take (a.length - 1)) = (190, Req.zero) := by
  obtain ⟨hg, hz, hf, rfl⟩ := putReq_ok h
  have hk := kind_nat hg
  have hg' : goodKind ((r.kind.toNat : Nat) : Int) = true := by rw [hk]; exact hg
  have run : ∀ m, runL ((fls ((r.kind.toNat : Nat) : Int)).map (Fl.f false)) ⟨encs r (fls r.kind) ++ m, { Req.zero with kind := ((r.kind.toNat : Nat) : Int) }, Req.zero⟩ = .ok ⟨m, r, cps Req.zero (fls r.kind) Req.zero⟩ := by
    intro m
    rw [hk, run_get_ok (fls r.kind) _ _ hf, cps_zero hz]
  refine ⟨by simp, ?_, fun x => ?_, ?_⟩
  · have := run []
    rw [List.append_nil] at this
    rw [getReq_run hg' this]; rfl
  · rw [List.cons_append, getReq_run hg' (run [x])]; rfl
  · rcases List.eq_nil_or_concat (encs r (fls r.kind)) with he | ⟨d, t, he⟩
    · rw [he]; rfl
    · have e1 : (r.kind.toNat :: encs r (fls r.kind)).take ((r.kind.toNat :: encs r (fls r.kind)).length - 1) = r.kind.toNat :: d := by
        rw [he]; simp
      rw [e1]
      have hx := exact_run (fls ((r.kind.toNat : Nat) : Int)) ({ Req.zero with kind := ((r.kind.toNat : Nat) : Int) }, Req.zero)
      have h0 := run []
      obtain ⟨d', hd, _, hp⟩ := hx (encs r (fls r.kind) ++ []) [] _ (by simp only [rd, h0]; rfl)
      simp only [List.append_nil] at hd
      obtain ⟨e, hee⟩ := hp d [t] (by rw [← hd, he]; simp) (by simp)
      simp only [rd] at hee
      split at hee <;> (try simp only [reduceCtorEq] at hee)
      rename_i e2
      exact getReq_fail hg' e2
theorem get_inv {f : Fl} {l : List Nat} {r q : Req} {s : RS} (h8 : ∀ b ∈ l, b < 256) (h : f.f false ⟨l, r, q⟩ = .ok s) : l = f.enc s.r ++ s.bs ∧ f.good s.r = true ∧ s.r = f.cp s.r r := by
  cases f
  case txn =>
    simp only [Fl.f, fTxn] at h
    split at h <;> simp only [Except.ok.injEq, reduceCtorEq] at h
    rename_i e
    obtain ⟨e1, e2⟩ := numS_inv h8 e
    subst h
    exact ⟨e2, e1, rfl⟩
  case part =>
    simp only [Fl.f, fPart] at h
    split at h <;> (try simp only [reduceCtorEq] at h)
    rename_i e
    split at h <;> simp only [Except.ok.injEq, reduceCtorEq] at h
    rename_i e'
    obtain ⟨e1, e2⟩ := numS_inv h8 e
    obtain ⟨e3, e4⟩ := numS_inv (fun b hb => h8 b (by rw [e2]; simp [hb])) e'
    subst h
    refine ⟨?_, by simp [Fl.good, e1, e3], rfl⟩
    rw [e2, e4]; simp [Fl.enc]
  case arch =>
    simp only [Fl.f, fArch] at h
    split at h <;> simp only [Except.ok.injEq, reduceCtorEq] at h
    rename_i e
    obtain ⟨e1, e2⟩ := textS_inv h8 e
    subst h
    exact ⟨e2, by simpa [Fl.good] using e1, rfl⟩
  case ent =>
    simp only [Fl.f, fEnt] at h
    split at h <;> simp only [Except.ok.injEq, reduceCtorEq] at h
    rename_i e
    obtain ⟨e1, e2⟩ := textS_inv h8 e
    subst h
    exact ⟨e2, by simpa [Fl.good] using e1, rfl⟩
  case dat =>
    simp only [Fl.f, fDat] at h
    split at h <;> simp only [Except.ok.injEq, reduceCtorEq] at h
    rename_i e
    obtain ⟨e1, e2⟩ := textS_inv h8 e
    subst h
    exact ⟨e2, by simpa [Fl.good] using e1, rfl⟩
  case tok =>
    simp only [Fl.f, fTok] at h
    split at h <;> simp only [Except.ok.injEq, reduceCtorEq] at h
    rename_i e
    obtain ⟨e1, e2⟩ := textS_inv h8 e
    subst h
    exact ⟨e2, by simpa [Fl.good] using e1, rfl⟩
theorem cp_keep {f g : Fl} (h : f ≠ g) (r r0 : Req) : f.enc (g.cp r r0) = f.enc r0 ∧ f.good (g.cp r r0) = f.good r0 ∧ ∀ r1, f.cp (g.cp r r0) r1 = f.cp r0 r1 := by
  cases f <;> cases g <;> first | exact absurd rfl h | exact ⟨rfl, rfl, fun _ => rfl⟩
theorem cps_keep {f : Fl} {r : Req} : ∀ (fs : List Fl) (r0 : Req), f ∉ fs → f.enc (cps r fs r0) = f.enc r0 ∧ f.good (cps r fs r0) = f.good r0 ∧ ∀ r1, f.cp (cps r fs r0) r1 = f.cp r0 r1
  | [], r0, _ => ⟨rfl, rfl, fun _ => rfl⟩
  | g :: fs, r0, h => by
    have h1 := cps_keep (r := r) fs (g.cp r r0) (fun hf => h (List.mem_cons_of_mem _ hf))
    have h2 := cp_keep (f := f) (g := g) (fun e => h (by rw [e]; exact List.mem_cons_self)) r r0
    exact ⟨h1.1.trans h2.1, h1.2.1.trans h2.2.1, fun r1 => (h1.2.2 r1).trans (h2.2.2 r1)⟩
theorem run_get_inv : ∀ (fs : List Fl) {l : List Nat} {r q : Req} {s : RS}, fs.Nodup → (∀ b ∈ l, b < 256) → runL (fs.map (Fl.f false)) ⟨l, r, q⟩ = .ok s → l = encs s.r fs ++ s.bs ∧ (∀ f ∈ fs, f.good s.r = true) ∧ s.r = cps s.r fs r
  | [], l, r, q, s, _, _, h => by simp only [List.map_nil, runL, Except.ok.injEq] at h; subst h; exact ⟨rfl, by simp, rfl⟩
  | f :: fs, l, r, q, s, hd, h8, h => by
    simp only [List.map_cons, runL] at h
    split at h <;> (try simp only [reduceCtorEq] at h)
    rename_i s1 e
    obtain ⟨e1, e2, e3⟩ := get_inv h8 e
    obtain ⟨hnd, hd'⟩ := List.nodup_cons.1 hd
    obtain ⟨g1, g2, g3⟩ := run_get_inv fs hd' (fun b hb => h8 b (by rw [e1]; simp [hb])) h
    have hk := cps_keep (f := f) (r := s.r) fs s1.r hnd
    rw [← g3] at hk
    refine ⟨?_, fun g hg => ?_, ?_⟩
    · rw [e1, g1, ← hk.1]; simp [encs]
    · rcases List.mem_cons.1 hg with rfl | hg
      · rw [hk.2.1]; exact e2
      · exact g2 g hg
    · show s.r = cps s.r fs (f.cp s.r r)
      rw [hk.2.2, ← e3]
      exact g3
theorem cps_kind {r : Req} : ∀ (fs : List Fl) (r0 : Req), (cps r fs r0).kind = r0.kind
  | [], _ => rfl
  | f :: fs, r0 => by
    rw [show cps r (f :: fs) r0 = cps r fs (f.cp r r0) from rfl, cps_kind fs]
    cases f <;> rfl
theorem fls_nodup (k : Int) : (fls k).Nodup := by
  unfold fls
  repeat' split
  all_goals simp
theorem cps_full {r : Req} {k : Int} (h : r = cps r (fls k) { Req.zero with kind := k }) (hg : ∀ f ∈ fls k, f.good r = true) : zeroR r = true ∧ within r.txn = true ∧ within r.frm = true ∧ within r.most = true := by
  have hk : r.kind = k := by rw [h, cps_kind]
  obtain ⟨k', txn, archive, entry, data, frm, most, token⟩ := r
  simp only at hk
  subst hk
  rcases kinds k' with rfl | rfl | rfl | rfl | rfl | rfl | rfl | rfl | rfl | rfl | hk
  iterate 10
    (· simp [cps, fls, Fl.cp, Req.zero] at h
       simp [fls, Fl.good] at hg
       simp [zeroR, has, fTab, h, hg, within] <;> simp_all [within])
  obtain ⟨q1, q3, q4, q5, q6, q7, q8, q9, q10, q11⟩ := hk
  simp [cps, fls, q1, q3, q4, q5, q6, q7, q8, q9, q10, q11, Req.zero] at h
  simp [zeroR, has, fTab, q1, q3, q4, q5, q6, q7, q8, q9, q10, q11, within, h]
/-- What is got is put as the same bytes. -/
theorem req_one {bs : List Nat} {r : Req} (h8 : ∀ b ∈ bs, b < 256) (h : getReq bs = (0, r)) : putReq r = (0, bs) := by
  cases bs with
  | nil => simp [getReq] at h
  | cons b l =>
    by_cases hg : goodKind (b : Int) = true
    · cases hr : runL ((fls b).map (Fl.f false)) ⟨l, { Req.zero with kind := (b : Int) }, Req.zero⟩ with
      | error e => rw [getReq_fail hg hr] at h; simp at h
      | ok s =>
        rw [getReq_run hg hr] at h
        split at h
        · rename_i hz
          simp only [Prod.mk.injEq, true_and] at h
          subst h
          obtain ⟨g1, g2, g3⟩ := run_get_inv (fls b) (fls_nodup b) (fun x hx => h8 x (by simp [hx])) hr
          obtain ⟨z0, w1, w2, w3⟩ := cps_full g3 g2
          have hk : s.r.kind = (b : Int) := by rw [g3, cps_kind]
          have hnl : ¬ longR s.r := by
            rw [long_iff z0 w1 w2 w3, hk]
            rintro ⟨f, hf, hb⟩
            rw [g2 f hf] at hb; cases hb
          rw [putReq_eq]
          unfold refPut
          rw [if_pos (by rw [hk]; exact hg), if_pos ⟨z0, w1, w2, w3⟩, if_neg hnl, body_encs, hk, g1, List.eq_nil_of_length_eq_zero hz]
          simp
        · simp at h
    · simp only [getReq, if_neg hg] at h; simp at h
end Go.Proofs.Ytnidhafhgclakaa
