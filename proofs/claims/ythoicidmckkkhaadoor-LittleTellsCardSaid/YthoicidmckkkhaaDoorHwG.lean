/- What the functions of this text come to, as predicates on heaps (printed by my own program out of the dump), each with its proof against the program. -/
import Derived.Test.YthoicidmckkkhaaDoorHwCode
import Derived.Test.YthoicidmckkkhaaDoorProg
set_option linter.unusedVariables false
set_option maxRecDepth 100000
namespace Go.Proofs.YthoicidmckkkhaaDoor
open Go Go.HW
/-! ### slices.Backward[[]byte,byte]$1: function 28 -/
def f28_ann : Ann := (.seq 11 (.region [(List.range 4, 11)]) (.block (.loop 11 (.seq 11 (.seq 267 (.region [(List.range 2, 267)]) (.cond .leaf (.exit 0))) (.seq 11 (.block (.seq 262155 (.region [(List.range 8, 262155)]) (.cond (.exit 0) .leaf))) (.region [(List.range 3, 11)]))))))
@[irreducible] def f28_Xret  : Fr := (mkFr 0 19 [])
@[irreducible] def f28_X0  : Fr := (mkFr 0 19 [])
@[irreducible] def f28_L10 (n : Nat) (yield0 : Value) (t1 : Addr) (i3 : Int) (K : Ex → Fr → Heap → Prop) (h : Heap) : Prop := loopN (fun fr K h => ev Tryd.prog true none (sub (bodyOf Tryd.f28) [1, 0, 0]) (subA f28_ann [1, 0, 0]) fr K h) 11 n (mkFr 0 19 [(0, yield0), (1, (.pointer (some t1))), (3, (.int .i64 i3))]) K h
@[irreducible] def f28_B10 (n : Nat) (K : Ex → Fr → Heap → Prop) : Ex → Fr → Heap → Prop := seqK (fun fr h => loopN (fun fr K h => ev Tryd.prog true none (sub (bodyOf Tryd.f28) [1, 0, 0]) (subA f28_ann [1, 0, 0]) fr K h) 11 n (fr.mask 11) K h) K
@[irreducible] def f28_K1 (Q : Value → Heap → Prop) : Ex → Fr → Heap → Prop := blockK 0 (bodyK Tryd.prog Tryd.f28 Q)
theorem f28_L10_eq (n : Nat) (yield0 : Value) (t1 : Addr) (i3 : Int) (K : Ex → Fr → Heap → Prop) (h : Heap) : f28_L10 (n + 1) yield0 t1 i3 K h = (
 let t8 : Bool := decide (i3 ≥ 0)
 br t8 (
 ∃ (t13 : Option Addr) (t13n : Nat) (t13c : Nat), cellH h t1 = some (.slice t13 t13n t13c) ∧
 hwp Tryd.prog (Instr.indexAt 23 (.slice t13 t13n t13c) (.int .i64 i3)) (fun v h1 => ∃ (t15 : Addr), v = (.pointer (some t15)) ∧
 ∃ (t16 : Int), cellH h1 t15 = some (.int .u8 t16) ∧
 callV Tryd.prog yield0 [(.int .i64 i3), (.int .u8 t16)] (fun v_1 h2 => ∃ (t17 : Bool), v_1 = (.bool t17) ∧
 let t18 : Bool := (!t17)
 br t18 (
 K .ret (f28_Xret) h2) (
 let t10 : Int := IntKind.i64.wrap (i3 - 1)
 f28_L10 n yield0 t1 t10 K h2)) h1) h) (
 K (.exit 0) (f28_X0) h)) := by kernel_rfl
theorem f28_at10_Xret (Q : Value → Heap → Prop)  (h : Heap) : (f28_K1 Q) .ret (f28_Xret ) h = (
 Q (.tuple #[]) h) := by kernel_rfl
theorem f28_at10_X0 (Q : Value → Heap → Prop)  (h : Heap) : (f28_K1 Q) (.exit 0) (f28_X0 ) h = (
 Q (.tuple #[]) h) := by kernel_rfl
def f28_main (yield0 : Value) (t1 : Addr) (Q : Value → Heap → Prop) (h : Heap) : Prop :=
 ∃ (t4 : Option Addr) (t4n : Nat) (t4c : Nat), cellH h t1 = some (.slice t4 t4n t4c) ∧
 let t6 : Int := IntKind.i64.wrap ((t4n : Int) - 1)
 ∃ m, f28_L10 m yield0 t1 t6 (f28_K1 Q) h
theorem f28_eq (yield0 : Value) (t1 : Addr) (Q : Value → Heap → Prop) (h : Heap) : ev Tryd.prog true none (bodyOf Tryd.f28) f28_ann (initFr 19 [yield0, (.pointer (some t1))]) (bodyK Tryd.prog Tryd.f28 Q) h = f28_main yield0 t1 Q h := by kernel_rfl
theorem f28_door {yield0 : Value} {t1 : Addr} {Q : Value → Heap → Prop} {h : Heap} (H : f28_main yield0 t1 Q h) : SpecH Tryd.prog 28 [yield0, (.pointer (some t1))] h Q :=
   spec_of_ev Tryd.func28 rfl rfl ((f28_eq yield0 t1 Q h).symm ▸ H)
/-! ### slices.Backward[[]byte,byte]: function 27 -/
def f27_ann : Ann := (.seq 2 (.region [(List.range 2, 2)]) (.seq 4 (.region [(List.range 2, 4)]) (.exit 4)))
def f27_main (s0 : Option Addr) (s0n : Nat) (s0c : Nat) (Q : Value → Heap → Prop) (h : Heap) : Prop :=
 let s1 : Addr := ⟨Array.size h, 0, none⟩
 let h1 : Heap := Array.push h (.cells #[(.slice s0 s0n s0c)] 23 (0, 0))
 Q (.func (.func 28) #[] #[(.pointer (some s1))]) h1
theorem f27_eq (s0 : Option Addr) (s0n : Nat) (s0c : Nat) (Q : Value → Heap → Prop) (h : Heap) : ev Tryd.prog true none (bodyOf Tryd.f27) f27_ann (initFr 4 [(.slice s0 s0n s0c)]) (bodyK Tryd.prog Tryd.f27 Q) h = f27_main s0 s0n s0c Q h := by kernel_rfl
theorem f27_door {s0 : Option Addr} {s0n : Nat} {s0c : Nat} {Q : Value → Heap → Prop} {h : Heap} (H : f27_main s0 s0n s0c Q h) : SpecH Tryd.prog 27 [(.slice s0 s0n s0c)] h Q :=
   spec_of_ev Tryd.func27 rfl rfl ((f27_eq s0 s0n s0c Q h).symm ▸ H)
/-! ### haversack/little.get: function 26 -/
def f26_ann : Ann := (.seq 199 (.region [(List.range 2, 199)]) (.seq 199 (.seq 1048775 (.region [(List.range 10, 1048775)]) (.cond (.seq 192 (.region [(List.range 2, 192)]) (.exit 192)) .leaf)) (.seq 455 (.region [(List.range 1, 455)]) (.seq 256 (.seq 134218176 (.region [(List.range 7, 134218176)]) (.block (.range 448 (.region [(List.range 1, 1280)]) (.block (.region [(List.range 6, 0)]))))) (.seq 192 (.region [(List.range 3, 192)]) (.exit 192))))))
@[irreducible] def f26_K1 (Q : Value → Heap → Prop) : Ex → Fr → Heap → Prop := seqK (fun fr h => ev Tryd.prog true none (sub (bodyOf Tryd.f26) [1, 1]) (subA f26_ann [1, 1]) (fr.mask 199) (bodyKR Tryd.prog Tryd.f26 Q) h) (bodyKR Tryd.prog Tryd.f26 Q)
@[irreducible] def f26_J101 (b0 : Option Addr) (b0n : Nat) (b0c : Nat) (at1 : Int) (n2 : Int) (t6 : Int) (t7 : Int) (t20 : Bool) (Q : Value → Heap → Prop) (h : Heap) : Prop := ev Tryd.prog true none (sub (bodyOf Tryd.f26) [1, 0, 1]) (subA f26_ann [1, 0, 1]) (mkFr 0 36 [(0, (.slice b0 b0n b0c)), (1, (.int .i64 at1)), (2, (.int .i64 n2)), (6, (.int .u64 t6)), (7, (.int .i64 t7)), (20, (.bool t20))]) (f26_K1 Q) h
@[irreducible] def f26_K111 (Q : Value → Heap → Prop) : Ex → Fr → Heap → Prop := seqK (fun fr h => ev Tryd.prog true none (sub (bodyOf Tryd.f26) [1, 1, 1, 1]) (subA f26_ann [1, 1, 1, 1]) (fr.mask 256) (bodyKR Tryd.prog Tryd.f26 Q) h) (bodyKR Tryd.prog Tryd.f26 Q)
@[irreducible] def f26_K11101 (Q : Value → Heap → Prop) : Ex → Fr → Heap → Prop := blockK 0 (f26_K111 Q)
@[irreducible] def f26_R111010 (t6 : Int) (t7 : Int) (v8 : Addr) (t28 : Value) (t29 : Int) (l : Nat) (K : Value → Heap → Prop) (h : Heap) : Prop := ev Tryd.prog false none (sub (bodyOf Tryd.f26) [1, 1, 1, 0, 1, 0, 0]) (subA f26_ann [1, 1, 1, 0, 1, 0, 0]) (setAll (mkFr 0 36 [(6, (.int .u64 t6)), (7, (.int .i64 t7)), (8, (.pointer (some v8)))]) [(28, t28), (29, (.int .u8 t29))]) (roundK Tryd.prog l (sub (bodyOf Tryd.f26) [1, 1, 1, 0, 1, 0, 1]) (subA f26_ann [1, 1, 1, 0, 1, 0, 1]) 1280 K) h
theorem f26_J101_eq (b0 : Option Addr) (b0n : Nat) (b0c : Nat) (at1 : Int) (n2 : Int) (t6 : Int) (t7 : Int) (t20 : Bool) (Q : Value → Heap → Prop) (h : Heap) : f26_J101 b0 b0n b0c at1 n2 t6 t7 t20 Q h = (
 br t20 (
 ∀ h1, Takes h h1 → Q (.tuple #[(.int .u64 0), (.int .i64 20)]) h1) (
 let v8 : Addr := ⟨Array.size h, 0, none⟩
 let h2 : Heap := Array.push h (.cells #[(.int .u64 0)] 31 (0, 0))
 let t25 : Int := IntKind.i64.wrap (at1 + n2)
 hwp Tryd.prog (Instr.sliceAt 23 (.slice b0 b0n b0c) (some (.int .i64 at1)) (some (.int .i64 t25)) none) (fun v h3 => ∃ (t26 : Option Addr) (t26n : Nat) (t26c : Nat), v = (.slice t26 t26n t26c) ∧
 SpecH Tryd.prog 27 [(.slice t26 t26n t26c)] h3 (fun v_1 h4 => ∃ (t27 : Value), v_1 = t27 ∧
 rangeK Tryd.prog t27 #[28, 29] (sub (bodyOf Tryd.f26) [1, 1, 1, 0, 1, 0, 0]) (sub (bodyOf Tryd.f26) [1, 1, 1, 0, 1, 0, 1]) (mkFr 0 36 [(6, (.int .u64 t6)), (7, (.int .i64 t7)), (8, (.pointer (some v8)))]) (f26_K11101 Q) h4)) h2)) := by kernel_rfl
theorem f26_R111010_eq (t6 : Int) (t7 : Int) (v8 : Addr) (t28 : Value) (t29 : Int) (l : Nat) (K : Value → Heap → Prop) (h : Heap) : f26_R111010 t6 t7 v8 t28 t29 l K h = (
 ∃ L : Loop, h[l]? = some (.loop L) ∧ L.state = .ready ∧
 let h1 : Heap := h.setIfInBounds l (.loop { L with state := .busy })
 ∃ (t30 : Int), cellH h1 v8 = some (.int .u64 t30) ∧
 let t31 : Int := sShl .u64 t30 8
 let t33 : Int := IntKind.u64.wrap t29
 let t34 : Int := bOr .u64 t31 t33
 wr v8 (.int .u64 t34) (fun h2 =>
 ∃ L_1, h2[l]? = some (.loop L_1) ∧ K (.bool true) (h2.setIfInBounds l (endL L_1 none))) h1) := by kernel_rfl
theorem f26_R111010_yield {t6 : Int} {t7 : Int} {v8 : Addr} {t28 : Value} {t29 : Int} {l : Nat} {K : Value → Heap → Prop} {h : Heap} {L : Loop} (hl : h[l]? = some (.loop L)) (hp : L.params = #[28, 29]) (ha : L.assign = (sub (bodyOf Tryd.f26) [1, 1, 1, 0, 1, 0, 0])) (hb : L.body = (sub (bodyOf Tryd.f26) [1, 1, 1, 0, 1, 0, 1])) (hf : FrRel (mkFr 0 36 [(6, (.int .u64 t6)), (7, (.int .i64 t7)), (8, (.pointer (some v8)))]) L.tmps) (H : f26_R111010 t6 t7 v8 t28 t29 l K h) : callV Tryd.prog (.func (.yield l) #[] #[]) [t28, (.int .u8 t29)] K h := by
   unfold f26_R111010 at H
   refine yield_ok (ann := subA f26_ann [1, 1, 1, 0, 1, 0, 0]) (annB := subA f26_ann [1, 1, 1, 0, 1, 0, 1]) (m := 1280) hl (by rw [hp]; rfl) hf ?_
   rw [ha, hb, hp]; exact H
theorem f26_R111010_outn0 (Q : Value → Heap → Prop) (t6 : Int) (t7 : Int) (v8 : Addr) (h : Heap) : (f26_K11101 Q) .normal (mkFr 0 36 [(6, (.int .u64 t6)), (7, (.int .i64 t7)), (8, (.pointer (some v8)))]) h = (
 ∃ (t35 : Int), cellH h v8 = some (.int .u64 t35) ∧
 ∀ h1, Takes h h1 → Q (.tuple #[(.int .u64 t35), (.int .i64 0)]) h1) := by kernel_rfl
def f26_main (b0 : Option Addr) (b0n : Nat) (b0c : Nat) (at1 : Int) (n2 : Int) (Q : Value → Heap → Prop) (h : Heap) : Prop :=
 let t12 : Bool := decide (at1 < 0)
 br t12 (
 f26_J101 b0 b0n b0c at1 n2 0 0 true Q h) (
 let t18 : Int := IntKind.i64.wrap ((b0n : Int) - n2)
 let t19 : Bool := decide (at1 > t18)
 f26_J101 b0 b0n b0c at1 n2 0 0 t19 Q h)
theorem f26_eq (b0 : Option Addr) (b0n : Nat) (b0c : Nat) (at1 : Int) (n2 : Int) (Q : Value → Heap → Prop) (h : Heap) : ev Tryd.prog true none (bodyOf Tryd.f26) f26_ann (initFr 36 [(.slice b0 b0n b0c), (.int .i64 at1), (.int .i64 n2)]) (bodyKR Tryd.prog Tryd.f26 Q) h = f26_main b0 b0n b0c at1 n2 Q h := by kernel_rfl
theorem f26_door {b0 : Option Addr} {b0n : Nat} {b0c : Nat} {at1 : Int} {n2 : Int} {Q : Value → Heap → Prop} {h : Heap} (H : f26_main b0 b0n b0c at1 n2 Q h) : SpecH Tryd.prog 26 [(.slice b0 b0n b0c), (.int .i64 at1), (.int .i64 n2)] h Q :=
   spec_of_evR Tryd.func26 rfl ((f26_eq b0 b0n b0c at1 n2 Q h).symm ▸ H)
/-! ### haversack/little.put: function 25 -/
def f25_ann : Ann := (.seq 7 (.region [(List.range 1, 7)]) (.seq 135 (.region [(List.range 8, 135)]) (.seq 134 (.region [(List.range 3, 134)]) (.seq 128 (.seq 786562 (.region [(List.range 2, 786562)]) (.block (.loop 786562 (.seq 1835138 (.region [(List.range 1, 1835138)]) (.seq 786562 (.cond .leaf (.exit 128)) (.seq 786562 (.block (.seq 786562 (.region [(List.range 6, 786562)]) (.region [(List.range 3, 786562)]))) (.region [(List.range 2, 786562)]))))))) (.seq 64 (.region [(List.range 2, 64)]) (.exit 64))))))
@[irreducible] def f25_X0 (out7 : Option Addr) (out7n : Nat) (out7c : Nat) : Fr := (mkFr 0 30 [(7, (.slice out7 out7n out7c))])
@[irreducible] def f25_L111010 (n : Nat) (v1 : Int) (out7 : Option Addr) (out7n : Nat) (out7c : Nat) (t18 : Int) (t19 : Int) (K : Ex → Fr → Heap → Prop) (h : Heap) : Prop := loopN (fun fr K h => ev Tryd.prog true none (sub (bodyOf Tryd.f25) [1, 1, 1, 0, 1, 0, 0]) (subA f25_ann [1, 1, 1, 0, 1, 0, 0]) fr K h) 786562 n (mkFr 0 30 [(1, (.int .u64 v1)), (7, (.slice out7 out7n out7c)), (18, (.int .i64 t18)), (19, (.int .i64 t19))]) K h
@[irreducible] def f25_B111010 (n : Nat) (K : Ex → Fr → Heap → Prop) : Ex → Fr → Heap → Prop := seqK (fun fr h => loopN (fun fr K h => ev Tryd.prog true none (sub (bodyOf Tryd.f25) [1, 1, 1, 0, 1, 0, 0]) (subA f25_ann [1, 1, 1, 0, 1, 0, 0]) fr K h) 786562 n (fr.mask 786562) K h) K
@[irreducible] def f25_K111 (Q : Value → Heap → Prop) : Ex → Fr → Heap → Prop := seqK (fun fr h => ev Tryd.prog true none (sub (bodyOf Tryd.f25) [1, 1, 1, 1]) (subA f25_ann [1, 1, 1, 1]) (fr.mask 128) (bodyK Tryd.prog Tryd.f25 Q) h) (bodyK Tryd.prog Tryd.f25 Q)
@[irreducible] def f25_K11101 (Q : Value → Heap → Prop) : Ex → Fr → Heap → Prop := blockK 0 (f25_K111 Q)
theorem f25_L111010_eq (n : Nat) (v1 : Int) (out7 : Option Addr) (out7n : Nat) (out7c : Nat) (t18 : Int) (t19 : Int) (K : Ex → Fr → Heap → Prop) (h : Heap) : f25_L111010 (n + 1) v1 out7 out7n out7c t18 t19 K h = (
 let t20 : Bool := decide (t19 < t18)
 br t20 (
 let t23 : Int := IntKind.u8.wrap v1
 let h1 : Heap := Array.push h (.cells #[(.int .u8 t23)] 5 (0, 0))
 hwp Tryd.prog (Builtin.append_ #[23, 23] 23 #[(.slice out7 out7n out7c), (.slice (some ⟨Array.size h, 0, none⟩) 1 1)]) (fun v h2 => ∃ (t25 : Option Addr) (t25n : Nat) (t25c : Nat), v = (.slice t25 t25n t25c) ∧
 let t27 : Int := sShr .u64 v1 8
 let t28 : Int := IntKind.i64.wrap (t19 + 1)
 f25_L111010 n t27 t25 t25n t25c t18 t28 K h2) h1) (
 K (.exit 0) (f25_X0 out7 out7n out7c) h)) := by kernel_rfl
theorem f25_at111010_X0 (Q : Value → Heap → Prop) (out7 : Option Addr) (out7n : Nat) (out7c : Nat) (h : Heap) : (f25_K11101 Q) (.exit 0) (f25_X0 out7 out7n out7c) h = (
 Q (.slice out7 out7n out7c) h) := by kernel_rfl
def f25_main (b0 : Option Addr) (b0n : Nat) (b0c : Nat) (v1 : Int) (n2 : Int) (Q : Value → Heap → Prop) (h : Heap) : Prop :=
 let t13 : Int := IntKind.i64.wrap ((b0n : Int) + n2)
 hwp Tryd.prog (Instr.makeSlice 23 (.int .i64 (b0n : Int)) (.int .i64 t13)) (fun v h1 => ∃ (t14 : Option Addr) (t14n : Nat) (t14c : Nat), v = (.slice t14 t14n t14c) ∧
 hwp Tryd.prog (Builtin.copy_ #[23, 23] 3 #[(.slice t14 t14n t14c), (.slice b0 b0n b0c)]) (fun v_1 h2 => ∃ (t17 : Int), v_1 = (.int .i64 t17) ∧
 ∃ m, f25_L111010 m v1 t14 t14n t14c n2 0 (f25_K11101 Q) h2) h1) h
theorem f25_eq (b0 : Option Addr) (b0n : Nat) (b0c : Nat) (v1 : Int) (n2 : Int) (Q : Value → Heap → Prop) (h : Heap) : ev Tryd.prog true none (bodyOf Tryd.f25) f25_ann (initFr 30 [(.slice b0 b0n b0c), (.int .u64 v1), (.int .i64 n2)]) (bodyK Tryd.prog Tryd.f25 Q) h = f25_main b0 b0n b0c v1 n2 Q h := by kernel_rfl
theorem f25_door {b0 : Option Addr} {b0n : Nat} {b0c : Nat} {v1 : Int} {n2 : Int} {Q : Value → Heap → Prop} {h : Heap} (H : f25_main b0 b0n b0c v1 n2 Q h) : SpecH Tryd.prog 25 [(.slice b0 b0n b0c), (.int .u64 v1), (.int .i64 n2)] h Q :=
   spec_of_ev Tryd.func25 rfl rfl ((f25_eq b0 b0n b0c v1 n2 Q h).symm ▸ H)
/-! ### haversack/haversackref02.Get: function 24 -/
def f24_ann : Ann := (.seq 7 (.region [(List.range 2, 7)]) (.seq 7 (.seq 33554439 (.region [(List.range 16, 33554439)]) (.cond (.seq 192 (.region [(List.range 2, 192)]) (.exit 192)) .leaf)) (.seq 263 (.region [(List.range 1, 263)]) (.seq 256 (.seq 775 (.region [(List.range 1, 775)]) (.block (.loop 775 (.seq 775 (.seq 268436231 (.region [(List.range 3, 268436231)]) (.cond .leaf (.exit 256))) (.seq 775 (.block (.region [(List.range 13, 775)])) (.region [(List.range 3, 775)])))))) (.seq 192 (.region [(List.range 3, 192)]) (.exit 192))))))
@[irreducible] def f24_X0 (v8 : Int) : Fr := (mkFr 0 44 [(8, (.int .u64 v8))])
@[irreducible] def f24_K1 (Q : Value → Heap → Prop) : Ex → Fr → Heap → Prop := seqK (fun fr h => ev Tryd.prog true none (sub (bodyOf Tryd.f24) [1, 1]) (subA f24_ann [1, 1]) (fr.mask 7) (bodyK Tryd.prog Tryd.f24 Q) h) (bodyK Tryd.prog Tryd.f24 Q)
@[irreducible] def f24_J101 (b0 : Option Addr) (b0n : Nat) (b0c : Nat) (at1 : Int) (n2 : Int) (t25 : Bool) (Q : Value → Heap → Prop) (h : Heap) : Prop := ev Tryd.prog true none (sub (bodyOf Tryd.f24) [1, 0, 1]) (subA f24_ann [1, 0, 1]) (mkFr 0 44 [(0, (.slice b0 b0n b0c)), (1, (.int .i64 at1)), (2, (.int .i64 n2)), (25, (.bool t25))]) (f24_K1 Q) h
@[irreducible] def f24_K111 (Q : Value → Heap → Prop) : Ex → Fr → Heap → Prop := seqK (fun fr h => ev Tryd.prog true none (sub (bodyOf Tryd.f24) [1, 1, 1, 1]) (subA f24_ann [1, 1, 1, 1]) (fr.mask 256) (bodyK Tryd.prog Tryd.f24 Q) h) (bodyK Tryd.prog Tryd.f24 Q)
@[irreducible] def f24_K11101 (Q : Value → Heap → Prop) : Ex → Fr → Heap → Prop := blockK 0 (f24_K111 Q)
@[irreducible] def f24_L111010 (n : Nat) (b0 : Option Addr) (b0n : Nat) (b0c : Nat) (at1 : Int) (n2 : Int) (v8 : Int) (i9 : Int) (K : Ex → Fr → Heap → Prop) (h : Heap) : Prop := loopN (fun fr K h => ev Tryd.prog true none (sub (bodyOf Tryd.f24) [1, 1, 1, 0, 1, 0, 0]) (subA f24_ann [1, 1, 1, 0, 1, 0, 0]) fr K h) 775 n (mkFr 0 44 [(0, (.slice b0 b0n b0c)), (1, (.int .i64 at1)), (2, (.int .i64 n2)), (8, (.int .u64 v8)), (9, (.int .i64 i9))]) K h
@[irreducible] def f24_B111010 (n : Nat) (K : Ex → Fr → Heap → Prop) : Ex → Fr → Heap → Prop := seqK (fun fr h => loopN (fun fr K h => ev Tryd.prog true none (sub (bodyOf Tryd.f24) [1, 1, 1, 0, 1, 0, 0]) (subA f24_ann [1, 1, 1, 0, 1, 0, 0]) fr K h) 775 n (fr.mask 775) K h) K
theorem f24_J101_eq (b0 : Option Addr) (b0n : Nat) (b0c : Nat) (at1 : Int) (n2 : Int) (t25 : Bool) (Q : Value → Heap → Prop) (h : Heap) : f24_J101 b0 b0n b0c at1 n2 t25 Q h = (
 br t25 (
 Q (.tuple #[(.int .u64 0), (.int .i64 20)]) h) (
 ∃ m, f24_L111010 m b0 b0n b0c at1 n2 0 0 (f24_K11101 Q) h)) := by kernel_rfl
theorem f24_L111010_eq (n : Nat) (b0 : Option Addr) (b0n : Nat) (b0c : Nat) (at1 : Int) (n2 : Int) (v8 : Int) (i9 : Int) (K : Ex → Fr → Heap → Prop) (h : Heap) : f24_L111010 (n + 1) b0 b0n b0c at1 n2 v8 i9 K h = (
 let t28 : Bool := decide (i9 < n2)
 br t28 (
 let t35 : Int := IntKind.i64.wrap (at1 + i9)
 hwp Tryd.prog (Instr.indexAt 23 (.slice b0 b0n b0c) (.int .i64 t35)) (fun v h1 => ∃ (t36 : Addr), v = (.pointer (some t36)) ∧
 ∃ (t37 : Int), cellH h1 t36 = some (.int .u8 t37) ∧
 let t38 : Int := IntKind.u64.wrap t37
 let t40 : Int := IntKind.i64.wrap (8 * i9)
 br (decide (0 ≤ t40)) (
 let t41 : Int := sShl .u64 t38 t40
 let t42 : Int := bOr .u64 v8 t41
 let t30 : Int := IntKind.i64.wrap (i9 + 1)
 f24_L111010 n b0 b0n b0c at1 n2 t42 t30 K h1) False) h) (
 K (.exit 0) (f24_X0 v8) h)) := by kernel_rfl
theorem f24_at111010_X0 (Q : Value → Heap → Prop) (v8 : Int) (h : Heap) : (f24_K11101 Q) (.exit 0) (f24_X0 v8) h = (
 Q (.tuple #[(.int .u64 v8), (.int .i64 0)]) h) := by kernel_rfl
def f24_main (b0 : Option Addr) (b0n : Nat) (b0c : Nat) (at1 : Int) (n2 : Int) (Q : Value → Heap → Prop) (h : Heap) : Prop :=
 let t11 : Bool := decide (at1 < 0)
 br t11 (
 f24_J101 b0 b0n b0c at1 n2 true Q h) (
 let t16 : Bool := decide (at1 > (b0n : Int))
 br t16 (
 f24_J101 b0 b0n b0c at1 n2 true Q h) (
 let t22 : Int := IntKind.i64.wrap ((b0n : Int) - at1)
 let t24 : Bool := decide (t22 < n2)
 f24_J101 b0 b0n b0c at1 n2 t24 Q h))
theorem f24_eq (b0 : Option Addr) (b0n : Nat) (b0c : Nat) (at1 : Int) (n2 : Int) (Q : Value → Heap → Prop) (h : Heap) : ev Tryd.prog true none (bodyOf Tryd.f24) f24_ann (initFr 44 [(.slice b0 b0n b0c), (.int .i64 at1), (.int .i64 n2)]) (bodyK Tryd.prog Tryd.f24 Q) h = f24_main b0 b0n b0c at1 n2 Q h := by kernel_rfl
theorem f24_door {b0 : Option Addr} {b0n : Nat} {b0c : Nat} {at1 : Int} {n2 : Int} {Q : Value → Heap → Prop} {h : Heap} (H : f24_main b0 b0n b0c at1 n2 Q h) : SpecH Tryd.prog 24 [(.slice b0 b0n b0c), (.int .i64 at1), (.int .i64 n2)] h Q :=
   spec_of_ev Tryd.func24 rfl rfl ((f24_eq b0 b0n b0c at1 n2 Q h).symm ▸ H)
/-! ### haversack/little.Get64: function 23 -/
def f23_ann : Ann := (.seq 3 (.region [(List.range 2, 3)]) (.seq 48 (.region [(List.range 7, 48)]) (.exit 48)))
def f23_main (b0 : Option Addr) (b0n : Nat) (b0c : Nat) (at1 : Int) (Q : Value → Heap → Prop) (h : Heap) : Prop :=
 SpecH Tryd.prog 26 [(.slice b0 b0n b0c), (.int .i64 at1), (.int .i64 8)] h (fun v h1 => ∃ (t8 : Int) (t8_1 : Int), v = (.tuple #[(.int .u64 t8), (.int .i64 t8_1)]) ∧
 Q (.tuple #[(.int .u64 t8), (.int .i64 t8_1)]) h1)
theorem f23_eq (b0 : Option Addr) (b0n : Nat) (b0c : Nat) (at1 : Int) (Q : Value → Heap → Prop) (h : Heap) : ev Tryd.prog true none (bodyOf Tryd.f23) f23_ann (initFr 11 [(.slice b0 b0n b0c), (.int .i64 at1)]) (bodyK Tryd.prog Tryd.f23 Q) h = f23_main b0 b0n b0c at1 Q h := by kernel_rfl
theorem f23_door {b0 : Option Addr} {b0n : Nat} {b0c : Nat} {at1 : Int} {Q : Value → Heap → Prop} {h : Heap} (H : f23_main b0 b0n b0c at1 Q h) : SpecH Tryd.prog 23 [(.slice b0 b0n b0c), (.int .i64 at1)] h Q :=
   spec_of_ev Tryd.func23 rfl rfl ((f23_eq b0 b0n b0c at1 Q h).symm ▸ H)
/-! ### haversack/little.Get32: function 22 -/
def f22_ann : Ann := (.seq 3 (.region [(List.range 2, 3)]) (.seq 192 (.region [(List.range 8, 192)]) (.seq 48 (.region [(List.range 5, 48)]) (.exit 48))))
def f22_main (b0 : Option Addr) (b0n : Nat) (b0c : Nat) (at1 : Int) (Q : Value → Heap → Prop) (h : Heap) : Prop :=
 SpecH Tryd.prog 26 [(.slice b0 b0n b0c), (.int .i64 at1), (.int .i64 4)] h (fun v h1 => ∃ (t11 : Int) (t11_1 : Int), v = (.tuple #[(.int .u64 t11), (.int .i64 t11_1)]) ∧
 let t15 : Int := IntKind.u32.wrap t11
 Q (.tuple #[(.int .u32 t15), (.int .i64 t11_1)]) h1)
theorem f22_eq (b0 : Option Addr) (b0n : Nat) (b0c : Nat) (at1 : Int) (Q : Value → Heap → Prop) (h : Heap) : ev Tryd.prog true none (bodyOf Tryd.f22) f22_ann (initFr 17 [(.slice b0 b0n b0c), (.int .i64 at1)]) (bodyK Tryd.prog Tryd.f22 Q) h = f22_main b0 b0n b0c at1 Q h := by kernel_rfl
theorem f22_door {b0 : Option Addr} {b0n : Nat} {b0c : Nat} {at1 : Int} {Q : Value → Heap → Prop} {h : Heap} (H : f22_main b0 b0n b0c at1 Q h) : SpecH Tryd.prog 22 [(.slice b0 b0n b0c), (.int .i64 at1)] h Q :=
   spec_of_ev Tryd.func22 rfl rfl ((f22_eq b0 b0n b0c at1 Q h).symm ▸ H)
/-! ### haversack/little.Get16: function 21 -/
def f21_ann : Ann := (.seq 3 (.region [(List.range 2, 3)]) (.seq 192 (.region [(List.range 8, 192)]) (.seq 48 (.region [(List.range 5, 48)]) (.exit 48))))
def f21_main (b0 : Option Addr) (b0n : Nat) (b0c : Nat) (at1 : Int) (Q : Value → Heap → Prop) (h : Heap) : Prop :=
 SpecH Tryd.prog 26 [(.slice b0 b0n b0c), (.int .i64 at1), (.int .i64 2)] h (fun v h1 => ∃ (t11 : Int) (t11_1 : Int), v = (.tuple #[(.int .u64 t11), (.int .i64 t11_1)]) ∧
 let t15 : Int := IntKind.u16.wrap t11
 Q (.tuple #[(.int .u16 t15), (.int .i64 t11_1)]) h1)
theorem f21_eq (b0 : Option Addr) (b0n : Nat) (b0c : Nat) (at1 : Int) (Q : Value → Heap → Prop) (h : Heap) : ev Tryd.prog true none (bodyOf Tryd.f21) f21_ann (initFr 17 [(.slice b0 b0n b0c), (.int .i64 at1)]) (bodyK Tryd.prog Tryd.f21 Q) h = f21_main b0 b0n b0c at1 Q h := by kernel_rfl
theorem f21_door {b0 : Option Addr} {b0n : Nat} {b0c : Nat} {at1 : Int} {Q : Value → Heap → Prop} {h : Heap} (H : f21_main b0 b0n b0c at1 Q h) : SpecH Tryd.prog 21 [(.slice b0 b0n b0c), (.int .i64 at1)] h Q :=
   spec_of_ev Tryd.func21 rfl rfl ((f21_eq b0 b0n b0c at1 Q h).symm ▸ H)
/-! ### haversack/haversackref02.Put: function 20 -/
def f20_ann : Ann := (.seq 7 (.region [(List.range 1, 7)]) (.seq 135 (.region [(List.range 6, 135)]) (.seq 135 (.region [(List.range 3, 135)]) (.seq 128 (.seq 391 (.region [(List.range 1, 391)]) (.block (.loop 391 (.seq 391 (.seq 524679 (.region [(List.range 3, 524679)]) (.cond .leaf (.exit 128))) (.seq 391 (.block (.region [(List.range 12, 391)])) (.region [(List.range 3, 391)])))))) (.seq 64 (.region [(List.range 2, 64)]) (.exit 64))))))
@[irreducible] def f20_X0 (out7 : Option Addr) (out7n : Nat) (out7c : Nat) : Fr := (mkFr 0 34 [(7, (.slice out7 out7n out7c))])
@[irreducible] def f20_L111010 (n : Nat) (b0 : Option Addr) (b0n : Nat) (b0c : Nat) (v1 : Int) (n2 : Int) (out7 : Option Addr) (out7n : Nat) (out7c : Nat) (i8 : Int) (K : Ex → Fr → Heap → Prop) (h : Heap) : Prop := loopN (fun fr K h => ev Tryd.prog true none (sub (bodyOf Tryd.f20) [1, 1, 1, 0, 1, 0, 0]) (subA f20_ann [1, 1, 1, 0, 1, 0, 0]) fr K h) 391 n (mkFr 0 34 [(0, (.slice b0 b0n b0c)), (1, (.int .u64 v1)), (2, (.int .i64 n2)), (7, (.slice out7 out7n out7c)), (8, (.int .i64 i8))]) K h
@[irreducible] def f20_B111010 (n : Nat) (K : Ex → Fr → Heap → Prop) : Ex → Fr → Heap → Prop := seqK (fun fr h => loopN (fun fr K h => ev Tryd.prog true none (sub (bodyOf Tryd.f20) [1, 1, 1, 0, 1, 0, 0]) (subA f20_ann [1, 1, 1, 0, 1, 0, 0]) fr K h) 391 n (fr.mask 391) K h) K
@[irreducible] def f20_K111 (Q : Value → Heap → Prop) : Ex → Fr → Heap → Prop := seqK (fun fr h => ev Tryd.prog true none (sub (bodyOf Tryd.f20) [1, 1, 1, 1]) (subA f20_ann [1, 1, 1, 1]) (fr.mask 128) (bodyK Tryd.prog Tryd.f20 Q) h) (bodyK Tryd.prog Tryd.f20 Q)
@[irreducible] def f20_K11101 (Q : Value → Heap → Prop) : Ex → Fr → Heap → Prop := blockK 0 (f20_K111 Q)
theorem f20_L111010_eq (n : Nat) (b0 : Option Addr) (b0n : Nat) (b0c : Nat) (v1 : Int) (n2 : Int) (out7 : Option Addr) (out7n : Nat) (out7c : Nat) (i8 : Int) (K : Ex → Fr → Heap → Prop) (h : Heap) : f20_L111010 (n + 1) b0 b0n b0c v1 n2 out7 out7n out7c i8 K h = (
 let t19 : Bool := decide (i8 < n2)
 br t19 (
 let t26 : Int := IntKind.i64.wrap ((b0n : Int) + i8)
 let t29 : Int := IntKind.i64.wrap (8 * i8)
 br (decide (0 ≤ t29)) (
 let t30 : Int := sShr .u64 v1 t29
 let t31 : Int := IntKind.u8.wrap t30
 hwp Tryd.prog (Instr.indexAt 23 (.slice out7 out7n out7c) (.int .i64 t26)) (fun v h1 => ∃ (t32 : Addr), v = (.pointer (some t32)) ∧
 wr t32 (.int .u8 t31) (fun h2 =>
 let t21 : Int := IntKind.i64.wrap (i8 + 1)
 f20_L111010 n b0 b0n b0c v1 n2 out7 out7n out7c t21 K h2) h1) h) False) (
 K (.exit 0) (f20_X0 out7 out7n out7c) h)) := by kernel_rfl
theorem f20_at111010_X0 (Q : Value → Heap → Prop) (out7 : Option Addr) (out7n : Nat) (out7c : Nat) (h : Heap) : (f20_K11101 Q) (.exit 0) (f20_X0 out7 out7n out7c) h = (
 Q (.slice out7 out7n out7c) h) := by kernel_rfl
def f20_main (b0 : Option Addr) (b0n : Nat) (b0c : Nat) (v1 : Int) (n2 : Int) (Q : Value → Heap → Prop) (h : Heap) : Prop :=
 let t12 : Int := IntKind.i64.wrap ((b0n : Int) + n2)
 hwp Tryd.prog (Instr.makeSlice 23 (.int .i64 t12) (.int .i64 t12)) (fun v h1 => ∃ (t13 : Option Addr) (t13n : Nat) (t13c : Nat), v = (.slice t13 t13n t13c) ∧
 hwp Tryd.prog (Builtin.copy_ #[23, 23] 3 #[(.slice t13 t13n t13c), (.slice b0 b0n b0c)]) (fun v_1 h2 => ∃ (t16 : Int), v_1 = (.int .i64 t16) ∧
 ∃ m, f20_L111010 m b0 b0n b0c v1 n2 t13 t13n t13c 0 (f20_K11101 Q) h2) h1) h
theorem f20_eq (b0 : Option Addr) (b0n : Nat) (b0c : Nat) (v1 : Int) (n2 : Int) (Q : Value → Heap → Prop) (h : Heap) : ev Tryd.prog true none (bodyOf Tryd.f20) f20_ann (initFr 34 [(.slice b0 b0n b0c), (.int .u64 v1), (.int .i64 n2)]) (bodyK Tryd.prog Tryd.f20 Q) h = f20_main b0 b0n b0c v1 n2 Q h := by kernel_rfl
theorem f20_door {b0 : Option Addr} {b0n : Nat} {b0c : Nat} {v1 : Int} {n2 : Int} {Q : Value → Heap → Prop} {h : Heap} (H : f20_main b0 b0n b0c v1 n2 Q h) : SpecH Tryd.prog 20 [(.slice b0 b0n b0c), (.int .u64 v1), (.int .i64 n2)] h Q :=
   spec_of_ev Tryd.func20 rfl rfl ((f20_eq b0 b0n b0c v1 n2 Q h).symm ▸ H)
/-! ### haversack/haversackref02.Same: function 19 -/
def f19_ann : Ann := (.seq 3 (.region [(List.range 1, 3)]) (.seq 3 (.seq 1027 (.region [(List.range 5, 1027)]) (.cond (.seq 16 (.region [(List.range 1, 16)]) (.exit 16)) .leaf)) (.seq 0 (.seq 35 (.region [(List.range 1, 35)]) (.block (.loop 35 (.seq 35 (.seq 16419 (.region [(List.range 4, 16419)]) (.cond .leaf (.exit 0))) (.seq 35 (.block (.seq 33554467 (.region [(List.range 9, 33554467)]) (.cond (.seq 16 (.region [(List.range 1, 16)]) (.exit 16)) .leaf))) (.region [(List.range 3, 35)])))))) (.seq 16 (.region [(List.range 1, 16)]) (.exit 16)))))
@[irreducible] def f19_Xret (t4 : Bool) : Fr := (mkFr 0 26 [(4, (.bool t4))])
@[irreducible] def f19_X0  : Fr := (mkFr 0 26 [])
@[irreducible] def f19_L11010 (n : Nat) (a0 : Option Addr) (a0n : Nat) (a0c : Nat) (b1 : Option Addr) (b1n : Nat) (b1c : Nat) (i5 : Int) (K : Ex → Fr → Heap → Prop) (h : Heap) : Prop := loopN (fun fr K h => ev Tryd.prog true none (sub (bodyOf Tryd.f19) [1, 1, 0, 1, 0, 0]) (subA f19_ann [1, 1, 0, 1, 0, 0]) fr K h) 35 n (mkFr 0 26 [(0, (.slice a0 a0n a0c)), (1, (.slice b1 b1n b1c)), (5, (.int .i64 i5))]) K h
@[irreducible] def f19_B11010 (n : Nat) (K : Ex → Fr → Heap → Prop) : Ex → Fr → Heap → Prop := seqK (fun fr h => loopN (fun fr K h => ev Tryd.prog true none (sub (bodyOf Tryd.f19) [1, 1, 0, 1, 0, 0]) (subA f19_ann [1, 1, 0, 1, 0, 0]) fr K h) 35 n (fr.mask 35) K h) K
@[irreducible] def f19_K11 (Q : Value → Heap → Prop) : Ex → Fr → Heap → Prop := seqK (fun fr h => ev Tryd.prog true none (sub (bodyOf Tryd.f19) [1, 1, 1]) (subA f19_ann [1, 1, 1]) (fr.mask 0) (bodyK Tryd.prog Tryd.f19 Q) h) (bodyK Tryd.prog Tryd.f19 Q)
@[irreducible] def f19_K1101 (Q : Value → Heap → Prop) : Ex → Fr → Heap → Prop := blockK 0 (f19_K11 Q)
theorem f19_L11010_eq (n : Nat) (a0 : Option Addr) (a0n : Nat) (a0c : Nat) (b1 : Option Addr) (b1n : Nat) (b1c : Nat) (i5 : Int) (K : Ex → Fr → Heap → Prop) (h : Heap) : f19_L11010 (n + 1) a0 a0n a0c b1 b1n b1c i5 K h = (
 let t14 : Bool := decide (i5 < (a0n : Int))
 br t14 (
 hwp Tryd.prog (Instr.indexAt 23 (.slice a0 a0n a0c) (.int .i64 i5)) (fun v h1 => ∃ (t19 : Addr), v = (.pointer (some t19)) ∧
 ∃ (t20 : Int), cellH h1 t19 = some (.int .u8 t20) ∧
 hwp Tryd.prog (Instr.indexAt 23 (.slice b1 b1n b1c) (.int .i64 i5)) (fun v_1 h2 => ∃ (t23 : Addr), v_1 = (.pointer (some t23)) ∧
 ∃ (t24 : Int), cellH h2 t23 = some (.int .u8 t24) ∧
 let t25 : Bool := (t20 != t24)
 br t25 (
 K .ret (f19_Xret false) h2) (
 let t16 : Int := IntKind.i64.wrap (i5 + 1)
 f19_L11010 n a0 a0n a0c b1 b1n b1c t16 K h2)) h1) h) (
 K (.exit 0) (f19_X0) h)) := by kernel_rfl
theorem f19_at11010_Xret (Q : Value → Heap → Prop) (t4 : Bool) (h : Heap) : (f19_K1101 Q) .ret (f19_Xret t4) h = (
 Q (.bool t4) h) := by kernel_rfl
theorem f19_at11010_X0 (Q : Value → Heap → Prop)  (h : Heap) : (f19_K1101 Q) (.exit 0) (f19_X0 ) h = (
 Q (.bool true) h) := by kernel_rfl
def f19_main (a0 : Option Addr) (a0n : Nat) (a0c : Nat) (b1 : Option Addr) (b1n : Nat) (b1c : Nat) (Q : Value → Heap → Prop) (h : Heap) : Prop :=
 let t10 : Bool := ((a0n : Int) != (b1n : Int))
 br t10 (
 Q (.bool false) h) (
 ∃ m, f19_L11010 m a0 a0n a0c b1 b1n b1c 0 (f19_K1101 Q) h)
theorem f19_eq (a0 : Option Addr) (a0n : Nat) (a0c : Nat) (b1 : Option Addr) (b1n : Nat) (b1c : Nat) (Q : Value → Heap → Prop) (h : Heap) : ev Tryd.prog true none (bodyOf Tryd.f19) f19_ann (initFr 26 [(.slice a0 a0n a0c), (.slice b1 b1n b1c)]) (bodyK Tryd.prog Tryd.f19 Q) h = f19_main a0 a0n a0c b1 b1n b1c Q h := by kernel_rfl
theorem f19_door {a0 : Option Addr} {a0n : Nat} {a0c : Nat} {b1 : Option Addr} {b1n : Nat} {b1c : Nat} {Q : Value → Heap → Prop} {h : Heap} (H : f19_main a0 a0n a0c b1 b1n b1c Q h) : SpecH Tryd.prog 19 [(.slice a0 a0n a0c), (.slice b1 b1n b1c)] h Q :=
   spec_of_ev Tryd.func19 rfl rfl ((f19_eq a0 a0n a0c b1 b1n b1c Q h).symm ▸ H)
/-! ### haversack/little.Put64: function 18 -/
def f18_ann : Ann := (.seq 3 (.region [(List.range 1, 3)]) (.seq 16 (.region [(List.range 4, 16)]) (.exit 16)))
def f18_main (b0 : Option Addr) (b0n : Nat) (b0c : Nat) (v1 : Int) (Q : Value → Heap → Prop) (h : Heap) : Prop :=
 SpecH Tryd.prog 25 [(.slice b0 b0n b0c), (.int .u64 v1), (.int .i64 8)] h (fun v h1 => ∃ (t7 : Option Addr) (t7n : Nat) (t7c : Nat), v = (.slice t7 t7n t7c) ∧
 Q (.slice t7 t7n t7c) h1)
theorem f18_eq (b0 : Option Addr) (b0n : Nat) (b0c : Nat) (v1 : Int) (Q : Value → Heap → Prop) (h : Heap) : ev Tryd.prog true none (bodyOf Tryd.f18) f18_ann (initFr 8 [(.slice b0 b0n b0c), (.int .u64 v1)]) (bodyK Tryd.prog Tryd.f18 Q) h = f18_main b0 b0n b0c v1 Q h := by kernel_rfl
theorem f18_door {b0 : Option Addr} {b0n : Nat} {b0c : Nat} {v1 : Int} {Q : Value → Heap → Prop} {h : Heap} (H : f18_main b0 b0n b0c v1 Q h) : SpecH Tryd.prog 18 [(.slice b0 b0n b0c), (.int .u64 v1)] h Q :=
   spec_of_ev Tryd.func18 rfl rfl ((f18_eq b0 b0n b0c v1 Q h).symm ▸ H)
/-! ### haversack/little.Put32: function 17 -/
def f17_ann : Ann := (.seq 3 (.region [(List.range 1, 3)]) (.seq 16 (.region [(List.range 5, 16)]) (.exit 16)))
def f17_main (b0 : Option Addr) (b0n : Nat) (b0c : Nat) (v1 : Int) (Q : Value → Heap → Prop) (h : Heap) : Prop :=
 let t7 : Int := IntKind.u64.wrap v1
 SpecH Tryd.prog 25 [(.slice b0 b0n b0c), (.int .u64 t7), (.int .i64 4)] h (fun v h1 => ∃ (t8 : Option Addr) (t8n : Nat) (t8c : Nat), v = (.slice t8 t8n t8c) ∧
 Q (.slice t8 t8n t8c) h1)
theorem f17_eq (b0 : Option Addr) (b0n : Nat) (b0c : Nat) (v1 : Int) (Q : Value → Heap → Prop) (h : Heap) : ev Tryd.prog true none (bodyOf Tryd.f17) f17_ann (initFr 9 [(.slice b0 b0n b0c), (.int .u32 v1)]) (bodyK Tryd.prog Tryd.f17 Q) h = f17_main b0 b0n b0c v1 Q h := by kernel_rfl
theorem f17_door {b0 : Option Addr} {b0n : Nat} {b0c : Nat} {v1 : Int} {Q : Value → Heap → Prop} {h : Heap} (H : f17_main b0 b0n b0c v1 Q h) : SpecH Tryd.prog 17 [(.slice b0 b0n b0c), (.int .u32 v1)] h Q :=
   spec_of_ev Tryd.func17 rfl rfl ((f17_eq b0 b0n b0c v1 Q h).symm ▸ H)
/-! ### haversack/little.Put16: function 16 -/
def f16_ann : Ann := (.seq 3 (.region [(List.range 1, 3)]) (.seq 16 (.region [(List.range 5, 16)]) (.exit 16)))
def f16_main (b0 : Option Addr) (b0n : Nat) (b0c : Nat) (v1 : Int) (Q : Value → Heap → Prop) (h : Heap) : Prop :=
 let t7 : Int := IntKind.u64.wrap v1
 SpecH Tryd.prog 25 [(.slice b0 b0n b0c), (.int .u64 t7), (.int .i64 2)] h (fun v h1 => ∃ (t8 : Option Addr) (t8n : Nat) (t8c : Nat), v = (.slice t8 t8n t8c) ∧
 Q (.slice t8 t8n t8c) h1)
theorem f16_eq (b0 : Option Addr) (b0n : Nat) (b0c : Nat) (v1 : Int) (Q : Value → Heap → Prop) (h : Heap) : ev Tryd.prog true none (bodyOf Tryd.f16) f16_ann (initFr 9 [(.slice b0 b0n b0c), (.int .u16 v1)]) (bodyK Tryd.prog Tryd.f16 Q) h = f16_main b0 b0n b0c v1 Q h := by kernel_rfl
theorem f16_door {b0 : Option Addr} {b0n : Nat} {b0c : Nat} {v1 : Int} {Q : Value → Heap → Prop} {h : Heap} (H : f16_main b0 b0n b0c v1 Q h) : SpecH Tryd.prog 16 [(.slice b0 b0n b0c), (.int .u16 v1)] h Q :=
   spec_of_ev Tryd.func16 rfl rfl ((f16_eq b0 b0n b0c v1 Q h).symm ▸ H)
/-! ### haversack/haversackref02.More: function 15 -/
def f15_ann : Ann := (.seq 3 (.region [(List.range 1, 3)]) (.seq 34 (.region [(List.range 3, 34)]) (.seq 32 (.seq 98 (.region [(List.range 1, 98)]) (.block (.loop 98 (.seq 98 (.seq 16482 (.region [(List.range 4, 16482)]) (.cond .leaf (.exit 32))) (.seq 98 (.block (.seq 98 (.region [(List.range 8, 98)]) (.seq 226 (.region [(List.range 1, 226)]) (.block (.loop 226 (.seq 226 (.seq 33554658 (.region [(List.range 2, 33554658)]) (.cond .leaf (.exit 98))) (.seq 226 (.block (.seq 482 (.region [(List.range 3, 482)]) (.seq 482 (.region [(List.range 3, 482)]) (.seq 8589934818 (.region [(List.range 2, 8589934818)]) (.cond (.region [(List.range 3, 226)]) .leaf))))) (.region [(List.range 3, 226)])))))))) (.region [(List.range 3, 98)])))))) (.seq 16 (.region [(List.range 3, 16)]) (.exit 16)))))
@[irreducible] def f15_X0 (r5 : Int) : Fr := (mkFr 0 38 [(5, (.int .u32 r5))])
@[irreducible] def f15_X2 (b1 : Option Addr) (b1n : Nat) (b1c : Nat) (r5 : Int) (i6 : Int) : Fr := (mkFr 0 38 [(1, (.slice b1 b1n b1c)), (5, (.int .u32 r5)), (6, (.int .i64 i6))])
@[irreducible] def f15_L11010 (n : Nat) (b1 : Option Addr) (b1n : Nat) (b1c : Nat) (r5 : Int) (i6 : Int) (K : Ex → Fr → Heap → Prop) (h : Heap) : Prop := loopN (fun fr K h => ev Tryd.prog true none (sub (bodyOf Tryd.f15) [1, 1, 0, 1, 0, 0]) (subA f15_ann [1, 1, 0, 1, 0, 0]) fr K h) 98 n (mkFr 0 38 [(1, (.slice b1 b1n b1c)), (5, (.int .u32 r5)), (6, (.int .i64 i6))]) K h
@[irreducible] def f15_B11010 (n : Nat) (K : Ex → Fr → Heap → Prop) : Ex → Fr → Heap → Prop := seqK (fun fr h => loopN (fun fr K h => ev Tryd.prog true none (sub (bodyOf Tryd.f15) [1, 1, 0, 1, 0, 0]) (subA f15_ann [1, 1, 0, 1, 0, 0]) fr K h) 98 n (fr.mask 98) K h) K
@[irreducible] def f15_K11 (Q : Value → Heap → Prop) : Ex → Fr → Heap → Prop := seqK (fun fr h => ev Tryd.prog true none (sub (bodyOf Tryd.f15) [1, 1, 1]) (subA f15_ann [1, 1, 1]) (fr.mask 32) (bodyK Tryd.prog Tryd.f15 Q) h) (bodyK Tryd.prog Tryd.f15 Q)
@[irreducible] def f15_K1101 (Q : Value → Heap → Prop) : Ex → Fr → Heap → Prop := blockK 0 (f15_K11 Q)
@[irreducible] def f15_K1101001 (n : Nat) (K : Ex → Fr → Heap → Prop) : Ex → Fr → Heap → Prop := seqK (fun fr h => ev Tryd.prog true none (sub (bodyOf Tryd.f15) [1, 1, 0, 1, 0, 0, 1, 1]) (subA f15_ann [1, 1, 0, 1, 0, 0, 1, 1]) (fr.mask 98) (f15_B11010 n K) h) (f15_B11010 n K)
@[irreducible] def f15_K11010010 (n : Nat) (K : Ex → Fr → Heap → Prop) : Ex → Fr → Heap → Prop := blockK 1 (f15_K1101001 n K)
@[irreducible] def f15_K11010010011 (n : Nat) (K : Ex → Fr → Heap → Prop) : Ex → Fr → Heap → Prop := blockK 2 (f15_K11010010 n K)
@[irreducible] def f15_L110100100110 (n : Nat) (b1 : Option Addr) (b1n : Nat) (b1c : Nat) (r5 : Int) (i6 : Int) (k7 : Int) (K : Ex → Fr → Heap → Prop) (h : Heap) : Prop := loopN (fun fr K h => ev Tryd.prog true none (sub (bodyOf Tryd.f15) [1, 1, 0, 1, 0, 0, 1, 0, 0, 1, 1, 0, 0]) (subA f15_ann [1, 1, 0, 1, 0, 0, 1, 0, 0, 1, 1, 0, 0]) fr K h) 226 n (mkFr 0 38 [(1, (.slice b1 b1n b1c)), (5, (.int .u32 r5)), (6, (.int .i64 i6)), (7, (.int .i64 k7))]) K h
@[irreducible] def f15_B110100100110 (n : Nat) (K : Ex → Fr → Heap → Prop) : Ex → Fr → Heap → Prop := seqK (fun fr h => loopN (fun fr K h => ev Tryd.prog true none (sub (bodyOf Tryd.f15) [1, 1, 0, 1, 0, 0, 1, 0, 0, 1, 1, 0, 0]) (subA f15_ann [1, 1, 0, 1, 0, 0, 1, 0, 0, 1, 1, 0, 0]) fr K h) 226 n (fr.mask 226) K h) K
@[irreducible] def f15_J110100100110011 (b1 : Option Addr) (b1n : Nat) (b1c : Nat) (r5 : Int) (i6 : Int) (k7 : Int) (n : Nat) (K : Ex → Fr → Heap → Prop) (h : Heap) : Prop := ev Tryd.prog true none (sub (bodyOf Tryd.f15) [1, 1, 0, 1, 0, 0, 1, 0, 0, 1, 1, 0, 0, 1, 1]) (subA f15_ann [1, 1, 0, 1, 0, 0, 1, 0, 0, 1, 1, 0, 0, 1, 1]) (mkFr 0 38 [(1, (.slice b1 b1n b1c)), (5, (.int .u32 r5)), (6, (.int .i64 i6)), (7, (.int .i64 k7))]) (f15_B110100100110 n K) h
theorem f15_L11010_eq (n : Nat) (b1 : Option Addr) (b1n : Nat) (b1c : Nat) (r5 : Int) (i6 : Int) (K : Ex → Fr → Heap → Prop) (h : Heap) : f15_L11010 (n + 1) b1 b1n b1c r5 i6 K h = (
 let t14 : Bool := decide (i6 < (b1n : Int))
 br t14 (
 hwp Tryd.prog (Instr.indexAt 23 (.slice b1 b1n b1c) (.int .i64 i6)) (fun v h1 => ∃ (t20 : Addr), v = (.pointer (some t20)) ∧
 ∃ (t21 : Int), cellH h1 t20 = some (.int .u8 t21) ∧
 let t22 : Int := IntKind.u32.wrap t21
 let t23 : Int := bXor .u32 r5 t22
 ∃ m, f15_L110100100110 m b1 b1n b1c t23 i6 0 (f15_K11010010011 n K) h1) h) (
 K (.exit 0) (f15_X0 r5) h)) := by kernel_rfl
theorem f15_at11010_X0 (Q : Value → Heap → Prop) (r5 : Int) (h : Heap) : (f15_K1101 Q) (.exit 0) (f15_X0 r5) h = (
 let t37 : Int := bXor .u32 IntKind.u32.max r5
 Q (.int .u32 t37) h) := by kernel_rfl
theorem f15_L110100100110_eq (n : Nat) (b1 : Option Addr) (b1n : Nat) (b1c : Nat) (r5 : Int) (i6 : Int) (k7 : Int) (K : Ex → Fr → Heap → Prop) (h : Heap) : f15_L110100100110 (n + 1) b1 b1n b1c r5 i6 k7 K h = (
 let t25 : Bool := decide (k7 < 8)
 br t25 (
 let t29 : Int := bAnd .u32 r5 1
 let t31 : Int := sShr .u32 r5 1
 let t33 : Bool := (t29 == 1)
 br t33 (
 let t35 : Int := bXor .u32 t31 3988292384
 f15_J110100100110011 b1 b1n b1c t35 i6 k7 n K h) (
 f15_J110100100110011 b1 b1n b1c t31 i6 k7 n K h)) (
 K (.exit 2) (f15_X2 b1 b1n b1c r5 i6) h)) := by kernel_rfl
theorem f15_at110100100110_X2 (n : Nat) (K : Ex → Fr → Heap → Prop) (b1 : Option Addr) (b1n : Nat) (b1c : Nat) (r5 : Int) (i6 : Int) (h : Heap) : (f15_K11010010011 n K) (.exit 2) (f15_X2 b1 b1n b1c r5 i6) h = (
 let t16 : Int := IntKind.i64.wrap (i6 + 1)
 f15_L11010 n b1 b1n b1c r5 t16 K h) := by kernel_rfl
theorem f15_J110100100110011_eq (b1 : Option Addr) (b1n : Nat) (b1c : Nat) (r5 : Int) (i6 : Int) (k7 : Int) (n : Nat) (K : Ex → Fr → Heap → Prop) (h : Heap) : f15_J110100100110011 b1 b1n b1c r5 i6 k7 n K h = (
 let t27 : Int := IntKind.i64.wrap (k7 + 1)
 f15_L110100100110 n b1 b1n b1c r5 i6 t27 K h) := by kernel_rfl
def f15_main (sum0 : Int) (b1 : Option Addr) (b1n : Nat) (b1c : Nat) (Q : Value → Heap → Prop) (h : Heap) : Prop :=
 let t10 : Int := bXor .u32 IntKind.u32.max sum0
 ∃ m, f15_L11010 m b1 b1n b1c t10 0 (f15_K1101 Q) h
theorem f15_eq (sum0 : Int) (b1 : Option Addr) (b1n : Nat) (b1c : Nat) (Q : Value → Heap → Prop) (h : Heap) : ev Tryd.prog true none (bodyOf Tryd.f15) f15_ann (initFr 38 [(.int .u32 sum0), (.slice b1 b1n b1c)]) (bodyK Tryd.prog Tryd.f15 Q) h = f15_main sum0 b1 b1n b1c Q h := by kernel_rfl
theorem f15_door {sum0 : Int} {b1 : Option Addr} {b1n : Nat} {b1c : Nat} {Q : Value → Heap → Prop} {h : Heap} (H : f15_main sum0 b1 b1n b1c Q h) : SpecH Tryd.prog 15 [(.int .u32 sum0), (.slice b1 b1n b1c)] h Q :=
   spec_of_ev Tryd.func15 rfl rfl ((f15_eq sum0 b1 b1n b1c Q h).symm ▸ H)
/-! ### haversack/haversackref02.Sum: function 14 -/
def f14_ann : Ann := (.seq 1 (.region [(List.range 1, 1)]) (.seq 4 (.region [(List.range 3, 4)]) (.exit 4)))
def f14_main (b0 : Option Addr) (b0n : Nat) (b0c : Nat) (Q : Value → Heap → Prop) (h : Heap) : Prop :=
 SpecH Tryd.prog 15 [(.int .u32 0), (.slice b0 b0n b0c)] h (fun v h1 => ∃ (t4 : Int), v = (.int .u32 t4) ∧
 Q (.int .u32 t4) h1)
theorem f14_eq (b0 : Option Addr) (b0n : Nat) (b0c : Nat) (Q : Value → Heap → Prop) (h : Heap) : ev Tryd.prog true none (bodyOf Tryd.f14) f14_ann (initFr 5 [(.slice b0 b0n b0c)]) (bodyK Tryd.prog Tryd.f14 Q) h = f14_main b0 b0n b0c Q h := by kernel_rfl
theorem f14_door {b0 : Option Addr} {b0n : Nat} {b0c : Nat} {Q : Value → Heap → Prop} {h : Heap} (H : f14_main b0 b0n b0c Q h) : SpecH Tryd.prog 14 [(.slice b0 b0n b0c)] h Q :=
   spec_of_ev Tryd.func14 rfl rfl ((f14_eq b0 b0n b0c Q h).symm ▸ H)
/-! ### haversack/haversacklaw02.back: function 13 -/
def f13_ann : Ann := (.seq 3 (.region [(List.range 1, 3)]) (.seq 35 (.region [(List.range 6, 35)]) (.seq 96 (.region [(List.range 12, 96)]) (.seq 64 (.seq 224 (.region [(List.range 1, 224)]) (.block (.loop 224 (.seq 224 (.seq 134217952 (.region [(List.range 4, 134217952)]) (.cond .leaf (.exit 64))) (.seq 224 (.block (.region [(List.range 4, 224)])) (.region [(List.range 3, 224)])))))) (.seq 16 (.region [(List.range 2, 16)]) (.exit 16))))))
@[irreducible] def f13_X0 (ok6 : Bool) : Fr := (mkFr 0 34 [(6, (.bool ok6))])
@[irreducible] def f13_J111 (all5 : Option Addr) (all5n : Nat) (all5c : Nat) (ok6 : Bool) (Q : Value → Heap → Prop) (h : Heap) : Prop := ev Tryd.prog true none (sub (bodyOf Tryd.f13) [1, 1, 1]) (subA f13_ann [1, 1, 1]) (mkFr 0 34 [(5, (.slice all5 all5n all5c)), (6, (.bool ok6))]) (bodyK Tryd.prog Tryd.f13 Q) h
@[irreducible] def f13_K111 (Q : Value → Heap → Prop) : Ex → Fr → Heap → Prop := seqK (fun fr h => ev Tryd.prog true none (sub (bodyOf Tryd.f13) [1, 1, 1, 1]) (subA f13_ann [1, 1, 1, 1]) (fr.mask 64) (bodyK Tryd.prog Tryd.f13 Q) h) (bodyK Tryd.prog Tryd.f13 Q)
@[irreducible] def f13_K11101 (Q : Value → Heap → Prop) : Ex → Fr → Heap → Prop := blockK 0 (f13_K111 Q)
@[irreducible] def f13_L111010 (n : Nat) (all5 : Option Addr) (all5n : Nat) (all5c : Nat) (ok6 : Bool) (i7 : Int) (K : Ex → Fr → Heap → Prop) (h : Heap) : Prop := loopN (fun fr K h => ev Tryd.prog true none (sub (bodyOf Tryd.f13) [1, 1, 1, 0, 1, 0, 0]) (subA f13_ann [1, 1, 1, 0, 1, 0, 0]) fr K h) 224 n (mkFr 0 34 [(5, (.slice all5 all5n all5c)), (6, (.bool ok6)), (7, (.int .i64 i7))]) K h
@[irreducible] def f13_B111010 (n : Nat) (K : Ex → Fr → Heap → Prop) : Ex → Fr → Heap → Prop := seqK (fun fr h => loopN (fun fr K h => ev Tryd.prog true none (sub (bodyOf Tryd.f13) [1, 1, 1, 0, 1, 0, 0]) (subA f13_ann [1, 1, 1, 0, 1, 0, 0]) fr K h) 224 n (fr.mask 224) K h) K
theorem f13_J111_eq (all5 : Option Addr) (all5n : Nat) (all5c : Nat) (ok6 : Bool) (Q : Value → Heap → Prop) (h : Heap) : f13_J111 all5 all5n all5c ok6 Q h = (
 ∃ m, f13_L111010 m all5 all5n all5c ok6 0 (f13_K11101 Q) h) := by kernel_rfl
theorem f13_L111010_eq (n : Nat) (all5 : Option Addr) (all5n : Nat) (all5c : Nat) (ok6 : Bool) (i7 : Int) (K : Ex → Fr → Heap → Prop) (h : Heap) : f13_L111010 (n + 1) all5 all5n all5c ok6 i7 K h = (
 let t27 : Bool := decide (i7 < (all5n : Int))
 br t27 (
 hwp Tryd.prog (Instr.indexAt 23 (.slice all5 all5n all5c) (.int .i64 i7)) (fun v h1 => ∃ (t32 : Addr), v = (.pointer (some t32)) ∧
 wr t32 (.int .u8 55) (fun h2 =>
 let t29 : Int := IntKind.i64.wrap (i7 + 1)
 f13_L111010 n all5 all5n all5c ok6 t29 K h2) h1) h) (
 K (.exit 0) (f13_X0 ok6) h)) := by kernel_rfl
theorem f13_at111010_X0 (Q : Value → Heap → Prop) (ok6 : Bool) (h : Heap) : (f13_K11101 Q) (.exit 0) (f13_X0 ok6) h = (
 Q (.bool ok6) h) := by kernel_rfl
def f13_main (x0 : Option Addr) (x0n : Nat) (x0c : Nat) (b1 : Option Addr) (b1n : Nat) (b1c : Nat) (Q : Value → Heap → Prop) (h : Heap) : Prop :=
 let t11 : Int := IntKind.i64.wrap ((b1n : Int) + 1)
 hwp Tryd.prog (Instr.sliceAt 23 (.slice x0 x0n x0c) none (some (.int .i64 t11)) none) (fun v h1 => ∃ (t12 : Option Addr) (t12n : Nat) (t12c : Nat), v = (.slice t12 t12n t12c) ∧
 hwp Tryd.prog (Instr.indexAt 23 (.slice t12 t12n t12c) (.int .i64 (b1n : Int))) (fun v_1 h2 => ∃ (t16 : Addr), v_1 = (.pointer (some t16)) ∧
 ∃ (t17 : Int), cellH h2 t16 = some (.int .u8 t17) ∧
 let t18 : Bool := (t17 == 99)
 br t18 (
 SpecH Tryd.prog 19 [(.slice x0 x0n x0c), (.slice b1 b1n b1c)] h2 (fun v_2 h3 => ∃ (t22 : Bool), v_2 = (.bool t22) ∧
 f13_J111 t12 t12n t12c t22 Q h3)) (
 f13_J111 t12 t12n t12c false Q h2)) h1) h
theorem f13_eq (x0 : Option Addr) (x0n : Nat) (x0c : Nat) (b1 : Option Addr) (b1n : Nat) (b1c : Nat) (Q : Value → Heap → Prop) (h : Heap) : ev Tryd.prog true none (bodyOf Tryd.f13) f13_ann (initFr 34 [(.slice x0 x0n x0c), (.slice b1 b1n b1c)]) (bodyK Tryd.prog Tryd.f13 Q) h = f13_main x0 x0n x0c b1 b1n b1c Q h := by kernel_rfl
theorem f13_door {x0 : Option Addr} {x0n : Nat} {x0c : Nat} {b1 : Option Addr} {b1n : Nat} {b1c : Nat} {Q : Value → Heap → Prop} {h : Heap} (H : f13_main x0 x0n x0c b1 b1n b1c Q h) : SpecH Tryd.prog 13 [(.slice x0 x0n x0c), (.slice b1 b1n b1c)] h Q :=
   spec_of_ev Tryd.func13 rfl rfl ((f13_eq x0 x0n x0c b1 b1n b1c Q h).symm ▸ H)
/-! ### haversack/little.More: function 12 -/
def f12_ann : Ann := (.seq 3 (.region [(List.range 1, 3)]) (.seq 34 (.region [(List.range 3, 34)]) (.seq 32 (.seq 7200 (.region [(List.range 3, 7200)]) (.block (.loop 7200 (.seq 15392 (.region [(List.range 1, 15392)]) (.seq 7200 (.cond .leaf (.exit 32)) (.seq 7200 (.block (.seq 7328 (.region [(List.range 3, 7328)]) (.seq 7200 (.region [(List.range 5, 7200)]) (.seq 7200 (.region [(List.range 8, 7200)]) (.region [(List.range 8, 7200)]))))) (.region [(List.range 2, 7200)]))))))) (.seq 16 (.region [(List.range 3, 16)]) (.exit 16)))))
@[irreducible] def f12_X0 (r5 : Int) : Fr := (mkFr 0 37 [(5, (.int .u32 r5))])
@[irreducible] def f12_L11010 (n : Nat) (r5 : Int) (t10 : Option Addr) (t10n : Nat) (t10c : Nat) (t11 : Int) (t12 : Int) (K : Ex → Fr → Heap → Prop) (h : Heap) : Prop := loopN (fun fr K h => ev Tryd.prog true none (sub (bodyOf Tryd.f12) [1, 1, 0, 1, 0, 0]) (subA f12_ann [1, 1, 0, 1, 0, 0]) fr K h) 7200 n (mkFr 0 37 [(5, (.int .u32 r5)), (10, (.slice t10 t10n t10c)), (11, (.int .i64 t11)), (12, (.int .i64 t12))]) K h
@[irreducible] def f12_B11010 (n : Nat) (K : Ex → Fr → Heap → Prop) : Ex → Fr → Heap → Prop := seqK (fun fr h => loopN (fun fr K h => ev Tryd.prog true none (sub (bodyOf Tryd.f12) [1, 1, 0, 1, 0, 0]) (subA f12_ann [1, 1, 0, 1, 0, 0]) fr K h) 7200 n (fr.mask 7200) K h) K
@[irreducible] def f12_K11 (Q : Value → Heap → Prop) : Ex → Fr → Heap → Prop := seqK (fun fr h => ev Tryd.prog true none (sub (bodyOf Tryd.f12) [1, 1, 1]) (subA f12_ann [1, 1, 1]) (fr.mask 32) (bodyK Tryd.prog Tryd.f12 Q) h) (bodyK Tryd.prog Tryd.f12 Q)
@[irreducible] def f12_K1101 (Q : Value → Heap → Prop) : Ex → Fr → Heap → Prop := blockK 0 (f12_K11 Q)
theorem f12_L11010_eq (n : Nat) (r5 : Int) (t10 : Option Addr) (t10n : Nat) (t10c : Nat) (t11 : Int) (t12 : Int) (K : Ex → Fr → Heap → Prop) (h : Heap) : f12_L11010 (n + 1) r5 t10 t10n t10c t11 t12 K h = (
 let t13 : Bool := decide (t12 < t11)
 br t13 (
 hwp Tryd.prog (Instr.indexAt 23 (.slice t10 t10n t10c) (.int .i64 t12)) (fun v h1 => ∃ (t14 : Addr), v = (.pointer (some t14)) ∧
 ∃ (t15 : Int), cellH h1 t14 = some (.int .u8 t15) ∧
 let t18 : Int := IntKind.u32.wrap t15
 let t19 : Int := bXor .u32 r5 t18
 let t21 : Int := sShr .u32 t19 4
 let t23 : Int := bAnd .u32 t19 15
 hwp Tryd.prog (Instr.indexAt 48 (.pointer (some ⟨0, 0, none⟩)) (.int .u32 t23)) (fun v_1 h2 => ∃ (t24 : Addr), v_1 = (.pointer (some t24)) ∧
 ∃ (t25 : Int), cellH h2 t24 = some (.int .u32 t25) ∧
 let t26 : Int := bXor .u32 t21 t25
 let t28 : Int := sShr .u32 t26 4
 let t30 : Int := bAnd .u32 t26 15
 hwp Tryd.prog (Instr.indexAt 48 (.pointer (some ⟨0, 0, none⟩)) (.int .u32 t30)) (fun v_2 h3 => ∃ (t31 : Addr), v_2 = (.pointer (some t31)) ∧
 ∃ (t32 : Int), cellH h3 t31 = some (.int .u32 t32) ∧
 let t33 : Int := bXor .u32 t28 t32
 let t34 : Int := IntKind.i64.wrap (t12 + 1)
 f12_L11010 n t33 t10 t10n t10c t11 t34 K h3) h2) h1) h) (
 K (.exit 0) (f12_X0 r5) h)) := by kernel_rfl
theorem f12_at11010_X0 (Q : Value → Heap → Prop) (r5 : Int) (h : Heap) : (f12_K1101 Q) (.exit 0) (f12_X0 r5) h = (
 let t36 : Int := bXor .u32 IntKind.u32.max r5
 Q (.int .u32 t36) h) := by kernel_rfl
def f12_main (sum0 : Int) (b1 : Option Addr) (b1n : Nat) (b1c : Nat) (Q : Value → Heap → Prop) (h : Heap) : Prop :=
 let t9 : Int := bXor .u32 IntKind.u32.max sum0
 ∃ m, f12_L11010 m t9 b1 b1n b1c (b1n : Int) 0 (f12_K1101 Q) h
theorem f12_eq (sum0 : Int) (b1 : Option Addr) (b1n : Nat) (b1c : Nat) (Q : Value → Heap → Prop) (h : Heap) : ev Tryd.prog true none (bodyOf Tryd.f12) f12_ann (initFr 37 [(.int .u32 sum0), (.slice b1 b1n b1c)]) (bodyK Tryd.prog Tryd.f12 Q) h = f12_main sum0 b1 b1n b1c Q h := by kernel_rfl
theorem f12_door {sum0 : Int} {b1 : Option Addr} {b1n : Nat} {b1c : Nat} {Q : Value → Heap → Prop} {h : Heap} (H : f12_main sum0 b1 b1n b1c Q h) : SpecH Tryd.prog 12 [(.int .u32 sum0), (.slice b1 b1n b1c)] h Q :=
   spec_of_ev Tryd.func12 rfl rfl ((f12_eq sum0 b1 b1n b1c Q h).symm ▸ H)
/-! ### haversack/little.Sum: function 11 -/
def f11_ann : Ann := (.seq 1 (.region [(List.range 1, 1)]) (.seq 4 (.region [(List.range 3, 4)]) (.exit 4)))
def f11_main (b0 : Option Addr) (b0n : Nat) (b0c : Nat) (Q : Value → Heap → Prop) (h : Heap) : Prop :=
 SpecH Tryd.prog 12 [(.int .u32 0), (.slice b0 b0n b0c)] h (fun v h1 => ∃ (t4 : Int), v = (.int .u32 t4) ∧
 Q (.int .u32 t4) h1)
theorem f11_eq (b0 : Option Addr) (b0n : Nat) (b0c : Nat) (Q : Value → Heap → Prop) (h : Heap) : ev Tryd.prog true none (bodyOf Tryd.f11) f11_ann (initFr 5 [(.slice b0 b0n b0c)]) (bodyK Tryd.prog Tryd.f11 Q) h = f11_main b0 b0n b0c Q h := by kernel_rfl
theorem f11_door {b0 : Option Addr} {b0n : Nat} {b0c : Nat} {Q : Value → Heap → Prop} {h : Heap} (H : f11_main b0 b0n b0c Q h) : SpecH Tryd.prog 11 [(.slice b0 b0n b0c)] h Q :=
   spec_of_ev Tryd.func11 rfl rfl ((f11_eq b0 b0n b0c Q h).symm ▸ H)
/-! ### haversack/haversacklaw02.lent: function 10 -/
def f10_ann : Ann := (.seq 1 (.region [(List.range 1, 1)]) (.seq 9 (.region [(List.range 5, 9)]) (.seq 9 (.region [(List.range 3, 9)]) (.seq 9 (.region [(List.range 5, 9)]) (.seq 4 (.region [(List.range 5, 4)]) (.exit 4))))))
def f10_main (b0 : Option Addr) (b0n : Nat) (b0c : Nat) (Q : Value → Heap → Prop) (h : Heap) : Prop :=
 let t6 : Int := IntKind.i64.wrap ((b0n : Int) + 1)
 hwp Tryd.prog (Instr.makeSlice 23 (.int .i64 t6) (.int .i64 t6)) (fun v h1 => ∃ (t7 : Option Addr) (t7n : Nat) (t7c : Nat), v = (.slice t7 t7n t7c) ∧
 hwp Tryd.prog (Builtin.copy_ #[23, 23] 3 #[(.slice t7 t7n t7c), (.slice b0 b0n b0c)]) (fun v_1 h2 => ∃ (t10 : Int), v_1 = (.int .i64 t10) ∧
 hwp Tryd.prog (Instr.indexAt 23 (.slice t7 t7n t7c) (.int .i64 (b0n : Int))) (fun v_2 h3 => ∃ (t14 : Addr), v_2 = (.pointer (some t14)) ∧
 wr t14 (.int .u8 99) (fun h4 =>
 hwp Tryd.prog (Instr.sliceAt 23 (.slice t7 t7n t7c) none (some (.int .i64 (b0n : Int))) none) (fun v_3 h5 => ∃ (t18 : Option Addr) (t18n : Nat) (t18c : Nat), v_3 = (.slice t18 t18n t18c) ∧
 Q (.slice t18 t18n t18c) h5) h4) h3) h2) h1) h
theorem f10_eq (b0 : Option Addr) (b0n : Nat) (b0c : Nat) (Q : Value → Heap → Prop) (h : Heap) : ev Tryd.prog true none (bodyOf Tryd.f10) f10_ann (initFr 19 [(.slice b0 b0n b0c)]) (bodyK Tryd.prog Tryd.f10 Q) h = f10_main b0 b0n b0c Q h := by kernel_rfl
theorem f10_door {b0 : Option Addr} {b0n : Nat} {b0c : Nat} {Q : Value → Heap → Prop} {h : Heap} (H : f10_main b0 b0n b0c Q h) : SpecH Tryd.prog 10 [(.slice b0 b0n b0c)] h Q :=
   spec_of_ev Tryd.func10 rfl rfl ((f10_eq b0 b0n b0c Q h).symm ▸ H)
/-! ### haversack/haversacklaw02.awake: function 9 -/
def f9_ann : Ann := (.seq 0 (.region [(List.range 1, 0)]) (.seq 2 (.region [(List.range 3, 2)]) (.seq 6 (.region [(List.range 2, 6)]) (.seq 30 (.region [(List.range 7, 30)]) (.seq 94 (.region [(List.range 7, 94)]) (.seq 1 (.region [(List.range 36, 1)]) (.exit 1)))))))
def f9_main  (Q : Value → Heap → Prop) (h : Heap) : Prop :=
 let h1 : Heap := Array.push h (.cells #[(.int .u8 7)] 5 (0, 0))
 SpecH Tryd.prog 16 [(.slice (some ⟨Array.size h, 0, none⟩) 1 1), (.int .u16 258)] h1 (fun v h2 => ∃ (t8 : Option Addr) (t8n : Nat) (t8c : Nat), v = (.slice t8 t8n t8c) ∧
 SpecH Tryd.prog 17 [(.slice none 0 0), (.int .u32 1)] h2 (fun v_1 h3 => ∃ (t9 : Option Addr) (t9n : Nat) (t9c : Nat), v_1 = (.slice t9 t9n t9c) ∧
 SpecH Tryd.prog 21 [(.slice t8 t8n t8c), (.int .i64 1)] h3 (fun v_2 h4 => ∃ (t12 : Int) (t12_1 : Int), v_2 = (.tuple #[(.int .u16 t12), (.int .i64 t12_1)]) ∧
 SpecH Tryd.prog 21 [(.slice t8 t8n t8c), (.int .i64 2)] h4 (fun v_3 h5 => ∃ (t17 : Int) (t17_1 : Int), v_3 = (.tuple #[(.int .u16 t17), (.int .i64 t17_1)]) ∧
 let h6 : Heap := Array.push h5 (.cells #[(.int .u8 7), (.int .u8 2), (.int .u8 1)] 5 (0, 0))
 SpecH Tryd.prog 19 [(.slice t8 t8n t8c), (.slice (some ⟨Array.size h5, 0, none⟩) 3 3)] h6 (fun v_4 h7 => ∃ (t22 : Bool), v_4 = (.bool t22) ∧
 br t22 (
 let h8 : Heap := Array.push h7 (.cells #[(.int .u8 1), (.int .u8 0), (.int .u8 0), (.int .u8 0)] 5 (0, 0))
 SpecH Tryd.prog 19 [(.slice t9 t9n t9c), (.slice (some ⟨Array.size h7, 0, none⟩) 4 4)] h8 (fun v_5 h9 => ∃ (t26 : Bool), v_5 = (.bool t26) ∧
 br t26 (
 let t30 : Bool := (t12 == 258)
 br t30 (
 let t34 : Bool := (t12_1 == 0)
 br t34 (
 let t38 : Bool := (t17_1 == 20)
 br t38 (
 let h10 : Heap := Array.push h9 (.cells #[(.int .u8 49), (.int .u8 50), (.int .u8 51), (.int .u8 52), (.int .u8 53), (.int .u8 54), (.int .u8 55), (.int .u8 56), (.int .u8 57)] 5 (0, 0))
 hwp Tryd.prog (Go.convert 23 23 (.slice (some ⟨Array.size h9, 0, none⟩) 9 9)) (fun v_6 h11 => ∃ (t42 : Option Addr) (t42n : Nat) (t42c : Nat), v_6 = (.slice t42 t42n t42c) ∧
 SpecH Tryd.prog 11 [(.slice t42 t42n t42c)] h11 (fun v_7 h12 => ∃ (t43 : Int), v_7 = (.int .u32 t43) ∧
 let t44 : Bool := (t43 == 3421780262)
 br t44 (
 let h13 : Heap := Array.push h12 (.cells #[(.int .u8 49), (.int .u8 50), (.int .u8 51), (.int .u8 52)] 5 (0, 0))
 hwp Tryd.prog (Go.convert 23 23 (.slice (some ⟨Array.size h12, 0, none⟩) 4 4)) (fun v_8 h14 => ∃ (t48 : Option Addr) (t48n : Nat) (t48c : Nat), v_8 = (.slice t48 t48n t48c) ∧
 SpecH Tryd.prog 11 [(.slice t48 t48n t48c)] h14 (fun v_9 h15 => ∃ (t49 : Int), v_9 = (.int .u32 t49) ∧
 let h16 : Heap := Array.push h15 (.cells #[(.int .u8 53), (.int .u8 54), (.int .u8 55), (.int .u8 56), (.int .u8 57)] 5 (0, 0))
 hwp Tryd.prog (Go.convert 23 23 (.slice (some ⟨Array.size h15, 0, none⟩) 5 5)) (fun v_10 h17 => ∃ (t51 : Option Addr) (t51n : Nat) (t51c : Nat), v_10 = (.slice t51 t51n t51c) ∧
 SpecH Tryd.prog 12 [(.int .u32 t49), (.slice t51 t51n t51c)] h17 (fun v_11 h18 => ∃ (t52 : Int), v_11 = (.int .u32 t52) ∧
 let t53 : Bool := (t52 == 3421780262)
 Q (.bool t53) h18)) h16)) h13) (
 Q (.bool false) h12))) h10) (
 Q (.bool false) h9)) (
 Q (.bool false) h9)) (
 Q (.bool false) h9)) (
 Q (.bool false) h9))) (
 Q (.bool false) h7))))))
theorem f9_eq  (Q : Value → Heap → Prop) (h : Heap) : ev Tryd.prog true none (bodyOf Tryd.f9) f9_ann (initFr 55 []) (bodyK Tryd.prog Tryd.f9 Q) h = f9_main  Q h := by kernel_rfl
theorem f9_door  {Q : Value → Heap → Prop} {h : Heap} (H : f9_main  Q h) : SpecH Tryd.prog 9 [] h Q :=
   spec_of_ev Tryd.func9 rfl rfl ((f9_eq  Q h).symm ▸ H)
/-! ### haversack/haversacklaw02.LittleRound: function 8 -/
def f8_ann : Ann := (.seq 3 (.region [(List.range 1, 3)]) (.seq 3 (.seq 65539 (.region [(List.range 3, 65539)]) (.cond (.seq 16 (.region [(List.range 2, 16)]) (.exit 16)) .leaf)) (.seq 35 (.region [(List.range 10, 35)]) (.seq 227 (.region [(List.range 9, 227)]) (.seq 995 (.region [(List.range 10, 995)]) (.seq 4067 (.region [(List.range 10, 4067)]) (.seq 12259 (.region [(List.range 10, 12259)]) (.seq 12226 (.seq 4722366482869645225922 (.region [(List.range 15, 4722366482869645225922)]) (.cond (.seq 16 (.region [(List.range 1, 16)]) (.exit 16)) .leaf)) (.seq 16 (.region [(List.range 35, 16)]) (.exit 16))))))))))
@[irreducible] def f8_K1111111 (Q : Value → Heap → Prop) : Ex → Fr → Heap → Prop := seqK (fun fr h => ev Tryd.prog true none (sub (bodyOf Tryd.f8) [1, 1, 1, 1, 1, 1, 1, 1]) (subA f8_ann [1, 1, 1, 1, 1, 1, 1, 1]) (fr.mask 12226) (bodyK Tryd.prog Tryd.f8 Q) h) (bodyK Tryd.prog Tryd.f8 Q)
@[irreducible] def f8_J111111101 (v1 : Int) (p6 : Int) (e7 : Int) (q8 : Int) (f9 : Int) (r10 : Int) (g11 : Int) (h13 : Int) (t72 : Bool) (Q : Value → Heap → Prop) (h : Heap) : Prop := ev Tryd.prog true none (sub (bodyOf Tryd.f8) [1, 1, 1, 1, 1, 1, 1, 0, 1]) (subA f8_ann [1, 1, 1, 1, 1, 1, 1, 0, 1]) (mkFr 0 107 [(1, (.int .u64 v1)), (6, (.int .u16 p6)), (7, (.int .i64 e7)), (8, (.int .u32 q8)), (9, (.int .i64 f9)), (10, (.int .u64 r10)), (11, (.int .i64 g11)), (13, (.int .i64 h13)), (72, (.bool t72))]) (f8_K1111111 Q) h
theorem f8_J111111101_eq (v1 : Int) (p6 : Int) (e7 : Int) (q8 : Int) (f9 : Int) (r10 : Int) (g11 : Int) (h13 : Int) (t72 : Bool) (Q : Value → Heap → Prop) (h : Heap) : f8_J111111101 v1 p6 e7 q8 f9 r10 g11 h13 t72 Q h = (
 br t72 (
 Q (.bool false) h) (
 SpecH Tryd.prog 9 [] h (fun v h1 => ∃ (t73 : Bool), v = (.bool t73) ∧
 br t73 (
 let t76 : Bool := (e7 == 0)
 br t76 (
 let t80 : Bool := (f9 == 0)
 br t80 (
 let t84 : Bool := (g11 == 0)
 br t84 (
 let t88 : Bool := (h13 == 20)
 br t88 (
 let t93 : Int := IntKind.u16.wrap v1
 let t94 : Bool := (p6 == t93)
 br t94 (
 let t99 : Int := IntKind.u32.wrap v1
 let t100 : Bool := (q8 == t99)
 br t100 (
 let t105 : Bool := (r10 == v1)
 Q (.bool t105) h1) (
 Q (.bool false) h1)) (
 Q (.bool false) h1)) (
 Q (.bool false) h1)) (
 Q (.bool false) h1)) (
 Q (.bool false) h1)) (
 Q (.bool false) h1)) (
 Q (.bool false) h1)))) := by kernel_rfl
def f8_main (b0 : Option Addr) (b0n : Nat) (b0c : Nat) (v1 : Int) (Q : Value → Heap → Prop) (h : Heap) : Prop :=
 let t16 : Bool := decide ((b0n : Int) > 16777216)
 br t16 (
 SpecH Tryd.prog 9 [] h (fun v h1 => ∃ (t17 : Bool), v = (.bool t17) ∧
 Q (.bool t17) h1)) (
 let t20 : Int := IntKind.u16.wrap v1
 SpecH Tryd.prog 16 [(.slice b0 b0n b0c), (.int .u16 t20)] h (fun v_1 h2 => ∃ (t21 : Option Addr) (t21n : Nat) (t21c : Nat), v_1 = (.slice t21 t21n t21c) ∧
 let t23 : Int := IntKind.u32.wrap v1
 SpecH Tryd.prog 17 [(.slice t21 t21n t21c), (.int .u32 t23)] h2 (fun v_2 h3 => ∃ (t24 : Option Addr) (t24n : Nat) (t24c : Nat), v_2 = (.slice t24 t24n t24c) ∧
 SpecH Tryd.prog 18 [(.slice t24 t24n t24c), (.int .u64 v1)] h3 (fun v_3 h4 => ∃ (t26 : Option Addr) (t26n : Nat) (t26c : Nat), v_3 = (.slice t26 t26n t26c) ∧
 SpecH Tryd.prog 21 [(.slice t26 t26n t26c), (.int .i64 (b0n : Int))] h4 (fun v_4 h5 => ∃ (t31 : Int) (t31_1 : Int), v_4 = (.tuple #[(.int .u16 t31), (.int .i64 t31_1)]) ∧
 let t38 : Int := IntKind.i64.wrap ((b0n : Int) + 2)
 SpecH Tryd.prog 22 [(.slice t26 t26n t26c), (.int .i64 t38)] h5 (fun v_5 h6 => ∃ (t39 : Int) (t39_1 : Int), v_5 = (.tuple #[(.int .u32 t39), (.int .i64 t39_1)]) ∧
 let t46 : Int := IntKind.i64.wrap ((b0n : Int) + 6)
 SpecH Tryd.prog 23 [(.slice t26 t26n t26c), (.int .i64 t46)] h6 (fun v_6 h7 => ∃ (t47 : Int) (t47_1 : Int), v_6 = (.tuple #[(.int .u64 t47), (.int .i64 t47_1)]) ∧
 let t54 : Int := IntKind.i64.wrap ((b0n : Int) + 7)
 SpecH Tryd.prog 23 [(.slice t26 t26n t26c), (.int .i64 t54)] h7 (fun v_7 h8 => ∃ (t55 : Int) (t55_1 : Int), v_7 = (.tuple #[(.int .u64 t55), (.int .i64 t55_1)]) ∧
 let t62 : Int := IntKind.i64.wrap ((b0n : Int) + 14)
 let t63 : Bool := ((t26n : Int) != t62)
 br t63 (
 f8_J111111101 v1 t31 t31_1 t39 t39_1 t47 t47_1 t55_1 true Q h8) (
 hwp Tryd.prog (Instr.sliceAt 23 (.slice t26 t26n t26c) none (some (.int .i64 (b0n : Int))) none) (fun v_8 h9 => ∃ (t68 : Option Addr) (t68n : Nat) (t68c : Nat), v_8 = (.slice t68 t68n t68c) ∧
 SpecH Tryd.prog 19 [(.slice t68 t68n t68c), (.slice b0 b0n b0c)] h9 (fun v_9 h10 => ∃ (t70 : Bool), v_9 = (.bool t70) ∧
 let t71 : Bool := (!t70)
 f8_J111111101 v1 t31 t31_1 t39 t39_1 t47 t47_1 t55_1 t71 Q h10)) h8)))))))))
theorem f8_eq (b0 : Option Addr) (b0n : Nat) (b0c : Nat) (v1 : Int) (Q : Value → Heap → Prop) (h : Heap) : ev Tryd.prog true none (bodyOf Tryd.f8) f8_ann (initFr 107 [(.slice b0 b0n b0c), (.int .u64 v1)]) (bodyK Tryd.prog Tryd.f8 Q) h = f8_main b0 b0n b0c v1 Q h := by kernel_rfl
theorem f8_door {b0 : Option Addr} {b0n : Nat} {b0c : Nat} {v1 : Int} {Q : Value → Heap → Prop} {h : Heap} (H : f8_main b0 b0n b0c v1 Q h) : SpecH Tryd.prog 8 [(.slice b0 b0n b0c), (.int .u64 v1)] h Q :=
   spec_of_ev Tryd.func8 rfl rfl ((f8_eq b0 b0n b0c v1 Q h).symm ▸ H)
/-! ### haversack/haversacklaw02.LittleGets: function 7 -/
def f7_ann : Ann := (.seq 3 (.region [(List.range 1, 3)]) (.seq 3 (.seq 2097155 (.region [(List.range 3, 2097155)]) (.cond (.seq 16 (.region [(List.range 2, 16)]) (.exit 16)) .leaf)) (.seq 35 (.region [(List.range 3, 35)]) (.seq 227 (.region [(List.range 8, 227)]) (.seq 995 (.region [(List.range 8, 995)]) (.seq 4067 (.region [(List.range 8, 4067)]) (.seq 8131 (.region [(List.range 4, 8131)]) (.seq 32707 (.region [(List.range 8, 32707)]) (.seq 131011 (.region [(List.range 8, 131011)]) (.seq 524224 (.region [(List.range 8, 524224)]) (.seq 16 (.region [(List.range 37, 16)]) (.exit 16))))))))))))
def f7_main (b0 : Option Addr) (b0n : Nat) (b0c : Nat) (at1 : Int) (Q : Value → Heap → Prop) (h : Heap) : Prop :=
 let t21 : Bool := decide ((b0n : Int) > 16777216)
 br t21 (
 SpecH Tryd.prog 9 [] h (fun v h1 => ∃ (t22 : Bool), v = (.bool t22) ∧
 Q (.bool t22) h1)) (
 SpecH Tryd.prog 10 [(.slice b0 b0n b0c)] h (fun v_1 h2 => ∃ (t24 : Option Addr) (t24n : Nat) (t24c : Nat), v_1 = (.slice t24 t24n t24c) ∧
 SpecH Tryd.prog 21 [(.slice t24 t24n t24c), (.int .i64 at1)] h2 (fun v_2 h3 => ∃ (t28 : Int) (t28_1 : Int), v_2 = (.tuple #[(.int .u16 t28), (.int .i64 t28_1)]) ∧
 SpecH Tryd.prog 22 [(.slice t24 t24n t24c), (.int .i64 at1)] h3 (fun v_3 h4 => ∃ (t34 : Int) (t34_1 : Int), v_3 = (.tuple #[(.int .u32 t34), (.int .i64 t34_1)]) ∧
 SpecH Tryd.prog 23 [(.slice t24 t24n t24c), (.int .i64 at1)] h4 (fun v_4 h5 => ∃ (t40 : Int) (t40_1 : Int), v_4 = (.tuple #[(.int .u64 t40), (.int .i64 t40_1)]) ∧
 SpecH Tryd.prog 13 [(.slice t24 t24n t24c), (.slice b0 b0n b0c)] h5 (fun v_5 h6 => ∃ (t45 : Bool), v_5 = (.bool t45) ∧
 SpecH Tryd.prog 24 [(.slice b0 b0n b0c), (.int .i64 at1), (.int .i64 2)] h6 (fun v_6 h7 => ∃ (t49 : Int) (t49_1 : Int), v_6 = (.tuple #[(.int .u64 t49), (.int .i64 t49_1)]) ∧
 SpecH Tryd.prog 24 [(.slice b0 b0n b0c), (.int .i64 at1), (.int .i64 4)] h7 (fun v_7 h8 => ∃ (t55 : Int) (t55_1 : Int), v_7 = (.tuple #[(.int .u64 t55), (.int .i64 t55_1)]) ∧
 SpecH Tryd.prog 24 [(.slice b0 b0n b0c), (.int .i64 at1), (.int .i64 8)] h8 (fun v_8 h9 => ∃ (t61 : Int) (t61_1 : Int), v_8 = (.tuple #[(.int .u64 t61), (.int .i64 t61_1)]) ∧
 SpecH Tryd.prog 9 [] h9 (fun v_9 h10 => ∃ (t64 : Bool), v_9 = (.bool t64) ∧
 br t64 (
 br t45 (
 let t70 : Int := IntKind.u64.wrap t28
 let t72 : Bool := (t70 == t49)
 br t72 (
 let t76 : Int := IntKind.u64.wrap t34
 let t78 : Bool := (t76 == t55)
 br t78 (
 let t83 : Bool := (t40 == t61)
 br t83 (
 let t88 : Bool := (t28_1 == t49_1)
 br t88 (
 let t93 : Bool := (t34_1 == t55_1)
 br t93 (
 let t98 : Bool := (t40_1 == t61_1)
 Q (.bool t98) h10) (
 Q (.bool false) h10)) (
 Q (.bool false) h10)) (
 Q (.bool false) h10)) (
 Q (.bool false) h10)) (
 Q (.bool false) h10)) (
 Q (.bool false) h10)) (
 Q (.bool false) h10)))))))))))
theorem f7_eq (b0 : Option Addr) (b0n : Nat) (b0c : Nat) (at1 : Int) (Q : Value → Heap → Prop) (h : Heap) : ev Tryd.prog true none (bodyOf Tryd.f7) f7_ann (initFr 100 [(.slice b0 b0n b0c), (.int .i64 at1)]) (bodyK Tryd.prog Tryd.f7 Q) h = f7_main b0 b0n b0c at1 Q h := by kernel_rfl
theorem f7_door {b0 : Option Addr} {b0n : Nat} {b0c : Nat} {at1 : Int} {Q : Value → Heap → Prop} {h : Heap} (H : f7_main b0 b0n b0c at1 Q h) : SpecH Tryd.prog 7 [(.slice b0 b0n b0c), (.int .i64 at1)] h Q :=
   spec_of_ev Tryd.func7 rfl rfl ((f7_eq b0 b0n b0c at1 Q h).symm ▸ H)
/-! ### haversack/haversacklaw02.LittlePuts: function 6 -/
def f6_ann : Ann := (.seq 3 (.region [(List.range 1, 3)]) (.seq 3 (.seq 4099 (.region [(List.range 3, 4099)]) (.cond (.seq 16 (.region [(List.range 2, 16)]) (.exit 16)) .leaf)) (.seq 35 (.region [(List.range 3, 35)]) (.seq 99 (.region [(List.range 5, 99)]) (.seq 227 (.region [(List.range 5, 227)]) (.seq 483 (.region [(List.range 4, 483)]) (.seq 963 (.region [(List.range 4, 963)]) (.seq 16 (.region [(List.range 26, 16)]) (.exit 16)))))))))
def f6_main (b0 : Option Addr) (b0n : Nat) (b0c : Nat) (v1 : Int) (Q : Value → Heap → Prop) (h : Heap) : Prop :=
 let t12 : Bool := decide ((b0n : Int) > 16777216)
 br t12 (
 SpecH Tryd.prog 9 [] h (fun v h1 => ∃ (t13 : Bool), v = (.bool t13) ∧
 Q (.bool t13) h1)) (
 SpecH Tryd.prog 10 [(.slice b0 b0n b0c)] h (fun v_1 h2 => ∃ (t15 : Option Addr) (t15n : Nat) (t15c : Nat), v_1 = (.slice t15 t15n t15c) ∧
 let t18 : Int := IntKind.u16.wrap v1
 SpecH Tryd.prog 16 [(.slice t15 t15n t15c), (.int .u16 t18)] h2 (fun v_2 h3 => ∃ (t19 : Option Addr) (t19n : Nat) (t19c : Nat), v_2 = (.slice t19 t19n t19c) ∧
 let t22 : Int := IntKind.u32.wrap v1
 SpecH Tryd.prog 17 [(.slice t15 t15n t15c), (.int .u32 t22)] h3 (fun v_3 h4 => ∃ (t23 : Option Addr) (t23n : Nat) (t23c : Nat), v_3 = (.slice t23 t23n t23c) ∧
 SpecH Tryd.prog 18 [(.slice t15 t15n t15c), (.int .u64 v1)] h4 (fun v_4 h5 => ∃ (t26 : Option Addr) (t26n : Nat) (t26c : Nat), v_4 = (.slice t26 t26n t26c) ∧
 SpecH Tryd.prog 13 [(.slice t15 t15n t15c), (.slice b0 b0n b0c)] h5 (fun v_5 h6 => ∃ (t29 : Bool), v_5 = (.bool t29) ∧
 SpecH Tryd.prog 9 [] h6 (fun v_6 h7 => ∃ (t30 : Bool), v_6 = (.bool t30) ∧
 br t30 (
 br t29 (
 SpecH Tryd.prog 20 [(.slice b0 b0n b0c), (.int .u64 v1), (.int .i64 2)] h7 (fun v_7 h8 => ∃ (t38 : Option Addr) (t38n : Nat) (t38c : Nat), v_7 = (.slice t38 t38n t38c) ∧
 SpecH Tryd.prog 19 [(.slice t19 t19n t19c), (.slice t38 t38n t38c)] h8 (fun v_8 h9 => ∃ (t39 : Bool), v_8 = (.bool t39) ∧
 br t39 (
 SpecH Tryd.prog 20 [(.slice b0 b0n b0c), (.int .u64 v1), (.int .i64 4)] h9 (fun v_9 h10 => ∃ (t45 : Option Addr) (t45n : Nat) (t45c : Nat), v_9 = (.slice t45 t45n t45c) ∧
 SpecH Tryd.prog 19 [(.slice t23 t23n t23c), (.slice t45 t45n t45c)] h10 (fun v_10 h11 => ∃ (t46 : Bool), v_10 = (.bool t46) ∧
 br t46 (
 SpecH Tryd.prog 20 [(.slice b0 b0n b0c), (.int .u64 v1), (.int .i64 8)] h11 (fun v_11 h12 => ∃ (t52 : Option Addr) (t52n : Nat) (t52c : Nat), v_11 = (.slice t52 t52n t52c) ∧
 SpecH Tryd.prog 19 [(.slice t26 t26n t26c), (.slice t52 t52n t52c)] h12 (fun v_12 h13 => ∃ (t53 : Bool), v_12 = (.bool t53) ∧
 Q (.bool t53) h13))) (
 Q (.bool false) h11)))) (
 Q (.bool false) h9)))) (
 Q (.bool false) h7)) (
 Q (.bool false) h7))))))))
theorem f6_eq (b0 : Option Addr) (b0n : Nat) (b0c : Nat) (v1 : Int) (Q : Value → Heap → Prop) (h : Heap) : ev Tryd.prog true none (bodyOf Tryd.f6) f6_ann (initFr 55 [(.slice b0 b0n b0c), (.int .u64 v1)]) (bodyK Tryd.prog Tryd.f6 Q) h = f6_main b0 b0n b0c v1 Q h := by kernel_rfl
theorem f6_door {b0 : Option Addr} {b0n : Nat} {b0c : Nat} {v1 : Int} {Q : Value → Heap → Prop} {h : Heap} (H : f6_main b0 b0n b0c v1 Q h) : SpecH Tryd.prog 6 [(.slice b0 b0n b0c), (.int .u64 v1)] h Q :=
   spec_of_ev Tryd.func6 rfl rfl ((f6_eq b0 b0n b0c v1 Q h).symm ▸ H)
/-! ### haversack/haversacklaw02.LittleTells: function 5 -/
def f5_ann : Ann := (.seq 7 (.region [(List.range 1, 7)]) (.seq 7 (.seq 67108871 (.region [(List.range 17, 67108871)]) (.cond (.seq 64 (.region [(List.range 2, 64)]) (.exit 64)) .leaf)) (.seq 135 (.region [(List.range 3, 135)]) (.seq 391 (.region [(List.range 1, 391)]) (.seq 385 (.seq 903 (.region [(List.range 1, 903)]) (.block (.loop 903 (.seq 903 (.seq 549755814791 (.region [(List.range 10, 549755814791)]) (.cond .leaf (.exit 385))) (.seq 903 (.block (.seq 903 (.region [(List.range 18, 903)]) (.region [(List.range 10, 903)]))) (.region [(List.range 3, 903)])))))) (.seq 64 (.region [(List.range 12, 64)]) (.exit 64)))))))
@[irreducible] def f5_X0 (b0 : Option Addr) (b0n : Nat) (b0c : Nat) (x7 : Option Addr) (x7n : Nat) (x7c : Nat) (changed8 : Bool) : Fr := (mkFr 0 79 [(0, (.slice b0 b0n b0c)), (7, (.slice x7 x7n x7c)), (8, (.bool changed8))])
@[irreducible] def f5_K1 (Q : Value → Heap → Prop) : Ex → Fr → Heap → Prop := seqK (fun fr h => ev Tryd.prog true none (sub (bodyOf Tryd.f5) [1, 1]) (subA f5_ann [1, 1]) (fr.mask 7) (bodyK Tryd.prog Tryd.f5 Q) h) (bodyK Tryd.prog Tryd.f5 Q)
@[irreducible] def f5_J101 (b0 : Option Addr) (b0n : Nat) (b0c : Nat) (at1 : Int) (v2 : Int) (t26 : Bool) (Q : Value → Heap → Prop) (h : Heap) : Prop := ev Tryd.prog true none (sub (bodyOf Tryd.f5) [1, 0, 1]) (subA f5_ann [1, 0, 1]) (mkFr 0 79 [(0, (.slice b0 b0n b0c)), (1, (.int .i64 at1)), (2, (.int .u32 v2)), (26, (.bool t26))]) (f5_K1 Q) h
@[irreducible] def f5_K1111 (Q : Value → Heap → Prop) : Ex → Fr → Heap → Prop := seqK (fun fr h => ev Tryd.prog true none (sub (bodyOf Tryd.f5) [1, 1, 1, 1, 1]) (subA f5_ann [1, 1, 1, 1, 1]) (fr.mask 385) (bodyK Tryd.prog Tryd.f5 Q) h) (bodyK Tryd.prog Tryd.f5 Q)
@[irreducible] def f5_K111101 (Q : Value → Heap → Prop) : Ex → Fr → Heap → Prop := blockK 0 (f5_K1111 Q)
@[irreducible] def f5_L1111010 (n : Nat) (b0 : Option Addr) (b0n : Nat) (b0c : Nat) (at1 : Int) (v2 : Int) (x7 : Option Addr) (x7n : Nat) (x7c : Nat) (changed8 : Bool) (i9 : Int) (K : Ex → Fr → Heap → Prop) (h : Heap) : Prop := loopN (fun fr K h => ev Tryd.prog true none (sub (bodyOf Tryd.f5) [1, 1, 1, 1, 0, 1, 0, 0]) (subA f5_ann [1, 1, 1, 1, 0, 1, 0, 0]) fr K h) 903 n (mkFr 0 79 [(0, (.slice b0 b0n b0c)), (1, (.int .i64 at1)), (2, (.int .u32 v2)), (7, (.slice x7 x7n x7c)), (8, (.bool changed8)), (9, (.int .i64 i9))]) K h
@[irreducible] def f5_B1111010 (n : Nat) (K : Ex → Fr → Heap → Prop) : Ex → Fr → Heap → Prop := seqK (fun fr h => loopN (fun fr K h => ev Tryd.prog true none (sub (bodyOf Tryd.f5) [1, 1, 1, 1, 0, 1, 0, 0]) (subA f5_ann [1, 1, 1, 1, 0, 1, 0, 0]) fr K h) 903 n (fr.mask 903) K h) K
@[irreducible] def f5_J1111010011 (b0 : Option Addr) (b0n : Nat) (b0c : Nat) (at1 : Int) (v2 : Int) (x7 : Option Addr) (x7n : Nat) (x7c : Nat) (changed8 : Bool) (i9 : Int) (n : Nat) (K : Ex → Fr → Heap → Prop) (h : Heap) : Prop := ev Tryd.prog true none (sub (bodyOf Tryd.f5) [1, 1, 1, 1, 0, 1, 0, 0, 1, 1]) (subA f5_ann [1, 1, 1, 1, 0, 1, 0, 0, 1, 1]) (mkFr 0 79 [(0, (.slice b0 b0n b0c)), (1, (.int .i64 at1)), (2, (.int .u32 v2)), (7, (.slice x7 x7n x7c)), (8, (.bool changed8)), (9, (.int .i64 i9))]) (f5_B1111010 n K) h
theorem f5_J101_eq (b0 : Option Addr) (b0n : Nat) (b0c : Nat) (at1 : Int) (v2 : Int) (t26 : Bool) (Q : Value → Heap → Prop) (h : Heap) : f5_J101 b0 b0n b0c at1 v2 t26 Q h = (
 br t26 (
 SpecH Tryd.prog 9 [] h (fun v h1 => ∃ (t27 : Bool), v = (.bool t27) ∧
 Q (.bool t27) h1)) (
 SpecH Tryd.prog 10 [(.slice b0 b0n b0c)] h (fun v_1 h2 => ∃ (t29 : Option Addr) (t29n : Nat) (t29c : Nat), v_1 = (.slice t29 t29n t29c) ∧
 ∃ m, f5_L1111010 m b0 b0n b0c at1 v2 t29 t29n t29c false 0 (f5_K111101 Q) h2))) := by kernel_rfl
theorem f5_L1111010_eq (n : Nat) (b0 : Option Addr) (b0n : Nat) (b0c : Nat) (at1 : Int) (v2 : Int) (x7 : Option Addr) (x7n : Nat) (x7c : Nat) (changed8 : Bool) (i9 : Int) (K : Ex → Fr → Heap → Prop) (h : Heap) : f5_L1111010 (n + 1) b0 b0n b0c at1 v2 x7 x7n x7c changed8 i9 K h = (
 let t31 : Bool := decide (i9 < 4)
 br t31 (
 let t35 : Int := IntKind.i64.wrap (at1 + i9)
 let t38 : Bool := decide (t35 < (b0n : Int))
 br t38 (
 let t45 : Int := IntKind.i64.wrap (at1 + i9)
 let t49 : Int := IntKind.i64.wrap (at1 + i9)
 hwp Tryd.prog (Instr.indexAt 23 (.slice x7 x7n x7c) (.int .i64 t49)) (fun v h1 => ∃ (t50 : Addr), v = (.pointer (some t50)) ∧
 ∃ (t51 : Int), cellH h1 t50 = some (.int .u8 t51) ∧
 let t54 : Int := IntKind.i64.wrap (8 * i9)
 br (decide (0 ≤ t54)) (
 let t55 : Int := sShr .u32 v2 t54
 let t56 : Int := IntKind.u8.wrap t55
 let t57 : Int := bXor .u8 t51 t56
 hwp Tryd.prog (Instr.indexAt 23 (.slice x7 x7n x7c) (.int .i64 t45)) (fun v_1 h2 => ∃ (t58 : Addr), v_1 = (.pointer (some t58)) ∧
 wr t58 (.int .u8 t57) (fun h3 =>
 br changed8 (
 f5_J1111010011 b0 b0n b0c at1 v2 x7 x7n x7c true i9 n K h3) (
 let t63 : Int := IntKind.i64.wrap (8 * i9)
 br (decide (0 ≤ t63)) (
 let t64 : Int := sShr .u32 v2 t63
 let t65 : Int := IntKind.u8.wrap t64
 let t66 : Bool := (t65 != 0)
 f5_J1111010011 b0 b0n b0c at1 v2 x7 x7n x7c t66 i9 n K h3) False)) h2) h1) False) h) (
 K (.exit 0) (f5_X0 b0 b0n b0c x7 x7n x7c changed8) h)) (
 K (.exit 0) (f5_X0 b0 b0n b0c x7 x7n x7c changed8) h)) := by kernel_rfl
theorem f5_at1111010_X0 (Q : Value → Heap → Prop) (b0 : Option Addr) (b0n : Nat) (b0c : Nat) (x7 : Option Addr) (x7n : Nat) (x7c : Nat) (changed8 : Bool) (h : Heap) : (f5_K111101 Q) (.exit 0) (f5_X0 b0 b0n b0c x7 x7n x7c changed8) h = (
 SpecH Tryd.prog 9 [] h (fun v h1 => ∃ (t68 : Bool), v = (.bool t68) ∧
 br t68 (
 SpecH Tryd.prog 11 [(.slice x7 x7n x7c)] h1 (fun v_1 h2 => ∃ (t71 : Int), v_1 = (.int .u32 t71) ∧
 SpecH Tryd.prog 11 [(.slice b0 b0n b0c)] h2 (fun v_2 h3 => ∃ (t73 : Int), v_2 = (.int .u32 t73) ∧
 let t74 : Bool := (t71 == t73)
 let t76 : Bool := (!changed8)
 let t77 : Bool := (t74 == t76)
 Q (.bool t77) h3))) (
 Q (.bool false) h1))) := by kernel_rfl
theorem f5_J1111010011_eq (b0 : Option Addr) (b0n : Nat) (b0c : Nat) (at1 : Int) (v2 : Int) (x7 : Option Addr) (x7n : Nat) (x7c : Nat) (changed8 : Bool) (i9 : Int) (n : Nat) (K : Ex → Fr → Heap → Prop) (h : Heap) : f5_J1111010011 b0 b0n b0c at1 v2 x7 x7n x7c changed8 i9 n K h = (
 let t41 : Int := IntKind.i64.wrap (i9 + 1)
 f5_L1111010 n b0 b0n b0c at1 v2 x7 x7n x7c changed8 t41 K h) := by kernel_rfl
def f5_main (b0 : Option Addr) (b0n : Nat) (b0c : Nat) (at1 : Int) (v2 : Int) (Q : Value → Heap → Prop) (h : Heap) : Prop :=
 let t12 : Bool := decide ((b0n : Int) > 16777216)
 br t12 (
 f5_J101 b0 b0n b0c at1 v2 true Q h) (
 let t15 : Bool := decide (at1 < 0)
 br t15 (
 f5_J101 b0 b0n b0c at1 v2 true Q h) (
 let t21 : Bool := decide (at1 ≥ (b0n : Int))
 br t21 (
 f5_J101 b0 b0n b0c at1 v2 true Q h) (
 let t25 : Bool := (v2 == 0)
 f5_J101 b0 b0n b0c at1 v2 t25 Q h)))
theorem f5_eq (b0 : Option Addr) (b0n : Nat) (b0c : Nat) (at1 : Int) (v2 : Int) (Q : Value → Heap → Prop) (h : Heap) : ev Tryd.prog true none (bodyOf Tryd.f5) f5_ann (initFr 79 [(.slice b0 b0n b0c), (.int .i64 at1), (.int .u32 v2)]) (bodyK Tryd.prog Tryd.f5 Q) h = f5_main b0 b0n b0c at1 v2 Q h := by kernel_rfl
theorem f5_door {b0 : Option Addr} {b0n : Nat} {b0c : Nat} {at1 : Int} {v2 : Int} {Q : Value → Heap → Prop} {h : Heap} (H : f5_main b0 b0n b0c at1 v2 Q h) : SpecH Tryd.prog 5 [(.slice b0 b0n b0c), (.int .i64 at1), (.int .u32 v2)] h Q :=
   spec_of_ev Tryd.func5 rfl rfl ((f5_eq b0 b0n b0c at1 v2 Q h).symm ▸ H)
/-! ### haversack/haversacklaw02.LittleJoins: function 4 -/
def f4_ann : Ann := (.seq 3 (.region [(List.range 1, 3)]) (.seq 3 (.seq 8195 (.region [(List.range 8, 8195)]) (.cond (.seq 16 (.region [(List.range 2, 16)]) (.exit 16)) .leaf)) (.seq 35 (.region [(List.range 5, 35)]) (.seq 16 (.region [(List.range 19, 16)]) (.exit 16)))))
@[irreducible] def f4_K1 (Q : Value → Heap → Prop) : Ex → Fr → Heap → Prop := seqK (fun fr h => ev Tryd.prog true none (sub (bodyOf Tryd.f4) [1, 1]) (subA f4_ann [1, 1]) (fr.mask 3) (bodyK Tryd.prog Tryd.f4 Q) h) (bodyK Tryd.prog Tryd.f4 Q)
@[irreducible] def f4_J101 (a0 : Option Addr) (a0n : Nat) (a0c : Nat) (b1 : Option Addr) (b1n : Nat) (b1c : Nat) (t13 : Bool) (Q : Value → Heap → Prop) (h : Heap) : Prop := ev Tryd.prog true none (sub (bodyOf Tryd.f4) [1, 0, 1]) (subA f4_ann [1, 0, 1]) (mkFr 0 37 [(0, (.slice a0 a0n a0c)), (1, (.slice b1 b1n b1c)), (13, (.bool t13))]) (f4_K1 Q) h
theorem f4_J101_eq (a0 : Option Addr) (a0n : Nat) (a0c : Nat) (b1 : Option Addr) (b1n : Nat) (b1c : Nat) (t13 : Bool) (Q : Value → Heap → Prop) (h : Heap) : f4_J101 a0 a0n a0c b1 b1n b1c t13 Q h = (
 br t13 (
 SpecH Tryd.prog 9 [] h (fun v h1 => ∃ (t14 : Bool), v = (.bool t14) ∧
 Q (.bool t14) h1)) (
 SpecH Tryd.prog 10 [(.slice a0 a0n a0c)] h (fun v_1 h2 => ∃ (t16 : Option Addr) (t16n : Nat) (t16c : Nat), v_1 = (.slice t16 t16n t16c) ∧
 hwp Tryd.prog (Builtin.append_ #[23, 23] 23 #[(.slice t16 t16n t16c), (.slice b1 b1n b1c)]) (fun v_2 h3 => ∃ (t18 : Option Addr) (t18n : Nat) (t18c : Nat), v_2 = (.slice t18 t18n t18c) ∧
 SpecH Tryd.prog 9 [] h3 (fun v_3 h4 => ∃ (t19 : Bool), v_3 = (.bool t19) ∧
 br t19 (
 SpecH Tryd.prog 11 [(.slice t18 t18n t18c)] h4 (fun v_4 h5 => ∃ (t22 : Int), v_4 = (.int .u32 t22) ∧
 SpecH Tryd.prog 11 [(.slice a0 a0n a0c)] h5 (fun v_5 h6 => ∃ (t24 : Int), v_5 = (.int .u32 t24) ∧
 SpecH Tryd.prog 12 [(.int .u32 t24), (.slice b1 b1n b1c)] h6 (fun v_6 h7 => ∃ (t26 : Int), v_6 = (.int .u32 t26) ∧
 let t27 : Bool := (t22 == t26)
 br t27 (
 SpecH Tryd.prog 11 [(.slice a0 a0n a0c)] h7 (fun v_7 h8 => ∃ (t31 : Int), v_7 = (.int .u32 t31) ∧
 SpecH Tryd.prog 12 [(.int .u32 t31), (.slice none 0 0)] h8 (fun v_8 h9 => ∃ (t32 : Int), v_8 = (.int .u32 t32) ∧
 SpecH Tryd.prog 11 [(.slice a0 a0n a0c)] h9 (fun v_9 h10 => ∃ (t34 : Int), v_9 = (.int .u32 t34) ∧
 let t35 : Bool := (t32 == t34)
 Q (.bool t35) h10)))) (
 Q (.bool false) h7))))) (
 Q (.bool false) h4))) h2))) := by kernel_rfl
def f4_main (a0 : Option Addr) (a0n : Nat) (a0c : Nat) (b1 : Option Addr) (b1n : Nat) (b1c : Nat) (Q : Value → Heap → Prop) (h : Heap) : Prop :=
 let t8 : Bool := decide ((a0n : Int) > 16777216)
 br t8 (
 f4_J101 a0 a0n a0c b1 b1n b1c true Q h) (
 let t12 : Bool := decide ((b1n : Int) > 16777216)
 f4_J101 a0 a0n a0c b1 b1n b1c t12 Q h)
theorem f4_eq (a0 : Option Addr) (a0n : Nat) (a0c : Nat) (b1 : Option Addr) (b1n : Nat) (b1c : Nat) (Q : Value → Heap → Prop) (h : Heap) : ev Tryd.prog true none (bodyOf Tryd.f4) f4_ann (initFr 37 [(.slice a0 a0n a0c), (.slice b1 b1n b1c)]) (bodyK Tryd.prog Tryd.f4 Q) h = f4_main a0 a0n a0c b1 b1n b1c Q h := by kernel_rfl
theorem f4_door {a0 : Option Addr} {a0n : Nat} {a0c : Nat} {b1 : Option Addr} {b1n : Nat} {b1c : Nat} {Q : Value → Heap → Prop} {h : Heap} (H : f4_main a0 a0n a0c b1 b1n b1c Q h) : SpecH Tryd.prog 4 [(.slice a0 a0n a0c), (.slice b1 b1n b1c)] h Q :=
   spec_of_ev Tryd.func4 rfl rfl ((f4_eq a0 a0n a0c b1 b1n b1c Q h).symm ▸ H)
/-! ### haversack/haversacklaw02.LittleSums: function 3 -/
def f3_ann : Ann := (.seq 3 (.region [(List.range 1, 3)]) (.seq 3 (.seq 2051 (.region [(List.range 3, 2051)]) (.cond (.seq 16 (.region [(List.range 2, 16)]) (.exit 16)) .leaf)) (.seq 35 (.region [(List.range 3, 35)]) (.seq 99 (.region [(List.range 3, 99)]) (.seq 227 (.region [(List.range 4, 227)]) (.seq 451 (.region [(List.range 4, 451)]) (.seq 16 (.region [(List.range 18, 16)]) (.exit 16))))))))
def f3_main (sum0 : Int) (b1 : Option Addr) (b1n : Nat) (b1c : Nat) (Q : Value → Heap → Prop) (h : Heap) : Prop :=
 let t11 : Bool := decide ((b1n : Int) > 16777216)
 br t11 (
 SpecH Tryd.prog 9 [] h (fun v h1 => ∃ (t12 : Bool), v = (.bool t12) ∧
 Q (.bool t12) h1)) (
 SpecH Tryd.prog 10 [(.slice b1 b1n b1c)] h (fun v_1 h2 => ∃ (t14 : Option Addr) (t14n : Nat) (t14c : Nat), v_1 = (.slice t14 t14n t14c) ∧
 SpecH Tryd.prog 11 [(.slice t14 t14n t14c)] h2 (fun v_2 h3 => ∃ (t16 : Int), v_2 = (.int .u32 t16) ∧
 SpecH Tryd.prog 12 [(.int .u32 sum0), (.slice t14 t14n t14c)] h3 (fun v_3 h4 => ∃ (t19 : Int), v_3 = (.int .u32 t19) ∧
 SpecH Tryd.prog 13 [(.slice t14 t14n t14c), (.slice b1 b1n b1c)] h4 (fun v_4 h5 => ∃ (t22 : Bool), v_4 = (.bool t22) ∧
 SpecH Tryd.prog 9 [] h5 (fun v_5 h6 => ∃ (t23 : Bool), v_5 = (.bool t23) ∧
 br t23 (
 br t22 (
 SpecH Tryd.prog 14 [(.slice b1 b1n b1c)] h6 (fun v_6 h7 => ∃ (t30 : Int), v_6 = (.int .u32 t30) ∧
 let t31 : Bool := (t16 == t30)
 br t31 (
 SpecH Tryd.prog 15 [(.int .u32 sum0), (.slice b1 b1n b1c)] h7 (fun v_7 h8 => ∃ (t37 : Int), v_7 = (.int .u32 t37) ∧
 let t38 : Bool := (t19 == t37)
 Q (.bool t38) h8)) (
 Q (.bool false) h7))) (
 Q (.bool false) h6)) (
 Q (.bool false) h6)))))))
theorem f3_eq (sum0 : Int) (b1 : Option Addr) (b1n : Nat) (b1c : Nat) (Q : Value → Heap → Prop) (h : Heap) : ev Tryd.prog true none (bodyOf Tryd.f3) f3_ann (initFr 40 [(.int .u32 sum0), (.slice b1 b1n b1c)]) (bodyK Tryd.prog Tryd.f3 Q) h = f3_main sum0 b1 b1n b1c Q h := by kernel_rfl
theorem f3_door {sum0 : Int} {b1 : Option Addr} {b1n : Nat} {b1c : Nat} {Q : Value → Heap → Prop} {h : Heap} (H : f3_main sum0 b1 b1n b1c Q h) : SpecH Tryd.prog 3 [(.int .u32 sum0), (.slice b1 b1n b1c)] h Q :=
   spec_of_ev Tryd.func3 rfl rfl ((f3_eq sum0 b1 b1n b1c Q h).symm ▸ H)
end Go.Proofs.YthoicidmckkkhaaDoor
