/- Proved here: the given statement of TokenHolds: whatever the input, the law returns true and each argument reads behind the call as before. Conditions: those of the given row alone. -/
import Derived.Test.YtahigbbfilalgaaDoorCards
import Derived.Test.YtahigbbfilalgaaDoorTie
import Derived.WalkKit
import Derived.ProofKit
import Derived.OpenShut
import Derived.Deep.DeepHandedRow
import Derived.Below
import Derived.Carry
import Derived.Lib.LaidTab
import Derived.Test.YtahigbbfilalgaaDoorP2
import Derived.Test.YtahigbbfilalgaaDoorP4
set_option linter.unusedVariables false
set_option linter.unusedSimpArgs false
namespace Go.Proofs.YtahigbbfilalgaaDoor.tokenHolds
open Go.ChangeShapes Go.WideShapes Go.ChangeAt Go.RowKit Go.HW
theorem own : ownKnob Tryd.prog.godebug = none := by kernel_rfl
theorem laidOut : laidOutB Tryd.prog = true := by kernel_rfl
set_option maxRecDepth 100000 in
theorem laid_of {W : World} (h : laidMetH Tryd.prog Rows.tokenHoldsRow.laid W) : TTab W.heap := tab_all h (by kernel_rfl) (by kernel_rfl) (by kernel_rfl) (by kernel_rfl)
set_option maxRecDepth 100000 in
theorem contract (H : Type) (enc : TypeId × Value → H) (W : World) (base : Nat) (args : Array Value) (ds gs : List (DataW H)) (before : List MemPlace)
    (hval : ∀ (j : Nat) t v, Tryd.f4.params[j]? = some t → args[j]? = some v → Value.okWide Tryd.prog W .any base t v)
    (hW : DataW.Whole enc Tryd.prog Tryd.f4.params.toList Rows.tokenHoldsSpec.vars false W args.toList ds gs before) (hL : laidMetH Tryd.prog Rows.tokenHoldsRow.laid W) (vt : List TypeId) (hZ : (DataW.weightsEach Tryd.prog (Tryd.f4.params.toList ++ vt) (ds ++ gs)).all (· ≤ reachBytes) = true) :
    Calls Tryd.prog 4 args W fun e W' => ∃ v, e = .returned v ∧ Rows.tokenHoldsSpec.post enc Tryd.prog Tryd.f4 false true false false W args v W' := by
  have hW' := hW
  obtain ⟨p, q, hA0, hV, rfl, hfz, hnd⟩ := hW
  have hA : DataW.TrodAll enc Tryd.prog W 0 (fun _ => true) true Tryd.f4.params.toList args.toList ds p := hA0
  rw [Tryd.params4] at hA hval hZ
  obtain ⟨v0, vs0, d0, ds0, p0, q0, hargs, rfl, rfl, h0, r0⟩ := trodAll_cons hA
  obtain ⟨v1, vs1, d1, ds1, p1, q1, rfl, rfl, rfl, h1, r1⟩ := trodAll_cons r0
  obtain ⟨v2, vs2, d2, ds2, p2, q2, rfl, rfl, rfl, h2, r2⟩ := trodAll_cons r1
  obtain ⟨v3, vs3, d3, ds3, p3, q3, rfl, rfl, rfl, h3, r3⟩ := trodAll_cons r2
  obtain ⟨v4, vs4, d4, ds4, p4, q4, rfl, rfl, rfl, h4, r4⟩ := trodAll_cons r3
  obtain ⟨v5, vs5, d5, ds5, p5, q5, rfl, rfl, rfl, h5, r5⟩ := trodAll_cons r4
  obtain ⟨rfl, rfl, rfl⟩ := trodAll_nil r5
  obtain rfl : args = #[v0, v1, v2, v3, v4, v5] := by cases args; simp_all
  obtain ⟨rfl, rfl⟩ := trodVars_none hV
  clear hA0
  have lt0 : ∀ x ∈ p0, x.block < W.heap.size := by obtain ⟨m, hm⟩ := h0; exact DataW.trod_lt m _ _ _ hm
  have g0 := Dat.of h0 (reach_at (j := 0) hZ rfl rfl)
  obtain ⟨a0, n0, c0, rfl⟩ := okWide_slice (by kernel_rfl : Tryd.prog.underlying 31 = some (.slice 37)) (hval 0 31 v0 rfl rfl)
  obtain ⟨a, n, c, l0, e0, hr0, hn0, hc0, hm0, hy0, hq0, hb0⟩ := g0.rows Tn.l (fun _ => True) (by kernel_rfl : Tryd.prog.underlying 31 = some (.slice 37)) (by kernel_rfl) (fun _ => rfl) (fun _ hl hg => open_tn hl hg)
  obtain ⟨rfl, rfl, rfl⟩ : a0 = a ∧ n0 = n ∧ c0 = c := by simpa [Value.cells] using e0
  have hz0 : a0 = none → n0 = 0 := fun e => by have := hy0 e; omega
  have hs0 : n0 * 48 ≤ 140737488351232 := by rw [(by kernel_rfl : Tryd.prog.bytesOf 37 = 48)] at hq0; exact hq0
  have lt1 : ∀ x ∈ p1, x.block < W.heap.size := by obtain ⟨m, hm⟩ := h1; exact DataW.trod_lt m _ _ _ hm
  have g1 := Dat.of h1 (reach_at (j := 1) hZ rfl rfl)
  obtain ⟨y1, rfl⟩ := okWide_int (by kernel_rfl : Tryd.prog.underlying 3 = some (.int .i64)) (hval 1 3 v1 rfl rfl)
  obtain ⟨z1, e1, lo1, hi1⟩ := g1.i64 (by kernel_rfl)
  obtain rfl : y1 = z1 := by simpa [Value.cells] using e1
  have lt2 : ∀ x ∈ p2, x.block < W.heap.size := by obtain ⟨m, hm⟩ := h2; exact DataW.trod_lt m _ _ _ hm
  have g2 := Dat.of h2 (reach_at (j := 2) hZ rfl rfl)
  obtain ⟨y2, rfl⟩ := okWide_int (by kernel_rfl : Tryd.prog.underlying 3 = some (.int .i64)) (hval 2 3 v2 rfl rfl)
  obtain ⟨z2, e2, lo2, hi2⟩ := g2.i64 (by kernel_rfl)
  obtain rfl : y2 = z2 := by simpa [Value.cells] using e2
  have lt3 : ∀ x ∈ p3, x.block < W.heap.size := by obtain ⟨m, hm⟩ := h3; exact DataW.trod_lt m _ _ _ hm
  have g3 := Dat.of h3 (reach_at (j := 3) hZ rfl rfl)
  obtain ⟨y3, rfl⟩ := okWide_int (by kernel_rfl : Tryd.prog.underlying 3 = some (.int .i64)) (hval 3 3 v3 rfl rfl)
  obtain ⟨z3, e3, lo3, hi3⟩ := g3.i64 (by kernel_rfl)
  obtain rfl : y3 = z3 := by simpa [Value.cells] using e3
  have lt4 : ∀ x ∈ p4, x.block < W.heap.size := by obtain ⟨m, hm⟩ := h4; exact DataW.trod_lt m _ _ _ hm
  have g4 := Dat.of h4 (reach_at (j := 4) hZ rfl rfl)
  obtain ⟨y4, rfl⟩ := okWide_int (by kernel_rfl : Tryd.prog.underlying 3 = some (.int .i64)) (hval 4 3 v4 rfl rfl)
  obtain ⟨z4, e4, lo4, hi4⟩ := g4.i64 (by kernel_rfl)
  obtain rfl : y4 = z4 := by simpa [Value.cells] using e4
  have lt5 : ∀ x ∈ p5, x.block < W.heap.size := by obtain ⟨m, hm⟩ := h5; exact DataW.trod_lt m _ _ _ hm
  have g5 := Dat.of h5 (reach_at (j := 5) hZ rfl rfl)
  obtain ⟨y5, rfl⟩ := okWide_int (by kernel_rfl : Tryd.prog.underlying 5 = some (.int .u8)) (hval 5 5 v5 rfl rfl)
  obtain ⟨s5, e5, hs5⟩ := g5.u8 (by kernel_rfl)
  obtain rfl : y5 = (s5 : Int) := by simpa [Value.cells] using e5
  have tab := laid_of hL
  refine (law_calls (P := Tryd.prog) (f := 4) (args := [.slice a0 n0 c0, .int .i64 y1, .int .i64 y2, .int .i64 y3, .int .i64 y4, .int .u8 (s5 : Nat)]) fun Q HQ => TokenHolds_spec tab hr0 hn0 lo1 hi1 lo4 hi4 hs5 HQ).mono fun e W' ⟨he, bel⟩ => ?_
  subst he
  exact ⟨_, rfl, _, _, _, [], _, [], hW', trodAll_mk1 (shut_bool (by kernel_rfl : Tryd.prog.underlying 4 = some .bool) _), (trodAll_cons_mk (Below.trod laidOut (by kernel_rfl) (of_decide_eq_true (by kernel_rfl)) h0 bel lt0) (trodAll_cons_mk (Below.trod laidOut (by kernel_rfl) (of_decide_eq_true (by kernel_rfl)) h1 bel lt1) (trodAll_cons_mk (Below.trod laidOut (by kernel_rfl) (of_decide_eq_true (by kernel_rfl)) h2 bel lt2) (trodAll_cons_mk (Below.trod laidOut (by kernel_rfl) (of_decide_eq_true (by kernel_rfl)) h3 bel lt3) (trodAll_cons_mk (Below.trod laidOut (by kernel_rfl) (of_decide_eq_true (by kernel_rfl)) h4 bel lt4) (trodAll_cons_mk (Below.trod laidOut (by kernel_rfl) (of_decide_eq_true (by kernel_rfl)) h5 bel lt5) trodAll_mk0)))))), rfl, bel.frame _, fun h => by cases h⟩
noncomputable def low : Nat := (World.holding Tryd.prog default ⟨#[], #[], []⟩).heap.size
/-- A world for the witness. -/
noncomputable def laidWorld (os : Os) : World :=
  let w0 := World.holding Tryd.prog os ⟨#[.cells #[.string ⟨#[118, 97, 108, 117, 101, 32, 111, 117, 116, 32, 111, 102, 32, 114, 97, 110, 103, 101]⟩] T_errors_errorString, .cells #[.string ⟨#[105, 110, 118, 97, 108, 105, 100, 32, 115, 121, 110, 116, 97, 120]⟩] T_errors_errorString], #[], []⟩
  { w0 with heap := (putC 4 (cellsD Rows.laid_unicode_utf8_first) (putC 2 [.iface T_p_errors_errorString (.pointer (some ⟨low + 1, 0, none⟩))] (putC 3 [.iface T_p_errors_errorString (.pointer (some ⟨low + 0, 0, none⟩))] (putC 5 (cellsD Rows.laid_unicode_utf8_acceptRanges) (putC 6 (cellsD Rows.laid_internal_strconv_uint64pow10) (putC 0 (cellsD Rows.laid_haversack_hmac_k) (putC 8 (cellsD Rows.laid_math_bits_deBruijn64tab) (putC 7 (cellsD Rows.laid_math_bits_deBruijn32tab) w0.heap)))))))) }
theorem laid_met (os : Os) : laidMet Tryd.prog Rows.tokenHoldsRow.laid ((laidWorld os).forCall (fun _ _ => 0) ⟨#[], #[(.slice none 0 0), (.int .i64 0), (.int .i64 0), (.int .i64 0), (.int .i64 0), (.int .u8 0)], []⟩).memory :=
  laidMet_of_run' 8 (by kernel_rfl) (by kernel_rfl)
theorem reads (os : Os) {H : Type} (enc : TypeId × Value → H) : ∃ places, DataW.whole enc Tryd.prog ((laidWorld os).forCall (fun _ _ => 0) ⟨#[], #[(.slice none 0 0), (.int .i64 0), (.int .i64 0), (.int .i64 0), (.int .i64 0), (.int .u8 0)], []⟩).memory Tryd.f4.params.toList Rows.tokenHoldsSpec.vars false [((.slice none 0 0) : Value), ((.int .i64 0) : Value), ((.int .i64 0) : Value), ((.int .i64 0) : Value), ((.int .i64 0) : Value), ((.int .u8 0) : Value)] 8 = some ([.nil, .lit (.int .i64 0), .lit (.int .i64 0), .lit (.int .i64 0), .lit (.int .i64 0), .lit (.int .u8 0)], [], places) :=
  ⟨[], by kernel_rfl⟩

set_option maxRecDepth 100000 in
theorem lifted (os : Os) (started : os.Started) (H : Type) (enc : TypeId × Value → H) (F : Stop.Interp) :
    ReturnsInHanded {} Tryd.checked os 4 .any ((OpenSpec.ofChange Rows.tokenHoldsSpec).preRow enc Tryd.prog Tryd.f4 Rows.tokenHoldsRow.domain false Rows.tokenHoldsRow.laid) (((OpenSpec.ofChange Rows.tokenHoldsSpec).at F).post enc Tryd.prog Tryd.f4 false true false false) := by
  obtain ⟨places, hx⟩ := reads os enc
  refine returnsInHanded_of_row (C := Tryd.checked) (s := OpenSpec.ofChange Rows.tokenHoldsSpec) own started (by kernel_rfl) Tryd.func4
    (witness_row_at (enc := enc) (C := Tryd.checked) false (laidWorld os) #[(.slice none 0 0), (.int .i64 0), (.int .i64 0), (.int .i64 0), (.int .i64 0), (.int .u8 0)] rfl (by kernel_rfl) (by kernel_rfl) (by kernel_rfl)
      (OpenSpec.preRow_of_cond 8 hx (by kernel_rfl) (fun k hk => by cases hk) (by kernel_rfl) (laid_met os))) ?_
  intro W base args ds gs before hval hW _ _ hZ hL _ _
  exact contract H enc W base args ds gs before hval hW hL _ hZ
theorem said : Rows.TokenHoldsSaid :=
  OpenClaim.holds_of_cond 4 Tryd.f4 rfl rfl rfl rfl rfl rfl rfl ⟨rfl, rfl, rfl, rfl, rfl⟩ rfl rfl rfl rfl rfl (by kernel_rfl) Tryd.func4 (by kernel_rfl)
    (of_decide_eq_true (by kernel_rfl)) (by unfold Func.isWrapper; first | (rw [if_pos (by decide +kernel)]; kernel_rfl) | (rw [if_neg (by decide +kernel)]; exact ⟨rfl, rfl⟩))
    (fun os started H enc _ F => by rw [OpenClaim.pre_eq_preRow]; exact lifted os started H enc F)
#print axioms said
theorem plain (f : FuncId) (fn : Func) (hf : Tryd.pinned.checked.prog.funcNamed Rows.tokenHoldsRow.func = some f) (hfn : Tryd.pinned.checked.prog.funcs[f]? = some fn) :
    true = Tryd.pinned.checked.prog.looks [] ∧ ∀ (j : Nat) t, fn.params[j]? = some t → Tryd.pinned.checked.prog.wantsStandIn t = false := by
  obtain rfl : f = 4 := Option.some.inj ((show Tryd.prog.funcNamed Rows.tokenHoldsRow.func = some 4 by kernel_rfl).symm.trans hf) |>.symm
  obtain rfl : fn = Tryd.f4 := (Option.some.inj (Tryd.func4.symm.trans hfn)).symm
  refine ⟨by kernel_rfl, fun j t ht => ?_⟩
  rw [Tryd.params4] at ht
  have hm := Array.mem_of_getElem? ht
  simp only [List.mem_toArray, List.mem_cons, List.not_mem_nil, or_false] at hm
  rcases hm with rfl | rfl | rfl | rfl | rfl | rfl
  · exact (show Tryd.prog.wantsStandIn 31 = false by kernel_rfl)
  · exact (show Tryd.prog.wantsStandIn 3 = false by kernel_rfl)
  · exact (show Tryd.prog.wantsStandIn 3 = false by kernel_rfl)
  · exact (show Tryd.prog.wantsStandIn 3 = false by kernel_rfl)
  · exact (show Tryd.prog.wantsStandIn 3 = false by kernel_rfl)
  · exact (show Tryd.prog.wantsStandIn 5 = false by kernel_rfl)
theorem card : Rows.TokenHoldsCardSaid :=
  Claim7.holds_tied_plain_at .later [] _ _ _ _ said (fun _ h => by cases h) (by kernel_rfl) (fun _ h => by cases h) tokenHolds_row_tie rfl ⟨rfl, rfl⟩ (by kernel_rfl) rfl plain (by kernel_rfl)
#print axioms card
end Go.Proofs.YtahigbbfilalgaaDoor.tokenHolds
