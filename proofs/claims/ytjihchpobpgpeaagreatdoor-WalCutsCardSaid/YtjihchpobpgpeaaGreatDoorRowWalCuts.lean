/- Proved here: the given statement of WalCuts: whatever the input, the law returns true and each argument reads behind the call as before. Conditions: those of the given row alone. -/
import Derived.Test.YtjihchpobpgpeaaGreatDoorCards
import Derived.Test.YtjihchpobpgpeaaGreatDoorTie
import Derived.WalkKit
import Derived.ProofKit
import Derived.OpenShut
import Derived.Deep.DeepHandedRow
import Derived.Below
import Derived.Carry
import Derived.Lib.LaidTab
import Derived.Test.YtjihchpobpgpeaaGreatDoorP2
import Derived.Test.YtjihchpobpgpeaaGreatDoorP4
set_option linter.unusedVariables false
set_option linter.unusedSimpArgs false
namespace Go.Proofs.YtjihchpobpgpeaaGreatDoor.walCuts
open Go.ChangeShapes Go.WideShapes Go.ChangeAt Go.RowKit Go.HW
theorem own : ownKnob Tryz.prog.godebug = none := by kernel_rfl
theorem laidOut : laidOutB Tryz.prog = true := by kernel_rfl
set_option maxRecDepth 100000 in
theorem laid_of {W : World} (h : laidMetH Tryz.prog Rows.walCutsRow.laid W) : WTab W.heap := tab_all h (by kernel_rfl) (by kernel_rfl)
set_option maxRecDepth 100000 in
theorem contract (H : Type) (enc : TypeId × Value → H) (W : World) (base : Nat) (args : Array Value) (ds gs : List (DataW H)) (before : List MemPlace)
    (hval : ∀ (j : Nat) t v, Tryz.f3.params[j]? = some t → args[j]? = some v → Value.okWide Tryz.prog W .any base t v)
    (hW : DataW.Whole enc Tryz.prog Tryz.f3.params.toList Rows.walCutsSpec.vars false W args.toList ds gs before) (hL : laidMetH Tryz.prog Rows.walCutsRow.laid W) (vt : List TypeId) (hZ : (DataW.weightsEach Tryz.prog (Tryz.f3.params.toList ++ vt) (ds ++ gs)).all (· ≤ reachBytes) = true) :
    Calls Tryz.prog 3 args W fun e W' => ∃ v, e = .returned v ∧ Rows.walCutsSpec.post enc Tryz.prog Tryz.f3 false true false false W args v W' := by
  have hW' := hW
  obtain ⟨p, q, hA0, hV, rfl, hfz, hnd⟩ := hW
  have hA : DataW.TrodAll enc Tryz.prog W 0 (fun _ => true) true Tryz.f3.params.toList args.toList ds p := hA0
  rw [Tryz.params3] at hA hval hZ
  obtain ⟨v0, vs0, d0, ds0, p0, q0, hargs, rfl, rfl, h0, r0⟩ := trodAll_cons hA
  obtain ⟨v1, vs1, d1, ds1, p1, q1, rfl, rfl, rfl, h1, r1⟩ := trodAll_cons r0
  obtain ⟨v2, vs2, d2, ds2, p2, q2, rfl, rfl, rfl, h2, r2⟩ := trodAll_cons r1
  obtain ⟨rfl, rfl, rfl⟩ := trodAll_nil r2
  obtain rfl : args = #[v0, v1, v2] := by cases args; simp_all
  obtain ⟨rfl, rfl⟩ := trodVars_none hV
  clear hA0
  have lt0 : ∀ x ∈ p0, x.block < W.heap.size := by obtain ⟨m, hm⟩ := h0; exact DataW.trod_lt m _ _ _ hm
  have g0 := Dat.of h0 (reach_at (j := 0) hZ rfl rfl)
  obtain ⟨y0, rfl⟩ := okWide_int (by kernel_rfl : Tryz.prog.underlying 3 = some (.int .i64)) (hval 0 3 v0 rfl rfl)
  obtain ⟨z0, e0, lo0, hi0⟩ := g0.i64 (by kernel_rfl)
  obtain rfl : y0 = z0 := by simpa [Value.cells] using e0
  have lt1 : ∀ x ∈ p1, x.block < W.heap.size := by obtain ⟨m, hm⟩ := h1; exact DataW.trod_lt m _ _ _ hm
  have g1 := Dat.of h1 (reach_at (j := 1) hZ rfl rfl)
  obtain ⟨y1, rfl⟩ := okWide_string (by kernel_rfl : Tryz.prog.underlying 9 = some .string) (hval 1 9 v1 rfl rfl)
  obtain ⟨s1, e1, hs1⟩ := g1.str (by kernel_rfl)
  obtain rfl : y1 = s1 := by simpa [Value.cells] using e1
  have lt2 : ∀ x ∈ p2, x.block < W.heap.size := by obtain ⟨m, hm⟩ := h2; exact DataW.trod_lt m _ _ _ hm
  have g2 := Dat.of h2 (reach_at (j := 2) hZ rfl rfl)
  obtain ⟨a2, n2, c2, rfl⟩ := okWide_slice (by kernel_rfl : Tryz.prog.underlying 22 = some (.slice 3)) (hval 2 22 v2 rfl rfl)
  obtain ⟨a, n, c, l2, e2, hr2, hn2, hc2, hm2, hy2, hq2, hb2⟩ := g2.ints (by kernel_rfl : Tryz.prog.underlying 22 = some (.slice 3)) (by kernel_rfl) (by kernel_rfl)
  obtain ⟨rfl, rfl, rfl⟩ : a2 = a ∧ n2 = n ∧ c2 = c := by simpa [Value.cells] using e2
  have hz2 : a2 = none → n2 = 0 := fun e => by have := hy2 e; omega
  have hs2 : n2 * 8 ≤ 140737488351232 := by rw [(by kernel_rfl : Tryz.prog.bytesOf 3 = 8)] at hq2; exact hq2
  have tab := laid_of hL
  refine (law_calls (P := Tryz.prog) (f := 3) (args := [.int .i64 y0, .string y1, .slice a2 n2 c2]) fun Q HQ => WalCuts_spec tab hr2 hn2 hc2 hy2 hb2 HQ).mono fun e W' ⟨he, bel⟩ => ?_
  subst he
  exact ⟨_, rfl, _, _, _, [], _, [], hW', trodAll_mk1 (shut_bool (by kernel_rfl : Tryz.prog.underlying 4 = some .bool) _), (trodAll_cons_mk (Below.trod laidOut (by kernel_rfl) (of_decide_eq_true (by kernel_rfl)) h0 bel lt0) (trodAll_cons_mk (Below.trod laidOut (by kernel_rfl) (of_decide_eq_true (by kernel_rfl)) h1 bel lt1) (trodAll_cons_mk (Below.trod laidOut (by kernel_rfl) (of_decide_eq_true (by kernel_rfl)) h2 bel lt2) trodAll_mk0))), rfl, bel.frame _, fun h => by cases h⟩
noncomputable def low : Nat := (World.holding Tryz.prog default ⟨#[], #[], []⟩).heap.size
/-- A world for the witness. -/
noncomputable def laidWorld (os : Os) : World :=
  let w0 := World.holding Tryz.prog os ⟨#[.cells #[.string ⟨#[118, 97, 108, 117, 101, 32, 111, 117, 116, 32, 111, 102, 32, 114, 97, 110, 103, 101]⟩] T_errors_errorString, .cells #[.string ⟨#[105, 110, 118, 97, 108, 105, 100, 32, 115, 121, 110, 116, 97, 120]⟩] T_errors_errorString], #[], []⟩
  { w0 with heap := (putC 2 (cellsD Rows.laid_haversack_little_steps) (putC 0 [.iface T_p_errors_errorString (.pointer (some ⟨low + 1, 0, none⟩))] (putC 1 [.iface T_p_errors_errorString (.pointer (some ⟨low + 0, 0, none⟩))] (putC 3 (cellsD Rows.laid_internal_strconv_uint64pow10) (putC 5 (cellsD Rows.laid_math_bits_deBruijn64tab) (putC 4 (cellsD Rows.laid_math_bits_deBruijn32tab) w0.heap)))))) }
theorem laid_met (os : Os) : laidMet Tryz.prog Rows.walCutsRow.laid ((laidWorld os).forCall (fun _ _ => 0) ⟨#[], #[(.int .i64 0), (.string (⟨#[]⟩ : ByteArray)), (.slice none 0 0)], []⟩).memory :=
  laidMet_of_run' 8 (by kernel_rfl) (by kernel_rfl)
theorem reads (os : Os) {H : Type} (enc : TypeId × Value → H) : ∃ places, DataW.whole enc Tryz.prog ((laidWorld os).forCall (fun _ _ => 0) ⟨#[], #[(.int .i64 0), (.string (⟨#[]⟩ : ByteArray)), (.slice none 0 0)], []⟩).memory Tryz.f3.params.toList Rows.walCutsSpec.vars false [((.int .i64 0) : Value), ((.string (⟨#[]⟩ : ByteArray)) : Value), ((.slice none 0 0) : Value)] 8 = some ([.lit (.int .i64 0), .lit (.string []), .nil], [], places) :=
  ⟨[], by kernel_rfl⟩

set_option maxRecDepth 100000 in
theorem lifted (os : Os) (started : os.Started) (H : Type) (enc : TypeId × Value → H) (F : Stop.Interp) :
    ReturnsInHanded {} Tryz.checked os 3 .any ((OpenSpec.ofChange Rows.walCutsSpec).preRow enc Tryz.prog Tryz.f3 Rows.walCutsRow.domain false Rows.walCutsRow.laid) (((OpenSpec.ofChange Rows.walCutsSpec).at F).post enc Tryz.prog Tryz.f3 false true false false) := by
  obtain ⟨places, hx⟩ := reads os enc
  refine returnsInHanded_of_row (C := Tryz.checked) (s := OpenSpec.ofChange Rows.walCutsSpec) own started (by kernel_rfl) Tryz.func3
    (witness_row_at (enc := enc) (C := Tryz.checked) false (laidWorld os) #[(.int .i64 0), (.string (⟨#[]⟩ : ByteArray)), (.slice none 0 0)] rfl (by kernel_rfl) (by kernel_rfl) (by kernel_rfl)
      (OpenSpec.preRow_of_cond 8 hx (by kernel_rfl) (fun k hk => by cases hk) (by kernel_rfl) (laid_met os))) ?_
  intro W base args ds gs before hval hW _ _ hZ hL _ _
  exact contract H enc W base args ds gs before hval hW hL _ hZ
theorem said : Rows.WalCutsSaid :=
  OpenClaim.holds_of_cond 3 Tryz.f3 rfl rfl rfl rfl rfl rfl rfl ⟨rfl, rfl, rfl, rfl, rfl⟩ rfl rfl rfl rfl rfl (by kernel_rfl) Tryz.func3 (by kernel_rfl)
    (of_decide_eq_true (by kernel_rfl)) (by unfold Func.isWrapper; first | (rw [if_pos (by decide +kernel)]; kernel_rfl) | (rw [if_neg (by decide +kernel)]; exact ⟨rfl, rfl⟩))
    (fun os started H enc _ F => by rw [OpenClaim.pre_eq_preRow]; exact lifted os started H enc F)
#print axioms said
theorem plain (f : FuncId) (fn : Func) (hf : Tryz.pinned.checked.prog.funcNamed Rows.walCutsRow.func = some f) (hfn : Tryz.pinned.checked.prog.funcs[f]? = some fn) :
    true = Tryz.pinned.checked.prog.looks [] ∧ ∀ (j : Nat) t, fn.params[j]? = some t → Tryz.pinned.checked.prog.wantsStandIn t = false := by
  obtain rfl : f = 3 := Option.some.inj ((show Tryz.prog.funcNamed Rows.walCutsRow.func = some 3 by kernel_rfl).symm.trans hf) |>.symm
  obtain rfl : fn = Tryz.f3 := (Option.some.inj (Tryz.func3.symm.trans hfn)).symm
  refine ⟨by kernel_rfl, fun j t ht => ?_⟩
  rw [Tryz.params3] at ht
  have hm := Array.mem_of_getElem? ht
  simp only [List.mem_toArray, List.mem_cons, List.not_mem_nil, or_false] at hm
  rcases hm with rfl | rfl | rfl
  · exact (show Tryz.prog.wantsStandIn 3 = false by kernel_rfl)
  · exact (show Tryz.prog.wantsStandIn 9 = false by kernel_rfl)
  · exact (show Tryz.prog.wantsStandIn 22 = false by kernel_rfl)
theorem card : Rows.WalCutsCardSaid :=
  Claim7.holds_tied_plain_at .later [] _ _ _ _ said (fun _ h => by cases h) (by kernel_rfl) (fun _ h => by cases h) walCuts_row_tie rfl ⟨rfl, rfl⟩ (by kernel_rfl) rfl plain (by kernel_rfl)
#print axioms card
end Go.Proofs.YtjihchpobpgpeaaGreatDoor.walCuts
