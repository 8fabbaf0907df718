/- Proved here: the given statement of TopUnpacks: whatever the input, the law returns true and each argument reads behind the call as before. Conditions: those of the given row alone. -/
import Derived.Test.YtmkjmmpldepknaaDoorCards
import Derived.Test.YtmkjmmpldepknaaDoorTie
import Derived.WalkKit
import Derived.ProofKit
import Derived.OpenShut
import Derived.Deep.DeepHandedRow
import Derived.Below
import Derived.Carry
import Derived.Lib.LaidTab
import Derived.Test.YtmkjmmpldepknaaDoorP2
import Derived.Test.YtmkjmmpldepknaaDoorP5
set_option linter.unusedVariables false
set_option linter.unusedSimpArgs false
namespace Go.Proofs.YtmkjmmpldepknaaDoor.topUnpacks
open Go.ChangeShapes Go.WideShapes Go.ChangeAt Go.RowKit Go.HW
theorem own : ownKnob Tryd.prog.godebug = none := by kernel_rfl
theorem laidOut : laidOutB Tryd.prog = true := by kernel_rfl
set_option maxRecDepth 100000 in
theorem laid_of {W : World} (h : laidMetH Tryd.prog Rows.topUnpacksRow.laid W) : LTab W.heap := tab_all h (by kernel_rfl) (by kernel_rfl) (by kernel_rfl)
set_option maxRecDepth 100000 in
theorem contract (H : Type) (enc : TypeId × Value → H) (W : World) (base : Nat) (args : Array Value) (ds gs : List (DataW H)) (before : List MemPlace)
    (hval : ∀ (j : Nat) t v, Tryd.f4.params[j]? = some t → args[j]? = some v → Value.okWide Tryd.prog W .any base t v)
    (hW : DataW.Whole enc Tryd.prog Tryd.f4.params.toList Rows.topUnpacksSpec.vars false W args.toList ds gs before) (hL : laidMetH Tryd.prog Rows.topUnpacksRow.laid W) (vt : List TypeId) (hZ : (DataW.weightsEach Tryd.prog (Tryd.f4.params.toList ++ vt) (ds ++ gs)).all (· ≤ reachBytes) = true) :
    Calls Tryd.prog 4 args W fun e W' => ∃ v, e = .returned v ∧ Rows.topUnpacksSpec.post enc Tryd.prog Tryd.f4 false true false false W args v W' := by
  have hW' := hW
  obtain ⟨p, q, hA0, hV, rfl, hfz, hnd⟩ := hW
  have hA : DataW.TrodAll enc Tryd.prog W 0 (fun _ => true) true Tryd.f4.params.toList args.toList ds p := hA0
  rw [Tryd.params4] at hA hval hZ
  obtain ⟨v0, vs0, d0, ds0, p0, q0, hargs, rfl, rfl, h0, r0⟩ := trodAll_cons hA
  obtain ⟨v1, vs1, d1, ds1, p1, q1, rfl, rfl, rfl, h1, r1⟩ := trodAll_cons r0
  obtain ⟨v2, vs2, d2, ds2, p2, q2, rfl, rfl, rfl, h2, r2⟩ := trodAll_cons r1
  obtain ⟨rfl, rfl, rfl⟩ := trodAll_nil r2
  obtain rfl : args = #[v0, v1, v2] := by cases args; simp_all
  obtain ⟨rfl, rfl⟩ := trodVars_none hV
  clear hA0
  have lt0 : ∀ x ∈ p0, x.block < W.heap.size := by obtain ⟨m, hm⟩ := h0; exact DataW.trod_lt m _ _ _ hm
  have g0 := Dat.of h0 (reach_at (j := 0) hZ rfl rfl)
  obtain ⟨a0, n0, c0, rfl⟩ := okWide_slice (by kernel_rfl : Tryd.prog.underlying 24 = some (.slice 5)) (hval 0 24 v0 rfl rfl)
  obtain ⟨a, n, c, l0, e0, hr0, hn0, hc0, hm0, hy0, hq0, hb0⟩ := g0.nbytes (by kernel_rfl : Tryd.prog.underlying 24 = some (.slice 5)) (by kernel_rfl) (by kernel_rfl)
  obtain ⟨rfl, rfl, rfl⟩ : a0 = a ∧ n0 = n ∧ c0 = c := by simpa [Value.cells] using e0
  have hz0 : a0 = none → n0 = 0 := fun e => by have := hy0 e; omega
  have hs0 : n0 * 1 ≤ 140737488351232 := by rw [(by kernel_rfl : Tryd.prog.bytesOf 5 = 1)] at hq0; exact hq0
  have lt1 : ∀ x ∈ p1, x.block < W.heap.size := by obtain ⟨m, hm⟩ := h1; exact DataW.trod_lt m _ _ _ hm
  have g1 := Dat.of h1 (reach_at (j := 1) hZ rfl rfl)
  obtain ⟨y1, rfl⟩ := okWide_int (by kernel_rfl : Tryd.prog.underlying 3 = some (.int .i64)) (hval 1 3 v1 rfl rfl)
  obtain ⟨z1, e1, lo1, hi1⟩ := g1.i64 (by kernel_rfl)
  obtain rfl : y1 = z1 := by simpa [Value.cells] using e1
  have lt2 : ∀ x ∈ p2, x.block < W.heap.size := by obtain ⟨m, hm⟩ := h2; exact DataW.trod_lt m _ _ _ hm
  have g2 := Dat.of h2 (reach_at (j := 2) hZ rfl rfl)
  obtain ⟨a2, n2, c2, rfl⟩ := okWide_slice (by kernel_rfl : Tryd.prog.underlying 35 = some (.slice 3)) (hval 2 35 v2 rfl rfl)
  obtain ⟨a, n, c, l2, e2, hr2, hn2, hc2, hm2, hy2, hq2, hb2⟩ := g2.ints (by kernel_rfl : Tryd.prog.underlying 35 = some (.slice 3)) (by kernel_rfl) (by kernel_rfl)
  obtain ⟨rfl, rfl, rfl⟩ : a2 = a ∧ n2 = n ∧ c2 = c := by simpa [Value.cells] using e2
  have hz2 : a2 = none → n2 = 0 := fun e => by have := hy2 e; omega
  have hs2 : n2 * 8 ≤ 140737488351232 := by rw [(by kernel_rfl : Tryd.prog.bytesOf 3 = 8)] at hq2; exact hq2
  have tab := laid_of hL
  refine (law_calls (P := Tryd.prog) (f := 4) (args := [.slice a0 n0 c0, .int .i64 y1, .slice a2 n2 c2]) fun Q HQ => TopUnpacks_spec tab hr0 hn0 hc0 hy0 hb0 hr2 hn2 HQ).mono fun e W' ⟨he, bel⟩ => ?_
  subst he
  exact ⟨_, rfl, _, _, _, [], _, [], hW', trodAll_mk1 (shut_bool (by kernel_rfl : Tryd.prog.underlying 4 = some .bool) _), (trodAll_cons_mk (Below.trod laidOut (by kernel_rfl) (of_decide_eq_true (by kernel_rfl)) h0 bel lt0) (trodAll_cons_mk (Below.trod laidOut (by kernel_rfl) (of_decide_eq_true (by kernel_rfl)) h1 bel lt1) (trodAll_cons_mk (Below.trod laidOut (by kernel_rfl) (of_decide_eq_true (by kernel_rfl)) h2 bel lt2) trodAll_mk0))), rfl, bel.frame _, fun h => by cases h⟩
noncomputable def low : Nat := (World.holding Tryd.prog default ⟨#[], #[], []⟩).heap.size
/-- A world for the witness. -/
noncomputable def laidWorld (os : Os) : World :=
  let w0 := World.holding Tryd.prog os ⟨#[], #[], []⟩
  { w0 with heap := (putC 2 (cellsD Rows.laid_haversack_lens_from) (putC 1 (cellsD Rows.laid_haversack_lens_wide) (putC 0 (cellsD Rows.laid_haversack_lens_order) w0.heap))) }
theorem laid_met (os : Os) : laidMet Tryd.prog Rows.topUnpacksRow.laid ((laidWorld os).forCall (fun _ _ => 0) ⟨#[], #[(.slice none 0 0), (.int .i64 0), (.slice none 0 0)], []⟩).memory :=
  laidMet_of_run' 8 (by kernel_rfl) (by kernel_rfl)
theorem reads (os : Os) {H : Type} (enc : TypeId × Value → H) : ∃ places, DataW.whole enc Tryd.prog ((laidWorld os).forCall (fun _ _ => 0) ⟨#[], #[(.slice none 0 0), (.int .i64 0), (.slice none 0 0)], []⟩).memory Tryd.f4.params.toList Rows.topUnpacksSpec.vars false [((.slice none 0 0) : Value), ((.int .i64 0) : Value), ((.slice none 0 0) : Value)] 8 = some ([.nil, .lit (.int .i64 0), .nil], [], places) :=
  ⟨[], by kernel_rfl⟩

set_option maxRecDepth 100000 in
theorem lifted (os : Os) (started : os.Started) (H : Type) (enc : TypeId × Value → H) (F : Stop.Interp) :
    ReturnsInHanded {} Tryd.checked os 4 .any ((OpenSpec.ofChange Rows.topUnpacksSpec).preRow enc Tryd.prog Tryd.f4 Rows.topUnpacksRow.domain false Rows.topUnpacksRow.laid) (((OpenSpec.ofChange Rows.topUnpacksSpec).at F).post enc Tryd.prog Tryd.f4 false true false false) := by
  obtain ⟨places, hx⟩ := reads os enc
  refine returnsInHanded_of_row (C := Tryd.checked) (s := OpenSpec.ofChange Rows.topUnpacksSpec) own started (by kernel_rfl) Tryd.func4
    (witness_row_at (enc := enc) (C := Tryd.checked) false (laidWorld os) #[(.slice none 0 0), (.int .i64 0), (.slice none 0 0)] rfl (by kernel_rfl) (by kernel_rfl) (by kernel_rfl)
      (OpenSpec.preRow_of_cond 8 hx (by kernel_rfl) (fun k hk => by cases hk) (by kernel_rfl) (laid_met os))) ?_
  intro W base args ds gs before hval hW _ _ hZ hL _ _
  exact contract H enc W base args ds gs before hval hW hL _ hZ
theorem said : Rows.TopUnpacksSaid :=
  OpenClaim.holds_of_cond 4 Tryd.f4 rfl rfl rfl rfl rfl rfl rfl ⟨rfl, rfl, rfl, rfl, rfl⟩ rfl rfl rfl rfl rfl (by kernel_rfl) Tryd.func4 (by kernel_rfl)
    (of_decide_eq_true (by kernel_rfl)) (by unfold Func.isWrapper; first | (rw [if_pos (by decide +kernel)]; kernel_rfl) | (rw [if_neg (by decide +kernel)]; exact ⟨rfl, rfl⟩))
    (fun os started H enc _ F => by rw [OpenClaim.pre_eq_preRow]; exact lifted os started H enc F)
#print axioms said
theorem plain (f : FuncId) (fn : Func) (hf : Tryd.pinned.checked.prog.funcNamed Rows.topUnpacksRow.func = some f) (hfn : Tryd.pinned.checked.prog.funcs[f]? = some fn) :
    false = Tryd.pinned.checked.prog.looks [] ∧ ∀ (j : Nat) t, fn.params[j]? = some t → Tryd.pinned.checked.prog.wantsStandIn t = false := by
  obtain rfl : f = 4 := Option.some.inj ((show Tryd.prog.funcNamed Rows.topUnpacksRow.func = some 4 by kernel_rfl).symm.trans hf) |>.symm
  obtain rfl : fn = Tryd.f4 := (Option.some.inj (Tryd.func4.symm.trans hfn)).symm
  refine ⟨by kernel_rfl, fun j t ht => ?_⟩
  rw [Tryd.params4] at ht
  have hm := Array.mem_of_getElem? ht
  simp only [List.mem_toArray, List.mem_cons, List.not_mem_nil, or_false] at hm
  rcases hm with rfl | rfl | rfl
  · exact (show Tryd.prog.wantsStandIn 24 = false by kernel_rfl)
  · exact (show Tryd.prog.wantsStandIn 3 = false by kernel_rfl)
  · exact (show Tryd.prog.wantsStandIn 35 = false by kernel_rfl)
theorem card : Rows.TopUnpacksCardSaid :=
  Claim7.holds_tied_plain_at .later [] _ _ _ _ said (fun _ h => by cases h) (by kernel_rfl) (fun _ h => by cases h) topUnpacks_row_tie rfl ⟨rfl, rfl⟩ (by kernel_rfl) rfl plain (by kernel_rfl)
#print axioms card
end Go.Proofs.YtmkjmmpldepknaaDoor.topUnpacks
