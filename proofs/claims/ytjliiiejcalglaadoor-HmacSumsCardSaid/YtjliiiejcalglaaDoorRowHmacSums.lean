/- Proved here: the given statement of HmacSums: whatever the input, the law returns true and each argument reads behind the call as before. Conditions: those of the given row alone. -/
import Derived.Test.YtjliiiejcalglaaDoorCards
import Derived.Test.YtjliiiejcalglaaDoorTie
import Derived.WalkKit
import Derived.ProofKit
import Derived.OpenShut
import Derived.Deep.DeepHandedRow
import Derived.Below
import Derived.Carry
import Derived.Lib.LaidTab
import Derived.Test.YtjliiiejcalglaaDoorHwOpen
import Derived.Test.YtjliiiejcalglaaDoorLaws4
set_option linter.unusedVariables false
set_option linter.unusedSimpArgs false
namespace Go.Proofs.YtjliiiejcalglaaDoor.hmacSums
open Go.ChangeShapes Go.WideShapes Go.ChangeAt Go.RowKit Go.HW
theorem own : ownKnob Tryd.prog.godebug = none := by kernel_rfl
theorem laidOut : laidOutB Tryd.prog = true := by kernel_rfl
theorem gTab : Tryd.prog.globalNamed "haversack/hmac.k" = some 0 := by kernel_rfl
theorem gTabType : (Tryd.prog.globals[0]?).map (·.type) = some 47 := by kernel_rfl
theorem cellsT : Tryd.prog.cellsOf 47 = 64 := by kernel_rfl
theorem cellsU : Tryd.prog.cellsOf 40 = 1 := by kernel_rfl
def steps : List Int := [1116352408, 1899447441, 3049323471, 3921009573, 961987163, 1508970993, 2453635748, 2870763221, 3624381080, 310598401, 607225278, 1426881987, 1925078388, 2162078206, 2614888103, 3248222580, 3835390401, 4022224774, 264347078, 604807628, 770255983, 1249150122, 1555081692, 1996064986, 2554220882, 2821834349, 2952996808, 3210313671, 3336571891, 3584528711, 113926993, 338241895, 666307205, 773529912, 1294757372, 1396182291, 1695183700, 1986661051, 2177026350, 2456956037, 2730485921, 2820302411, 3259730800, 3345764771, 3516065817, 3600352804, 4094571909, 275423344, 430227734, 506948616, 659060556, 883997877, 958139571, 1322822218, 1537002063, 1747873779, 1955562222, 2024104815, 2227730452, 2361852424, 2428436474, 2756734187, 3204031479, 3329325298]
def tableCells : Array Value := (steps.map fun z => Value.int .u32 z).toArray
theorem laid_of {W : World} (h : laidMetH Tryd.prog Rows.hmacSumsRow.laid W) : KTab W.heap := by
  have t : Lib.TabIs Tryd.prog W "haversack/hmac.k" .u32 steps := Lib.tabIs_of_head (rest := []) gTab gTabType (by kernel_rfl : Tryd.prog.underlying 47 = some (.array 64 40)) (by kernel_rfl : Tryd.prog.underlying 40 = some (.int .u32)) cellsU cellsT h
  intro i hi
  have := t.cell gTab i (by simpa [steps] using hi)
  rw [cell_w] at this
  refine this.trans ?_
  have e : ∀ i : Nat, i < 64 → steps.getD i 0 = ((Sha.ks.getD i 0).toNat : Int) := by decide
  exact congrArg (fun z => some (Value.int .u32 z)) (e i hi)
set_option maxRecDepth 100000 in
theorem contract (H : Type) (enc : TypeId × Value → H) (W : World) (base : Nat) (args : Array Value) (ds gs : List (DataW H)) (before : List MemPlace)
    (hval : ∀ (j : Nat) t v, Tryd.f3.params[j]? = some t → args[j]? = some v → Value.okWide Tryd.prog W .any base t v)
    (hW : DataW.Whole enc Tryd.prog Tryd.f3.params.toList Rows.hmacSumsSpec.vars false W args.toList ds gs before) (hL : laidMetH Tryd.prog Rows.hmacSumsRow.laid W) (vt : List TypeId) (hZ : (DataW.weightsEach Tryd.prog (Tryd.f3.params.toList ++ vt) (ds ++ gs)).all (· ≤ reachBytes) = true) :
    Calls Tryd.prog 3 args W fun e W' => ∃ v, e = .returned v ∧ Rows.hmacSumsSpec.post enc Tryd.prog Tryd.f3 false true false false W args v W' := by
  have hW' := hW
  obtain ⟨p, q, hA0, hV, rfl, hfz, hnd⟩ := hW
  have hA : DataW.TrodAll enc Tryd.prog W 0 (fun _ => true) true Tryd.f3.params.toList args.toList ds p := hA0
  rw [Tryd.params3] at hA hval hZ
  obtain ⟨v0, vs0, d0, ds0, p0, q0, hargs, rfl, rfl, h0, r0⟩ := trodAll_cons hA
  obtain ⟨v1, vs1, d1, ds1, p1, q1, rfl, rfl, rfl, h1, r1⟩ := trodAll_cons r0
  obtain ⟨rfl, rfl, rfl⟩ := trodAll_nil r1
  obtain rfl : args = #[v0, v1] := by cases args; simp_all
  obtain ⟨rfl, rfl⟩ := trodVars_none hV
  clear hA0
  have lt0 : ∀ x ∈ p0, x.block < W.heap.size := by obtain ⟨m, hm⟩ := h0; exact DataW.trod_lt m _ _ _ hm
  have g0 := Dat.of h0 (reach_at (j := 0) hZ rfl rfl)
  obtain ⟨a0, n0, c0, rfl⟩ := okWide_slice (by kernel_rfl : Tryd.prog.underlying 22 = some (.slice 5)) (hval 0 22 v0 rfl rfl)
  obtain ⟨a, n, c, l0, e0, hr0, hn0, hc0, hm0, hy0, hq0, hb0⟩ := g0.nbytes (by kernel_rfl : Tryd.prog.underlying 22 = some (.slice 5)) (by kernel_rfl) (by kernel_rfl)
  obtain ⟨rfl, rfl, rfl⟩ : a0 = a ∧ n0 = n ∧ c0 = c := by simpa [Value.cells] using e0
  have hz0 : a0 = none → n0 = 0 := fun e => by have := hy0 e; omega
  have hs0 : n0 * 1 ≤ 140737488351232 := by rw [(by kernel_rfl : Tryd.prog.bytesOf 5 = 1)] at hq0; exact hq0
  have lt1 : ∀ x ∈ p1, x.block < W.heap.size := by obtain ⟨m, hm⟩ := h1; exact DataW.trod_lt m _ _ _ hm
  have g1 := Dat.of h1 (reach_at (j := 1) hZ rfl rfl)
  obtain ⟨a1, n1, c1, rfl⟩ := okWide_slice (by kernel_rfl : Tryd.prog.underlying 22 = some (.slice 5)) (hval 1 22 v1 rfl rfl)
  obtain ⟨a, n, c, l1, e1, hr1, hn1, hc1, hm1, hy1, hq1, hb1⟩ := g1.nbytes (by kernel_rfl : Tryd.prog.underlying 22 = some (.slice 5)) (by kernel_rfl) (by kernel_rfl)
  obtain ⟨rfl, rfl, rfl⟩ : a1 = a ∧ n1 = n ∧ c1 = c := by simpa [Value.cells] using e1
  have hz1 : a1 = none → n1 = 0 := fun e => by have := hy1 e; omega
  have hs1 : n1 * 1 ≤ 140737488351232 := by rw [(by kernel_rfl : Tryd.prog.bytesOf 5 = 1)] at hq1; exact hq1
  have tab := laid_of hL
  refine (law_calls (P := Tryd.prog) (f := 3) (args := [.slice a0 n0 c0, .slice a1 n1 c1]) fun Q HQ => HmacSums_spec tab hr0 hn0 hz0 hb0 hr1 hn1 hz1 hb1 HQ).mono fun e W' ⟨he, bel⟩ => ?_
  subst he
  exact ⟨_, rfl, _, _, _, [], _, [], hW', trodAll_mk1 (shut_bool (by kernel_rfl : Tryd.prog.underlying 4 = some .bool) _), (trodAll_cons_mk (Below.trod laidOut (by kernel_rfl) (of_decide_eq_true (by kernel_rfl)) h0 bel lt0) (trodAll_cons_mk (Below.trod laidOut (by kernel_rfl) (of_decide_eq_true (by kernel_rfl)) h1 bel lt1) trodAll_mk0)), rfl, bel.frame _, fun h => by cases h⟩
/-- A world for the witness. -/
noncomputable def laidWorld (os : Os) : World :=
  { World.holding Tryd.prog os ⟨#[], #[], []⟩ with heap := (World.holding Tryd.prog os ⟨#[], #[], []⟩).heap.modify 0 fun
      | .cells _ t frozen => .cells tableCells t frozen
      | o => o }
theorem laid_met (os : Os) : laidMet Tryd.prog Rows.hmacSumsRow.laid ((laidWorld os).forCall (fun _ _ => 0) ⟨#[], #[(.slice none 0 0), (.slice none 0 0)], []⟩).memory :=
  laidMet_of_run' 8 (by kernel_rfl) (by kernel_rfl)
theorem reads (os : Os) {H : Type} (enc : TypeId × Value → H) : ∃ places, DataW.whole enc Tryd.prog ((laidWorld os).forCall (fun _ _ => 0) ⟨#[], #[(.slice none 0 0), (.slice none 0 0)], []⟩).memory Tryd.f3.params.toList Rows.hmacSumsSpec.vars false [((.slice none 0 0) : Value), ((.slice none 0 0) : Value)] 8 = some ([.nil, .nil], [], places) :=
  ⟨[], by kernel_rfl⟩

set_option maxRecDepth 100000 in
theorem lifted (os : Os) (started : os.Started) (H : Type) (enc : TypeId × Value → H) (F : Stop.Interp) :
    ReturnsInHanded {} Tryd.checked os 3 .any ((OpenSpec.ofChange Rows.hmacSumsSpec).preRow enc Tryd.prog Tryd.f3 Rows.hmacSumsRow.domain false Rows.hmacSumsRow.laid) (((OpenSpec.ofChange Rows.hmacSumsSpec).at F).post enc Tryd.prog Tryd.f3 false true false false) := by
  obtain ⟨places, hx⟩ := reads os enc
  refine returnsInHanded_of_row (C := Tryd.checked) (s := OpenSpec.ofChange Rows.hmacSumsSpec) own started (by kernel_rfl) Tryd.func3
    (witness_row_at (enc := enc) (C := Tryd.checked) false (laidWorld os) #[(.slice none 0 0), (.slice none 0 0)] rfl (by kernel_rfl) (by kernel_rfl) (by kernel_rfl)
      (OpenSpec.preRow_of_cond 8 hx (by kernel_rfl) (fun k hk => by cases hk) (by kernel_rfl) (laid_met os))) ?_
  intro W base args ds gs before hval hW _ _ hZ hL _ _
  exact contract H enc W base args ds gs before hval hW hL _ hZ
theorem said : Rows.HmacSumsSaid :=
  OpenClaim.holds_of_cond 3 Tryd.f3 rfl rfl rfl rfl rfl rfl rfl ⟨rfl, rfl, rfl, rfl, rfl⟩ rfl rfl rfl rfl rfl (by kernel_rfl) Tryd.func3 (by kernel_rfl)
    (of_decide_eq_true (by kernel_rfl)) (by unfold Func.isWrapper; first | (rw [if_pos (by decide +kernel)]; kernel_rfl) | (rw [if_neg (by decide +kernel)]; exact ⟨rfl, rfl⟩))
    (fun os started H enc _ F => by rw [OpenClaim.pre_eq_preRow]; exact lifted os started H enc F)
#print axioms said
theorem plain (f : FuncId) (fn : Func) (hf : Tryd.pinned.checked.prog.funcNamed Rows.hmacSumsRow.func = some f) (hfn : Tryd.pinned.checked.prog.funcs[f]? = some fn) :
    false = Tryd.pinned.checked.prog.looks [] ∧ ∀ (j : Nat) t, fn.params[j]? = some t → Tryd.pinned.checked.prog.wantsStandIn t = false := by
  obtain rfl : f = 3 := Option.some.inj ((show Tryd.prog.funcNamed Rows.hmacSumsRow.func = some 3 by kernel_rfl).symm.trans hf) |>.symm
  obtain rfl : fn = Tryd.f3 := (Option.some.inj (Tryd.func3.symm.trans hfn)).symm
  refine ⟨by kernel_rfl, fun j t ht => ?_⟩
  rw [Tryd.params3] at ht
  have hm := Array.mem_of_getElem? ht
  simp only [List.mem_toArray, List.mem_cons, List.not_mem_nil, or_false] at hm
  rcases hm with rfl | rfl
  · exact (show Tryd.prog.wantsStandIn 22 = false by kernel_rfl)
  · exact (show Tryd.prog.wantsStandIn 22 = false by kernel_rfl)
theorem card : Rows.HmacSumsCardSaid :=
  Claim7.holds_tied_plain_at .later [] _ _ _ _ said (fun _ h => by cases h) (by kernel_rfl) (fun _ h => by cases h) hmacSums_row_tie rfl ⟨rfl, rfl⟩ (by kernel_rfl) rfl plain (by kernel_rfl)
#print axioms card
end Go.Proofs.YtjliiiejcalglaaDoor.hmacSums
