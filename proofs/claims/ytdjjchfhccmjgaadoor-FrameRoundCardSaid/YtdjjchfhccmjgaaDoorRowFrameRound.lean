/- Proved here: the given statement of FrameRound: whatever the input, the law returns true and each argument reads behind the call as before. Conditions: those of the given row alone. -/
import Derived.Test.YtdjjchfhccmjgaaDoorCards
import Derived.Test.YtdjjchfhccmjgaaDoorTie
import Derived.WalkKit
import Derived.ProofKit
import Derived.OpenShut
import Derived.Deep.DeepHandedRow
import Derived.Below
import Derived.Carry
import Derived.Lib.LaidTab
import Derived.Test.YtdjjchfhccmjgaaDoorHwOpen
import Derived.Test.YtdjjchfhccmjgaaDoorOpn
set_option linter.unusedVariables false
set_option linter.unusedSimpArgs false
namespace Go.Proofs.YtdjjchfhccmjgaaDoor.frameRound
open Go.ChangeShapes Go.WideShapes Go.ChangeAt Go.RowKit Go.HW
theorem own : ownKnob Tryd.prog.godebug = none := by kernel_rfl
theorem laidOut : laidOutB Tryd.prog = true := by kernel_rfl
theorem gTab : Tryd.prog.globalNamed "haversack/little.steps" = some 0 := by kernel_rfl
theorem gTabType : (Tryd.prog.globals[0]?).map (·.type) = some 63 := by kernel_rfl
theorem cellsT : Tryd.prog.cellsOf 63 = 16 := by kernel_rfl
theorem cellsU : Tryd.prog.cellsOf 51 = 1 := by kernel_rfl
def steps : List Int := [0, 498536548, 997073096, 651767980, 1994146192, 1802195444, 1303535960, 1342533948, 3988292384, 4027552580, 3604390888, 3412177804, 2607071920, 2262029012, 2685067896, 3183342108]
def tableCells : Array Value := (steps.map fun z => Value.int .u32 z).toArray
theorem laid_of {W : World} (h : laidMetH Tryd.prog Rows.frameRoundRow.laid W) : Tab W.heap := by
  have t : Lib.TabIs Tryd.prog W "haversack/little.steps" .u32 steps := Lib.tabIs_of_head (rest := []) gTab gTabType (by kernel_rfl : Tryd.prog.underlying 63 = some (.array 16 51)) (by kernel_rfl : Tryd.prog.underlying 51 = some (.int .u32)) cellsU cellsT h
  intro i hi
  have := t.cell gTab i (by simpa [steps] using hi)
  rw [cell_w] at this
  refine this.trans ?_
  have e : ∀ i : Nat, i < 16 → steps.getD i 0 = ((Crc.four (BitVec.ofNat 32 i)).toNat : Int) := by decide
  simpa [steps] using congrArg (fun z => some (Value.int .u32 z)) (e i hi)
set_option maxRecDepth 100000 in
theorem contract (H : Type) (enc : TypeId × Value → H) (W : World) (base : Nat) (args : Array Value) (ds gs : List (DataW H)) (before : List MemPlace)
    (hval : ∀ (j : Nat) t v, Tryd.f6.params[j]? = some t → args[j]? = some v → Value.okWide Tryd.prog W .any base t v)
    (hW : DataW.Whole enc Tryd.prog Tryd.f6.params.toList Rows.frameRoundSpec.vars false W args.toList ds gs before) (hL : laidMetH Tryd.prog Rows.frameRoundRow.laid W) (vt : List TypeId) (hZ : (DataW.weightsEach Tryd.prog (Tryd.f6.params.toList ++ vt) (ds ++ gs)).all (· ≤ reachBytes) = true) :
    Calls Tryd.prog 6 args W fun e W' => ∃ v, e = .returned v ∧ Rows.frameRoundSpec.post enc Tryd.prog Tryd.f6 false true false false W args v W' := by
  have hW' := hW
  obtain ⟨p, q, hA0, hV, rfl, hfz, hnd⟩ := hW
  have hA : DataW.TrodAll enc Tryd.prog W 0 (fun _ => true) true Tryd.f6.params.toList args.toList ds p := hA0
  rw [Tryd.params6] at hA hval hZ
  obtain ⟨v0, vs0, d0, ds0, p0, q0, hargs, rfl, rfl, h0, r0⟩ := trodAll_cons hA
  obtain ⟨rfl, rfl, rfl⟩ := trodAll_nil r0
  obtain rfl : args = #[v0] := by cases args; simp_all
  obtain ⟨rfl, rfl⟩ := trodVars_none hV
  clear hA0
  have lt0 : ∀ x ∈ p0, x.block < W.heap.size := by obtain ⟨m, hm⟩ := h0; exact DataW.trod_lt m _ _ _ hm
  have g0 := Dat.of h0 (reach_at (j := 0) hZ rfl rfl)
  obtain ⟨a0, n0, c0, rfl⟩ := okWide_slice (by kernel_rfl : Tryd.prog.underlying 36 = some (.slice 23)) (hval 0 36 v0 rfl rfl)
  obtain ⟨a, n, c, l0, e0, hr0, hn0, hc0, hm0, hy0, hq0, hb0⟩ := g0.rows frV (fun _ => True) (by kernel_rfl : Tryd.prog.underlying 36 = some (.slice 23)) (by kernel_rfl) (fun _ => rfl) (fun _ hl hg => open_fm hl hg)
  obtain ⟨rfl, rfl, rfl⟩ : a0 = a ∧ n0 = n ∧ c0 = c := by simpa [Value.cells] using e0
  have hz0 : a0 = none → n0 = 0 := fun e => by have := hy0 e; omega
  have hs0 : n0 * 24 ≤ 140737488351232 := by rw [(by kernel_rfl : Tryd.prog.bytesOf 23 = 24)] at hq0; exact hq0
  have tab := laid_of hL
  refine (law_calls (P := Tryd.prog) (f := 6) (args := [.slice a0 n0 c0]) fun Q HQ => FrameRound_spec tab hr0 hn0 HQ).mono fun e W' ⟨he, bel⟩ => ?_
  subst he
  exact ⟨_, rfl, _, _, _, [], _, [], hW', trodAll_mk1 (shut_bool (by kernel_rfl : Tryd.prog.underlying 4 = some .bool) _), (trodAll_cons_mk (Below.trod laidOut (by kernel_rfl) (of_decide_eq_true (by kernel_rfl)) h0 bel lt0) trodAll_mk0), rfl, bel.frame _, fun h => by cases h⟩
/-- A world for the witness. -/
noncomputable def laidWorld (os : Os) : World :=
  { World.holding Tryd.prog os ⟨#[], #[], []⟩ with heap := (World.holding Tryd.prog os ⟨#[], #[], []⟩).heap.modify 0 fun
      | .cells _ t frozen => .cells tableCells t frozen
      | o => o }
theorem laid_met (os : Os) : laidMet Tryd.prog Rows.frameRoundRow.laid ((laidWorld os).forCall (fun _ _ => 0) ⟨#[], #[(.slice none 0 0)], []⟩).memory :=
  laidMet_of_run' 8 (by kernel_rfl) (by kernel_rfl)
theorem reads (os : Os) {H : Type} (enc : TypeId × Value → H) : ∃ places, DataW.whole enc Tryd.prog ((laidWorld os).forCall (fun _ _ => 0) ⟨#[], #[(.slice none 0 0)], []⟩).memory Tryd.f6.params.toList Rows.frameRoundSpec.vars false [((.slice none 0 0) : Value)] 8 = some ([.nil], [], places) :=
  ⟨[], by kernel_rfl⟩

set_option maxRecDepth 100000 in
theorem lifted (os : Os) (started : os.Started) (H : Type) (enc : TypeId × Value → H) (F : Stop.Interp) :
    ReturnsInHanded {} Tryd.checked os 6 .any ((OpenSpec.ofChange Rows.frameRoundSpec).preRow enc Tryd.prog Tryd.f6 Rows.frameRoundRow.domain false Rows.frameRoundRow.laid) (((OpenSpec.ofChange Rows.frameRoundSpec).at F).post enc Tryd.prog Tryd.f6 false true false false) := by
  obtain ⟨places, hx⟩ := reads os enc
  refine returnsInHanded_of_row (C := Tryd.checked) (s := OpenSpec.ofChange Rows.frameRoundSpec) own started (by kernel_rfl) Tryd.func6
    (witness_row_at (enc := enc) (C := Tryd.checked) false (laidWorld os) #[(.slice none 0 0)] rfl (by kernel_rfl) (by kernel_rfl) (by kernel_rfl)
      (OpenSpec.preRow_of_cond 8 hx (by kernel_rfl) (fun k hk => by cases hk) (by kernel_rfl) (laid_met os))) ?_
  intro W base args ds gs before hval hW _ _ hZ hL _ _
  exact contract H enc W base args ds gs before hval hW hL _ hZ
theorem said : Rows.FrameRoundSaid :=
  OpenClaim.holds_of_cond 6 Tryd.f6 rfl rfl rfl rfl rfl rfl rfl ⟨rfl, rfl, rfl, rfl, rfl⟩ rfl rfl rfl rfl rfl (by kernel_rfl) Tryd.func6 (by kernel_rfl)
    (of_decide_eq_true (by kernel_rfl)) (by unfold Func.isWrapper; first | (rw [if_pos (by decide +kernel)]; kernel_rfl) | (rw [if_neg (by decide +kernel)]; exact ⟨rfl, rfl⟩))
    (fun os started H enc _ F => by rw [OpenClaim.pre_eq_preRow]; exact lifted os started H enc F)
#print axioms said
theorem plain (f : FuncId) (fn : Func) (hf : Tryd.pinned.checked.prog.funcNamed Rows.frameRoundRow.func = some f) (hfn : Tryd.pinned.checked.prog.funcs[f]? = some fn) :
    false = Tryd.pinned.checked.prog.looks [] ∧ ∀ (j : Nat) t, fn.params[j]? = some t → Tryd.pinned.checked.prog.wantsStandIn t = false := by
  obtain rfl : f = 6 := Option.some.inj ((show Tryd.prog.funcNamed Rows.frameRoundRow.func = some 6 by kernel_rfl).symm.trans hf) |>.symm
  obtain rfl : fn = Tryd.f6 := (Option.some.inj (Tryd.func6.symm.trans hfn)).symm
  refine ⟨by kernel_rfl, fun j t ht => ?_⟩
  rw [Tryd.params6] at ht
  have hm := Array.mem_of_getElem? ht
  simp only [List.mem_toArray, List.mem_cons, List.not_mem_nil, or_false] at hm
  rcases hm with rfl
  · exact (show Tryd.prog.wantsStandIn 36 = false by kernel_rfl)
theorem card : Rows.FrameRoundCardSaid :=
  Claim7.holds_tied_plain_at .later [] _ _ _ _ said (fun _ h => by cases h) (by kernel_rfl) (fun _ h => by cases h) frameRound_row_tie rfl ⟨rfl, rfl⟩ (by kernel_rfl) rfl plain (by kernel_rfl)
#print axioms card
end Go.Proofs.YtdjjchfhccmjgaaDoor.frameRound
