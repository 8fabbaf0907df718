/- Proved here: the given statement of FrameTells: whatever the input, the law returns true and each argument reads behind the call as before. Conditions: those of the given row alone. -/
import Derived.Test.YtdjjchfhccmjgaaDoorCards
import Derived.Test.YtdjjchfhccmjgaaDoorTie
import Derived.WalkKit
import Derived.ProofKit
import Derived.OpenShut
import Derived.Deep.DeepHandedRow
import Derived.Below
import Derived.Carry
import Derived.Lib.LaidTab
import Derived.Test.YtdjjchfhccmjgaaDoorHwOpen
import Derived.Test.YtdjjchfhccmjgaaDoorOpn
set_option linter.unusedVariables false
set_option linter.unusedSimpArgs false
namespace Go.Proofs.YtdjjchfhccmjgaaDoor.frameTells
open Go.ChangeShapes Go.WideShapes Go.ChangeAt Go.RowKit Go.HW
theorem own : ownKnob Tryd.prog.godebug = none := by kernel_rfl
theorem laidOut : laidOutB Tryd.prog = true := by kernel_rfl
theorem gTab : Tryd.prog.globalNamed "haversack/little.steps" = some 0 := by kernel_rfl
theorem gTabType : (Tryd.prog.globals[0]?).map (·.type) = some 63 := by kernel_rfl
theorem cellsT : Tryd.prog.cellsOf 63 = 16 := by kernel_rfl
theorem cellsU : Tryd.prog.cellsOf 51 = 1 := by kernel_rfl
def steps : List Int := [0, 498536548, 997073096, 651767980, 1994146192, 1802195444, 1303535960, 1342533948, 3988292384, 4027552580, 3604390888, 3412177804, 2607071920, 2262029012, 2685067896, 3183342108]
def tableCells : Array Value := (steps.map fun z => Value.int .u32 z).toArray
theorem laid_of {W : World} (h : laidMetH Tryd.prog Rows.frameTellsRow.laid W) : Tab W.heap := by
  have t : Lib.TabIs Tryd.prog W "haversack/little.steps" .u32 steps := Lib.tabIs_of_head (rest := []) gTab gTabType (by kernel_rfl : Tryd.prog.underlying 63 = some (.array 16 51)) (by kernel_rfl : Tryd.prog.underlying 51 = some (.int .u32)) cellsU cellsT h
  intro i hi
  have := t.cell gTab i (by simpa [steps] using hi)
  rw [cell_w] at this
  refine this.trans ?_
  have e : ∀ i : Nat, i < 16 → steps.getD i 0 = ((Crc.four (BitVec.ofNat 32 i)).toNat : Int) := by decide
  simpa [steps] using congrArg (fun z => some (Value.int .u32 z)) (e i hi)
set_option maxRecDepth 100000 in
theorem contract (H : Type) (enc : TypeId × Value → H) (W : World) (base : Nat) (args : Array Value) (ds gs : List (DataW H)) (before : List MemPlace)
    (hval : ∀ (j : Nat) t v, Tryd.f7.params[j]? = some t → args[j]? = some v → Value.okWide Tryd.prog W .any base t v)
    (hW : DataW.Whole enc Tryd.prog Tryd.f7.params.toList Rows.frameTellsSpec.vars false W args.toList ds gs before) (hL : laidMetH Tryd.prog Rows.frameTellsRow.laid W) (vt : List TypeId) (hZ : (DataW.weightsEach Tryd.prog (Tryd.f7.params.toList ++ vt) (ds ++ gs)).all (· ≤ reachBytes) = true) :
    Calls Tryd.prog 7 args W fun e W' => ∃ v, e = .returned v ∧ Rows.frameTellsSpec.post enc Tryd.prog Tryd.f7 false true false false W args v W' := by
  have hW' := hW
  obtain ⟨p, q, hA0, hV, rfl, hfz, hnd⟩ := hW
  have hA : DataW.TrodAll enc Tryd.prog W 0 (fun _ => true) true Tryd.f7.params.toList args.toList ds p := hA0
  rw [Tryd.params7] at hA hval hZ
  obtain ⟨v0, vs0, d0, ds0, p0, q0, hargs, rfl, rfl, h0, r0⟩ := trodAll_cons hA
  obtain ⟨v1, vs1, d1, ds1, p1, q1, rfl, rfl, rfl, h1, r1⟩ := trodAll_cons r0
  obtain ⟨v2, vs2, d2, ds2, p2, q2, rfl, rfl, rfl, h2, r2⟩ := trodAll_cons r1
  obtain ⟨v3, vs3, d3, ds3, p3, q3, rfl, rfl, rfl, h3, r3⟩ := trodAll_cons r2
  obtain ⟨rfl, rfl, rfl⟩ := trodAll_nil r3
  obtain rfl : args = #[v0, v1, v2, v3] := by cases args; simp_all
  obtain ⟨rfl, rfl⟩ := trodVars_none hV
  clear hA0
  have lt0 : ∀ x ∈ p0, x.block < W.heap.size := by obtain ⟨m, hm⟩ := h0; exact DataW.trod_lt m _ _ _ hm
  have g0 := Dat.of h0 (reach_at (j := 0) hZ rfl rfl)
  obtain ⟨fs0, hfs0⟩ := struct_of (P := Tryd.prog) (t := 23) (by kernel_rfl)
  obtain ⟨cs0, rfl, hcs0⟩ := okWide_struct hfs0 (hval 0 23 v0 rfl rfl)
  obtain ⟨x0, e0, hx0⟩ := open_fm (by show cs0.toList.length = _; rw [Array.length_toList]; exact hcs0.trans (by kernel_rfl)) g0
  obtain rfl : cs0 = (frV x0).toArray := by apply Array.toList_inj.1; simpa [Value.cells] using e0
  have lt1 : ∀ x ∈ p1, x.block < W.heap.size := by obtain ⟨m, hm⟩ := h1; exact DataW.trod_lt m _ _ _ hm
  have g1 := Dat.of h1 (reach_at (j := 1) hZ rfl rfl)
  obtain ⟨fs1, hfs1⟩ := struct_of (P := Tryd.prog) (t := 23) (by kernel_rfl)
  obtain ⟨cs1, rfl, hcs1⟩ := okWide_struct hfs1 (hval 1 23 v1 rfl rfl)
  obtain ⟨x1, e1, hx1⟩ := open_fm (by show cs1.toList.length = _; rw [Array.length_toList]; exact hcs1.trans (by kernel_rfl)) g1
  obtain rfl : cs1 = (frV x1).toArray := by apply Array.toList_inj.1; simpa [Value.cells] using e1
  have lt2 : ∀ x ∈ p2, x.block < W.heap.size := by obtain ⟨m, hm⟩ := h2; exact DataW.trod_lt m _ _ _ hm
  have g2 := Dat.of h2 (reach_at (j := 2) hZ rfl rfl)
  obtain ⟨y2, rfl⟩ := okWide_int (by kernel_rfl : Tryd.prog.underlying 3 = some (.int .i64)) (hval 2 3 v2 rfl rfl)
  obtain ⟨z2, e2, lo2, hi2⟩ := g2.i64 (by kernel_rfl)
  obtain rfl : y2 = z2 := by simpa [Value.cells] using e2
  have lt3 : ∀ x ∈ p3, x.block < W.heap.size := by obtain ⟨m, hm⟩ := h3; exact DataW.trod_lt m _ _ _ hm
  have g3 := Dat.of h3 (reach_at (j := 3) hZ rfl rfl)
  obtain ⟨y3, rfl⟩ := okWide_int (by kernel_rfl : Tryd.prog.underlying 5 = some (.int .u8)) (hval 3 5 v3 rfl rfl)
  obtain ⟨s3, e3, hs3⟩ := g3.u8 (by kernel_rfl)
  obtain rfl : y3 = (s3 : Int) := by simpa [Value.cells] using e3
  have tab := laid_of hL
  refine (law_calls (P := Tryd.prog) (f := 7) (args := [.agg (frV x0).toArray, .agg (frV x1).toArray, .int .i64 y2, .int .u8 (s3 : Nat)]) fun Q HQ => FrameTells_spec tab lo2 hi2 hs3 HQ).mono fun e W' ⟨he, bel⟩ => ?_
  subst he
  exact ⟨_, rfl, _, _, _, [], _, [], hW', trodAll_mk1 (shut_bool (by kernel_rfl : Tryd.prog.underlying 4 = some .bool) _), (trodAll_cons_mk (Below.trod laidOut (by kernel_rfl) (of_decide_eq_true (by kernel_rfl)) h0 bel lt0) (trodAll_cons_mk (Below.trod laidOut (by kernel_rfl) (of_decide_eq_true (by kernel_rfl)) h1 bel lt1) (trodAll_cons_mk (Below.trod laidOut (by kernel_rfl) (of_decide_eq_true (by kernel_rfl)) h2 bel lt2) (trodAll_cons_mk (Below.trod laidOut (by kernel_rfl) (of_decide_eq_true (by kernel_rfl)) h3 bel lt3) trodAll_mk0)))), rfl, bel.frame _, fun h => by cases h⟩
/-- A world for the witness. -/
noncomputable def laidWorld (os : Os) : World :=
  { World.holding Tryd.prog os ⟨#[], #[], []⟩ with heap := (World.holding Tryd.prog os ⟨#[], #[], []⟩).heap.modify 0 fun
      | .cells _ t frozen => .cells tableCells t frozen
      | o => o }
theorem laid_met (os : Os) : laidMet Tryd.prog Rows.frameTellsRow.laid ((laidWorld os).forCall (fun _ _ => 0) ⟨#[], #[(.agg #[(.int .i64 0), (.string (⟨#[]⟩ : ByteArray))]), (.agg #[(.int .i64 0), (.string (⟨#[]⟩ : ByteArray))]), (.int .i64 0), (.int .u8 0)], []⟩).memory :=
  laidMet_of_run' 8 (by kernel_rfl) (by kernel_rfl)
theorem reads (os : Os) {H : Type} (enc : TypeId × Value → H) : ∃ places, DataW.whole enc Tryd.prog ((laidWorld os).forCall (fun _ _ => 0) ⟨#[], #[(.agg #[(.int .i64 0), (.string (⟨#[]⟩ : ByteArray))]), (.agg #[(.int .i64 0), (.string (⟨#[]⟩ : ByteArray))]), (.int .i64 0), (.int .u8 0)], []⟩).memory Tryd.f7.params.toList Rows.frameTellsSpec.vars false [((.agg #[(.int .i64 0), (.string (⟨#[]⟩ : ByteArray))]) : Value), ((.agg #[(.int .i64 0), (.string (⟨#[]⟩ : ByteArray))]) : Value), ((.int .i64 0) : Value), ((.int .u8 0) : Value)] 8 = some ([.agg [.lit (.int .i64 0), .lit (.string [])], .agg [.lit (.int .i64 0), .lit (.string [])], .lit (.int .i64 0), .lit (.int .u8 0)], [], places) :=
  ⟨[], by kernel_rfl⟩

set_option maxRecDepth 100000 in
theorem lifted (os : Os) (started : os.Started) (H : Type) (enc : TypeId × Value → H) (F : Stop.Interp) :
    ReturnsInHanded {} Tryd.checked os 7 .any ((OpenSpec.ofChange Rows.frameTellsSpec).preRow enc Tryd.prog Tryd.f7 Rows.frameTellsRow.domain false Rows.frameTellsRow.laid) (((OpenSpec.ofChange Rows.frameTellsSpec).at F).post enc Tryd.prog Tryd.f7 false true false false) := by
  obtain ⟨places, hx⟩ := reads os enc
  refine returnsInHanded_of_row (C := Tryd.checked) (s := OpenSpec.ofChange Rows.frameTellsSpec) own started (by kernel_rfl) Tryd.func7
    (witness_row_at (enc := enc) (C := Tryd.checked) false (laidWorld os) #[(.agg #[(.int .i64 0), (.string (⟨#[]⟩ : ByteArray))]), (.agg #[(.int .i64 0), (.string (⟨#[]⟩ : ByteArray))]), (.int .i64 0), (.int .u8 0)] rfl (by kernel_rfl) (by kernel_rfl) (by kernel_rfl)
      (OpenSpec.preRow_of_cond 8 hx (by kernel_rfl) (fun k hk => by cases hk) (by kernel_rfl) (laid_met os))) ?_
  intro W base args ds gs before hval hW _ _ hZ hL _ _
  exact contract H enc W base args ds gs before hval hW hL _ hZ
theorem said : Rows.FrameTellsSaid :=
  OpenClaim.holds_of_cond 7 Tryd.f7 rfl rfl rfl rfl rfl rfl rfl ⟨rfl, rfl, rfl, rfl, rfl⟩ rfl rfl rfl rfl rfl (by kernel_rfl) Tryd.func7 (by kernel_rfl)
    (of_decide_eq_true (by kernel_rfl)) (by unfold Func.isWrapper; first | (rw [if_pos (by decide +kernel)]; kernel_rfl) | (rw [if_neg (by decide +kernel)]; exact ⟨rfl, rfl⟩))
    (fun os started H enc _ F => by rw [OpenClaim.pre_eq_preRow]; exact lifted os started H enc F)
#print axioms said
theorem plain (f : FuncId) (fn : Func) (hf : Tryd.pinned.checked.prog.funcNamed Rows.frameTellsRow.func = some f) (hfn : Tryd.pinned.checked.prog.funcs[f]? = some fn) :
    false = Tryd.pinned.checked.prog.looks [] ∧ ∀ (j : Nat) t, fn.params[j]? = some t → Tryd.pinned.checked.prog.wantsStandIn t = false := by
  obtain rfl : f = 7 := Option.some.inj ((show Tryd.prog.funcNamed Rows.frameTellsRow.func = some 7 by kernel_rfl).symm.trans hf) |>.symm
  obtain rfl : fn = Tryd.f7 := (Option.some.inj (Tryd.func7.symm.trans hfn)).symm
  refine ⟨by kernel_rfl, fun j t ht => ?_⟩
  rw [Tryd.params7] at ht
  have hm := Array.mem_of_getElem? ht
  simp only [List.mem_toArray, List.mem_cons, List.not_mem_nil, or_false] at hm
  rcases hm with rfl | rfl | rfl | rfl
  · exact (show Tryd.prog.wantsStandIn 23 = false by kernel_rfl)
  · exact (show Tryd.prog.wantsStandIn 23 = false by kernel_rfl)
  · exact (show Tryd.prog.wantsStandIn 3 = false by kernel_rfl)
  · exact (show Tryd.prog.wantsStandIn 5 = false by kernel_rfl)
theorem card : Rows.FrameTellsCardSaid :=
  Claim7.holds_tied_plain_at .later [] _ _ _ _ said (fun _ h => by cases h) (by kernel_rfl) (fun _ h => by cases h) frameTells_row_tie rfl ⟨rfl, rfl⟩ (by kernel_rfl) rfl plain (by kernel_rfl)
#print axioms card
end Go.Proofs.YtdjjchfhccmjgaaDoor.frameTells
