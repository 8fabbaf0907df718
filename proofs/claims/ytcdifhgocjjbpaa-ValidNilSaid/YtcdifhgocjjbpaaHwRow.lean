/- From the row's reading of arguments to heaps, and back. -/
import Derived.Test.YtcdifhgocjjbpaaHwNum
import Derived.OpenShut
import Derived.Below
import Derived.Carry
set_option linter.unusedVariables false
set_option linter.unusedSimpArgs false
namespace Go.HW
open Go Go.ChangeShapes Go.WideShapes Go.RowKit
section
variable {H : Type} {enc : TypeId × Value → H} {P : Program} {W : World} {base : Nat}

theorem toInt8 {z : Int} (h : (Lit.int .u8 z).wf = true) : ((BitVec.ofInt 8 z).toNat : Int) = z := by
  have := bounds_u8 h
  rw [BitVec.toNat_ofInt]
  omega
theorem open_bytes {t e : TypeId} {v : Value} {d : DataW H} {p : List MemPlace} {sp : Nat → Bool} {hd : Bool} (ht : P.underlying t = some (.slice e)) (he : P.underlying e = some (.int .u8)) (hc : P.cellsOf e = 1)
    (hval : Value.okWide P W .any base t v) (h1 : DataW.Trod enc P W 0 sp hd t v d p) : ∃ a n c bs, v = .slice a n c ∧ Rd W.heap a (byV bs) ∧ bs.length = n ∧ n ≤ c := by
  obtain ⟨a, n, c, rfl⟩ := okWide_slice ht hval
  obtain ⟨fuel, hf⟩ := h1
  rcases open_ints ht he hc hf with ⟨hcs, _⟩ | ⟨x, l, c', zs, hcs, _, hl, hm, hz, _, hcell, hwz⟩
  · simp [Value.cells] at hcs
    obtain ⟨rfl, rfl, rfl⟩ := hcs
    exact ⟨none, 0, 0, [], rfl, Rd.nil _ _, rfl, Nat.le_refl _⟩
  · simp [Value.cells] at hcs
    obtain ⟨rfl, rfl, rfl⟩ := hcs
    have hzl : n ≤ zs.length := by rw [hz]; split <;> omega
    refine ⟨_, n, c, (zs.take n).map (BitVec.ofInt 8), rfl, ?_, by simp; omega, hl⟩
    intro i u hu
    refine ⟨_, rfl, ?_⟩
    simp only [byV, List.map_map, List.getElem?_map] at hu
    have hi : i < (zs.take n).length := by
      rcases Nat.lt_or_ge i (zs.take n).length with h | h
      · exact h
      · rw [List.getElem?_eq_none h] at hu; cases hu
    rw [List.getElem?_eq_getElem hi] at hu
    simp only [Option.map_some, Option.some.injEq, Function.comp] at hu
    have hi' : i < zs.length := by simp at hi; omega
    have := hcell i hi'
    rw [cell_w] at this
    rw [this, ← hu]
    simp only [List.getElem_take, List.getD_eq_getElem?_getD, List.getElem?_eq_getElem hi', Option.getD_some]
    rw [toInt8 (hwz _ (List.getElem_mem hi'))]
theorem open_u32 {z : Int} (h : (Lit.int .u32 z).wf = true) : ∃ s : BitVec 32, z = s.toNat := ⟨BitVec.ofInt 32 z, by
  have := bounds_u32 h
  rw [BitVec.toNat_ofInt]; omega⟩
theorem open_u64 {z : Int} (h : (Lit.int .u64 z).wf = true) : ∃ s : BitVec 64, z = s.toNat := ⟨BitVec.ofInt 64 z, by
  have := bounds_u64 h
  rw [BitVec.toNat_ofInt]; omega⟩
theorem below_of {w w' : World} (s : Same w w') (e : ExtB w.heap.size w.heap w'.heap) : Below w.heap.size w w' := ⟨s.os, s.tape, s.output, s.size, e.2⟩
/-- The contract of a law, as the row wants it. -/
theorem law_calls {f : FuncId} {args : List Value} (H : ∀ Q : Value → Heap → Prop, (∀ h', ExtB W.heap.size W.heap h' → Q (.bool true) h') → SpecH P f args W.heap Q) :
    Calls P f args.toArray W fun e W' => e = .returned (.bool true) ∧ Below W.heap.size W W' :=
  (H (fun v h' => v = .bool true ∧ ExtB W.heap.size W.heap h') (fun h' e => ⟨rfl, e⟩) W rfl).mono fun _ _ ⟨_, he, hs, hv, hx⟩ => ⟨by rw [he, hv], below_of hs hx⟩
end
end Go.HW
