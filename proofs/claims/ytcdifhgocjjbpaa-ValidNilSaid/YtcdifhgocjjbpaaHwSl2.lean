/- A part of a slice of rows. -/
import Derived.Test.YtcdifhgocjjbpaaHwSl
set_option linter.unusedVariables false
namespace Go.HW
open Go
section
variable {h : Heap} {L : List Assn}
/-- A part of a slice of rows, read wherever the list holds. -/
theorem cutS {P : Program} {t e : TypeId} {sz bz : Nat} {z : Value} (E : Elem P t e sz bz z) {a : Option Addr} {n c i j : Nat} {xs : List Value} {lo hi : Option Value} {K : Value → Heap → Prop} (hr : Gv L a xs) (hn : xs.length = n * sz) (hnc : n ≤ c) (hn0 : a = none → c = 0) (hij : i ≤ j) (hj : j ≤ n) (hlo : bnd lo 0 = (i : Int)) (hhi : bnd hi (n : Int) = (j : Int))
    (H : ∀ a' c', Gv L a' ((xs.drop (i * sz)).take ((j - i) * sz)) → (a' = none → j - i = 0) → j - i ≤ c' → (a' = none → c' = 0) → K (.slice a' (j - i) c') h) (il : isInt lo := by trivial) (ih : isInt hi := by trivial) : hwp P (Instr.sliceAt t (.slice a n c) lo hi none) K h := by
  refine hwp_sliceSl (lo := lo) (hi := hi) E il ih (by omega) (by omega) (by omega) ?_
  have e1 : (bnd hi (n : Int)).toNat - (bnd lo 0).toNat = j - i := by omega
  have e2 : c - (bnd lo 0).toNat = c - i := by omega
  have e3 : (bnd lo 0).toNat = i := by omega
  rw [e1, e2, e3]
  have en : ∀ x : Option Addr, x = (if (c : Int) = bnd lo 0 then a else a.map (·.add (i * sz))) → x = none → c = 0 := by
    intro x hx hx0
    rw [hx0] at hx
    split at hx
    · exact hn0 hx.symm
    · cases a with
      | none => exact hn0 rfl
      | some ad => simp at hx
  refine H _ _ ?_ (fun h0 => by have := en _ rfl h0; omega) (by omega) (fun h0 => by have := en _ rfl h0; omega)
  by_cases hc : (c : Int) = bnd lo 0
  · have : c = i := by omega
    rw [show j - i = 0 by omega, Nat.zero_mul, List.take_zero]; exact fun h _ => Rd.nil h _
  · rw [if_neg hc]
    refine fun h2 H2 => (hr h2 H2).sub _ fun q v hv => ?_
    simp only [List.getElem?_take, List.getElem?_drop] at hv ⊢
    split at hv
    · exact hv
    · simp at hv
/-- An element of a slice of such, known wherever the list holds. -/
theorem idxG {α : Type} {φ : α → List Value} {P : Program} {t e : TypeId} {sz bz : Nat} {z : Value} (E : Elem P t e sz bz z) {a : Option Addr} {n c : Nat} {k : IntKind} {i : Int} {l : List α} {x : α} (g : Gv L a (l.flatMap φ)) (H : Hs h L) (hφ : ∀ x, (φ x).length = sz) (hs : 0 < sz) (h0 : 0 ≤ i) (hi : i < n) (hx : l[i.toNat]? = some x) {R : Addr → Heap → Prop} (K : ∀ t, (∀ h', Hs h' L → rdCells h' t 0 (φ x)) → R t h) : hwp P (Instr.indexAt t (.slice a n c) (.int k i)) (fun u h1 => ∃ t, u = .pointer (some t) ∧ R t h1) h := by
  have hne : φ x ≠ [] := fun e => by have := hφ x; rw [e] at this; simp at this; omega
  obtain ⟨v0, l0, e0⟩ := List.exists_cons_of_ne_nil hne
  have hg := flat_get hφ hx
  obtain ⟨ad, rfl, _⟩ := g h H _ _ (hg 0 v0 (by rw [e0]; rfl))
  refine hwp_index E h0 hi ⟨_, rfl, K _ fun h' H' => ?_⟩
  have key : ∀ (ws : List Value) (j0 : Nat), (∀ (j : Nat) v, ws[j]? = some v → (φ x)[j0 + j]? = some v) → rdCells h' (ad.add (i.toNat * sz)) j0 ws := by
    intro ws
    induction ws with
    | nil => exact fun _ _ => trivial
    | cons w ws ih =>
      intro j0 hw
      refine ⟨?_, ih (j0 + 1) fun j v hj => ?_⟩
      · rw [add_add]; exact (g h' H').cell (hg _ _ (by have := hw 0 w rfl; simpa using this))
      · have := hw (j + 1) v (by simpa using hj)
        rwa [show j0 + (j + 1) = j0 + 1 + j by omega] at this
  exact key _ 0 fun j v hj => by simpa using hj
end
end Go.HW
