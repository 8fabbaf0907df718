/- The plain law of numbers in bytes. -/
set_option linter.unusedVariables false
set_option linter.unusedSimpArgs false
namespace Go.HW.Num

def le : Nat → BitVec 64 → List (BitVec 8)
  | 0, _ => []
  | k + 1, v => v.setWidth 8 :: le k (v >>> 8)
theorem le_len : ∀ (k : Nat) (v : BitVec 64), (le k v).length = k
  | 0, _ => rfl
  | k + 1, v => by simp [le, le_len k]
theorem le_snoc : ∀ (k : Nat) (v : BitVec 64), le (k + 1) v = le k v ++ [(v >>> (8 * k)).setWidth 8]
  | 0, v => by simp [le]
  | k + 1, v => by
    show v.setWidth 8 :: le (k + 1) (v >>> 8) = v.setWidth 8 :: (le k (v >>> 8) ++ _)
    rw [le_snoc k (v >>> 8), ← BitVec.shiftRight_add, show 8 + 8 * k = 8 * (k + 1) by omega]
def of : List (BitVec 8) → BitVec 64
  | [] => 0
  | b :: l => of l <<< 8 ||| b.setWidth 64
theorem of_snoc : ∀ (l : List (BitVec 8)) (b : BitVec 8), of (l ++ [b]) = of l ||| b.setWidth 64 <<< (8 * l.length)
  | [], b => by simp [of]
  | x :: l, b => by
    show of (l ++ [b]) <<< 8 ||| x.setWidth 64 = (of l <<< 8 ||| x.setWidth 64) ||| _
    rw [of_snoc l b, BitVec.shiftLeft_or_distrib, ← BitVec.shiftLeft_add, List.length_cons, show 8 * l.length + 8 = 8 * (l.length + 1) by omega, BitVec.or_assoc, BitVec.or_assoc]
    congr 1
    exact BitVec.or_comm _ _
theorem of_le_bit : ∀ (k : Nat) (v : BitVec 64) (i : Nat), i < 64 → (of (le k v)).getLsbD i = (decide (i < 8 * k) && v.getLsbD i)
  | 0, v, i, hi => by simp [of, le]
  | k + 1, v, i, hi => by
    unfold le of
    rw [BitVec.getLsbD_or, BitVec.getLsbD_shiftLeft, BitVec.getLsbD_setWidth, BitVec.getLsbD_setWidth]
    by_cases h8 : i < 8
    · simp [h8, hi]; omega
    · rw [of_le_bit k (v >>> 8) (i - 8) (by omega), BitVec.getLsbD_ushiftRight, show 8 + (i - 8) = i by omega]
      have : (i - 8 < 8 * k) ↔ (i < 8 * (k + 1)) := by omega
      simp [h8, hi, this]
theorem of_le8 (v : BitVec 64) : of (le 8 v) = v := by
  apply BitVec.eq_of_getLsbD_eq
  intro i hi
  rw [of_le_bit _ _ _ hi]; simp; omega
theorem of_le4 (v : BitVec 64) : (of (le 4 v)).setWidth 32 = v.setWidth 32 := by
  apply BitVec.eq_of_getLsbD_eq
  intro i hi
  rw [BitVec.getLsbD_setWidth, BitVec.getLsbD_setWidth, of_le_bit _ _ _ (by omega)]; simp [hi]; try omega
theorem of_le2 (v : BitVec 64) : (of (le 2 v)).setWidth 16 = v.setWidth 16 := by
  apply BitVec.eq_of_getLsbD_eq
  intro i hi
  rw [BitVec.getLsbD_setWidth, BitVec.getLsbD_setWidth, of_le_bit _ _ _ (by omega)]; simp [hi]; try omega
/-- Only the lowest bytes matter. -/
theorem le_low : ∀ (k : Nat) (v w : BitVec 64), (∀ i, i < 8 * k → v.getLsbD i = w.getLsbD i) → le k v = le k w
  | 0, _, _, _ => rfl
  | k + 1, v, w, h => by
    unfold le
    congr 1
    · apply BitVec.eq_of_getLsbD_eq
      intro i hi
      rw [BitVec.getLsbD_setWidth, BitVec.getLsbD_setWidth, h i (by omega)]
    · refine le_low k _ _ fun i hi => ?_
      rw [BitVec.getLsbD_ushiftRight, BitVec.getLsbD_ushiftRight, h _ (by omega)]
theorem le2 (v : BitVec 64) : le 2 ((v.setWidth 16).setWidth 64) = le 2 v := le_low 2 _ _ fun i hi => by
  have h1 : i < 64 := by omega
  have h2 : i < 8 * 4 := by omega
  rw [BitVec.getLsbD_setWidth, BitVec.getLsbD_setWidth]; simp [h1, hi, h2]; try omega
theorem le4 (v : BitVec 64) : le 4 ((v.setWidth 32).setWidth 64) = le 4 v := le_low 4 _ _ fun i hi => by
  have h1 : i < 64 := by omega
  have h2 : i < 8 * 4 := by omega
  rw [BitVec.getLsbD_setWidth, BitVec.getLsbD_setWidth]; simp [h1, hi, h2]; try omega
/-- So many bytes make no more than so large a number. -/
theorem of_high : ∀ (l : List (BitVec 8)) (i : Nat), 8 * l.length ≤ i → (of l).getLsbD i = false
  | [], i, _ => by simp [of]
  | b :: l, i, h => by
    unfold of
    simp at h
    rw [BitVec.getLsbD_or, BitVec.getLsbD_shiftLeft, BitVec.getLsbD_setWidth, of_high l (i - 8) (by omega), BitVec.getLsbD_of_ge _ i (by omega)]
    simp
theorem of2 (l : List (BitVec 8)) (h : l.length ≤ 2) : ((of l).setWidth 16).setWidth 64 = of l := by
  apply BitVec.eq_of_getLsbD_eq
  intro i hi
  rw [BitVec.getLsbD_setWidth, BitVec.getLsbD_setWidth]
  by_cases h16 : i < 16
  · simp [hi, h16]
  · rw [of_high l i (by omega)]; simp
theorem of4 (l : List (BitVec 8)) (h : l.length ≤ 4) : ((of l).setWidth 32).setWidth 64 = of l := by
  apply BitVec.eq_of_getLsbD_eq
  intro i hi
  rw [BitVec.getLsbD_setWidth, BitVec.getLsbD_setWidth]
  by_cases h16 : i < 32
  · simp [hi, h16]
  · rw [of_high l i (by omega)]; simp
end Go.HW.Num
