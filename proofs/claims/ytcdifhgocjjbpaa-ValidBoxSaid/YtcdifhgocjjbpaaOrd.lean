/- The order of keys (plain). -/
import Derived.Test.YtcdifhgocjjbpaaWr
import Derived.Sort.Statements
set_option linter.unusedVariables false
namespace Go.Proofs.Ytcdifhgocjjbpaa
open Go Go.HW
theorem bl_eq : ∀ (x y : List UInt8), Op.bytesLess x y = decide (x < y)
  | [], [] => by simp [Op.bytesLess]
  | _ :: _, [] => by simp [Op.bytesLess]
  | [], _ :: _ => by simp [Op.bytesLess]
  | a :: x, b :: y => by
    rw [Op.bytesLess, bl_eq x y]
    simp only [List.cons_lt_cons_iff]
    by_cases h1 : a < b <;> by_cases h2 : a = b <;> by_cases h3 : x < y <;> simp [h1, h2, h3]
theorem strLt_eq (x y : ByteArray) : strLt x y = decide (x.data.toList < y.data.toList) := by
  unfold strLt; rw [bl_eq, ByteArray.toList_eq, ByteArray.toList_eq]
theorem ba_ext {x y : ByteArray} (h : x.data.toList = y.data.toList) : x = y := by
  cases x; cases y; simp only at h; rw [Array.toList_inj.1 h]
theorem sl_irrefl (x : ByteArray) : strLt x x = false := by rw [strLt_eq]; simp [List.lt_irrefl]
theorem sl_trans {x y z : ByteArray} (h1 : strLt x y = true) (h2 : strLt y z = true) : strLt x z = true := by
  rw [strLt_eq, decide_eq_true_eq] at *; exact List.lt_trans h1 h2
theorem sl_tri {x y : ByteArray} (h1 : strLt x y = false) (h2 : strLt y x = false) : x = y := by
  rw [strLt_eq, decide_eq_false_iff_not, List.not_lt] at *; exact ba_ext (List.le_antisymm h2 h1)
theorem sl_asymm {x y : ByteArray} (h : strLt x y = true) : strLt y x = false := by
  cases e : strLt y x with
  | false => rfl
  | true => have := sl_trans h e; rw [sl_irrefl] at this; cases this
def klt (a b : Key) : Bool := if a.t ≠ b.t then strLt a.t b.t else if a.a ≠ b.a then strLt a.a b.a else strLt a.e b.e
theorem klt_irrefl (a : Key) : klt a a = false := by unfold klt; simp [sl_irrefl]
theorem klt_asymm {a b : Key} (h : klt a b = true) : klt b a = false := by
  unfold klt at *
  by_cases e1 : a.t = b.t
  · rw [if_neg (by simpa using e1)] at h
    rw [if_neg (by simpa using e1.symm)]
    by_cases e2 : a.a = b.a
    · rw [if_neg (by simpa using e2)] at h
      rw [if_neg (by simpa using e2.symm)]; exact sl_asymm h
    · rw [if_pos (by simpa using e2)] at h
      rw [if_pos (fun q => e2 q.symm)]; exact sl_asymm h
  · rw [if_pos (by simpa using e1)] at h
    rw [if_pos (fun q => e1 q.symm)]; exact sl_asymm h
theorem klt_tri {a b : Key} (h1 : klt a b = false) (h2 : klt b a = false) : a = b := by
  unfold klt at *
  by_cases e1 : a.t = b.t
  · rw [if_neg (by simpa using e1)] at h1
    rw [if_neg (by simpa using e1.symm)] at h2
    by_cases e2 : a.a = b.a
    · rw [if_neg (by simpa using e2)] at h1
      rw [if_neg (by simpa using e2.symm)] at h2
      have e3 := sl_tri h1 h2
      cases a; cases b; simp only at e1 e2 e3; rw [e1, e2, e3]
    · rw [if_pos (by simpa using e2)] at h1
      rw [if_pos (fun q => e2 q.symm)] at h2
      exact absurd (sl_tri h1 h2) e2
  · rw [if_pos (by simpa using e1)] at h1
    rw [if_pos (fun q => e1 q.symm)] at h2
    exact absurd (sl_tri h1 h2) e1
theorem klt_trans {a b c : Key} (h1 : klt a b = true) (h2 : klt b c = true) : klt a c = true := by
  unfold klt at *
  by_cases e1 : a.t = b.t
  · rw [if_neg (by simpa using e1)] at h1
    rw [e1]
    by_cases f1 : b.t = c.t
    · rw [if_neg (by simpa using f1)] at h2
      rw [if_neg (by simpa using f1)]
      by_cases e2 : a.a = b.a
      · rw [if_neg (by simpa using e2)] at h1
        rw [e2]
        by_cases f2 : b.a = c.a
        · rw [if_neg (by simpa using f2)] at h2
          rw [if_neg (by simpa using f2)]; exact sl_trans h1 h2
        · rw [if_pos (by simpa using f2)] at h2
          rw [if_pos (by simpa using f2)]; exact h2
      · rw [if_pos (by simpa using e2)] at h1
        by_cases f2 : b.a = c.a
        · rw [← f2, if_pos (by simpa using e2)]; exact h1
        · rw [if_pos (by simpa using f2)] at h2
          have h3 := sl_trans h1 h2
          rw [if_pos (fun q => by rw [q, sl_irrefl] at h3; cases h3)]; exact h3
    · rw [if_pos (by simpa using f1)] at h2
      rw [if_pos (by simpa using f1)]; exact h2
  · rw [if_pos (by simpa using e1)] at h1
    by_cases f1 : b.t = c.t
    · rw [← f1, if_pos (by simpa using e1)]; exact h1
    · rw [if_pos (by simpa using f1)] at h2
      have h3 := sl_trans h1 h2
      rw [if_pos (fun q => by rw [q, sl_irrefl] at h3; cases h3)]; exact h3
theorem klt_ntrans {a b c : Key} (h1 : klt a b = false) (h2 : klt b c = false) : klt a c = false := by
  cases e : klt a c with
  | false => rfl
  | true =>
    cases e2 : klt b a with
    | false => have := klt_tri h1 e2; subst this; rw [e] at h2; cases h2
    | true => have := klt_trans e2 e; rw [this] at h2; cases h2
def wlt (x y : Wr) : Bool := klt x.k y.k
theorem wlt_swo : Sort.SWO wlt := ⟨fun x => klt_irrefl _, fun x y z => klt_trans, fun x y z => klt_ntrans⟩
/-- Strictly rising rows. -/
def Rise (l : List Wr) : Prop := l.Pairwise fun x y => wlt x y = true
theorem rise_uniq : ∀ {l m : List Wr}, Rise l → Rise m → l.Perm m → l = m
  | [], m, _, _, p => by rw [List.nil_perm.1 p]
  | x :: l, [], _, _, p => by have := List.perm_nil.1 p; cases this
  | x :: l, y :: m, h1, h2, p => by
    have h1' := List.pairwise_cons.1 h1
    have h2' := List.pairwise_cons.1 h2
    have e : x = y := by
      by_cases e : x = y
      · exact e
      have hx : x ∈ y :: m := p.subset (List.mem_cons_self ..)
      have hy : y ∈ x :: l := p.symm.subset (List.mem_cons_self ..)
      rcases List.mem_cons.1 hx with q | q
      · exact absurd q e
      rcases List.mem_cons.1 hy with q2 | q2
      · exact absurd q2.symm e
      have a := h2'.1 x q
      have b := h1'.1 y q2
      have := klt_asymm a
      unfold wlt at b; rw [this] at b; cases b
    subst e
    rw [rise_uniq h1'.2 h2'.2 ((List.perm_cons x).1 p)]
end Go.Proofs.Ytcdifhgocjjbpaa
