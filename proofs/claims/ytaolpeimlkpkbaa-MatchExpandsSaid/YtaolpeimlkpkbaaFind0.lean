/- Matches in data, plain. -/
import Derived.Test.YtaolpeimlkpkbaaCost
set_option linter.unusedVariables false
set_option linter.unusedSimpArgs false
namespace Go.Proofs.Ytaolpeimlkpkbaa
open Go Go.HW
def mt (D : List Nat) (i p : Nat) : Nat → Nat → Nat
  | 0, k => k
  | r + 1, k => if i + k < D.length ∧ D.getD (i + k) 0 = D.getD (p + k) 0 then mt D i p r (k + 1) else k
def lcp (D : List Nat) (i p : Nat) : Nat := mt D i p 258 0
theorem mt_le (D : List Nat) (i p : Nat) : ∀ (r k : Nat), k ≤ mt D i p r k ∧ mt D i p r k ≤ k + r
  | 0, k => by simp [mt]
  | r + 1, k => by
    have := mt_le D i p r (k + 1)
    rw [mt]; split <;> omega
theorem mt_eq (D : List Nat) (i p : Nat) : ∀ (r k j : Nat), k ≤ j → j < mt D i p r k → i + j < D.length ∧ D.getD (i + j) 0 = D.getD (p + j) 0
  | 0, k, j, h1, h2 => by simp [mt] at h2; omega
  | r + 1, k, j, h1, h2 => by
    rw [mt] at h2
    split at h2
    · by_cases e : j = k
      · subst e; assumption
      · exact mt_eq D i p r (k + 1) j (by omega) h2
    · omega
theorem mt_stop (D : List Nat) (i p : Nat) : ∀ (r k : Nat), mt D i p r k = k + r ∨ ¬(i + mt D i p r k < D.length ∧ D.getD (i + mt D i p r k) 0 = D.getD (p + mt D i p r k) 0)
  | 0, k => by simp [mt]
  | r + 1, k => by
    rw [mt]
    split
    · have := mt_stop D i p r (k + 1); rw [show k + 1 + r = k + (r + 1) by omega] at this; exact this
    · right; assumption
theorem lcp_le (D : List Nat) (i p : Nat) : lcp D i p ≤ 258 := by have := (mt_le D i p 258 0).2; unfold lcp; omega
theorem lcp_eq {D : List Nat} {i p j : Nat} (h : j < lcp D i p) : i + j < D.length ∧ D.getD (i + j) 0 = D.getD (p + j) 0 := mt_eq D i p 258 0 j (by omega) h
theorem lcp_len {D : List Nat} {i p : Nat} (hi : i ≤ D.length) : i + lcp D i p ≤ D.length := by
  rcases Nat.eq_zero_or_pos (lcp D i p) with h | h
  · omega
  · have := (lcp_eq (D := D) (i := i) (p := p) (j := lcp D i p - 1) (by omega)).1; omega
theorem lcp_is {D : List Nat} {i p n : Nat} (h1 : n ≤ 258) (h2 : ∀ j, j < n → i + j < D.length ∧ D.getD (i + j) 0 = D.getD (p + j) 0)
    (h3 : n = 258 ∨ ¬(i + n < D.length ∧ D.getD (i + n) 0 = D.getD (p + n) 0)) : lcp D i p = n := by
  have a : ¬ lcp D i p < n := fun h => by
    rcases mt_stop D i p 258 0 with e | e
    · have := lcp_le D i p; unfold lcp at h; omega
    · exact e (h2 _ h)
  have b : ¬ n < lcp D i p := fun h => by
    rcases h3 with e | e
    · have := lcp_le D i p; omega
    · exact e (lcp_eq h)
  omega
def bst (D : List Nat) (i : Nat) : Nat → Nat × Nat
  | 0 => (0, 0)
  | d + 1 => if 3 ≤ lcp D i (i - (d + 1)) ∧ lcp D i (i - (d + 1)) > (bst D i d).1 then (lcp D i (i - (d + 1)), d + 1) else bst D i d
def mm (D : List Nat) (i : Nat) : Nat × Nat := bst D i i
theorem bst_skip {D : List Nat} {i a b : Nat} (hab : a ≤ b) (h : ∀ d, a < d → d ≤ b → lcp D i (i - d) < 3 ∨ lcp D i (i - d) ≤ (bst D i a).1) : bst D i b = bst D i a := by
  induction b with
  | zero => rw [Nat.le_zero.1 hab]
  | succ b ih =>
    by_cases e : a = b + 1
    · rw [e]
    · have ih := ih (by omega) fun d h1 h2 => h d h1 (by omega)
      rw [bst, ih, if_neg]
      have := h (b + 1) (by omega) (by omega)
      omega
/-- What a best match is. -/
theorem bst_spec (D : List Nat) (i : Nat) : ∀ d, (bst D i d = (0, 0) ∧ ∀ e, 1 ≤ e → e ≤ d → lcp D i (i - e) < 3) ∨
    (3 ≤ (bst D i d).1 ∧ 1 ≤ (bst D i d).2 ∧ (bst D i d).2 ≤ d ∧ (bst D i d).1 = lcp D i (i - (bst D i d).2) ∧ ∀ e, 1 ≤ e → e ≤ d → lcp D i (i - e) ≤ (bst D i d).1)
  | 0 => .inl ⟨rfl, fun e h1 h2 => by omega⟩
  | d + 1 => by
    rw [bst]
    rcases bst_spec D i d with ⟨h1, h2⟩ | ⟨h1, h2, h3, h4, h5⟩
    · split
      · rename_i h
        refine .inr ⟨h.1, by simp, by simp, rfl, fun e he1 he2 => ?_⟩
        by_cases e0 : e = d + 1
        · subst e0; exact Nat.le_refl _
        · have := h2 e he1 (by omega); show _ ≤ lcp D i (i - (d + 1)); omega
      · rename_i h
        refine .inl ⟨h1, fun e he1 he2 => ?_⟩
        by_cases e0 : e = d + 1
        · subst e0; rw [h1] at h; simp only at h; omega
        · exact h2 e he1 (by omega)
    · split
      · rename_i h
        refine .inr ⟨h.1, by simp, by simp, rfl, fun e he1 he2 => ?_⟩
        by_cases e0 : e = d + 1
        · subst e0; exact Nat.le_refl _
        · have := h5 e he1 (by omega); show _ ≤ lcp D i (i - (d + 1)); omega
      · rename_i h
        refine .inr ⟨h1, h2, by omega, h4, fun e he1 he2 => ?_⟩
        by_cases e0 : e = d + 1
        · subst e0; omega
        · exact h5 e he1 (by omega)
theorem mm_le (D : List Nat) (i : Nat) : (mm D i).1 ≤ 258 ∧ (mm D i).2 ≤ i := by
  unfold mm
  rcases bst_spec D i i with ⟨h, _⟩ | ⟨_, _, h3, h4, _⟩
  · rw [h]; simp
  · exact ⟨h4 ▸ lcp_le _ _ _, h3⟩
theorem mm_len {D : List Nat} {i : Nat} (hi : i ≤ D.length) : i + (mm D i).1 ≤ D.length := by
  unfold mm
  rcases bst_spec D i i with ⟨h, _⟩ | ⟨_, _, h3, h4, _⟩
  · rw [h]; simpa using hi
  · rw [h4]; exact lcp_len hi
theorem mm_short {D : List Nat} {i : Nat} (h : D.length < i + 3) : mm D i = (0, 0) := by
  refine bst_skip (D := D) (a := 0) (Nat.zero_le i) fun d h1 h2 => .inl ?_
  apply Nat.lt_of_not_le; intro hl
  have := (lcp_eq (D := D) (i := i) (p := i - d) (j := 2) (by omega)).1
  omega
def fd (D : List Nat) : Nat → Nat → List Tok
  | 0, _ => []
  | f + 1, i => if i < D.length then
      (if (mm D i).1 = 0 ∨ (mm D (i + 1)).1 > (mm D i).1 then ⟨D.getD i 0, 0, 0⟩ :: fd D f (i + 1) else ⟨0, (mm D i).1, (mm D i).2⟩ :: fd D f (i + (mm D i).1)) else []
def find (D : List Nat) : List Tok := if D.length > 16384 then [] else fd D D.length 0
theorem fd_more (D : List Nat) : ∀ (f g i : Nat), D.length ≤ i + f → D.length ≤ i + g → fd D f i = fd D g i
  | 0, 0, i, _, _ => rfl
  | 0, g + 1, i, h1, h2 => by rw [fd, fd, if_neg (by omega)]
  | f + 1, 0, i, h1, h2 => by rw [fd, fd, if_neg (by omega)]
  | f + 1, g + 1, i, h1, h2 => by
    rw [fd, fd]
    split
    · split
      · rw [fd_more D f g (i + 1) (by omega) (by omega)]
      · rw [fd_more D f g _ (by omega) (by omega)]
    · rfl
theorem fd_step {D : List Nat} {f i : Nat} (hi : i < D.length) (hf : D.length ≤ i + f) :
    fd D f i = if (mm D i).1 = 0 ∨ (mm D (i + 1)).1 > (mm D i).1 then ⟨D.getD i 0, 0, 0⟩ :: fd D f (i + 1) else ⟨0, (mm D i).1, (mm D i).2⟩ :: fd D f (i + (mm D i).1) := by
  obtain ⟨g, rfl⟩ : ∃ g, f = g + 1 := ⟨f - 1, by omega⟩
  rw [fd, if_pos hi]
  split
  · rw [fd_more D g (g + 1) (i + 1) (by omega) (by omega)]
  · rw [fd_more D g (g + 1) _ (by omega) (by omega)]
theorem fd_end {D : List Nat} {f i : Nat} (hi : D.length ≤ i) : fd D f i = [] := by
  cases f with
  | zero => rfl
  | succ f => rw [fd, if_neg (by omega)]
theorem fd_len (D : List Nat) : ∀ (f i : Nat), (fd D f i).length ≤ D.length - i
  | 0, i => by simp [fd]
  | f + 1, i => by
    rw [fd]
    split
    · split
      · have := fd_len D f (i + 1); simp only [List.length_cons]; omega
      · rename_i h
        have := fd_len D f (i + (mm D i).1); simp only [List.length_cons]; omega
    · simp
/-! The chains of the finder. -/
def hf (D : List Nat) (p : Nat) : Nat := ((D.getD p 0 <<< 8 ^^^ D.getD (p + 1) 0 <<< 4) ^^^ D.getD (p + 2) 0) &&& 4095
theorem hf_lt (D : List Nat) (p : Nat) : hf D p < 4096 := by
  unfold hf
  have := Nat.and_le_right (n := (D.getD p 0 <<< 8 ^^^ D.getD (p + 1) 0 <<< 4) ^^^ D.getD (p + 2) 0) (m := 4095)
  omega
def lb (D : List Nat) (x : Nat) : Nat → Nat
  | 0 => 0
  | P + 1 => if hf D P = x then P + 1 else lb D x P
theorem lb_le (D : List Nat) (x : Nat) : ∀ P, lb D x P ≤ P
  | 0 => Nat.le_refl _
  | P + 1 => by have := lb_le D x P; rw [lb]; split <;> omega
theorem lb_hf {D : List Nat} {x : Nat} : ∀ {P a : Nat}, lb D x P = a + 1 → hf D a = x
  | 0, a, h => by cases h
  | P + 1, a, h => by
    rw [lb] at h
    split at h
    · rename_i e; obtain rfl : P = a := by omega
      exact e
    · exact lb_hf h
theorem lb_not {D : List Nat} {x : Nat} : ∀ {P q : Nat}, lb D x P ≤ q → q < P → hf D q ≠ x
  | 0, q, h1, h2 => by omega
  | P + 1, q, h1, h2 => by
    rw [lb] at h1
    split at h1
    · omega
    · rename_i e
      by_cases eq : q = P
      · rw [eq]; exact e
      · exact lb_not h1 (by omega)
theorem lcp_hf {D : List Nat} {i p : Nat} (h : hf D p ≠ hf D i) : lcp D i p < 3 := by
  apply Nat.lt_of_not_le; intro hl
  have e0 := (lcp_eq (D := D) (i := i) (p := p) (j := 0) (by omega)).2
  have e1 := (lcp_eq (D := D) (i := i) (p := p) (j := 1) (by omega)).2
  have e2 := (lcp_eq (D := D) (i := i) (p := p) (j := 2) (by omega)).2
  apply h
  unfold hf
  rw [Nat.add_zero] at e0
  rw [Nat.add_zero] at e0
  rw [e0, e1, e2]
/-- The places between two of a chain say nothing. -/
theorem bst_gap {D : List Nat} {i P a : Nat} (hP : P ≤ i) (ha : lb D (hf D i) P ≤ a) (haP : a ≤ P) : bst D i (i - a) = bst D i (i - P) :=
  bst_skip (by omega) fun d h1 h2 => .inl (lcp_hf (lb_not (P := P) (by omega) (by omega)))
end Go.Proofs.Ytaolpeimlkpkbaa
