/- What is found says the data again, costs no more, and what stands twice is found (plain). -/
import Derived.Test.YtaolpeimlkpkbaaFind0
import Derived.Test.YtaolpeimlkpkbaaJoin
set_option maxRecDepth 20000
set_option linter.unusedVariables false
set_option linter.unusedSimpArgs false
namespace Go.Proofs.Ytaolpeimlkpkbaa
open Go Go.HW
theorem take_next {D : List Nat} {j : Nat} (hj : j < D.length) : D.take j ++ [D.getD j 0] = D.take (j + 1) := by
  rw [List.take_succ_eq_append_getElem hj]; simp [hj]
theorem cp_data {D : List Nat} {d : Nat} : ∀ (r j : Nat), j + r ≤ D.length → 1 ≤ d → d ≤ j → (∀ k, k < r → D.getD (j + k) 0 = D.getD (j + k - d) 0) → cp d r (D.take j) = D.take (j + r)
  | 0, j, _, _, _, _ => rfl
  | r + 1, j, h1, h2, h3, h4 => by
    have e : (D.take j).getD ((D.take j).length - d) 0 = D.getD j 0 := by
      have h0 := h4 0 (by omega)
      rw [Nat.add_zero] at h0
      rw [h0, List.length_take, Nat.min_eq_left (by omega)]
      simp only [List.getD_eq_getElem?_getD, List.getElem?_take]
      rw [if_pos (by omega)]
    rw [cp, e, take_next (by omega), cp_data r (j + 1) (by omega) h2 (by omega) fun k hk => ?_]
    · congr 1; omega
    · have := h4 (k + 1) (by omega)
      rw [show j + 1 + k = j + (k + 1) by omega]; exact this
theorem mm_tok {D : List Nat} {i : Nat} (hi : i ≤ D.length) (h : (mm D i).1 ≠ 0) : 3 ≤ (mm D i).1 ∧ (mm D i).1 ≤ 258 ∧ i + (mm D i).1 ≤ D.length ∧ 1 ≤ (mm D i).2 ∧ (mm D i).2 ≤ i ∧ ∀ k, k < (mm D i).1 → D.getD (i + k) 0 = D.getD (i + k - (mm D i).2) 0 := by
  have h1 := mm_le D i
  have h2 := mm_len hi
  unfold mm at *
  rcases bst_spec D i i with ⟨e, _⟩ | ⟨g1, g2, g3, g4, g5⟩
  · rw [e] at h; exact absurd rfl h
  · refine ⟨g1, h1.1, h2, g2, g3, fun k hk => ?_⟩
    rw [g4] at hk
    have := (lcp_eq hk).2
    rw [this]; congr 1; omega
theorem may_tok {n d i : Nat} (h3 : 3 ≤ n) (h2 : n ≤ 258) (d1 : 1 ≤ d) (d2 : d ≤ i) (d3 : d ≤ 32768) : may ⟨0, n, d⟩ i = true := by
  unfold may
  rw [if_neg (show ¬ (n : Int) = 0 by omega)]
  exact decide_eq_true ⟨rfl, (by omega : (3 : Int) ≤ n), (by omega : (n : Int) ≤ 258), (by omega : (1 : Int) ≤ d), (by omega : (d : Int) ≤ 32768), (by omega : (d : Int) ≤ i)⟩
/-- One round of finding. -/
theorem fd_cases {D : List Nat} {f i : Nat} (hi : i < D.length) (hf : D.length ≤ i + f) (hD : D.length ≤ 16384) : ∃ t, fd D f i = t :: fd D f (i + one t) ∧ may t i = true ∧ step t (D.take i) = D.take (i + one t) ∧ i + one t ≤ D.length ∧
    ((t = ⟨D.getD i 0, 0, 0⟩ ∧ ((mm D i).1 = 0 ∨ (mm D (i + 1)).1 > (mm D i).1)) ∨ (t = ⟨0, (mm D i).1, (mm D i).2⟩ ∧ (mm D i).1 ≠ 0)) := by
  rw [fd_step hi hf]
  split
  · rename_i h
    refine ⟨⟨D.getD i 0, 0, 0⟩, rfl, rfl, ?_, by show i + 1 ≤ _; omega, .inl ⟨rfl, h⟩⟩
    exact take_next hi
  · rename_i h
    obtain ⟨g1, g2, g3, g4, g5, g6⟩ := mm_tok (Nat.le_of_lt hi) (by omega)
    have e1 : one ⟨0, (mm D i).1, (mm D i).2⟩ = (mm D i).1 := by unfold one; simp only; rw [if_pos (by omega), Int.toNat_natCast]
    refine ⟨⟨0, (mm D i).1, (mm D i).2⟩, by rw [e1], ?_, ?_, by rw [e1]; omega, .inr ⟨rfl, by omega⟩⟩
    · exact may_tok g1 g2 g4 g5 (by omega)
    · rw [e1]; unfold step; simp only
      rw [if_neg (by omega), Int.toNat_natCast, Int.toNat_natCast]
      exact cp_data _ _ g3 g4 g5 g6
theorem fd_ex {D : List Nat} {lim : Nat} (hD : D.length ≤ 16384) : ∀ (r f i : Nat), D.length ≤ i + r → D.length ≤ i + f → i ≤ D.length → i ≤ lim → exGo lim (fd D f i) (D.take i) = if D.length ≤ lim then (0, D) else (2, [])
  | 0, f, i, h0, hf, hi, hl => by
    rw [fd_end (by omega), exGo, if_pos (by omega), List.take_of_length_le (by omega)]
  | r + 1, f, i, h0, hf, hi, hl => by
    by_cases e : i = D.length
    · rw [fd_end (by omega), exGo, if_pos (by omega), List.take_of_length_le (by omega)]
    obtain ⟨t, h1, h2, h3, h4, _⟩ := fd_cases (D := D) (f := f) (i := i) (by omega) hf hD
    have hlen : (D.take i).length = i := by rw [List.length_take]; omega
    have := one_le h2
    rw [h1, exGo, hlen, if_neg (by rw [h2]; simp)]
    split
    · rw [if_neg (by omega)]
    · rw [h3]
      exact fd_ex hD r f (i + one t) (by omega) (by omega) h4 (by omega)
theorem find_ex {D : List Nat} {lim : Nat} (hD : D.length ≤ 16384) : exGo lim (find D) [] = if D.length ≤ lim then (0, D) else (2, []) := by
  unfold find
  rw [if_neg (by omega)]
  exact fd_ex hD D.length D.length 0 (by omega) (by omega) (by omega) (by omega)
theorem find_ck {D : List Nat} (hD : D.length ≤ 16384) : ckGo (find D) 0 = 0 := by
  rw [← ck_exAll, exAll_def, find_ex hD, if_pos hD]
/-! What it costs. -/
theorem bitsF_most : ∀ (f k : Nat) (n e : Int), 0 < e → n ≤ e * 2 ^ k → bitsF f n e ≤ k
  | 0, k, n, e, _, _ => by simp [bitsF]
  | f + 1, 0, n, e, he, h => by rw [bitsF, if_neg (by omega)]; simp
  | f + 1, k + 1, n, e, he, h => by
    rw [bitsF]
    split
    · rw [Int.pow_succ, ← Int.mul_assoc, Int.mul_right_comm, Int.mul_comm e 2] at h
      have := bitsF_most f k n (2 * e) (by omega) h
      omega
    · omega
def pc (x : Nat) : Int := if x ≥ 144 then 9 else 8
def plainS (l : List Nat) : Int := (l.map pc).sum
theorem pc_le (x : Nat) : 8 ≤ pc x ∧ pc x ≤ 9 := by unfold pc; split <;> omega
theorem plainS_take {D : List Nat} {i : Nat} (hi : i < D.length) : plainS (D.take (i + 1)) = plainS (D.take i) + pc (D.getD i 0) := by
  rw [← take_next hi]; unfold plainS; simp
theorem plainS_drop {D : List Nat} {i : Nat} (hi : i < D.length) : plainS (D.drop i) = pc (D.getD i 0) + plainS (D.drop (i + 1)) := by
  rw [List.drop_eq_getElem_cons hi]; unfold plainS; rw [List.map_cons, List.sum_cons, getD_of hi]
theorem plainS_ge (l : List Nat) : 8 * (l.length : Int) ≤ plainS l ∧ plainS l ≤ 9 * (l.length : Int) := by
  unfold plainS
  induction l with
  | nil => simp
  | cons x l ih => have := pc_le x; simp only [List.map_cons, List.sum_cons, List.length_cons]; omega
theorem plainS_part (D : List Nat) (i : Nat) : ∀ (n : Nat), i + n ≤ D.length → 8 * (n : Int) + plainS (D.drop (i + n)) ≤ plainS (D.drop i)
  | 0, h => by simp
  | n + 1, h => by
    have h1 := plainS_part D i n (by omega)
    have h2 := plainS_drop (D := D) (i := i + n) (by omega)
    have h3 := pc_le (D.getD (i + n) 0)
    rw [show i + n + 1 = i + (n + 1) by omega] at h2
    omega
theorem fd_cost {D : List Nat} (hD : D.length ≤ 16384) : ∀ (r f i : Nat), D.length ≤ i + r → D.length ≤ i + f → i ≤ D.length → costs (fd D f i) ≤ plainS (D.drop i)
  | 0, f, i, h0, hf, hi => by
    rw [fd_end (by omega), List.drop_of_length_le (by omega)]; simp [costs, plainS]
  | r + 1, f, i, h0, hf, hi => by
    by_cases e : i = D.length
    · rw [fd_end (by omega), List.drop_of_length_le (by omega)]; simp [costs, plainS]
    obtain ⟨t, h1, h2, h3, h4, h5⟩ := fd_cases (D := D) (f := f) (i := i) (by omega) hf hD
    have ho := one_le h2
    have ih := fd_cost hD r f (i + one t) (by omega) (by omega) h4
    rw [h1, show costs (t :: fd D f (i + one t)) = costT t + costs (fd D f (i + one t)) by simp [costs]]
    rcases h5 with ⟨rfl, _⟩ | ⟨rfl, hn⟩
    · have e1 : one ⟨D.getD i 0, 0, 0⟩ = 1 := rfl
      rw [e1] at ih ⊢
      have hp := plainS_drop (D := D) (i := i) (by omega)
      have hc : costT ⟨D.getD i 0, 0, 0⟩ = pc (D.getD i 0) := by unfold costT pc; rw [if_pos rfl]; simp only; split <;> split <;> omega
      omega
    · obtain ⟨g1, g2, g3, g4, g5, g6⟩ := mm_tok (D := D) (i := i) (by omega) hn
      have e1 : one ⟨0, (mm D i).1, (mm D i).2⟩ = (mm D i).1 := by unfold one; simp only; rw [if_pos (by omega), Int.toNat_natCast]
      rw [e1] at ih ⊢
      have hp := plainS_part D i (mm D i).1 (by omega)
      have hd : distB (mm D i).2 ≤ 12 := bitsF_most 14 12 _ 4 (by omega) (by have : (4 : Int) * 2 ^ 12 = 16384 := rfl
                                                                             omega)
      have hc : costT ⟨0, (mm D i).1, (mm D i).2⟩ ≤ 8 * (mm D i).1 := by
        unfold costT lenB
        simp only
        rw [if_neg (by omega)]
        repeat' split
        all_goals omega
      omega
theorem find_cost {D : List Nat} (hD : D.length ≤ 16384) : costs (find D) ≤ plainS D := by
  unfold find
  rw [if_neg (by omega)]
  exact fd_cost hD D.length D.length 0 (by omega) (by omega) (by omega)
/-! What stands twice. -/
def ones (l : List Tok) : Nat := (l.map one).sum
theorem ones_cons (t : Tok) (l : List Tok) : ones (t :: l) = one t + ones l := by simp [ones]
theorem fd_ones {D : List Nat} (hD : D.length ≤ 16384) : ∀ (r f i : Nat), D.length ≤ i + r → D.length ≤ i + f → i ≤ D.length → i + ones (fd D f i) = D.length
  | 0, f, i, h0, hf, hi => by rw [fd_end (by omega)]; simp [ones]; omega
  | r + 1, f, i, h0, hf, hi => by
    by_cases e : i = D.length
    · rw [fd_end (by omega)]; simp [ones]; omega
    obtain ⟨t, h1, h2, h3, h4, h5⟩ := fd_cases (D := D) (f := f) (i := i) (by omega) hf hD
    have ho := one_le h2
    have ih := fd_ones hD r f (i + one t) (by omega) (by omega) h4
    rw [h1, ones_cons]; omega
def cn (L : Nat) : List Tok → Nat → Nat
  | [], _ => 0
  | t :: l, s => (if s + one t > L then 1 else 0) + cn L l (s + one t)
theorem twice_mm {E : List Nat} {i : Nat} (h1 : E.length ≤ i) (h2 : i + 3 ≤ 2 * E.length) : (mm (E ++ E) i).1 = min 258 (2 * E.length - i) := by
  have hl : (E ++ E).length = 2 * E.length := by rw [List.length_append]; omega
  have hle := mm_le (E ++ E) i
  have hlen := mm_len (D := E ++ E) (i := i) (by omega)
  have key : lcp (E ++ E) i (i - E.length) = min 258 (2 * E.length - i) := by
    refine lcp_is (by omega) (fun j hj => ⟨by omega, ?_⟩) ?_
    · simp only [List.getD_eq_getElem?_getD]
      rw [List.getElem?_append_right (by omega), List.getElem?_append_left (by omega)]
      congr 2; omega
    · omega
  have hE : 1 ≤ E.length := by omega
  unfold mm at *
  rcases bst_spec (E ++ E) i i with ⟨g1, g2⟩ | ⟨g1, g2, g3, g4, g5⟩
  · have := g2 E.length (by omega) h1; omega
  · have := g5 E.length (by omega) h1; omega
theorem twice_len {E : List Nat} (hE : E.length ≤ 8192) : ∀ (r f i : Nat), 2 * E.length ≤ i + r → 2 * E.length ≤ i + f → E.length ≤ i → i ≤ 2 * E.length → cn E.length (fd (E ++ E) f i) i ≤ (2 * E.length - i) / 258 + 2 ∧ (2 * E.length - i < 3 → cn E.length (fd (E ++ E) f i) i ≤ 2 * E.length - i)
  | 0, f, i, h0, hf, h1, h2 => by
    have hl : (E ++ E).length = 2 * E.length := by rw [List.length_append]; omega
    rw [fd_end (by omega)]; simp [cn]
  | r + 1, f, i, h0, hf, h1, h2 => by
    have hl : (E ++ E).length = 2 * E.length := by rw [List.length_append]; omega
    by_cases e : i = 2 * E.length
    · rw [fd_end (by omega)]; simp [cn]
    obtain ⟨t, g1, g2, g3, g4, g5⟩ := fd_cases (D := E ++ E) (f := f) (i := i) (by omega) (by omega) (by omega)
    have ho := one_le g2
    have ih := twice_len hE r f (i + one t) (by omega) (by omega) (by omega) (by omega)
    rw [g1, cn, if_pos (by omega)]
    by_cases e3 : i + 3 ≤ 2 * E.length
    · have hm := twice_mm h1 e3
      have hm2 := mm_len (D := E ++ E) (i := i + 1) (by omega)
      have hm3 := mm_le (E ++ E) (i + 1)
      refine ⟨?_, fun h => by omega⟩
      rcases g5 with ⟨rfl, hc⟩ | ⟨rfl, hn⟩
      · omega
      · have e1 : one ⟨0, (mm (E ++ E) i).1, (mm (E ++ E) i).2⟩ = (mm (E ++ E) i).1 := by unfold one; simp only; rw [if_pos (by omega), Int.toNat_natCast]
        rw [e1] at ih ⊢
        rw [hm] at ih ⊢
        by_cases e4 : 258 ≤ 2 * E.length - i
        · rw [Nat.min_eq_left e4] at ih ⊢
          have := ih.1
          omega
        · rw [Nat.min_eq_right (by omega)] at ih ⊢
          have := ih.2 (by omega)
          omega
    · have := ih.2 (by omega)
      exact ⟨by omega, fun h => by omega⟩
theorem twice_cn {E : List Nat} (hE : E.length ≤ 8192) : ∀ (r f i : Nat), E.length ≤ i + r → 2 * E.length ≤ i + f → i ≤ E.length → cn E.length (fd (E ++ E) f i) i ≤ E.length / 258 + 3
  | 0, f, i, h0, hf, h1 => by
    obtain rfl : i = E.length := by omega
    have := (twice_len hE E.length f E.length (by omega) hf (by omega) (by omega)).1
    rw [show 2 * E.length - E.length = E.length by omega] at this
    omega
  | r + 1, f, i, h0, hf, h1 => by
    have hl : (E ++ E).length = 2 * E.length := by rw [List.length_append]; omega
    by_cases e : i = E.length
    · subst e
      have := (twice_len hE E.length f E.length (by omega) hf (by omega) (by omega)).1
      rw [show 2 * E.length - E.length = E.length by omega] at this
      omega
    obtain ⟨t, g1, g2, g3, g4, g5⟩ := fd_cases (D := E ++ E) (f := f) (i := i) (by omega) (by omega) (by omega)
    have ho := one_le g2
    rw [g1, cn]
    by_cases e2 : i + one t > E.length
    · rw [if_pos e2]
      have := (twice_len hE (2 * E.length) f (i + one t) (by omega) (by omega) (by omega) (by omega)).1
      omega
    · rw [if_neg e2]
      have := twice_cn hE r f (i + one t) (by omega) (by omega) (by omega)
      omega
theorem twice_find {E : List Nat} (hE : E.length ≤ 8192) : cn E.length (find (E ++ E)) 0 ≤ E.length / 258 + 3 ∧ ones (find (E ++ E)) = 2 * E.length := by
  have hl : (E ++ E).length = 2 * E.length := by rw [List.length_append]; omega
  unfold find
  rw [if_neg (by omega)]
  refine ⟨twice_cn hE E.length _ 0 (by omega) (by omega) (by omega), ?_⟩
  have := fd_ones (D := E ++ E) (by omega) (E ++ E).length (E ++ E).length 0 (by omega) (by omega) (by omega)
  omega
end Go.Proofs.Ytaolpeimlkpkbaa
