/- The plain law of the checks: a table of sixteen steps is four steps of one bit; one row behind the other; four neighbouring bytes. -/
set_option linter.unusedVariables false
set_option linter.unusedSimpArgs false
namespace Go.HW.Crc

def bit (r : BitVec 32) : BitVec 32 := if r.getLsbD 0 then (r >>> 1) ^^^ 0xedb88320#32 else r >>> 1
def four (r : BitVec 32) : BitVec 32 := bit (bit (bit (bit r)))
def eight (r : BitVec 32) : BitVec 32 := four (four r)
def step (r : BitVec 32) (b : BitVec 8) : BitVec 32 := eight (r ^^^ b.setWidth 32)
def run (r : BitVec 32) (bs : List (BitVec 8)) : BitVec 32 := bs.foldl step r
def more (s : BitVec 32) (bs : List (BitVec 8)) : BitVec 32 := ~~~(run (~~~s) bs)
def sum (bs : List (BitVec 8)) : BitVec 32 := more 0 bs

theorem bit_xor (x y : BitVec 32) : bit (x ^^^ y) = bit x ^^^ bit y := by
  unfold bit
  rw [BitVec.getLsbD_xor, BitVec.ushiftRight_xor_distrib]
  cases x.getLsbD 0 <;> cases y.getLsbD 0 <;> simp
  · rw [BitVec.xor_assoc]
  · rw [BitVec.xor_assoc, BitVec.xor_comm (y >>> 1), ← BitVec.xor_assoc]
  · rw [BitVec.xor_assoc, BitVec.xor_comm (y >>> 1), ← BitVec.xor_assoc 3988292384#32, BitVec.xor_self, BitVec.zero_xor]
theorem four_xor (x y : BitVec 32) : four (x ^^^ y) = four x ^^^ four y := by simp [four, bit_xor]
theorem eight_xor (x y : BitVec 32) : eight (x ^^^ y) = eight x ^^^ eight y := by simp [eight, four_xor]
theorem bit_even {r : BitVec 32} (h : r.getLsbD 0 = false) : bit r = r >>> 1 := by unfold bit; rw [h]; rfl
theorem four_low {r : BitVec 32} (h : ∀ i, i < 4 → r.getLsbD i = false) : four r = r >>> 4 := by
  unfold four
  have g : ∀ k j, (r >>> k).getLsbD j = r.getLsbD (k + j) := fun k j => BitVec.getLsbD_ushiftRight ..
  have s : ∀ k : Nat, (r >>> k) >>> (1 : Nat) = r >>> (k + 1) := fun k => (BitVec.shiftRight_add r k 1).symm
  rw [bit_even (h 0 (by decide)), bit_even (r := r >>> 1) (by rw [g]; exact h 1 (by decide)), s, bit_even (r := r >>> 2) (by rw [g]; exact h 2 (by decide)), s, bit_even (r := r >>> 3) (by rw [g]; exact h 3 (by decide)), s]
theorem split4 (r : BitVec 32) : r = (r &&& ~~~15#32) ^^^ (r &&& 15#32) := by
  apply BitVec.eq_of_getLsbD_eq
  intro i hi
  simp only [BitVec.getLsbD_xor, BitVec.getLsbD_and, BitVec.getLsbD_not, hi]
  cases r.getLsbD i <;> cases (15#32).getLsbD i <;> rfl
theorem four_eq (r : BitVec 32) : four r = (r >>> 4) ^^^ four (r &&& 15#32) := by
  conv => lhs; rw [split4 r, four_xor]
  rw [four_low]
  · congr 1
    apply BitVec.eq_of_getLsbD_eq
    intro i hi
    simp only [BitVec.getLsbD_ushiftRight, BitVec.getLsbD_and, BitVec.getLsbD_not]
    rcases Nat.lt_or_ge (4 + i) 32 with h | h
    · have : (15#32).getLsbD (4 + i) = false := by
        have : ∀ j, j < 28 → (15#32).getLsbD (4 + j) = false := by decide
        exact this i (by omega)
      rw [this]; simp only [h, decide_true, Bool.not_false, Bool.and_true]
    · rw [BitVec.getLsbD_of_ge _ _ h]; simp
  · intro i hi
    have : ∀ j, j < 4 → (~~~15#32).getLsbD j = false := by decide
    rw [BitVec.getLsbD_and, this i hi]; simp
theorem bit_inj {x y : BitVec 32} (h : bit x = bit y) : x = y := by
  have top : ∀ r : BitVec 32, (bit r).getLsbD 31 = r.getLsbD 0 := by
    intro r; unfold bit
    cases hr : r.getLsbD 0 <;> simp
  have h0 : x.getLsbD 0 = y.getLsbD 0 := by rw [← top x, ← top y, h]
  have h1 : x >>> 1 = y >>> 1 := by
    unfold bit at h
    rw [h0] at h
    cases hy : y.getLsbD 0 <;> rw [hy] at h <;> simp at h
    · exact h
    · exact h
  apply BitVec.eq_of_getLsbD_eq
  intro i hi
  cases i with
  | zero => exact h0
  | succ i =>
    have := congrArg (fun b : BitVec 32 => b.getLsbD i) h1
    simpa [BitVec.getLsbD_ushiftRight, Nat.add_comm 1] using this
theorem eight_inj {x y : BitVec 32} (h : eight x = eight y) : x = y := bit_inj (bit_inj (bit_inj (bit_inj (bit_inj (bit_inj (bit_inj (bit_inj h)))))))
theorem bit_zero : bit 0 = 0 := by decide
theorem eight_zero : eight 0 = 0 := by decide
theorem xor_cancel {a x y : BitVec 32} (h : a ^^^ x = a ^^^ y) : x = y := by
  have := congrArg (a ^^^ ·) h
  simpa [← BitVec.xor_assoc] using this
theorem run_inj (bs : List (BitVec 8)) : ∀ {x y : BitVec 32}, run x bs = run y bs → x = y := by
  induction bs with
  | nil => exact fun h => h
  | cons b bs ih =>
    intro x y h
    have := eight_inj (ih h)
    rw [BitVec.xor_comm x, BitVec.xor_comm y] at this
    exact xor_cancel this
theorem run_app (r : BitVec 32) (a b : List (BitVec 8)) : run r (a ++ b) = run (run r a) b := by simp [run]
theorem more_app (s : BitVec 32) (a b : List (BitVec 8)) : more s (a ++ b) = more (more s a) b := by simp [more, run_app]
theorem more_nil (s : BitVec 32) : more s [] = s := by simp [more, run]
theorem sum_inj_iff (a b : List (BitVec 8)) : sum a = sum b ↔ run (~~~0) a = run (~~~0) b := by
  unfold sum more
  constructor
  · intro h; have := congrArg (~~~ ·) h; simpa using this
  · intro h; rw [h]

/-- Two rows of the same length, up to four bytes: the same end, the same row. -/
theorem eight_high (y : BitVec 32) (h : y.toNat < 2 ^ 24) : eight (y <<< 8) = y := by
  have e : ∀ r : BitVec 32, (∀ i, i < 8 → r.getLsbD i = false) → eight r = r >>> 8 := by
    intro r hr
    unfold eight
    rw [four_low (r := r) (fun i hi => hr i (by omega)), four_low]
    · exact (BitVec.shiftRight_add r 4 4).symm
    · intro i hi
      rw [BitVec.getLsbD_ushiftRight]; exact hr _ (by omega)
  rw [e]
  · apply BitVec.eq_of_toNat_eq
    rw [BitVec.toNat_ushiftRight, BitVec.toNat_shiftLeft, Nat.shiftLeft_eq, Nat.shiftRight_eq_div_pow, Nat.mod_eq_of_lt (by omega)]
    omega
  · intro i hi; simp; omega

def word : List (BitVec 8) → BitVec 32
  | [] => 0
  | b :: m => b.setWidth 32 ^^^ (word m <<< 8)
theorem word_lt : ∀ (m : List (BitVec 8)) (k : Nat), m.length ≤ k → k ≤ 3 → (word m).toNat < 2 ^ (8 * k)
  | [], k, _, _ => Nat.pow_pos (by decide)
  | b :: m, k, hl, hk => by
    cases k with
    | zero => simp at hl
    | succ k =>
      have ih := word_lt m k (by simpa using hl) (by omega)
      unfold word
      rw [BitVec.toNat_xor]
      refine Nat.xor_lt_two_pow ?_ ?_
      · rw [BitVec.toNat_setWidth]
        have h1 := Nat.mod_le b.toNat (2 ^ 32)
        have h2 : (2 : Nat) ^ 8 ≤ 2 ^ (8 * (k + 1)) := Nat.pow_le_pow_right (by decide) (by omega)
        have h3 := b.isLt
        omega
      · rw [BitVec.toNat_shiftLeft, Nat.shiftLeft_eq]
        have h1 := Nat.mod_le ((word m).toNat * 2 ^ 8) (2 ^ 32)
        have h2 : (2 : Nat) ^ (8 * (k + 1)) = 2 ^ (8 * k) * 2 ^ 8 := by rw [← Nat.pow_add, Nat.mul_add]
        rw [h2]
        exact Nat.lt_of_le_of_lt h1 (Nat.mul_lt_mul_of_pos_right ih (by decide))
theorem word_lt24 (m : List (BitVec 8)) (h : m.length ≤ 3) : (word m).toNat < 2 ^ 24 := word_lt m 3 h (by decide)
def many : Nat → BitVec 32 → BitVec 32
  | 0, r => r
  | n + 1, r => many n (eight r)
theorem many_inj : ∀ (n : Nat) {x y : BitVec 32}, many n x = many n y → x = y
  | 0, _, _, h => h
  | n + 1, _, _, h => eight_inj (many_inj n h)
theorem run_word : ∀ (m : List (BitVec 8)) (r : BitVec 32), m.length ≤ 4 → run r m = many m.length (r ^^^ word m)
  | [], r, _ => by simp [run, many, word]
  | b :: m, r, h => by
    have hm : m.length ≤ 3 := by simpa using h
    show run (step r b) m = many m.length (eight (r ^^^ (b.setWidth 32 ^^^ (word m <<< 8))))
    rw [run_word m _ (by omega), ← BitVec.xor_assoc, eight_xor, eight_high _ (word_lt24 m hm)]
    rfl
theorem word_inj : ∀ (m m' : List (BitVec 8)), m.length = m'.length → m.length ≤ 4 → word m = word m' → m = m'
  | [], [], _, _, _ => rfl
  | b :: m, b' :: m', hl, h4, h => by
    have h3 : m.length ≤ 3 := by simpa using h4
    have h3' : m'.length ≤ 3 := by simp at hl; omega
    have low : ∀ (b : BitVec 8) (m : List (BitVec 8)), (word (b :: m)).setWidth 8 = b := by
      intro b m; unfold word
      apply BitVec.eq_of_getLsbD_eq
      intro i hi
      simp [BitVec.getLsbD_xor, hi]
    have high : ∀ (b : BitVec 8) (m : List (BitVec 8)), m.length ≤ 3 → (word (b :: m)) >>> 8 = word m := by
      intro b m hm
      show (b.setWidth 32 ^^^ (word m <<< 8)) >>> 8 = word m
      rw [BitVec.ushiftRight_xor_distrib]
      have e1 : (b.setWidth 32) >>> 8 = 0 := by
        apply BitVec.eq_of_toNat_eq
        rw [BitVec.toNat_ushiftRight, BitVec.toNat_setWidth, Nat.shiftRight_eq_div_pow]
        have := b.isLt
        have h1 := Nat.mod_le b.toNat (2 ^ 32)
        show _ = 0
        omega
      have e2 : (word m <<< 8) >>> 8 = word m := by
        have := word_lt24 m hm
        apply BitVec.eq_of_toNat_eq
        rw [BitVec.toNat_ushiftRight, BitVec.toNat_shiftLeft, Nat.shiftLeft_eq, Nat.shiftRight_eq_div_pow, Nat.mod_eq_of_lt (by omega)]
        omega
      rw [e1, e2]; simp
    have e1 := low b m; rw [h, low] at e1
    have e2 := high b m h3; rw [h, high b' m' h3'] at e2
    rw [e1, word_inj m m' (by simpa using hl) (by omega) e2.symm]
theorem run_four {m m' : List (BitVec 8)} {r : BitVec 32} (hl : m.length = m'.length) (h4 : m.length ≤ 4) (h : run r m = run r m') : m = m' := by
  rw [run_word m r h4, run_word m' r (by omega), ← hl] at h
  exact word_inj m m' hl h4 (xor_cancel (many_inj _ h))
theorem sum_window {p m m' s : List (BitVec 8)} (hl : m.length = m'.length) (h4 : m.length ≤ 4) : sum (p ++ m ++ s) = sum (p ++ m' ++ s) ↔ m = m' := by
  constructor
  · intro h
    rw [sum_inj_iff, run_app, run_app, run_app, run_app] at h
    exact run_four hl h4 (run_inj s h)
  · rintro rfl; rfl
end Go.HW.Crc
