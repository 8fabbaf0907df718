/- The library's sort by a function, at one element, fourth part: patterns, the whole. Printed by sortgen.py. -/
import Derived.Test.YtcdifhgocjjbpaaSrt3
import Derived.Test.YtcdifhgocjjbpaaHwStr
set_option maxRecDepth 20000
set_option linter.unusedVariables false
set_option linter.unusedSimpArgs false
namespace Go.Proofs.Ytcdifhgocjjbpaa.Srtapi_Write
open Go Go.HW Go.Sort
variable {h : Heap} {L : List Assn} {Q : Value → Heap → Prop} {a : OA} {n c : Nat} {cmp : Value} {lt : Wr → Wr → Bool}
theorem bits_half {x : Nat} (h : 1 ≤ x) : bitsLen x = bitsLen (x / 2) + 1 := by
  unfold bitsLen
  rw [if_neg (by omega)]
  by_cases e : x = 1
  · subst e; rfl
  · rw [if_neg (by omega), Nat.log2_def, if_pos (by omega)]
theorem bits_shift {x : Nat} : ∀ (k : Nat), 2 ^ k ≤ x → bitsLen x = bitsLen (x / 2 ^ k) + k
  | 0, _ => by simp
  | k + 1, h => by
    have h2 : 2 ^ k * 2 ≤ x := by rw [← Nat.pow_succ]; exact h
    have h3 : 2 ≤ x / 2 ^ k := by rw [Nat.le_div_iff_mul_le (Nat.two_pow_pos k)]; omega
    rw [bits_shift k (by omega), bits_half (by omega), Nat.div_div_eq_div_mul, ← Nat.pow_succ]
    show bitsLen (x / 2 ^ (k + 1)) + 1 + k = bitsLen (x / 2 ^ (k + 1)) + (k + 1)
    omega
abbrev len8 : ByteArray := ⟨#[0, 1, 2, 2, 3, 3, 3, 3, 4, 4, 4, 4, 4, 4, 4, 4, 5, 5, 5, 5, 5, 5, 5, 5, 5, 5, 5, 5, 5, 5, 5, 5, 6, 6, 6, 6, 6, 6, 6, 6, 6, 6, 6, 6, 6, 6, 6, 6, 6, 6, 6, 6, 6, 6, 6, 6, 6, 6, 6, 6, 6, 6, 6, 6, 7, 7, 7, 7, 7, 7, 7, 7, 7, 7, 7, 7, 7, 7, 7, 7, 7, 7, 7, 7, 7, 7, 7, 7, 7, 7, 7, 7, 7, 7, 7, 7, 7, 7, 7, 7, 7, 7, 7, 7, 7, 7, 7, 7, 7, 7, 7, 7, 7, 7, 7, 7, 7, 7, 7, 7, 7, 7, 7, 7, 7, 7, 7, 7, 8, 8, 8, 8, 8, 8, 8, 8, 8, 8, 8, 8, 8, 8, 8, 8, 8, 8, 8, 8, 8, 8, 8, 8, 8, 8, 8, 8, 8, 8, 8, 8, 8, 8, 8, 8, 8, 8, 8, 8, 8, 8, 8, 8, 8, 8, 8, 8, 8, 8, 8, 8, 8, 8, 8, 8, 8, 8, 8, 8, 8, 8, 8, 8, 8, 8, 8, 8, 8, 8, 8, 8, 8, 8, 8, 8, 8, 8, 8, 8, 8, 8, 8, 8, 8, 8, 8, 8, 8, 8, 8, 8, 8, 8, 8, 8, 8, 8, 8, 8, 8, 8, 8, 8, 8, 8, 8, 8, 8, 8, 8, 8, 8, 8, 8, 8, 8, 8, 8, 8, 8, 8, 8, 8, 8, 8, 8, 8]⟩
theorem len8_ok : ∀ x, x < 256 → (sb len8)[x]? = some (bitsLen x) := by
  have : ∀ x : Fin 256, (sb len8)[x.val]? = some (bitsLen x.val) := by decide +kernel
  exact fun x hx => this ⟨x, hx⟩
theorem Len_hs {x : Nat} (hx : x < 2 ^ 62) (H : Hs h L) (k : ∀ h', Hs h' L → Q (.int .i64 (bitsLen x : Nat)) h') : SpecH PP F_math_bits_Len [.int .u64 x] h Q := by
  refine math_bits_Len.door (math_bits_Len64.door ?_)
  have J3 : ∀ {y m : Nat}, y < 256 → m ≤ 60 → bitsLen y + m = bitsLen x → math_bits_Len64.J3 (y : Int) (m : Int) (fun v h1 => ∃ (t7 : Int), v = .int .i64 t7 ∧ Q (.int .i64 t7) h1) h := by
    intro y m hy hm e
    refine math_bits_Len64.J3_of ?_
    dsimp only
    rw [wrap_u8_id (a := y) hy]
    have hsz : y < len8.size := hy
    have hv := len8_ok y hy
    have hb : bitsLen y ≤ 8 := by
      have : ∀ z : Fin 256, bitsLen z.val ≤ 8 := by decide +kernel
      exact this ⟨y, hy⟩
    refine hwp_sidx U_string hsz ⟨_, rfl, ?_⟩
    rw [List.getElem?_eq_getElem (by rw [sb_len]; exact hsz)] at hv
    rw [Option.some.inj hv, wrap_i64_z (z := (bitsLen y : Nat)) (by omega) (by omega), wrap_i64_z (by omega) (by omega)]
    refine ⟨_, rfl, ?_⟩
    rw [show (m : Int) + (bitsLen y : Nat) = ((bitsLen x : Nat) : Int) by omega]
    exact k h H
  have J2 : ∀ {y m : Nat}, y < 65536 → m ≤ 50 → bitsLen y + m = bitsLen x → math_bits_Len64.J2 (y : Int) (m : Int) (fun v h1 => ∃ (t7 : Int), v = .int .i64 t7 ∧ Q (.int .i64 t7) h1) h := by
    intro y m hy hm e
    refine math_bits_Len64.J2_of ((br_iff _ _ _).2 ⟨fun e1 => ?_, fun e1 => ?_⟩)
    · have e1 := of_decide_eq_true e1
      dsimp only
      rw [show sShr .u64 (y : Int) 8 = ((y / 2 ^ 8 : Nat) : Int) from shr_u64 (m := 8) (by omega), show IntKind.i64.wrap ((m : Int) + 8) = ((m + 8 : Nat) : Int) by rw [wrap_i64_z (by omega) (by omega)]; omega]
      exact J3 (by omega) (by omega) (by have := bits_shift (x := y) 8 (by omega); omega)
    · have e1 := of_decide_eq_false e1
      exact J3 (by omega) (by omega) e
  have J1 : ∀ {y m : Nat}, y < 4294967296 → m ≤ 32 → bitsLen y + m = bitsLen x → math_bits_Len64.J1 (y : Int) (m : Int) (fun v h1 => ∃ (t7 : Int), v = .int .i64 t7 ∧ Q (.int .i64 t7) h1) h := by
    intro y m hy hm e
    refine math_bits_Len64.J1_of ((br_iff _ _ _).2 ⟨fun e1 => ?_, fun e1 => ?_⟩)
    · have e1 := of_decide_eq_true e1
      dsimp only
      rw [show sShr .u64 (y : Int) 16 = ((y / 2 ^ 16 : Nat) : Int) from shr_u64 (m := 16) (by omega), show IntKind.i64.wrap ((m : Int) + 16) = ((m + 16 : Nat) : Int) by rw [wrap_i64_z (by omega) (by omega)]; omega]
      exact J2 (by omega) (by omega) (by have := bits_shift (x := y) 16 (by omega); omega)
    · have e1 := of_decide_eq_false e1
      exact J2 (by omega) (by omega) e
  refine (br_iff _ _ _).2 ⟨fun e1 => ?_, fun e1 => ?_⟩
  · have e1 := of_decide_eq_true e1
    dsimp only
    rw [show sShr .u64 (x : Int) 32 = ((x / 2 ^ 32 : Nat) : Int) from shr_u64 (m := 32) (by omega)]
    exact J1 (m := 32) (by omega) (by omega) (by have := bits_shift (x := x) 32 (by omega); omega)
  · have e1 := of_decide_eq_false e1
    exact J1 (m := 0) (by omega) (by omega) rfl
theorem next_hs {r : UInt64} {rb : Nat} (H : Hs h (pt rb T_slices_xorshift [.int .u64 (r.toNat : Nat)] :: L)) (k : ∀ h', Hs h' (pt rb T_slices_xorshift [.int .u64 ((xorNext r).toNat : Nat)] :: L) → Q (.int .u64 ((xorNext r).toNat : Nat)) h') :
    SpecH PP F_slices_xorshift_Next [.pointer (some ⟨rb, 0, none⟩)] h Q := by
  refine slices_xorshift_Next.door ?_
  dsimp only [nilc]
  have sh : ∀ (s : UInt64) (m : Nat) (hm : m < 64), (s <<< UInt64.ofNat m).toNat = s.toNat * 2 ^ m % 18446744073709551616 := fun s m hm => by
    rw [UInt64.toNat_shiftLeft, Nat.shiftLeft_eq]
    have : (UInt64.ofNat m).toNat % 64 = m := by simp; omega
    rw [this]
  have sr : ∀ (s : UInt64) (m : Nat) (hm : m < 64), (s >>> UInt64.ofNat m).toNat = s.toNat / 2 ^ m := fun s m hm => by
    rw [UInt64.toNat_shiftRight, Nat.shiftRight_eq_div_pow]
    have : (UInt64.ofNat m).toNat % 64 = m := by simp; omega
    rw [this]
  have lt64 : ∀ s : UInt64, s.toNat < 18446744073709551616 := fun s => s.toNat_lt
  have A : ∀ (s : UInt64), bXor .u64 (s.toNat : Nat) (sShl .u64 (s.toNat : Nat) 13) = (((s ^^^ (s <<< 13)).toNat : Nat) : Int) := fun s => by
    rw [show sShl .u64 (s.toNat : Int) 13 = ((s.toNat * 2 ^ 13 % 18446744073709551616 : Nat) : Int) from shl_u64 (m := 13) (lt64 s), xor_u64 (lt64 s) (Nat.mod_lt _ (by decide)), UInt64.toNat_xor, ← sh s 13 (by decide)]; rfl
  have B : ∀ (s : UInt64), bXor .u64 (s.toNat : Nat) (sShr .u64 (s.toNat : Nat) 7) = (((s ^^^ (s >>> 7)).toNat : Nat) : Int) := fun s => by
    rw [show sShr .u64 (s.toNat : Int) 7 = ((s.toNat / 2 ^ 7 : Nat) : Int) from shr_u64 (m := 7) (lt64 s), xor_u64 (lt64 s) (by have := lt64 s; omega), UInt64.toNat_xor, ← sr s 7 (by decide)]; rfl
  have C : ∀ (s : UInt64), bXor .u64 (s.toNat : Nat) (sShl .u64 (s.toNat : Nat) 17) = (((s ^^^ (s <<< 17)).toNat : Nat) : Int) := fun s => by
    rw [show sShl .u64 (s.toNat : Int) 17 = ((s.toNat * 2 ^ 17 % 18446744073709551616 : Nat) : Int) from shl_u64 (m := 17) (lt64 s), xor_u64 (lt64 s) (Nat.mod_lt _ (by decide)), UInt64.toNat_xor, ← sh s 17 (by decide)]; rfl
  refine ⟨_, H.cell (off := 0) rfl, _, H.cell (off := 0) rfl, H.sto (off := 0) (by simp) fun h1 H1 => ?_⟩
  rw [A r] at H1
  refine ⟨_, H1.cell (off := 0) rfl, _, H1.cell (off := 0) rfl, H1.sto (off := 0) (by simp) fun h2 H2 => ?_⟩
  rw [B] at H2
  refine ⟨_, H2.cell (off := 0) rfl, _, H2.cell (off := 0) rfl, H2.sto (off := 0) (by simp) fun h3 H3 => ⟨_, H3.cell (off := 0) rfl, ?_⟩⟩
  rw [C] at H3 ⊢
  exact k h3 H3
theorem bits_pow {x : Nat} (h : 1 ≤ x) : x < 2 ^ bitsLen x ∧ 2 ^ bitsLen x ≤ 2 * x := by
  unfold bitsLen
  rw [if_neg (by omega)]
  have h1 := Nat.lt_log2_self (n := x)
  have h2 := Nat.log2_self_le (n := x) (by omega)
  rw [Nat.pow_succ] at h1 ⊢
  omega
theorem break_hs {d : Array Wr} {x y : Nat} (hn : d.size = n) (hxy : x ≤ y) (hy : y ≤ n) (hmax : n < 2 ^ 59) (H : Hs h (S a n c d :: L)) (k : ∀ h', Hs h' (S a n c (breakPatterns d x y) :: L) → Q (.tuple #[]) h') :
    SpecH PP F_slices_breakPatternsCmpFunc_api_Write [.slice a n c, .int .i64 (x : Int), .int .i64 (y : Int), cmp] h Q := by
  refine slices_breakPatternsCmpFunc_api_Write.door ?_
  dsimp only
  rw [wS hxy (by omega)]
  unfold breakPatterns at k
  dsimp only at k
  generalize hm : y - x = m at k ⊢
  refine (br_iff _ _ _).2 ⟨fun e => ?_, fun e => ?_⟩
  · have e := of_decide_eq_true e
    rw [if_pos (by omega)] at k
    rw [wrap_u64_id (a := m) (by omega)]
    refine (H.new (t := T_slices_xorshift) (cs := #[.int .u64 0]) (xs := [.int .u64 0])).sto (off := 0) (by simp) fun h1 H1 => ?_
    generalize Array.size h = rb at H1 ⊢
    have em : m = (UInt64.ofNat m).toNat := by simp; omega
    refine slices_nextPowerOfTwo.door ?_
    dsimp only
    rw [wrap_u64_id (a := m) (by omega)]
    refine Len_hs (by omega) H1 fun h2 H2 => ⟨_, rfl, br_true (decide_eq_true (by omega)) ⟨_, rfl, ?_⟩⟩
    obtain ⟨b1, b2⟩ := bits_pow (x := m) (by omega)
    have hmod : sShl .u64 1 (bitsLen m : Nat) = ((1 <<< bitsLen m : Nat) : Int) := by
      rw [show sShl .u64 1 ((bitsLen m : Nat) : Int) = ((1 * 2 ^ bitsLen m % 18446744073709551616 : Nat) : Int) from shl_u64 (a := 1) (by decide), Nat.shiftLeft_eq, Nat.mod_eq_of_lt (by omega)]
    rw [hmod]
    have hM : 1 <<< bitsLen m = 2 ^ bitsLen m := by rw [Nat.shiftLeft_eq, Nat.one_mul]
    generalize hMM : 1 <<< bitsLen m = M at k hM ⊢
    have q4 : 4 * (m / 4) ≤ m := Nat.mul_div_le _ _
    have t4 : Int.tdiv (m : Int) 4 = ((m / 4 : Nat) : Int) := tdiv_n _ 4
    have tt : IntKind.i64.wrap (IntKind.i64.wrap (Int.tdiv (m : Int) 4) * 2) = ((m / 4 * 2 : Nat) : Int) := by rw [t4, wI (x := ((m / 4 : Nat) : Int)) (by omega) (by omega), wI (by omega) (by omega)]; omega
    rw [tt, wA (by omega), p1 (by omega) (by omega)]
    rw [show (Value.int .u64 (m : Int)) = .int .u64 ((UInt64.ofNat m).toNat : Nat) by rw [← em]] at H2
    have round : ∀ (r : Nat) {h : Heap} {s : UInt64} {f : Array Wr}, 1 ≤ r → r ≤ 3 → (∀ h', Hs h' (S a n c (breakStep x m M (s, f) (x + m / 4 * 2 + 2 - r)).2 :: pt rb T_slices_xorshift [.int .u64 ((breakStep x m M (s, f) (x + m / 4 * 2 + 2 - r)).1.toNat : Nat)] :: L) →
        slices_breakPatternsCmpFunc_api_Write.L1 a n c (x : Int) (m : Int) ⟨rb, 0, none⟩ (M : Int) ((x + m / 4 * 2 + 2 - r + 1 : Nat) : Int) (slices_breakPatternsCmpFunc_api_Write.K1 Q) h') →
        Hs h (S a n c f :: pt rb T_slices_xorshift [.int .u64 (s.toNat : Nat)] :: L) → slices_breakPatternsCmpFunc_api_Write.L1 a n c (x : Int) (m : Int) ⟨rb, 0, none⟩ (M : Int) ((x + m / 4 * 2 + 2 - r : Nat) : Int) (slices_breakPatternsCmpFunc_api_Write.K1 Q) h := by
      intro r h s f hr1 hr kk H
      have hs : f.size = n := by have := H.own_len; rw [flat_len phl] at this; simp only [Array.length_toList] at this; omega
      refine slices_breakPatternsCmpFunc_api_Write.L1_of ?_
      dsimp only
      rw [tt, wA (by omega), w1 (by omega)]
      refine br_true (decide_eq_true (by omega)) ?_
      refine next_hs H.m1 fun h1 H1 => ⟨_, rfl, ?_⟩
      unfold breakStep at kk
      dsimp only at kk
      have hx := (xorNext s).toNat_lt
      generalize (xorNext s) = s2 at H1 kk hx ⊢
      have hand : bAnd .u64 (s2.toNat : Nat) (IntKind.u64.wrap ((M : Int) - 1)) = ((s2.toNat &&& (M - 1) : Nat) : Int) := by
        rw [show (M : Int) - 1 = ((M - 1 : Nat) : Int) by omega, wrap_u64_id (by omega), and_u64 hx (by omega)]
      have hle : s2.toNat &&& (M - 1) ≤ M - 1 := Nat.and_le_right
      rw [hand, wI (by omega) (by omega)]
      generalize s2.toNat &&& (M - 1) = o at kk hle ⊢
      have J : ∀ o2 : Nat, o2 < m → o2 = (if o ≥ m then o - m else o) → slices_breakPatternsCmpFunc_api_Write.J1 a n c (x : Int) (m : Int) ⟨rb, 0, none⟩ (M : Int) ((x + m / 4 * 2 + 2 - r : Nat) : Int) (o2 : Int) (slices_breakPatternsCmpFunc_api_Write.K1 Q) h1 := by
        intro o2 ho eo
        rw [← eo] at kk
        refine slices_breakPatternsCmpFunc_api_Write.J1_of ?_
        dsimp only
        rw [wA (by omega)]
        refine swap_hs hs (by omega) (by omega) H1.m1 fun h3 H3 => ?_
        rw [w1 (by omega)]
        exact kk h3 H3
      refine (br_iff _ _ _).2 ⟨fun e1 => ?_, fun e1 => ?_⟩
      · have e1 := of_decide_eq_true e1
        rw [wS (by omega) (by omega)]
        exact J (o - m) (by omega) (by rw [if_pos (by omega)])
      · have e1 := of_decide_eq_false e1
        exact J o (by omega) (by rw [if_neg (by omega)])
    have H2' := H2.m1
    rw [show x + m / 4 * 2 - 1 = x + m / 4 * 2 + 2 - 3 by omega] at k ⊢
    refine round 3 (by omega) (by omega) (fun h3 H3 => ?_) H2'
    rw [show x + m / 4 * 2 + 2 - 3 + 1 = x + m / 4 * 2 + 2 - 2 by omega] at k ⊢
    refine round 2 (by omega) (by omega) (fun h4 H4 => ?_) H3
    rw [show x + m / 4 * 2 + 2 - 2 + 1 = x + m / 4 * 2 + 2 - 1 by omega]
    rw [show x + m / 4 * 2 + 2 - 3 + 2 = x + m / 4 * 2 + 2 - 1 by omega] at k
    refine round 1 (by omega) (by omega) (fun h5 H5 => ?_) H4
    refine slices_breakPatternsCmpFunc_api_Write.L1_of ?_
    dsimp only
    rw [tt, wA (by omega), w1 (by omega)]
    exact br_false (decide_eq_false (by omega)) (slices_breakPatternsCmpFunc_api_Write.L1_X0 (k h5 (H5.m1.tl)))
  · have e := of_decide_eq_false e
    rw [if_neg (by omega)] at k
    exact k h H
end Go.Proofs.Ytcdifhgocjjbpaa.Srtapi_Write
