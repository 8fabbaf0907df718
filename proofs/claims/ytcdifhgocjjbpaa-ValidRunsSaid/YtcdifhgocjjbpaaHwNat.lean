/- Numbers of the model that are no less than nought, as natural numbers. -/
import Derived.Test.YtcdifhgocjjbpaaHwSep
set_option linter.unusedVariables false
set_option linter.unusedSimpArgs false
namespace Go.HW
open Go

theorem wrapU (k : IntKind) (hk : k.signed = false) (a : Nat) : k.wrap (a : Int) = ((a % 2 ^ k.bits : Nat) : Int) := by
  rw [wrap_bv hk, BitVec.ofInt_natCast, BitVec.toNat_ofNat]
theorem wrapS {k : IntKind} {a : Nat} (h : a < 2 ^ (k.bits - 1)) : k.wrap (a : Int) = (a : Int) := by
  cases k <;> simp [IntKind.wrap, IntKind.signed, IntKind.bits] at h ⊢ <;> omega
theorem pow_half (k : IntKind) : 2 ^ (k.bits - 1) ≤ 2 ^ k.bits := Nat.pow_le_pow_right (by decide) (by omega)
theorem and_n {k : IntKind} {a b : Nat} (ha : a < 2 ^ (k.bits - 1)) (hb : b < 2 ^ k.bits) : bAnd k a b = ((a &&& b : Nat) : Int) := by
  unfold bAnd
  have ha' := Nat.lt_of_lt_of_le ha (pow_half k)
  rw [BitVec.ofInt_natCast, BitVec.ofInt_natCast, BitVec.toNat_and, BitVec.toNat_ofNat, BitVec.toNat_ofNat, Nat.mod_eq_of_lt ha', Nat.mod_eq_of_lt hb]
  exact wrapS (Nat.lt_of_le_of_lt Nat.and_le_left ha)
theorem or_n {k : IntKind} {a b : Nat} (ha : a < 2 ^ (k.bits - 1)) (hb : b < 2 ^ (k.bits - 1)) : bOr k a b = ((a ||| b : Nat) : Int) := by
  unfold bOr
  have ha' := Nat.lt_of_lt_of_le ha (pow_half k)
  have hb' := Nat.lt_of_lt_of_le hb (pow_half k)
  rw [BitVec.ofInt_natCast, BitVec.ofInt_natCast, BitVec.toNat_or, BitVec.toNat_ofNat, BitVec.toNat_ofNat, Nat.mod_eq_of_lt ha', Nat.mod_eq_of_lt hb']
  exact wrapS (Nat.or_lt_two_pow ha hb)
theorem xor_n {k : IntKind} {a b : Nat} (ha : a < 2 ^ (k.bits - 1)) (hb : b < 2 ^ (k.bits - 1)) : bXor k a b = ((a ^^^ b : Nat) : Int) := by
  unfold bXor
  have ha' := Nat.lt_of_lt_of_le ha (pow_half k)
  have hb' := Nat.lt_of_lt_of_le hb (pow_half k)
  rw [BitVec.ofInt_natCast, BitVec.ofInt_natCast, BitVec.toNat_xor, BitVec.toNat_ofNat, BitVec.toNat_ofNat, Nat.mod_eq_of_lt ha', Nat.mod_eq_of_lt hb']
  exact wrapS (Nat.xor_lt_two_pow ha hb)
theorem and_u {k : IntKind} (hk : k.signed = false) {a b : Nat} (ha : a < 2 ^ k.bits) (hb : b < 2 ^ k.bits) : bAnd k a b = ((a &&& b : Nat) : Int) := by
  have := bAnd_bv hk (BitVec.ofNat k.bits a) (BitVec.ofNat k.bits b)
  rwa [BitVec.toNat_and, BitVec.toNat_ofNat, BitVec.toNat_ofNat, Nat.mod_eq_of_lt ha, Nat.mod_eq_of_lt hb] at this
theorem or_u {k : IntKind} (hk : k.signed = false) {a b : Nat} (ha : a < 2 ^ k.bits) (hb : b < 2 ^ k.bits) : bOr k a b = ((a ||| b : Nat) : Int) := by
  have := bOr_bv hk (BitVec.ofNat k.bits a) (BitVec.ofNat k.bits b)
  rwa [BitVec.toNat_or, BitVec.toNat_ofNat, BitVec.toNat_ofNat, Nat.mod_eq_of_lt ha, Nat.mod_eq_of_lt hb] at this
theorem xor_u {k : IntKind} (hk : k.signed = false) {a b : Nat} (ha : a < 2 ^ k.bits) (hb : b < 2 ^ k.bits) : bXor k a b = ((a ^^^ b : Nat) : Int) := by
  have := bXor_bv hk (BitVec.ofNat k.bits a) (BitVec.ofNat k.bits b)
  rwa [BitVec.toNat_xor, BitVec.toNat_ofNat, BitVec.toNat_ofNat, Nat.mod_eq_of_lt ha, Nat.mod_eq_of_lt hb] at this
theorem shl_u {k : IntKind} (hk : k.signed = false) (a : Nat) {n : Int} {m : Nat} (hn : n = m) (ha : a < 2 ^ k.bits) : sShl k a n = ((a * 2 ^ m % 2 ^ k.bits : Nat) : Int) := by
  subst hn
  have := sShl_bv hk (BitVec.ofNat k.bits a) m
  rw [BitVec.toNat_shiftLeft, BitVec.toNat_ofNat, Nat.mod_eq_of_lt ha, Int.toNat_natCast, Nat.shiftLeft_eq] at this
  exact this
theorem shr_n {k : IntKind} (a : Nat) {n : Int} {m : Nat} (hn : n = m) (ha : a < 2 ^ k.bits) : sShr k a n = ((a / 2 ^ m : Nat) : Int) := by
  subst hn
  have := sShr_bv (k := k) (BitVec.ofNat k.bits a) m
  rw [BitVec.toNat_ushiftRight, BitVec.toNat_ofNat, Nat.mod_eq_of_lt ha, Int.toNat_natCast, Nat.shiftRight_eq_div_pow] at this
  exact this
theorem and_u8 {a b : Nat} (ha : a < 256) (hb : b < 256) : bAnd .u8 a b = ((a &&& b : Nat) : Int) := and_u (k := .u8) rfl ha hb
theorem or_u8 {a b : Nat} (ha : a < 256) (hb : b < 256) : bOr .u8 a b = ((a ||| b : Nat) : Int) := or_u (k := .u8) rfl ha hb
theorem xor_u8 {a b : Nat} (ha : a < 256) (hb : b < 256) : bXor .u8 a b = ((a ^^^ b : Nat) : Int) := xor_u (k := .u8) rfl ha hb
theorem shl_u8 {a m : Nat} (ha : a < 256) : sShl .u8 a m = ((a * 2 ^ m % 256 : Nat) : Int) := shl_u (k := .u8) rfl a rfl ha
theorem shr_u8 {a m : Nat} (ha : a < 256) : sShr .u8 a m = ((a / 2 ^ m : Nat) : Int) := shr_n (k := .u8) a rfl ha
theorem wrap_u8 (a : Nat) : IntKind.u8.wrap (a : Int) = ((a % 256 : Nat) : Int) := wrapU .u8 rfl a
theorem wrap_u8_id {a : Nat} (h : a < 256) : IntKind.u8.wrap (a : Int) = (a : Int) := by rw [wrap_u8, Nat.mod_eq_of_lt h]
theorem wrap_u8_z {z : Int} (h0 : 0 ≤ z) (h : z < 256) : IntKind.u8.wrap z = z := by obtain ⟨a, rfl⟩ := Int.eq_ofNat_of_zero_le h0; exact wrap_u8_id (by omega)
theorem and_u16 {a b : Nat} (ha : a < 65536) (hb : b < 65536) : bAnd .u16 a b = ((a &&& b : Nat) : Int) := and_u (k := .u16) rfl ha hb
theorem or_u16 {a b : Nat} (ha : a < 65536) (hb : b < 65536) : bOr .u16 a b = ((a ||| b : Nat) : Int) := or_u (k := .u16) rfl ha hb
theorem xor_u16 {a b : Nat} (ha : a < 65536) (hb : b < 65536) : bXor .u16 a b = ((a ^^^ b : Nat) : Int) := xor_u (k := .u16) rfl ha hb
theorem shl_u16 {a m : Nat} (ha : a < 65536) : sShl .u16 a m = ((a * 2 ^ m % 65536 : Nat) : Int) := shl_u (k := .u16) rfl a rfl ha
theorem shr_u16 {a m : Nat} (ha : a < 65536) : sShr .u16 a m = ((a / 2 ^ m : Nat) : Int) := shr_n (k := .u16) a rfl ha
theorem wrap_u16 (a : Nat) : IntKind.u16.wrap (a : Int) = ((a % 65536 : Nat) : Int) := wrapU .u16 rfl a
theorem wrap_u16_id {a : Nat} (h : a < 65536) : IntKind.u16.wrap (a : Int) = (a : Int) := by rw [wrap_u16, Nat.mod_eq_of_lt h]
theorem wrap_u16_z {z : Int} (h0 : 0 ≤ z) (h : z < 65536) : IntKind.u16.wrap z = z := by obtain ⟨a, rfl⟩ := Int.eq_ofNat_of_zero_le h0; exact wrap_u16_id (by omega)
theorem and_u32 {a b : Nat} (ha : a < 4294967296) (hb : b < 4294967296) : bAnd .u32 a b = ((a &&& b : Nat) : Int) := and_u (k := .u32) rfl ha hb
theorem or_u32 {a b : Nat} (ha : a < 4294967296) (hb : b < 4294967296) : bOr .u32 a b = ((a ||| b : Nat) : Int) := or_u (k := .u32) rfl ha hb
theorem xor_u32 {a b : Nat} (ha : a < 4294967296) (hb : b < 4294967296) : bXor .u32 a b = ((a ^^^ b : Nat) : Int) := xor_u (k := .u32) rfl ha hb
theorem shl_u32 {a m : Nat} (ha : a < 4294967296) : sShl .u32 a m = ((a * 2 ^ m % 4294967296 : Nat) : Int) := shl_u (k := .u32) rfl a rfl ha
theorem shr_u32 {a m : Nat} (ha : a < 4294967296) : sShr .u32 a m = ((a / 2 ^ m : Nat) : Int) := shr_n (k := .u32) a rfl ha
theorem wrap_u32 (a : Nat) : IntKind.u32.wrap (a : Int) = ((a % 4294967296 : Nat) : Int) := wrapU .u32 rfl a
theorem wrap_u32_id {a : Nat} (h : a < 4294967296) : IntKind.u32.wrap (a : Int) = (a : Int) := by rw [wrap_u32, Nat.mod_eq_of_lt h]
theorem wrap_u32_z {z : Int} (h0 : 0 ≤ z) (h : z < 4294967296) : IntKind.u32.wrap z = z := by obtain ⟨a, rfl⟩ := Int.eq_ofNat_of_zero_le h0; exact wrap_u32_id (by omega)
theorem and_u64 {a b : Nat} (ha : a < 18446744073709551616) (hb : b < 18446744073709551616) : bAnd .u64 a b = ((a &&& b : Nat) : Int) := and_u (k := .u64) rfl ha hb
theorem or_u64 {a b : Nat} (ha : a < 18446744073709551616) (hb : b < 18446744073709551616) : bOr .u64 a b = ((a ||| b : Nat) : Int) := or_u (k := .u64) rfl ha hb
theorem xor_u64 {a b : Nat} (ha : a < 18446744073709551616) (hb : b < 18446744073709551616) : bXor .u64 a b = ((a ^^^ b : Nat) : Int) := xor_u (k := .u64) rfl ha hb
theorem shl_u64 {a m : Nat} (ha : a < 18446744073709551616) : sShl .u64 a m = ((a * 2 ^ m % 18446744073709551616 : Nat) : Int) := shl_u (k := .u64) rfl a rfl ha
theorem shr_u64 {a m : Nat} (ha : a < 18446744073709551616) : sShr .u64 a m = ((a / 2 ^ m : Nat) : Int) := shr_n (k := .u64) a rfl ha
theorem wrap_u64 (a : Nat) : IntKind.u64.wrap (a : Int) = ((a % 18446744073709551616 : Nat) : Int) := wrapU .u64 rfl a
theorem wrap_u64_id {a : Nat} (h : a < 18446744073709551616) : IntKind.u64.wrap (a : Int) = (a : Int) := by rw [wrap_u64, Nat.mod_eq_of_lt h]
theorem wrap_u64_z {z : Int} (h0 : 0 ≤ z) (h : z < 18446744073709551616) : IntKind.u64.wrap z = z := by obtain ⟨a, rfl⟩ := Int.eq_ofNat_of_zero_le h0; exact wrap_u64_id (by omega)
theorem and_i64 {a b : Nat} (ha : a < 9223372036854775808) (hb : b < 9223372036854775808) : bAnd .i64 a b = ((a &&& b : Nat) : Int) := and_n (k := .i64) ha (Nat.lt_trans hb (by decide))
theorem or_i64 {a b : Nat} (ha : a < 9223372036854775808) (hb : b < 9223372036854775808) : bOr .i64 a b = ((a ||| b : Nat) : Int) := or_n (k := .i64) ha hb
theorem xor_i64 {a b : Nat} (ha : a < 9223372036854775808) (hb : b < 9223372036854775808) : bXor .i64 a b = ((a ^^^ b : Nat) : Int) := xor_n (k := .i64) ha hb
theorem wrap_i64_z {z : Int} (h0 : -9223372036854775808 ≤ z) (h : z < 9223372036854775808) : IntKind.i64.wrap z = z := i64_id (by omega)
theorem shr_i64 {a m : Nat} (ha : a < 9223372036854775808) : sShr .i64 a m = ((a / 2 ^ m : Nat) : Int) := shr_n (k := .i64) a rfl (Nat.lt_trans ha (by decide))
theorem shl_i64 {a m : Nat} (hm : m < 64) (ha : a * 2 ^ m < 9223372036854775808) : sShl .i64 a m = ((a * 2 ^ m : Nat) : Int) := by
  unfold sShl
  rw [show min (m : Int).toNat IntKind.i64.bits = m from Nat.min_eq_left (by show m ≤ 64; omega)]
  have e : ((a : Int) * 2 ^ m) = ((a * 2 ^ m : Nat) : Int) := by simp
  rw [e]; exact i64_id (by omega)
theorem tmod_n (a b : Nat) : Int.tmod (a : Int) b = ((a % b : Nat) : Int) := (Int.ofNat_tmod a b).symm
theorem tdiv_n (a b : Nat) : Int.tdiv (a : Int) b = ((a / b : Nat) : Int) := (Int.ofNat_tdiv a b).symm
/-- Bits apart: or is plus. -/
theorem or_add {a b k : Nat} (ha : a < 2 ^ k) : a ||| b * 2 ^ k = a + b * 2 ^ k := by
  rw [Nat.or_comm, ← Nat.shiftLeft_eq, ← Nat.shiftLeft_add_eq_or_of_lt ha, Nat.shiftLeft_eq, Nat.add_comm]
theorem and_mask (a k : Nat) : a &&& (2 ^ k - 1) = a % 2 ^ k := Nat.and_two_pow_sub_one_eq_mod a k
theorem inc {i : Nat} (hi : i < 2 ^ 62) : IntKind.i64.wrap ((i : Int) + 1) = ((i + 1 : Nat) : Int) := by rw [wrap_i64_z (by omega) (by omega)]; simp
end Go.HW
