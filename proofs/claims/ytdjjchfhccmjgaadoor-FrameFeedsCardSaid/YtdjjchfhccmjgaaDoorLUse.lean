/- Little, for those that use it: bytes as naturals, heaps as lists of assertions. -/
import Derived.Test.YtdjjchfhccmjgaaDoorLGets
import Derived.Test.YtdjjchfhccmjgaaDoorHwSl
set_option linter.unusedVariables false
set_option linter.unusedSimpArgs false
namespace Go.Proofs.YtdjjchfhccmjgaaDoor
open Go Go.HW
variable {h : Heap} {L : List Assn} {Q : Value → Heap → Prop} {a : Option Addr} {n c : Nat} {xs : List Nat}
def nb (xs : List Nat) : List (BitVec 8) := xs.map (BitVec.ofNat 8)
def bn (bs : List (BitVec 8)) : List Nat := bs.map BitVec.toNat
theorem nV_nb (hx : ∀ x ∈ xs, x < 256) : nV xs = byV (nb xs) := by
  unfold nV byV nb
  rw [List.map_map]
  refine List.map_congr_left fun x hm => ?_
  simp only [Function.comp, BitVec.toNat_ofNat, Nat.mod_eq_of_lt (hx x hm)]
theorem byV_bn (bs : List (BitVec 8)) : byV bs = nV (bn bs) := by
  unfold nV byV bn
  rw [List.map_map]; rfl
theorem bn_nb (hx : ∀ x ∈ xs, x < 256) : bn (nb xs) = xs := by
  unfold bn nb
  rw [List.map_map]
  conv => rhs; rw [← List.map_id xs]
  exact List.map_congr_left fun x hm => by simp only [Function.comp, BitVec.toNat_ofNat, Nat.mod_eq_of_lt (hx x hm), id]
theorem nb_len : (nb xs).length = xs.length := by simp [nb]
theorem bn_len (bs : List (BitVec 8)) : (bn bs).length = bs.length := by simp [bn]
theorem bn_lt {bs : List (BitVec 8)} {x : Nat} (hx : x ∈ bn bs) : x < 256 := by
  obtain ⟨b, _, rfl⟩ := List.mem_map.1 hx; exact b.isLt
theorem bn_app (x y : List (BitVec 8)) : bn (x ++ y) = bn x ++ bn y := by simp [bn]
/-- The check of some bytes; a number's four bytes; four bytes' number. -/
def crc (xs : List Nat) : Nat := (Crc.sum (nb xs)).toNat
def le4 (v : Nat) : List Nat := bn (Num.le 4 (BitVec.ofNat 64 v))
def get4 (xs : List Nat) : Nat := (Num.of (nb xs)).toNat
theorem crc_lt (xs : List Nat) : crc xs < 4294967296 := (Crc.sum (nb xs)).isLt
theorem le4_len (v : Nat) : (le4 v).length = 4 := by unfold le4; rw [bn_len, Num.le_len]
theorem le4_lt {v x : Nat} (h : x ∈ le4 v) : x < 256 := bn_lt h
def TabL (L : List Assn) : Prop := ∀ h, Hs h L → Tab h
theorem TabL.cons {A : Assn} (t : TabL L) : TabL (A :: L) := fun h H => t h H.tl
theorem TabL.ro {h0 : Heap} (t : Tab h0) : TabL (ro h0 :: L) := fun h H => t.keep H.ro_below
theorem Sum_hs (t : TabL L) (hx : ∀ x ∈ xs, x < 256) (hr : Rd h a (nV xs)) (hn : xs.length = n) (hmax : n < 2 ^ 62) (H : Hs h L) (kk : Q (.int .u32 (crc xs)) h) : SpecH PP F_little_Sum [.slice a n c] h Q :=
  sum_spec (t h H) (by rw [← nV_nb hx]; exact hr) (by rw [nb_len]; exact hn) hmax kk
theorem rSum_hs (hx : ∀ x ∈ xs, x < 256) (hr : Rd h a (nV xs)) (hn : xs.length = n) (hmax : n < 2 ^ 62) (kk : Q (.int .u32 (crc xs)) h) : SpecH PP F_ref02_Sum [.slice a n c] h Q :=
  refSum_spec (by rw [← nV_nb hx]; exact hr) (by rw [nb_len]; exact hn) hmax kk
theorem Put32_hs {v : Nat} (hv : v < 4294967296) (hx : ∀ x ∈ xs, x < 256) (hr : Rd h a (nV xs)) (hn : xs.length = n) (hmax : n < 2 ^ 40) (H : Hs h L)
    (kk : ∀ h' a' c', Hs h' (own a' (n + 4) c' T_uint8 1 (nV (xs ++ le4 v)) :: L) → Q (.slice a' (n + 4) c') h') : SpecH PP F_little_Put32 [.slice a n c, .int .u32 v] h Q := by
  have e : (v : Int) = ((BitVec.ofNat 32 v).toNat : Nat) := by rw [BitVec.toNat_ofNat, Nat.mod_eq_of_lt hv]
  rw [e]
  refine put32_spec (v := BitVec.ofNat 32 v) (by rw [← nV_nb hx]; exact hr) (by rw [nb_len]; exact hn) hmax fun h' a' c' e1 o hb => kk h' a' c' (H.own_new e1 ?_ hb)
  have e2 : (BitVec.ofNat 32 v).setWidth 64 = BitVec.ofNat 64 v := by
    apply BitVec.eq_of_toNat_eq; rw [BitVec.toNat_setWidth, BitVec.toNat_ofNat, BitVec.toNat_ofNat, Nat.mod_eq_of_lt hv]
  rw [e2, byV_bn, bn_app, bn_nb hx] at o
  exact o
theorem rPut_hs {v : Nat} (hv : v < 2 ^ 64) (hx : ∀ x ∈ xs, x < 256) (hr : Rd h a (nV xs)) (hn : xs.length = n) (hmax : n < 2 ^ 40) (H : Hs h L)
    (kk : ∀ h' a' , Hs h' (own (some a') (n + 4) (n + 4) T_uint8 1 (nV (xs ++ le4 v)) :: L) → Q (.slice (some a') (n + 4) (n + 4)) h') : SpecH PP F_ref02_Put [.slice a n c, .int .u64 v, .int .i64 4] h Q := by
  have e : (v : Int) = ((BitVec.ofNat 64 v).toNat : Nat) := by rw [BitVec.toNat_ofNat, Nat.mod_eq_of_lt hv]
  rw [e]
  refine refPut_spec (v := BitVec.ofNat 64 v) (k := 4) (by rw [← nV_nb hx]; exact hr) (by rw [nb_len]; exact hn) hmax (by omega) fun h' e1 r => kk h' _ (H.own_new e1 ?_ (fun ad ha => by cases ha; exact Nat.le_refl _))
  rw [byV_bn, bn_app, bn_nb hx] at r
  change Blk h' h.size T_uint8 (nV (xs ++ le4 v)) at r
  have hl : (nV (xs ++ le4 v)).length = n + 4 := by rw [nV_len, List.length_append, le4_len, hn]
  refine ⟨by rw [hl]; omega, Nat.le_refl _, .inr ⟨h.size, 0, _, rfl, r, by simp [hl], fun i hi => by simp⟩⟩
theorem get4_lt (hl : xs.length ≤ 4) : get4 xs < 4294967296 := by
  have := Num.of4 (nb xs) (by rw [nb_len]; exact hl)
  unfold get4
  rw [← this, BitVec.toNat_setWidth]
  have := ((Num.of (nb xs)).setWidth 32).isLt
  exact Nat.lt_of_le_of_lt (Nat.mod_le _ _) this
theorem Get32_hs {j : Nat} (hx : ∀ x ∈ xs, x < 256) (hr : Rd h a (nV xs)) (hn : xs.length = n) (hnc : n ≤ c) (hmax : n < 2 ^ 40) (H : Hs h L)
    (k1 : n < j + 4 → ∀ h', Hs h' L → Q (.tuple #[.int .u32 0, .int .i64 20]) h')
    (k2 : j + 4 ≤ n → ∀ h', Hs h' L → Q (.tuple #[.int .u32 (get4 ((xs.drop j).take 4)), .int .i64 0]) h') : SpecH PP F_little_Get32 [.slice a n c, .int .i64 j] h Q := by
  refine get32_spec (by rw [← nV_nb hx]; exact hr) (by rw [nb_len]; exact hn) hnc hmax (fun hb h' e => k1 (by omega) h' (H.extB e)) fun j' hj hk h' e => ?_
  obtain rfl : j = j' := by omega
  have := k2 hk h' (H.extB e)
  have e2 : ((nb xs).drop j).take 4 = nb ((xs.drop j).take 4) := by unfold nb; rw [List.map_take, List.map_drop]
  rw [e2]
  have e3 : ((Num.of (nb ((xs.drop j).take 4))).setWidth 32).toNat = get4 ((xs.drop j).take 4) := by
    have := get4_lt (xs := (xs.drop j).take 4) (by rw [List.length_take]; omega)
    unfold get4 at *
    rw [BitVec.toNat_setWidth, Nat.mod_eq_of_lt this]
  rw [e3]; exact this
theorem rGet_hs {j : Nat} (hx : ∀ x ∈ xs, x < 256) (hr : Rd h a (nV xs)) (hn : xs.length = n) (hmax : n < 2 ^ 40)
    (k1 : n < j + 4 → Q (.tuple #[.int .u64 0, .int .i64 20]) h)
    (k2 : j + 4 ≤ n → Q (.tuple #[.int .u64 (get4 ((xs.drop j).take 4)), .int .i64 0]) h) : SpecH PP F_ref02_Get [.slice a n c, .int .i64 j, .int .i64 4] h Q := by
  refine refGet_spec (m := 4) (by rw [← nV_nb hx]; exact hr) (by rw [nb_len]; exact hn) hmax (by omega) (fun hb => k1 (by omega)) fun j' hj hk => ?_
  obtain rfl : j = j' := by omega
  have e2 : ((nb xs).drop j).take 4 = nb ((xs.drop j).take 4) := by unfold nb; rw [List.map_take, List.map_drop]
  rw [e2]; exact k2 hk
end Go.Proofs.YtdjjchfhccmjgaaDoor
