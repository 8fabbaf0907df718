/- Unsigned numbers of the model as bit vectors, bytes. -/
import Derived.Test.YtcdifhgocjjbpaaHwLib
set_option linter.unusedVariables false
set_option linter.unusedSimpArgs false
namespace Go.HW
open Go

theorem wrap_bv {k : IntKind} (hk : k.signed = false) (x : Int) : k.wrap x = ((BitVec.ofInt k.bits x).toNat : Int) := by
  rw [BitVec.toNat_ofInt]
  have hp : (0 : Int) < 2 ^ k.bits := Int.pow_pos (by decide)
  have h0 := Int.emod_nonneg x (show (2 ^ k.bits : Int) ≠ 0 by omega)
  cases k <;> first | (exact absurd hk (by decide)) | (simp [IntKind.wrap, IntKind.signed, IntKind.bits] at h0 ⊢; omega)
theorem wrap_toNat {k : IntKind} (hk : k.signed = false) {w : Nat} (b : BitVec w) : k.wrap (b.toNat : Int) = ((b.setWidth k.bits).toNat : Int) := by
  rw [wrap_bv hk, BitVec.ofInt_natCast]; simp
theorem ofInt_toNat {w : Nat} (a : BitVec w) : BitVec.ofInt w (a.toNat : Int) = a := by
  rw [BitVec.ofInt_natCast]; simp
theorem wrap_self {k : IntKind} (hk : k.signed = false) (b : BitVec k.bits) : k.wrap (b.toNat : Int) = (b.toNat : Int) := by
  rw [wrap_bv hk, ofInt_toNat]
theorem bXor_bv {k : IntKind} (hk : k.signed = false) (a b : BitVec k.bits) : bXor k a.toNat b.toNat = ((a ^^^ b).toNat : Int) := by
  unfold bXor; rw [ofInt_toNat, ofInt_toNat]; exact wrap_self hk _
theorem bAnd_bv {k : IntKind} (hk : k.signed = false) (a b : BitVec k.bits) : bAnd k a.toNat b.toNat = ((a &&& b).toNat : Int) := by
  unfold bAnd; rw [ofInt_toNat, ofInt_toNat]; exact wrap_self hk _
theorem bOr_bv {k : IntKind} (hk : k.signed = false) (a b : BitVec k.bits) : bOr k a.toNat b.toNat = ((a ||| b).toNat : Int) := by
  unfold bOr; rw [ofInt_toNat, ofInt_toNat]; exact wrap_self hk _
theorem sShr_bv {k : IntKind} (a : BitVec k.bits) (n : Int) : sShr k a.toNat n = ((a >>> n.toNat).toNat : Int) := by
  unfold sShr
  rw [BitVec.toNat_ushiftRight, Nat.shiftRight_eq_div_pow]
  have e : ((2 : Int) ^ min n.toNat k.bits) = ((2 ^ min n.toNat k.bits : Nat) : Int) := by simp
  rw [e, Int.fdiv_eq_ediv_of_nonneg _ (Int.natCast_nonneg _)]
  have : ((a.toNat / 2 ^ min n.toNat k.bits : Nat) : Int) = ((a.toNat / 2 ^ n.toNat : Nat) : Int) := by
    congr 1
    rcases Nat.le_total n.toNat k.bits with h | h
    · rw [Nat.min_eq_left h]
    · rw [Nat.min_eq_right h, Nat.div_eq_of_lt a.isLt, Nat.div_eq_of_lt (Nat.lt_of_lt_of_le a.isLt (Nat.pow_le_pow_right (by decide) h))]
  rw [← this]; simp
theorem sShl_bv {k : IntKind} (hk : k.signed = false) (a : BitVec k.bits) (n : Int) : sShl k a.toNat n = ((a <<< n.toNat).toNat : Int) := by
  unfold sShl
  have e : ((a.toNat : Int) * (2 : Int) ^ min n.toNat k.bits) = ((a.toNat * 2 ^ min n.toNat k.bits : Nat) : Int) := by simp
  rw [e, wrap_bv hk, BitVec.ofInt_natCast, BitVec.toNat_ofNat, BitVec.toNat_shiftLeft, Nat.shiftLeft_eq]
  congr 1
  rcases Nat.le_total n.toNat k.bits with h | h
  · rw [Nat.min_eq_left h]
  · rw [Nat.min_eq_right h]
    rw [Nat.mul_mod_left]
    obtain ⟨d, hd⟩ := Nat.le.dest h
    rw [← hd, Nat.pow_add, ← Nat.mul_assoc, Nat.mul_right_comm, Nat.mul_mod_left]
theorem add_bv {k : IntKind} (hk : k.signed = false) (a b : BitVec k.bits) : k.wrap ((a.toNat : Int) + b.toNat) = ((a + b).toNat : Int) := by
  rw [wrap_bv hk, show ((a.toNat : Int) + b.toNat) = ((a.toNat + b.toNat : Nat) : Int) by simp, BitVec.ofInt_natCast, BitVec.toNat_ofNat, BitVec.toNat_add]

theorem xor8 (a b : BitVec 8) : bXor .u8 a.toNat b.toNat = ((a ^^^ b).toNat : Int) := bXor_bv (k := .u8) rfl a b
theorem xor32 (a b : BitVec 32) : bXor .u32 a.toNat b.toNat = ((a ^^^ b).toNat : Int) := bXor_bv (k := .u32) rfl a b
theorem and32 (a b : BitVec 32) : bAnd .u32 a.toNat b.toNat = ((a &&& b).toNat : Int) := bAnd_bv (k := .u32) rfl a b
theorem or64 (a b : BitVec 64) : bOr .u64 a.toNat b.toNat = ((a ||| b).toNat : Int) := bOr_bv (k := .u64) rfl a b
theorem shr32 (a : BitVec 32) (n : Int) : sShr .u32 a.toNat n = ((a >>> n.toNat).toNat : Int) := sShr_bv (k := .u32) a n
theorem shr64 (a : BitVec 64) (n : Int) : sShr .u64 a.toNat n = ((a >>> n.toNat).toNat : Int) := sShr_bv (k := .u64) a n
theorem shl64 (a : BitVec 64) (n : Int) : sShl .u64 a.toNat n = ((a <<< n.toNat).toNat : Int) := sShl_bv (k := .u64) rfl a n
theorem wrap8 {w : Nat} (b : BitVec w) : IntKind.u8.wrap (b.toNat : Int) = ((b.setWidth 8).toNat : Int) := wrap_toNat (k := .u8) rfl b
theorem wrap16 {w : Nat} (b : BitVec w) : IntKind.u16.wrap (b.toNat : Int) = ((b.setWidth 16).toNat : Int) := wrap_toNat (k := .u16) rfl b
theorem wrap32b {w : Nat} (b : BitVec w) : IntKind.u32.wrap (b.toNat : Int) = ((b.setWidth 32).toNat : Int) := wrap_toNat (k := .u32) rfl b
theorem wrap64b {w : Nat} (b : BitVec w) : IntKind.u64.wrap (b.toNat : Int) = ((b.setWidth 64).toNat : Int) := wrap_toNat (k := .u64) rfl b

theorem i64_id {n : Int} (h : -9223372036854775808 ≤ n ∧ n ≤ 9223372036854775807) : IntKind.i64.wrap n = n := IntWalk.i64_in _ h

/-! ### Bytes -/
def byV (bs : List (BitVec 8)) : List Value := bs.map fun b => .int .u8 b.toNat
theorem byV_len (bs : List (BitVec 8)) : (byV bs).length = bs.length := by simp [byV]
theorem byV_app (a b : List (BitVec 8)) : byV (a ++ b) = byV a ++ byV b := by simp [byV]
theorem byV_get (bs : List (BitVec 8)) (i : Nat) (hi : i < bs.length) : (byV bs)[i]? = some (.int .u8 (bs[i]).toNat) := by simp [byV, hi]
theorem byV_one (bs : List (BitVec 8)) : ∀ v ∈ byV bs, oneC v = true := by
  intro v hv; simp only [byV, List.mem_map] at hv; obtain ⟨b, _, rfl⟩ := hv; rfl
theorem byV_take (bs : List (BitVec 8)) (n : Nat) : (byV bs).take n = byV (bs.take n) := by simp [byV]
theorem byV_drop (bs : List (BitVec 8)) (n : Nat) : (byV bs).drop n = byV (bs.drop n) := by simp [byV]
theorem byV_set (bs : List (BitVec 8)) (n : Nat) (b : BitVec 8) : (byV bs).set n (.int .u8 b.toNat) = byV (bs.set n b) := by simp [byV, List.map_set]
theorem byV_inj {a b : List (BitVec 8)} (h : byV a = byV b) : a = b := by
  refine List.map_inj_right (f := fun b : BitVec 8 => Value.int .u8 b.toNat) (fun x y e => ?_) |>.1 h
  simp only [Value.int.injEq, true_and] at e
  exact BitVec.eq_of_toNat_eq (by omega)
/-- A byte of a slice is read. -/
theorem rd_u8 {P : Program} {t e : TypeId} {bz : Nat} {z : Value} (E : Elem P t e 1 bz z) {a : Option Addr} {n c : Nat} {k : IntKind} {i : Int} {bs : List (BitVec 8)} {h : Heap} (hr : Rd h a (byV bs)) (h0 : 0 ≤ i) (hi : i < n) (hl : i.toNat < bs.length)
    {R : Int → Heap → Prop} (H : R (bs[i.toNat]).toNat h) :
    hwp P (Instr.indexAt t (.slice a n c) (.int k i)) (fun v h1 => ∃ t, v = .pointer (some t) ∧ ∃ x, cellH h1 t = some (.int .u8 x) ∧ R x h1) h := by
  have hv := byV_get bs i.toNat hl
  obtain ⟨ad, rfl, hc⟩ := hr _ _ hv
  refine hwp_index E h0 hi ⟨_, rfl, _, ?_, H⟩
  rw [Nat.mul_one]; exact hc
/-- A cell of a slice that is owned is written. -/
theorem wr_at {P : Program} {t e : TypeId} {bz : Nat} {z : Value} (E : Elem P t e 1 bz z) {b off : Nat} {n c : Nat} {k : IntKind} {i : Int} {xs : List Value} {h : Heap} (hb : Blk h b e xs) (h0 : 0 ≤ i) (hi : i < n) (hl : off + i.toNat < xs.length)
    {v : Value} (hv : oneC v = true) {R : Heap → Prop} (H : R (h.setIfInBounds b (.cells (xs.set (off + i.toNat) v).toArray e (0, 0)))) :
    hwp P (Instr.indexAt t (.slice (some ⟨b, off, none⟩) n c) (.int k i)) (fun u h1 => ∃ t, u = .pointer (some t) ∧ wr t v R h1) h := by
  refine hwp_index E h0 hi ⟨_, rfl, ?_⟩
  rw [Nat.mul_one, add_mk]
  exact wr_ok hb hl hv H

/-- A part of a slice of single cells is read. -/
theorem slice_rd {P : Program} {t e : TypeId} {bz : Nat} {z : Value} (E : Elem P t e 1 bz z) {a : Option Addr} {n c : Nat} {xs : List Value} {lo hi : Option Value} {h : Heap} (hr : Rd h a xs) (hn : xs.length = n) (hnc : n ≤ c) (il : isInt lo) (ih : isInt hi)
    (h0 : 0 ≤ bnd lo 0) (h1 : bnd lo 0 ≤ bnd hi n) (h2 : bnd hi n ≤ n) {K : Value → Heap → Prop}
    (H : ∀ a', Rd h a' ((xs.drop (bnd lo 0).toNat).take ((bnd hi n).toNat - (bnd lo 0).toNat)) → (∀ ad, a' = some ad → ∃ ad0, a = some ad0 ∧ ad0.block = ad.block) → K (.slice a' ((bnd hi n).toNat - (bnd lo 0).toNat) (c - (bnd lo 0).toNat)) h) :
    hwp P (Instr.sliceAt t (.slice a n c) lo hi none) K h := by
  refine hwp_sliceSl E il ih h0 h1 (by omega) ?_
  refine H _ ?_ ?_
  · by_cases hc : (c : Int) = bnd lo 0
    · rw [List.drop_of_length_le (by omega)]; simpa using Rd.nil _ _
    · rw [if_neg hc, Nat.mul_one]
      refine hr.sub _ fun i v hv => ?_
      rw [List.getElem?_take] at hv
      split at hv
      · rwa [List.getElem?_drop] at hv
      · cases hv
  · intro ad had
    split at had
    · exact ⟨ad, had, rfl⟩
    · cases a with
      | none => cases had
      | some a0 => cases had; exact ⟨a0, rfl, (add_block _ _).symm⟩
theorem SpecH.keepD {P : Program} {f : FuncId} {args : List Value} {h : Heap} {Q : Value → Heap → Prop} (H : SpecH P f args h (fun v h' => KeepD h h' → Q v h')) : SpecH P f args h Q := fun w hw =>
  (H w hw).mono fun _ _ ⟨v, e, s, q⟩ => ⟨v, e, s, q (hw ▸ s.defs)⟩
theorem takes_ext {h hx h1 : Heap} (e : ExtB h.size h hx) (t : Takes hx h1) (k : KeepD h h1) : ExtB h.size h h1 := by
  refine ⟨by rw [t.1]; exact e.1, fun i hi => ?_⟩
  rcases t.2 i with q | ⟨x, y, q1, q2⟩
  · rw [q, e.2 i hi]
  · have q0 : h[i]? = some (.deferred x) := by rw [← e.2 i hi, q1]
    rw [k i _ q0 rfl, q0]
theorem callV_mono {P : Program} {v : Value} {args : List Value} {K K' : Value → Heap → Prop} {h : Heap} (hk : ∀ v h, K v h → K' v h) (H : callV P v args K h) : callV P v args K' h :=
  hwp_mono _ (fun n h => nextK_mono hk) H
/-- Marks that lie on a block change no cell. -/
theorem freeze_cell (h : Heap) (a x : Addr) (n : Nat) : cellH (freezeH h a n) x = cellH h x := by
  unfold cellH World.cell? freezeH World.freeze
  by_cases hn : n = 0
  · simp [hn, wOf]
  · simp only [hn, if_false, wOf, Array.getElem?_modify]
    by_cases hx : a.block = x.block
    · rw [if_pos hx]
      cases h[x.block]? with
      | none => rfl
      | some o => cases o <;> rfl
    · rw [if_neg hx]
theorem freeze_other (h : Heap) (a : Addr) (n : Nat) (j : Nat) (hj : a.block ≠ j) : (freezeH h a n)[j]? = h[j]? := by
  unfold freezeH World.freeze
  by_cases hn : n = 0
  · simp [hn, wOf]
  · simp only [hn, if_false, wOf, Array.getElem?_modify, if_neg hj]
theorem freeze_size (h : Heap) (a : Addr) (n : Nat) : (freezeH h a n).size = h.size := by
  unfold freezeH World.freeze
  by_cases hn : n = 0
  · simp [hn, wOf]
  · simp [hn, wOf]
theorem Rd.cells {h h' : Heap} {a : Option Addr} {xs : List Value} (k : Rd h a xs) (e : ∀ x, cellH h' x = cellH h x) : Rd h' a xs := fun i v hv => by
  obtain ⟨ad, ha, hc⟩ := k i v hv
  exact ⟨ad, ha, by rw [e]; exact hc⟩
theorem hwp_convSame {P : Program} {t e : TypeId} (ht : P.underlying t = some (.slice e)) (he : P.underlying e = some (.int .u8)) {h : Heap} {a : Addr} {n c : Nat} {K : Value → Heap → Prop}
    (H : ∀ h', (∀ x, cellH h' x = cellH h x) → (∀ j, a.block ≠ j → h'[j]? = h[j]?) → h'.size = h.size → K (.slice (some a) n c) h') : hwp P (Go.convert t t (.slice (some a) n c)) K h := by
  unfold Go.convert
  refine (hwp_bind' _ _ _ _).2 ((hwp_underlying ht).2 ((hwp_bind' _ _ _ _).2 ((hwp_underlying ht).2 ?_)))
  refine (hwp_bind' _ _ _ _).2 ((hwp_underlying he).2 ?_)
  simp only [beq_self_eq_true]
  refine (hwp_bind' _ _ _ _).2 ?_
  unfold markStringish
  refine (hwp_bind' _ _ _ _).2 ?_
  show hwp P (match shapeH h a.block with | some (_, n) => _ | _ => _) _ h
  split
  · exact H _ (fun x => freeze_cell _ _ _ _) (fun j hj => freeze_other _ _ _ _ hj) (freeze_size _ _ _)
  · exact H h (fun _ => rfl) (fun _ _ => rfl) rfl
theorem setB {n : Nat} {h : Heap} (b : Nat) (o : Obj) (hb : n ≤ b) : ExtB n h (h.setIfInBounds b o) := ExtB.set hb o
end Go.HW
