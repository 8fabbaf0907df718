/- Little: the checks, after law02/More. -/
import Derived.Test.YtdjjchfhccmjgaaDoorG
import Derived.Test.YtdjjchfhccmjgaaDoorHwNum
import Derived.Test.YtdjjchfhccmjgaaDoorHwCrc
set_option linter.unusedVariables false
set_option linter.unusedSimpArgs false
namespace Go.Proofs.YtdjjchfhccmjgaaDoor
open Go Go.HW

theorem s22 : ∃ i, PP.info? T_uint32 = some i ∧ i.size = 1 := size_of (by kernel_rfl)
/-- The table's cells. -/
def Tab (h : Heap) : Prop := ∀ i : Nat, i < 16 → cellH h ⟨G_little_steps, i, none⟩ = some (.int .u32 (Crc.four (BitVec.ofNat 32 i)).toNat)
theorem Tab.keep {h h' : Heap} (t : Tab h) (e : ExtB h.size h h') : Tab h' := fun i hi => by
  have h0 := t i hi
  rw [cell_block (h := h)]
  · exact h0
  · exact e.2 _ (cell_lt h0)
theorem Tab.pos {h : Heap} (t : Tab h) : 0 < h.size := cell_lt (t 0 (by decide))

theorem all32 : IntKind.u32.max = ((~~~(0 : BitVec 32)).toNat : Int) := by decide
theorem not32 (s : BitVec 32) : bXor .u32 IntKind.u32.max s.toNat = ((~~~s).toNat : Int) := by
  rw [all32, xor32]
  have : (~~~(0 : BitVec 32)) ^^^ s = ~~~s := by
    apply BitVec.eq_of_getLsbD_eq; intro i hi
    rw [BitVec.getLsbD_xor, BitVec.getLsbD_not, BitVec.getLsbD_not, show (0 : BitVec 32).getLsbD i = false from BitVec.getLsbD_zero, decide_eq_true hi]; simp
  rw [this]
theorem and15 (r : BitVec 32) : bAnd .u32 r.toNat 15 = ((r &&& 15#32).toNat : Int) := and32 r 15#32
theorem low4 (r : BitVec 32) : (r &&& 15#32).toNat < 16 := by
  rw [BitVec.toNat_and]
  exact Nat.lt_of_le_of_lt Nat.and_le_right (by decide)
theorem four_tab (r : BitVec 32) : (r >>> 4) ^^^ Crc.four (BitVec.ofNat 32 (r &&& 15#32).toNat) = Crc.four r := by
  rw [Crc.four_eq r]; congr 2; simp

/-- One step at the table. -/
theorem tab_at {h : Heap} (tab : Tab h) (r : BitVec 32) {R : Int → Heap → Prop} (H : R (Crc.four (BitVec.ofNat 32 (r &&& 15#32).toNat)).toNat h) :
    hwp PP (Instr.indexAt T_16_uint32 (.pointer (some ⟨G_little_steps, 0, none⟩)) (.int .u32 ((r &&& 15#32).toNat : Int))) (fun v h2 => ∃ (t : Addr), v = (.pointer (some t)) ∧ ∃ x, cellH h2 t = some (.int .u32 x) ∧ R x h2) h := by
  have hl := low4 r
  refine hwp_indexArr U_16_uint32 s22 (by omega) (by omega) ⟨_, rfl, _, ?_, H⟩
  rw [add_mk]
  have := tab _ hl
  simpa using this

theorem more_loop {h : Heap} {a : Option Addr} {n c : Nat} {bs : List (BitVec 8)} (tab : Tab h) (hr : Rd h a (byV bs)) (hn : bs.length = n) (hmax : n < 2 ^ 62) {K : Ex → Fr → Heap → Prop} :
    ∀ (k i : Nat) (r : BitVec 32), i + k = n → K (.exit 0) (little_More_X0 (Crc.run r (bs.drop i)).toNat) h → little_More_L11010 r.toNat a n c n i K h := by
  intro k
  induction k with
  | zero =>
    intro i r hi H
    refine little_More_L11010_of ?_
    refine br_false (by simp; omega) ?_
    rw [List.drop_of_length_le (by omega)] at H
    exact H
  | succ k ih =>
    intro i r hi H
    have hlt : i < bs.length := by omega
    refine little_More_L11010_of ?_
    refine br_true (by simp; omega) ?_
    refine rd_u8 E_sl_uint8 hr (by omega) (by omega) (by simpa using hlt) ?_
    simp only [Int.toNat_natCast, wrap32b, xor32, shr32, and15]
    refine tab_at tab _ ?_
    simp only [xor32, shr32, and15, Int.reduceToNat, four_tab]
    refine tab_at tab _ ?_
    simp only [xor32, Int.reduceToNat, four_tab]
    rw [show IntKind.i64.wrap ((i : Int) + 1) = ((i + 1 : Nat) : Int) by rw [i64_id (by omega)]; simp]
    refine ih (i + 1) _ (by omega) ?_
    rw [← List.getElem_cons_drop hlt] at H
    exact H

theorem more_spec {h : Heap} {a : Option Addr} {n c : Nat} {bs : List (BitVec 8)} {s : BitVec 32} {Q : Value → Heap → Prop} (tab : Tab h) (hr : Rd h a (byV bs)) (hn : bs.length = n) (hmax : n < 2 ^ 62)
    (H : Q (.int .u32 (Crc.more s bs).toNat) h) : SpecH PP F_little_More [.int .u32 s.toNat, .slice a n c] h Q := by
  refine little_More_door ?_
  unfold little_More_main
  simp only [not32]
  refine more_loop tab hr hn hmax n 0 _ (by omega) ?_
  rw [little_More_at11010_X0]
  simp only [not32, List.drop_zero]
  exact H
theorem sum_spec {h : Heap} {a : Option Addr} {n c : Nat} {bs : List (BitVec 8)} {Q : Value → Heap → Prop} (tab : Tab h) (hr : Rd h a (byV bs)) (hn : bs.length = n) (hmax : n < 2 ^ 62)
    (H : Q (.int .u32 (Crc.sum bs).toNat) h) : SpecH PP F_little_Sum [.slice a n c] h Q := by
  refine little_Sum_door ?_
  unfold little_Sum_main
  exact more_spec (s := 0) tab hr hn hmax ⟨_, rfl, H⟩

/-! ### The document's -/
theorem and1 (r : BitVec 32) : bAnd .u32 r.toNat 1 = ((r &&& 1#32).toNat : Int) := and32 r 1#32
theorem bit_and (r : BitVec 32) : (((r &&& 1#32).toNat : Int) == 1) = r.getLsbD 0 := by
  have : (r &&& 1#32).toNat = (r.getLsbD 0).toNat := by
    rw [BitVec.toNat_and]; simp [BitVec.getLsbD, Nat.and_one_is_mod, Nat.testBit_zero]
    rcases Nat.mod_two_eq_zero_or_one r.toNat with h | h <;> simp [h]
  rw [this]; cases r.getLsbD 0 <;> rfl
theorem poly (r : BitVec 32) : bXor .u32 r.toNat 3988292384 = ((r ^^^ 0xedb88320#32).toNat : Int) := xor32 r 0xedb88320#32
theorem run_cons (r : BitVec 32) (b : BitVec 8) (bs : List (BitVec 8)) : Crc.run (Crc.eight (r ^^^ b.setWidth 32)) bs = Crc.run r (b :: bs) := rfl
def bits : Nat → BitVec 32 → BitVec 32
  | 0, r => r
  | n + 1, r => bits n (Crc.bit r)
theorem bits8 (r : BitVec 32) : bits 8 r = Crc.eight r := rfl
theorem ref_in {h : Heap} {a : Option Addr} {n c : Nat} {i : Int} {K : Ex → Fr → Heap → Prop} :
    ∀ (k j : Nat) (r : BitVec 32), j + k = 8 → K (.exit 2) (ref02_More_X2 a n c (bits k r).toNat i) h → ref02_More_L110100100110 a n c r.toNat i j K h := by
  intro k
  induction k with
  | zero =>
    intro j r hj H
    refine ref02_More_L110100100110_of ?_
    exact br_false (by simp; omega) H
  | succ k ih =>
    intro j r hj H
    refine ref02_More_L110100100110_of ?_
    refine br_true (by simp; omega) ?_
    simp only [and1, shr32, poly, bit_and, Int.reduceToNat]
    refine (br_iff _ _ _).2 ⟨fun hb => ?_, fun hb => ?_⟩
    · refine ref02_More_J110100100110011_of ?_
      unfold ref02_More_J110100100110011_txt
      simp only [show IntKind.i64.wrap ((j : Int) + 1) = ((j + 1 : Nat) : Int) by rw [i64_id (by omega)]; simp]
      refine ih (j + 1) _ (by omega) ?_
      have : bits (k + 1) r = bits k ((r >>> 1) ^^^ 0xedb88320#32) := by show bits k (Crc.bit r) = _; unfold Crc.bit; rw [hb]; rfl
      rw [this] at H; exact H
    · refine ref02_More_J110100100110011_of ?_
      unfold ref02_More_J110100100110011_txt
      simp only [show IntKind.i64.wrap ((j : Int) + 1) = ((j + 1 : Nat) : Int) by rw [i64_id (by omega)]; simp]
      refine ih (j + 1) _ (by omega) ?_
      have : bits (k + 1) r = bits k (r >>> 1) := by show bits k (Crc.bit r) = _; unfold Crc.bit; rw [hb]; rfl
      rw [this] at H; exact H
theorem ref_loop {h : Heap} {a : Option Addr} {n c : Nat} {bs : List (BitVec 8)} (hr : Rd h a (byV bs)) (hn : bs.length = n) (hmax : n < 2 ^ 62) {K : Ex → Fr → Heap → Prop} :
    ∀ (k i : Nat) (r : BitVec 32), i + k = n → K (.exit 0) (ref02_More_X0 (Crc.run r (bs.drop i)).toNat) h → ref02_More_L11010 a n c r.toNat i K h := by
  intro k
  induction k with
  | zero =>
    intro i r hi H
    refine ref02_More_L11010_of ?_
    refine br_false (by simp; omega) ?_
    rw [List.drop_of_length_le (by omega)] at H
    exact H
  | succ k ih =>
    intro i r hi H
    have hlt : i < bs.length := by omega
    refine ref02_More_L11010_of ?_
    refine br_true (by simp; omega) ?_
    refine rd_u8 E_sl_uint8 hr (by omega) (by omega) (by simpa using hlt) ?_
    simp only [Int.toNat_natCast, wrap32b, xor32]
    refine ?_
    show ref02_More_L110100100110 a n c _ _ ((0 : Nat) : Int) _ _
    refine ref_in 8 0 _ (by omega) ?_
    rw [ref02_More_at110100100110_X2]
    simp only [show IntKind.i64.wrap ((i : Int) + 1) = ((i + 1 : Nat) : Int) by rw [i64_id (by omega)]; simp]
    rw [bits8]
    refine ih (i + 1) _ (by omega) ?_
    rw [← List.getElem_cons_drop hlt] at H
    rw [run_cons]
    exact H
theorem refMore_spec {h : Heap} {a : Option Addr} {n c : Nat} {bs : List (BitVec 8)} {s : BitVec 32} {Q : Value → Heap → Prop} (hr : Rd h a (byV bs)) (hn : bs.length = n) (hmax : n < 2 ^ 62)
    (H : Q (.int .u32 (Crc.more s bs).toNat) h) : SpecH PP F_ref02_More [.int .u32 s.toNat, .slice a n c] h Q := by
  refine ref02_More_door ?_
  unfold ref02_More_main
  simp only [not32]
  refine ref_loop hr hn hmax n 0 _ (by omega) ?_
  rw [ref02_More_at11010_X0]
  simp only [not32, List.drop_zero]
  exact H
theorem refSum_spec {h : Heap} {a : Option Addr} {n c : Nat} {bs : List (BitVec 8)} {Q : Value → Heap → Prop} (hr : Rd h a (byV bs)) (hn : bs.length = n) (hmax : n < 2 ^ 62)
    (H : Q (.int .u32 (Crc.sum bs).toNat) h) : SpecH PP F_ref02_Sum [.slice a n c] h Q := by
  refine ref02_Sum_door ?_
  unfold ref02_Sum_main
  exact refMore_spec (s := 0) hr hn hmax ⟨_, rfl, H⟩

end Go.Proofs.YtdjjchfhccmjgaaDoor
