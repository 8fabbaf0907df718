/- Contracts of law02's functions: checks. -/
import Derived.Test.YthoicidmckkkhaaDoorHwG
import Derived.Test.YthoicidmckkkhaaDoorHwNum
import Derived.Test.YthoicidmckkkhaaDoorHwCrc
set_option linter.unusedVariables false
set_option linter.unusedSimpArgs false
namespace Go.Proofs.YthoicidmckkkhaaDoor
open Go Go.HW
theorem E23 : Elem Tryd.prog 23 5 1 1 (.int .u8 0) := Elem.of (by kernel_rfl) (by kernel_rfl)
theorem u48 : Tryd.prog.underlying 48 = some (.array 16 22) := by kernel_rfl
theorem s22 : ∃ i, Tryd.prog.info? 22 = some i ∧ i.size = 1 := size_of (by kernel_rfl)
/-- The table's cells. -/
def Tab (h : Heap) : Prop := ∀ i : Nat, i < 16 → cellH h ⟨0, i, none⟩ = some (.int .u32 (Crc.four (BitVec.ofNat 32 i)).toNat)
theorem Tab.keep {h h' : Heap} (t : Tab h) (e : ExtB h.size h h') : Tab h' := fun i hi => by
  have h0 := t i hi
  rw [cell_block (h := h)]
  · exact h0
  · exact e.2 _ (cell_lt h0)
theorem Tab.pos {h : Heap} (t : Tab h) : 0 < h.size := cell_lt (t 0 (by decide))

theorem all32 : IntKind.u32.max = ((~~~(0 : BitVec 32)).toNat : Int) := by decide
theorem not32 (s : BitVec 32) : bXor .u32 IntKind.u32.max s.toNat = ((~~~s).toNat : Int) := by
  rw [all32, xor32]
  have : (~~~(0 : BitVec 32)) ^^^ s = ~~~s := by
    apply BitVec.eq_of_getLsbD_eq; intro i hi
    rw [BitVec.getLsbD_xor, BitVec.getLsbD_not, BitVec.getLsbD_not, show (0 : BitVec 32).getLsbD i = false from BitVec.getLsbD_zero, decide_eq_true hi]; simp
  rw [this]
theorem and15 (r : BitVec 32) : bAnd .u32 r.toNat 15 = ((r &&& 15#32).toNat : Int) := and32 r 15#32
theorem low4 (r : BitVec 32) : (r &&& 15#32).toNat < 16 := by
  rw [BitVec.toNat_and]
  exact Nat.lt_of_le_of_lt Nat.and_le_right (by decide)
theorem four_tab (r : BitVec 32) : (r >>> 4) ^^^ Crc.four (BitVec.ofNat 32 (r &&& 15#32).toNat) = Crc.four r := by
  rw [Crc.four_eq r]; congr 2; simp

/-- One step at the table. -/
theorem tab_at {h : Heap} (tab : Tab h) (r : BitVec 32) {R : Int → Heap → Prop} (H : R (Crc.four (BitVec.ofNat 32 (r &&& 15#32).toNat)).toNat h) :
    hwp Tryd.prog (Instr.indexAt 48 (.pointer (some ⟨0, 0, none⟩)) (.int .u32 ((r &&& 15#32).toNat : Int))) (fun v h2 => ∃ (t : Addr), v = (.pointer (some t)) ∧ ∃ x, cellH h2 t = some (.int .u32 x) ∧ R x h2) h := by
  have hl := low4 r
  refine hwp_indexArr u48 s22 (by omega) (by omega) ⟨_, rfl, _, ?_, H⟩
  rw [add_mk]
  have := tab _ hl
  simpa using this

theorem more_loop {h : Heap} {a : Option Addr} {n c : Nat} {bs : List (BitVec 8)} (tab : Tab h) (hr : Rd h a (byV bs)) (hn : bs.length = n) (hmax : n < 2 ^ 62) {K : Ex → Fr → Heap → Prop} :
    ∀ (k i : Nat) (r : BitVec 32), i + k = n → K (.exit 0) (f12_X0 (Crc.run r (bs.drop i)).toNat) h → f12_L11010 (k + 1) r.toNat a n c n i K h := by
  intro k
  induction k with
  | zero =>
    intro i r hi H
    rw [f12_L11010_eq]
    refine br_false (by simp; omega) ?_
    rw [List.drop_of_length_le (by omega)] at H
    exact H
  | succ k ih =>
    intro i r hi H
    have hlt : i < bs.length := by omega
    rw [f12_L11010_eq]
    refine br_true (by simp; omega) ?_
    refine rd_u8 E23 hr (by omega) (by omega) (by simpa using hlt) ?_
    simp only [Int.toNat_natCast, wrap32b, xor32, shr32, and15]
    refine tab_at tab _ ?_
    simp only [xor32, shr32, and15, Int.reduceToNat, four_tab]
    refine tab_at tab _ ?_
    simp only [xor32, Int.reduceToNat, four_tab]
    rw [show IntKind.i64.wrap ((i : Int) + 1) = ((i + 1 : Nat) : Int) by rw [i64_id (by omega)]; simp]
    refine ih (i + 1) _ (by omega) ?_
    rw [← List.getElem_cons_drop hlt] at H
    exact H

theorem more_spec {h : Heap} {a : Option Addr} {n c : Nat} {bs : List (BitVec 8)} {s : BitVec 32} {Q : Value → Heap → Prop} (tab : Tab h) (hr : Rd h a (byV bs)) (hn : bs.length = n) (hmax : n < 2 ^ 62)
    (H : Q (.int .u32 (Crc.more s bs).toNat) h) : SpecH Tryd.prog 12 [.int .u32 s.toNat, .slice a n c] h Q := by
  refine f12_door ?_
  unfold f12_main
  simp only [not32]
  refine ⟨n + 1, more_loop tab hr hn hmax n 0 _ (by omega) ?_⟩
  rw [f12_at11010_X0]
  simp only [not32, List.drop_zero]
  exact H
theorem sum_spec {h : Heap} {a : Option Addr} {n c : Nat} {bs : List (BitVec 8)} {Q : Value → Heap → Prop} (tab : Tab h) (hr : Rd h a (byV bs)) (hn : bs.length = n) (hmax : n < 2 ^ 62)
    (H : Q (.int .u32 (Crc.sum bs).toNat) h) : SpecH Tryd.prog 11 [.slice a n c] h Q := by
  refine f11_door ?_
  unfold f11_main
  exact more_spec (s := 0) tab hr hn hmax ⟨_, rfl, H⟩

/-! ### The document's -/
theorem and1 (r : BitVec 32) : bAnd .u32 r.toNat 1 = ((r &&& 1#32).toNat : Int) := and32 r 1#32
theorem bit_and (r : BitVec 32) : (((r &&& 1#32).toNat : Int) == 1) = r.getLsbD 0 := by
  have : (r &&& 1#32).toNat = (r.getLsbD 0).toNat := by
    rw [BitVec.toNat_and]; simp [BitVec.getLsbD, Nat.and_one_is_mod, Nat.testBit_zero]
    rcases Nat.mod_two_eq_zero_or_one r.toNat with h | h <;> simp [h]
  rw [this]; cases r.getLsbD 0 <;> rfl
theorem poly (r : BitVec 32) : bXor .u32 r.toNat 3988292384 = ((r ^^^ 0xedb88320#32).toNat : Int) := xor32 r 0xedb88320#32
theorem run_cons (r : BitVec 32) (b : BitVec 8) (bs : List (BitVec 8)) : Crc.run (Crc.eight (r ^^^ b.setWidth 32)) bs = Crc.run r (b :: bs) := rfl
def bits : Nat → BitVec 32 → BitVec 32
  | 0, r => r
  | n + 1, r => bits n (Crc.bit r)
theorem bits8 (r : BitVec 32) : bits 8 r = Crc.eight r := rfl
theorem ref_in {h : Heap} {a : Option Addr} {n c : Nat} {i : Int} {K : Ex → Fr → Heap → Prop} :
    ∀ (k j : Nat) (r : BitVec 32), j + k = 8 → K (.exit 2) (f15_X2 a n c (bits k r).toNat i) h → f15_L110100100110 (k + 1) a n c r.toNat i j K h := by
  intro k
  induction k with
  | zero =>
    intro j r hj H
    rw [f15_L110100100110_eq]
    exact br_false (by simp; omega) H
  | succ k ih =>
    intro j r hj H
    rw [f15_L110100100110_eq]
    refine br_true (by simp; omega) ?_
    simp only [and1, shr32, poly, bit_and, Int.reduceToNat]
    refine (br_iff _ _ _).2 ⟨fun hb => ?_, fun hb => ?_⟩
    · rw [f15_J110100100110011_eq]
      simp only [show IntKind.i64.wrap ((j : Int) + 1) = ((j + 1 : Nat) : Int) by rw [i64_id (by omega)]; simp]
      refine ih (j + 1) _ (by omega) ?_
      have : bits (k + 1) r = bits k ((r >>> 1) ^^^ 0xedb88320#32) := by show bits k (Crc.bit r) = _; unfold Crc.bit; rw [hb]; rfl
      rw [this] at H; exact H
    · rw [f15_J110100100110011_eq]
      simp only [show IntKind.i64.wrap ((j : Int) + 1) = ((j + 1 : Nat) : Int) by rw [i64_id (by omega)]; simp]
      refine ih (j + 1) _ (by omega) ?_
      have : bits (k + 1) r = bits k (r >>> 1) := by show bits k (Crc.bit r) = _; unfold Crc.bit; rw [hb]; rfl
      rw [this] at H; exact H
theorem ref_loop {h : Heap} {a : Option Addr} {n c : Nat} {bs : List (BitVec 8)} (hr : Rd h a (byV bs)) (hn : bs.length = n) (hmax : n < 2 ^ 62) {K : Ex → Fr → Heap → Prop} :
    ∀ (k i : Nat) (r : BitVec 32), i + k = n → K (.exit 0) (f15_X0 (Crc.run r (bs.drop i)).toNat) h → f15_L11010 (k + 1) a n c r.toNat i K h := by
  intro k
  induction k with
  | zero =>
    intro i r hi H
    rw [f15_L11010_eq]
    refine br_false (by simp; omega) ?_
    rw [List.drop_of_length_le (by omega)] at H
    exact H
  | succ k ih =>
    intro i r hi H
    have hlt : i < bs.length := by omega
    rw [f15_L11010_eq]
    refine br_true (by simp; omega) ?_
    refine rd_u8 E23 hr (by omega) (by omega) (by simpa using hlt) ?_
    simp only [Int.toNat_natCast, wrap32b, xor32]
    refine ⟨8 + 1, ?_⟩
    show f15_L110100100110 (8 + 1) a n c _ _ ((0 : Nat) : Int) _ _
    refine ref_in 8 0 _ (by omega) ?_
    rw [f15_at110100100110_X2]
    simp only [show IntKind.i64.wrap ((i : Int) + 1) = ((i + 1 : Nat) : Int) by rw [i64_id (by omega)]; simp]
    rw [bits8]
    refine ih (i + 1) _ (by omega) ?_
    rw [← List.getElem_cons_drop hlt] at H
    rw [run_cons]
    exact H
theorem refMore_spec {h : Heap} {a : Option Addr} {n c : Nat} {bs : List (BitVec 8)} {s : BitVec 32} {Q : Value → Heap → Prop} (hr : Rd h a (byV bs)) (hn : bs.length = n) (hmax : n < 2 ^ 62)
    (H : Q (.int .u32 (Crc.more s bs).toNat) h) : SpecH Tryd.prog 15 [.int .u32 s.toNat, .slice a n c] h Q := by
  refine f15_door ?_
  unfold f15_main
  simp only [not32]
  refine ⟨n + 1, ref_loop hr hn hmax n 0 _ (by omega) ?_⟩
  rw [f15_at11010_X0]
  simp only [not32, List.drop_zero]
  exact H
theorem refSum_spec {h : Heap} {a : Option Addr} {n c : Nat} {bs : List (BitVec 8)} {Q : Value → Heap → Prop} (hr : Rd h a (byV bs)) (hn : bs.length = n) (hmax : n < 2 ^ 62)
    (H : Q (.int .u32 (Crc.sum bs).toNat) h) : SpecH Tryd.prog 14 [.slice a n c] h Q := by
  refine f14_door ?_
  unfold f14_main
  exact refMore_spec (s := 0) hr hn hmax ⟨_, rfl, H⟩
end Go.Proofs.YthoicidmckkkhaaDoor
