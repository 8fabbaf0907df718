/- Contracts of law02's functions: the getters, the document's get, the examples. -/
import Derived.Test.YthoicidmckkkhaaDoorHwGets
set_option linter.unusedVariables false
set_option linter.unusedSimpArgs false
namespace Go.Proofs.YthoicidmckkkhaaDoor
open Go Go.HW
section
variable {h : Heap} {a : Option Addr} {n c : Nat} {bs : List (BitVec 8)} {at1 : Int} {Q : Value → Heap → Prop}
theorem get16_spec (hr : Rd h a (byV bs)) (hn : bs.length = n) (hnc : n ≤ c) (hmax : n < 2 ^ 40)
    (H1 : (at1 < 0 ∨ at1 > (n : Int) - 2) → ∀ h', ExtB h.size h h' → Q (.tuple #[.int .u16 0, .int .i64 20]) h')
    (H2 : ∀ j : Nat, at1 = j → j + 2 ≤ n → ∀ h', ExtB h.size h h' → Q (.tuple #[.int .u16 ((Num.of ((bs.drop j).take 2)).setWidth 16).toNat, .int .i64 0]) h') :
    SpecH Tryd.prog 21 [.slice a n c, .int .i64 at1] h Q := by
  refine f21_door ?_
  unfold f21_main
  refine get_spec (k := 2) hr hn hnc hmax (by omega) (fun hb h' he => ⟨0, 20, rfl, H1 hb h' he⟩) (fun j hj hk h' he => ⟨_, 0, rfl, ?_⟩)
  simp only [wrap16]
  exact H2 j hj hk h' he
theorem get32_spec (hr : Rd h a (byV bs)) (hn : bs.length = n) (hnc : n ≤ c) (hmax : n < 2 ^ 40)
    (H1 : (at1 < 0 ∨ at1 > (n : Int) - 4) → ∀ h', ExtB h.size h h' → Q (.tuple #[.int .u32 0, .int .i64 20]) h')
    (H2 : ∀ j : Nat, at1 = j → j + 4 ≤ n → ∀ h', ExtB h.size h h' → Q (.tuple #[.int .u32 ((Num.of ((bs.drop j).take 4)).setWidth 32).toNat, .int .i64 0]) h') :
    SpecH Tryd.prog 22 [.slice a n c, .int .i64 at1] h Q := by
  refine f22_door ?_
  unfold f22_main
  refine get_spec (k := 4) hr hn hnc hmax (by omega) (fun hb h' he => ⟨0, 20, rfl, H1 hb h' he⟩) (fun j hj hk h' he => ⟨_, 0, rfl, ?_⟩)
  simp only [wrap32b]
  exact H2 j hj hk h' he
theorem get64_spec (hr : Rd h a (byV bs)) (hn : bs.length = n) (hnc : n ≤ c) (hmax : n < 2 ^ 40)
    (H1 : (at1 < 0 ∨ at1 > (n : Int) - 8) → ∀ h', ExtB h.size h h' → Q (.tuple #[.int .u64 0, .int .i64 20]) h')
    (H2 : ∀ j : Nat, at1 = j → j + 8 ≤ n → ∀ h', ExtB h.size h h' → Q (.tuple #[.int .u64 (Num.of ((bs.drop j).take 8)).toNat, .int .i64 0]) h') :
    SpecH Tryd.prog 23 [.slice a n c, .int .i64 at1] h Q := by
  refine f23_door ?_
  unfold f23_main
  exact get_spec (k := 8) hr hn hnc hmax (by omega) (fun hb h' he => ⟨0, 20, rfl, H1 hb h' he⟩) (fun j hj hk h' he => ⟨_, 0, rfl, H2 j hj hk h' he⟩)

/-! ### The document's -/
theorem refGet_loop {j m : Nat} {K : Ex → Fr → Heap → Prop} (hr : Rd h a (byV bs)) (hn : bs.length = n) (hmax : n < 2 ^ 40) (hjm : j + m ≤ n) (hm : m ≤ 8) (H : K (.exit 0) (f24_X0 (Num.of ((bs.drop j).take m)).toNat) h) :
    ∀ (k i : Nat), i + k = m → f24_L111010 (k + 1) a n c j m (Num.of ((bs.drop j).take i)).toNat i K h := by
  intro k
  induction k with
  | zero =>
    intro i hi
    rw [f24_L111010_eq]
    refine br_false (by simp; omega) ?_
    rw [show i = m by omega]; exact H
  | succ k ih =>
    intro i hi
    have e8 : IntKind.i64.wrap (8 * (i : Int)) = ((8 * i : Nat) : Int) := by rw [i64_id (by omega)]; simp
    have hl : j + i < bs.length := by omega
    rw [f24_L111010_eq]
    refine br_true (by simp; omega) ?_
    simp only [addN j i (by omega), e8]
    refine rd_u8 E23 hr (by omega) (by omega) (by omega) ?_
    simp only [wrap64b, shl64, or64, Int.toNat_natCast, inc i (by omega)]
    refine br_true (by simp; omega) ?_
    have : Num.of ((bs.drop j).take (i + 1)) = Num.of ((bs.drop j).take i) ||| (bs[j + i]).setWidth 64 <<< (8 * i) := by
      have hl' : i < (bs.drop j).length := by simp; omega
      rw [List.take_succ_eq_append_getElem hl', Num.of_snoc]
      simp only [List.getElem_drop, List.length_take, List.length_drop]
      rw [Nat.min_eq_left (by omega)]
    rw [← this]
    exact ih (i + 1) (by omega)
theorem refGet_spec {m : Nat} (hr : Rd h a (byV bs)) (hn : bs.length = n) (hmax : n < 2 ^ 40) (hm : m ≤ 8)
    (H1 : (at1 < 0 ∨ at1 > (n : Int) - m) → Q (.tuple #[.int .u64 0, .int .i64 20]) h)
    (H2 : ∀ j : Nat, at1 = j → j + m ≤ n → Q (.tuple #[.int .u64 (Num.of ((bs.drop j).take m)).toNat, .int .i64 0]) h) :
    SpecH Tryd.prog 24 [.slice a n c, .int .i64 at1, .int .i64 m] h Q := by
  refine f24_door ?_
  unfold f24_main
  have bad : (at1 < 0 ∨ at1 > (n : Int) - m) → f24_J101 a n c at1 m true Q h := by
    intro hb
    rw [f24_J101_eq]
    exact br_true rfl (H1 hb)
  refine (br_iff _ _ _).2 ⟨fun hb => bad (.inl (by simpa using hb)), fun hb => ?_⟩
  have h0 : 0 ≤ at1 := by simpa using hb
  refine (br_iff _ _ _).2 ⟨fun hb => bad (.inr (by simp at hb; omega)), fun hb => ?_⟩
  have h1 : at1 ≤ n := by simpa using hb
  simp only [show IntKind.i64.wrap ((n : Int) - at1) = (n : Int) - at1 from i64_id (by omega)]
  by_cases hlt : (n : Int) - at1 < m
  · rw [decide_eq_true hlt]; exact bad (.inr (by omega))
  rw [decide_eq_false hlt, f24_J101_eq]
  refine br_false rfl ?_
  obtain ⟨j, rfl⟩ : ∃ j : Nat, at1 = j := ⟨at1.toNat, by omega⟩
  refine ⟨m + 1, ?_⟩
  refine refGet_loop hr hn hmax (by omega) hm ?_ m 0 (by omega)
  rw [f24_at111010_X0]
  exact H2 j rfl (by omega)
end

/-! ### The examples -/
theorem u5 : Tryd.prog.underlying 5 = some (.int .u8) := by kernel_rfl
theorem conv23 {h : Heap} {a : Addr} {n c : Nat} {K : Value → Heap → Prop} (H : ∀ h', (∀ x, cellH h' x = cellH h x) → (∀ j, a.block ≠ j → h'[j]? = h[j]?) → h'.size = h.size → K (.slice (some a) n c) h') : hwp Tryd.prog (Go.convert 23 23 (.slice (some a) n c)) K h :=
  hwp_convSame u23 u5 H
theorem Rd.lit {h : Heap} (bs : List (BitVec 8)) : Rd (h.push (.cells (byV bs).toArray 5 (0, 0))) (some ⟨h.size, 0, none⟩) (byV bs) := Rd.of_blk (Blk.new h 5 (byV bs)) (by simp)

theorem ex1 : (((Crc.sum [49#8, 50#8, 51#8, 52#8, 53#8, 54#8, 55#8, 56#8, 57#8]).toNat : Int) == 3421780262) = true := by decide +kernel
theorem ex2 : (((Crc.more (Crc.sum [49#8, 50#8, 51#8, 52#8]) [53#8, 54#8, 55#8, 56#8, 57#8]).toNat : Int) == 3421780262) = true := by decide +kernel
theorem awake_spec {h : Heap} {Q : Value → Heap → Prop} (tab : Tab h) (H : ∀ h', ExtB h.size h h' → Q (.bool true) h') : SpecH Tryd.prog 9 [] h Q := by
  refine f9_door ?_
  unfold f9_main
  have e1 := ExtB.push (Nat.le_refl h.size) (.cells (byV [7#8]).toArray 5 (0, 0))
  refine put16_spec (v := 258#16) (bs := [7#8]) (Rd.lit [7#8]) rfl (by decide) ?_
  intro h2 a2 c2 e2 o2 b2
  refine ⟨_, _, _, rfl, ?_⟩
  refine put32_spec (v := 1#32) (bs := []) (Rd.nil _ _) rfl (by decide) ?_
  intro h3 a3 c3 e3 o3 b3
  refine ⟨_, _, _, rfl, ?_⟩
  have r2 : ∀ h', ExtB h2.size h2 h' → Rd h' a2 (byV [7#8, 2#8, 1#8]) := fun h' e => o2.rd.keep e
  refine get16_spec (at1 := 1) (r2 _ e3) rfl (by have := o2.2.1; simpa using this) (by decide) (fun hb => by simp at hb) ?_
  intro j hj _ h4 e4
  obtain rfl : j = 1 := by omega
  refine ⟨_, _, rfl, ?_⟩
  have e24 := e3.trans (e4.mono e3.1)
  refine get16_spec (at1 := 2) (r2 _ e24) rfl (by have := o2.2.1; simpa using this) (by decide) ?_ (fun j hj h => by omega)
  intro _ h5 e5
  refine ⟨_, _, rfl, ?_⟩
  have e25 := e24.trans (e5.mono e24.1)
  have e35 := e4.trans (e5.mono e4.1)
  have p6 := ExtB.push (Nat.le_refl h5.size) (.cells (byV [7#8, 2#8, 1#8]).toArray 5 (0, 0))
  refine same_spec (bs := [7#8, 2#8, 1#8]) (r2 _ (e25.trans (p6.mono e25.1))) (Rd.lit [7#8, 2#8, 1#8]) rfl rfl (by decide) ⟨_, rfl, br_true rfl ?_⟩
  have p7 := ExtB.push (Nat.le_refl _) (h := h5.push (.cells (byV [7#8, 2#8, 1#8]).toArray 5 (0, 0))) (.cells (byV [1#8, 0#8, 0#8, 0#8]).toArray 5 (0, 0))
  have e36 := e35.trans (p6.mono e35.1)
  refine same_spec (xs := [1#8, 0#8, 0#8, 0#8]) (bs := [1#8, 0#8, 0#8, 0#8]) (o3.rd.keep (e36.trans (p7.mono e36.1))) (Rd.lit [1#8, 0#8, 0#8, 0#8]) rfl rfl (by decide) ⟨_, rfl, br_true rfl ?_⟩
  refine br_true (by decide) (br_true rfl (br_true rfl ?_))
  have eA : ExtB h.size h h2 := e1.trans (e2.mono e1.1)
  have eB : ExtB h.size h ((h5.push (.cells (byV [7#8, 2#8, 1#8]).toArray 5 (0, 0))).push (.cells (byV [1#8, 0#8, 0#8, 0#8]).toArray 5 (0, 0))) :=
    eA.trans (((e25.trans (p6.mono e25.1)).trans (p7.mono (e25.trans (p6.mono e25.1)).1)).mono eA.1)
  have lit : ∀ (g : Heap), ExtB h.size h g → ∀ (bs : List (BitVec 8)) (n : Nat) (R : Value → Heap → Prop), bs.length = n →
      (∀ g', ExtB h.size h g' → Rd g' (some ⟨g.size, 0, none⟩) (byV bs) → R (.slice (some ⟨g.size, 0, none⟩) n n) g') → hwp Tryd.prog (Go.convert 23 23 (.slice (some ⟨g.size, 0, none⟩) n n)) R (g.push (.cells (byV bs).toArray 5 (0, 0))) := by
    intro g eg bs n R hn HR
    refine conv23 ?_
    intro g' hc hj hs
    refine HR g' ⟨by rw [hs]; simp; have := eg.1; omega, fun i hi => ?_⟩ ((Rd.lit bs).cells hc)
    have := eg.1
    rw [hj i (by show g.size ≠ i; omega), get_push, if_neg (by omega), eg.2 i hi]
  obtain ⟨S1, hS1⟩ : ∃ S, Crc.sum [49#8, 50#8, 51#8, 52#8, 53#8, 54#8, 55#8, 56#8, 57#8] = S := ⟨_, rfl⟩
  obtain ⟨S2, hS2⟩ : ∃ S, Crc.sum [49#8, 50#8, 51#8, 52#8] = S := ⟨_, rfl⟩
  obtain ⟨S3, hS3⟩ : ∃ S, Crc.more S2 [53#8, 54#8, 55#8, 56#8, 57#8] = S := ⟨_, rfl⟩
  have x1 := ex1
  have x2 := ex2
  rw [hS1] at x1
  rw [hS2, hS3] at x2
  refine lit _ eB [49#8, 50#8, 51#8, 52#8, 53#8, 54#8, 55#8, 56#8, 57#8] 9 _ rfl ?_
  intro g1 eg1 rg1
  refine ⟨_, _, _, rfl, sum_spec (tab.keep eg1) rg1 rfl (by decide) ?_⟩
  rw [hS1]
  refine ⟨_, rfl, br_true x1 ?_⟩
  refine lit g1 eg1 [49#8, 50#8, 51#8, 52#8] 4 _ rfl ?_
  intro g2 eg2 rg2
  refine ⟨_, _, _, rfl, sum_spec (tab.keep eg2) rg2 rfl (by decide) ?_⟩
  rw [hS2]
  refine ⟨_, rfl, ?_⟩
  refine lit g2 eg2 [53#8, 54#8, 55#8, 56#8, 57#8] 5 _ rfl ?_
  intro g3 eg3 rg3
  refine ⟨_, _, _, rfl, more_spec (tab.keep eg3) rg3 rfl (by decide) ?_⟩
  rw [hS3]
  refine ⟨_, rfl, ?_⟩
  rw [x2]
  exact H g3 eg3
end Go.Proofs.YthoicidmckkkhaaDoor
