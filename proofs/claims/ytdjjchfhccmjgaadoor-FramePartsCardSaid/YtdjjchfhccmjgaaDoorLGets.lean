/- Little: a number got, after law02/Gets. -/
import Derived.Test.YtdjjchfhccmjgaaDoorLPuts
set_option linter.unusedVariables false
set_option linter.unusedSimpArgs false
namespace Go.Proofs.YtdjjchfhccmjgaaDoor
open Go Go.HW
theorem backward_loop {yield : Value} {t1 : Addr} {K : Ex → Fr → Heap → Prop} {bs : List (BitVec 8)} {a : Option Addr} {n c : Nat} (hn : bs.length = n) (hmax : n < 2 ^ 40) (I : Nat → Heap → Prop)
    (hI : ∀ (i : Nat) (h : Heap) (hi : i < bs.length), I (i + 1) h → cellH h t1 = some (.slice a n c) ∧ Rd h a (byV bs) ∧ callV PP yield [.int .i64 i, .int .u8 (bs[i]).toNat] (fun v h2 => v = .bool true ∧ I i h2) h)
    (hx : ∀ h, I 0 h → K (.exit 0) slices_Backward_byte_byte_1_X0 h) : ∀ (k : Nat) (h : Heap), k ≤ n → I k h → slices_Backward_byte_byte_1_L10 yield t1 ((k : Int) - 1) K h := by
  intro k
  induction k with
  | zero =>
    intro h hk hI0
    refine slices_Backward_byte_byte_1_L10_of ?_
    exact br_false (by simp) (hx h hI0)
  | succ k ih =>
    intro h hk hIk
    have hkl : k < bs.length := by omega
    obtain ⟨h1, h2, h3⟩ := hI k h hkl hIk
    have e : ((k + 1 : Nat) : Int) - 1 = (k : Int) := by omega
    rw [e]; refine slices_Backward_byte_byte_1_L10_of ?_
    refine br_true (by simp) ?_
    refine ⟨_, _, _, h1, ?_⟩
    refine rd_u8 E_sl_uint8 h2 (by omega) (by omega) (by simpa using hkl) ?_
    refine callV_mono ?_ h3
    rintro v hh ⟨rfl, hI'⟩
    refine ⟨true, rfl, ?_⟩
    refine br_false rfl ?_
    simp only [show IntKind.i64.wrap ((k : Int) - 1) = (k : Int) - 1 from i64_id (by omega)]
    exact ih hh (by omega) hI'
theorem back_spec {h : Heap} {a : Option Addr} {n c : Nat} {Q : Value → Heap → Prop} (H : Q (.func (.func F_slices_Backward_byte_byte_1) #[] #[.pointer (some ⟨h.size, 0, none⟩)]) (h.push (.cells #[.slice a n c] T_sl_uint8 (0, 0)))) : SpecH PP F_slices_Backward_byte_byte [.slice a n c] h Q := slices_Backward_byte_byte_door H

/-- What the ranges' heap is, so far. -/
structure GI (h : Heap) (a : Option Addr) (n c : Nat) (L : Loop) (ys : List (BitVec 8)) (k : Nat) (hh : Heap) : Prop where
  ext : ExtB h.size h hh
  acc : Blk hh h.size T_uint64 [.int .u64 (Num.of (ys.drop k)).toNat]
  sl : Blk hh (h.size + 1) T_sl_uint8 [.slice a n c]
  dfr : hh[h.size + 2]? = some (.deferred (some []))
  lp : hh[h.size + 3]? = some (.loop L)

theorem get_spec {h : Heap} {a : Option Addr} {n c : Nat} {bs : List (BitVec 8)} {at1 : Int} {k : Nat} {Q : Value → Heap → Prop} (hr : Rd h a (byV bs)) (hn : bs.length = n) (hnc : n ≤ c) (hmax : n < 2 ^ 40) (hk : k ≤ 8)
    (H1 : (at1 < 0 ∨ at1 > (n : Int) - k) → ∀ h', ExtB h.size h h' → Q (.tuple #[.int .u64 0, .int .i64 20]) h')
    (H2 : ∀ j : Nat, at1 = j → j + k ≤ n → ∀ h', ExtB h.size h h' → Q (.tuple #[.int .u64 (Num.of ((bs.drop j).take k)).toNat, .int .i64 0]) h') :
    SpecH PP F_little_get [.slice a n c, .int .i64 at1, .int .i64 k] h Q := by
  refine SpecH.keepD (little_get_door ?_)
  unfold little_get_main
  have bad : (at1 < 0 ∨ at1 > (n : Int) - k) → little_get_J101 a n c at1 k 0 0 true (fun v h' => KeepD h h' → Q v h') h := by
    intro hb
    refine little_get_J101_of ?_
    refine br_true rfl fun h1 ht hkd => H1 hb h1 (takes_ext (ExtB.refl _ _) ht hkd)
  refine (br_iff _ _ _).2 ⟨fun hb => bad (.inl (by simpa using hb)), fun hb => ?_⟩
  have h0 : 0 ≤ at1 := by simpa using hb
  simp only [show IntKind.i64.wrap ((n : Int) - k) = (n : Int) - k from i64_id (by omega)]
  by_cases hgt : at1 > (n : Int) - k
  · rw [decide_eq_true hgt]; exact bad (.inr hgt)
  rw [decide_eq_false hgt]
  obtain ⟨j, rfl⟩ : ∃ j : Nat, at1 = j := ⟨at1.toNat, by omega⟩
  have hjk : j + k ≤ n := by omega
  refine little_get_J101_of ?_
  refine br_false rfl ?_
  simp only [addN j k (by omega)]
  have hp := ExtB.push (Nat.le_refl h.size) (.cells #[Value.int .u64 0] T_uint64 (0, 0))
  refine slice_rd E_sl_uint8 (hr.keep hp) (by rw [byV_len, hn]) hnc (by exact trivial) (by exact trivial) (by simp [bnd]) (by simp [bnd]; omega) (by simp [bnd]; omega) ?_
  intro a' hr' hblk
  simp only [bnd, Int.toNat_natCast] at hr' ⊢
  rw [show j + k - j = k by omega] at hr' ⊢
  rw [byV_drop, byV_take] at hr'
  generalize hys : (bs.drop j).take k = ys at hr'
  have hyl : ys.length = k := by rw [← hys]; simp; omega
  refine ⟨_, _, _, rfl, ?_⟩
  refine back_spec ⟨_, rfl, ?_⟩
  refine ⟨F_slices_Backward_byte_byte_1, #[], _, rfl, (by kernel_rfl : callable PP F_slices_Backward_byte_byte_1 = true), ?_⟩
  intro fn tmps hf
  simp only [Array.size_push]
  show SpecH PP F_slices_Backward_byte_byte_1 [_, _] _ _
  refine slices_Backward_byte_byte_1_door ?_
  generalize hL : (Loop.mk .ready none fn tmps #[28, 29] _ _ _) = L
  have hb' : ∀ ad, a' = some ad → byV ys ≠ [] → ad.block < h.size := by
    intro ad ha hne
    obtain ⟨ad0, h1, h2⟩ := hblk ad ha
    rw [← h2]; subst h1
    refine hr.lt ?_
    intro hb; apply hne
    have : bs = [] := by cases bs with | nil => rfl | cons => simp [byV] at hb
    rw [← hys, this]; simp [byV]
  have rdk : ∀ hh k', GI h a' k (c - j) L ys k' hh → Rd hh a' (byV ys) := fun hh k' G => hr'.keepB (n := h.size) ⟨by have := lt_of_get G.lp; simp; omega, fun i hi => by rw [G.ext.2 i hi, hp.2 i hi]⟩ hb'
  have step : ∀ (i : Nat) (hh : Heap) (hi : i < ys.length), GI h a' k (c - j) L ys (i + 1) hh → cellH hh ⟨h.size + 1, 0, none⟩ = some (.slice a' k (c - j)) ∧ Rd hh a' (byV ys) ∧
      callV PP (.func (.yield (h.size + 3)) #[] #[]) [.int .i64 i, .int .u8 (ys[i]).toNat] (fun v h2 => v = .bool true ∧ GI h a' k (c - j) L ys i h2) hh := by
    intro i hh hi G
    refine ⟨cell_of G.sl rfl, rdk hh _ G, ?_⟩
    have R : little_get_R111010 0 0 ⟨h.size, 0, none⟩ (.int .i64 i) (ys[i]).toNat (h.size + 3) (fun v h2 => v = .bool true ∧ GI h a' k (c - j) L ys i h2) hh := by
      rw [little_get_R111010_eq]
      refine ⟨L, G.lp, by rw [← hL], ?_⟩
      have hacc : Blk (hh.setIfInBounds (h.size + 3) (.loop { L with state := .busy })) h.size T_uint64 [.int .u64 (Num.of (ys.drop (i + 1))).toNat] := by
        unfold Blk; rw [get_set, if_neg (by omega)]; exact G.acc
      refine ⟨_, cell_of hacc rfl, ?_⟩
      simp only [shl64, wrap64b, or64, Int.reduceToNat]
      refine wr_ok hacc (by simp) rfl ?_
      refine ⟨{ L with state := .busy }, ?_, trivial, ?_⟩
      · rw [get_set, if_neg (by omega), get_set, if_pos rfl, if_pos (lt_of_get G.lp)]
      · have eL : endL { L with state := .busy } none = .loop L := by rw [← hL]; rfl
        rw [eL]
        refine ⟨((G.ext.trans (setB _ _ (by omega))).trans (setB _ _ (Nat.le_refl _))).trans (setB _ _ (by omega)), ?_, ?_, ?_, ?_⟩
        · have : Num.of (ys.drop i) = Num.of (ys.drop (i + 1)) <<< 8 ||| (ys[i]).setWidth 64 := by rw [← List.getElem_cons_drop hi]; rfl
          rw [this]
          unfold Blk; rw [get_set, if_neg (by omega), get_set, if_pos rfl, if_pos (by simpa using lt_of_get G.acc)]; rfl
        · unfold Blk; rw [get_set, if_neg (by omega), get_set, if_neg (by omega), get_set, if_neg (by omega)]; exact G.sl
        · rw [get_set, if_neg (by omega), get_set, if_neg (by omega), get_set, if_neg (by omega)]; exact G.dfr
        · rw [get_set, if_pos rfl, if_pos (by simpa using lt_of_get G.lp)]
    exact little_get_R111010_yield G.lp (by rw [← hL]) (by rw [← hL]) (by rw [← hL]) (by rw [← hL]; exact hf) R
  refine ⟨a', k, c - j, ?_, ?_⟩
  · exact cell_of (cs := #[.slice a' k (c - j)]) (t := T_sl_uint8) (f := (0, 0)) (by rw [get_push, if_neg (by simp), get_push, if_neg (by simp), get_push, if_pos (by simp)]) rfl
  simp only [show IntKind.i64.wrap ((k : Int) - 1) = (k : Int) - 1 from i64_id (by omega)]
  refine backward_loop hyl (by omega) (GI h a' k (c - j) L ys) step ?_ k _ (Nat.le_refl _) ?_
  · intro hh G
    rw [slices_Backward_byte_byte_1_at10_X0]
    refine ⟨L, G.lp, by rw [← hL]; simp, G.dfr, ?_⟩
    have : L.pending = none := by rw [← hL]
    rw [this]
    show little_get_K11101 _ .normal _ _
    rw [little_get_R111010_outn0]
    refine ⟨_, cell_of (b := h.size) (off := 0) (cs := #[.int .u64 (Num.of (ys.drop 0)).toNat]) (t := T_uint64) (f := (0, 0)) (by rw [get_set, if_neg (by omega)]; exact G.acc) rfl, ?_⟩
    intro h1 ht hkd
    rw [List.drop_zero, ← hys]
    exact H2 j rfl hjk h1 (takes_ext (G.ext.trans (setB _ _ (by omega))) ht hkd)
  · refine ⟨?_, ?_, ?_, ?_, ?_⟩
    · refine ⟨by simp; omega, fun i hi => ?_⟩
      rw [get_push, if_neg (by simp; omega), get_push, if_neg (by simp; omega), get_push, if_neg (by simp; omega), get_push, if_neg (by omega)]
    · unfold Blk
      rw [get_push, if_neg (by simp; omega), get_push, if_neg (by simp; omega), get_push, if_neg (by simp), get_push, if_pos rfl, List.drop_of_length_le (by omega)]; rfl
    · unfold Blk
      rw [get_push, if_neg (by simp), get_push, if_neg (by simp), get_push, if_pos (by simp)]
    · rw [get_push, if_neg (by simp), get_push, if_pos (by simp)]
    · rw [get_push, if_pos (by simp)]
section
variable {h : Heap} {a : Option Addr} {n c : Nat} {bs : List (BitVec 8)} {at1 : Int} {Q : Value → Heap → Prop}
theorem get32_spec (hr : Rd h a (byV bs)) (hn : bs.length = n) (hnc : n ≤ c) (hmax : n < 2 ^ 40)
    (H1 : (at1 < 0 ∨ at1 > (n : Int) - 4) → ∀ h', ExtB h.size h h' → Q (.tuple #[.int .u32 0, .int .i64 20]) h')
    (H2 : ∀ j : Nat, at1 = j → j + 4 ≤ n → ∀ h', ExtB h.size h h' → Q (.tuple #[.int .u32 ((Num.of ((bs.drop j).take 4)).setWidth 32).toNat, .int .i64 0]) h') :
    SpecH PP F_little_Get32 [.slice a n c, .int .i64 at1] h Q := by
  refine little_Get32_door ?_
  unfold little_Get32_main
  refine get_spec (k := 4) hr hn hnc hmax (by omega) (fun hb h' he => ⟨0, 20, rfl, H1 hb h' he⟩) (fun j hj hk h' he => ⟨_, 0, rfl, ?_⟩)
  simp only [wrap32b]
  exact H2 j hj hk h' he
/-! ### The document's -/
theorem refGet_loop {j m : Nat} {K : Ex → Fr → Heap → Prop} (hr : Rd h a (byV bs)) (hn : bs.length = n) (hmax : n < 2 ^ 40) (hjm : j + m ≤ n) (hm : m ≤ 8) (H : K (.exit 0) (ref02_Get_X0 (Num.of ((bs.drop j).take m)).toNat) h) :
    ∀ (k i : Nat), i + k = m → ref02_Get_L111010 a n c j m (Num.of ((bs.drop j).take i)).toNat i K h := by
  intro k
  induction k with
  | zero =>
    intro i hi
    refine ref02_Get_L111010_of ?_
    refine br_false (by simp; omega) ?_
    rw [show i = m by omega]; exact H
  | succ k ih =>
    intro i hi
    have e8 : IntKind.i64.wrap (8 * (i : Int)) = ((8 * i : Nat) : Int) := by rw [i64_id (by omega)]; simp
    have hl : j + i < bs.length := by omega
    refine ref02_Get_L111010_of ?_
    refine br_true (by simp; omega) ?_
    simp only [addN j i (by omega), e8]
    refine rd_u8 E_sl_uint8 hr (by omega) (by omega) (by omega) ?_
    simp only [wrap64b, shl64, or64, Int.toNat_natCast, lt_inc i (by omega)]
    refine br_true (by simp; omega) ?_
    have : Num.of ((bs.drop j).take (i + 1)) = Num.of ((bs.drop j).take i) ||| (bs[j + i]).setWidth 64 <<< (8 * i) := by
      have hl' : i < (bs.drop j).length := by simp; omega
      rw [List.take_succ_eq_append_getElem hl', Num.of_snoc]
      simp only [List.getElem_drop, List.length_take, List.length_drop]
      rw [Nat.min_eq_left (by omega)]
    rw [← this]
    exact ih (i + 1) (by omega)
theorem refGet_spec {m : Nat} (hr : Rd h a (byV bs)) (hn : bs.length = n) (hmax : n < 2 ^ 40) (hm : m ≤ 8)
    (H1 : (at1 < 0 ∨ at1 > (n : Int) - m) → Q (.tuple #[.int .u64 0, .int .i64 20]) h)
    (H2 : ∀ j : Nat, at1 = j → j + m ≤ n → Q (.tuple #[.int .u64 (Num.of ((bs.drop j).take m)).toNat, .int .i64 0]) h) :
    SpecH PP F_ref02_Get [.slice a n c, .int .i64 at1, .int .i64 m] h Q := by
  refine ref02_Get_door ?_
  unfold ref02_Get_main
  have bad : (at1 < 0 ∨ at1 > (n : Int) - m) → ref02_Get_J101 a n c at1 m true Q h := by
    intro hb
    refine ref02_Get_J101_of ?_
    exact br_true rfl (H1 hb)
  refine (br_iff _ _ _).2 ⟨fun hb => bad (.inl (by simpa using hb)), fun hb => ?_⟩
  have h0 : 0 ≤ at1 := by simpa using hb
  refine (br_iff _ _ _).2 ⟨fun hb => bad (.inr (by simp at hb; omega)), fun hb => ?_⟩
  have h1 : at1 ≤ n := by simpa using hb
  simp only [show IntKind.i64.wrap ((n : Int) - at1) = (n : Int) - at1 from i64_id (by omega)]
  by_cases hlt : (n : Int) - at1 < m
  · rw [decide_eq_true hlt]; exact bad (.inr (by omega))
  rw [decide_eq_false hlt]; refine ref02_Get_J101_of ?_
  refine br_false rfl ?_
  obtain ⟨j, rfl⟩ : ∃ j : Nat, at1 = j := ⟨at1.toNat, by omega⟩
  refine refGet_loop hr hn hmax (by omega) hm ?_ m 0 (by omega)
  rw [ref02_Get_at111010_X0]
  exact H2 j rfl (by omega)
end
end Go.Proofs.YtdjjchfhccmjgaaDoor
