/- Little: numbers put, after law02/Puts. -/
import Derived.Test.YtdjjchfhccmjgaaDoorLMore
import Derived.Test.YtdjjchfhccmjgaaDoorHwLE
set_option linter.unusedVariables false
set_option linter.unusedSimpArgs false
namespace Go.Proofs.YtdjjchfhccmjgaaDoor
open Go Go.HW
theorem lt_inc (i : Nat) (hi : i < 2 ^ 62) : IntKind.i64.wrap ((i : Int) + 1) = ((i + 1 : Nat) : Int) := by rw [i64_id (by omega)]; simp
theorem addN (a b : Nat) (h : a + b < 2 ^ 62) : IntKind.i64.wrap ((a : Int) + b) = ((a + b : Nat) : Int) := by rw [i64_id (by omega)]; simp
theorem rd_none {h : Heap} {a : Option Addr} {n : Nat} {bs : List (BitVec 8)} (hr : Rd h a (byV bs)) (hn : bs.length = n) : a = none → n = 0 := by
  intro ha; subst ha
  cases bs with
  | nil => exact hn.symm
  | cons b l => obtain ⟨ad, hx, _⟩ := hr 0 _ (by simp [byV]; rfl); cases hx

theorem put_loop {h0 : Heap} {N m : Nat} {K : Ex → Fr → Heap → Prop} {tot : List (BitVec 8)} (hN : h0.size = N) (hm : tot.length < 2 ^ 41)
    (H : ∀ h' a' c', ExtB N h0 h' → Own h' a' tot.length c' T_uint8 1 (byV tot) → (∀ ad, a' = some ad → N ≤ ad.block) → K (.exit 0) (little_put_X0 a' tot.length c') h') :
    ∀ (k i : Nat) (v : BitVec 64) (pre : List (BitVec 8)) (h : Heap) (a : Option Addr) (n c : Nat), i + k = m → m < 2 ^ 60 → pre ++ Num.le k v = tot → pre.length = n → ExtB N h0 h → Own h a n c T_uint8 1 (byV pre) → (∀ ad, a = some ad → N ≤ ad.block) →
      little_put_L111010 v.toNat a n c m i K h := by
  intro k
  induction k with
  | zero =>
    intro i v pre h a n c hi hmb hp hn he ho hb
    refine little_put_L111010_of ?_
    refine br_false (by simp; omega) ?_
    simp [Num.le] at hp
    subst hp; subst hn
    exact H h a c he ho hb
  | succ k ih =>
    intro i v pre h a n c hi hmb hp hn he ho hb
    have hpl : n + 1 ≤ tot.length := by rw [← hp]; simp [Num.le]; omega
    have hsz := he.1
    refine little_put_L111010_of ?_
    refine br_true (by simp; omega) ?_
    simp only [wrap8, shr64, Int.reduceToNat, lt_inc i (by omega)]
    have ho1 : Own (h.push (.cells #[Value.int .u8 ((v.setWidth 8).toNat)] T_uint8 (0, 0))) a n c T_uint8 1 (byV pre) := ho.keep fun ad ha => by
      obtain ⟨_, _, ⟨q, _⟩ | ⟨b, off, cs, q, hb', _⟩⟩ := ho
      · rw [ha] at q; cases q
      · rw [ha] at q; cases q
        rw [get_push, if_neg (by have := lt_of_get hb'; simp at this ⊢; omega)]
    have hsrc : Src (h.push (.cells #[Value.int .u8 ((v.setWidth 8).toNat)] T_uint8 (0, 0))) (.slice (some ⟨h.size, 0, none⟩) 1 1) 1 1 (byV [v.setWidth 8]) :=
      ⟨rfl, rfl, Rd.of_blk (xs := byV [v.setWidth 8]) (Blk.new _ _ _) rfl, fun h => by cases h⟩
    refine hwp_append E_sl_uint8 rfl U_sl_uint8 rfl ho1 hsrc (byV_one _) (by omega) (by omega) ?_
    intro h' a' c' hs hk ho' hb' _
    refine ⟨_, _, _, rfl, ?_⟩
    have he' : ExtB N h0 h' := by
      refine ⟨by simp at hs; omega, fun j hj => ?_⟩
      rw [hk j (by simp; omega) (fun ad ha hc => by have := hb ad ha; omega), get_push, if_neg (by omega), he.2 j hj]
    refine ih (i + 1) _ (pre ++ [v.setWidth 8]) h' a' (n + 1) c' (by omega) hmb (by rw [← hp]; simp [Num.le]) (by simp [hn]) he' (by rw [byV_app]; exact ho') (fun ad ha => ?_)
    rcases (hb' ad ha).2 with ⟨ad0, h1, h2⟩ | h1
    · have := hb ad0 h1; omega
    · simp at h1; omega

theorem put_spec {h : Heap} {a : Option Addr} {n c : Nat} {bs : List (BitVec 8)} {v : BitVec 64} {k : Nat} {Q : Value → Heap → Prop} (hr : Rd h a (byV bs)) (hn : bs.length = n) (hmax : n < 2 ^ 40) (hk : k ≤ 8)
    (H : ∀ h' a' c', ExtB h.size h h' → Own h' a' (n + k) c' T_uint8 1 (byV (bs ++ Num.le k v)) → (∀ ad, a' = some ad → h.size ≤ ad.block) → Q (.slice a' (n + k) c') h') : SpecH PP F_little_put [.slice a n c, .int .u64 v.toNat, .int .i64 k] h Q := by
  refine little_put_door ?_
  unfold little_put_main
  simp only [addN n k (by omega)]
  refine hwp_make E_sl_uint8 rfl (by omega) (by omega) (by omega) ?_
  refine ⟨_, _, _, rfl, ?_⟩
  have hr1 := hr.keep (ExtB.push (Nat.le_refl h.size) (.cells (List.replicate (n + k) (Value.int .u8 0)).toArray T_uint8 (0, 0)))
  refine hwp_copy (ys := byV bs) (off := 0) E_sl_uint8 (Blk.new _ _ _) (by rw [byV_len]; omega) hr1 (rd_none hr hn) (by rw [byV_len]; simp; omega) (byV_one _) ?_
  intro h2 hk2 hs hb
  refine ⟨_, rfl, ?_⟩
  have htl : (bs ++ Num.le k v).length = n + k := by simp [hn, Num.le_len]
  have he2 : ExtB h.size h h2 := ⟨by rw [hs]; simp, fun i hi => by rw [hk2 i (by omega), get_push, if_neg (by omega)]⟩
  refine ?_
  refine put_loop (h0 := h) (N := h.size) (tot := bs ++ Num.le k v) rfl (by omega) ?_ k 0 v bs h2 _ n (n + k) (by omega) (by omega) rfl hn he2 ?_ (fun ad ha => by cases ha; exact Nat.le_refl _)
  · intro h' a' c' h1 h2 h3
    rw [little_put_at111010_X0, htl]
    rw [htl] at h2
    exact H h' a' c' h1 h2 h3
  · refine Own.of_blk hb ?_ (by rw [byV_len]; omega) (by omega) (by simp [byV_len]; omega)
    simp [byV_len, hn]

theorem put32_spec {h : Heap} {a : Option Addr} {n c : Nat} {bs : List (BitVec 8)} {v : BitVec 32} {Q : Value → Heap → Prop} (hr : Rd h a (byV bs)) (hn : bs.length = n) (hmax : n < 2 ^ 40)
    (H : ∀ h' a' c', ExtB h.size h h' → Own h' a' (n + 4) c' T_uint8 1 (byV (bs ++ Num.le 4 (v.setWidth 64))) → (∀ ad, a' = some ad → h.size ≤ ad.block) → Q (.slice a' (n + 4) c') h') : SpecH PP F_little_Put32 [.slice a n c, .int .u32 v.toNat] h Q := by
  refine little_Put32_door ?_
  unfold little_Put32_main
  simp only [wrap64b]
  exact put_spec (k := 4) hr hn hmax (by omega) fun h' a' c' h1 h2 h3 => ⟨_, _, _, rfl, H h' a' c' h1 h2 h3⟩
theorem refPut_loop {h0 : Heap} {N n m b c d : Nat} {a : Option Addr} {bs : List (BitVec 8)} {v : BitVec 64} {K : Ex → Fr → Heap → Prop} (hN : N ≤ b) (hn : bs.length = n) (hm : n < 2 ^ 40) (hm8 : m ≤ 8)
    (H : ∀ h', ExtB N h0 h' → Blk h' b T_uint8 (byV (bs ++ Num.le m v)) → K (.exit 0) (ref02_Put_X0 (some ⟨b, 0, none⟩) (n + m) d) h') :
    ∀ (k i : Nat) (h : Heap), i + k = m → ExtB N h0 h → Blk h b T_uint8 (byV (bs ++ Num.le i v) ++ List.replicate k (.int .u8 0)) → ref02_Put_L111010 a n c v.toNat m (some ⟨b, 0, none⟩) (n + m) d i K h := by
  intro k
  induction k with
  | zero =>
    intro i h hi he hb
    refine ref02_Put_L111010_of ?_
    refine br_false (by simp; omega) (H h he ?_)
    have : i = m := by omega
    subst this
    simpa using hb
  | succ k ih =>
    intro i h hi he hb
    have e8 : IntKind.i64.wrap (8 * (i : Int)) = ((8 * i : Nat) : Int) := by rw [i64_id (by omega)]; simp
    have hl : (byV (bs ++ Num.le i v)).length = n + i := by rw [byV_len]; simp [hn, Num.le_len]
    refine ref02_Put_L111010_of ?_
    refine br_true (by simp; omega) ?_
    simp only [addN n i (by omega), e8, shr64, wrap8, Int.toNat_natCast, lt_inc i (by omega)]
    refine br_true (by simp; omega) ?_
    refine wr_at E_sl_uint8 hb (by omega) (by simp; omega) (by simp [byV_len, hn, Num.le_len]; omega) rfl ?_
    refine ih (i + 1) _ (by omega) (he.trans (setB _ _ hN)) ?_
    have e : (byV (bs ++ Num.le i v) ++ List.replicate (k + 1) (Value.int .u8 0)).set (0 + ((n + i : Nat) : Int).toNat) (.int .u8 ((v >>> (8 * i)).setWidth 8).toNat) = byV (bs ++ Num.le (i + 1) v) ++ List.replicate k (.int .u8 0) := by
      rw [Nat.zero_add, Int.toNat_natCast, ← hl, List.set_append_right _ _ (Nat.le_refl _), Num.le_snoc]
      simp [byV, List.replicate_succ]
    rw [e]
    exact Blk.set hb.lt _ _
theorem refPut_spec {h : Heap} {a : Option Addr} {n c : Nat} {bs : List (BitVec 8)} {v : BitVec 64} {k : Nat} {Q : Value → Heap → Prop} (hr : Rd h a (byV bs)) (hn : bs.length = n) (hmax : n < 2 ^ 40) (hk : k ≤ 8)
    (H : ∀ h', ExtB h.size h h' → Blk h' h.size T_uint8 (byV (bs ++ Num.le k v)) → Q (.slice (some ⟨h.size, 0, none⟩) (n + k) (n + k)) h') : SpecH PP F_ref02_Put [.slice a n c, .int .u64 v.toNat, .int .i64 k] h Q := by
  refine ref02_Put_door ?_
  unfold ref02_Put_main
  simp only [addN n k (by omega)]
  refine hwp_make E_sl_uint8 rfl (by omega) (by omega) (by omega) ?_
  refine ⟨_, _, _, rfl, ?_⟩
  have hr1 := hr.keep (ExtB.push (Nat.le_refl h.size) (.cells (List.replicate (n + k) (Value.int .u8 0)).toArray T_uint8 (0, 0)))
  refine hwp_copy (ys := byV bs) (off := 0) E_sl_uint8 (Blk.new _ _ _) (by rw [byV_len]; omega) hr1 (rd_none hr hn) (by rw [byV_len]; simp; omega) (byV_one _) ?_
  intro h2 hk2 hs hb
  refine ⟨_, rfl, ?_⟩
  have he2 : ExtB h.size h h2 := ⟨by rw [hs]; simp, fun i hi => by rw [hk2 i (by omega), get_push, if_neg (by omega)]⟩
  refine ?_
  refine refPut_loop (h0 := h) (N := h.size) (bs := bs) (Nat.le_refl _) hn hmax hk ?_ k 0 h2 (by omega) he2 (by simpa [byV_len, hn, Num.le] using hb)
  intro h' h1 h2
  rw [ref02_Put_at111010_X0]
  exact H h' h1 h2


end Go.Proofs.YtdjjchfhccmjgaaDoor
