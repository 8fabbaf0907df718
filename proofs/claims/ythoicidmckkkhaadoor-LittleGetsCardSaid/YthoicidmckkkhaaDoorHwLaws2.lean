/- The other laws of law02: each returns true, whatever the input. -/
import Derived.Test.YthoicidmckkkhaaDoorHwLaws
set_option linter.unusedVariables false
set_option linter.unusedSimpArgs false
namespace Go.Proofs.YthoicidmckkkhaaDoor
open Go Go.HW
section
variable {h : Heap} {a : Option Addr} {n c : Nat} {bs : List (BitVec 8)} {Q : Value → Heap → Prop}
/-- What is read at a place: the number, the errno. -/
def gv (bs : List (BitVec 8)) (at1 : Int) (k : Nat) : BitVec 64 := if 0 ≤ at1 ∧ at1 ≤ (bs.length : Int) - k then Num.of ((bs.drop at1.toNat).take k) else 0
def ge (bs : List (BitVec 8)) (at1 : Int) (k : Nat) : Int := if 0 ≤ at1 ∧ at1 ≤ (bs.length : Int) - k then 0 else 20
theorem gv_bad {at1 : Int} {k : Nat} (hn : bs.length = n) (hb : at1 < 0 ∨ at1 > (n : Int) - k) : gv bs at1 k = 0 ∧ ge bs at1 k = 20 := by
  subst hn
  unfold gv ge
  rw [if_neg (by omega), if_neg (by omega)]; exact ⟨rfl, rfl⟩
theorem gv_ok {at1 : Int} {k j : Nat} (hn : bs.length = n) (hj : at1 = j) (hk : j + k ≤ n) : gv bs at1 k = Num.of ((bs.drop j).take k) ∧ ge bs at1 k = 0 := by
  subst hn hj
  unfold gv ge
  rw [if_pos (by omega), if_pos (by omega), Int.toNat_natCast]; exact ⟨rfl, rfl⟩
theorem gv2 (bs : List (BitVec 8)) (at1 : Int) : ((gv bs at1 2).setWidth 16).setWidth 64 = gv bs at1 2 := by
  unfold gv; split
  · exact Num.of2 _ (by simp; omega)
  · rfl
theorem gv4 (bs : List (BitVec 8)) (at1 : Int) : ((gv bs at1 4).setWidth 32).setWidth 64 = gv bs at1 4 := by
  unfold gv; split
  · exact Num.of4 _ (by simp; omega)
  · rfl
theorem get16_spec' {at1 : Int} (hr : Rd h a (byV bs)) (hn : bs.length = n) (hnc : n ≤ c) (hmax : n < 2 ^ 40) (H : ∀ h', ExtB h.size h h' → Q (.tuple #[.int .u16 ((gv bs at1 2).setWidth 16).toNat, .int .i64 (ge bs at1 2)]) h') :
    SpecH Tryd.prog 21 [.slice a n c, .int .i64 at1] h Q :=
  get16_spec hr hn hnc hmax (fun hb h' e => by have := H h' e; rw [(gv_bad hn hb).1, (gv_bad hn hb).2] at this; exact this)
    (fun j hj hk h' e => by have := H h' e; rw [(gv_ok hn hj hk).1, (gv_ok hn hj hk).2] at this; exact this)
theorem get32_spec' {at1 : Int} (hr : Rd h a (byV bs)) (hn : bs.length = n) (hnc : n ≤ c) (hmax : n < 2 ^ 40) (H : ∀ h', ExtB h.size h h' → Q (.tuple #[.int .u32 ((gv bs at1 4).setWidth 32).toNat, .int .i64 (ge bs at1 4)]) h') :
    SpecH Tryd.prog 22 [.slice a n c, .int .i64 at1] h Q :=
  get32_spec hr hn hnc hmax (fun hb h' e => by have := H h' e; rw [(gv_bad hn hb).1, (gv_bad hn hb).2] at this; exact this)
    (fun j hj hk h' e => by have := H h' e; rw [(gv_ok hn hj hk).1, (gv_ok hn hj hk).2] at this; exact this)
theorem get64_spec' {at1 : Int} (hr : Rd h a (byV bs)) (hn : bs.length = n) (hnc : n ≤ c) (hmax : n < 2 ^ 40) (H : ∀ h', ExtB h.size h h' → Q (.tuple #[.int .u64 (gv bs at1 8).toNat, .int .i64 (ge bs at1 8)]) h') :
    SpecH Tryd.prog 23 [.slice a n c, .int .i64 at1] h Q :=
  get64_spec hr hn hnc hmax (fun hb h' e => by have := H h' e; rw [(gv_bad hn hb).1, (gv_bad hn hb).2] at this; exact this)
    (fun j hj hk h' e => by have := H h' e; rw [(gv_ok hn hj hk).1, (gv_ok hn hj hk).2] at this; exact this)
theorem refGet_spec' {at1 : Int} {m : Nat} (hr : Rd h a (byV bs)) (hn : bs.length = n) (hmax : n < 2 ^ 40) (hm : m ≤ 8) (H : Q (.tuple #[.int .u64 (gv bs at1 m).toNat, .int .i64 (ge bs at1 m)]) h) :
    SpecH Tryd.prog 24 [.slice a n c, .int .i64 at1, .int .i64 m] h Q :=
  refGet_spec hr hn hmax hm (fun hb => by rw [(gv_bad hn hb).1, (gv_bad hn hb).2] at H; exact H) (fun j hj hk => by rw [(gv_ok hn hj hk).1, (gv_ok hn hj hk).2] at H; exact H)

theorem gets_spec {at1 : Int} (tab : Tab h) (hr : Rd h a (byV bs)) (hn : bs.length = n) (hnc : n ≤ c) (H : ∀ h', ExtB h.size h h' → Q (.bool true) h') : SpecH Tryd.prog 7 [.slice a n c, .int .i64 at1] h Q := by
  refine f7_door ?_
  unfold f7_main
  by_cases hm : n ≤ 16777216
  · refine br_false (small hm) ?_
    refine lent_spec hr hn (by omega) ?_
    intro h1 e1 s1 b1
    refine ⟨_, _, _, rfl, ?_⟩
    have r1 : Rd h1 (some ⟨h.size, 0, none⟩) (byV bs) := Rd.of_blk b1 (by rw [byV_app]; simp)
    refine get16_spec' r1 hn (by omega) (by omega) fun h2 e2 => ⟨_, _, rfl, ?_⟩
    refine get32_spec' (r1.keep e2) hn (by omega) (by omega) fun h3 e3' => ⟨_, _, rfl, ?_⟩
    have e3 := e2.trans (e3'.mono e2.1)
    refine get64_spec' (r1.keep e3) hn (by omega) (by omega) fun h4 e4' => ⟨_, _, rfl, ?_⟩
    have e4 := e3.trans (e4'.mono e3.1)
    have e40 := e1.trans (e4.mono e1.1)
    refine back_spec (b1.keep e4 (by omega)) (hr.keep e40) hn (by omega) ?_
    intro h5 k5 s5
    have e50 : ExtB h.size h h5 := e40.trans ⟨by omega, fun i hi => k5 i (by omega)⟩
    refine ⟨_, rfl, ?_⟩
    refine refGet_spec' (m := 2) (hr.keep e50) hn (by omega) (by omega) ⟨_, _, rfl, ?_⟩
    refine refGet_spec' (m := 4) (hr.keep e50) hn (by omega) (by omega) ⟨_, _, rfl, ?_⟩
    refine refGet_spec' (m := 8) (hr.keep e50) hn (by omega) (by omega) ⟨_, _, rfl, ?_⟩
    refine awake_spec (tab.keep e50) fun h6 e6' => ⟨_, rfl, br_true rfl (br_true rfl ?_)⟩
    simp only [wrap64b, gv2, gv4, beq_self_eq_true]
    exact br_true rfl (br_true rfl (br_true rfl (br_true rfl (br_true rfl (H h6 (e50.trans (e6'.mono e50.1)))))))
  · refine br_true (big hm) ?_
    exact awake_spec tab fun h' e => ⟨_, rfl, H h' e⟩

theorem round_spec {v : BitVec 64} (tab : Tab h) (hr : Rd h a (byV bs)) (hn : bs.length = n) (H : ∀ h', ExtB h.size h h' → Q (.bool true) h') : SpecH Tryd.prog 8 [.slice a n c, .int .u64 v.toNat] h Q := by
  refine f8_door ?_
  unfold f8_main
  by_cases hm : n ≤ 16777216
  · refine br_false (small hm) ?_
    simp only [wrap16, wrap32b]
    refine put16_spec hr hn (by omega) ?_
    intro h2 a2 c2 e2 o2 k2
    refine ⟨_, _, _, rfl, ?_⟩
    rw [Num.le2] at o2
    refine put32_spec o2.rd (by simp [hn, Num.le_len]) (by omega) ?_
    intro h3 a3 c3 e3' o3 k3
    have e3 := e2.trans (e3'.mono e2.1)
    refine ⟨_, _, _, rfl, ?_⟩
    rw [Num.le4] at o3
    refine put64_spec o3.rd (by simp [hn, Num.le_len]) (by omega) ?_
    intro h4 a4 c4 e4' o4 k4
    have e4 := e3.trans (e4'.mono e3.1)
    refine ⟨_, _, _, rfl, ?_⟩
    have hc4 := o4.2.1
    generalize hX : bs ++ Num.le 2 v ++ Num.le 4 v ++ Num.le 8 v = X at o4
    have hXl : X.length = n + 2 + 4 + 8 := by rw [← hX]; simp [hn, Num.le_len]
    have l2 := Num.le_len 2 v
    have l4 := Num.le_len 4 v
    have l8 := Num.le_len 8 v
    refine get16_spec (at1 := (n : Int)) o4.rd hXl hc4 (by omega) (fun hb => by omega) ?_
    intro j hj _ h5 e5'
    obtain rfl : j = n := by omega
    have e5 := e4.trans (e5'.mono e4.1)
    refine ⟨_, _, rfl, ?_⟩
    have tk : ∀ (k : Nat) (v : BitVec 64) (r : List (BitVec 8)), (Num.le k v ++ r).take k = Num.le k v := fun k v r => by
      have := List.take_left (l₁ := Num.le k v) (l₂ := r)
      rwa [Num.le_len] at this
    have t2 : (X.drop j).take 2 = Num.le 2 v := by
      rw [← hX, List.append_assoc, List.append_assoc, ← hn, List.drop_left, tk]
    rw [t2, Num.of_le2, show IntKind.i64.wrap ((j : Int) + 2) = ((j + 2 : Nat) : Int) from addN j 2 (by omega)]
    refine get32_spec (at1 := ((j + 2 : Nat) : Int)) (o4.rd.keep e5') hXl hc4 (by omega) (fun hb => by omega) ?_
    intro i hi _ h6 e6'
    obtain rfl : i = j + 2 := by omega
    have e56 := e5'.trans (e6'.mono e5'.1)
    refine ⟨_, _, rfl, ?_⟩
    have t4 : (X.drop (j + 2)).take 4 = Num.le 4 v := by
      have : j + 2 = (bs ++ Num.le 2 v).length := by simp [hn, l2]
      rw [← hX, List.append_assoc, this, List.drop_left, tk]
    rw [t4, Num.of_le4, show IntKind.i64.wrap ((j : Int) + 6) = ((j + 6 : Nat) : Int) from addN j 6 (by omega)]
    refine get64_spec (at1 := ((j + 6 : Nat) : Int)) (o4.rd.keep e56) hXl hc4 (by omega) (fun hb => by omega) ?_
    intro i hi _ h7 e7'
    obtain rfl : i = j + 6 := by omega
    have e57 := e56.trans (e7'.mono e56.1)
    refine ⟨_, _, rfl, ?_⟩
    have t8 : (X.drop (j + 6)).take 8 = Num.le 8 v := by
      have : j + 6 = (bs ++ Num.le 2 v ++ Num.le 4 v).length := by simp [hn, l2, l4]
      rw [← hX, this, List.drop_left, List.take_of_length_le (by omega)]
    rw [t8, Num.of_le8, show IntKind.i64.wrap ((j : Int) + 7) = ((j + 7 : Nat) : Int) from addN j 7 (by omega)]
    refine get64_spec (at1 := ((j + 7 : Nat) : Int)) (o4.rd.keep e57) hXl hc4 (by omega) ?_ (fun i hi hk => by omega)
    intro _ h8 e8'
    have e58 := e57.trans (e8'.mono e57.1)
    refine ⟨_, _, rfl, ?_⟩
    rw [show IntKind.i64.wrap ((j : Int) + 14) = ((j + 14 : Nat) : Int) from addN j 14 (by omega)]
    refine br_false (by simp; omega) ?_
    refine slice_rd E23 (o4.rd.keep e58) (by rw [byV_len, hXl]) hc4 (by exact trivial) (by exact trivial) (by simp [bnd]) (by simp [bnd]) (by simp [bnd]; omega) ?_
    intro a' ra' _
    refine ⟨_, _, _, rfl, ?_⟩
    have tX : X.take j = bs := by rw [← hX, List.append_assoc, List.append_assoc, ← hn, List.take_left]
    simp only [bnd, Int.toNat_natCast, Int.toNat_zero, Nat.sub_zero, List.drop_zero, byV_take, tX] at ra' ⊢
    have e80 := e4.trans (e58.mono e4.1)
    refine same_spec ra' (hr.keep e80) hn hn (by omega) ⟨_, rfl, ?_⟩
    rw [decide_eq_true rfl, f8_J111111101_eq]
    refine br_false rfl (awake_spec (tab.keep e80) fun h9 e9 => ⟨_, rfl, br_true rfl (br_true rfl (br_true rfl (br_true rfl (br_true rfl ?_))))⟩)
    simp only [wrap16, wrap32b, beq_self_eq_true]
    exact br_true rfl (br_true rfl (H h9 (e80.trans (e9.mono e80.1))))
  · refine br_true (big hm) ?_
    exact awake_spec tab fun h' e => ⟨_, rfl, H h' e⟩

/-! ### Small changes -/
theorem cancel8 {a x y : BitVec 8} (h : a ^^^ x = a ^^^ y) : x = y := by
  have := congrArg (a ^^^ ·) h
  simpa [← BitVec.xor_assoc] using this
theorem tells_loop {b at1 : Nat} {v : BitVec 32} {K : Ex → Fr → Heap → Prop} {h0 : Heap} {N c2 : Nat} (hN : N ≤ b) (hn : bs.length = n) (hmax : n < 2 ^ 40) (hat : at1 < n)
    (H : ∀ (k : Nat) (m' : List (BitVec 8)) (h' : Heap), k ≤ 4 → at1 + k ≤ n → m'.length = k → ExtB N h0 h' → Blk h' b 5 (byV (bs.take at1 ++ m' ++ bs.drop (at1 + k) ++ [99#8])) →
      K (.exit 0) (f5_X0 a n c (some ⟨b, 0, none⟩) n c2 (decide (m' ≠ (bs.drop at1).take k))) h') :
    ∀ (r k : Nat) (m' : List (BitVec 8)) (h : Heap), k + r = 4 → at1 + k ≤ n → m'.length = k → ExtB N h0 h → Blk h b 5 (byV (bs.take at1 ++ m' ++ bs.drop (at1 + k) ++ [99#8])) →
      f5_L1111010 (r + 1) a n c at1 v.toNat (some ⟨b, 0, none⟩) n c2 (decide (m' ≠ (bs.drop at1).take k)) k K h := by
  intro r
  induction r with
  | zero =>
    intro k m' h hk hl hm he hb
    rw [f5_L1111010_eq]
    exact br_false (by simp; omega) (H k m' h (by omega) hl hm he hb)
  | succ r ih =>
    intro k m' h hk hl hm he hb
    rw [f5_L1111010_eq]
    refine br_true (by simp; omega) ?_
    simp only [addN at1 k (by omega)]
    refine (br_iff _ _ _).2 ⟨fun hlt => ?_, fun _ => H k m' h (by omega) hl hm he hb⟩
    have hlt : at1 + k < n := by simp at hlt; omega
    have hlb : at1 + k < bs.length := by omega
    have e8 : IntKind.i64.wrap (8 * (k : Int)) = ((8 * k : Nat) : Int) := by rw [i64_id (by omega)]; simp
    have hcur : Rd h (some ⟨b, 0, none⟩) (byV (bs.take at1 ++ m' ++ bs.drop (at1 + k) ++ [99#8])) := Rd.of_blk hb (by simp)
    have hpl : (bs.take at1 ++ m').length = at1 + k := by simp [hm]; omega
    have hidx : at1 + k < (bs.take at1 ++ m' ++ bs.drop (at1 + k) ++ [99#8]).length := by simp [hm]; omega
    have hget : (bs.take at1 ++ m' ++ bs.drop (at1 + k) ++ [99#8])[((at1 + k : Nat) : Int).toNat]'(by rw [Int.toNat_natCast]; exact hidx) = bs[at1 + k] := by
      simp only [Int.toNat_natCast]
      have e : (bs.take at1 ++ m' ++ bs.drop (at1 + k) ++ [99#8])[at1 + k]? = some bs[at1 + k] := by
        rw [List.append_assoc, List.getElem?_append_right (by omega), hpl, Nat.sub_self, List.getElem?_append_left (by simp; omega)]
        simp [hlb]
      exact (List.getElem?_eq_some_iff.1 e).2
    refine rd_u8 E23 hcur (by omega) (by omega) (by rw [Int.toNat_natCast]; exact hidx) ?_
    rw [hget]
    simp only [e8, shr32, wrap8, xor8, Int.toNat_natCast]
    refine br_true (by simp; omega) ?_
    refine wr_at E23 hb (by omega) (by omega) (by rw [byV_len, Nat.zero_add, Int.toNat_natCast]; exact hidx) rfl ?_
    generalize hdv : (v >>> (8 * k)).setWidth 8 = dv
    have hset : (byV (bs.take at1 ++ m' ++ bs.drop (at1 + k) ++ [99#8])).set (0 + ((at1 + k : Nat) : Int).toNat) (.int .u8 (bs[at1 + k] ^^^ dv).toNat) = byV (bs.take at1 ++ (m' ++ [bs[at1 + k] ^^^ dv]) ++ bs.drop (at1 + (k + 1)) ++ [99#8]) := by
      rw [Nat.zero_add, Int.toNat_natCast, byV_set]
      congr 1
      rw [List.append_assoc, List.set_append_right _ _ (by omega), hpl, Nat.sub_self, ← List.getElem_cons_drop hlb]
      simp [Nat.add_assoc]
    rw [hset]
    have htake : (bs.drop at1).take (k + 1) = (bs.drop at1).take k ++ [bs[at1 + k]] := by
      have hl' : k < (bs.drop at1).length := by simp; omega
      rw [List.take_succ_eq_append_getElem hl']
      simp
    have next : ∀ ch : Bool, ch = decide (m' ++ [bs[at1 + k] ^^^ dv] ≠ (bs.drop at1).take (k + 1)) →
        f5_J1111010011 a n c at1 v.toNat (some ⟨b, 0, none⟩) n c2 ch k (r + 1) K (h.setIfInBounds b (.cells (byV (bs.take at1 ++ (m' ++ [bs[at1 + k] ^^^ dv]) ++ bs.drop (at1 + (k + 1)) ++ [99#8])).toArray 5 (0, 0))) := by
      rintro ch rfl
      rw [f5_J1111010011_eq]
      simp only [inc k (by omega)]
      exact ih (k + 1) _ _ (by omega) (by omega) (by simp [hm]) (he.trans (setB _ _ hN)) (Blk.set hb.lt _ _)
    have lens : m'.length = ((bs.drop at1).take k).length := by simp [hm]; omega
    have one : bs[at1 + k] ^^^ dv = bs[at1 + k] ↔ dv = 0 := by
      constructor
      · intro h0
        have : bs[at1 + k] ^^^ dv = bs[at1 + k] ^^^ 0 := by rw [h0]; simp
        exact cancel8 this
      · rintro rfl; simp
    refine (br_iff _ _ _).2 ⟨fun hc => next true ?_, fun hc => ?_⟩
    · have hne : m' ≠ (bs.drop at1).take k := by simpa using hc
      rw [htake]
      symm; rw [decide_eq_true_iff]
      intro heq
      exact hne (List.append_inj_left heq lens)
    · have heq : m' = (bs.drop at1).take k := by simpa using hc
      refine br_true (by simp; omega) (next _ ?_)
      rw [htake, ← heq]
      by_cases hz : dv = 0
      · subst hz; simp
      · have h1 : ((dv.toNat : Int) != 0) = true := by
          simp only [bne_iff_ne, ne_eq]
          intro h0; apply hz
          exact BitVec.eq_of_toNat_eq (by simp; omega)
        rw [h1]; symm; rw [decide_eq_true_iff]
        intro h0
        have := List.append_cancel_left h0
        simp only [List.cons.injEq, and_true] at this
        exact hz (one.1 this)

theorem tells_spec {at1 : Int} {v : BitVec 32} (tab : Tab h) (hr : Rd h a (byV bs)) (hn : bs.length = n) (hat : -9223372036854775808 ≤ at1) (H : ∀ h', ExtB h.size h h' → Q (.bool true) h') : SpecH Tryd.prog 5 [.slice a n c, .int .i64 at1, .int .u32 v.toNat] h Q := by
  refine f5_door ?_
  unfold f5_main
  have aw : f5_J101 a n c at1 v.toNat true Q h := by
    rw [f5_J101_eq]
    exact br_true rfl (awake_spec tab fun h' e => ⟨_, rfl, H h' e⟩)
  by_cases hm : n ≤ 16777216
  · refine br_false (small hm) ?_
    refine (br_iff _ _ _).2 ⟨fun _ => aw, fun h0 => (br_iff _ _ _).2 ⟨fun _ => aw, fun h1 => ?_⟩⟩
    have h0 : 0 ≤ at1 := by simpa using h0
    have h1 : at1 < n := by simpa using h1
    by_cases hv : ((v.toNat : Int) == 0) = true
    · rw [hv]; exact aw
    rw [Bool.not_eq_true] at hv
    rw [hv, f5_J101_eq]
    obtain ⟨p, rfl⟩ : ∃ p : Nat, at1 = p := ⟨at1.toNat, by omega⟩
    refine br_false rfl ?_
    refine lent_spec hr hn (by omega) ?_
    intro h1' e1 s1 b1
    refine ⟨_, _, _, rfl, ?_⟩
    refine ⟨4 + 1, ?_⟩
    have L := tells_loop (a := a) (c := c) (bs := bs) (n := n) (b := h.size) (at1 := p) (v := v) (h0 := h) (N := h.size) (c2 := n + 1) (K := f5_K111101 Q) (Nat.le_refl _) hn (by omega) (by omega) ?_ 4 0 [] h1' rfl (by omega) rfl e1 (by simpa using b1)
    · simpa using L
    intro k m' h2 hk hpk hml e2 b2
    rw [f5_at1111010_X0]
    refine awake_spec (tab.keep e2) fun h3 e3' => ⟨_, rfl, br_true rfl ?_⟩
    have e3 := e2.trans (e3'.mono e2.1)
    have r2 : Rd h2 (some ⟨h.size, 0, none⟩) (byV (bs.take p ++ m' ++ bs.drop (p + k))) := Rd.of_blk b2 (by rw [byV_app _ [99#8]]; simp)
    have lX : (bs.take p ++ m' ++ bs.drop (p + k)).length = n := by simp [hml]; omega
    refine sum_spec (tab.keep e3) (r2.keep e3') lX (by omega) ⟨_, rfl, ?_⟩
    refine sum_spec (tab.keep e3) (hr.keep e3) hn (by omega) ⟨_, rfl, ?_⟩
    have hb : bs = bs.take p ++ (bs.drop p).take k ++ bs.drop (p + k) := by
      rw [List.append_assoc, ← List.drop_drop, List.take_append_drop, List.take_append_drop]
    have key : (((Crc.sum (bs.take p ++ m' ++ bs.drop (p + k))).toNat : Int) == ((Crc.sum bs).toNat : Int)) = !decide (m' ≠ (bs.drop p).take k) := by
      have w := Crc.sum_window (p := bs.take p) (m := m') (m' := (bs.drop p).take k) (s := bs.drop (p + k)) (by simp [hml]; omega) (by omega)
      rw [← hb] at w
      by_cases he : m' = (bs.drop p).take k
      · rw [w.2 he]; simp [he]
      · have hne : Crc.sum (bs.take p ++ m' ++ bs.drop (p + k)) ≠ Crc.sum bs := fun h => he (w.1 h)
        have hd : decide (m' ≠ (bs.drop p).take k) = true := by simpa using he
        rw [hd]
        simp only [Bool.not_true, beq_eq_false_iff_ne, ne_eq]
        intro h0; exact hne (BitVec.eq_of_toNat_eq (by omega))
    simp only [key, beq_self_eq_true]
    exact H h3 e3
  · exact br_true (big hm) aw
end
end Go.Proofs.YthoicidmckkkhaaDoor
