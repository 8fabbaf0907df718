/- Contracts of package bits. -/
import Derived.Test.YtbkbipfcohmpcaaG
import Derived.Test.YtbkbipfcohmpcaaHwDig
set_option linter.unusedVariables false
set_option linter.unusedSimpArgs false
namespace Go.Proofs.Ytbkbipfcohmpcaa
open Go Go.HW

abbrev P_ (p : Nat) : Value := .pointer (some ⟨p, 0, none⟩)
/-- A writer in which len bits lie, the number N. -/
def Wr (p N len : Nat) : Assn := fun m => ∃ a n c, (n = (len + 7) / 8 ∧ N < 2 ^ len ∧ len ≤ 2 ^ 40) ∧ Sp [pt p T_bits_Writer [.slice a n c, .int .i64 len], own a n c T_uint8 1 (nV (dig N n))] m
theorem Wr_iff {h : Heap} {p N len : Nat} {L : List Assn} : Hs h (Wr p N len :: L) ↔ ∃ a n c, (n = (len + 7) / 8 ∧ N < 2 ^ len ∧ len ≤ 2 ^ 40) ∧ Hs h (pt p T_bits_Writer [.slice a n c, .int .i64 len] :: own a n c T_uint8 1 (nV (dig N n)) :: L) := by
  unfold Wr; simp only [Hs.ex, Hs.and, Hs.app, List.cons_append, List.nil_append]

theorem NewWriter_spec {h : Heap} {L : List Assn} {Q : Value → Heap → Prop} (H : Hs h L) (K : ∀ h' p, Hs h' (Wr p 0 0 :: L) → Q (P_ p) h') : SpecH PP F_bits_NewWriter [] h Q := by
  refine bits_NewWriter_door ?_
  unfold bits_NewWriter_main
  refine K _ h.size (Wr_iff.2 ⟨none, 0, 0, ⟨rfl, by simp, by omega⟩, ?_⟩)
  exact ((H.own_nil T_uint8 1).new)

theorem put_body {p N len n rest : Nat} {L : List Assn} {K : Ex → Fr → Heap → Prop} {h : Heap} {a : Option Addr} {c : Nat} (hN : N < 2 ^ len) (hn : 0 < n) (hn2 : n ≤ 32) (hr : rest < 2 ^ n) (hl : len + n ≤ 2 ^ 40)
    (H : Hs h (pt p T_bits_Writer [.slice a (len / 8 + 1) c, .int .i64 len] :: own a (len / 8 + 1) c T_uint8 1 (nV (dig N (len / 8) ++ [N / 256 ^ (len / 8)])) :: L))
    (kk : ∀ h' k, 0 < k → k ≤ n → Hs h' (Wr p (N + rest % 2 ^ k * 2 ^ len) (len + k) :: L) → bits_Writer_Put_L1011100 (some ⟨p, 0, none⟩) ((n - k : Nat) : Int) ((rest / 2 ^ k : Nat) : Int) K h') :
    bits_Writer_Put_J10111000011 (some ⟨p, 0, none⟩) n rest K h := by
  refine bits_Writer_Put_J10111000011_of ?_
  have c0 := H.cell (off := 0) rfl
  have c1 := H.cell (off := 1) rfl
  have own1 := H.m1.rd
  have hr64 : rest < 18446744073709551616 := Nat.lt_of_lt_of_le hr (Nat.le_trans (Nat.pow_le_pow_right (by decide) hn2) (by decide))
  obtain ⟨e1, e2, e3⟩ := dig_put (N := N) (len := len) (k := min n (8 - len % 8)) (x := rest % 2 ^ min n (8 - len % 8)) hN (by omega) (Nat.mod_lt _ (Nat.pow_pos (by decide)))
  generalize hk : min n (8 - len % 8) = k at *
  have e4 := Nat.lt_of_le_of_lt (Nat.le_add_left _ _) e3
  have e5 := Nat.lt_of_le_of_lt (Nat.le_add_right _ _) e3
  have hk8 : k ≤ 8 := by omega
  have hpk : 2 ^ k ≤ 256 := Nat.pow_le_pow_right (n := 2) (by decide) hk8
  have hx : rest % 2 ^ k < 2 ^ k := Nat.mod_lt _ (Nat.pow_pos (by decide))
  have w1 : (if IntKind.i64.wrap (8 - Int.tmod (len : Int) 8) < (n : Int) then IntKind.i64.wrap (8 - Int.tmod (len : Int) 8) else (n : Int)) = (k : Int) := by
    rw [show Int.tmod (len : Int) 8 = ((len % 8 : Nat) : Int) from tmod_n len 8, wrap_i64_z (by omega) (by omega)]; split <;> omega
  have w2 : IntKind.i64.wrap (((len / 8 + 1 : Nat) : Int) - 1) = ((len / 8 : Nat) : Int) := by rw [wrap_i64_z (by omega) (by omega)]; omega
  have w3 : bAnd .u64 (rest : Int) (IntKind.u64.wrap (sShl .u64 1 (k : Int) - 1)) = ((rest % 2 ^ k : Nat) : Int) := by
    rw [show sShl .u64 1 (k : Int) = ((1 * 2 ^ k % 18446744073709551616 : Nat) : Int) from shl_u64 (a := 1) (m := k) (by decide), Nat.one_mul, Nat.mod_eq_of_lt (by omega)]
    have : 0 < 2 ^ k := Nat.pow_pos (by decide)
    rw [show ((2 ^ k : Nat) : Int) - 1 = ((2 ^ k - 1 : Nat) : Int) by omega, wrap_u64_id (by omega), and_u64 hr64 (by omega), and_mask]
  have w4 : IntKind.u8.wrap ((rest % 2 ^ k : Nat) : Int) = ((rest % 2 ^ k : Nat) : Int) := wrap_u8_id (by omega)
  have w5 : sShl .u8 ((rest % 2 ^ k : Nat) : Int) (Int.tmod (len : Int) 8) = ((rest % 2 ^ k * 2 ^ (len % 8) : Nat) : Int) := by
    rw [show Int.tmod (len : Int) 8 = ((len % 8 : Nat) : Int) from tmod_n len 8, shl_u8 (by omega), Nat.mod_eq_of_lt e4]
  have w6 : bOr .u8 ((N / 256 ^ (len / 8) : Nat) : Int) ((rest % 2 ^ k * 2 ^ (len % 8) : Nat) : Int) = ((N / 256 ^ (len / 8) + rest % 2 ^ k * 2 ^ (len % 8) : Nat) : Int) := by
    rw [or_u8 e5 e4, or_add e2]
  refine ⟨_, c1, _, _, _, c0, _, _, _, c0, ?_⟩
  simp only [w1, w2, w3, w4]
  refine idx E_sl_uint8 own1 (by omega) (by omega) (v := .int .u8 ((N / 256 ^ (len / 8) : Nat) : Int)) (by rw [Int.toNat_natCast]; exact nV_at (dig_len _ _)) ?_
  intro t ht
  refine ⟨_, ht, br_true (by simp) ⟨_, c1, ?_⟩⟩
  simp only [w5, w6]
  refine br_true (by rw [show Int.tmod (len : Int) 8 = ((len % 8 : Nat) : Int) from tmod_n len 8]; exact decide_eq_true (Int.natCast_nonneg _)) ?_
  refine H.m1.idx_set E_sl_uint8 (by omega) (by omega) rfl ?_
  intro h3 H3
  refine br_true (by simp) ?_
  refine ⟨_, H3.m1.cell (off := 1) rfl, H3.m1.sto (off := 1) (by simp) ?_⟩
  intro h4 H4
  have w7 : IntKind.i64.wrap ((n : Int) - (k : Int)) = ((n - k : Nat) : Int) := by rw [wrap_i64_z (by omega) (by omega)]; omega
  have w8 : sShr .u64 (rest : Int) (k : Int) = ((rest / 2 ^ k : Nat) : Int) := shr_u64 hr64
  simp only [w7, w8]
  refine kk h4 k (by omega) (by omega) (Wr_iff.2 ⟨a, len / 8 + 1, c, ⟨by omega, lt_put hN hx, by omega⟩, ?_⟩)
  rw [e1]
  have w9 : IntKind.i64.wrap ((len : Int) + (k : Int)) = ((len + k : Nat) : Int) := by rw [wrap_i64_z (by omega) (by omega)]; omega
  simp only [w9, List.set_cons_succ, List.set_cons_zero] at H4
  rw [Int.toNat_natCast, nV_setat (dig_len _ _)] at H4
  exact H4

theorem put_loop {p : Nat} {L : List Assn} {K : Ex → Fr → Heap → Prop} : ∀ (d n : Nat), n ≤ d → ∀ {N len rest : Nat} {h : Heap}, n ≤ 32 → rest < 2 ^ n → len + n ≤ 2 ^ 40 → Hs h (Wr p N len :: L) →
    (∀ h', Hs h' (Wr p (N + rest * 2 ^ len) (len + n) :: L) → K (.exit 1) bits_Writer_Put_X1 h') → bits_Writer_Put_L1011100 (some ⟨p, 0, none⟩) n rest K h := by
  intro d
  induction d with
  | zero =>
    intro n hd N len rest h hn hr hl H kk
    obtain rfl : n = 0 := by omega
    obtain rfl : rest = 0 := by simpa using hr
    refine bits_Writer_Put_L1011100_of (br_true rfl (kk h ?_))
    simpa using H
  | succ d ih =>
    intro n hd N len rest h hn hr hl H kk
    rcases Nat.eq_zero_or_pos n with rfl | hn0
    · obtain rfl : rest = 0 := by simpa using hr
      refine bits_Writer_Put_L1011100_of (br_true rfl (kk h ?_))
      simpa using H
    have step : ∀ h' k, 0 < k → k ≤ n → Hs h' (Wr p (N + rest % 2 ^ k * 2 ^ len) (len + k) :: L) → bits_Writer_Put_L1011100 (some ⟨p, 0, none⟩) ((n - k : Nat) : Int) ((rest / 2 ^ k : Nat) : Int) K h' := by
      intro h' k h0 hk H'
      refine ih (n - k) (by omega) (by omega) ?_ (by omega) H' fun h2 H2 => kk h2 ?_
      · refine Nat.div_lt_of_lt_mul ?_
        rw [← Nat.pow_add, show k + (n - k) = n by omega]; exact hr
      · have e1 : N + rest % 2 ^ k * 2 ^ len + rest / 2 ^ k * 2 ^ (len + k) = N + rest * 2 ^ len := by
          conv => rhs; rw [← Nat.div_add_mod rest (2 ^ k)]
          rw [Nat.add_mul, Nat.pow_add, Nat.add_assoc, Nat.add_comm (rest % 2 ^ k * _)]
          congr 2
          rw [Nat.mul_comm (2 ^ k), Nat.mul_assoc, Nat.mul_comm (2 ^ len)]
        rw [e1, show len + k + (n - k) = len + n by omega] at H2
        exact H2
    refine bits_Writer_Put_L1011100_of ?_
    obtain ⟨a, m, c, ⟨rfl, hN, hlb⟩, H⟩ := Wr_iff.1 H
    refine br_false (by simp; omega) ⟨_, H.cell (off := 1) rfl, ?_⟩
    have e0 : (Int.tmod (len : Int) 8 == 0) = decide (len % 8 = 0) := by rw [show Int.tmod (len : Int) 8 = ((len % 8 : Nat) : Int) from tmod_n len 8, Bool.eq_iff_iff]; simp; omega
    have hd8 : dig N (len / 8 + 1) = dig N (len / 8) ++ [N / 256 ^ (len / 8)] := by
      have := (dig_put (N := N) (len := len) (k := 0) (x := 0) hN (by omega) (by simp)).1
      simpa using this
    refine (br_iff _ _ _).2 ⟨fun hb => ?_, fun hb => ?_⟩
    · rw [e0, decide_eq_true_eq] at hb
      refine ⟨_, _, _, H.cell (off := 0) rfl, ?_⟩
      refine H.m1.app_vals E_sl_uint8 (m := 1) (ys := [.int .u8 0]) rfl rfl (by simp [oneC]) ?_ (by omega) (by omega)
      intro h1 a1 c1 H1
      refine ⟨_, _, _, rfl, H1.m1.sto (off := 0) (by simp) ?_⟩
      intro h2 H2
      have e : dig N ((len + 7) / 8) ++ [0] = dig N (len / 8) ++ [N / 256 ^ (len / 8)] := by
        rw [show (len + 7) / 8 = len / 8 by omega, ← hd8]
        simp only [dig]; congr 2
        have : N / 256 ^ (len / 8) = 0 := Nat.div_eq_of_lt (by rw [pow256, show 8 * (len / 8) = len by omega]; exact hN)
        rw [this]
      have e2 : nV (dig N ((len + 7) / 8)) ++ [Value.int .u8 0] = nV (dig N (len / 8) ++ [N / 256 ^ (len / 8)]) := by rw [← e, nV_app]; rfl
      rw [e2] at H2
      rw [show (len + 7) / 8 + 1 = len / 8 + 1 by omega] at H2
      exact put_body hN hn0 hn hr hl H2 step
    · rw [e0, decide_eq_false_iff_not] at hb
      rw [show (len + 7) / 8 = len / 8 + 1 by omega, hd8] at H
      exact put_body hN hn0 hn hr hl H step

theorem Put_spec {p N len v n : Nat} {L : List Assn} {h : Heap} {Q : Value → Heap → Prop} (H : Hs h (Wr p N len :: L)) (hn : n ≤ 32) (hv : v < 2 ^ n) (hl : len + n ≤ 2 ^ 40)
    (kk : ∀ h', Hs h' (Wr p (N + v * 2 ^ len) (len + n) :: L) → Q (.int .i64 0) h') : SpecH PP F_bits_Writer_Put [P_ p, .int .u32 v, .int .i64 n] h Q := by
  have h32 : v < 4294967296 := Nat.lt_of_lt_of_le hv (Nat.pow_le_pow_right (n := 2) (by decide) hn : 2 ^ n ≤ 2 ^ 32)
  refine bits_Writer_Put_door ?_
  unfold bits_Writer_Put_main
  refine br_false rfl (br_false (decide_eq_false (by omega)) (br_false (decide_eq_false (by omega)) (br_true (by simp) (bits_Writer_Put_J1000111_of (br_false ?_ ?_)))))
  · rw [wrap_u64_id (by omega), shr_u64 (by omega), Nat.div_eq_of_lt hv]; rfl
  · simp only [wrap_u64_id (show v < 18446744073709551616 by omega)]
    refine put_loop n n (Nat.le_refl _) hn hv hl H fun h' H' => ?_
    rw [bits_Writer_Put_at1011100_X1]; exact kk h' H'
/-- What may not be put is refused. -/
theorem Put_bad {p v : Nat} {n : Int} {h : Heap} {Q : Value → Heap → Prop} (hv : v < 4294967296) (hb : ¬ (0 ≤ n ∧ n ≤ 32 ∧ v < 2 ^ n.toNat))
    (kk : Q (.int .i64 1) h) : SpecH PP F_bits_Writer_Put [P_ p, .int .u32 v, .int .i64 n] h Q := by
  refine bits_Writer_Put_door ?_
  unfold bits_Writer_Put_main
  refine br_false rfl ?_
  refine (br_iff _ _ _).2 ⟨fun _ => bits_Writer_Put_J1000111_of (br_true rfl kk), fun h1 => ?_⟩
  refine (br_iff _ _ _).2 ⟨fun _ => bits_Writer_Put_J1000111_of (br_true rfl kk), fun h2 => ?_⟩
  simp only [decide_eq_false_iff_not] at h1 h2
  refine br_true (by simp; omega) (bits_Writer_Put_J1000111_of (br_true ?_ kk))
  obtain ⟨m, rfl⟩ := Int.eq_ofNat_of_zero_le (show 0 ≤ n by omega)
  rw [wrap_u64_id (by omega), shr_u64 (by omega)]
  have : ¬ v < 2 ^ m := fun hlt => hb ⟨by omega, by omega, by simpa using hlt⟩
  have : v / 2 ^ m ≠ 0 := fun e => this ((Nat.div_eq_zero_iff_lt (Nat.pow_pos (by decide))).1 e)
  exact bne_iff_ne.2 fun e => this (Int.ofNat.inj e)
theorem Put_nil {v : Nat} {n : Int} {h : Heap} {Q : Value → Heap → Prop} (kk : Q (.int .i64 3) h) : SpecH PP F_bits_Writer_Put [.pointer none, .int .u32 v, .int .i64 n] h Q :=
  bits_Writer_Put_door (by unfold bits_Writer_Put_main; exact br_true rfl kk)
theorem WAlign_spec {p N len : Nat} {L : List Assn} {h : Heap} {Q : Value → Heap → Prop} (H : Hs h (Wr p N len :: L)) (hl : len + 8 ≤ 2 ^ 40)
    (kk : ∀ h', Hs h' (Wr p N ((len + 7) / 8 * 8) :: L) → Q (.int .i64 0) h') : SpecH PP F_bits_Writer_Align [P_ p] h Q := by
  refine bits_Writer_Align_door ?_
  unfold bits_Writer_Align_main
  obtain ⟨a, m, c, ⟨rfl, hN, hlb⟩, H⟩ := Wr_iff.1 H
  refine br_false rfl ⟨_, _, _, H.cell (off := 0) rfl, H.sto (off := 1) (by simp) fun h1 H1 => kk h1 (Wr_iff.2 ⟨a, (len + 7) / 8, c, ⟨by omega, ?_, by omega⟩, ?_⟩)⟩
  · exact Nat.lt_of_lt_of_le hN (Nat.pow_le_pow_right (by decide) (by omega))
  · have e : IntKind.i64.wrap (8 * (((len + 7) / 8 : Nat) : Int)) = (((len + 7) / 8 * 8 : Nat) : Int) := by rw [wrap_i64_z (by omega) (by omega)]; omega
    simp only [e, List.set_cons_succ, List.set_cons_zero] at H1
    exact H1
theorem Len_spec {p N len : Nat} {L : List Assn} {h : Heap} {Q : Value → Heap → Prop} (H : Hs h (Wr p N len :: L)) (kk : Q (.int .i64 len) h) : SpecH PP F_bits_Writer_Len [P_ p] h Q := by
  refine bits_Writer_Len_door ?_
  unfold bits_Writer_Len_main
  obtain ⟨a, m, c, ⟨rfl, hN, hlb⟩, H⟩ := Wr_iff.1 H
  exact br_false rfl ⟨_, H.cell (off := 1) rfl, kk⟩
theorem Bytes_spec {p N len : Nat} {L : List Assn} {h : Heap} {Q : Value → Heap → Prop} (H : Hs h (Wr p N len :: L))
    (kk : ∀ h' b, Hs h' (own (some ⟨b, 0, none⟩) ((len + 7) / 8) ((len + 7) / 8) T_uint8 1 (nV (dig N ((len + 7) / 8))) :: Wr p N len :: L) → Q (.slice (some ⟨b, 0, none⟩) ((len + 7) / 8) ((len + 7) / 8)) h') : SpecH PP F_bits_Writer_Bytes [P_ p] h Q := by
  refine bits_Writer_Bytes_door ?_
  unfold bits_Writer_Bytes_main
  obtain ⟨a, m, c, ⟨rfl, hN, hlb⟩, H⟩ := Wr_iff.1 H
  refine br_false rfl ⟨_, _, _, H.cell (off := 0) rfl, ?_⟩
  refine H.make E_sl_uint8 rfl rfl (Nat.le_refl _) (by omega) (by omega) fun h1 b H1 => ⟨_, _, _, rfl, ⟨_, _, _, H1.m1.cell (off := 0) rfl, ?_⟩⟩
  have ol := H1.m2.own_len
  have hr := H1.m2.rd
  refine H1.copy E_sl_uint8 (by simp; omega) hr (fun e => H1.m2.Own.none_zero e) (by simp; omega) (nV_one _) fun h2 H2 => ⟨_, rfl, ?_⟩
  have e : List.take 0 (List.replicate ((len + 7) / 8) (Value.int IntKind.u8 0)) ++ nV (dig N ((len + 7) / 8)) ++ List.drop (0 + (nV (dig N ((len + 7) / 8))).length) (List.replicate ((len + 7) / 8) (Value.int IntKind.u8 0)) = nV (dig N ((len + 7) / 8)) := by
    simp [nV_len, dig_len]
  rw [e] at H2
  refine kk h2 b ?_
  have H3 := H2.pt_all (n := (len + 7) / 8) (by simp [nV_len, dig_len])
  exact (Wr_iff.2 ⟨a, _, c, ⟨rfl, hN, hlb⟩, H3.r2⟩).m1

/-! ### Readers -/
/-- A reader of bytes, at a bit. -/
def Rr (p : Nat) (bs : List Nat) (at_ : Nat) : Assn := fun m => ∃ a n c, (n = bs.length ∧ (∀ x ∈ bs, x < 256) ∧ n ≤ 2 ^ 36 ∧ at_ ≤ 8 * n) ∧ Sp [pt p T_bits_Reader [.slice a n c, .int .i64 at_], own a n c T_uint8 1 (nV bs)] m
theorem Rr_iff {h : Heap} {p at_ : Nat} {bs : List Nat} {L : List Assn} : Hs h (Rr p bs at_ :: L) ↔ ∃ a n c, (n = bs.length ∧ (∀ x ∈ bs, x < 256) ∧ n ≤ 2 ^ 36 ∧ at_ ≤ 8 * n) ∧ Hs h (pt p T_bits_Reader [.slice a n c, .int .i64 at_] :: own a n c T_uint8 1 (nV bs) :: L) := by
  unfold Rr; simp only [Hs.ex, Hs.and, Hs.app, List.cons_append, List.nil_append]
theorem NewReader_spec {h : Heap} {L : List Assn} {a : Option Addr} {n c : Nat} {bs : List Nat} {Q : Value → Heap → Prop} (H : Hs h L) (hr : Rd h a (nV bs)) (hn : bs.length = n) (hn0 : a = none → n = 0) (hb : ∀ x ∈ bs, x < 256) (hmax : n ≤ 2 ^ 36)
    (kk : ∀ h' p, Hs h' (Rr p bs 0 :: L) → Q (P_ p) h') : SpecH PP F_bits_NewReader [.slice a n c] h Q := by
  refine bits_NewReader_door ?_
  unfold bits_NewReader_main
  refine bits_Reader_More_door ?_
  unfold bits_Reader_More_main
  have H1 : Hs (h.push (.cells #[.slice none 0 0, .int .i64 0] T_bits_Reader (0, 0))) _ := H.new
  refine br_false rfl ⟨_, _, _, H1.cell (off := 0) rfl, ?_⟩
  have H2 := H1.own_nil T_uint8 1
  refine H2.app_sl E_sl_uint8 (hr.ext (Ext.push _ _)) (by rw [nV_len]; omega) hn0 (nV_one _) ?_ (by omega) (by omega)
  intro h1 a1 c1 H3
  refine ⟨_, _, _, rfl, H3.m1.sto (off := 0) (by simp) fun h2 H4 => ⟨_, rfl, kk _ _ (Rr_iff.2 ⟨a1, n, c1, ⟨hn.symm, hb, hmax, by omega⟩, ?_⟩)⟩⟩
  rw [Nat.zero_add] at H4
  exact H4
theorem Left_spec {p at_ : Nat} {bs : List Nat} {L : List Assn} {h : Heap} {Q : Value → Heap → Prop} (H : Hs h (Rr p bs at_ :: L)) (kk : Q (.int .i64 ((8 * bs.length - at_ : Nat) : Int)) h) : SpecH PP F_bits_Reader_Left [P_ p] h Q := by
  refine bits_Reader_Left_door ?_
  unfold bits_Reader_Left_main
  obtain ⟨a, n, c, ⟨rfl, hb, hn, hat⟩, H⟩ := Rr_iff.1 H
  refine br_false rfl ⟨_, _, _, H.cell (off := 0) rfl, _, H.cell (off := 1) rfl, ?_⟩
  have e : IntKind.i64.wrap (IntKind.i64.wrap (8 * (bs.length : Int)) - (at_ : Int)) = ((8 * bs.length - at_ : Nat) : Int) := by
    rw [wrap_i64_z (z := 8 * (bs.length : Int)) (by omega) (by omega), wrap_i64_z (by omega) (by omega)]; omega
  simp only [e]; exact kk
theorem Gone_spec {p at_ : Nat} {bs : List Nat} {L : List Assn} {h : Heap} {Q : Value → Heap → Prop} (H : Hs h (Rr p bs at_ :: L)) (kk : Q (.int .i64 at_) h) : SpecH PP F_bits_Reader_Gone [P_ p] h Q := by
  refine bits_Reader_Gone_door ?_
  unfold bits_Reader_Gone_main
  obtain ⟨a, n, c, ⟨rfl, hb, hn, hat⟩, H⟩ := Rr_iff.1 H
  exact br_false rfl ⟨_, H.cell (off := 1) rfl, kk⟩
theorem Back_spec {p at_ n : Nat} {bs : List Nat} {L : List Assn} {h : Heap} {Q : Value → Heap → Prop} (H : Hs h (Rr p bs at_ :: L)) (hn : n ≤ at_) (kk : ∀ h', Hs h' (Rr p bs (at_ - n) :: L) → Q (.int .i64 0) h') : SpecH PP F_bits_Reader_Back [P_ p, .int .i64 n] h Q := by
  refine bits_Reader_Back_door ?_
  unfold bits_Reader_Back_main
  obtain ⟨a, k, c, ⟨rfl, hb, hk, hat⟩, H⟩ := Rr_iff.1 H
  refine br_false rfl (br_false (decide_eq_false (by omega)) ⟨_, H.cell (off := 1) rfl, bits_Reader_Back_J100111_of (br_false (decide_eq_false (by omega)) ⟨_, H.cell (off := 1) rfl, H.sto (off := 1) (by simp) fun h1 H1 => kk h1 (Rr_iff.2 ⟨a, _, c, ⟨rfl, hb, hk, by omega⟩, ?_⟩)⟩)⟩)
  have e : IntKind.i64.wrap ((at_ : Int) - (n : Int)) = ((at_ - n : Nat) : Int) := by rw [wrap_i64_z (by omega) (by omega)]; omega
  simp only [e, List.set_cons_succ, List.set_cons_zero] at H1
  exact H1
theorem take_loop {p at0 : Nat} {bs : List Nat} {L : List Assn} {n : Nat} {K : Ex → Fr → Heap → Prop} (hn : n ≤ 32) (hl : at0 + n ≤ 8 * bs.length) : ∀ (d have_ : Nat), n - have_ ≤ d → have_ ≤ n → ∀ {h : Heap}, Hs h (Rr p bs (at0 + have_) :: L) →
    (∀ h', Hs h' (Rr p bs (at0 + n) :: L) → K (.exit 1) (bits_Reader_Take_X1 ((val bs / 2 ^ at0 % 2 ^ n : Nat) : Int)) h') →
    bits_Reader_Take_L111010 (some ⟨p, 0, none⟩) n ((val bs / 2 ^ at0 % 2 ^ have_ : Nat) : Int) have_ K h := by
  intro d
  induction d with
  | zero =>
    intro v hd hv h H kk
    obtain rfl : v = n := by omega
    exact bits_Reader_Take_L111010_of (br_false (decide_eq_false (by omega)) (kk h H))
  | succ d ih =>
    intro v hd hv h H kk
    rcases Nat.lt_or_ge v n with hlt | hge
    · refine bits_Reader_Take_L111010_of (br_true (decide_eq_true (by omega)) ?_)
      obtain ⟨a, m, c, ⟨rfl, hb, hm, hat⟩, H⟩ := Rr_iff.1 H
      have c0 := H.cell (off := 0) rfl
      have c1 := H.cell (off := 1) rfl
      generalize hA : at0 + v = A at *
      have t8 : Int.tmod (A : Int) 8 = ((A % 8 : Nat) : Int) := tmod_n A 8
      have d8 : Int.tdiv (A : Int) 8 = ((A / 8 : Nat) : Int) := tdiv_n A 8
      generalize hk : min (n - v) (8 - A % 8) = k
      have hk8 : k ≤ 8 := by omega
      have hpk : 2 ^ k ≤ 256 := Nat.pow_le_pow_right (n := 2) (by decide) hk8
      have hp0 : 0 < 2 ^ k := Nat.pow_pos (by decide)
      have hq : A / 8 < bs.length := by omega
      have hbq : bs[A / 8] < 256 := hb _ (List.getElem_mem hq)
      have w1 : (if IntKind.i64.wrap (8 - Int.tmod (A : Int) 8) < IntKind.i64.wrap ((n : Int) - (v : Int)) then IntKind.i64.wrap (8 - Int.tmod (A : Int) 8) else IntKind.i64.wrap ((n : Int) - (v : Int))) = (k : Int) := by
        rw [t8, wrap_i64_z (by omega) (by omega), wrap_i64_z (by omega) (by omega)]; split <;> omega
      have w2 : IntKind.i64.wrap (Int.tdiv (A : Int) 8) = ((A / 8 : Nat) : Int) := by rw [d8, wrap_i64_z (by omega) (by omega)]
      have w3 : bAnd .u8 (sShr .u8 (bs[A / 8] : Nat) (Int.tmod (A : Int) 8)) (IntKind.u8.wrap (sShl .u8 1 (k : Int) - 1)) = ((val bs / 2 ^ at0 / 2 ^ v % 2 ^ k : Nat) : Int) := by
        rw [t8, shr_u8 hbq, show sShl .u8 1 (k : Int) = ((1 * 2 ^ k % 256 : Nat) : Int) from shl_u8 (a := 1) (m := k) (by decide), Nat.one_mul]
        have hdv : bs[A / 8] / 2 ^ (A % 8) < 256 := Nat.lt_of_le_of_lt (Nat.div_le_self _ _) hbq
        have hmask : IntKind.u8.wrap (((2 ^ k % 256 : Nat) : Int) - 1) = ((2 ^ k - 1 : Nat) : Int) := by
          rcases Nat.lt_or_ge (2 ^ k) 256 with h1 | h1
          · rw [Nat.mod_eq_of_lt h1, show ((2 ^ k : Nat) : Int) - 1 = ((2 ^ k - 1 : Nat) : Int) by omega, wrap_u8_id (by omega)]
          · rw [show 2 ^ k = 256 by omega]; rfl
        rw [hmask, and_u8 hdv (by omega), and_mask, val_get hb hq, part_eq (by omega), ← hA, Nat.pow_add, Nat.div_div_eq_div_mul]
      have hpart : val bs / 2 ^ at0 / 2 ^ v % 2 ^ k < 2 ^ k := Nat.mod_lt _ hp0
      have hvp : 2 ^ (v + k) ≤ 2 ^ 32 := Nat.pow_le_pow_right (n := 2) (by decide) (by omega)
      have hlow : val bs / 2 ^ at0 % 2 ^ v < 2 ^ v := Nat.mod_lt _ (Nat.pow_pos (by decide))
      have hsum := join_eq (val bs / 2 ^ at0) v k
      have hbig : val bs / 2 ^ at0 / 2 ^ v % 2 ^ k * 2 ^ v < 18446744073709551616 := by
        have : val bs / 2 ^ at0 % 2 ^ (v + k) < 2 ^ (v + k) := Nat.mod_lt _ (Nat.pow_pos (by decide))
        omega
      have w4 : bOr .u64 ((val bs / 2 ^ at0 % 2 ^ v : Nat) : Int) (sShl .u64 (IntKind.u64.wrap ((val bs / 2 ^ at0 / 2 ^ v % 2 ^ k : Nat) : Int)) (v : Int)) = ((val bs / 2 ^ at0 % 2 ^ (v + k) : Nat) : Int) := by
        have hv32 : 2 ^ v ≤ 2 ^ 32 := Nat.pow_le_pow_right (n := 2) (by decide) (by omega)
        rw [wrap_u64_id (by omega), shl_u64 (by omega), Nat.mod_eq_of_lt hbig, or_u64 (by omega) hbig, or_add hlow, hsum]
      refine ⟨_, c1, _, _, _, c0, _, c1, ?_⟩
      simp only [w1, w2]
      refine idx E_sl_uint8 H.m1.rd (by omega) (by omega) (v := .int .u8 (bs[A / 8] : Nat)) (by rw [Int.toNat_natCast]; exact nV_get hq) fun t ht => ?_
      refine ⟨_, ht, _, c1, br_true (by rw [t8]; exact decide_eq_true (Int.natCast_nonneg _)) (br_true (decide_eq_true (Int.natCast_nonneg _)) (br_true (decide_eq_true (Int.natCast_nonneg _)) ⟨_, c1, H.sto (off := 1) (by simp) fun h1 H1 => ?_⟩))⟩
      have w5 : IntKind.i64.wrap ((A : Int) + (k : Int)) = ((A + k : Nat) : Int) := by rw [wrap_i64_z (by omega) (by omega)]; omega
      have w6 : IntKind.i64.wrap ((v : Int) + (k : Int)) = ((v + k : Nat) : Int) := by rw [wrap_i64_z (by omega) (by omega)]; omega
      simp only [w3, w4, w6]
      simp only [w5, List.set_cons_succ, List.set_cons_zero] at H1
      refine ih (v + k) (by omega) (by omega) (Rr_iff.2 ⟨a, _, c, ⟨rfl, hb, hm, by omega⟩, ?_⟩) kk
      rw [show at0 + (v + k) = A + k by omega]; exact H1
    · obtain rfl : v = n := by omega
      exact bits_Reader_Take_L111010_of (br_false (decide_eq_false (by omega)) (kk h H))
theorem Take_spec {p at_ n : Nat} {bs : List Nat} {L : List Assn} {h : Heap} {Q : Value → Heap → Prop} (H : Hs h (Rr p bs at_ :: L)) (hn : n ≤ 32) (hl : at_ + n ≤ 8 * bs.length)
    (kk : ∀ h', Hs h' (Rr p bs (at_ + n) :: L) → Q (.tuple #[.int .u32 ((val bs / 2 ^ at_ % 2 ^ n : Nat) : Int), .int .i64 0]) h') : SpecH PP F_bits_Reader_Take [P_ p, .int .i64 n] h Q := by
  refine bits_Reader_Take_door ?_
  unfold bits_Reader_Take_main
  refine br_false rfl (br_false (decide_eq_false (by omega)) (bits_Reader_Take_J100111_of (br_false (decide_eq_false (by omega)) ?_)))
  refine Left_spec H ⟨_, rfl, br_false (decide_eq_false (by omega)) ?_⟩
  have := take_loop (K := bits_Reader_Take_K11101 Q) hn hl n 0 (by omega) (Nat.zero_le _) (by simpa using H) fun h' H' => by
    rw [bits_Reader_Take_at111010_X1]
    have : val bs / 2 ^ at_ % 2 ^ n < 2 ^ n := Nat.mod_lt _ (Nat.pow_pos (by decide))
    have : 2 ^ n ≤ 2 ^ 32 := Nat.pow_le_pow_right (n := 2) (by decide) hn
    simp only [wrap_u32_id (show val bs / 2 ^ at_ % 2 ^ n < 4294967296 by omega)]
    exact kk h' H'
  simpa [Nat.mod_one] using this
theorem Take_end {p at_ n : Nat} {bs : List Nat} {L : List Assn} {h : Heap} {Q : Value → Heap → Prop} (H : Hs h (Rr p bs at_ :: L)) (hn : n ≤ 32) (hl : 8 * bs.length - at_ < n)
    (kk : Q (.tuple #[.int .u32 0, .int .i64 10]) h) : SpecH PP F_bits_Reader_Take [P_ p, .int .i64 n] h Q := by
  refine bits_Reader_Take_door ?_
  unfold bits_Reader_Take_main
  refine br_false rfl (br_false (decide_eq_false (by omega)) (bits_Reader_Take_J100111_of (br_false (decide_eq_false (by omega)) ?_)))
  exact Left_spec H ⟨_, rfl, br_true (decide_eq_true (by omega)) kk⟩
end Go.Proofs.Ytbkbipfcohmpcaa
