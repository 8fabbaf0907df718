/- Contracts of the document's answer for bits: lists of bits. -/
import Derived.Test.YtbkbipfcohmpcaaKeep
set_option linter.unusedVariables false
set_option linter.unusedSimpArgs false
namespace Go.Proofs.Ytbkbipfcohmpcaa
open Go Go.HW
/-- The number of a list of bits. -/
def numb : List Nat → Nat
  | [] => 0
  | b :: l => b + 2 * numb l
def bitsN : Nat → Nat → List Nat
  | 0, _ => []
  | k + 1, v => v % 2 :: bitsN k (v / 2)
theorem bitsN_len (k v : Nat) : (bitsN k v).length = k := by induction k generalizing v with | zero => rfl | succ k ih => simp [bitsN, ih]
theorem bitsN_lt {k v x : Nat} (h : x ∈ bitsN k v) : x < 2 := by
  induction k generalizing v with
  | zero => simp [bitsN] at h
  | succ k ih =>
    simp only [bitsN, List.mem_cons] at h
    rcases h with rfl | h
    · omega
    · exact ih h
theorem numb_app (l m : List Nat) : numb (l ++ m) = numb l + 2 ^ l.length * numb m := by
  induction l with
  | nil => simp [numb]
  | cons b l ih => simp only [List.cons_append, numb, ih, List.length_cons, Nat.pow_succ, Nat.mul_add]; rw [Nat.mul_comm (2 ^ l.length) 2, Nat.mul_assoc]; omega
theorem numb_bitsN {k v : Nat} (h : v < 2 ^ k) : numb (bitsN k v) = v := by
  induction k generalizing v with
  | zero => simp at h; subst h; rfl
  | succ k ih => simp only [bitsN, numb]; rw [ih (by rw [Nat.pow_succ] at h; omega)]; omega
theorem numb_zeros (k : Nat) : numb (List.replicate k 0) = 0 := by induction k with | zero => rfl | succ k ih => simp [List.replicate_succ, numb, ih]
theorem numb_lt {l : List Nat} (h : ∀ x ∈ l, x < 2) : numb l < 2 ^ l.length := by
  induction l with
  | nil => simp [numb]
  | cons b l ih =>
    have := h b (by simp)
    have := ih fun x hx => h x (by simp [hx])
    simp only [numb, List.length_cons, Nat.pow_succ]; omega
theorem numb_part {l : List Nat} (h : ∀ x ∈ l, x < 2) (i j : Nat) : numb ((l.drop i).take j) = numb l / 2 ^ i % 2 ^ j := by
  have e1 : ∀ (l : List Nat), (∀ x ∈ l, x < 2) → ∀ i, numb (l.drop i) = numb l / 2 ^ i := by
    intro l hl i
    rcases Nat.lt_or_ge i l.length with hi | hi
    · have e : numb l = numb (l.take i) + 2 ^ i * numb (l.drop i) := by
        conv => lhs; rw [← List.take_append_drop i l]
        rw [numb_app, List.length_take, Nat.min_eq_left (Nat.le_of_lt hi)]
      have hlt : numb (l.take i) < 2 ^ i := by
        have := numb_lt (l := l.take i) fun x hx => hl x (List.mem_of_mem_take hx)
        rwa [List.length_take, Nat.min_eq_left (Nat.le_of_lt hi)] at this
      rw [e, Nat.add_mul_div_left _ _ (Nat.pow_pos (by decide)), Nat.div_eq_of_lt hlt, Nat.zero_add]
    · rw [List.drop_of_length_le hi, Nat.div_eq_of_lt (Nat.lt_of_lt_of_le (numb_lt hl) (Nat.pow_le_pow_right (by decide) hi))]; rfl
  have e2 : ∀ (l : List Nat), (∀ x ∈ l, x < 2) → ∀ i, numb (l.take i) = numb l % 2 ^ i := by
    intro l hl i
    rcases Nat.lt_or_ge i l.length with hi | hi
    · have e : numb l = numb (l.take i) + 2 ^ i * numb (l.drop i) := by
        conv => lhs; rw [← List.take_append_drop i l]
        rw [numb_app, List.length_take, Nat.min_eq_left (Nat.le_of_lt hi)]
      have hlt : numb (l.take i) < 2 ^ i := by
        have := numb_lt (l := l.take i) fun x hx => hl x (List.mem_of_mem_take hx)
        rwa [List.length_take, Nat.min_eq_left (Nat.le_of_lt hi)] at this
      rw [e, Nat.add_mul_mod_self_left, Nat.mod_eq_of_lt hlt]
    · rw [List.take_of_length_le hi, Nat.mod_eq_of_lt (Nat.lt_of_lt_of_le (numb_lt hl) (Nat.pow_le_pow_right (by decide) hi))]
  rw [e2 _ (fun x hx => h x (List.mem_of_mem_drop hx)), e1 l h]

theorem may_loop {n : Nat} {K : Ex → Fr → Heap → Prop} {h : Heap} (hn : n ≤ 32) : ∀ (k i v : Nat), i + k = n → v < 4294967296 → K (.exit 0) (ref01_May_X0 ((v / 2 ^ k : Nat) : Int)) h → ref01_May_L11010 v n i K h := by
  intro k
  induction k with
  | zero => intro i v hi hv kk; exact ref01_May_L11010_of (br_false (decide_eq_false (by omega)) (by simpa using kk))
  | succ k ih =>
    intro i v hi hv kk
    refine ref01_May_L11010_of (br_true (decide_eq_true (by omega)) ?_)
    have e : IntKind.u32.wrap (Int.tdiv (v : Int) 2) = ((v / 2 : Nat) : Int) := by rw [show Int.tdiv (v : Int) 2 = ((v / 2 : Nat) : Int) from tdiv_n v 2, wrap_u32_id (by omega)]
    simp only [e, inc (show i < 2 ^ 62 by omega)]
    refine ih (i + 1) (v / 2) (by omega) (by omega) ?_
    rw [Nat.div_div_eq_div_mul, ← Nat.pow_succ']; exact kk
theorem may_spec {v : Nat} {n : Int} {h : Heap} {Q : Value → Heap → Prop} (hv : v < 4294967296) (kk : Q (.bool (decide (0 ≤ n ∧ n ≤ 32 ∧ v < 2 ^ n.toNat))) h) : SpecH PP F_ref01_May [.int .u32 v, .int .i64 n] h Q := by
  refine ref01_May_door ?_
  unfold ref01_May_main
  refine (br_iff _ _ _).2 ⟨fun h1 => ref01_May_J101_of (br_true rfl ?_), fun h1 => ?_⟩
  · rwa [decide_eq_false (by rintro ⟨h2, _⟩; simp only [decide_eq_true_eq] at h1; omega)] at kk
  simp only [decide_eq_false_iff_not] at h1
  refine ref01_May_J101_of ((br_iff _ _ _).2 ⟨fun h2 => ?_, fun h2 => ?_⟩)
  · simp only [decide_eq_true_eq] at h2
    rwa [decide_eq_false (by rintro ⟨_, h3, _⟩; omega)] at kk
  · simp only [decide_eq_false_iff_not] at h2
    obtain ⟨m, rfl⟩ := Int.eq_ofNat_of_zero_le (show 0 ≤ n by omega)
    refine may_loop (by omega) m 0 v (by omega) hv ?_
    rw [ref01_May_at11010_X0]
    have e : (((v / 2 ^ m : Nat) : Int) == 0) = decide (0 ≤ (m : Int) ∧ (m : Int) ≤ 32 ∧ v < 2 ^ (m : Int).toNat) := by
      rw [Bool.eq_iff_iff, beq_iff_eq, decide_eq_true_eq, Int.toNat_natCast]
      rw [show (((v / 2 ^ m : Nat) : Int) = 0) ↔ v / 2 ^ m = 0 by omega, Nat.div_eq_zero_iff_lt (Nat.pow_pos (by decide))]
      exact ⟨fun h => ⟨by omega, by omega, h⟩, fun h => h.2.2⟩
    simp only [e]; exact kk
theorem rput_loop {n : Nat} {L : List Assn} {K : Ex → Fr → Heap → Prop} (hn : n ≤ 32) : ∀ (k i v : Nat) {l : List Nat} {a : Option Addr} {m c : Nat} {h : Heap}, i + k = n → v < 4294967296 → m + k ≤ 2 ^ 41 → Hs h (own a m c T_uint8 1 (nV l) :: L) →
    (∀ h' a' c', Hs h' (own a' (m + k) c' T_uint8 1 (nV (l ++ bitsN k v)) :: L) → K (.exit 0) (ref01_Put_X0 a' (m + k) c') h') → ref01_Put_L1010 a m c v n i K h := by
  intro k
  induction k with
  | zero => intro i v l a m c h hi hv hm H kk; exact ref01_Put_L1010_of (br_false (decide_eq_false (by omega)) (kk h a c (by simpa [bitsN] using H)))
  | succ k ih =>
    intro i v l a m c h hi hv hm H kk
    refine ref01_Put_L1010_of (br_true (decide_eq_true (by omega)) ?_)
    have e : IntKind.u32.wrap (Int.tdiv (v : Int) 2) = ((v / 2 : Nat) : Int) := by rw [show Int.tdiv (v : Int) 2 = ((v / 2 : Nat) : Int) from tdiv_n v 2, wrap_u32_id (by omega)]
    have e2 : IntKind.u8.wrap (Int.tmod (v : Int) 2) = ((v % 2 : Nat) : Int) := by rw [show Int.tmod (v : Int) 2 = ((v % 2 : Nat) : Int) from tmod_n v 2, wrap_u8_id (by omega)]
    simp only [e, e2, inc (show i < 2 ^ 62 by omega)]
    refine H.app_vals E_sl_uint8 (m := 1) (ys := nV [v % 2]) rfl rfl (nV_one _) (fun h1 a1 c1 H1 => ⟨_, _, _, rfl, ?_⟩) (by omega) (by omega)
    rw [← nV_app] at H1
    refine ih (i + 1) (v / 2) (by omega) (by omega) (by omega) H1 fun h2 a2 c2 H2 => ?_
    rw [show m + 1 + k = m + (k + 1) by omega] at H2 ⊢
    exact kk h2 a2 c2 (by simpa [bitsN] using H2)
theorem rput_spec {n m v c : Nat} {l : List Nat} {a : Option Addr} {L : List Assn} {h : Heap} {Q : Value → Heap → Prop} (H : Hs h (own a m c T_uint8 1 (nV l) :: L)) (hn : n ≤ 32) (hv : v < 4294967296) (hm : m + 32 ≤ 2 ^ 40)
    (kk : ∀ h' a' c', Hs h' (own a' (m + n) c' T_uint8 1 (nV (l ++ bitsN n v)) :: L) → Q (.slice a' (m + n) c') h') : SpecH PP F_ref01_Put [.slice a m c, .int .u32 v, .int .i64 n] h Q := by
  refine ref01_Put_door ?_
  unfold ref01_Put_main
  refine rput_loop hn n 0 v (by omega) hv (by omega) H fun h' a' c' H' => ?_
  rw [ref01_Put_at1010_X0]; exact kk h' a' c' H'
theorem ralign_loop {L : List Assn} {K : Ex → Fr → Heap → Prop} : ∀ (d : Nat) {m c : Nat} {l : List Nat} {a : Option Addr} {h : Heap}, m % 8 = 0 ∧ d = 0 ∨ m % 8 + d = 8 ∧ 0 < m % 8 → m + d ≤ 2 ^ 41 → Hs h (own a m c T_uint8 1 (nV l) :: L) →
    (∀ h' a' c', Hs h' (own a' (m + d) c' T_uint8 1 (nV (l ++ List.replicate d 0)) :: L) → K (.exit 0) (ref01_Align_X0 a' (m + d) c') h') → ref01_Align_L100 a m c K h := by
  intro d
  induction d with
  | zero =>
    intro m c l a h hd hm H kk
    refine ref01_Align_L100_of (br_false ?_ (kk h a c (by simpa using H)))
    rw [show Int.tmod (m : Int) 8 = ((m % 8 : Nat) : Int) from tmod_n m 8]; simp; omega
  | succ d ih =>
    intro m c l a h hd hm H kk
    refine ref01_Align_L100_of (br_true ?_ ?_)
    · rw [show Int.tmod (m : Int) 8 = ((m % 8 : Nat) : Int) from tmod_n m 8]; exact bne_iff_ne.2 (by omega)
    refine H.app_vals E_sl_uint8 (m := 1) (ys := nV [0]) rfl rfl (nV_one _) (fun h1 a1 c1 H1 => ⟨_, _, _, rfl, ?_⟩) (by omega) (by omega)
    rw [← nV_app] at H1
    refine ih (by omega) (by omega) H1 fun h2 a2 c2 H2 => ?_
    rw [show m + 1 + d = m + (d + 1) by omega] at H2 ⊢
    exact kk h2 a2 c2 (by simpa [List.replicate_succ] using H2)
theorem ralign_spec {m c : Nat} {l : List Nat} {a : Option Addr} {L : List Assn} {h : Heap} {Q : Value → Heap → Prop} (H : Hs h (own a m c T_uint8 1 (nV l) :: L)) (hm : m + 8 ≤ 2 ^ 41)
    (kk : ∀ h' a' c' d, m + d = (m + 7) / 8 * 8 → Hs h' (own a' (m + d) c' T_uint8 1 (nV (l ++ List.replicate d 0)) :: L) → Q (.slice a' (m + d) c') h') : SpecH PP F_ref01_Align [.slice a m c] h Q := by
  refine ref01_Align_door ?_
  unfold ref01_Align_main
  refine ralign_loop ((m + 7) / 8 * 8 - m) (by omega) (by omega) H fun h' a' c' H' => ?_
  rw [ref01_Align_at100_X0]; exact kk h' a' c' _ (by omega) H'

theorem rbytes_in {a o : Option Addr} {m c on oc : Nat} {l : List Nat} {K : Ex → Fr → Heap → Prop} {h : Heap} (hr : Rd h a (nV l)) (hl : l.length = m) (hm : m ≤ 2 ^ 41) (h2 : ∀ x ∈ l, x < 2) {i : Nat} (hi : i < m)
    (kk : K (.exit 2) (ref01_Bytes_X2 a m c o on oc i ((numb l / 2 ^ i % 2 ^ 8 : Nat) : Int)) h) : ∀ (d j : Nat), j + d = 8 → i + j ≤ m → ref01_Bytes_L11010010011010 a m c o on oc i ((numb ((l.drop i).take j) : Nat) : Int) ((2 ^ j : Nat) : Int) ((i + j : Nat) : Int) K h := by
  have fin : ∀ j, j = 8 ∨ i + j = m ∧ j ≤ 8 → numb ((l.drop i).take j) = numb l / 2 ^ i % 2 ^ 8 := by
    rintro j (rfl | ⟨hj, hj8⟩)
    · exact numb_part h2 i 8
    · rw [← numb_part h2 i 8, List.take_of_length_le (by simp; omega), List.take_of_length_le (by simp; omega)]
  intro d
  induction d with
  | zero =>
    intro j hj hij
    refine ref01_Bytes_L11010010011010_of (br_false (decide_eq_false ?_) ?_)
    · rw [wrap_i64_z (by omega) (by omega)]; omega
    · rw [fin j (.inl (by omega))]; exact kk
  | succ d ih =>
    intro j hj hij
    refine ref01_Bytes_L11010010011010_of (br_true (decide_eq_true ?_) ?_)
    · rw [wrap_i64_z (by omega) (by omega)]; omega
    rcases Nat.lt_or_ge (i + j) m with hlt | hge
    · have hlt' : i + j < l.length := by omega
      refine br_true (decide_eq_true (by omega)) ?_
      refine idx E_sl_uint8 hr (by omega) (by omega) (v := .int .u8 (l[i + j] : Nat)) (by rw [Int.toNat_natCast]; exact nV_get hlt') fun t ht => ⟨_, ht, ?_⟩
      have hb := h2 _ (List.getElem_mem hlt')
      have hp : 2 ^ j ≤ 2 ^ 8 := Nat.pow_le_pow_right (n := 2) (by decide) (by omega)
      have hn : numb ((l.drop i).take j) < 2 ^ j := by rw [numb_part h2]; exact Nat.mod_lt _ (Nat.pow_pos (by decide))
      have hle : l[i + j] * 2 ^ j ≤ 2 ^ j := by rcases (show l[i + j] = 0 ∨ l[i + j] = 1 by omega) with e | e <;> rw [e] <;> omega
      have es : numb ((l.drop i).take (j + 1)) = numb ((l.drop i).take j) + l[i + j] * 2 ^ j := by
        have hd : j < (l.drop i).length := by simp; omega
        rw [List.take_succ_eq_append_getElem hd, numb_app]
        simp only [numb, List.length_take, Nat.min_eq_left (Nat.le_of_lt hd), List.getElem_drop, Nat.mul_zero, Nat.add_zero]
        rw [Nat.mul_comm]
      have w1 : IntKind.i64.wrap (l[i + j] : Nat) = ((l[i + j] : Nat) : Int) := wrap_i64_z (by omega) (by omega)
      have w2 : IntKind.i64.wrap (((l[i + j] : Nat) : Int) * ((2 ^ j : Nat) : Int)) = ((l[i + j] * 2 ^ j : Nat) : Int) := by rw [← Int.natCast_mul, wrap_i64_z (by omega) (by omega)]
      have w3 : IntKind.i64.wrap (((numb ((l.drop i).take j) : Nat) : Int) + ((l[i + j] * 2 ^ j : Nat) : Int)) = ((numb ((l.drop i).take (j + 1)) : Nat) : Int) := by rw [es, wrap_i64_z (by omega) (by omega)]; omega
      have w4 : IntKind.i64.wrap (2 * ((2 ^ j : Nat) : Int)) = ((2 ^ (j + 1) : Nat) : Int) := by rw [Nat.pow_succ, wrap_i64_z (by omega) (by omega)]; omega
      simp only [w1, w2, w3, w4, inc (show i + j < 2 ^ 62 by omega)]
      exact ih (j + 1) (by omega) (by omega)
    · refine br_false (decide_eq_false (by omega)) ?_
      rw [fin j (.inr ⟨by omega, by omega⟩)]; exact kk
theorem rbytes_loop {a : Option Addr} {m c : Nat} {l : List Nat} {L : List Assn} {K : Ex → Fr → Heap → Prop} (hr : Gv L a (nV l)) (hl : l.length = m) (hm : m ≤ 2 ^ 41) (h2 : ∀ x ∈ l, x < 2)
    (kk : ∀ h' o oc, Hs h' (own o ((m + 7) / 8) oc T_uint8 1 (nV (dig (numb l) ((m + 7) / 8))) :: L) → K (.exit 0) (ref01_Bytes_X0 o ((m + 7) / 8) oc) h') :
    ∀ (d q : Nat) {o : Option Addr} {oc : Nat} {h : Heap}, q + d = (m + 7) / 8 → Hs h (own o q oc T_uint8 1 (nV (dig (numb l) q)) :: L) → ref01_Bytes_L11010 a m c o q oc ((8 * q : Nat) : Int) K h := by
  intro d
  induction d with
  | zero =>
    intro q o oc h hq H
    obtain rfl : q = (m + 7) / 8 := by omega
    exact ref01_Bytes_L11010_of (br_false (decide_eq_false (by omega)) (kk h o oc H))
  | succ d ih =>
    intro q o oc h hq H
    refine ref01_Bytes_L11010_of (br_true (decide_eq_true (by omega)) ?_)
    have hin := rbytes_in (c := c) (o := o) (on := q) (oc := oc) (K := ref01_Bytes_K1101001001101 K) (hr h H.tl) hl hm h2 (i := 8 * q) (by omega) ?_ 8 0 (by omega) (by omega)
    · simpa [numb] using hin
    rw [ref01_Bytes_at11010010011010_X2]
    have hb : numb l / 2 ^ (8 * q) % 2 ^ 8 < 256 := Nat.mod_lt _ (by decide)
    simp only [wrap_u8_id hb]
    refine H.app_vals E_sl_uint8 (m := 1) (ys := nV [numb l / 2 ^ (8 * q) % 2 ^ 8]) rfl rfl (nV_one _) (fun h1 a1 c1 H1 => ⟨_, _, _, rfl, ?_⟩) (by omega) (by omega)
    rw [← nV_app] at H1
    have e : dig (numb l) q ++ [numb l / 2 ^ (8 * q) % 2 ^ 8] = dig (numb l) (q + 1) := by rw [← pow256]; rfl
    rw [e] at H1
    have w : IntKind.i64.wrap (((8 * q : Nat) : Int) + 8) = ((8 * (q + 1) : Nat) : Int) := by rw [wrap_i64_z (by omega) (by omega)]; omega
    simp only [w]
    exact ih (q + 1) (by omega) H1
theorem rbytes_spec {a : Option Addr} {m c : Nat} {l : List Nat} {L : List Assn} {h : Heap} {Q : Value → Heap → Prop} (H : Hs h L) (hr : Gv L a (nV l)) (hl : l.length = m) (hm : m ≤ 2 ^ 41) (h2 : ∀ x ∈ l, x < 2)
    (kk : ∀ h' o oc, Hs h' (own o ((m + 7) / 8) oc T_uint8 1 (nV (dig (numb l) ((m + 7) / 8))) :: L) → Q (.slice o ((m + 7) / 8) oc) h') : SpecH PP F_ref01_Bytes [.slice a m c] h Q := by
  refine ref01_Bytes_door ?_
  unfold ref01_Bytes_main
  refine rbytes_loop (c := c) hr hl hm h2 (fun h' o oc H' => ?_) ((m + 7) / 8) 0 (by omega) (H.own_nil T_uint8 1)
  rw [ref01_Bytes_at11010_X0]; exact kk h' o oc H'
end Go.Proofs.Ytbkbipfcohmpcaa
