/- Tokens: what they cost. -/
import Derived.Test.YtaolpeimlkpkbaaExp
set_option linter.unusedVariables false
set_option linter.unusedSimpArgs false
namespace Go.Proofs.Ytaolpeimlkpkbaa
open Go Go.HW
variable {h : Heap} {L : List Assn} {Q : Value → Heap → Prop}
def bitsF : Nat → Int → Int → Int
  | 0, _, _ => 0
  | f + 1, n, e => if n > e then 1 + bitsF f n (2 * e) else 0
def lenB (n : Int) : Int := if n ≤ 10 ∨ n = 258 then 0 else if n ≤ 18 then 1 else if n ≤ 34 then 2 else if n ≤ 66 then 3 else if n ≤ 130 then 4 else 5
def distB (d : Int) : Int := bitsF 14 d 4
def costT (t : Tok) : Int := if t.len = 0 then (if t.lit < 144 then 8 else 9) else 12 + lenB t.len + distB t.dist + (if t.len ≥ 115 then 1 else 0)
def costs (l : List Tok) : Int := (l.map costT).sum
def costAll (l : List Tok) : Int × Int := if ckGo l 0 = 0 then (costs l, 0) else (0, ckGo l 0)
theorem bitsF_le : ∀ (f : Nat) (n e : Int), 0 ≤ bitsF f n e ∧ bitsF f n e ≤ f
  | 0, n, e => by simp [bitsF]
  | f + 1, n, e => by
    have := bitsF_le f n (2 * e)
    rw [bitsF]; split <;> omega
theorem lenB_le (n : Int) : 0 ≤ lenB n ∧ lenB n ≤ 5 := by
  unfold lenB
  repeat' split
  all_goals omega
theorem le_two {e : Int} (he : 0 < e) (g : Nat) : e ≤ e * 2 ^ g := by
  have h1 : (1 : Int) ≤ 2 ^ g := by exact_mod_cast Nat.one_le_two_pow
  have := Int.mul_le_mul_of_nonneg_left h1 (show 0 ≤ e by omega)
  omega
theorem lenB_bits {n : Int} (h : 3 ≤ n) (h2 : n < 258) : bitsF 14 (n - 2) 8 = lenB n := by
  unfold lenB
  simp only [bitsF]
  repeat' split
  all_goals omega
theorem costT_le (t : Tok) : 8 ≤ costT t ∧ costT t ≤ 40 := by
  have := lenB_le t.len; have := bitsF_le 14 t.dist 4
  unfold costT distB; repeat' split
  all_goals omega
def good (t : Tok) : Prop := (t.len = 0 ∧ t.dist = 0) ∨ (t.lit = 0 ∧ 3 ≤ t.len ∧ t.len ≤ 258 ∧ 1 ≤ t.dist ∧ t.dist ≤ 32768)
theorem ck_good : ∀ {l : List Tok} {s : Nat}, s ≤ 16384 → ckGo l s = 0 → s + l.length ≤ 16384 ∧ ∀ t ∈ l, good t
  | [], s, hs, _ => ⟨by simpa using hs, by simp⟩
  | t :: l, s, hs, h => by
    rw [ckGo] at h
    split at h
    · cases h
    · rename_i hm
      have hm : may t s = true := by simpa using hm
      split at h
      · cases h
      · have h1 := one_le hm
        have := ck_good (by omega) h
        refine ⟨by simp only [List.length_cons]; omega, fun u hu => ?_⟩
        rcases List.mem_cons.1 hu with rfl | hu
        · rcases may_len hm with h | h
          · exact .inl h
          · exact .inr (by omega)
        · exact this.2 u hu
theorem costs_take {l : List Tok} {i : Nat} (hi : i < l.length) : costs (l.take (i + 1)) = costs (l.take i) + costT l[i] := by
  unfold costs
  rw [List.take_succ_eq_append_getElem hi, List.map_append, List.sum_append]
  simp
theorem costs_le : ∀ (l : List Tok), 0 ≤ costs l ∧ costs l ≤ 40 * l.length
  | [] => by simp [costs]
  | t :: l => by
    have := costs_le l; have := costT_le t
    unfold costs at *
    simp only [List.map_cons, List.sum_cons, List.length_cons]
    omega
/-! Walks. -/
theorem extra_hs {n first : Int} (hf : 0 < first) (hb : n ≤ first * 2 ^ 13) (hb2 : first ≤ 1000) (H : Hs h L) (k : ∀ h', Hs h' L → Q (.int .i64 (bitsF 14 n first)) h') : SpecH PP F_match_extra [.int .i64 n, .int .i64 first] h Q := by
  refine match_extra.door ?_
  have go : ∀ (f : Nat) (b e : Int) {h : Heap}, 0 < e → e * 2 ^ f ≤ 10000000 → n ≤ e * 2 ^ f → 0 ≤ b → b + f ≤ 13 → b + bitsF (f + 1) n e = bitsF 14 n first → Hs h L → match_extra.L1 n b e (match_extra.K1 Q) h := by
    intro f
    induction f with
    | zero =>
      intro b e h he he2 hn hb0 hbf hE H
      rw [bitsF, if_neg (by omega)] at hE
      refine match_extra.L1_of (br_false (decide_eq_false (by omega)) (match_extra.L1_X0 ?_))
      rw [Int.add_zero] at hE
      exact hE ▸ k h H
    | succ f ih =>
      intro b e h he he2 hn hb0 hbf hE H
      refine match_extra.L1_of ?_
      rw [bitsF] at hE
      refine (br_iff _ _ _).2 ⟨fun e1 => ?_, fun e1 => match_extra.L1_X0 ?_⟩
      · have e1 := of_decide_eq_true e1
        rw [if_pos e1] at hE
        have h14 := le_two he (f + 1)
        dsimp only
        rw [wrapI (by omega) (by omega), wrapI (by omega) (by omega)]
        rw [Int.pow_succ, ← Int.mul_assoc, Int.mul_right_comm] at hn he2
        exact ih (b + 1) (e * 2) (by omega) he2 hn (by omega) (by omega) (by rw [Int.mul_comm e 2]; omega) H
      · have e1 := of_decide_eq_false e1
        rw [if_neg e1, Int.add_zero] at hE
        exact hE ▸ k h H
  exact go 13 0 first hf (by omega) hb (by omega) (by omega) (Int.zero_add _) H
theorem distBits_hs {d : Int} (hb : d ≤ 32768) (H : Hs h L) (k : ∀ h', Hs h' L → Q (.int .i64 (distB d)) h') : SpecH PP F_ref06_distBits [.int .i64 d] h Q := by
  refine ref06_distBits.door ?_
  have go : ∀ (f : Nat) (b e : Int) {h : Heap}, 0 < e → e * 2 ^ f ≤ 10000000 → d ≤ e * 2 ^ f → 0 ≤ b → b + f ≤ 13 → b + bitsF (f + 1) d e = distB d → Hs h L → ref06_distBits.L1 d b e (ref06_distBits.K1 Q) h := by
    intro f
    induction f with
    | zero =>
      intro b e h he he2 hn hb0 hbf hE H
      rw [bitsF, if_neg (by omega)] at hE
      refine ref06_distBits.L1_of (br_false (decide_eq_false (by omega)) (ref06_distBits.L1_X0 ?_))
      rw [Int.add_zero] at hE
      exact hE ▸ k h H
    | succ f ih =>
      intro b e h he he2 hn hb0 hbf hE H
      refine ref06_distBits.L1_of ?_
      rw [bitsF] at hE
      refine (br_iff _ _ _).2 ⟨fun e1 => ?_, fun e1 => ref06_distBits.L1_X0 ?_⟩
      · have e1 := of_decide_eq_true e1
        rw [if_pos e1] at hE
        have h14 := le_two he (f + 1)
        dsimp only
        rw [wrapI (by omega) (by omega), wrapI (by omega) (by omega)]
        rw [Int.pow_succ, ← Int.mul_assoc, Int.mul_right_comm] at hn he2
        rw [Int.mul_comm 2 e]
        exact ih (b + 1) (e * 2) (by omega) he2 hn (by omega) (by omega) (by rw [Int.mul_comm e 2]; omega) H
      · have e1 := of_decide_eq_false e1
        rw [if_neg e1, Int.add_zero] at hE
        exact hE ▸ k h H
  exact go 13 0 4 (by omega) (by omega) (by omega) (by omega) (by omega) (Int.zero_add _) H
theorem lenBits_pure (n : Int) : PureAt PP F_ref06_lenBits [.int .i64 n] (.int .i64 (lenB n)) := by
  intro h
  refine ref06_lenBits.door ?_
  have fin : ∀ b : Bool, decide (n ≤ 10 ∨ n = 258) = b → ref06_lenBits.J1 n b (fun r h' => r = .int .i64 (lenB n) ∧ h' = h) h := by
    intro b e
    refine ref06_lenBits.J1_of ?_
    unfold lenB
    refine (br_iff _ _ _).2 ⟨fun e1 => ?_, fun e1 => (br_iff _ _ _).2 ⟨fun e2 => ?_, fun e2 => (br_iff _ _ _).2 ⟨fun e3 => ?_, fun e3 => (br_iff _ _ _).2 ⟨fun e4 => ?_, fun e4 => (br_iff _ _ _).2 ⟨fun e5 => ?_, fun e5 => ?_⟩⟩⟩⟩⟩
    all_goals subst e; simp only [decide_eq_true_eq, decide_eq_false_iff_not] at *
    · rw [if_pos e1]; exact ⟨rfl, by simp⟩
    all_goals rw [if_neg e1]
    · rw [if_pos e2]; exact ⟨rfl, by simp⟩
    all_goals rw [if_neg e2]
    · rw [if_pos e3]; exact ⟨rfl, by simp⟩
    all_goals rw [if_neg e3]
    · rw [if_pos e4]; exact ⟨rfl, by simp⟩
    all_goals rw [if_neg e4]
    · rw [if_pos e5]; exact ⟨rfl, by simp⟩
    · rw [if_neg e5]; exact ⟨rfl, by simp⟩
  refine (br_iff _ _ _).2 ⟨fun e => fin true (decide_eq_true (.inl (of_decide_eq_true e))), fun e => fin _ ?_⟩
  have e := of_decide_eq_false e
  apply Bool.eq_iff_iff.2
  simp; omega
theorem Cost_hs {a : OA} {n c : Nat} {l : List Tok} (hr : Gv L a (l.flatMap tokV)) (hn : l.length = n) (hn2 : n < 2 ^ 61) (H : Hs h L)
    (k : ∀ h', Hs h' L → Q (.tuple #[.int .i64 (costAll l).1, .int .i64 (costAll l).2]) h') : SpecH PP F_match_Cost [.slice a n c] h Q := by
  refine match_Cost.door (Check_hs hr hn hn2 H fun h1 H1 => ⟨_, rfl, ?_⟩)
  unfold costAll at k
  refine (br_iff _ _ _).2 ⟨fun e => ?_, fun e => ?_⟩
  · rw [if_neg (by simpa using e)] at k; exact k h1 H1
  have e0 : ckGo l 0 = 0 := by simpa using e
  rw [if_pos e0] at k
  have ⟨hlen, hg⟩ := ck_good (by omega) e0
  have go : ∀ (r i : Nat) {h : Heap}, r + i = n → Hs h L → match_Cost.L1 (costs (l.take i)) a n c (n : Int) (i : Int) (match_Cost.K1 Q) h := by
    intro r
    induction r with
    | zero =>
      intro i h hi H
      refine match_Cost.L1_of (br_false (decide_eq_false (by omega)) (match_Cost.L1_X0 ?_))
      rw [List.take_of_length_le (by omega)]
      exact k h H
    | succ r ih =>
      intro i h hi H
      refine match_Cost.L1_of ?_
      dsimp only
      refine br_true (decide_eq_true (by omega)) ?_
      have hc := costs_take (l := l) (i := i) (by omega)
      have hcl := costs_le (l.take i)
      rw [List.length_take] at hcl
      have hgi := hg l[i] (by simp)
      have ht2 := costT_le l[i]
      refine idxf E_sl_api_Token (φ := tokV) (l := l) (x := l[i]) (hr _ H) tokV_len (by omega) (by omega) (by omega) (by simp) fun t ht => ⟨_, _, _, ht, ?_⟩
      refine Hs.wrs (b := Array.size h) (xs := [.int .u8 0, .int .i64 0, .int .i64 0]) H.new (fun h3 H3 => ?_)
      generalize Array.size h = x at H3 ⊢
      generalize l[i] = t at H3 hc hgi ht2 ⊢
      generalize costs (l.take i) = s at hc hcl ⊢
      have two : ∀ {s2 : Int} {h : Heap}, s2 = s + costT t → Hs h L → match_Cost.J2 s2 a n c (n : Int) (i : Int) (match_Cost.K1 Q) h := fun {s2 h} e H => by
        refine match_Cost.J2_of ?_
        dsimp only
        rw [wrapI (by omega) (by omega), e, ← hc]
        exact ih (i + 1) (by omega) H
      have fin : ∀ b : Bool, decide (t.len = 0 ∧ t.lit < 144) = b → match_Cost.J1 s ⟨x, 0, none⟩ a n c (n : Int) (i : Int) b (match_Cost.K1 Q) h3 := by
        rintro b rfl
        refine match_Cost.J1_of ((br_iff _ _ _).2 ⟨fun e => ?_, fun e => ⟨_, H3.cell (off := 1) rfl, (br_iff _ _ _).2 ⟨fun e2 => ?_, fun e2 => ⟨_, H3.cell (off := 1) rfl, ?_⟩⟩⟩⟩)
        · have e := of_decide_eq_true e
          dsimp only
          rw [wrapI (by omega) (by omega)]
          exact two (by rw [costT, if_pos e.1, if_pos e.2]) H3.tl
        · have e := of_decide_eq_false e
          have e2 : t.len = 0 := by simpa using e2
          dsimp only
          rw [wrapI (by omega) (by omega)]
          exact two (by rw [costT, if_pos e2, if_neg (by omega)]) H3.tl
        · have e2 : t.len ≠ 0 := by simpa using e2
          have hgi : 3 ≤ t.len ∧ t.len ≤ 258 ∧ 1 ≤ t.dist ∧ t.dist ≤ 32768 := by rcases hgi with h | h <;> omega
          have hd := bitsF_le 14 t.dist 4
          have hl := lenB_le t.len
          have three : ∀ {s2 : Int} , s2 = s + (if t.len ≥ 115 then 1 else 0) → match_Cost.J3 s2 ⟨x, 0, none⟩ a n c (n : Int) (i : Int) (match_Cost.K1 Q) h3 := fun {s2} e => by
            have hs2 : 0 ≤ s2 ∧ s2 ≤ s + 1 := by split at e <;> omega
            refine match_Cost.J3_of ⟨_, H3.cell (off := 2) rfl, extra_hs (by omega) (by omega) (by omega) H3 fun h4 H4 => ⟨_, rfl, ?_⟩⟩
            dsimp only
            rw [wrapI (x := 12 + bitsF 14 t.dist 4) (by omega) (by omega), wrapI (x := s2 + _) (by omega) (by omega)]
            refine ⟨_, H4.cell (off := 1) rfl, (br_iff _ _ _).2 ⟨fun e3 => ⟨_, H4.cell (off := 1) rfl, ?_⟩, fun e3 => ?_⟩⟩
            · have e3 := of_decide_eq_true e3
              rw [wrapI (by omega) (by omega)]
              refine extra_hs (by omega) (by omega) (by omega) H4 fun h5 H5 => ⟨_, rfl, ?_⟩
              rw [lenB_bits hgi.1 e3, wrapI (by omega) (by omega)]
              exact two (by rw [costT, if_neg e2, distB, e]; omega) H5.tl
            · have e3 := of_decide_eq_false e3
              have : lenB t.len = 0 := by unfold lenB; rw [if_pos (by omega)]
              exact two (by rw [costT, if_neg e2, distB, e]; omega) H4.tl
          refine (br_iff _ _ _).2 ⟨fun e3 => ?_, fun e3 => ?_⟩
          · dsimp only
            rw [wrapI (by omega) (by omega)]
            exact three (by rw [if_pos (of_decide_eq_true e3)])
          · exact three (by rw [if_neg (of_decide_eq_false e3)]; omega)
      refine ⟨_, H3.cell (off := 1) rfl, (br_iff _ _ _).2 ⟨fun e1 => ⟨_, H3.cell (off := 0) rfl, fin _ ?_⟩, fun e1 => fin false ?_⟩⟩
      · apply decide_eq_decide.2; have e1 : t.len = 0 := by simpa using e1
        omega
      · apply decide_eq_false; have e1 : t.len ≠ 0 := by simpa using e1
        omega
  exact go n 0 (by omega) H1
theorem RCost_hs {a : OA} {n c : Nat} {l : List Tok} (hr : Gv L a (l.flatMap tokV)) (hn : l.length = n) (hn2 : n < 2 ^ 61) (H : Hs h L)
    (k : ∀ h', Hs h' L → Q (.tuple #[.int .i64 (costAll l).1, .int .i64 (costAll l).2]) h') : SpecH PP F_ref06_Cost [.slice a n c] h Q := by
  refine ref06_Cost.door (RCheck_hs hr hn hn2 H fun h1 H1 => ⟨_, rfl, ?_⟩)
  unfold costAll at k
  refine (br_iff _ _ _).2 ⟨fun e => ?_, fun e => ?_⟩
  · rw [if_neg (by simpa using e)] at k; exact k h1 H1
  have e0 : ckGo l 0 = 0 := by simpa using e
  rw [if_pos e0] at k
  have ⟨hlen, hg⟩ := ck_good (by omega) e0
  have go : ∀ (r i : Nat) {h : Heap}, r + i = n → Hs h L → ref06_Cost.L1 a n c (costs (l.take i)) (i : Int) (ref06_Cost.K1 Q) h := by
    intro r
    induction r with
    | zero =>
      intro i h hi H
      refine ref06_Cost.L1_of (br_false (decide_eq_false (by omega)) (ref06_Cost.L1_X0 ?_))
      rw [List.take_of_length_le (by omega)]
      exact k h H
    | succ r ih =>
      intro i h hi H
      refine ref06_Cost.L1_of ?_
      dsimp only
      refine br_true (decide_eq_true (by omega)) ?_
      have hc := costs_take (l := l) (i := i) (by omega)
      have hcl := costs_le (l.take i)
      rw [List.length_take] at hcl
      have hgi := hg l[i] (by simp)
      have ht2 := costT_le l[i]
      have look : ∀ {h : Heap} {R : Addr → Heap → Prop}, Hs h L → (∀ t, rdCells h t 0 (tokV l[i]) → R t h) → hwp PP (Instr.indexAt T_sl_api_Token (.slice a n c) (.int .i64 (i : Int))) (fun u h1 => ∃ t, u = .pointer (some t) ∧ R t h1) h := fun {h R} H K =>
        idxf E_sl_api_Token (φ := tokV) (l := l) (x := l[i]) (hr _ H) tokV_len (by omega) (by omega) (by omega) (by simp) K
      generalize l[i] = t at look hc hgi ht2 ⊢
      generalize costs (l.take i) = s at hc hcl ⊢
      have two : ∀ {s2 : Int} {h : Heap}, s2 = s + costT t → Hs h L → ref06_Cost.J2 a n c s2 (i : Int) (ref06_Cost.K1 Q) h := fun {s2 h} e H => by
        refine ref06_Cost.J2_of ?_
        dsimp only
        rw [wrapI (by omega) (by omega), e, ← hc]
        exact ih (i + 1) (by omega) H
      have fin : ∀ b : Bool, decide (t.len = 0 ∧ t.lit < 144) = b → ref06_Cost.J1 a n c s (i : Int) b (ref06_Cost.K1 Q) h := by
        rintro b rfl
        refine ref06_Cost.J1_of ((br_iff _ _ _).2 ⟨fun e => ?_, fun e => look H fun u hu => ⟨_, hu.2.1, (br_iff _ _ _).2 ⟨fun e2 => ?_, fun e2 => ?_⟩⟩⟩)
        · have e := of_decide_eq_true e
          dsimp only
          rw [wrapI (by omega) (by omega)]
          exact two (by rw [costT, if_pos e.1, if_pos e.2]) H
        · have e := of_decide_eq_false e
          have e2 : t.len = 0 := by simpa using e2
          dsimp only
          rw [wrapI (by omega) (by omega)]
          exact two (by rw [costT, if_pos e2, if_neg (by omega)]) H
        · have e2 : t.len ≠ 0 := by simpa using e2
          have hgi : 3 ≤ t.len ∧ t.len ≤ 258 ∧ 1 ≤ t.dist ∧ t.dist ≤ 32768 := by rcases hgi with h | h <;> omega
          have hd := bitsF_le 14 t.dist 4
          have hl := lenB_le t.len
          dsimp only
          refine look H fun u hu => ⟨_, hu.2.1, _, lenBits_pure _, _, rfl, look H fun u hu => ⟨_, hu.2.2.1, distBits_hs (by omega) H fun h4 H4 => ⟨_, rfl, look H4 fun u hu => ⟨_, hu.2.1, ?_⟩⟩⟩⟩
          unfold distB
          rw [wrapI (x := s + 7) (by omega) (by omega), wrapI (x := s + 7 + 5) (by omega) (by omega), wrapI (x := s + 7 + 5 + lenB t.len) (by omega) (by omega), wrapI (x := s + 7 + 5 + lenB t.len + _) (by omega) (by omega)]
          refine (br_iff _ _ _).2 ⟨fun e3 => ?_, fun e3 => ?_⟩
          · rw [wrapI (by omega) (by omega)]
            exact two (by rw [costT, if_neg e2, distB, if_pos (of_decide_eq_true e3)]; omega) H4
          · exact two (by rw [costT, if_neg e2, distB, if_neg (of_decide_eq_false e3)]; omega) H4
      refine look H fun u hu => ⟨_, hu.2.1, (br_iff _ _ _).2 ⟨fun e1 => look H fun u hu => ⟨_, hu.1, fin _ ?_⟩, fun e1 => fin false ?_⟩⟩
      · apply decide_eq_decide.2; have e1 : t.len = 0 := by simpa using e1
        omega
      · apply decide_eq_false; have e1 : t.len ≠ 0 := by simpa using e1
        omega
  exact go n 0 (by omega) H1
end Go.Proofs.Ytaolpeimlkpkbaa
