/- The ref book of quota: what it holds; Short, Check, find, New, Set, Use, Left. -/
import Derived.Test.YtladdcnfdbmnlaaHwSl
import Derived.Test.YtladdcnfdbmnlaaQBook5
set_option linter.unusedVariables false
set_option linter.unusedSimpArgs false
namespace Go.Proofs.Ytladdcnfdbmnlaa
open Go Go.HW
variable {h : Heap} {L : List Assn} {p n c : Nat} {a : Option Addr} {s : QS} {ts : List Ten} {Q : Value → Heap → Prop}
theorem fnd_take' {i : Nat} (hi : i < ts.length) {m : ByteArray} (h0 : fnd (ts.take i) m = none) : fnd (ts.take (i + 1)) m = if ts[i].name = m then some i else none := by
  unfold fnd at *
  rw [List.take_succ_eq_append_getElem hi, List.findIdx?_append, h0]
  have hl : (ts.take i).length = i := by rw [List.length_take]; omega
  by_cases e : ts[i].name = m <;> simp [List.findIdx?_cons, e]; omega
theorem fnd_pre {i : Nat} {m : ByteArray} {k : Nat} (h0 : fnd (ts.take i) m = some k) : fnd ts m = some k := by
  unfold fnd at *
  rw [← List.take_append_drop i ts, List.findIdx?_append, h0]; rfl
def fndI (ts : List Ten) (m : ByteArray) : Int := match fnd ts m with | some k => (k : Int) | none => -1
theorem rfind_loop {name : ByteArray} {x y z : Value} {K : Ex → Fr → Heap → Prop} (hr : Gv L a (ts.flatMap tenV)) (hn : ts.length = n) (hmax : n < 2 ^ 62) (H : Hs h (pt p T_haversackref17_Book [.slice a n c, x, y, z] :: L))
    (k1 : fnd ts name = none → K (.exit 0) ref17_Book_find_X0 h) (k2 : ∀ k : Nat, fnd ts name = some k → K .ret (ref17_Book_find_Xret k) h) :
    ∀ (k i : Nat), i + k = n → fnd (ts.take i) name = none → ref17_Book_find_L1010 (some ⟨p, 0, none⟩) name i K h := by
  intro k
  induction k with
  | zero =>
    intro i hi h0
    refine ref17_Book_find_L1010_of ⟨a, n, c, H.cell (off := 0) rfl, br_false (decide_eq_false (by omega)) (k1 ?_)⟩
    rwa [List.take_of_length_le (by omega)] at h0
  | succ k ih =>
    intro i hi h0
    have hil : i < ts.length := by omega
    refine ref17_Book_find_L1010_of ⟨a, n, c, H.cell (off := 0) rfl, br_true (decide_eq_true (by omega)) ⟨a, n, c, H.cell (off := 0) rfl, ?_⟩⟩
    refine idxf E_sl_api_Tenant (l := ts) (φ := tenV) (x := ts[i]) (hr h H.tl) (fun _ => rfl) (by omega) (by omega) (by omega) (by simp) fun t ht => ⟨_, ht.1, (br_iff _ _ _).2 ⟨fun e => ?_, fun e => ?_⟩⟩
    · have := fnd_take' hil h0
      rw [if_pos (of_decide_eq_true e)] at this
      exact k2 i (fnd_pre this)
    · have := fnd_take' hil h0
      rw [if_neg (of_decide_eq_false e)] at this
      rw [inc (by omega)]
      exact ih (i + 1) (by omega) this
theorem rfind_spec {name : ByteArray} {x y z : Value} (hr : Gv L a (ts.flatMap tenV)) (hn : ts.length = n) (hmax : n < 2 ^ 62) (H : Hs h (pt p T_haversackref17_Book [.slice a n c, x, y, z] :: L))
    (kk : Q (.int .i64 (fndI ts name)) h) : SpecH PP F_ref17_Book_find [P_ p, .string name] h Q := by
  refine ref17_Book_find_door ?_
  unfold ref17_Book_find_main
  refine rfind_loop hr hn hmax H (fun e => ?_) (fun k e => ?_) n 0 (by omega) rfl
  · rw [ref17_Book_find_at1010_X0]; unfold fndI at kk; rw [e] at kk; exact kk
  · rw [ref17_Book_find_at1010_Xret]; unfold fndI at kk; rw [e] at kk; exact kk
/-! ### Check -/
theorem short_loop {s : ByteArray} {K : Ex → Fr → Heap → Prop} (hmax : s.size < 9223372036854775808)
    (k1 : (sb s).all okC = true → K (.exit 0) ref11_Short_X0 h) (k2 : (sb s).all okC = false → K .ret (ref11_Short_Xret false) h) :
    ∀ (k i : Nat), i + k = s.size → ((sb s).take i).all okC = true → ref11_Short_L11010 s i K h := by
  intro k
  induction k with
  | zero =>
    intro i hi ht
    refine ref11_Short_L11010_of (br_false (decide_eq_false (by omega)) (k1 ?_))
    rwa [List.take_of_length_le (by rw [sb_len]; omega)] at ht
  | succ k ih =>
    intro i hi ht
    have hil : i < (sb s).length := by rw [sb_len]; omega
    have hb := sb_lt (List.getElem_mem hil)
    refine ref11_Short_L11010_of (br_true (decide_eq_true (by omega)) ?_)
    refine hwp_sidx U_string (by rw [sb_len] at hil; exact hil) ⟨_, rfl, ?_⟩
    have fin : ∀ b : Bool, b = !okC (sb s)[i] → ref11_Short_J11010010011 s i b K h := by
      rintro b rfl
      refine ref11_Short_J11010010011_of ((br_iff _ _ _).2 ⟨fun hbad => k2 ?_, fun hok => ?_⟩)
      · rw [List.all_eq_false]; exact ⟨_, List.getElem_mem hil, by simpa using hbad⟩
      · simp only [inc' (show i < 9223372036854775807 by omega)]
        refine ih (i + 1) (by omega) ?_
        rw [List.take_succ_eq_append_getElem hil, List.all_append, ht]
        simpa using hok
    have ne : (((sb s)[i] : Int) != 45) = !decide ((sb s)[i] = 45) := by rw [Bool.eq_iff_iff]; simp; omega
    refine (br_iff _ _ _).2 ⟨fun a1 => (br_iff _ _ _).2 ⟨fun a2 => fin _ ?_, fun a2 => (br_iff _ _ _).2 ⟨fun a3 => fin _ ?_, fun a3 => fin _ ?_⟩⟩, fun a1 => (br_iff _ _ _).2 ⟨fun a3 => (br_iff _ _ _).2 ⟨fun a2 => fin _ ?_, fun a2 => (br_iff _ _ _).2 ⟨fun a4 => fin _ ?_, fun a4 => fin _ ?_⟩⟩, fun a3 => fin _ ?_⟩⟩
    all_goals (simp only [decide_eq_true_eq, decide_eq_false_iff_not] at *; (try rw [ne]); unfold okC; rw [Bool.eq_iff_iff]; simp; omega)
theorem Short_spec {s : ByteArray} (hmax : s.size < 9223372036854775808) (kk : Q (.bool (okN s)) h) : SpecH PP F_ref11_Short [.string s] h Q := by
  refine ref11_Short_door ?_
  unfold ref11_Short_main
  have d2 : decide ((s.size : Int) > 16) = !decide (s.size ≤ 16) := by rw [Bool.eq_iff_iff]; simp; omega
  have d1 : decide ((s.size : Int) < 1) = !decide (1 ≤ s.size) := by rw [Bool.eq_iff_iff]; simp only [decide_eq_true_eq, Bool.not_eq_true', decide_eq_false_iff_not]; omega
  unfold okN at kk
  refine (br_iff _ _ _).2 ⟨fun e => ?_, fun e => ?_⟩
  · rw [d1] at e; simp only [Bool.not_eq_true'] at e
    rw [e, Bool.and_false, Bool.false_and] at kk
    exact ref11_Short_J101_of (br_true rfl kk)
  · rw [d1] at e; simp only [Bool.not_eq_false'] at e
    refine ref11_Short_J101_of ((br_iff _ _ _).2 ⟨fun e2 => ?_, fun e2 => ?_⟩)
    · rw [d2] at e2; simp only [Bool.not_eq_true'] at e2
      rw [e2, Bool.and_false] at kk; exact kk
    · rw [d2] at e2; simp only [Bool.not_eq_false'] at e2
      rw [e, e2, Bool.and_true, Bool.and_true] at kk
      refine short_loop hmax (fun e3 => ?_) (fun e3 => ?_) s.size 0 (by omega) rfl
      · rw [ref11_Short_at11010_X0]; rw [e3] at kk; exact kk
      · rw [ref11_Short_at11010_Xret]; rw [e3] at kk; exact kk
/-- The names before this one are looked through. -/
theorem rnames_loop {i : Nat} {x : Addr} {nm : ByteArray} {K : Ex → Fr → Heap → Prop} (hr : Rd h a (ts.flatMap tenV)) (hn : ts.length = n) (hmax : n < 2 ^ 62) (hi : i < n) (hx : cellH h x = some (.string nm))
    (k1 : (ts.take i).any (fun t => decide (t.name = nm)) = false → K (.exit 2) (ref17_Check_X2 a n c i) h) (k2 : (ts.take i).any (fun t => decide (t.name = nm)) = true → K .ret (ref17_Check_Xret 1) h) :
    ∀ (k j : Nat), j + k = i → (ts.take j).any (fun t => decide (t.name = nm)) = false → ref17_Check_L1101001001110 a n c i x j K h := by
  intro k
  induction k with
  | zero =>
    intro j hj h0
    refine ref17_Check_L1101001001110_of (br_false (decide_eq_false (by omega)) (k1 ?_))
    obtain rfl : j = i := by omega
    exact h0
  | succ k ih =>
    intro j hj h0
    have hjl : j < ts.length := by omega
    refine ref17_Check_L1101001001110_of (br_true (decide_eq_true (by omega)) ?_)
    refine idxf E_sl_api_Tenant (l := ts) (φ := tenV) (x := ts[j]) hr (fun _ => rfl) (by omega) (by omega) (by omega) (by simp) fun t ht => ⟨_, ht.1, _, hx, (br_iff _ _ _).2 ⟨fun e => k2 ?_, fun e => ?_⟩⟩
    · rw [List.any_eq_true]; exact ⟨ts[j], List.mem_take_iff_getElem.2 ⟨j, by omega, rfl⟩, e⟩
    · rw [inc (by omega)]
      refine ih (j + 1) (by omega) ?_
      rw [List.take_succ_eq_append_getElem hjl, List.any_append, h0]
      simpa using e
theorem rchk_loop {K : Ex → Fr → Heap → Prop} (hr : Gv L a (ts.flatMap tenV)) (hn : ts.length = n) (hmax : n < 2 ^ 62) (hz : ∀ t ∈ ts, t.name.size < 9223372036854775808) :
    ∀ (k i : Nat) {seen : List ByteArray} {h : Heap}, i + k = n → Hs h L → (∀ m, seen.any (fun y => decide (y = m)) = (ts.take i).any (fun t => decide (t.name = m))) →
    (okL (ts.drop i) seen = true → ∀ h', Hs h' L → K (.exit 0) ref17_Check_X0 h') → (okL (ts.drop i) seen = false → ∀ h', Hs h' L → K .ret (ref17_Check_Xret 1) h') → ref17_Check_L11010 a n c i K h := by
  intro k
  induction k with
  | zero =>
    intro i seen h hi H hs k1 k2
    refine ref17_Check_L11010_of (br_false (decide_eq_false (by omega)) (k1 ?_ h H))
    rw [List.drop_of_length_le (by omega)]; rfl
  | succ k ih =>
    intro i seen h hi H hs k1 k2
    have hil : i < ts.length := by omega
    rw [← List.getElem_cons_drop hil] at k1 k2
    simp only [okL] at k1 k2
    refine ref17_Check_L11010_of (br_true (decide_eq_true (by omega)) ?_)
    refine idxf E_sl_api_Tenant (l := ts) (φ := tenV) (x := ts[i]) (hr h H) (fun _ => rfl) (by omega) (by omega) (by omega) (by simp) fun t ht => ⟨_, _, _, _, ht, ?_⟩
    have H1 : Hs (h.push (.cells #[.string ⟨#[]⟩, .string ⟨#[]⟩, .int .i64 0, .int .i64 0] T_api_Tenant (0, 0))) (pt h.size T_api_Tenant [.string ⟨#[]⟩, .string ⟨#[]⟩, .int .i64 0, .int .i64 0] :: _) := H.new
    generalize h.size = x5 at H1 ⊢
    have hsz := hz ts[i] (List.getElem_mem hil)
    refine H1.wrs fun h3 H3 => ⟨_, H3.cell (off := 0) rfl, Short_spec hsz ⟨_, rfl, ?_⟩⟩
    have fin : ∀ (b : Bool), b = !(okT ts[i]) → ref17_Check_J110100100101 a n c i ⟨x5, 0, none⟩ b K h3 := by
      intro b hb
      refine ref17_Check_J110100100101_of ((br_iff _ _ _).2 ⟨fun e => ?_, fun e => ?_⟩)
      · refine k2 ?_ h3 H3.tl
        rw [hb] at e; simp only [Bool.not_eq_true'] at e; rw [e]; rfl
      · rw [hb] at e; simp only [Bool.not_eq_false'] at e
        rw [e, Bool.true_and] at k1 k2
        refine rnames_loop (hr h3 H3.tl) hn hmax (by omega) (H3.cell (off := 0) rfl) (fun e1 => ?_) (fun e1 => ?_) i 0 (by omega) rfl
        · rw [ref17_Check_at1101001001110_X2]
          show ref17_Check_L11010 a n c (IntKind.i64.wrap ((i : Int) + 1)) K h3
          rw [inc (by omega)]
          rw [hs, e1] at k1 k2
          refine ih (i + 1) (by omega) H3.tl (seen := ts[i].name :: seen) (fun m => ?_) k1 k2
          rw [List.any_cons, hs, List.take_succ_eq_append_getElem hil, List.any_append]
          simp [Bool.or_comm]
        · rw [ref17_Check_at1101001001110_Xret]
          refine k2 ?_ h3 H3.tl
          rw [hs, e1]; rfl
    have c0 : cellH h3 ⟨x5, 1, none⟩ = some (.string ts[i].sec) := H3.cell (off := 1) rfl
    have c2 : cellH h3 ⟨x5, 2, none⟩ = some (.int .i64 ts[i].mb) := H3.cell (off := 2) rfl
    have c3 : cellH h3 ⟨x5, 3, none⟩ = some (.int .i64 ts[i].me) := H3.cell (off := 3) rfl
    refine (br_iff _ _ _).2 ⟨fun e => fin _ ?_, fun e => ⟨_, c0, (br_iff _ _ _).2 ⟨fun e2 => fin _ ?_, fun e2 => ⟨_, c2, (br_iff _ _ _).2 ⟨fun e3 => fin _ ?_, fun e3 => ⟨_, c2, (br_iff _ _ _).2 ⟨fun e4 => fin _ ?_, fun e4 => ⟨_, c3, (br_iff _ _ _).2 ⟨fun e5 => fin _ ?_, fun e5 => ⟨_, c3, fin _ ?_⟩⟩⟩⟩⟩⟩⟩⟩⟩⟩
    all_goals (simp only [decide_eq_true_eq, decide_eq_false_iff_not, Bool.not_eq_true', Bool.not_eq_false'] at *; unfold okT inB; rw [Bool.eq_iff_iff]; simp [e]; try omega)
theorem rCheck_spec (hr : Gv L a (ts.flatMap tenV)) (hn : ts.length = n) (hmax : n < 2 ^ 62) (hz : ∀ t ∈ ts, t.name.size < 9223372036854775808)
    (H : Hs h L) (kk : ∀ h', Hs h' L → Q (.int .i64 (chk ts)) h') : SpecH PP F_ref17_Check [.slice a n c] h Q := by
  refine ref17_Check_door ?_
  unfold ref17_Check_main
  unfold chk at kk
  refine (br_iff _ _ _).2 ⟨fun e => ?_, fun e => ?_⟩
  · rw [if_pos (by simp at e; omega)] at kk; exact kk h H
  · rw [if_neg (by simp at e; omega)] at kk
    refine rchk_loop hr hn hmax hz n 0 (seen := []) (by omega) H (fun m => rfl) (fun e1 h' H' => ?_) (fun e1 h' H' => ?_)
    · rw [ref17_Check_at11010_X0]; rw [List.drop_zero] at e1; rw [e1] at kk; exact kk h' H'
    · rw [ref17_Check_at11010_Xret]; rw [List.drop_zero] at e1; rw [e1] at kk; exact kk h' H'
end Go.Proofs.Ytladdcnfdbmnlaa
