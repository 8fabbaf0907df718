/- Contracts of package quota: the check; a new book. -/
import Derived.Test.YtladdcnfdbmnlaaQBook3
set_option linter.unusedVariables false
set_option linter.unusedSimpArgs false
namespace Go.Proofs.Ytladdcnfdbmnlaa
open Go Go.HW
variable {h : Heap} {L : List Assn} {p : Nat} {s : QS} {Q : Value → Heap → Prop}
theorem Z_bool : (PP.info? T_bool).bind (·.zero) = some (.bool false) := by kernel_rfl
theorem size_zero {n : ByteArray} : n.size = 0 ↔ n = ⟨#[]⟩ := by
  constructor
  · intro h
    apply sb_inj
    have : (sb n).length = 0 := by rw [sb_len, h]
    rw [List.length_eq_zero_iff.1 this]; rfl
  · rintro rfl; rfl
theorem chk_loop {a : Option Addr} {n c r : Nat} {ts : List Ten} {K : Ex → Fr → Heap → Prop} (hr : Gv L a (ts.flatMap tenV)) (hn : ts.length = n) (hmax : n < 2 ^ 62) (hz : ∀ t ∈ ts, t.name.size < 9223372036854775808) :
    ∀ (k i : Nat) {seen : List ByteArray} {sl : List (ByteArray × Bool)} {h : Heap}, i + k = n → Hs h (mp .string Value.bool r sl :: L) → (∀ m, mget sl m = if seen.any (fun y => decide (y = m)) then some true else none) →
    (okL (ts.drop i) seen = true → ∀ h', Hs h' L → K (.exit 0) quota_Check_X0 h') → (okL (ts.drop i) seen = false → ∀ h', Hs h' L → K .ret (quota_Check_Xret 1) h') → quota_Check_L111010 (some r) a n c n i K h := by
  intro k
  induction k with
  | zero =>
    intro i seen sl h hi H hs k1 k2
    refine quota_Check_L111010_of (br_false (decide_eq_false (by omega)) (k1 ?_ h H.tl))
    rw [List.drop_of_length_le (by omega)]; rfl
  | succ k ih =>
    intro i seen sl h hi H hs k1 k2
    have hil : i < ts.length := by omega
    rw [← List.getElem_cons_drop hil] at k1 k2
    simp only [okL] at k1 k2
    refine quota_Check_L111010_of (br_true (decide_eq_true (by omega)) ?_)
    refine idxf E_sl_api_Tenant (l := ts) (φ := tenV) (x := ts[i]) (hr h H.tl) (fun _ => rfl) (by omega) (by omega) (by omega) (by simp) fun t ht => ⟨_, _, _, _, ht, ?_⟩
    have H1 : Hs (h.push (.cells #[.string ⟨#[]⟩, .string ⟨#[]⟩, .int .i64 0, .int .i64 0] T_api_Tenant (0, 0))) (pt h.size T_api_Tenant [.string ⟨#[]⟩, .string ⟨#[]⟩, .int .i64 0, .int .i64 0] :: _) := H.new
    generalize h.size = x5 at H1 ⊢
    refine H1.wrs fun h2 H2 => ⟨_, H2.cell (off := 0) rfl, H2.s2b U_string U_sl_uint8 U_uint8 fun h3 aa cc hcc H3 => ⟨_, _, _, rfl, ?_⟩⟩
    have hsz := hz ts[i] (List.getElem_mem hil)
    refine chk_chars (x := 0) H3.rdO (sb_len _) hsz (fun y hy => sb_lt hy) (fun hc => ?_) (fun hc => ?_) ts[i].name.size 0 (by omega) rfl
    · rw [quota_Check_at111010011001010_X2]
      have fin : ∀ (b : Bool) (h' : Heap), b = !(okT ts[i] && !seen.any (fun y => decide (y = ts[i].name))) → Hs h' (mp .string Value.bool r sl :: pt x5 T_api_Tenant (tenV ts[i]) :: L) → quota_Check_J111010011001101 (some r) ⟨x5, 0, none⟩ a n c n i b K h' := by
        intro b h' hb H'
        refine quota_Check_J111010011001101_of ((br_iff _ _ _).2 ⟨fun e => ?_, fun e => ?_⟩)
        · refine k2 ?_ h' H'.tl.tl
          rw [hb] at e; rw [← Bool.not_eq_true'] ; simp only [Bool.not_and] at e ⊢; rw [e]; rfl
        · rw [hb] at e
          have e' : (okT ts[i] && !seen.any (fun y => decide (y = ts[i].name))) = true := by simpa using e
          rw [e', Bool.true_and] at k1 k2
          refine ⟨_, (H'.m1.cell (off := 0) rfl : _ = some (.string ts[i].name)), H'.mset U_map_string_bool K_str ts[i].name true rfl fun h4 H4 => ?_⟩
          rw [inc' (by omega)]
          refine ih (i + 1) (by omega) H4.m1.tl (seen := ts[i].name :: seen) (fun m => ?_) k1 k2
          rw [mget_mset, hs, List.any_cons]
          by_cases e2 : ts[i].name = m
          · rw [if_pos e2]; simp [e2]
          · rw [if_neg e2, decide_eq_false e2, Bool.false_or]
      have H4 : Hs h3 (mp .string Value.bool r sl :: pt x5 T_api_Tenant (tenV ts[i]) :: L) := (H3.m2).m1.tl.m1.m1
      have c0 : cellH h3 ⟨x5, 0, none⟩ = some (.string ts[i].name) := H4.m1.cell (off := 0) rfl
      have seb : mget sl ts[i].name = if seen.any (fun y => decide (y = ts[i].name)) then some true else none := hs _
      have d2 : decide ((ts[i].name.size : Int) > 16) = !decide (ts[i].name.size ≤ 16) := by rw [Bool.eq_iff_iff]; simp; omega
      have d1 : decide (ts[i].name = ⟨#[]⟩) = !decide (1 ≤ ts[i].name.size) := by rw [Bool.eq_iff_iff]; simp only [decide_eq_true_eq, Bool.not_eq_true', decide_eq_false_iff_not, ← size_zero]; omega
      have d3 : decide ((ts[i].sec.size : Int) > 64) = !decide (ts[i].sec.size ≤ 64) := by rw [Bool.eq_iff_iff]; simp; omega
      refine ⟨_, c0, (br_iff _ _ _).2 ⟨fun e => fin _ _ ?_ H4, fun e => ⟨_, c0, (br_iff _ _ _).2 ⟨fun e2 => fin _ _ ?_ H4, fun e2 => ⟨_, c0, H4.lookup1 U_map_string_bool K_str Z_bool _ ?_⟩⟩⟩⟩⟩
      · rw [d1] at e; simp only [Bool.not_eq_true'] at e; unfold okT okN; rw [e]; simp
      · rw [d2] at e2; simp only [Bool.not_eq_true'] at e2; unfold okT okN; rw [e2]; simp
      rw [seb]
      refine ⟨seen.any (fun y => decide (y = ts[i].name)), by cases seen.any (fun y => decide (y = ts[i].name)) <;> rfl, (br_iff _ _ _).2 ⟨fun e3 => fin _ _ (by rw [e3]; simp) H4, fun e3 => ⟨_, (H4.m1.cell (off := 1) rfl : _ = some (.string ts[i].sec)), (br_iff _ _ _).2 ⟨fun e4 => fin _ _ ?_ H4, fun e4 => ⟨_, (H4.m1.cell (off := 2) rfl : _ = some (.int .i64 ts[i].mb)), within_spec ⟨_, rfl, (br_iff _ _ _).2 ⟨fun e5 => fin _ _ ?_ H4, fun e5 => ⟨_, (H4.m1.cell (off := 3) rfl : _ = some (.int .i64 ts[i].me)), within_spec ⟨_, rfl, fin _ _ ?_ H4⟩⟩⟩⟩⟩⟩⟩⟩⟩
      · rw [d3] at e4; simp only [Bool.not_eq_true'] at e4; unfold okT; rw [e4]; simp
      · unfold okT inB; simp only [Bool.not_eq_true'] at e5; rw [e5]; simp
      · rw [d1] at e; rw [d2] at e2; rw [d3] at e4
        simp only [Bool.not_eq_false'] at e e2 e4 e5
        unfold okT okN inB; rw [e, e2, e4, e5, e3, hc]; simp
    · rw [quota_Check_at111010011001010_Xret]
      refine k2 ?_ h3 H3.tl.tl.tl
      have : okN ts[i].name = false := by unfold okN; rw [hc]; rfl
      unfold okT; rw [this]; rfl
end Go.Proofs.Ytladdcnfdbmnlaa
