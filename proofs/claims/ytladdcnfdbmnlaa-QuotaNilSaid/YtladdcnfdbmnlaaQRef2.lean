/- The ref book of quota: its state and its operations. -/
import Derived.Test.YtladdcnfdbmnlaaQRef
set_option linter.unusedVariables false
set_option linter.unusedSimpArgs false
namespace Go.Proofs.Ytladdcnfdbmnlaa
open Go Go.HW
variable {h : Heap} {L : List Assn} {p n c : Nat} {a : Option Addr} {s : QS} {Q : Value → Heap → Prop}
def useV (u : Int × Int) : List Value := [.int .i64 u.1, .int .i64 u.2]
def hdV (x : Hd) : List Value := [.int .i64 x.id, .int .i64 x.k, .int .i64 x.b, .int .i64 x.e]
def Rk (p : Nat) (a : Option Addr) (n c : Nat) (s : QS) : Assn := fun m => ∃ ua uc ha hc, QI s ∧ Sp [pt p T_haversackref17_Book [.slice a n c, .slice ua n uc, .slice ha s.hd.length hc, .int .i64 s.last], own ua n uc T_api_Use 2 (s.us.flatMap useV), own ha s.hd.length hc T_haversackref17_Held 4 (s.hd.flatMap hdV)] m
theorem Rk_iff : Hs h (Rk p a n c s :: L) ↔ ∃ ua uc ha hc, QI s ∧ Hs h (pt p T_haversackref17_Book [.slice a n c, .slice ua n uc, .slice ha s.hd.length hc, .int .i64 s.last] :: own ua n uc T_api_Use 2 (s.us.flatMap useV) :: own ha s.hd.length hc T_haversackref17_Held 4 (s.hd.flatMap hdV) :: L) := by
  unfold Rk; simp only [Hs.ex, Hs.and, Hs.app, List.cons_append, List.nil_append]
theorem Rk.qi (H : Hs h (Rk p a n c s :: L)) : QI s := by obtain ⟨_, _, _, _, q, _⟩ := Rk_iff.1 H; exact q
theorem use_get {k : Nat} (q : QI s) (hk : k < s.ts.length) : s.us[k]? = some (s.use k) := by
  have : k < s.us.length := by rw [q.len]; exact hk
  unfold QS.use; rw [List.getD_eq_getElem?_getD, List.getElem?_eq_getElem this]; rfl
theorem fndI_some {ts : List Ten} {m : ByteArray} {k : Nat} (e : fnd ts m = some k) : fndI ts m = k := by unfold fndI; rw [e]
theorem fndI_none {ts : List Ten} {m : ByteArray} (e : fnd ts m = none) : fndI ts m = -1 := by unfold fndI; rw [e]
theorem rUse_spec {nm : ByteArray} (hr : Gv L a (s.ts.flatMap tenV)) (hn : s.ts.length = n) (hmax : n < 2 ^ 62) (H : Hs h (Rk p a n c s :: L)) (kk : ∀ h', Hs h' (Rk p a n c s :: L) → Q (match fnd s.ts nm with | some k => .tuple #[.agg #[.int .i64 (s.use k).1, .int .i64 (s.use k).2], .int .i64 0] | none => .tuple #[.agg #[.int .i64 0, .int .i64 0], .int .i64 170]) h') : SpecH PP F_ref17_Book_Use [P_ p, .string nm] h Q := by
  refine ref17_Book_Use_door ?_
  unfold ref17_Book_Use_main
  have H1 : Hs (h.push (.cells #[.int .i64 0, .int .i64 0] T_api_Use (0, 0))) (pt h.size T_api_Use [.int .i64 0, .int .i64 0] :: Rk p a n c s :: L) := H.new
  generalize h.size = t4 at H1 ⊢
  obtain ⟨ua, uc, ha, hc, q, H2⟩ := Rk_iff.1 H1.m1
  refine rfind_spec hr.cons.cons.cons hn hmax H2 ⟨_, rfl, ?_⟩
  cases e : fnd s.ts nm with
  | none =>
    rw [e] at kk; rw [fndI_none e]
    exact br_true rfl ((H2.m3).wrs fun h3 H3 => ⟨_, _, H3.rdc0, kk _ (Rk_iff.2 ⟨ua, uc, ha, hc, q, H3.tl⟩)⟩)
  | some k =>
    rw [e] at kk; rw [fndI_some e]
    have hk := fnd_lt e
    refine br_false (decide_eq_false (by omega)) ⟨_, _, _, H2.cell (off := 1) rfl, ?_⟩
    refine idxf E_sl_api_Use (l := s.us) (φ := useV) (x := s.use k) H2.m1.rd (fun _ => rfl) (by omega) (by omega) (by omega) (by rw [Int.toNat_natCast]; exact use_get q hk) fun t ht => ⟨_, _, ht, ?_⟩
    exact (H2.m3).wrs fun h3 H3 => ⟨_, _, H3.rdc0, kk _ (Rk_iff.2 ⟨ua, uc, ha, hc, q, H3.tl⟩)⟩
theorem rSet_spec {nm : ByteArray} {u : Int × Int} (hr : Gv L a (s.ts.flatMap tenV)) (hn : s.ts.length = n) (hmax : n < 2 ^ 62) (H : Hs h (Rk p a n c s :: L))
    (k1 : ∀ h', Hs h' (Rk p a n c s :: L) → fnd s.ts nm = none → Q (.int .i64 170) h')
    (k2 : ∀ h' k, Hs h' (Rk p a n c s :: L) → fnd s.ts nm = some k → ¬ (0 ≤ u.1 ∧ u.1 ≤ 1000000000 ∧ 0 ≤ u.2 ∧ u.2 ≤ 1000000000) → Q (.int .i64 1) h')
    (k3 : ∀ h' k, Hs h' (Rk p a n c (s.set k u) :: L) → fnd s.ts nm = some k → (0 ≤ u.1 ∧ u.1 ≤ 1000000000 ∧ 0 ≤ u.2 ∧ u.2 ≤ 1000000000) → Q (.int .i64 0) h') : SpecH PP F_ref17_Book_Set [P_ p, .string nm, .agg #[.int .i64 u.1, .int .i64 u.2]] h Q := by
  refine ref17_Book_Set_door ?_
  unfold ref17_Book_Set_main
  have H1 : Hs (h.push (.cells #[.int .i64 u.1, .int .i64 u.2] T_api_Use (0, 0))) (pt h.size T_api_Use [.int .i64 u.1, .int .i64 u.2] :: Rk p a n c s :: L) := H.new
  generalize h.size = t4 at H1 ⊢
  generalize h.push (.cells #[.int .i64 u.1, .int .i64 u.2] T_api_Use (0, 0)) = h1 at H1 ⊢
  obtain ⟨ua, uc, ha, hc, q, H2⟩ := Rk_iff.1 H1.m1
  refine rfind_spec hr.cons.cons.cons hn hmax H2 ⟨_, rfl, ?_⟩
  have back : Hs h1 (Rk p a n c s :: L) := H1.tl
  cases e : fnd s.ts nm with
  | none => rw [fndI_none e]; exact br_true rfl (k1 _ back e)
  | some k =>
    rw [fndI_some e]
    have hk := fnd_lt e
    have c0 : cellH h1 ⟨t4, 0, none⟩ = some (.int .i64 u.1) := (H2.m3).cell (off := 0) rfl
    have c1 : cellH h1 ⟨t4, 1, none⟩ = some (.int .i64 u.2) := (H2.m3).cell (off := 1) rfl
    have fin : ∀ b : Bool, b = decide (¬ (0 ≤ u.1 ∧ u.1 ≤ 1000000000 ∧ 0 ≤ u.2 ∧ u.2 ≤ 1000000000)) → ref17_Book_Set_J11101 (some ⟨p, 0, none⟩) ⟨t4, 0, none⟩ k b Q h1 := by
      rintro b rfl
      refine ref17_Book_Set_J11101_of ((br_iff _ _ _).2 ⟨fun e1 => k2 _ k back e (of_decide_eq_true e1), fun e1 => ?_⟩)
      have e2 := of_decide_eq_false e1
      rw [Decidable.not_not] at e2
      refine ⟨_, _, _, H2.cell (off := 1) rfl, _, _, (H2.m3).rdc0, ?_⟩
      refine H2.m1.idx_wrf (φ := useV) u E_sl_api_Use (by omega) (by omega) (fun _ => rfl) (by omega) (by simp [useV, oneC]) fun h3 H3 => k3 _ k (Rk_iff.2 ⟨ua, uc, ha, hc, q.set hk ⟨e2.1, e2.2.1⟩ e2.2.2, ?_⟩) e e2
      have H4 := H3.m1
      rw [Int.toNat_natCast] at H4
      exact (H4.m3).tl
    refine br_false (decide_eq_false (by omega)) ⟨_, c0, (br_iff _ _ _).2 ⟨fun e1 => fin _ ?_, fun e1 => ⟨_, c0, (br_iff _ _ _).2 ⟨fun e2 => fin _ ?_, fun e2 => ⟨_, c1, (br_iff _ _ _).2 ⟨fun e3 => fin _ ?_, fun e3 => ⟨_, c1, fin _ ?_⟩⟩⟩⟩⟩⟩⟩
    all_goals (simp only [decide_eq_true_eq, decide_eq_false_iff_not] at *; symm; simp only [decide_eq_decide, decide_eq_true_eq]; omega)
theorem hB_take (l : List Hd) (i k : Nat) : hB (l.take i) k ≤ hB l k := by
  have := hB_app (l.take i) (l.drop i) k
  rw [List.take_append_drop] at this
  have := hB_nonneg (l.drop i) k
  omega
theorem hE_take (l : List Hd) (i k : Nat) : hE (l.take i) k ≤ hE l k := by
  have := hE_app (l.take i) (l.drop i) k
  rw [List.take_append_drop] at this
  have := hE_nonneg (l.drop i) k
  omega
theorem rleft_loop {k ub : Nat} {t4 : Addr} {ua : Option Addr} {uc : Nat} {ha : Option Addr} {hc : Nat} {B E : Int} {M : List Assn} {K : Ex → Fr → Heap → Prop} (q : QI s) (hk : k < s.ts.length) (hl : s.hd.length < 2 ^ 62) (hB1 : -2000000000 ≤ B ∧ B ≤ 2000000000) (hE1 : -2000000000 ≤ E ∧ E ≤ 2000000000)
    (kk : ∀ h', Hs h' (pt ub T_api_Use [.int .i64 (B - hB s.hd k), .int .i64 (E - hE s.hd k)] :: pt p T_haversackref17_Book [.slice a n c, .slice ua n uc, .slice ha s.hd.length hc, .int .i64 s.last] :: own ha s.hd.length hc T_haversackref17_Held 4 (s.hd.flatMap hdV) :: M) → K (.exit 0) (ref17_Book_Left_X0 t4 ⟨ub, 0, none⟩) h') :
    ∀ (m i : Nat) {h : Heap}, i + m = s.hd.length → Hs h (pt ub T_api_Use [.int .i64 (B - hB (s.hd.take i) k), .int .i64 (E - hE (s.hd.take i) k)] :: pt p T_haversackref17_Book [.slice a n c, .slice ua n uc, .slice ha s.hd.length hc, .int .i64 s.last] :: own ha s.hd.length hc T_haversackref17_Held 4 (s.hd.flatMap hdV) :: M) →
    ref17_Book_Left_L1111010 (some ⟨p, 0, none⟩) t4 k ⟨ub, 0, none⟩ i K h := by
  intro m
  induction m with
  | zero =>
    intro i h hi H
    refine ref17_Book_Left_L1111010_of ⟨_, _, _, H.m1.cell (off := 2) rfl, br_false (decide_eq_false (by omega)) (kk h ?_)⟩
    rwa [List.take_of_length_le (by omega)] at H
  | succ m ih =>
    intro i h hi H
    have hil : i < s.hd.length := by omega
    have u1 := q.usB k hk
    have u2 := q.usE k hk
    have n1 := hB_nonneg (s.hd.take i) k
    have n2 := hE_nonneg (s.hd.take i) k
    have m1 := hB_take s.hd (i + 1) k
    have m2 := hE_take s.hd (i + 1) k
    have a1 : hB (s.hd.take (i + 1)) k = hB (s.hd.take i) k + (if s.hd[i].k = k then pos s.hd[i].b else 0) := by
      rw [List.take_succ_eq_append_getElem hil, hB_app]; simp [hB]
    have a2 : hE (s.hd.take (i + 1)) k = hE (s.hd.take i) k + (if s.hd[i].k = k then pos s.hd[i].e else 0) := by
      rw [List.take_succ_eq_append_getElem hil, hE_app]; simp [hE]
    have p1 := pos_nonneg s.hd[i].b
    have p2 := pos_nonneg s.hd[i].e
    have hx : s.hd[i]? = some s.hd[i] := List.getElem?_eq_getElem hil
    refine ref17_Book_Left_L1111010_of ⟨_, _, _, H.m1.cell (off := 2) rfl, br_true (decide_eq_true (by omega)) ⟨_, _, _, H.m1.cell (off := 2) rfl, ?_⟩⟩
    refine idxf E_sl_haversackref17_Held (l := s.hd) (φ := hdV) (x := s.hd[i]) H.m2.rd (fun _ => rfl) (by omega) (by omega) (by omega) (by simp) fun t ht => ⟨_, ht.2.1, ?_⟩
    refine (br_iff _ _ _).2 ⟨fun e => ?_, fun e => ?_⟩
    · have ek : s.hd[i].k = k := by simp only [beq_iff_eq] at e; omega
      rw [if_pos ek] at a1 a2
      refine ⟨_, H.cell (off := 0) rfl, _, _, _, H.m1.cell (off := 2) rfl, ?_⟩
      refine idxf E_sl_haversackref17_Held (l := s.hd) (φ := hdV) (x := s.hd[i]) H.m2.rd (fun _ => rfl) (by omega) (by omega) (by omega) (by simp) fun t2 ht2 => ⟨_, ht2.2.2.1, ?_⟩
      refine H.sto (off := 0) (by simp) fun h3 H3 => ⟨_, H3.cell (off := 1) rfl, _, _, _, H3.m1.cell (off := 2) rfl, ?_⟩
      refine idxf E_sl_haversackref17_Held (l := s.hd) (φ := hdV) (x := s.hd[i]) H3.m2.rd (fun _ => rfl) (by omega) (by omega) (by omega) (by simp) fun t3 ht3 => ⟨_, by rw [add_add]; exact ht3.2.2.2.1, ?_⟩
      refine H3.sto (off := 1) (by simp) fun h4 H4 => ref17_Book_Left_J1111010011_of ?_
      unfold ref17_Book_Left_J1111010011_txt
      simp only [inc (show i < 2 ^ 62 by omega)]
      refine ih (i + 1) (by omega) ?_
      have w1 : IntKind.i64.wrap (B - hB (s.hd.take i) k - if s.hd[i].b > 0 then s.hd[i].b else 0) = B - hB (s.hd.take (i + 1)) k := by
        show IntKind.i64.wrap (B - hB (s.hd.take i) k - pos s.hd[i].b) = _
        rw [wrap_i64_z (by omega) (by omega)]; omega
      have w2 : IntKind.i64.wrap (E - hE (s.hd.take i) k - if s.hd[i].e > 0 then s.hd[i].e else 0) = E - hE (s.hd.take (i + 1)) k := by
        show IntKind.i64.wrap (E - hE (s.hd.take i) k - pos s.hd[i].e) = _
        rw [wrap_i64_z (by omega) (by omega)]; omega
      simp only [List.set_cons_succ, List.set_cons_zero] at H4
      rw [w1, w2] at H4
      exact H4
    · have ek : s.hd[i].k ≠ k := by intro h0; simp [h0] at e
      rw [if_neg ek, Int.add_zero] at a1 a2
      refine ref17_Book_Left_J1111010011_of ?_
      unfold ref17_Book_Left_J1111010011_txt
      simp only [inc (show i < 2 ^ 62 by omega)]
      refine ih (i + 1) (by omega) ?_
      rw [a1, a2]; exact H
theorem rLeft_spec {nm : ByteArray} (hr : Gv L a (s.ts.flatMap tenV)) (hn : s.ts.length = n) (hmax : n < 2 ^ 62) (hl : s.hd.length < 2 ^ 62) (H : Hs h (Rk p a n c s :: L)) (kk : ∀ h', Hs h' (Rk p a n c s :: L) → Q (match fnd s.ts nm with | some k => .tuple #[.agg #[.int .i64 (s.left k).1, .int .i64 (s.left k).2], .int .i64 0] | none => .tuple #[.agg #[.int .i64 0, .int .i64 0], .int .i64 170]) h') : SpecH PP F_ref17_Book_Left [P_ p, .string nm] h Q := by
  refine ref17_Book_Left_door ?_
  unfold ref17_Book_Left_main
  have H1 : Hs (h.push (.cells #[.int .i64 0, .int .i64 0] T_api_Use (0, 0))) (pt h.size T_api_Use [.int .i64 0, .int .i64 0] :: Rk p a n c s :: L) := H.new
  generalize h.size = t4 at H1 ⊢
  obtain ⟨ua, uc, ha, hc, q, H2⟩ := Rk_iff.1 H1.m1
  refine rfind_spec hr.cons.cons.cons hn hmax H2 ⟨_, rfl, ?_⟩
  cases e : fnd s.ts nm with
  | none =>
    rw [e] at kk; rw [fndI_none e]
    exact br_true rfl ((H2.m3).wrs fun h3 H3 => ⟨_, _, H3.rdc0, kk _ (Rk_iff.2 ⟨ua, uc, ha, hc, q, H3.tl⟩)⟩)
  | some k =>
    rw [e] at kk; rw [fndI_some e]
    have hk := fnd_lt e
    have u1 := q.usB k hk
    have u2 := q.usE k hk
    have n1 := hB_nonneg s.hd k
    have n2 := hE_nonneg s.hd k
    have mk := q.mostk hk
    have hx : s.ts[((k : Nat) : Int).toNat]? = some (s.ts.getD k default) := by rw [Int.toNat_natCast, List.getD_eq_getElem?_getD, List.getElem?_eq_getElem hk]; rfl
    have hu : s.us[((k : Nat) : Int).toNat]? = some (s.use k) := by rw [Int.toNat_natCast]; exact use_get q hk
    have c0 := H2.cell (off := 0) rfl
    have c1 := H2.cell (off := 1) rfl
    have hg := hr.cons.cons.cons _ H2.tl
    have hg2 := H2.m1.rd
    refine br_false (decide_eq_false (by omega)) ⟨_, _, _, c0, ?_⟩
    refine idxf E_sl_api_Tenant (l := s.ts) (φ := tenV) hg (fun _ => rfl) (by omega) (by omega) (by omega) hx fun t ht => ⟨_, ht.2.2.1, _, _, _, c1, ?_⟩
    refine idxf E_sl_api_Use (l := s.us) (φ := useV) hg2 (fun _ => rfl) (by omega) (by omega) (by omega) hu fun t2 ht2 => ⟨_, ht2.1, _, _, _, c0, ?_⟩
    refine idxf E_sl_api_Tenant (l := s.ts) (φ := tenV) hg (fun _ => rfl) (by omega) (by omega) (by omega) hx fun t3 ht3 => ⟨_, ht3.2.2.2.1, _, _, _, c1, ?_⟩
    refine idxf E_sl_api_Use (l := s.us) (φ := useV) hg2 (fun _ => rfl) (by omega) (by omega) (by omega) hu fun t5 ht5 => ⟨_, ht5.2.1, ?_⟩
    have H5 := H2.new (t := T_api_Use) (cs := #[.int .i64 0, .int .i64 0]) (xs := [.int .i64 0, .int .i64 0])
    refine H5.wrs fun h6 H6 => ?_
    have w1 : IntKind.i64.wrap ((s.ts.getD k default).mb - (s.use k).1) = s.mb k - (s.use k).1 - hB (s.hd.take 0) k := by
      rw [List.take_zero]; simp only [hB, Int.sub_zero]; unfold QS.mb QS.use at *; rw [wrap_i64_z (by omega) (by omega)]
    have w2 : IntKind.i64.wrap ((s.ts.getD k default).me - (s.use k).2) = s.me k - (s.use k).2 - hE (s.hd.take 0) k := by
      rw [List.take_zero]; simp only [hE, Int.sub_zero]; unfold QS.me QS.use at *; rw [wrap_i64_z (by omega) (by omega)]
    rw [w1, w2] at H6
    have b1 : -2000000000 ≤ s.mb k - (s.use k).1 ∧ s.mb k - (s.use k).1 ≤ 2000000000 := by unfold QS.use; omega
    have b2 : -2000000000 ≤ s.me k - (s.use k).2 ∧ s.me k - (s.use k).2 ≤ 2000000000 := by unfold QS.use; omega
    have H7 := (H6.m3).m2.m2
    refine rleft_loop (M := own ua n uc T_api_Use 2 (s.us.flatMap useV) :: pt t4 T_api_Use [.int .i64 0, .int .i64 0] :: L) q hk hl b1 b2 (fun h8 H8 => ?_) s.hd.length 0 (by omega) H7
    rw [ref17_Book_Left_at1111010_X0]
    refine ⟨_, H8.cell (off := 0) rfl, _, H8.cell (off := 1) rfl, (H8.m4).wrs fun h9 H9 => ⟨_, _, H9.rdc0, kk h9 (Rk_iff.2 ⟨ua, uc, ha, hc, q, ?_⟩)⟩⟩
    exact ((H9.tl).tl.m2).m1
end Go.Proofs.Ytladdcnfdbmnlaa
