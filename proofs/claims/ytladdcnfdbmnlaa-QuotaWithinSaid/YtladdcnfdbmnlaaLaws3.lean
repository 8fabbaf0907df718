/- The laws of quota: New. -/
import Derived.Test.YtladdcnfdbmnlaaLaws2
set_option linter.unusedVariables false
set_option linter.unusedSimpArgs false
namespace Go.Proofs.Ytladdcnfdbmnlaa
open Go Go.HW
variable {h : Heap} {L : List Assn} {Q : Value → Heap → Prop}
section
variable {a : Option Addr} {n c : Nat} {ts : List Ten} {M : List Assn}
theorem gone_loop {oa : Option Addr} {oc : Nat} {w e5 f7 : Int} {b6 : Option Addr} {K : Ex → Fr → Heap → Prop} (hr : Gv M a (ts.flatMap tenV)) (hn : ts.length = n) (hmax : n ≤ 1000)
    (kk : ∀ h', Hs h' M → K (.exit 0) (law17_QuotaNew_X0 a n c w e5 b6 f7) h') :
    ∀ (d i : Nat) {h : Heap} {l : List Ten}, i + d = n → l.length = n → (∀ j, i ≤ j → l[j]? = ts[j]?) → Hs h (own oa n oc T_api_Tenant 4 (l.flatMap tenV) :: M) →
    law17_QuotaNew_L1111111010 a n c w oa n oc e5 b6 f7 i K h := by
  intro d
  induction d with
  | zero =>
    intro i h l hk hl hs H
    exact law17_QuotaNew_L1111111010_of (br_false (decide_eq_false (by omega)) (kk h H.tl))
  | succ d ih =>
    intro i h l hk hl hs H
    have hil : i < ts.length := by omega
    refine law17_QuotaNew_L1111111010_of (br_true (decide_eq_true (by omega)) ?_)
    refine idxf E_sl_api_Tenant (l := l) (φ := tenV) (x := ts[i]) H.rd (fun _ => rfl) (by omega) (by omega) (by omega) (by rw [Int.toNat_natCast, hs i (Nat.le_refl _)]; exact List.getElem?_eq_getElem hil) fun t ht => ⟨_, _, _, _, ht, ?_⟩
    refine idxf E_sl_api_Tenant (l := ts) (φ := tenV) (x := ts[i]) (hr _ H.tl) (fun _ => rfl) (by omega) (by omega) (by omega) (by simp) fun t2 ht2 => ⟨_, _, _, _, ht2, br_false (by simp) ?_⟩
    refine H.idx_wrf (φ := tenV) ⟨⟨#[103, 111, 110, 101]⟩, ⟨#[]⟩, 0, 0⟩ E_sl_api_Tenant (by omega) (by omega) (fun _ => rfl) (by omega) (by simp [tenV, oneC]) fun h3 H3 => ?_
    simp only [inc (show i < 2 ^ 62 by omega)]
    refine ih (i + 1) (by omega) (by simp [hl]) (fun j hj => ?_) H3
    rw [Int.toNat_natCast, List.getElem?_set_ne (by omega)]
    exact hs j (by omega)
theorem fresh_loop {p : Nat} {blks : List Nat} {K : Ex → Fr → Heap → Prop} (hr : Gv M a (ts.flatMap tenV)) (hn : ts.length = n) (hmax : n ≤ 1000)
    (kk : ∀ h', Hs h' M → K (.exit 2) law17_QuotaNew_X2 h') :
    ∀ (d k : Nat) {h : Heap}, k + d = n → Hs h (Bk p blks (q0 ts) :: M) →
    law17_QuotaNew_L111111111010 a n c (some ⟨p, 0, none⟩) k K h := by
  intro d
  induction d with
  | zero =>
    intro k h hk H
    exact law17_QuotaNew_L111111111010_of (br_false (decide_eq_false (by omega)) (kk h H.tl))
  | succ d ih =>
    intro k h hk H
    have q := Bk.qi H
    have hkl : k < ts.length := by omega
    have u0 : (q0 ts).use k = (0, 0) := by simp only [QS.use, q0]; rw [List.getD_eq_getElem?_getD, List.getElem?_replicate]; split <;> rfl
    have mk := q.mostk (k := k) hkl
    have e3 : (q0 ts).mb k = ts[k].mb := by simp only [QS.mb, q0]; rw [List.getD_eq_getElem?_getD, List.getElem?_eq_getElem hkl]; rfl
    have e4 : (q0 ts).me k = ts[k].me := by simp only [QS.me, q0]; rw [List.getD_eq_getElem?_getD, List.getElem?_eq_getElem hkl]; rfl
    have l0 : (q0 ts).left k = (ts[k].mb, ts[k].me) := by
      unfold QS.left; rw [u0]
      have p0 : ∀ x : Int, 0 ≤ x → pos x = x := fun x hx => by unfold pos; split <;> omega
      rw [show hB (q0 ts).hd k = 0 from rfl, show hE (q0 ts).hd k = 0 from rfl, Int.sub_zero, Int.sub_zero, Int.sub_zero, Int.sub_zero, p0 _ mk.1, p0 _ mk.2.2.1, e3, e4]
    have hx : ts[((k : Nat) : Int).toNat]? = some ts[k] := by simp
    refine law17_QuotaNew_L111111111010_of (br_true (decide_eq_true (by omega)) (br_true rfl ?_))
    refine idxf E_sl_api_Tenant (l := ts) (φ := tenV) (hr _ H.tl) (fun _ => rfl) (by omega) (by omega) (by omega) hx fun t ht => ⟨_, ht.1, ?_⟩
    refine Use_spec H fun h2 H2 => ?_
    rw [show fnd (q0 ts).ts ts[k].name = some k from fnd_self q.names hkl]
    refine ⟨_, _, _, rfl, (H2.new (t := T_api_Use) (cs := #[.int .i64 0, .int .i64 0]) (xs := [.int .i64 0, .int .i64 0])).wrs fun h3 H3 => ?_⟩
    refine idxf E_sl_api_Tenant (l := ts) (φ := tenV) (hr _ H3.tl.tl) (fun _ => rfl) (by omega) (by omega) (by omega) hx fun t ht => ⟨_, ht.1, ?_⟩
    refine Left_spec H3.m1 fun h4 H4 => ?_
    rw [show fnd (q0 ts).ts ts[k].name = some k from fnd_self q.names hkl]
    refine ⟨_, _, _, rfl, (H4.new (t := T_api_Use) (cs := #[.int .i64 0, .int .i64 0]) (xs := [.int .i64 0, .int .i64 0])).wrs fun h5 H5 => br_false rfl (br_false rfl ⟨_, _, (H5.m2).rdc0, br_false (by rw [u0]; rfl) ⟨_, _, H5.rdc0, ?_⟩⟩)⟩
    refine idxf E_sl_api_Tenant (l := ts) (φ := tenV) (hr _ H5.tl.tl.tl) (fun _ => rfl) (by omega) (by omega) (by omega) hx fun t ht => ⟨_, ht.2.2.1, ?_⟩
    refine idxf E_sl_api_Tenant (l := ts) (φ := tenV) (hr _ H5.tl.tl.tl) (fun _ => rfl) (by omega) (by omega) (by omega) hx fun t2 ht2 => ⟨_, ht2.2.2.2.1, ?_⟩
    refine law17_QuotaNew_J1111111110100100111_of (br_false (by rw [l0]; simp) ?_)
    simp only [inc (show k < 2 ^ 62 by omega)]
    exact ih (k + 1) (by omega) (H5.tl.m1.tl)
end
theorem ten_one {l : List Ten} {v : Value} (hv : v ∈ l.flatMap tenV) : oneC v = true := by
  obtain ⟨x, _, hx⟩ := List.mem_flatMap.1 hv
  simp only [tenV, List.mem_cons, List.not_mem_nil, or_false] at hx
  rcases hx with rfl | rfl | rfl | rfl <;> rfl
theorem QuotaNew_spec {a : Option Addr} {n c : Nat} {ts : List Ten} (hr : Rd h a (ts.flatMap tenV)) (hn : ts.length = n) (hz : ∀ t ∈ ts, t.name.size < 9223372036854775808) (hn0 : a = none → n = 0)
    (HQ : ∀ h', ExtB h.size h h' → Q (.bool true) h') : SpecH PP F_law17_QuotaNew [.slice a n c] h Q := by
  refine law17_QuotaNew_door ?_
  unfold law17_QuotaNew_main
  have H0 := Hs.start h
  have hr' : Gv [ro h] a (ts.flatMap tenV) := Gv.ro hr
  refine (br_iff _ _ _).2 ⟨fun _ => HQ _ H0.ro_below, fun e1 => ?_⟩
  have l1 : n ≤ 1000 := by have := of_decide_eq_false e1; omega
  refine rCheck_spec hr' hn (by omega) hz H0 fun h1 H1 => ⟨_, rfl, ?_⟩
  refine H1.makes tenV ⟨⟨#[]⟩, ⟨#[]⟩, 0, 0⟩ E_sl_api_Tenant (n := n) (c := n) (fun _ => rfl) (by omega) rfl rfl (Nat.le_refl _) (by omega) (by omega) fun h2 b H2 => ⟨_, _, _, rfl, ?_⟩
  have ly : (ts.flatMap tenV).length = n * 4 := by rw [flat_len (sz := 4) (fun _ => rfl), hn]
  have lz : ((List.replicate n (⟨⟨#[]⟩, ⟨#[]⟩, 0, 0⟩ : Ten)).flatMap tenV).length = n * 4 := by rw [flat_len (sz := 4) (fun _ => rfl), List.length_replicate]
  refine H2.copy (off := 0) E_sl_api_Tenant (by omega) (hr' _ H2.tl) hn0 (by rw [Nat.min_self]; exact ly) (fun v hv => ten_one hv) fun h3 H3 => ⟨_, rfl, ?_⟩
  rw [List.take_zero, List.nil_append, List.drop_of_length_le (by omega), List.append_nil] at H3
  have H4 : Hs h3 (own (some ⟨b, 0, none⟩) n n T_api_Tenant 4 (ts.flatMap tenV) :: [ro h]) := H3.pt_own 0 (by rw [List.drop_zero, List.take_of_length_le (by omega)]) ly (Nat.le_refl _) (by omega)
  have hr2 : Gv (own (some ⟨b, 0, none⟩) n n T_api_Tenant 4 (ts.flatMap tenV) :: [ro h]) (some ⟨b, 0, none⟩) (ts.flatMap tenV) := fun h' H' => H'.rd
  refine Check_spec hr2 hn (by omega) hz H4 fun h5 H5 => ⟨_, rfl, ?_⟩
  have aw : ∀ h', Hs h' [ro h] → (law17_QuotaNew_K11111111101 Q) (.exit 2) law17_QuotaNew_X2 h' := by
    intro h' H'
    rw [law17_QuotaNew_at111111111010_X2]
    exact awake_spec H' fun h8 H8 => ⟨_, rfl, HQ _ H8.ro_below⟩
  refine New_spec hr2 hn (by omega) hz H5 (fun e h6 H6 => ⟨_, _, rfl, ?_⟩) fun e h6 p blks H6 => ⟨_, _, rfl, ?_⟩
  · refine gone_loop (M := [ro h]) hr' hn l1 (fun h7 H7 => ?_) n 0 (by omega) hn (fun _ _ => rfl) H6
    rw [law17_QuotaNew_at1111111010_X0]
    refine br_false (by simp) (br_false (by simp) (law17_QuotaNew_J1111111101_of (br_false (by simp [e]) ?_)))
    by_cases hn1 : n = 0
    · exact law17_QuotaNew_L111111111010_of (br_false (decide_eq_false (by omega)) (aw _ H7))
    · exact law17_QuotaNew_L111111111010_of (br_true (decide_eq_true (by omega)) (br_false rfl (aw _ H7)))
  · refine gone_loop (M := Bk p blks (q0 ts) :: [ro h]) hr'.cons hn l1 (fun h7 H7 => ?_) n 0 (by omega) hn (fun _ _ => rfl) H6.m1
    rw [law17_QuotaNew_at1111111010_X0]
    refine br_false (by simp) (br_false (by simp [e]) (law17_QuotaNew_J1111111101_of (br_false (by simp [e]) ?_)))
    exact fresh_loop hr' hn l1 aw n 0 (by omega) H7
end Go.Proofs.Ytladdcnfdbmnlaa
