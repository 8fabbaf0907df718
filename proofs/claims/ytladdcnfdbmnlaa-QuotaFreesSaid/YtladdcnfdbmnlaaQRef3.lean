/- The ref book of quota: gone, Take, Free, New. -/
import Derived.Test.YtladdcnfdbmnlaaQRef2
set_option linter.unusedVariables false
set_option linter.unusedSimpArgs false
namespace Go.Proofs.Ytladdcnfdbmnlaa
open Go Go.HW
variable {h : Heap} {L : List Assn} {p n c : Nat} {a : Option Addr} {s : QS} {Q : Value → Heap → Prop}
theorem hd_take (l : List Hd) (i : Nat) (hi : i ≤ l.length) : (l.flatMap hdV).take (i * 4) = (l.take i).flatMap hdV := by
  have e : l.flatMap hdV = (l.take i).flatMap hdV ++ (l.drop i).flatMap hdV := by rw [← List.flatMap_append, List.take_append_drop]
  rw [e, List.take_append_of_le_length (by rw [flat_len (sz := 4) (fun _ => rfl), List.length_take]; omega), List.take_of_length_le (by rw [flat_len (sz := 4) (fun _ => rfl), List.length_take]; omega)]
theorem hd_drop (l : List Hd) (i : Nat) (hi : i ≤ l.length) : (l.flatMap hdV).drop (i * 4) = (l.drop i).flatMap hdV := by
  have e : l.flatMap hdV = (l.take i).flatMap hdV ++ (l.drop i).flatMap hdV := by rw [← List.flatMap_append, List.take_append_drop]
  rw [e, List.drop_append, List.drop_of_length_le (by rw [flat_len (sz := 4) (fun _ => rfl), List.length_take]; omega), flat_len (sz := 4) (fun _ => rfl), List.length_take]
  rw [show i * 4 - min i l.length * 4 = 0 by omega]; simp
theorem hd_one {l : List Hd} {v : Value} (hv : v ∈ l.flatMap hdV) : oneC v = true := by
  obtain ⟨x, _, hx⟩ := List.mem_flatMap.1 hv
  simp only [hdV, List.mem_cons, List.not_mem_nil, or_false] at hx
  rcases hx with rfl | rfl | rfl | rfl <;> rfl
theorem gone_at {hd : List Hd} (hn : (hd.map (·.id)).Nodup) {i : Nat} (hi : i < hd.length) {id : Int} (e : (hd[i].id : Int) = id) : goneH hd id = hd.take i ++ hd.drop (i + 1) ∧ fdH hd id = some hd[i] := by
  have P := List.pairwise_iff_getElem.1 hn
  have e1 : ∀ j (hj : j < hd.length), j ≠ i → (hd[j].id : Int) ≠ id := by
    intro j hj hne h1
    rcases Nat.lt_or_gt_of_ne hne with h2 | h2
    · have := P j i (by simpa using hj) (by simpa using hi) h2
      simp only [List.getElem_map] at this; omega
    · have := P i j (by simpa using hi) (by simpa using hj) h2
      simp only [List.getElem_map] at this; omega
  have d : hd = hd.take i ++ hd[i] :: hd.drop (i + 1) := by rw [List.getElem_cons_drop hi, List.take_append_drop]
  have t1 : ∀ x ∈ hd.take i, (x.id : Int) ≠ id := by
    intro x hx
    obtain ⟨j, hj, rfl⟩ := List.getElem_of_mem hx
    rw [List.getElem_take]
    exact e1 j _ (by simp at hj; omega)
  have t2 : ∀ x ∈ hd.drop (i + 1), (x.id : Int) ≠ id := by
    intro x hx
    obtain ⟨j, hj, rfl⟩ := List.getElem_of_mem hx
    rw [List.getElem_drop]
    exact e1 _ _ (by omega)
  constructor
  · unfold goneH
    conv => lhs; rw [d]
    rw [List.filter_append, List.filter_cons, decide_eq_true e]
    rw [List.filter_eq_self.2 (fun x hx => by simp [t1 x hx]), List.filter_eq_self.2 (fun x hx => by simp [t2 x hx])]
    rfl
  · unfold fdH
    conv => lhs; rw [d]
    rw [List.find?_append, List.find?_eq_none.2 (fun x hx => by simp [t1 x hx]), List.find?_cons, decide_eq_true e]
    rfl
theorem rgone_loop {id : Int} {t4 : Nat} {ua : Option Addr} {uc : Nat} {ha : Option Addr} {hc : Nat} {z0 : List Value} {K : Ex → Fr → Heap → Prop} (q : QI s) (hl : s.hd.length < 2 ^ 40) (hz0 : z0.length = 4)
    (H : Hs h (pt p T_haversackref17_Book [.slice a n c, .slice ua n uc, .slice ha s.hd.length hc, .int .i64 s.last] :: own ua n uc T_api_Use 2 (s.us.flatMap useV) :: own ha s.hd.length hc T_haversackref17_Held 4 (s.hd.flatMap hdV) :: pt t4 T_haversackref17_Held z0 :: L))
    (k1 : fdH s.hd id = none → K (.exit 0) (ref17_Book_gone_X0 ⟨t4, 0, none⟩) h)
    (k2 : ∀ x h', fdH s.hd id = some x → Hs h' (pt t4 T_haversackref17_Held (hdV x) :: Rk p a n c (s.free id) :: L) → K .ret (ref17_Book_gone_Xret ⟨t4, 0, none⟩ true) h') :
    ∀ (m i : Nat), i + m = s.hd.length → fdH (s.hd.take i) id = none → ref17_Book_gone_L1010 (some ⟨p, 0, none⟩) id ⟨t4, 0, none⟩ i K h := by
  intro m
  induction m with
  | zero =>
    intro i hi h0
    refine ref17_Book_gone_L1010_of ⟨_, _, _, H.cell (off := 2) rfl, br_false (decide_eq_false (by omega)) (k1 ?_)⟩
    rwa [List.take_of_length_le (by omega)] at h0
  | succ m ih =>
    intro i hi h0
    have hil : i < s.hd.length := by omega
    have c2 := H.cell (off := 2) rfl
    have hd := H.m2
    have hne : ha ≠ none := by rintro rfl; have := hd.own_none; have := hd.own_le; omega
    refine ref17_Book_gone_L1010_of ⟨_, _, _, c2, br_true (decide_eq_true (by omega)) ⟨_, _, _, c2, ?_⟩⟩
    refine idxf E_sl_haversackref17_Held (l := s.hd) (φ := hdV) (x := s.hd[i]) hd.rd (fun _ => rfl) (by omega) (by omega) (by omega) (by simp) fun t ht => ⟨_, ht.1, (br_iff _ _ _).2 ⟨fun e => ⟨_, _, _, c2, ?_⟩, fun e => ?_⟩⟩
    · have e1 : (s.hd[i].id : Int) = id := by simpa using e
      obtain ⟨g1, g2⟩ := gone_at q.ids hil e1
      refine idxf E_sl_haversackref17_Held (l := s.hd) (φ := hdV) (x := s.hd[i]) hd.rd (fun _ => rfl) (by omega) (by omega) (by omega) (by simp) fun t2 ht2 => ⟨_, _, _, _, ht2, ?_⟩
      have H1 := H.new (t := T_haversackref17_Held) (cs := #[.int .i64 0, .int .i64 0, .int .i64 0, .int .i64 0]) (xs := [.int .i64 0, .int .i64 0, .int .i64 0, .int .i64 0])
      generalize h.size = xb at H1 ⊢
      refine H1.wrs fun h2 H2 => ⟨_, _, _, H2.m1.cell (off := 2) rfl, ?_⟩
      have ho := (H2.m3).own_le
      have hol := (H2.m3).own_len
      refine slice_rds (lo := none) (hi := some (.int .i64 i)) E_sl_haversackref17_Held (H2.m3).rd hol ho trivial trivial (by simp [bnd]) (by simp [bnd]) (by simp [bnd]; omega) (fun e => absurd e hne) fun a1 r1 n1 => ⟨_, _, _, rfl, ?_⟩
      simp only [bnd, Int.toNat_natCast, Int.toNat_zero, Nat.sub_zero, Nat.zero_mul, List.drop_zero] at r1 n1 ⊢
      rw [hd_take _ _ (by omega)] at r1
      refine (H2.own_nil T_haversackref17_Held 4).app_sl E_sl_haversackref17_Held r1 (by rw [flat_len (sz := 4) (fun _ => rfl), List.length_take]; congr 1; omega) n1 ?_ (fun h3 a3 c3 H3 => ⟨_, _, _, rfl, _, _, _, (H3.m2).cell (off := 2) rfl, ?_⟩) (by omega) (by omega)
      · exact fun v hv => hd_one hv
      have ho3 := (H3.m4).own_le
      have w1 : IntKind.i64.wrap ((i : Int) + 1) = ((i + 1 : Nat) : Int) := inc (by omega)
      simp only [w1]
      refine slice_rds (lo := some (.int .i64 ((i + 1 : Nat) : Int))) (hi := none) E_sl_haversackref17_Held (H3.m4).rd (H3.m4).own_len ho3 trivial trivial (by simp [bnd]; omega) (by simp [bnd]; omega) (by simp [bnd]) (fun e => absurd e hne) fun a5 r5 n5 => ⟨_, _, _, rfl, ?_⟩
      simp only [bnd, Int.toNat_natCast] at r5 n5 ⊢
      rw [hd_drop _ _ (by omega), List.take_of_length_le (by rw [flat_len (sz := 4) (fun _ => rfl), List.length_drop]; exact Nat.le_refl _)] at r5
      refine H3.app_sl E_sl_haversackref17_Held r5 (by rw [flat_len (sz := 4) (fun _ => rfl), List.length_drop]) n5 (fun v hv => hd_one hv) (fun h6 a6 c6 H6 => ⟨_, _, _, rfl, ?_⟩) (by omega) (by omega)
      refine (H6.m2).sto (off := 2) (by simp) fun h7 H7 => ⟨_, _, _, _, (H7.m2).rdc0, ?_⟩
      refine (H7.m5).wrs (kk := fun h9 H9 => k2 s.hd[i] h9 g2 ?_) (hl := by simp [hz0])
      have el : (s.free id).hd.length = 0 + i + (s.hd.length - (i + 1)) := by show (goneH s.hd id).length = _; rw [g1]; simp; omega
      have ev : (s.free id).hd.flatMap hdV = ([] ++ (s.hd.take i).flatMap hdV) ++ (s.hd.drop (i + 1)).flatMap hdV := by show (goneH s.hd id).flatMap _ = _; rw [g1, List.flatMap_append]; rfl
      have H10 : Hs h9 (Rk p a n c (s.free id) :: pt t4 T_haversackref17_Held (hdV s.hd[i]) :: L) := Rk_iff.2 ⟨ua, uc, a6, c6, q.free g2, by
        rw [el, ev]
        exact ((((H9.m3).tl.m4).tl.m2).m3).m3⟩
      exact H10.m1
    · have e1 : (s.hd[i].id : Int) ≠ id := by simpa using e
      simp only [inc (show i < 2 ^ 62 by omega)]
      refine ih (i + 1) (by omega) ?_
      unfold fdH at *
      rw [List.take_succ_eq_append_getElem hil, List.find?_append, h0]
      simp [e1]
theorem rgone_spec {id : Int} (hl : s.hd.length < 2 ^ 40) (H : Hs h (Rk p a n c s :: L))
    (k1 : ∀ h', Hs h' (Rk p a n c s :: L) → fdH s.hd id = none → Q (.tuple #[.agg #[.int .i64 0, .int .i64 0, .int .i64 0, .int .i64 0], .bool false]) h')
    (k2 : ∀ h' x, Hs h' (Rk p a n c (s.free id) :: L) → fdH s.hd id = some x → Q (.tuple #[.agg #[.int .i64 x.id, .int .i64 x.k, .int .i64 x.b, .int .i64 x.e], .bool true]) h') : SpecH PP F_ref17_Book_gone [P_ p, .int .i64 id] h Q := by
  refine ref17_Book_gone_door ?_
  unfold ref17_Book_gone_main
  have H1 : Hs (h.push (.cells #[.int .i64 0, .int .i64 0, .int .i64 0, .int .i64 0] T_haversackref17_Held (0, 0))) (pt h.size T_haversackref17_Held [.int .i64 0, .int .i64 0, .int .i64 0, .int .i64 0] :: Rk p a n c s :: L) := H.new
  generalize h.size = t4 at H1 ⊢
  obtain ⟨ua, uc, ha, hc, q, H2⟩ := Rk_iff.1 H1.m1
  refine rgone_loop q hl rfl H2 (fun e => ?_) (fun x h' e H' => ?_) s.hd.length 0 (by omega) rfl
  · rw [ref17_Book_gone_at1010_X0]
    exact (H2.m3).wrs fun h3 H3 => ⟨_, _, _, _, H3.rdc0, k1 _ (Rk_iff.2 ⟨ua, uc, ha, hc, q, H3.tl⟩) e⟩
  · rw [ref17_Book_gone_at1010_Xret]
    exact ⟨_, _, _, _, H'.rdc0, k2 _ x H'.tl e⟩
theorem rFree_spec {id : Int} (hl : s.hd.length < 2 ^ 40) (H : Hs h (Rk p a n c s :: L))
    (k1 : ∀ h', Hs h' (Rk p a n c s :: L) → fdH s.hd id = none → Q (.int .i64 172) h')
    (k2 : ∀ h' x, Hs h' (Rk p a n c (s.free id) :: L) → fdH s.hd id = some x → Q (.int .i64 0) h') : SpecH PP F_ref17_Book_Free [P_ p, .int .i64 id] h Q := by
  refine ref17_Book_Free_door ?_
  unfold ref17_Book_Free_main
  refine rgone_spec hl H (fun h1 H1 e => ⟨_, _, _, _, _, rfl, ?_⟩) (fun h1 x H1 e => ⟨_, _, _, _, _, rfl, ?_⟩)
  · refine (H1.new (t := T_haversackref17_Held) (cs := #[.int .i64 0, .int .i64 0, .int .i64 0, .int .i64 0]) (xs := [.int .i64 0, .int .i64 0, .int .i64 0, .int .i64 0])).wrs fun h3 H3 => br_true rfl (k1 _ H3.tl e)
  · refine (H1.new (t := T_haversackref17_Held) (cs := #[.int .i64 0, .int .i64 0, .int .i64 0, .int .i64 0]) (xs := [.int .i64 0, .int .i64 0, .int .i64 0, .int .i64 0])).wrs fun h3 H3 => br_false rfl (k2 _ x H3.tl e)
theorem rTake_spec {id : Int} (hn : s.ts.length = n) (hl : s.hd.length < 2 ^ 40) (H : Hs h (Rk p a n c s :: L))
    (k1 : ∀ h', Hs h' (Rk p a n c s :: L) → fdH s.hd id = none → Q (.int .i64 172) h')
    (k2 : ∀ h' x, Hs h' (Rk p a n c (s.take id x) :: L) → fdH s.hd id = some x → Q (.int .i64 0) h') : SpecH PP F_ref17_Book_Take [P_ p, .int .i64 id] h Q := by
  have q := Rk.qi H
  refine ref17_Book_Take_door ?_
  unfold ref17_Book_Take_main
  refine rgone_spec hl H (fun h1 H1 e => ⟨_, _, _, _, _, rfl, ?_⟩) (fun h1 x H1 e => ⟨_, _, _, _, _, rfl, ?_⟩)
  · refine (H1.new (t := T_haversackref17_Held) (cs := #[.int .i64 0, .int .i64 0, .int .i64 0, .int .i64 0]) (xs := [.int .i64 0, .int .i64 0, .int .i64 0, .int .i64 0])).wrs fun h3 H3 => br_true rfl (k1 _ H3.tl e)
  · have hx := q.ks x (fdH_mem e).1
    have hk := hx.1
    have u1 := q.usB x.k hk
    have u2 := q.usE x.k hk
    have n1 := hB_nonneg s.hd x.k
    have n2 := hE_nonneg s.hd x.k
    have hu : (s.free id).us[((x.k : Nat) : Int).toNat]? = some (s.use x.k) := by rw [Int.toNat_natCast]; exact use_get (q.free e) hk
    refine (H1.new (t := T_haversackref17_Held) (cs := #[.int .i64 0, .int .i64 0, .int .i64 0, .int .i64 0]) (xs := [.int .i64 0, .int .i64 0, .int .i64 0, .int .i64 0])).wrs fun h3 H3 => br_false rfl ?_
    obtain ⟨ua, uc, ha, hc, q2, H4⟩ := Rk_iff.1 H3.m1
    refine ⟨_, _, _, H4.cell (off := 1) rfl, _, (H4.m3).cell (off := 1) rfl, ?_⟩
    refine idxf E_sl_api_Use (l := (s.free id).us) (φ := useV) H4.m1.rd (fun _ => rfl) (by omega) (by omega) (by omega) hu fun t2 ht2 => ⟨_, _, ht2, ?_⟩
    refine (H4.new (t := T_api_Use) (cs := #[.int .i64 0, .int .i64 0]) (xs := [.int .i64 0, .int .i64 0])).wrs fun h5 H5 => ?_
    refine ⟨_, _, _, H5.m1.cell (off := 1) rfl, _, (H5.m4).cell (off := 1) rfl, _, H5.cell (off := 0) rfl, _, (H5.m4).cell (off := 2) rfl, _, H5.cell (off := 1) rfl, _, (H5.m4).cell (off := 3) rfl, ?_⟩
    have w4 : (if IntKind.i64.wrap ((s.use x.k).1 + x.b) > 0 then IntKind.i64.wrap ((s.use x.k).1 + x.b) else 0) = pos ((s.use x.k).1 + x.b) := by
      rw [wrap_i64_z (by simp only [QS.use]; omega) (by simp only [QS.use]; omega)]; rfl
    have w5 : (if IntKind.i64.wrap ((s.use x.k).2 + x.e) > 0 then IntKind.i64.wrap ((s.use x.k).2 + x.e) else 0) = pos ((s.use x.k).2 + x.e) := by
      rw [wrap_i64_z (by simp only [QS.use]; omega) (by simp only [QS.use]; omega)]; rfl
    simp only [w4, w5]
    refine (H5.m2).idx_wrf (φ := useV) (pos ((s.use x.k).1 + x.b), pos ((s.use x.k).2 + x.e)) E_sl_api_Use (by omega) (by omega) (fun _ => rfl) (by omega) (by simp [useV, oneC]) fun h6 H6 => k2 _ x (Rk_iff.2 ⟨ua, uc, ha, hc, q.take e, ?_⟩) e
    rw [Int.toNat_natCast] at H6
    have H7 := (H6.m1).tl
    exact ((H7.m1).m3).tl
theorem rNew_spec {ts : List Ten} (hn : ts.length = n) (hmax : n < 2 ^ 40) (q : QI (q0 ts)) (H : Hs h L) (kk : ∀ h' p, Hs h' (Rk p a n c (q0 ts) :: L) → Q (P_ p) h') : SpecH PP F_ref17_New [.slice a n c] h Q := by
  refine ref17_New_door ?_
  unfold ref17_New_main
  refine H.makes useV (0, 0) E_sl_api_Use (n := n) (c := n) (fun _ => rfl) (by omega) rfl rfl (Nat.le_refl _) (by omega) (by omega) fun h1 b H1 => ⟨_, _, _, rfl, ?_⟩
  have H2 : Hs h1 (own (some ⟨b, 0, none⟩) n n T_api_Use 2 ((List.replicate n (0, 0)).flatMap useV) :: L) := H1.pt_own 0 (by
    rw [List.drop_zero, List.take_of_length_le (by rw [flat_len (sz := 2) (fun _ => rfl), List.length_replicate]; exact Nat.le_refl _)]) (by rw [flat_len (sz := 2) (fun _ => rfl), List.length_replicate]) (Nat.le_refl _) (by rw [flat_len (sz := 2) (fun _ => rfl), List.length_replicate]; omega)
  have H3 := H2.own_nil T_haversackref17_Held 4
  have H4 : Hs (h1.push (.cells #[.slice a n c, .slice (some ⟨b, 0, none⟩) n n, .slice none 0 0, .int .i64 0] T_haversackref17_Book (0, 0))) (pt h1.size T_haversackref17_Book [.slice a n c, .slice (some ⟨b, 0, none⟩) n n, .slice none 0 0, .int .i64 0] :: _) := H3.new
  refine kk _ h1.size (Rk_iff.2 ⟨some ⟨b, 0, none⟩, n, none, 0, q, ?_⟩)
  have e : (q0 ts).us.flatMap useV = (List.replicate n (0, 0)).flatMap useV := by rw [← hn]; rfl
  rw [e]
  exact (H4.m2).m1
end Go.Proofs.Ytladdcnfdbmnlaa
