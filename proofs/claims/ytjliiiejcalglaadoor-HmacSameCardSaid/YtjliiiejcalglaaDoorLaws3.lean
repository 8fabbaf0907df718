/- The laws of digests: Whole, Parts. -/
import Derived.Test.YtjliiiejcalglaaDoorLaws2
set_option linter.unusedVariables false
set_option linter.unusedSimpArgs false
namespace Go.Proofs.YtjliiiejcalglaaDoor
open Go Go.HW Go.HW.Sha
variable {h : Heap} {L : List Assn} {Q : Value → Heap → Prop}
theorem mac_len (k b : List Nat) : (mac k b).length = 32 := by unfold mac; exact digest_len _
section
variable {a ka : Option Addr} {n c kn kc : Nat} {k : List Nat} {K : EP} {more : Int}
theorem wide_loop (hk : k.length ≤ 262144) (kk : ∀ h' wa wc m, (m = 0 ∨ k.length + m ≤ 64) → Hs h' (own wa (k ++ List.replicate m 0).length wc T_uint8 1 (nV (k ++ List.replicate m 0)) :: L) → K (.exit 0) (law15_HmacWhole.X0 a n c ka kn kc wa (k ++ List.replicate m 0).length wc) h') :
    ∀ (d m : Nat) {h : Heap} {wa : Option Addr} {wc : Nat}, 64 ≤ (k ++ List.replicate m 0).length + d → (m = 0 ∨ k.length + m ≤ 64) → Hs h (own wa (k ++ List.replicate m 0).length wc T_uint8 1 (nV (k ++ List.replicate m 0)) :: L) → law15_HmacWhole.L1 a n c ka kn kc more wa (k ++ List.replicate m 0).length wc m K h := by
  intro d
  induction d with
  | zero =>
    intro m h wa wc hd hm H
    refine law15_HmacWhole.L1_of ((br_iff _ _ _).2 ⟨fun _ => br_false (decide_eq_false (by omega)) (kk h wa wc m hm H), fun _ => kk h wa wc m hm H⟩)
  | succ d ih =>
    intro m h wa wc hd hm H
    refine law15_HmacWhole.L1_of ((br_iff _ _ _).2 ⟨fun _ => (br_iff _ _ _).2 ⟨fun e => ?_, fun _ => kk h wa wc m hm H⟩, fun _ => kk h wa wc m hm H⟩)
    have e := of_decide_eq_true e
    have hl : (k ++ List.replicate m 0).length = k.length + m := by simp
    have e1 : k ++ List.replicate m 0 ++ [0] = k ++ List.replicate (m + 1) 0 := by rw [List.append_assoc, ← List.replicate_succ']
    have e2 : (k ++ List.replicate m 0).length + 1 = (k ++ List.replicate (m + 1) 0).length := by simp; omega
    refine H.app_vals E_sl_uint8 (ys := nV [0]) (m := 1) rfl rfl (nV_one _) (fun h2 a2 c2 H2 => ⟨_, _, _, rfl, ?_⟩) (by omega) (by omega)
    rw [← nV_app, e1, e2] at H2
    simp only [inc (show m < 2 ^ 62 by omega), e2]
    exact ih (m + 1) (by omega) (by right; omega) H2
end
theorem HmacWhole_spec {aa ba ka : Option Addr} {an ac bn bc kn kc : Nat} {as1 bs k : List Nat} {more : Int} (tab : KTab h) (har : Rd h aa (nV as1)) (han : as1.length = an) (ha0 : aa = none → an = 0) (hax : ∀ x ∈ as1, x < 256) (hbr : Rd h ba (nV bs)) (hbn : bs.length = bn) (hb0 : ba = none → bn = 0) (hbx : ∀ x ∈ bs, x < 256) (hkr : Rd h ka (nV k)) (hkn : k.length = kn) (hk0 : ka = none → kn = 0) (hkx : ∀ x ∈ k, x < 256)
    (HQ : ∀ h', ExtB h.size h h' → Q (.bool true) h') : SpecH PP F_law15_HmacWhole [.slice aa an ac, .slice ba bn bc, .slice ka kn kc, .int .i64 more] h Q := by
  refine law15_HmacWhole.door ?_
  have t : KTabL [ro h] := KTabL.ro tab
  have H0 := Hs.start h
  have GA : ∀ {M : List Assn}, Gv (ro h :: M) aa (nV as1) := Gv.ro har
  have GB : ∀ {M : List Assn}, Gv (ro h :: M) ba (nV bs) := Gv.ro hbr
  have GK : ∀ {M : List Assn}, Gv (ro h :: M) ka (nV k) := Gv.ro hkr
  have J2 : ∀ {h' : Heap}, an ≤ 262144 → kn ≤ 262144 → Hs h' [ro h] → law15_HmacWhole.J2 aa an ac ka kn kc more false Q h' := by
    intro h' l1 l2 H
    refine law15_HmacWhole.J2_of (br_false rfl ?_)
    refine (H.own_nil T_uint8 1).app_sl E_sl_uint8 (m := kn) (ys := nV k) (H.ro_rd hkr) (by rw [nV_len, hkn, Nat.mul_one]) hk0 (nV_one _) (fun h2 a2 c2 H2 => ⟨_, _, _, rfl, ?_⟩) (by omega) (by omega)
    have e1 : [] ++ nV k = nV (k ++ List.replicate 0 0) := by simp
    have e2 : 0 + kn = (k ++ List.replicate 0 0).length := by simp [hkn]
    rw [e1, e2] at H2
    rw [e2]
    refine wide_loop (K := law15_HmacWhole.K3 Q) (by omega) (fun h3 wa wc m hm H3 => law15_HmacWhole.L1_X0 ?_) 64 0 (by omega) (.inl rfl) H2
    have hwx : ∀ x ∈ k ++ List.replicate m 0, x < 256 := fun x hx => (List.mem_append.1 hx).elim (hkx x) fun h => by rw [(List.mem_replicate.1 h).2]; decide
    have hwl : (k ++ List.replicate m 0).length < 2 ^ 29 := by rw [List.length_append, List.length_replicate]; omega
    refine awake_spec t.cons H3 fun h4 H4 => ⟨_, rfl, br_true rfl ?_⟩
    refine Mac_spec (xs := as1) (k := k ++ List.replicate m 0) t.cons GA.cons han ha0 hax (by omega) Gv.own rfl (fun e => by subst e; have := H4.own_none; have := H4.own_le; omega) hwx hwl H4 fun h5 H5 => ⟨_, rfl, ?_⟩
    refine Mac_spec (xs := as1) (k := k) t.cons GA.cons han ha0 hax (by omega) GK.cons hkn hk0 hkx (by omega) H5 fun h6 H6 => ⟨_, rfl, ?_⟩
    have em : mac (k ++ List.replicate m 0) as1 = mac k as1 := by
      rcases hm with rfl | hm
      · simp
      · unfold mac; rw [key_wide hm]
    refine arrEq A_32_uint8 U_uint8 g32 (mac_len _ _) (mac_len _ _) ⟨_, rfl, ?_⟩
    rw [decide_eq_true em]
    exact HQ _ H6.tl.ro_below
  have J : ∀ b : Bool, (b = false → an ≤ 262144 ∧ bn ≤ 262144 ∧ kn ≤ 262144) → law15_HmacWhole.J1 aa an ac ba bn bc ka kn kc more b Q h := by
    intro b hb
    refine law15_HmacWhole.J1_of ((br_iff _ _ _).2 ⟨fun _ => HQ _ H0.ro_below, fun e => ?_⟩)
    obtain ⟨l1, l2, l3⟩ := hb e
    refine New_spec H0 fun h1 d H1 => ⟨_, rfl, br_false rfl ?_⟩
    refine Write_spec t GA han ha0 hax (by simp only [List.length_nil]; omega) H1 fun h2 H2 => ⟨rfl, ?_⟩
    refine Write_spec t GB hbn hb0 hbx (by simp only [List.length_append, List.length_nil]; omega) H2 fun h3 H3 => ⟨rfl, ?_⟩
    refine (H3.own_nil T_uint8 1).app_sl E_sl_uint8 (m := an) (ys := nV as1) (H3.tl.ro_rd har) (by rw [nV_len, han, Nat.mul_one]) ha0 (nV_one _) (fun h4 a4 c4 H4 => ⟨_, _, _, rfl, ?_⟩) (by omega) (by omega)
    refine H4.app_sl E_sl_uint8 (m := bn) (ys := nV bs) (H4.tl.tl.ro_rd hbr) (by rw [nV_len, hbn, Nat.mul_one]) hb0 (nV_one _) (fun h5 a5 c5 H5 => ⟨_, _, _, rfl, ?_⟩) (by omega) (by omega)
    have ew : [] ++ nV as1 ++ nV bs = nV ([] ++ as1 ++ bs) := by rw [List.nil_append, List.nil_append, nV_app]
    rw [ew] at H5
    have hwx : ∀ x ∈ [] ++ as1 ++ bs, x < 256 := fun x hx => (List.mem_append.1 hx).elim (fun h => hax x (by simpa using h)) (hbx x)
    have hwl : ([] ++ as1 ++ bs).length = 0 + an + bn := by simp [han, hbn]
    refine Sum_spec (xs := [] ++ as1 ++ bs) t.cons.cons Gv.own hwl (fun e => by subst e; have := H5.own_none; have := H5.own_le; omega) hwx (by omega) H5 fun h6 H6 => ⟨_, rfl, ?_⟩
    refine lay32 (digest_len _) H6 fun h7 H7 => ?_
    -- [whole, own, hash, ro]
    have H8 := H7.m2
    clear H7
    generalize [] ++ as1 ++ bs = w at *
    have SM : ∀ {h' : Heap} {R : Value → Heap → Prop}, Hs h' (HashAt d w :: pt h6.size T_32_uint8 (nV (digest w)) :: own a5 (0 + an + bn) c5 T_uint8 1 (nV w) :: [ro h]) → (∀ h2, Hs h2 (HashAt d w :: pt h6.size T_32_uint8 (nV (digest w)) :: own a5 (0 + an + bn) c5 T_uint8 1 (nV w) :: [ro h]) → R (.agg (nV (digest w)).toArray) h2) → SpecH PP F_hmac_Hash_Sum [P_ d] h' R := fun H r =>
      HSum_spec t.cons.cons (by omega) H r
    have rd : ∀ {h' : Heap}, Hs h' (HashAt d w :: pt h6.size T_32_uint8 (nV (digest w)) :: own a5 (0 + an + bn) c5 T_uint8 1 (nV w) :: [ro h]) → rdCells h' ⟨h6.size, 0, none⟩ 0 (nV (digest w)) := fun H => H.m1.rdc0
    have q1 : (nV (digest w)).length = 32 := by rw [nV_len]; exact digest_len _
    have fin : ∀ {h' : Heap}, Hs h' (HashAt d w :: pt h6.size T_32_uint8 (nV (digest w)) :: own a5 (0 + an + bn) c5 T_uint8 1 (nV w) :: [ro h]) → law15_HmacWhole.J2 aa an ac ka kn kc more (!(decide (digest w = digest w))) Q h' := fun H => by
      rw [decide_eq_true rfl]; exact J2 l1 l3 H.tl.tl.tl
    have SA : ∀ {h' : Heap} {R : Value → Heap → Prop}, Hs h' (HashAt d w :: pt h6.size T_32_uint8 (nV (digest w)) :: own a5 (0 + an + bn) c5 T_uint8 1 (nV w) :: [ro h]) → (∀ h2, Hs h2 (HashAt d w :: pt h6.size T_32_uint8 (nV (digest w)) :: own a5 (0 + an + bn) c5 T_uint8 1 (nV w) :: [ro h]) → R (.bool (decide (digest w = digest w))) h2) → SpecH PP F_hmac_Same [.agg (nV (digest w)).toArray, .agg (nV (digest w)).toArray] h' R := fun H r =>
      HSame_spec (digest_len _) (digest_len _) H r
    have br0 : ∀ {p q : Prop}, q → br (!decide (digest w = digest w)) p q := fun hq => br_false (by simp) hq
    repeat' first
      | exact trivial
      | exact fin (by assumption)
      | refine SM (by assumption) fun h2 H2 => ⟨_, rfl, ?_⟩
      | refine SA (by assumption) fun h2 H2 => ⟨_, rfl, ?_⟩
      | refine ⟨_, q1, rd (by assumption), ?_⟩
      | refine arrNe A_32_uint8 U_uint8 g32 (digest_len _) (digest_len _) ⟨_, rfl, br0 ?_⟩
      | refine And.intro ?_ ?_
  exact (br_iff _ _ _).2 ⟨fun _ => J _ (fun e => by cases e), fun e0 => (br_iff _ _ _).2 ⟨fun _ => J _ (fun e => by cases e), fun e1 => J _ fun e => ⟨by have := of_decide_eq_false e0; omega, by have := of_decide_eq_false e1; omega, by have := of_decide_eq_false e; omega⟩⟩⟩
end Go.Proofs.YtjliiiejcalglaaDoor
