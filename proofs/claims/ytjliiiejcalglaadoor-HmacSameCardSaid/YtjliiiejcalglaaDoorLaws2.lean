/- The laws of digests: Sums. -/
import Derived.Test.YtjliiiejcalglaaDoorLaws
set_option linter.unusedVariables false
set_option linter.unusedSimpArgs false
namespace Go.Proofs.YtjliiiejcalglaaDoor
open Go Go.HW Go.HW.Sha
variable {h : Heap} {L : List Assn} {Q : Value → Heap → Prop}
theorem HmacSums_spec {ka ba : Option Addr} {kn kc bn bc : Nat} {k bs : List Nat} (tab : KTab h) (hkr : Rd h ka (nV k)) (hkn : k.length = kn) (hk0 : ka = none → kn = 0) (hkx : ∀ x ∈ k, x < 256) (hbr : Rd h ba (nV bs)) (hbn : bs.length = bn) (hb0 : ba = none → bn = 0) (hbx : ∀ x ∈ bs, x < 256)
    (HQ : ∀ h', ExtB h.size h h' → Q (.bool true) h') : SpecH PP F_law15_HmacSums [.slice ka kn kc, .slice ba bn bc] h Q := by
  refine law15_HmacSums.door ?_
  have t : KTabL [ro h] := KTabL.ro tab
  have H0 := Hs.start h
  have GB : ∀ {M : List Assn}, Gv (ro h :: M) ba (nV bs) := Gv.ro hbr
  have GK : ∀ {M : List Assn}, Gv (ro h :: M) ka (nV k) := Gv.ro hkr
  have J : ∀ b : Bool, (b = false → kn ≤ 262144 ∧ bn ≤ 262144) → law15_HmacSums.J1 ka kn kc ba bn bc b Q h := by
    intro b hb
    refine law15_HmacSums.J1_of ((br_iff _ _ _).2 ⟨fun _ => HQ _ H0.ro_below, fun e => ?_⟩)
    obtain ⟨b1, b2⟩ := hb e
    refine Lend_spec (xs := bs) hbr hbn (by omega) hb0 H0 (fun h1 x H1 => ⟨_, _, _, rfl, ?_⟩) GB
    refine Lend_spec (xs := k) (H1.m1.ro_rd hkr) hkn (by omega) hk0 H1 (fun h2 y H2 => ⟨_, _, _, rfl, ?_⟩) GK.cons
    have GX : ∀ {M : List Assn}, Gv (lent x bs :: M) (some ⟨x, 0, none⟩) (nV bs) := Gv_lent
    refine Sum_spec (xs := bs) t.cons.cons GX.cons hbn (fun e => nomatch e) hbx (by omega) H2 fun h3 H3 => ⟨_, rfl, ?_⟩
    refine lay32 (digest_len _) H3 fun h4 H4 => ?_
    refine Mac_spec (xs := bs) (k := k) t.cons.cons.cons GX.cons.cons hbn (fun e => nomatch e) hbx (by omega) Gv_lent.cons hkn (fun e => nomatch e) hkx (by omega) H4 fun h5 H5 => ⟨_, rfl, ?_⟩
    refine lay32 (by unfold mac; exact digest_len _) H5 fun h6 H6 => ?_
    -- [m, s, lent k, lent b, ro]
    refine Back_spec (xs := bs) GB.cons.cons.cons hbn (by omega) H6.m3 fun h7 H7 => ⟨_, rfl, ?_⟩
    refine Back_spec (xs := k) GK.cons.cons hkn (by omega) H7.m2 fun h8 H8 => ⟨_, rfl, ?_⟩
    refine awake_spec t.cons.cons H8 fun h9 H9 => ⟨_, rfl, br_true rfl (br_true rfl (br_true rfl ?_))⟩
    have lm : (mac k bs).length = 32 := by unfold mac; exact digest_len _
    have RS : ∀ {h' : Heap} {R : Value → Heap → Prop}, Hs h' (pt h5.size T_32_uint8 (nV (mac k bs)) :: pt h3.size T_32_uint8 (nV (digest bs)) :: [ro h]) → (∀ h2, Hs h2 (pt h5.size T_32_uint8 (nV (mac k bs)) :: pt h3.size T_32_uint8 (nV (digest bs)) :: [ro h]) → R (.agg (nV (digest bs)).toArray) h2) → SpecH PP F_ref15_Sum [.slice ba bn bc] h' R := fun H r =>
      RSum_spec (xs := bs) (H.m2.ro_rd hbr) hbn hb0 hbx (by omega) H GB.cons.cons r
    have RM : ∀ {h' : Heap} {R : Value → Heap → Prop}, Hs h' (pt h5.size T_32_uint8 (nV (mac k bs)) :: pt h3.size T_32_uint8 (nV (digest bs)) :: [ro h]) → (∀ h2, Hs h2 (pt h5.size T_32_uint8 (nV (mac k bs)) :: pt h3.size T_32_uint8 (nV (digest bs)) :: [ro h]) → R (.agg (nV (mac k bs)).toArray) h2) → SpecH PP F_ref15_Mac [.slice ka kn kc, .slice ba bn bc] h' R := fun H r =>
      RMac_spec (xs := bs) (k := k) GB.cons.cons hbn hb0 hbx (by omega) GK.cons.cons hkn hk0 hkx (by omega) H r
    have ds : ∀ {h' : Heap}, Hs h' (pt h5.size T_32_uint8 (nV (mac k bs)) :: pt h3.size T_32_uint8 (nV (digest bs)) :: [ro h]) → rdCells h' ⟨h3.size, 0, none⟩ 0 (nV (digest bs)) := fun H => H.m1.rdc0
    have dm : ∀ {h' : Heap}, Hs h' (pt h5.size T_32_uint8 (nV (mac k bs)) :: pt h3.size T_32_uint8 (nV (digest bs)) :: [ro h]) → rdCells h' ⟨h5.size, 0, none⟩ 0 (nV (mac k bs)) := fun H => H.rdc0
    have fin : ∀ {h' : Heap}, Hs h' (pt h5.size T_32_uint8 (nV (mac k bs)) :: pt h3.size T_32_uint8 (nV (digest bs)) :: [ro h]) → Q (.bool (decide (mac k bs = mac k bs))) h' := fun H => by rw [decide_eq_true rfl]; exact HQ _ H.tl.tl.ro_below
    have q1 : (nV (digest bs)).length = 32 := by rw [nV_len]; exact digest_len _
    have q2 : (nV (mac k bs)).length = 32 := by rw [nV_len]; exact lm
    repeat' first
      | exact trivial
      | exact fin (by assumption)
      | exact br_true (decide_eq_true rfl) (by skip; exact ⟨(by skip; refine ⟨_, q2, dm (by assumption), RM (by assumption) fun h2 H2 => ⟨_, rfl, arrEq A_32_uint8 U_uint8 g32 lm lm ⟨_, rfl, fin (by assumption)⟩⟩⟩), (by skip; refine RM (by assumption) fun h2 H2 => ⟨_, rfl, _, q2, dm (by assumption), arrEq A_32_uint8 U_uint8 g32 lm lm ⟨_, rfl, fin (by assumption)⟩⟩), trivial⟩)
      | refine ⟨_, q1, ds (by assumption), ?_⟩
      | refine RS (by assumption) fun h2 H2 => ⟨_, rfl, ?_⟩
      | refine arrEq A_32_uint8 U_uint8 g32 (digest_len _) (digest_len _) ⟨_, rfl, ?_⟩
      | refine And.intro ?_ ?_
  exact (br_iff _ _ _).2 ⟨fun _ => J _ (fun e => by cases e), fun e0 => J _ fun e => ⟨by have := of_decide_eq_false e0; omega, by have := of_decide_eq_false e; omega⟩⟩
end Go.Proofs.YtjliiiejcalglaaDoor
