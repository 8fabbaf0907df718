/- Contracts of package hmac: with a key. -/
import Derived.Test.YtjliiiejcalglaaDoorHSum
set_option linter.unusedVariables false
set_option linter.unusedSimpArgs false
namespace Go.Proofs.YtjliiiejcalglaaDoor
open Go Go.HW Go.HW.Sha
variable {h : Heap} {L : List Assn} {Q : Value → Heap → Prop}
theorem xorb {a b : Nat} (ha : a < 256) (hb : b < 256) : bXor .u8 (a : Int) (b : Int) = ((a ^^^ b : Nat) : Int) := xor_u8 ha hb
theorem xor_lt {a b : Nat} (ha : a < 256) (hb : b < 256) : a ^^^ b < 256 := Nat.xor_lt_two_pow (n := 8) ha hb
section
variable {a : Option Addr} {n c i o t4 : Nat} {kk k0 : List Nat} {K : EP}
theorem mac_loop (t : KTabL L) (hk : k0.length = 64) (hx : ∀ x ∈ k0, x < 256) (fin : ∀ h', Hs h' (HashAt i (k0.map (· ^^^ 54)) :: HashAt o (k0.map (· ^^^ 92)) :: L) → K (.exit 0) (hmac_Mac.X0 a n c ⟨t4, 0, none⟩ (some ⟨i, 0, none⟩) (some ⟨o, 0, none⟩)) h') :
    ∀ (k j : Nat) {h : Heap}, j + k = 64 → Hs h (HashAt i ((k0.take j).map (· ^^^ 54)) :: HashAt o ((k0.take j).map (· ^^^ 92)) :: L) → hmac_Mac.L1 a n c ⟨t4, 0, none⟩ (some ⟨i, 0, none⟩) (some ⟨o, 0, none⟩) (nV k0) j K h := by
  intro k
  induction k with
  | zero =>
    intro j h hj H
    rw [List.take_of_length_le (by omega)] at H
    obtain rfl : j = 64 := by omega
    exact hmac_Mac.L1_of (br_false rfl (fin h H))
  | succ k ih =>
    intro j h hj H
    have hjl : j < k0.length := by omega
    have hkj := hx _ (List.getElem_mem hjl)
    have et : k0.take (j + 1) = k0.take j ++ [k0[j]] := List.take_succ_eq_append_getElem hjl
    refine hmac_Mac.L1_of (br_true (decide_eq_true (by omega)) ?_)
    refine aiv (j := j) (xs := nV k0) A_64_uint8 U_uint8 (by omega) (nV_get hjl) ⟨_, rfl, ?_⟩
    have x1 : bXor .u8 ((k0[j] : Nat) : Int) 54 = ((k0[j] ^^^ 54 : Nat) : Int) := xorb (b := 54) hkj (by decide)
    have x2 : bXor .u8 ((k0[j] : Nat) : Int) 92 = ((k0[j] ^^^ 92 : Nat) : Int) := xorb (b := 92) hkj (by decide)
    simp only [x1, x2, inc (show j < 2 ^ 62 by omega)]
    have H1 := H.new (t := T_uint8) (cs := #[.int .u8 ((k0[j] ^^^ 54 : Nat) : Int)]) (xs := nV [k0[j] ^^^ 54])
    refine Write_spec (xs := [k0[j] ^^^ 54]) t.cons.cons Gv.pt rfl (fun e => nomatch e) (by simpa using xor_lt hkj (by decide)) (by rw [List.length_map, List.length_take]; omega) H1.m1 fun h3 H3 => ⟨rfl, ?_⟩
    have H4 := (H3.m1.tl).new (t := T_uint8) (cs := #[.int .u8 ((k0[j] ^^^ 92 : Nat) : Int)]) (xs := nV [k0[j] ^^^ 92])
    refine Write_spec (L := pt h3.size T_uint8 (nV [k0[j] ^^^ 92]) :: HashAt i ((k0.take j).map (· ^^^ 54) ++ [k0[j] ^^^ 54]) :: L) (xs := [k0[j] ^^^ 92]) t.cons.cons Gv.pt rfl (fun e => nomatch e) (by simpa using xor_lt hkj (by decide)) (by rw [List.length_map, List.length_take]; omega) H4.m2 fun h5 H5 => ⟨rfl, ih (j + 1) (by omega) ?_⟩
    rw [et, List.map_append, List.map_append]
    exact (H5.m1.tl).m1
end
theorem Mac_spec {a ka : Option Addr} {n c kn kc : Nat} {xs k : List Nat} (t : KTabL L) (hr : Gv L a (nV xs)) (hn : xs.length = n) (hn0 : a = none → n = 0) (hx : ∀ x ∈ xs, x < 256) (hl : n < 2 ^ 29) (hkr : Gv L ka (nV k)) (hkn : k.length = kn) (hkn0 : ka = none → kn = 0) (hkx : ∀ x ∈ k, x < 256) (hkl : kn < 2 ^ 29) (H : Hs h L)
    (kk : ∀ h', Hs h' L → Q (.agg (nV (mac k xs)).toArray) h') : SpecH PP F_hmac_Mac [.slice ka kn kc, .slice a n c] h Q := by
  refine hmac_Mac.door ?_
  dsimp only
  have e0 : (Array.replicate 32 (Value.int .u8 0)) = (nV (List.replicate 32 0)).toArray := by rw [← Array.toList_inj]; simp [nV]
  have e1 : (Array.replicate 64 (Value.int .u8 0)) = (nV (List.replicate 64 0)).toArray := by rw [← Array.toList_inj]; simp [nV]
  have H1 := H.new (t := T_32_uint8) (cs := Array.replicate 32 (.int .u8 0)) (xs := nV (List.replicate 32 0)) e0
  generalize h.size = t4 at H1 ⊢
  generalize h.push (.cells (Array.replicate 32 (.int .u8 0)) T_32_uint8 (0, 0)) = h1 at H1 ⊢
  have H2 := H1.new (t := T_64_uint8) (cs := Array.replicate 64 (.int .u8 0)) (xs := nV (List.replicate 64 0)) e1
  generalize h1.size = b5 at H2 ⊢
  generalize h1.push (.cells (Array.replicate 64 (.int .u8 0)) T_64_uint8 (0, 0)) = h2 at H2 ⊢
  have J : ∀ {h' : Heap} {M : List Assn} {ka : Option Addr} {kn kc : Nat} {k' : List Nat}, k'.length = kn → kn ≤ 64 → (ka = none → kn = 0) → pad64 k' = key k → Gv M ka (nV k') → (∀ h', Hs h' M → Hs h' L) → KTabL M → Hs h' (pt b5 T_64_uint8 (nV (List.replicate 64 0)) :: pt t4 T_32_uint8 (nV (List.replicate 32 0)) :: M) → hmac_Mac.J1 ka kn kc a n c ⟨t4, 0, none⟩ ⟨b5, 0, none⟩ Q h' := by
    intro h' M ka kn kc k' hkn hkl hkn0 hkey hkr hM tM H
    refine hmac_Mac.J1_of (slArr A_64_uint8 ⟨_, _, _, rfl, ?_⟩)
    refine H.copy (off := 0) (ys := nV k') E_sl_uint8 (by rw [nV_len, nV_len, List.length_replicate]; omega) (hkr _ H.tl.tl) hkn0 (by rw [nV_len, hkn, Nat.min_eq_left hkl, Nat.mul_one]) (nV_one _) fun h3 H3 => ⟨_, rfl, ?_⟩
    have ek : (nV (List.replicate 64 0)).take 0 ++ nV k' ++ (nV (List.replicate 64 0)).drop (0 + (nV k').length) = nV (key k) := by
      rw [List.take_zero, List.nil_append, nV_len, ← hkey, pad64, nV_app, Nat.zero_add]
      congr 1
      rw [nV_rep, nV_rep, List.drop_replicate]
    rw [ek] at H3
    refine New_spec H3 fun h4 i H4 => ⟨_, rfl, ?_⟩
    refine New_spec H4 fun h5 o H5 => ⟨_, rfl, ?_⟩
    have hkl64 := key_len k
    refine ⟨_, by rw [nV_len]; exact hkl64, (H5.m2).rdc0, ?_⟩
    refine mac_loop tM.cons.cons hkl64 (key_lt hkx) (fun h6 H6 => ?_) 64 0 (by omega) (by rw [List.take_zero]; exact H5.m1)
    refine hmac_Mac.L1_X0 ?_
    have hrM : Gv M a (nV xs) := fun h H => hr h (hM h H)
    have l1 : ((key k).map (· ^^^ 54)).length = 64 := by rw [List.length_map, hkl64]
    have l2 : ((key k).map (· ^^^ 92)).length = 64 := by rw [List.length_map, hkl64]
    refine Write_spec tM.cons.cons.cons hrM.cons.cons.cons hn hn0 hx (by rw [l1]; omega) H6 fun h7 H7 => ⟨rfl, ?_⟩
    refine HSum_spec tM.cons.cons.cons (by rw [List.length_append, l1]; omega) H7 fun h8 H8 => ⟨_, rfl, ?_⟩
    have H9 := H8.new (t := T_32_uint8) (cs := Array.replicate 32 (.int .u8 0)) (xs := nV (List.replicate 32 0)) e0
    refine br_true (by simp [nV_len, digest_len]) (H9.wrs (fun h10 H10 => slArr A_32_uint8 ⟨_, _, _, rfl, ?_⟩) (by rw [nV_len, nV_len, digest_len]; rfl) (nV_one _))
    refine Write_spec (L := pt h8.size T_32_uint8 (nV (digest (List.map (· ^^^ 54) (key k) ++ xs))) :: HashAt i ((key k).map (· ^^^ 54) ++ xs) :: pt b5 T_64_uint8 (nV (key k)) :: pt t4 T_32_uint8 (nV (List.replicate 32 0)) :: M) tM.cons.cons.cons.cons Gv.pt (digest_len _) (fun e => nomatch e) (fun x => digest_lt) (by rw [l2]; omega) H10.m2 fun h11 H11 => ⟨rfl, ?_⟩
    refine HSum_spec tM.cons.cons.cons.cons (by rw [List.length_append, l2, digest_len]; omega) H11 fun h12 H12 => ⟨_, rfl, br_true (by simp [nV_len, digest_len]) ?_⟩
    refine H12.m4.wrs (fun h13 H13 => ⟨_, by rw [nV_len]; exact digest_len _, H13.rdc0, ?_⟩) (by rw [nV_len, nV_len, digest_len]; rfl) (nV_one _)
    exact kk h13 (hM _ H13.tl.tl.tl.tl.tl)
  refine (br_iff _ _ _).2 ⟨fun e => ?_, fun e => ?_⟩
  · have e := of_decide_eq_true e
    refine Sum_spec t.cons.cons hkr.cons.cons hkn hkn0 hkx (by omega) H2 fun h3 H3 => ⟨_, rfl, ?_⟩
    have H4 := H3.new (t := T_32_uint8) (cs := Array.replicate 32 (.int .u8 0)) (xs := nV (List.replicate 32 0)) e0
    refine br_true (by simp [nV_len, digest_len]) (H4.wrs (fun h5 H5 => slArr A_32_uint8 ⟨_, _, _, rfl, ?_⟩) (by rw [nV_len, nV_len, digest_len]; rfl) (nV_one _))
    refine J (M := pt h3.size T_32_uint8 (nV (digest k)) :: L) (k' := digest k) (digest_len _) (by omega) (fun e => nomatch e) (by unfold key; rw [if_pos (by omega)]) Gv.pt (fun h H => H.tl) t.cons (H5.r2)
  · have e := of_decide_eq_false e
    exact J (M := L) (k' := k) hkn (by omega) hkn0 (by unfold key; rw [if_neg (by omega)]) hkr (fun _ H => H) t H2
end Go.Proofs.YtjliiiejcalglaaDoor
