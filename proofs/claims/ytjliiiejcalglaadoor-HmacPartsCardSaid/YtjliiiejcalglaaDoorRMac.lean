/- Contracts of the document's digest with a key. -/
import Derived.Test.YtjliiiejcalglaaDoorRSum
set_option linter.unusedVariables false
set_option linter.unusedSimpArgs false
namespace Go.Proofs.YtjliiiejcalglaaDoor
open Go Go.HW Go.HW.Sha
variable {h : Heap} {L : List Assn} {Q : Value → Heap → Prop}
section
variable {ka ba : Option Addr} {kn kc bn bc t4 : Nat} {k : List Nat} {K : EP}
theorem rm1 (hr : Gv L ka (nV k)) (hn : k.length = kn) (hk : kn ≤ 64) (hx : ∀ x ∈ k, x < 256) (fin : ∀ h' ia ic oa oc, Hs h' (own ia 64 ic T_uint8 1 (nV ((pad64 k).map (· ^^^ 54))) :: own oa 64 oc T_uint8 1 (nV ((pad64 k).map (· ^^^ 92))) :: L) → K (.exit 0) (ref15_Mac.X0 ba bn bc ⟨t4, 0, none⟩ ia 64 ic oa 64 oc) h') :
    ∀ (d j : Nat) {h : Heap} {ia oa : Option Addr} {ic oc : Nat}, j + d = 64 → Hs h (own ia j ic T_uint8 1 (nV (((pad64 k).take j).map (· ^^^ 54))) :: own oa j oc T_uint8 1 (nV (((pad64 k).take j).map (· ^^^ 92))) :: L) → ref15_Mac.L1 ka kn kc ba bn bc ⟨t4, 0, none⟩ ia j ic oa j oc j K h := by
  have hpl : (pad64 k).length = 64 := by unfold pad64; rw [List.length_append, List.length_replicate]; omega
  intro d
  induction d with
  | zero =>
    intro j h ia oa ic oc hj H
    obtain rfl : j = 64 := by omega
    rw [List.take_of_length_le (by omega)] at H
    exact ref15_Mac.L1_of (br_false rfl (fin h ia ic oa oc H))
  | succ d ih =>
    intro j h ia oa ic oc hj H
    have hjl : j < (pad64 k).length := by omega
    have et : (pad64 k).take (j + 1) = (pad64 k).take j ++ [(pad64 k)[j]] := List.take_succ_eq_append_getElem hjl
    have hlt : (pad64 k)[j] < 256 := by
      have := List.getElem_mem hjl
      unfold pad64 at this
      rcases List.mem_append.1 this with h | h
      · exact hx _ h
      · have := (List.mem_replicate.1 h).2; simp only [pad64] at this ⊢; omega
    have J : ref15_Mac.J2 ka kn kc ba bn bc ⟨t4, 0, none⟩ ia j ic oa j oc j ((pad64 k)[j] : Nat) K h := by
      have x1 : bXor .u8 (((pad64 k)[j] : Nat) : Int) 54 = (((pad64 k)[j] ^^^ 54 : Nat) : Int) := xorb (b := 54) hlt (by decide)
      have x2 : bXor .u8 (((pad64 k)[j] : Nat) : Int) 92 = (((pad64 k)[j] ^^^ 92 : Nat) : Int) := xorb (b := 92) hlt (by decide)
      refine ref15_Mac.J2_of ?_
      simp only [x1, x2, inc (show j < 2 ^ 62 by omega)]
      refine H.app_vals E_sl_uint8 (ys := nV [(pad64 k)[j] ^^^ 54]) (m := 1) rfl rfl (nV_one _) (fun h2 a2 c2 H2 => ⟨_, _, _, rfl, ?_⟩) (by omega) (by omega)
      refine H2.m1.app_vals E_sl_uint8 (ys := nV [(pad64 k)[j] ^^^ 92]) (m := 1) rfl rfl (nV_one _) (fun h4 a4 c4 H4 => ⟨_, _, _, rfl, ih (j + 1) (by omega) ?_⟩) (by omega) (by omega)
      rw [et, List.map_append, List.map_append]
      rw [← nV_app, ← nV_app] at H4
      exact H4.m1
    refine ref15_Mac.L1_of (br_true (decide_eq_true (by omega)) ((br_iff _ _ _).2 ⟨fun e => ?_, fun e => ?_⟩))
    · have e := of_decide_eq_true e
      have hjk : j < k.length := by omega
      have ej : (pad64 k)[j] = k[j] := by simp only [pad64]; rw [List.getElem_append_left hjk]
      refine idx E_sl_uint8 (hr _ H.tl.tl) (by omega) (by omega) (v := .int .u8 (k[j] : Nat)) (by rw [Int.toNat_natCast]; exact nV_get hjk) fun t ht => ⟨_, ht, ?_⟩
      rw [← ej]; exact J
    · have e := of_decide_eq_false e
      have ej : (pad64 k)[j] = 0 := by simp only [pad64]; rw [List.getElem_append_right (by omega)]; simp
      rw [ej] at J; exact J
end
theorem RMac_spec {a ka : Option Addr} {n c kn kc : Nat} {xs k : List Nat} (hr : Gv L a (nV xs)) (hn : xs.length = n) (hn0 : a = none → n = 0) (hx : ∀ x ∈ xs, x < 256) (hl : n < 2 ^ 29) (hkr : Gv L ka (nV k)) (hkn : k.length = kn) (hkn0 : ka = none → kn = 0) (hkx : ∀ x ∈ k, x < 256) (hkl : kn < 2 ^ 29) (H : Hs h L)
    (kk : ∀ h', Hs h' L → Q (.agg (nV (mac k xs)).toArray) h') : SpecH PP F_ref15_Mac [.slice ka kn kc, .slice a n c] h Q := by
  refine ref15_Mac.door ?_
  have e0 : (Array.replicate 32 (Value.int .u8 0)) = (nV (List.replicate 32 0)).toArray := by rw [← Array.toList_inj, nV_rep]; simp
  have H1 := H.new (t := T_32_uint8) (cs := Array.replicate 32 (.int .u8 0)) (xs := nV (List.replicate 32 0)) e0
  have J : ∀ {h' : Heap} {M : List Assn} {ka : Option Addr} {kn kc : Nat} {k' : List Nat} {t4 : Nat}, k'.length = kn → kn ≤ 64 → pad64 k' = key k → (∀ x ∈ k', x < 256) → Gv M ka (nV k') → (∀ h', Hs h' M → Hs h' L) → Hs h' (pt t4 T_32_uint8 (nV (List.replicate 32 0)) :: M) → ref15_Mac.J1 ka kn kc a n c ⟨t4, 0, none⟩ Q h' := by
    intro h' M ka kn kc k' t4 hkn hkl hkey hkx' hkr hM H
    have hrM : Gv M a (nV xs) := fun h H => hr h (hM h H)
    have hlt := key_lt hkx
    have hkl64 := key_len k
    refine ref15_Mac.J1_of ?_
    refine rm1 (k := k') (ba := a) (bn := n) (bc := c) hkr.cons hkn hkl hkx' (fun h2 ia ic oa oc H2 => ref15_Mac.L1_X0 ?_) 64 0 (h := h') (by omega) (((H.own_nil T_uint8 1).own_nil T_uint8 1))
    rw [hkey] at H2
    have ml : ∀ (c : Nat), c < 256 → ∀ x ∈ (key k).map (· ^^^ c), x < 256 := by
      intro c hc x hx
      obtain ⟨y, hy, rfl⟩ := List.mem_map.1 hx
      exact xor_lt (hlt y hy) hc
    have l1 : ((key k).map (· ^^^ 54)).length = 64 := by rw [List.length_map, hkl64]
    have l2 : ((key k).map (· ^^^ 92)).length = 64 := by rw [List.length_map, hkl64]
    refine H2.app_sl E_sl_uint8 (m := n) (ys := nV xs) (hrM.cons.cons.cons _ H2) (by rw [nV_len, hn, Nat.mul_one]) hn0 (nV_one _) (fun h3 a3 c3 H3 => ⟨_, _, _, rfl, ?_⟩) (by omega) (by omega)
    rw [← nV_app] at H3
    refine RSum_spec (xs := (key k).map (· ^^^ 54) ++ xs) H3.rd (by rw [List.length_append, l1, hn]) (fun e => by subst e; have := H3.own_none; have := H3.own_le; omega) (fun x hm => (List.mem_append.1 hm).elim (ml 54 (by decide) x) (hx x)) (by omega) H3 Gv.own fun h4 H4 => ⟨_, rfl, ?_⟩
    have H5 := H4.new (t := T_32_uint8) (cs := Array.replicate 32 (.int .u8 0)) (xs := nV (List.replicate 32 0)) e0
    refine br_true (by simp [nV_len, digest_len]) (H5.wrs (fun h6 H6 => slArr A_32_uint8 ⟨_, _, _, rfl, ?_⟩) (by rw [nV_len, nV_len, digest_len]; rfl) (nV_one _))
    refine (H6.m2).app_sl E_sl_uint8 (m := 32) (ys := nV (digest ((key k).map (· ^^^ 54) ++ xs))) (Gv.pt h6 H6) (by rw [nV_len, digest_len]) (fun e => nomatch e) (nV_one _) (fun h7 a7 c7 H7 => ⟨_, _, _, rfl, ?_⟩) (by omega) (by omega)
    rw [← nV_app] at H7
    refine RSum_spec (xs := (key k).map (· ^^^ 92) ++ digest ((key k).map (· ^^^ 54) ++ xs)) H7.rd (by rw [List.length_append, l2, digest_len]) (fun e => by subst e; have := H7.own_none; have := H7.own_le; omega) (fun x hm => (List.mem_append.1 hm).elim (ml 92 (by decide) x) digest_lt) (by omega) H7 Gv.own fun h8 H8 => ⟨_, rfl, br_true (by simp [nV_len, digest_len]) ?_⟩
    refine H8.m3.wrs (fun h9 H9 => ⟨_, by rw [nV_len]; exact digest_len _, H9.rdc0, ?_⟩) (by rw [nV_len, nV_len, digest_len]; rfl) (nV_one _)
    exact kk h9 (hM _ (H9.tl.tl.tl.tl))
  refine (br_iff _ _ _).2 ⟨fun e => ?_, fun e => ?_⟩
  · have e := of_decide_eq_true e
    refine RSum_spec (hkr.cons _ H1) hkn hkn0 hkx (by omega) H1 hkr.cons fun h3 H3 => ⟨_, rfl, ?_⟩
    have H4 := H3.new (t := T_32_uint8) (cs := Array.replicate 32 (.int .u8 0)) (xs := nV (List.replicate 32 0)) e0
    refine br_true (by simp [nV_len, digest_len]) (H4.wrs (fun h5 H5 => slArr A_32_uint8 ⟨_, _, _, rfl, ?_⟩) (by rw [nV_len, nV_len, digest_len]; rfl) (nV_one _))
    exact J (M := pt h3.size T_32_uint8 (nV (digest k)) :: L) (k' := digest k) (digest_len _) (by omega) (by unfold key; rw [if_pos (by omega)]) (fun x => digest_lt) Gv.pt (fun h H => H.tl) H5.m1
  · have e := of_decide_eq_false e
    exact J (M := L) (k' := k) hkn (by omega) (by unfold key; rw [if_neg (by omega)]) hkx hkr (fun _ H => H) H1
end Go.Proofs.YtjliiiejcalglaaDoor
