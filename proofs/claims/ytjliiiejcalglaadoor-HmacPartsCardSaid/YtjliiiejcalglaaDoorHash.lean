/- Contracts of package hmac: a hash that bytes have been written to; its digest. -/
import Derived.Test.YtjliiiejcalglaaDoorBlk
set_option linter.unusedVariables false
set_option linter.unusedSimpArgs false
namespace Go.Proofs.YtjliiiejcalglaaDoor
open Go Go.HW Go.HW.Sha
variable {h : Heap} {L : List Assn} {Q : Value → Heap → Prop}
theorem S8_len (s : S8) : s.l.length = 8 := rfl
def rest (pre : List Nat) : List Nat := pre.drop (64 * (pre.length / 64))
theorem rest_len (pre : List Nat) : (rest pre).length = pre.length % 64 := by unfold rest; rw [List.length_drop]; omega
def HashAt (d : Nat) (pre : List Nat) : Assn := fun m => ∃ ra rc, (∀ x ∈ pre, x < 256) ∧ Sp [pt d T_hmac_Hash (wsV (hb (pre.length / 64) iv pre).l ++ [.slice ra (rest pre).length rc, .int .u64 (pre.length : Nat)]), own ra (rest pre).length rc T_uint8 1 (nV (rest pre))] m
theorem HashAt_iff {d : Nat} {pre : List Nat} : Hs h (HashAt d pre :: L) ↔ ∃ ra rc, (∀ x ∈ pre, x < 256) ∧ Hs h (pt d T_hmac_Hash (wsV (hb (pre.length / 64) iv pre).l ++ [.slice ra (rest pre).length rc, .int .u64 (pre.length : Nat)]) :: own ra (rest pre).length rc T_uint8 1 (nV (rest pre)) :: L) := by
  unfold HashAt; simp only [Hs.ex, Hs.and, Hs.app, List.cons_append, List.nil_append]
abbrev P_ (p : Nat) : Value := .pointer (some ⟨p, 0, none⟩)
theorem New_spec (H : Hs h L) (kk : ∀ h' d, Hs h' (HashAt d [] :: L) → Q (P_ d) h') : SpecH PP F_hmac_New [] h Q := by
  refine hmac_New.door ?_
  have H1 := (H.own_nil T_uint8 1).new (t := T_hmac_Hash) (cs := #[(.int .u32 1779033703), (.int .u32 3144134277), (.int .u32 1013904242), (.int .u32 2773480762), (.int .u32 1359893119), (.int .u32 2600822924), (.int .u32 528734635), (.int .u32 1541459225), (.slice none 0 0), (.int .u64 0)]) (xs := wsV iv.l ++ [.slice none 0 0, .int .u64 0])
  exact kk _ _ (HashAt_iff.2 ⟨none, 0, (fun x hx => by cases hx), H1⟩)
section
variable {d : Nat} {K : EP} {all : List Nat}
theorem write_loop (t : KTabL L) (hx : ∀ x ∈ all, x < 256) (hl : all.length < 2 ^ 40) (kk : ∀ h', Hs h' (HashAt d all :: L) → K (.exit 0) hmac_Hash_Write.X0 h') :
    ∀ (k q : Nat) {h : Heap} {ra : Option Addr} {rc : Nat}, q + k = all.length / 64 → Hs h (pt d T_hmac_Hash (wsV (hb q iv all).l ++ [.slice ra (all.drop (64 * q)).length rc, .int .u64 (all.length : Nat)]) :: own ra (all.drop (64 * q)).length rc T_uint8 1 (nV (all.drop (64 * q))) :: L) → hmac_Hash_Write.L1 (some ⟨d, 0, none⟩) K h := by
  intro k
  induction k with
  | zero =>
    intro q h ra rc hq H
    obtain rfl : q = all.length / 64 := by omega
    have hr := rest_len all
    refine hmac_Hash_Write.L1_of ⟨_, _, _, H.cell (off := 8) rfl, br_false (decide_eq_false ?_) (kk h (HashAt_iff.2 ⟨ra, rc, hx, H⟩))⟩
    rw [List.length_drop]; omega
  | succ k ih =>
    intro q h ra rc hq H
    have hd : (all.drop (64 * q)).length = all.length - 64 * q := List.length_drop ..
    refine hmac_Hash_Write.L1_of ⟨_, _, _, H.cell (off := 8) rfl, br_true (decide_eq_true (by omega)) ⟨_, _, _, H.cell (off := 8) rfl, ?_⟩⟩
    refine cutG (L := own ra (all.drop (64 * q)).length rc T_uint8 1 (nV (all.drop (64 * q))) :: L) (lo := none) (hi := some (.int .i64 64)) (i := 0) (j := 64) E_sl_uint8 Gv.own rfl H.m1.own_le (fun e => by subst e; exact H.m1.own_none) (by omega) (by omega) rfl rfl fun a2 c2 g2 _ _ _ => ⟨_, _, _, rfl, ?_⟩
    refine Block_spec t.cons g2 (by rw [List.length_take, List.length_drop]; omega) rfl (fun x hm => hx x (List.mem_of_mem_drop (List.mem_of_mem_drop (List.mem_of_mem_take hm)))) H fun h3 H3 => ⟨rfl, ⟨_, _, _, H3.cell (off := 8) rfl, ?_⟩⟩
    refine H3.m1.own_cut (i := 64) E_sl_uint8 (by omega) fun a4 H4 => ⟨_, _, _, rfl, ?_⟩
    refine H4.m1.sto (off := 8) (by simp [wsV_len, S8_len]) fun h5 H5 => ih (q + 1) (ra := a4) (rc := rc - 64) (by omega) ?_
    have e1 : (nV (all.drop (64 * q))).drop (64 * 1) = nV (all.drop (64 * (q + 1))) := by simp only [nV, List.map_drop, List.drop_drop]; congr 1
    have e2 : (all.drop (64 * q)).length - 64 = (all.drop (64 * (q + 1))).length := by rw [List.length_drop, List.length_drop]; omega
    have e3 : blk (hb q iv all) (((all.drop (64 * q)).drop 0).take (64 - 0)) = hb (q + 1) iv all := by rw [hb_add q 1]; rfl
    rw [e1, e2, e3] at H5
    exact H5
end
theorem Write_spec {d n c : Nat} {a : Option Addr} {pre xs : List Nat} (t : KTabL L) (hr : Gv L a (nV xs)) (hn : xs.length = n) (hn0 : a = none → n = 0) (hx : ∀ x ∈ xs, x < 256) (hl : pre.length + n < 2 ^ 40) (H : Hs h (HashAt d pre :: L))
    (kk : ∀ h', Hs h' (HashAt d (pre ++ xs) :: L) → Q (.tuple #[]) h') : SpecH PP F_hmac_Hash_Write [P_ d, .slice a n c] h Q := by
  refine hmac_Hash_Write.door ?_
  obtain ⟨ra, rc, hp, H1⟩ := HashAt_iff.1 H
  have hq : (pre.length : Nat) < 2 ^ 40 := by omega
  refine br_false rfl ⟨_, H1.cell (off := 9) rfl, ?_⟩
  have w1 : IntKind.u64.wrap (n : Int) = (n : Int) := wrap_u64_id (by omega)
  have w2 : IntKind.u64.wrap ((pre.length : Int) + (n : Int)) = (((pre ++ xs).length : Nat) : Int) := by rw [wrap_u64_z (by omega) (by omega), List.length_append, hn]; simp
  simp only [w1, w2]
  refine H1.sto (off := 9) (by simp [wsV_len, S8_len]) fun h2 H2 => ⟨_, _, _, H2.cell (off := 8) rfl, ?_⟩
  refine H2.m1.app_sl E_sl_uint8 (m := n) (ys := nV xs) (hr _ H2.tl.tl) (by rw [nV_len, hn, Nat.mul_one]) hn0 (nV_one _) (fun h3 a3 c3 H3 => ⟨_, _, _, rfl, ?_⟩) (by rw [rest_len]; omega) (by rw [rest_len]; omega)
  refine H3.m1.sto (off := 8) (by simp [wsV_len, S8_len]) fun h4 H4 => ?_
  have hd : (pre ++ xs).drop (64 * (pre.length / 64)) = rest pre ++ xs := by rw [List.drop_append_of_le_length (by omega)]; rfl
  have e1 : (rest pre).length + n = ((pre ++ xs).drop (64 * (pre.length / 64))).length := by rw [hd, List.length_append, hn]
  have e2 : hb (pre.length / 64) iv pre = hb (pre.length / 64) iv (pre ++ xs) := (hb_app _ _ _ _ (by omega)).symm
  rw [← nV_app, ← hd, e1, e2] at H4
  refine write_loop t (fun x hm => (List.mem_append.1 hm).elim (hp x) (hx x)) (by rw [List.length_append]; omega) (fun h5 H5 => ?_) ((pre ++ xs).length / 64 - pre.length / 64) (pre.length / 64) (by rw [List.length_append]; omega) H4
  exact hmac_Hash_Write.L1_X0 (kk h5 H5)
theorem Write_nil {n c : Nat} {a : Option Addr} (kk : Q (.tuple #[]) h) : SpecH PP F_hmac_Hash_Write [.pointer none, .slice a n c] h Q := hmac_Hash_Write.door (br_true rfl kk)
end Go.Proofs.YtjliiiejcalglaaDoor
