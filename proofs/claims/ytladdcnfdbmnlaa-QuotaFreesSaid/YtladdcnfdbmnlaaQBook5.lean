/- Contracts of package quota: Check, New. -/
import Derived.Test.YtladdcnfdbmnlaaQBook4
set_option linter.unusedVariables false
set_option linter.unusedSimpArgs false
namespace Go.Proofs.Ytladdcnfdbmnlaa
open Go Go.HW
variable {h : Heap} {L : List Assn} {p : Nat} {s : QS} {Q : Value → Heap → Prop}
theorem Check_spec {a : Option Addr} {n c : Nat} {ts : List Ten} (hr : Gv L a (ts.flatMap tenV)) (hn : ts.length = n) (hmax : n < 2 ^ 62) (hz : ∀ t ∈ ts, t.name.size < 9223372036854775808)
    (H : Hs h L) (kk : ∀ h', Hs h' L → Q (.int .i64 (chk ts)) h') : SpecH PP F_quota_Check [.slice a n c] h Q := by
  refine quota_Check_door ?_
  unfold quota_Check_main
  unfold chk at kk
  refine (br_iff _ _ _).2 ⟨fun e => ?_, fun e => ?_⟩
  · rw [if_pos (by simp at e; omega)] at kk; exact kk h H
  · rw [if_neg (by simp at e; omega)] at kk
    have H1 : Hs (h.push (.map #[] 0)) (mp .string Value.bool h.size ([] : List (ByteArray × Bool)) :: L) := H.mp_new
    refine chk_loop hr hn hmax hz n 0 (seen := []) (by omega) H1 (fun m => rfl) (fun e1 h' H' => ?_) (fun e1 h' H' => ?_)
    · rw [quota_Check_at111010_X0]; rw [List.drop_zero] at e1; rw [e1] at kk; exact kk h' H'
    · rw [quota_Check_at111010_Xret]; rw [List.drop_zero] at e1; rw [e1] at kk; exact kk h' H'
def q0 (ts : List Ten) : QS := ⟨ts, List.replicate ts.length (0, 0), [], 0⟩
def accsN (ts : List Ten) (blks : List Nat) (i : Nat) : List Assn := (List.range i).map fun k => acc (q0 ts) (blks.getD k 0) k
theorem fnd_take {ts : List Ten} (hd : (ts.map (·.name)).Nodup) {i : Nat} (hi : i < ts.length) (m : ByteArray) : fnd (ts.take (i + 1)) m = if ts[i].name = m then some i else fnd (ts.take i) m := by
  unfold fnd
  rw [List.take_succ_eq_append_getElem hi, List.findIdx?_append]
  have hl : (ts.take i).length = i := by rw [List.length_take]; omega
  by_cases e : ts[i].name = m
  · rw [if_pos e]
    have : List.findIdx? (fun t : Ten => decide (t.name = m)) (ts.take i) = none := by
      rw [List.findIdx?_eq_none_iff]
      intro t ht
      rw [decide_eq_false_iff_not]
      intro h1
      obtain ⟨j, hj, rfl⟩ := List.getElem_of_mem ht
      rw [List.getElem_take] at h1
      have hj' : j < i := by omega
      have := (List.pairwise_iff_getElem.1 hd) j i (by simp; omega) (by simpa using hi) hj'
      simp only [List.getElem_map] at this
      exact this (h1.trans e.symm)
    rw [this]; simp [List.findIdx?_cons, e, hl]
  · rw [if_neg e]
    simp [List.findIdx?_cons, e]
theorem new_loop {a : Option Addr} {n c ma : Nat} {mh : Option Nat} {z : Int} {ts : List Ten} {K : Ex → Fr → Heap → Prop} (hr : Gv L a (ts.flatMap tenV)) (hn : ts.length = n) (hmax : n < 2 ^ 62) (hd : (ts.map (·.name)).Nodup)
    (k1 : ∀ h' blks al, (∀ m, mget al m = (fnd ts m).map (blks.getD · 0)) → Hs h' (pt p T_quota_Book [.map (some ma), .map mh, .int .i64 z] :: mp .string P_ ma al :: Sp (accsN ts blks n) :: L) → K (.exit 0) (quota_New_X0 ⟨p, 0, none⟩) h') :
    ∀ (k i : Nat) {blks : List Nat} {al : List (ByteArray × Nat)} {h : Heap}, i + k = n → blks.length = i → (∀ m, mget al m = (fnd (ts.take i) m).map (blks.getD · 0)) → Hs h (pt p T_quota_Book [.map (some ma), .map mh, .int .i64 z] :: mp .string P_ ma al :: Sp (accsN ts blks i) :: L) →
    quota_New_L111010 ⟨p, 0, none⟩ a n c n i K h := by
  intro k
  induction k with
  | zero =>
    intro i blks al h hi hb hal H
    refine quota_New_L111010_of (br_false (decide_eq_false (by omega)) ?_)
    rw [List.take_of_length_le (by omega)] at hal
    obtain rfl : i = n := by omega
    exact k1 _ _ _ hal H
  | succ k ih =>
    intro i blks al h hi hb hal H
    have hil : i < ts.length := by omega
    refine quota_New_L111010_of (br_true (decide_eq_true (by omega)) ?_)
    refine idxf E_sl_api_Tenant (l := ts) (φ := tenV) (x := ts[i]) (hr h H.tl.tl.tl) (fun _ => rfl) (by omega) (by omega) (by omega) (by simp) fun t ht => ⟨_, _, _, _, ht, ?_⟩
    have H1 : Hs (h.push (.cells #[.string ⟨#[]⟩, .string ⟨#[]⟩, .int .i64 0, .int .i64 0] T_api_Tenant (0, 0))) (pt h.size T_api_Tenant [.string ⟨#[]⟩, .string ⟨#[]⟩, .int .i64 0, .int .i64 0] :: _) := H.new
    generalize h.size = x5 at H1 ⊢
    refine H1.wrs fun h3 H3 => ⟨_, H3.m1.cell (off := 0) rfl, _, H3.cell (off := 0) rfl, _, H3.cell (off := 2) rfl, _, H3.cell (off := 3) rfl, ?_⟩
    have H4 : Hs (h3.push (.cells #[.int .i64 ts[i].mb, .int .i64 ts[i].me, .int .i64 0, .int .i64 0, .int .i64 0, .int .i64 0] T_quota_account (0, 0))) (pt h3.size T_quota_account [.int .i64 ts[i].mb, .int .i64 ts[i].me, .int .i64 0, .int .i64 0, .int .i64 0, .int .i64 0] :: _) := H3.new
    generalize h3.size = b at H4 ⊢
    have ea : pt b T_quota_account [.int .i64 ts[i].mb, .int .i64 ts[i].me, .int .i64 0, .int .i64 0, .int .i64 0, .int .i64 0] = acc (q0 ts) ((blks ++ [b]).getD i 0) i := by
      have e1 : (blks ++ [b]).getD i 0 = b := by rw [List.getD_eq_getElem?_getD, ← hb]; simp
      have e2 : (q0 ts).use i = (0, 0) := by simp only [QS.use, q0]; rw [List.getD_eq_getElem?_getD, List.getElem?_replicate]; split <;> rfl
      have e3 : (q0 ts).mb i = ts[i].mb := by simp only [QS.mb, q0]; rw [List.getD_eq_getElem?_getD, List.getElem?_eq_getElem hil]; rfl
      have e4 : (q0 ts).me i = ts[i].me := by simp only [QS.me, q0]; rw [List.getD_eq_getElem?_getD, List.getElem?_eq_getElem hil]; rfl
      unfold acc; rw [e1, e2, e3, e4]; rfl
    rw [ea] at H4
    have H5 := (H4.m1.tl).m2
    refine H5.mset U_map_string_p_quota_account K_str ts[i].name b rfl fun h6 H6 => ?_
    rw [inc (by omega)]
    have ec : accsN ts blks i = (List.range i).map fun k => acc (q0 ts) ((blks ++ [b]).getD k 0) k := by
      refine List.map_congr_left fun k hk => ?_
      have hk : k < blks.length := by rw [hb]; exact List.mem_range.1 hk
      rw [List.getD_eq_getElem?_getD, List.getD_eq_getElem?_getD, List.getElem?_append_left hk]
    refine ih (i + 1) (blks := blks ++ [b]) (al := HW.mset al ts[i].name b) (by omega) (by simp [hb]) (fun m => ?_) ?_
    · rw [mget_mset, fnd_take hd hil, hal]
      by_cases e : ts[i].name = m
      · rw [if_pos e, if_pos e, Option.map_some, List.getD_eq_getElem?_getD, ← hb]; simp
      · rw [if_neg e, if_neg e]
        cases ef : fnd (ts.take i) m with
        | none => rfl
        | some j =>
          have hj : j < blks.length := by have := fnd_lt ef; rw [List.length_take] at this; omega
          simp only [Option.map_some, List.getD_eq_getElem?_getD, List.getElem?_append_left hj]
    · have e7 : accsN ts (blks ++ [b]) (i + 1) = accsN ts blks i ++ [acc (q0 ts) ((blks ++ [b]).getD i 0) i] := by rw [ec]; unfold accsN; rw [List.range_succ, List.map_append]; rfl
      rw [e7]
      have H7 : Hs h6 (Sp (accsN ts blks i) :: ([acc (q0 ts) ((blks ++ [b]).getD i 0) i] ++ _)) := (H6.m1).m3
      have H8 := Hs.app.1 H7
      rw [← List.append_assoc] at H8
      have H9 := Hs.app.2 H8
      exact (H9.m2).m2.m1
theorem New_spec {a : Option Addr} {n c : Nat} {ts : List Ten} (hr : Gv L a (ts.flatMap tenV)) (hn : ts.length = n) (hmax : n < 2 ^ 62) (hz : ∀ t ∈ ts, t.name.size < 9223372036854775808)
    (H : Hs h L) (k0 : chk ts ≠ 0 → ∀ h', Hs h' L → Q (.tuple #[.pointer none, .int .i64 (chk ts)]) h')
    (k1 : chk ts = 0 → ∀ h' p blks, Hs h' (Bk p blks (q0 ts) :: L) → Q (.tuple #[P_ p, .int .i64 0]) h') : SpecH PP F_quota_New [.slice a n c] h Q := by
  refine quota_New_door ?_
  unfold quota_New_main
  refine Check_spec hr hn hmax hz H fun h1 H1 => ⟨_, rfl, ?_⟩
  by_cases e : chk ts = 0
  · refine br_false (by rw [e]; rfl) ?_
    have H2 : Hs (h1.push (.map #[] 0)) (mp .string P_ h1.size ([] : List (ByteArray × Nat)) :: L) := H1.mp_new
    have H3 : Hs ((h1.push (.map #[] 0)).push (.map #[] 0)) (mp (.int .i64) heldV (h1.push (.map #[] 0)).size ([] : List (Int × (Nat × Int × Int))) :: _) := H2.mp_new
    have H4 : Hs (((h1.push (.map #[] 0)).push (.map #[] 0)).push (.cells #[.map (some h1.size), .map (some (h1.push (.map #[] 0)).size), .int .i64 0] T_quota_Book (0, 0))) (pt ((h1.push (.map #[] 0)).push (.map #[] 0)).size T_quota_Book [.map (some h1.size), .map (some (h1.push (.map #[] 0)).size), .int .i64 0] :: _) := H3.new
    have q := chk_qi e
    refine new_loop (p := ((h1.push (.map #[] 0)).push (.map #[] 0)).size) (ma := h1.size) (mh := some (h1.push (.map #[] 0)).size) (z := 0) (L := mp (.int .i64) heldV (h1.push (.map #[] 0)).size ([] : List (Int × (Nat × Int × Int))) :: L) hr.cons hn hmax q.names (fun h' blks al hal H' => ?_) n 0 (blks := []) (al := []) (by omega) rfl (fun m => by simp [fnd, mget_nil]) ?_
    · rw [quota_New_at111010_X0]
      refine k1 e h' ((h1.push (.map #[] 0)).push (.map #[] 0)).size blks (Bk_iff.2 ⟨h1.size, (h1.push (.map #[] 0)).size, al, [], ⟨q, hal, fun id => rfl⟩, ?_⟩)
      have e9 : accsN ts blks n = accs (q0 ts) blks := by rw [← hn]; rfl
      rw [e9] at H'
      exact (H'.m3).r2
    · have H5 := Hs.app.2 (show Hs _ ([] ++ _) from H4.m2)
      exact (H5.m2).m2.m1
  · refine br_true (by simpa using e) (k0 e _ H1)
end Go.Proofs.Ytladdcnfdbmnlaa
