/- Contracts of package quota: reservations. -/
import Derived.Test.YtladdcnfdbmnlaaQBook
set_option linter.unusedVariables false
set_option linter.unusedSimpArgs false
namespace Go.Proofs.Ytladdcnfdbmnlaa
open Go Go.HW
variable {h : Heap} {L : List Assn} {p : Nat} {blks : List Nat} {s : QS} {Q : Value → Heap → Prop}
theorem pos_le {x y : Int} : pos x ≤ y ↔ ¬ (if x > 0 then x else 0) > y := by unfold pos; omega
/-- A state in which one account has turned. -/
theorem Bk_turn {s' : QS} {ma mh k : Nat} {al : List (ByteArray × Nat)} {hl : List (Int × (Nat × Int × Int))} (hk : k < s.ts.length) (hts : s'.ts = s.ts) (e : ∀ j, j ≠ k → ∀ b, acc s' b j = acc s b j) (b : BkP s' blks al hl)
    (H : Hs h (pt p T_quota_Book [.map (some ma), .map (some mh), .int .i64 s'.last] :: mp .string P_ ma al :: mp (.int .i64) heldV mh hl :: acc s' (blks.getD k 0) k :: Sp ((accs s blks).eraseIdx k) :: L)) : Hs h (Bk p blks s' :: L) := by
  have H1 := Hs.unfocus (A := acc s' (blks.getD k 0) k) (As := accs s blks) (i := k) (by simpa [accs] using hk) (H.m3.m4.m1)
  rw [accs_set hts hk e] at H1
  exact Bk_iff.2 ⟨ma, mh, al, hl, b, H1.r3⟩
theorem fdH_app {l : List Hd} {x : Hd} {id : Int} (hx : ∀ y ∈ l, y.id ≠ x.id) : fdH (l ++ [x]) id = if (x.id : Int) = id then some x else fdH l id := by
  unfold fdH
  rw [List.find?_append]
  by_cases e : (x.id : Int) = id
  · rw [if_pos e]
    have : l.find? (fun x => decide ((x.id : Int) = id)) = none := by
      rw [List.find?_eq_none]; intro y hy; have := hx y hy; simp; omega
    rw [this]; simp [e]
  · rw [if_neg e]; simp [e]
theorem fdH_gone {l : List Hd} {id j : Int} : fdH (goneH l id) j = if id = j then none else fdH l j := by
  unfold fdH goneH
  rw [List.find?_filter]
  split
  · rename_i e; subst e
    rw [List.find?_eq_none]; intro y hy; simp
  · rename_i e
    congr 1; funext y
    by_cases hy : (y.id : Int) = j
    · simp [hy, Ne.symm e]
    · simp [hy]
theorem Reserve_spec {n : ByteArray} {mb me : Int} (H : Hs h (Bk p blks s :: L)) (hlast : s.last < 2 ^ 40)
    (k1 : ∀ h', Hs h' (Bk p blks s :: L) → fnd s.ts n = none → Q (.tuple #[.int .i64 0, .int .i64 170]) h')
    (k2 : ∀ h' k, Hs h' (Bk p blks s :: L) → fnd s.ts n = some k → ¬ (-1000000000 ≤ mb ∧ mb ≤ 1000000000 ∧ -1000000000 ≤ me ∧ me ≤ 1000000000) → Q (.tuple #[.int .i64 0, .int .i64 1]) h')
    (k3 : ∀ h' k, Hs h' (Bk p blks s :: L) → fnd s.ts n = some k → (-1000000000 ≤ mb ∧ mb ≤ 1000000000 ∧ -1000000000 ≤ me ∧ me ≤ 1000000000) → ¬ (pos mb ≤ (s.left k).1 ∧ pos me ≤ (s.left k).2) → Q (.tuple #[.int .i64 0, .int .i64 171]) h')
    (k4 : ∀ h' k, Hs h' (Bk p blks (s.res k mb me) :: L) → fnd s.ts n = some k → (-1000000000 ≤ mb ∧ mb ≤ 1000000000 ∧ -1000000000 ≤ me ∧ me ≤ 1000000000) → (pos mb ≤ (s.left k).1 ∧ pos me ≤ (s.left k).2) → Q (.tuple #[.int .i64 ((s.last + 1 : Nat) : Int), .int .i64 0]) h') :
    SpecH PP F_quota_Book_Reserve [P_ p, .string n, .agg #[.int .i64 mb, .int .i64 me]] h Q := by
  refine quota_Book_Reserve_door ?_
  unfold quota_Book_Reserve_main
  have H1 : Hs (h.push (.cells #[.int .i64 mb, .int .i64 me] T_api_Use (0, 0))) (pt h.size T_api_Use [.int .i64 mb, .int .i64 me] :: Bk p blks s :: L) := H.new
  generalize hmm : h.size = mm at H1 ⊢
  obtain ⟨ma, mh, al, hl, b, H2⟩ := Bk_iff.1 H1.m1
  refine find_open H2 ?_
  cases e : fnd s.ts n with
  | none => rw [fnd_none b e]; exact ⟨_, _, rfl, br_true rfl (k1 _ H1.tl e)⟩
  | some k =>
    rw [fnd_some b e]
    have hk := fnd_lt e
    refine ⟨_, _, rfl, br_false rfl ⟨_, H1.cell (off := 0) rfl, _, H1.cell (off := 1) rfl, ?_⟩⟩
    refine (br_iff _ _ _).2 ⟨fun w => quota_Book_Reserve_J11101_of (br_true rfl (k2 _ k H1.tl e ?_)), fun w => ⟨_, H1.cell (off := 0) rfl, _, H1.cell (off := 1) rfl, quota_Book_Reserve_J11101_of ((br_iff _ _ _).2 ⟨fun w2 => k2 _ k H1.tl e ?_, fun w2 => ?_⟩)⟩⟩
    · have w := of_decide_eq_true w; split at w <;> omega
    · have w2 := of_decide_eq_true w2; split at w2 <;> omega
    have hin : -1000000000 ≤ mb ∧ mb ≤ 1000000000 ∧ -1000000000 ≤ me ∧ me ≤ 1000000000 := by
      have w := of_decide_eq_false w; have w2 := of_decide_eq_false w2
      split at w <;> split at w2 <;> omega
    clear w w2
    refine left_spec b.q hk (H2.m3.focus (accs_get hk)) fun h3 H3 => ⟨_, _, rfl, ?_⟩
    have H4 : Hs (h3.push (.cells #[.int .i64 0, .int .i64 0] T_api_Use (0, 0))) (pt h3.size T_api_Use [.int .i64 0, .int .i64 0] :: _) := H3.new
    refine H4.wrs fun h5 H5 => ?_
    have H6 := H5.m6
    refine ⟨_, H6.cell (off := 0) rfl, _, H5.cell (off := 0) rfl, ?_⟩
    -- what follows, if there is not enough left
    have no : ¬ (pos mb ≤ (s.left k).1 ∧ pos me ≤ (s.left k).2) → quota_Book_Reserve_J1111011 (some ⟨p, 0, none⟩) ⟨mm, 0, none⟩ (some ⟨blks.getD k 0, 0, none⟩) true Q h5 := fun hno =>
      quota_Book_Reserve_J1111011_of (br_true rfl (k3 _ k (by
        have := Hs.unfocus (by simpa [accs] using hk) H5.tl
        rw [accs_set rfl hk (fun _ _ _ => rfl)] at this
        exact (Bk_iff.2 ⟨ma, mh, al, hl, b, this.r3⟩).m1.tl) e hin hno))
    refine (br_iff _ _ _).2 ⟨fun w => no fun hh => (pos_le.1 hh.1) (of_decide_eq_true w), fun w1 => ⟨_, H6.cell (off := 1) rfl, _, H5.cell (off := 1) rfl, ?_⟩⟩
    cases w2 : decide ((if me > 0 then me else 0) > (s.left k).2) with
    | true => exact no fun hh => (pos_le.1 hh.2) (of_decide_eq_true w2)
    | false =>
      have hfit : pos mb ≤ (s.left k).1 ∧ pos me ≤ (s.left k).2 := ⟨pos_le.2 (of_decide_eq_false w1), pos_le.2 (of_decide_eq_false w2)⟩
      have w3 : IntKind.i64.wrap ((s.last : Int) + 1) = ((s.last + 1 : Nat) : Int) := inc (by omega)
      have q' := b.q.res hk ⟨hin.1, hin.2.1⟩ hin.2.2 hfit.1 hfit.2
      have u1 := q'.usB k hk
      have u2 := q'.usE k hk
      simp only [QS.res, hB_app, hB, hE_app, hE, if_true] at u1 u2
      have n1 := hB_nonneg s.hd k
      have n2 := hE_nonneg s.hd k
      have p1 := pos_nonneg mb
      have p2 := pos_nonneg me
      have w4 : IntKind.i64.wrap (hB s.hd k + (if mb > 0 then mb else 0)) = hB (s.res k mb me).hd k := by
        show IntKind.i64.wrap (hB s.hd k + pos mb) = _
        simp only [QS.res, hB_app, hB, if_true]; rw [wrap_i64_z (by omega) (by omega)]; omega
      have w5 : IntKind.i64.wrap (hE s.hd k + (if me > 0 then me else 0)) = hE (s.res k mb me).hd k := by
        show IntKind.i64.wrap (hE s.hd k + pos me) = _
        simp only [QS.res, hE_app, hE, if_true]; rw [wrap_i64_z (by omega) (by omega)]; omega
      refine quota_Book_Reserve_J1111011_of (br_false rfl ?_)
      -- pt book first
      have G := H5.tl.m2
      refine ⟨_, G.cell (off := 2) rfl, G.sto (off := 2) (by simp) fun h6 G1 => ?_⟩
      simp only [w3, List.set_cons_succ, List.set_cons_zero] at G1
      have Gm := G1.m5
      refine ⟨_, G1.cell (off := 1) rfl, _, G1.cell (off := 2) rfl, _, _, Gm.rdo 0, ?_⟩
      refine Hs.mset G1.m4 U_map_int_quota_held K_int ((s.last + 1 : Nat) : Int) (blks.getD k 0, mb, me) rfl fun h7 G2 => ?_
      have G3 := G2.m2
      refine ⟨_, G3.cell (off := 4) rfl, _, G2.m5.cell (off := 0) rfl, G3.sto (off := 4) (by simp) fun h8 G4 => ?_⟩
      refine ⟨_, G4.cell (off := 5) rfl, _, G4.m5.cell (off := 1) rfl, G4.sto (off := 5) (by simp) fun h9 G5 => ?_⟩
      simp only [w4, w5, List.set_cons_succ, List.set_cons_zero] at G5
      refine ⟨_, G5.m2.cell (off := 2) rfl, k4 _ k ?_ e hin hfit⟩
      have hl' : BkP (s.res k mb me) blks al (HW.mset hl ((s.last + 1 : Nat) : Int) (blks.getD k 0, mb, me)) := ⟨q', b.al, fun id => by
        rw [mget_mset, b.hl]
        simp only [QS.res]
        rw [fdH_app (fun y hy => by have := (b.q.ks y hy).2.2.2.2.2; simp only; omega)]
        split <;> rfl⟩
      have other : ∀ j, j ≠ k → ∀ bb, acc (s.res k mb me) bb j = acc s bb j := by
        intro j hj bb
        unfold acc
        have e1 : hB (s.res k mb me).hd j = hB s.hd j := by simp only [QS.res, hB_app, hB, if_neg (Ne.symm hj)]; omega
        have e2 : hE (s.res k mb me).hd j = hE s.hd j := by simp only [QS.res, hE_app, hE, if_neg (Ne.symm hj)]; omega
        rw [e1, e2]; rfl
      exact (Bk_turn (s := s) (s' := s.res k mb me) hk rfl other hl' (L := _ :: L) (G5.m3.m1.m2.m4.m4)).m1.tl
theorem Free_spec {id : Int} (H : Hs h (Bk p blks s :: L))
    (k1 : ∀ h', Hs h' (Bk p blks s :: L) → fdH s.hd id = none → Q (.int .i64 172) h')
    (k2 : ∀ h' x, Hs h' (Bk p blks (s.free id) :: L) → fdH s.hd id = some x → Q (.int .i64 0) h') : SpecH PP F_quota_Book_Free [P_ p, .int .i64 id] h Q := by
  refine quota_Book_Free_door ?_
  unfold quota_Book_Free_main
  obtain ⟨ma, mh, al, hl, b, H1⟩ := Bk_iff.1 H
  refine br_false rfl ⟨_, H1.cell (off := 1) rfl, H1.m2.lookup2 U_map_int_quota_held K_int Z_held id ?_⟩
  cases e : fdH s.hd id with
  | none =>
    rw [b.hl, e]
    refine ⟨_, _, _, _, rfl, ?_⟩
    have H2 : Hs (h.push (.cells #[.pointer none, .int .i64 0, .int .i64 0] T_quota_held (0, 0))) (pt h.size T_quota_held [.pointer none, .int .i64 0, .int .i64 0] :: _) := H.new
    exact H2.wrs fun h3 H3 => br_true rfl (k1 _ H3.tl e)
  | some x =>
    rw [b.hl, e]
    have hx := b.q.ks x (fdH_mem e).1
    have hk := hx.1
    refine ⟨_, _, _, _, rfl, ?_⟩
    have H2 : Hs (h.push (.cells #[.pointer none, .int .i64 0, .int .i64 0] T_quota_held (0, 0))) (pt h.size T_quota_held [.pointer none, .int .i64 0, .int .i64 0] :: _) := H1.new
    refine H2.wrs fun h3 H3 => br_false rfl ⟨_, H3.m1.cell (off := 1) rfl, ?_⟩
    refine H3.m3.mdel U_map_int_quota_held K_int id fun h4 H4 => ⟨rfl, ?_⟩
    have G := (H4.m4).focus (accs_get (s := s) (blks := blks) hk)
    -- acc, rest, hl, xh, book, al
    have c0 := G.m3.cell (off := 0) rfl
    have c1 := G.m3.cell (off := 1) rfl
    have gs := gone_sum b.q.ids e x.k
    simp only [if_true] at gs
    have n1 := hB_nonneg (goneH s.hd id) x.k
    have n2 := hE_nonneg (goneH s.hd id) x.k
    have u1 := b.q.usB x.k hk
    have u2 := b.q.usE x.k hk
    have p1 := pos_nonneg x.b
    have p2 := pos_nonneg x.e
    have w4 : IntKind.i64.wrap (hB s.hd x.k - (if x.b > 0 then x.b else 0)) = hB (s.free id).hd x.k := by
      show IntKind.i64.wrap (hB s.hd x.k - pos x.b) = _
      simp only [QS.free, gs.1]; rw [wrap_i64_z (by omega) (by omega)]
    have w5 : IntKind.i64.wrap (hE s.hd x.k - (if x.e > 0 then x.e else 0)) = hE (s.free id).hd x.k := by
      show IntKind.i64.wrap (hE s.hd x.k - pos x.e) = _
      simp only [QS.free, gs.2]; rw [wrap_i64_z (by omega) (by omega)]
    refine ⟨_, c0, _, G.cell (off := 4) rfl, _, c1, G.sto (off := 4) (by simp) fun h5 G1 => ?_⟩
    refine ⟨_, G1.m3.cell (off := 0) rfl, _, G1.cell (off := 5) rfl, _, G1.m3.cell (off := 2) rfl, G1.sto (off := 5) (by simp) fun h6 G2 => k2 _ x ?_ e⟩
    simp only [w4, w5, List.set_cons_succ, List.set_cons_zero] at G2
    have hl' : BkP (s.free id) blks al (HW.mdel hl id) := ⟨b.q.free e, b.al, fun j => by
      rw [mget_mdel, b.hl]
      simp only [QS.free, fdH_gone]
      split <;> rfl⟩
    have other : ∀ j, j ≠ x.k → ∀ bb, acc (s.free id) bb j = acc s bb j := by
      intro j hj bb
      unfold acc
      have gj := gone_sum b.q.ids e j
      simp only [if_neg (Ne.symm hj)] at gj
      have e1 : hB (s.free id).hd j = hB s.hd j := by simp only [QS.free, gj.1]; omega
      have e2 : hE (s.free id).hd j = hE s.hd j := by simp only [QS.free, gj.2]; omega
      rw [e1, e2]; rfl
    -- book, al, hl, acc, rest, xh
    exact (Bk_turn (s := s) (s' := s.free id) hk rfl other hl' (L := _ :: L) (G2.m2.m5.m5)).m1.tl
end Go.Proofs.Ytladdcnfdbmnlaa
