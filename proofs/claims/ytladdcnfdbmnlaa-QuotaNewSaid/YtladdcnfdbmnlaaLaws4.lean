/- The laws of quota: Within. -/
import Derived.Test.YtladdcnfdbmnlaaLaws3
set_option linter.unusedVariables false
set_option linter.unusedSimpArgs false
namespace Go.Proofs.Ytladdcnfdbmnlaa
open Go Go.HW
variable {h : Heap} {L : List Assn} {Q : Value → Heap → Prop}
theorem Z_str : (PP.info? T_string).bind (·.zero) = some (.string ⟨#[]⟩) := by kernel_rfl
structure Win (s : QS) (ol : List (Int × ByteArray)) : Prop where
  b : ∀ k, k < s.ts.length → 0 ≤ (s.use k).1 ∧ (s.use k).1 + hB s.hd k ≤ s.mb k
  e : ∀ k, k < s.ts.length → 0 ≤ (s.use k).2 ∧ (s.use k).2 + hE s.hd k ≤ s.me k
  ow : ∀ x ∈ s.hd, mget ol (x.id : Int) = some (s.ts.getD x.k default).name
theorem fnd_name {ts : List Ten} {m : ByteArray} {k : Nat} (h : fnd ts m = some k) : (ts.getD k default).name = m := by
  unfold fnd at h
  have hk := fnd_lt h
  have := (List.findIdx?_eq_some_iff_getElem.1 h)
  obtain ⟨h1, h2, _⟩ := this
  rw [List.getD_eq_getElem?_getD, List.getElem?_eq_getElem h1]
  simpa using h2
theorem pos_of {x : Int} (h : 0 ≤ x) : pos x = x := by unfold pos; split <;> omega
theorem Win.res {s : QS} {ol : List (Int × ByteArray)} (w : Win s ol) (q : QI s) {nm : ByteArray} {k : Nat} {mb me : Int} (e : fnd s.ts nm = some k) (hle : pos mb ≤ (s.left k).1 ∧ pos me ≤ (s.left k).2) : Win (s.res k mb me) (mset ol ((s.last + 1 : Nat) : Int) nm) where
  b := by
    intro j hj
    have := w.b j hj
    have h1 : hB (s.res k mb me).hd j = hB s.hd j + (if k = j then pos mb else 0) := by simp only [QS.res]; rw [hB_app]; simp [hB]
    have h2 : (s.res k mb me).use j = s.use j := rfl
    have h3 : (s.res k mb me).mb j = s.mb j := rfl
    rw [h1, h2, h3]
    split
    · rename_i hkj; subst hkj
      have := hle.1; unfold QS.left at this; rw [pos_of (x := s.mb k - _ - _) (by omega)] at this; omega
    · omega
  e := by
    intro j hj
    have := w.e j hj
    have h1 : hE (s.res k mb me).hd j = hE s.hd j + (if k = j then pos me else 0) := by simp only [QS.res]; rw [hE_app]; simp [hE]
    have h2 : (s.res k mb me).use j = s.use j := rfl
    have h3 : (s.res k mb me).me j = s.me j := rfl
    rw [h1, h2, h3]
    split
    · rename_i hkj; subst hkj
      have := hle.2; unfold QS.left at this; rw [pos_of (x := s.me k - _ - _) (by omega)] at this; omega
    · omega
  ow := by
    intro x hx
    rw [mget_mset]
    rcases List.mem_append.1 (show x ∈ s.hd ++ [⟨s.last + 1, k, mb, me⟩] from hx) with hx | hx
    · have := (q.ks x hx).2.2.2.2.2
      rw [if_neg (by omega)]; exact w.ow x hx
    · rw [List.mem_singleton.1 hx, if_pos rfl]
      exact congrArg some (fnd_name e).symm
theorem Win.free {s : QS} {ol : List (Int × ByteArray)} (w : Win s ol) (q : QI s) {id : Int} {x : Hd} (e : fdH s.hd id = some x) : Win (s.free id) ol where
  b := by
    intro j hj
    have := w.b j hj
    have h1 : hB (s.free id).hd j = _ := (gone_sum q.ids e j).1
    have h2 : (s.free id).use j = s.use j := rfl
    have h3 : (s.free id).mb j = s.mb j := rfl
    rw [h1, h2, h3]
    have := pos_nonneg x.b
    split <;> omega
  e := by
    intro j hj
    have := w.e j hj
    have h1 : hE (s.free id).hd j = _ := (gone_sum q.ids e j).2
    have h2 : (s.free id).use j = s.use j := rfl
    have h3 : (s.free id).me j = s.me j := rfl
    rw [h1, h2, h3]
    have := pos_nonneg x.e
    split <;> omega
  ow := fun y hy => w.ow y (gone_mem hy)
theorem take_use {s : QS} (q : QI s) {id : Int} {x : Hd} (e : fdH s.hd id = some x) (j : Nat) : (s.take id x).use j = if x.k = j then (pos ((s.use x.k).1 + x.b), pos ((s.use x.k).2 + x.e)) else s.use j := by
  have hk : x.k < s.us.length := by rw [q.len]; exact (q.ks x (fdH_mem e).1).1
  simp only [QS.use, QS.take, getD_set hk]
theorem Win.take {s : QS} {ol : List (Int × ByteArray)} (w : Win s ol) (q : QI s) {id : Int} {x : Hd} (e : fdH s.hd id = some x) : Win (s.take id x) ol where
  b := by
    intro j hj
    have := w.b j hj
    have h1 : hB (s.take id x).hd j = _ := (gone_sum q.ids e j).1
    have h3 : (s.take id x).mb j = s.mb j := rfl
    rw [h1, take_use q e, h3]
    split
    · rename_i hkj; subst hkj
      simp only []
      unfold pos; repeat' split
      all_goals omega
    · omega
  e := by
    intro j hj
    have := w.e j hj
    have h1 : hE (s.take id x).hd j = _ := (gone_sum q.ids e j).2
    have h3 : (s.take id x).me j = s.me j := rfl
    rw [h1, take_use q e, h3]
    split
    · rename_i hkj; subst hkj
      simp only []
      unfold pos; repeat' split
      all_goals omega
    · omega
  ow := fun y hy => w.ow y (gone_mem hy)
def uses (s : QS) (k : Nat) : List (Int × Int) := (List.range k).map s.use
section
variable {p r ob : Nat} {blks : List Nat} {a sa ba : Option Addr} {n c sn sc bc : Nat} {ts : List Ten} {ops : List Op} {M : List Assn} {s : QS} {who : ByteArray} {o9 : Addr}
theorem before_loop {i : Nat} {K : Ex → Fr → Heap → Prop} (hr : Gv M a (s.ts.flatMap tenV)) (hn : s.ts.length = n) (hmax : n ≤ 1000)
    (kk : ∀ h', Hs h' (own ba n bc T_api_Use 2 ((uses s n).flatMap useV) :: Bk p blks s :: M) → K (.exit 2) (law17_QuotaWithin_X2 a n c sa sn sc (some ⟨p, 0, none⟩) (some ob) i o9 ba n bc) h') :
    ∀ (d k : Nat) {h : Heap} {l : List (Int × Int)}, k + d = n → l.length = n → (∀ j, j < k → l[j]? = some (s.use j)) → Hs h (own ba n bc T_api_Use 2 (l.flatMap useV) :: Bk p blks s :: M) →
    law17_QuotaWithin_L11111010010011010 a n c sa sn sc (some ⟨p, 0, none⟩) (some ob) i o9 ba n bc k K h := by
  intro d
  induction d with
  | zero =>
    intro k h l hk hl hs H
    obtain rfl : k = n := by omega
    have : l = uses s k := by
      apply List.ext_getElem?
      intro j
      by_cases hj : j < k
      · rw [hs j hj]; unfold uses; rw [List.getElem?_map, List.getElem?_range hj]; rfl
      · rw [List.getElem?_eq_none (by omega), List.getElem?_eq_none (by simp [uses]; omega)]
    rw [this] at H
    exact law17_QuotaWithin_L11111010010011010_of (br_false (decide_eq_false (by omega)) (kk h H))
  | succ d ih =>
    intro k h l hk hl hs H
    have q := Bk.qi H.m1
    have hkl : k < s.ts.length := by omega
    refine law17_QuotaWithin_L11111010010011010_of (br_true (decide_eq_true (by omega)) ?_)
    refine idxf E_sl_api_Tenant (l := s.ts) (φ := tenV) (x := s.ts[k]) (hr _ H.tl.tl) (fun _ => rfl) (by omega) (by omega) (by omega) (by simp) fun t ht => ⟨_, ht.1, ?_⟩
    refine Use_spec H.m1 fun h2 H2 => ?_
    rw [fnd_self q.names hkl]
    refine ⟨_, _, _, rfl, (H2.new (t := T_api_Use) (cs := #[.int .i64 0, .int .i64 0]) (xs := [.int .i64 0, .int .i64 0])).wrs fun h3 H3 => ⟨_, _, H3.rdc0, ?_⟩⟩
    refine (H3.m2).idx_wrf (φ := useV) (s.use k) E_sl_api_Use (by omega) (by omega) (fun _ => rfl) (by omega) (by simp [useV, oneC]) fun h4 H4 => ?_
    simp only [inc (show k < 2 ^ 62 by omega)]
    rw [Int.toNat_natCast] at H4
    refine ih (k + 1) (by omega) (by simp [hl]) (fun j hj => ?_) ((H4.m1).tl)
    by_cases hjk : j = k
    · subst hjk; rw [List.getElem?_set_self (by omega)]
    · rw [List.getElem?_set_ne (by omega)]; exact hs j (by omega)
theorem after_loop {i : Nat} {s0 : QS} {ol : List (Int × ByteArray)} {K : Ex → Fr → Heap → Prop} (w : Win s ol) (hr : Gv M a (s.ts.flatMap tenV)) (hn : s.ts.length = n) (hmax : n ≤ 1000) (hsame : ∀ k, k < n → (s.ts.getD k default).name ≠ who → s.use k = s0.use k)
    (kk : ∀ h', Hs h' (Bk p blks s :: M) → K (.exit 5) (law17_QuotaWithin_X5 a n c sa sn sc (some ⟨p, 0, none⟩) (some ob) i) h') :
    ∀ (d k : Nat) {h : Heap}, k + d = n → Hs h (own ba n bc T_api_Use 2 ((uses s0 n).flatMap useV) :: Bk p blks s :: M) →
    law17_QuotaWithin_L1111101001001111110 a n c sa sn sc (some ⟨p, 0, none⟩) (some ob) i ba n bc who k K h := by
  intro d
  induction d with
  | zero =>
    intro k h hk H
    exact law17_QuotaWithin_L1111101001001111110_of (br_false (decide_eq_false (by omega)) (kk h H.tl))
  | succ d ih =>
    intro k h hk H
    have q := Bk.qi H.m1
    have hkl : k < s.ts.length := by omega
    have hx : s.ts[((k : Nat) : Int).toNat]? = some s.ts[k] := by simp
    have e0 : s.ts.getD k default = s.ts[k] := by rw [List.getD_eq_getElem?_getD, List.getElem?_eq_getElem hkl]; rfl
    have wb := w.b k hkl
    have we := w.e k hkl
    have nb := hB_nonneg s.hd k
    have ne := hE_nonneg s.hd k
    have e3 : s.mb k = s.ts[k].mb := by simp only [QS.mb]; rw [e0]
    have e4 : s.me k = s.ts[k].me := by simp only [QS.me]; rw [e0]
    refine law17_QuotaWithin_L1111101001001111110_of (br_true (decide_eq_true (by omega)) ?_)
    refine idxf E_sl_api_Tenant (l := s.ts) (φ := tenV) (hr _ H.tl.tl) (fun _ => rfl) (by omega) (by omega) (by omega) hx fun t ht => ⟨_, ht.1, ?_⟩
    refine Use_spec H.m1 fun h2 H2 => ?_
    rw [fnd_self q.names hkl]
    refine ⟨_, _, _, rfl, (H2.new (t := T_api_Use) (cs := #[.int .i64 0, .int .i64 0]) (xs := [.int .i64 0, .int .i64 0])).wrs fun h3 H3 => br_false rfl ⟨_, H3.cell (off := 0) rfl, br_false (decide_eq_false (by omega)) ⟨_, H3.cell (off := 1) rfl, br_false (decide_eq_false (by omega)) ⟨_, H3.cell (off := 0) rfl, ?_⟩⟩⟩⟩
    have hg := hr _ H3.tl.tl.tl
    refine idxf E_sl_api_Tenant (l := s.ts) (φ := tenV) hg (fun _ => rfl) (by omega) (by omega) (by omega) hx fun t ht => ⟨_, ht.2.2.1, br_false (decide_eq_false (by omega)) ⟨_, H3.cell (off := 1) rfl, ?_⟩⟩
    refine idxf E_sl_api_Tenant (l := s.ts) (φ := tenV) hg (fun _ => rfl) (by omega) (by omega) (by omega) hx fun t ht => ⟨_, ht.2.2.2.1, br_false (decide_eq_false (by omega)) ?_⟩
    have fin : law17_QuotaWithin_J1111101001001111110010011 a n c sa sn sc (some ⟨p, 0, none⟩) (some ob) i ba n bc who k false K h3 := by
      refine law17_QuotaWithin_J1111101001001111110010011_of (br_false rfl ?_)
      simp only [inc (show k < 2 ^ 62 by omega)]
      exact ih (k + 1) (by omega) H3.tl.m1
    refine idxf E_sl_api_Tenant (l := s.ts) (φ := tenV) hg (fun _ => rfl) (by omega) (by omega) (by omega) hx fun t ht => ⟨_, ht.1, (br_iff _ _ _).2 ⟨fun e => ?_, fun _ => fin⟩⟩
    have hne : (s.ts.getD k default).name ≠ who := by rw [e0]; simpa using e
    have hu := hsame k (by omega) hne
    refine ⟨_, _, H3.rdc0, ?_⟩
    refine idxf E_sl_api_Use (l := uses s0 n) (φ := useV) (x := s0.use k) (H3.m2).rd (fun _ => rfl) (by omega) (by omega) (by omega) (by rw [Int.toNat_natCast]; unfold uses; rw [List.getElem?_map, List.getElem?_range (by omega)]; rfl) fun t ht => ⟨_, _, ht, ?_⟩
    rw [hu]
    simpa using fin
theorem within_loop {K : Ex → Fr → Heap → Prop} (hr : Gv M a (ts.flatMap tenV)) (hn : ts.length = n) (hmax : n ≤ 1000) (hs : Gv M sa (ops.flatMap opV)) (hsn : ops.length = sn) (hsm : sn ≤ 1000)
    (kk : ∀ h', Hs h' M → K (.exit 0) law17_QuotaWithin_X0 h') :
    ∀ (d i : Nat) {h : Heap} {s : QS} {ol : List (Int × ByteArray)}, i + d = sn → Run ts i s → Win s ol → Hs h (Bk p blks s :: mp (.int .i64) Value.string ob ol :: M) →
    law17_QuotaWithin_L11111010 a n c sa sn sc (some ⟨p, 0, none⟩) (some ob) i K h := by
  intro d
  induction d with
  | zero =>
    intro i h s ol hk R w H
    exact law17_QuotaWithin_L11111010_of (br_false (decide_eq_false (by omega)) (kk h H.tl.tl))
  | succ d ih =>
    intro i h s ol hk R w H
    have q := Bk.qi H
    have hn4 : s.ts.length = n := by rw [R.ts]; exact hn
    have hlast : s.last < 2 ^ 40 := by have := R.last; omega
    refine law17_QuotaWithin_L11111010_of (br_true (decide_eq_true (by omega)) ?_)
    refine idxf E_sl_haversacklaw17_Op (l := ops) (φ := opV) (x := ops[i]) (hs _ H.tl.tl) (fun _ => rfl) (by omega) (by omega) (by omega) (by simp) fun t ht => ⟨_, _, _, _, _, ht, ?_⟩
    have H1 := H.new (t := T_haversacklaw17_Op) (cs := #[.int .i64 0, .string ⟨#[]⟩, .int .i64 0, .int .i64 0, .int .i64 0]) (xs := [.int .i64 0, .string ⟨#[]⟩, .int .i64 0, .int .i64 0, .int .i64 0])
    generalize h.size = o9 at H1 ⊢
    refine H1.wrs fun h2 H2 => ?_
    refine H2.makes useV (0, 0) E_sl_api_Use (n := n) (c := n) (fun _ => rfl) (by omega) rfl rfl (Nat.le_refl _) (by omega) (by omega) fun h3 b H3 => ⟨_, _, _, rfl, ?_⟩
    have lz : ((List.replicate n ((0 : Int), (0 : Int))).flatMap useV).length = n * 2 := by rw [flat_len (sz := 2) (fun _ => rfl), List.length_replicate]
    have H4 : Hs h3 (own (some ⟨b, 0, none⟩) n n T_api_Use 2 ((List.replicate n (0, 0)).flatMap useV) :: pt o9 T_haversacklaw17_Op (opV ops[i]) :: Bk p blks s :: mp (.int .i64) Value.string ob ol :: M) := H3.pt_own 0 (by rw [List.drop_zero, List.take_of_length_le (by omega)]) lz (Nat.le_refl _) (by omega)
    have hr4 : Gv (pt o9 T_haversacklaw17_Op (opV ops[i]) :: mp (.int .i64) Value.string ob ol :: M) a (s.ts.flatMap tenV) := by rw [R.ts]; exact hr.cons.cons
    refine before_loop (M := pt o9 T_haversacklaw17_Op (opV ops[i]) :: mp (.int .i64) Value.string ob ol :: M) hr4 hn4 hmax (fun h5 H5 => ?_) n 0 (by omega) (by simp) (fun j hj => by omega) ((H4.m2).m1)
    rw [law17_QuotaWithin_at11111010010011010_X2]
    have fin : ∀ h' s' ol' who, Grow s s' → Win s' ol' → (∀ k, k < n → (s'.ts.getD k default).name ≠ who → s'.use k = s.use k) → Hs h' (Bk p blks s' :: own (some ⟨b, 0, none⟩) n n T_api_Use 2 ((uses s n).flatMap useV) :: pt o9 T_haversacklaw17_Op (opV ops[i]) :: mp (.int .i64) Value.string ob ol' :: M) →
        law17_QuotaWithin_J11111010010011111 a n c sa sn sc (some ⟨p, 0, none⟩) (some ob) i (some ⟨b, 0, none⟩) n n who K h' := by
      intro h' s' ol' who g w' hsame H'
      refine law17_QuotaWithin_J11111010010011111_of ?_
      refine after_loop (s := s') (s0 := s) (M := pt o9 T_haversacklaw17_Op (opV ops[i]) :: mp (.int .i64) Value.string ob ol' :: M) w' (by rw [g.ts, R.ts]; exact hr.cons.cons) (by rw [g.ts]; exact hn4) hmax hsame (fun h6 H6 => ?_) n 0 (by omega) H'.m1
      rw [law17_QuotaWithin_at1111101001001111110_X5]
      simp only [inc (show i < 2 ^ 62 by omega)]
      exact ih (i + 1) (by omega) (R.grow g) w' (H6.m1.tl)
    have H6 := H5.m1
    have cell : ∀ {h' : Heap} {s1 : QS} {l1 : List (Int × ByteArray)}, Hs h' (Bk p blks s1 :: own (some ⟨b, 0, none⟩) n n T_api_Use 2 ((uses s n).flatMap useV) :: pt o9 T_haversacklaw17_Op (opV ops[i]) :: mp (.int .i64) Value.string ob l1 :: M) →
        cellH h' ⟨o9, 0, none⟩ = some (.int .i64 ops[i].kind) ∧ cellH h' ⟨o9, 1, none⟩ = some (.string ops[i].ten) ∧ rdCells h' ⟨o9, 2, none⟩ 0 [.int .i64 ops[i].b, .int .i64 ops[i].e] ∧ cellH h' ⟨o9, 4, none⟩ = some (.int .i64 ops[i].id) := fun H' =>
      ⟨(H'.m2).cell (off := 0) rfl, (H'.m2).cell (off := 1) rfl, (H'.m2).rdo 2, (H'.m2).cell (off := 4) rfl⟩
    have C := cell H6
    have same : ∀ (s' : QS) (who : ByteArray), s'.us = s.us → ∀ k, k < n → (s'.ts.getD k default).name ≠ who → s'.use k = s.use k := fun s' who e k _ _ => by unfold QS.use; rw [e]
    refine ⟨_, C.1, (br_iff _ _ _).2 ⟨fun _ => ?_, fun _ => (br_iff _ _ _).2 ⟨fun _ => ?_, fun _ => (br_iff _ _ _).2 ⟨fun _ => ?_, fun _ => fin _ s ol _ (.refl s) w (same s _ rfl) H6⟩⟩⟩⟩
    · refine ⟨_, C.2.1, _, _, C.2.2.1, Reserve_spec H6 hlast (fun h7 H7 _ => ⟨_, _, rfl, br_false rfl (fin _ s ol _ (.refl s) w (same s _ rfl) H7)⟩) (fun h7 k H7 _ _ => ⟨_, _, rfl, br_false rfl (fin _ s ol _ (.refl s) w (same s _ rfl) H7)⟩) (fun h7 k H7 _ _ _ => ⟨_, _, rfl, br_false rfl (fin _ s ol _ (.refl s) w (same s _ rfl) H7)⟩) (fun h7 k H7 e hb hle => ⟨_, _, rfl, br_true rfl ⟨_, (cell H7).2.1, ?_⟩⟩)⟩
      refine (H7.m3).mset U_map_int_string K_int ((s.last + 1 : Nat) : Int) ops[i].ten rfl fun h8 H8 => ?_
      exact fin _ (s.res k ops[i].b ops[i].e) _ _ ⟨rfl, by simp [QS.res], Nat.le_refl _, fun h x hx => by rcases List.mem_append.1 hx with hx | hx; exact h x hx; rw [List.mem_singleton.1 hx]; exact Nat.succ_pos _⟩ (w.res q e hle) (same _ _ rfl) H8.r3
    · refine ⟨_, C.2.2.2, Take_spec H6 (fun h7 H7 _ => ⟨_, rfl, br_false rfl (fin _ s ol _ (.refl s) w (same s _ rfl) H7)⟩) (fun h7 x H7 e => ⟨_, rfl, br_true rfl ⟨_, (cell H7).2.2.2, ?_⟩⟩)⟩
      refine (H7.m3).lookup1 U_map_int_string K_int Z_str _ ?_
      have ex := fdH_mem e
      rw [show mget ol ops[i].id = some (s.ts.getD x.k default).name by rw [← ex.2]; exact w.ow x ex.1]
      refine ⟨_, rfl, fin _ (s.take ops[i].id x) ol _ ⟨rfl, Nat.le_succ_of_le (free_len s _), Nat.le_succ _, fun h x hx => h x (gone_mem hx)⟩ (w.take q e) (fun k hk hne => ?_) H7⟩
      rw [take_use q e, if_neg]
      rintro rfl
      exact hne rfl
    · refine ⟨_, C.2.2.2, Free_spec H6 (fun h7 H7 _ => ⟨_, rfl, fin _ s ol _ (.refl s) w (same s _ rfl) H7⟩) (fun h7 x H7 e => ⟨_, rfl, fin _ (s.free ops[i].id) ol _ ⟨rfl, Nat.le_succ_of_le (free_len s _), Nat.le_succ _, fun h x hx => h x (gone_mem hx)⟩ (w.free q e) (same _ _ rfl) H7⟩)⟩
end
theorem win0 {ts : List Ten} (q : QI (q0 ts)) : Win (q0 ts) [] where
  b := by
    intro k hk
    have u0 : (q0 ts).use k = (0, 0) := by simp only [QS.use, q0]; rw [List.getD_eq_getElem?_getD, List.getElem?_replicate]; split <;> rfl
    have := q.mostk hk
    rw [u0, show hB (q0 ts).hd k = 0 from rfl]; simp only []; omega
  e := by
    intro k hk
    have u0 : (q0 ts).use k = (0, 0) := by simp only [QS.use, q0]; rw [List.getD_eq_getElem?_getD, List.getElem?_replicate]; split <;> rfl
    have := q.mostk hk
    rw [u0, show hE (q0 ts).hd k = 0 from rfl]; simp only []; omega
  ow := fun x hx => by cases hx
theorem QuotaWithin_spec {a sa : Option Addr} {n c sn sc : Nat} {ts : List Ten} {ops : List Op} (hr : Rd h a (ts.flatMap tenV)) (hn : ts.length = n) (hz : ∀ t ∈ ts, t.name.size < 9223372036854775808) (hs : Rd h sa (ops.flatMap opV)) (hsn : ops.length = sn)
    (HQ : ∀ h', ExtB h.size h h' → Q (.bool true) h') : SpecH PP F_law17_QuotaWithin [.slice a n c, .slice sa sn sc] h Q := by
  refine law17_QuotaWithin_door ?_
  unfold law17_QuotaWithin_main
  have H0 := Hs.start h
  have hr' : Gv [ro h] a (ts.flatMap tenV) := Gv.ro hr
  have hs' : Gv [ro h] sa (ops.flatMap opV) := Gv.ro hs
  have tr : ∀ h', Hs h' [ro h] → law17_QuotaWithin_J101 a n c sa sn sc true Q h' := fun h' H' => law17_QuotaWithin_J101_of (br_true rfl (HQ _ H'.ro_below))
  refine (br_iff _ _ _).2 ⟨fun _ => tr _ H0, fun e1 => ?_⟩
  have l1 : n ≤ 1000 := by have := of_decide_eq_false e1; omega
  by_cases e2 : (sn : Int) > 1000
  · rw [decide_eq_true e2]; exact tr _ H0
  rw [decide_eq_false e2]
  have l2 : sn ≤ 1000 := by omega
  refine law17_QuotaWithin_J101_of (br_false rfl ?_)
  refine New_spec hr' hn (by omega) hz H0 (fun e h2 H2 => ?_) fun e h2 p blks H2 => ?_
  · refine ⟨_, _, rfl, br_true (by simpa using e) (law17_QuotaWithin_J11101_of (br_true rfl (awake_spec H2 fun h3 H3 => ⟨_, rfl, br_true rfl (br_true rfl ?_)⟩)))⟩
    rw [show (chk ts != 0) = true by simpa using e]
    exact HQ _ H3.ro_below
  · refine ⟨_, _, rfl, br_false rfl (law17_QuotaWithin_J11101_of (br_false rfl ?_))⟩
    have H3 : Hs (h2.push (.map #[] 0)) (mp (.int .i64) Value.string h2.size ([] : List (Int × ByteArray)) :: _) := H2.mp_new
    refine within_loop hr' hn l1 hs' hsn l2 (fun h4 H4 => ?_) sn 0 (by omega) (run0 ts) (win0 (chk_qi e)) H3.m1
    rw [law17_QuotaWithin_at11111010_X0]
    exact awake_spec H4 fun h5 H5 => ⟨_, rfl, HQ _ H5.ro_below⟩
end Go.Proofs.Ytladdcnfdbmnlaa
