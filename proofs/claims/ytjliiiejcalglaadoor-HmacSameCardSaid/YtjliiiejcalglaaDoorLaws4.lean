/- The laws of digests: Parts; how arguments are opened. -/
import Derived.Test.YtjliiiejcalglaaDoorLaws3
set_option linter.unusedVariables false
set_option linter.unusedSimpArgs false
namespace Go.Proofs.YtjliiiejcalglaaDoor
open Go Go.HW Go.HW.Sha
variable {h : Heap} {L : List Assn} {Q : Value → Heap → Prop}
theorem open_bb {W : World} {ecs : List Value} (hl : ecs.length = 1) (g : Dat PP W T_sl_uint8 ecs) : ∃ x, ecs = [bsV x] ∧ BsWf W.heap x := open_bs U_sl_uint8 U_uint8 (by kernel_rfl) (by kernel_rfl) hl g
theorem open_bool {W : World} {ecs : List Value} (hl : ecs.length = 1) (g : Dat PP W T_bool ecs) : ∃ x : Bool, ecs = [.bool x] ∧ True := by
  obtain ⟨b, hb⟩ := g.bool U_bool; exact ⟨b, hb, trivial⟩
theorem open_32 {W : World} {ecs : List Value} (hl : ecs.length = 32) (g : Dat PP W T_32_uint8 ecs) : ∃ x : List Nat, ecs = nV x ∧ x.length = 32 := by
  have f := (g.array U_32_uint8).2
  rw [C_uint8] at f
  have key : ∀ k, k ≤ 32 → ∃ l : List Nat, l.length = k ∧ ecs.take k = nV l := by
    intro k
    induction k with
    | zero => intro _; exact ⟨[], rfl, rfl⟩
    | succ k ih =>
      intro hk
      obtain ⟨l, h1, h2⟩ := ih (by omega)
      have hk2 : k < ecs.length := by omega
      have := f k (by omega)
      rw [Nat.mul_one] at this
      have e : (ecs.drop k).take 1 = [ecs[k]] := by rw [List.drop_eq_getElem_cons hk2]; rfl
      rw [e] at this
      obtain ⟨n, hn, _⟩ := this.u8 U_uint8
      refine ⟨l ++ [n], by simp [h1], ?_⟩
      rw [List.take_succ_eq_append_getElem hk2, h2, nV_app]
      congr 1
  obtain ⟨l, h1, h2⟩ := key 32 (Nat.le_refl _)
  rw [List.take_of_length_le (by omega)] at h2
  exact ⟨l, h2, h1⟩
section
variable {a sa : Option Addr} {n c sn sc d o : Nat} {l : List Bs} {ask : List Bool} {K : EP}
theorem parts_loop {h0 : Heap} (t : KTabL L) (hL : ∀ h, Hs h L → ExtB h0.size h0 h) (hr : Gv L a (l.map bsV)) (hn : l.length = n) (hw : ∀ s ∈ l, BsWf h0 s) (hG : ∀ s ∈ l, Gv L s.a (nV s.bs)) (hmax : n ≤ 200) (hs : Gv L sa (ask.map Value.bool)) (hsn : ask.length = sn)
    (kr : ∀ h', ExtB h0.size h0 h' → K .ret (law15_HmacParts.Xret true) h')
    (kk : ∀ h' aa ac, (∀ s ∈ l, s.n ≤ 4096) → Hs h' (HashAt d (l.flatMap (·.bs)) :: own aa (l.flatMap (·.bs)).length ac T_uint8 1 (nV (l.flatMap (·.bs))) :: L) → K (.exit 0) (law15_HmacParts.X0 (some ⟨d, 0, none⟩) (some ⟨o, 0, none⟩) aa (l.flatMap (·.bs)).length ac) h') :
    ∀ (k i : Nat) {h : Heap} {aa : Option Addr} {ac : Nat} {pre : List Nat}, i + k = n → pre = (l.take i).flatMap (·.bs) → (∀ s ∈ l.take i, s.n ≤ 4096) → pre.length ≤ 4096 * i →
    Hs h (HashAt d pre :: own aa pre.length ac T_uint8 1 (nV pre) :: L) → law15_HmacParts.L1 a n c sa sn sc (some ⟨d, 0, none⟩) (some ⟨o, 0, none⟩) aa pre.length ac i K h := by
  intro k
  induction k with
  | zero =>
    intro i h aa ac pre hi hp h4 hl H
    rw [List.take_of_length_le (by omega)] at hp h4
    subst hp
    exact law15_HmacParts.L1_of (br_false (decide_eq_false (by omega)) (kk h aa ac h4 H))
  | succ k ih =>
    intro i h aa ac pre hi hp h4 hl H
    have hil : i < l.length := by omega
    have hmem := List.getElem_mem hil
    have W := hw _ hmem
    have G := hG _ hmem
    have Wl := W.len
    have htk : l.take (i + 1) = l.take i ++ [l[i]] := List.take_succ_eq_append_getElem hil
    have hpre : pre ++ l[i].bs = (l.take (i + 1)).flatMap (·.bs) := by rw [htk, List.flatMap_append, List.flatMap_cons, List.flatMap_nil, List.append_nil, hp]
    have hlt : ∀ x ∈ pre, x < 256 := by
      subst hp
      intro x hx
      obtain ⟨s, hs, hx⟩ := List.mem_flatMap.1 hx
      exact (hw s (List.mem_of_mem_take hs)).lt x hx
    have I : ∀ {h : Heap} {R : Addr → Heap → Prop}, Hs h L → (∀ t, cellH h t = some (.slice l[i].a l[i].n l[i].c) → R t h) → hwp PP (Instr.indexAt T_sl_sl_uint8 (.slice a n c) (.int .i64 i)) (fun u h1 => ∃ t, u = .pointer (some t) ∧ R t h1) h := fun H r =>
      idx (i := i) E_sl_sl_uint8 (hr _ H) (by omega) (by omega) (v := bsV l[i]) (by simp [hil]) r
    refine law15_HmacParts.L1_of (br_true (decide_eq_true (by omega)) ?_)
    refine I H.tl.tl fun t1 ht1 => ⟨_, _, _, ht1, (br_iff _ _ _).2 ⟨fun _ => kr _ (hL _ H.tl.tl), fun e => ?_⟩⟩
    have e := of_decide_eq_false e
    have hn4 : l[i].n ≤ 4096 := by omega
    refine I H.tl.tl fun t2 ht2 => ⟨_, _, _, ht2, ?_⟩
    refine Lend_spec (xs := l[i].bs) (G _ H.tl.tl) Wl (by omega) (fun e => by have := W.nil e; have := W.le; omega) H (fun h3 b H3 => ⟨_, _, _, rfl, ?_⟩) G.cons.cons
    have Gb : ∀ {M : List Assn}, Gv (lent b l[i].bs :: M) (some ⟨b, 0, none⟩) (nV l[i].bs) := Gv_lent
    refine Write_spec (xs := l[i].bs) t.cons.cons Gb Wl (fun e => nomatch e) W.lt (by omega) H3.m1 fun h4' H4 => ⟨rfl, ?_⟩
    refine I H4.tl.tl.tl fun t5 ht5 => ⟨_, _, _, ht5, ?_⟩
    refine Back_spec (xs := l[i].bs) G.cons.cons Wl (by omega) H4.m1 fun h6 H6 => ⟨_, rfl, br_false rfl ?_⟩
    refine I H6.tl.tl fun t7 ht7 => ⟨_, _, _, ht7, ?_⟩
    refine H6.m1.app_sl E_sl_uint8 (m := l[i].n) (ys := nV l[i].bs) (G _ H6.tl.tl) (by rw [nV_len, Wl]; omega) (fun e => by have := W.nil e; have := W.le; omega) (nV_one _) (fun h8 a8 c8 H8 => ⟨_, _, _, rfl, ?_⟩) (by omega) (by omega)
    have hlen : pre.length + l[i].n = (pre ++ l[i].bs).length := by rw [List.length_append, Wl]
    rw [← nV_app, hlen] at H8
    rw [hlen]
    have hx8 : ∀ x ∈ pre ++ l[i].bs, x < 256 := fun x hx => (List.mem_append.1 hx).elim (hlt x) (W.lt x)
    have N : ∀ {h' : Heap}, Hs h' (HashAt d (pre ++ l[i].bs) :: own a8 (pre ++ l[i].bs).length c8 T_uint8 1 (nV (pre ++ l[i].bs)) :: L) → law15_HmacParts.J3 a n c sa sn sc (some ⟨d, 0, none⟩) (some ⟨o, 0, none⟩) a8 (pre ++ l[i].bs).length c8 i false K h' := fun H => by
      refine law15_HmacParts.J3_of (br_false rfl ?_)
      simp only [inc (show i < 2 ^ 62 by omega)]
      refine ih (i + 1) (by omega) hpre ?_ (by omega) H
      rw [htk]; intro s hs
      rcases List.mem_append.1 hs with h | h
      · exact h4 s h
      · rw [List.mem_singleton.1 h]; exact hn4
    refine (br_iff _ _ _).2 ⟨fun e => ?_, fun _ => N H8.m1⟩
    have e := of_decide_eq_true e
    have hia : i < ask.length := by omega
    refine idx (i := i) E_sl_bool (hs _ H8.tl.tl) (by omega) (by omega) (v := .bool ask[i]) (by simp [hia]) fun t9 ht9 => ⟨_, ht9, (br_iff _ _ _).2 ⟨fun _ => ?_, fun _ => N H8.m1⟩⟩
    refine HSum_spec t.cons (by omega) H8.m1 fun h10 H10 => ⟨_, rfl, ?_⟩
    refine RSum_spec (xs := pre ++ l[i].bs) (H10.m1.rd) rfl (fun e => by subst e; have := H10.m1.own_none; have := H10.m1.own_le; omega) hx8 (by omega) H10 Gv.own.cons fun h11 H11 => ⟨_, rfl, ?_⟩
    refine arrNe A_32_uint8 U_uint8 g32 (digest_len _) (digest_len _) ⟨_, rfl, ?_⟩
    rw [decide_eq_true rfl]
    exact N H11
end
theorem HmacParts_spec {a sa : Option Addr} {n c sn sc : Nat} {l : List Bs} {ask : List Bool} (tab : KTab h) (hr : Rd h a (l.map bsV)) (hn : l.length = n) (hw : ∀ s ∈ l, BsWf h s) (hs : Rd h sa (ask.map Value.bool)) (hsn : ask.length = sn) (HQ : ∀ h', ExtB h.size h h' → Q (.bool true) h') : SpecH PP F_law15_HmacParts [.slice a n c, .slice sa sn sc] h Q := by
  refine law15_HmacParts.door ?_
  have t : KTabL [ro h] := KTabL.ro tab
  have H0 := Hs.start h
  have J : ∀ b : Bool, (b = false → n ≤ 200) → law15_HmacParts.J1 a n c sa sn sc b Q h := by
    intro b hb
    refine law15_HmacParts.J1_of ((br_iff _ _ _).2 ⟨fun _ => HQ _ H0.ro_below, fun e => ?_⟩)
    have l1 := hb e
    refine New_spec H0 fun h1 d H1 => ⟨_, rfl, New_spec H1 fun h2 o H2 => ⟨_, rfl, br_false rfl (law15_HmacParts.J2_of (br_false rfl ?_))⟩⟩
    have H3 := H2.new (t := T_uint8) (cs := #[(.int .u8 111), (.int .u8 116), (.int .u8 104), (.int .u8 101), (.int .u8 114)]) (xs := nV [111, 116, 104, 101, 114])
    refine H3.conv U_sl_uint8 U_uint8 fun h4 H4 => ⟨_, _, _, rfl, ?_⟩
    refine Write_spec (xs := [111, 116, 104, 101, 114]) t.cons.cons Gv.rdO rfl (fun e => nomatch e) (by decide) (by decide) H4.m1 fun h5 H5 => ⟨rfl, ?_⟩
    -- [HashAt o, rdO, HashAt d, ro]
    have H6 := (H5.m2.own_nil T_uint8 1).m1
    rw [List.nil_append] at H6
    generalize (some (⟨h2.size, 0, none⟩ : Addr)) = lit at H6
    have H6' : Hs h5 (HashAt d [] :: own none ([] : List Nat).length 0 T_uint8 1 (nV []) :: HashAt o [111, 116, 104, 101, 114] :: rdO lit (nV [111, 116, 104, 101, 114]) :: [ro h]) := H6
    refine parts_loop (h0 := h) (L := HashAt o [111, 116, 104, 101, 114] :: rdO lit (nV [111, 116, 104, 101, 114]) :: [ro h]) (K := law15_HmacParts.K3 Q) t.cons.cons (fun h H => H.tl.tl.ro_below) (Gv.ro hr).cons.cons hn hw (fun s hs => (Gv.ro (hw s hs).rd).cons.cons) l1 (Gv.ro hs).cons.cons hsn (fun h' e => law15_HmacParts.L1_Xret (HQ _ e)) (fun h7 aa ac h4' H7 => law15_HmacParts.L1_X0 ?_) n 0 (by omega) (by simp) (by simp) (by simp) H6'
    have hlen : (l.flatMap (·.bs)).length ≤ 4096 * 200 := by
      rw [List.length_flatMap]
      have key : ∀ (q : List Bs), (∀ s ∈ q, s.bs.length ≤ 4096) → (q.map fun s => s.bs.length).sum ≤ 4096 * q.length := by
        intro q
        induction q with
        | nil => intro _; simp
        | cons s q ih => intro hq; have := ih (fun s hs => hq s (by simp [hs])); have := hq s (by simp); simp only [List.map_cons, List.sum_cons, List.length_cons]; omega
      have := key l fun s hs => by have := h4' s hs; have := (hw s hs).len; omega
      omega
    have hlx : ∀ x ∈ l.flatMap (·.bs), x < 256 := by
      intro x hx
      obtain ⟨s, hs, hx⟩ := List.mem_flatMap.1 hx
      exact (hw s hs).lt x hx
    generalize l.flatMap (·.bs) = w at *
    refine awake_spec t.cons.cons.cons.cons H7 fun h8 H8 => ⟨_, rfl, br_true rfl ?_⟩
    refine HSum_spec t.cons.cons.cons (by omega) H8 fun h9 H9 => ⟨_, rfl, ?_⟩
    refine RSum_spec (xs := w) (H9.m1.rd) rfl (fun e => by subst e; have := H9.m1.own_none; have := H9.m1.own_le; omega) hlx (by omega) H9 Gv.own.cons fun h10 H10 => ⟨_, rfl, ?_⟩
    refine arrEq A_32_uint8 U_uint8 g32 (digest_len _) (digest_len _) ⟨_, rfl, br_true (decide_eq_true rfl) ?_⟩
    refine HSum_spec t.cons.cons.cons (by decide) H10.m2 fun h11 H11 => ⟨_, rfl, ?_⟩
    have H12 := H11.new (t := T_uint8) (cs := #[(.int .u8 111), (.int .u8 116), (.int .u8 104), (.int .u8 101), (.int .u8 114)]) (xs := nV [111, 116, 104, 101, 114])
    refine H12.conv U_sl_uint8 U_uint8 fun h13 H13 => ⟨_, _, _, rfl, ?_⟩
    refine Sum_spec (xs := [111, 116, 104, 101, 114]) t.cons.cons.cons.cons.cons Gv.rdO rfl (fun e => nomatch e) (by decide) (by decide) H13 fun h14 H14 => ⟨_, rfl, ?_⟩
    refine arrEq A_32_uint8 U_uint8 g32 (digest_len _) (digest_len _) ⟨_, rfl, ?_⟩
    rw [decide_eq_true rfl]
    exact HQ _ H14.tl.tl.tl.tl.tl.ro_below
  exact (br_iff _ _ _).2 ⟨fun _ => J _ (fun e => by cases e), fun e0 => J _ fun e => by have := of_decide_eq_false e0; omega⟩
end Go.Proofs.YtjliiiejcalglaaDoor
