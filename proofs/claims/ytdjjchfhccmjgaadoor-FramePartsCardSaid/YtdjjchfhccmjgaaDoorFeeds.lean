/- The laws of frames: Feeds. -/
import Derived.Test.YtdjjchfhccmjgaaDoorParts
import Derived.Test.YtdjjchfhccmjgaaDoorHwBs
set_option linter.unusedVariables false
set_option linter.unusedSimpArgs false
namespace Go.Proofs.YtdjjchfhccmjgaaDoor
open Go Go.HW
variable {h : Heap} {L : List Assn} {Q : Value → Heap → Prop}
theorem open_bb {W : World} {ecs : List Value} (hl : ecs.length = 1) (g : Dat PP W T_sl_uint8 ecs) : ∃ x, ecs = [bsV x] ∧ BsWf W.heap x := open_bs U_sl_uint8 U_uint8 (by kernel_rfl) (by kernel_rfl) hl g
section
variable {a : Option Addr} {n c : Nat} {l : List Bs} {K : Ex → Fr → Heap → Prop}
theorem large_loop (hr : Rd h a (l.map bsV)) (hn : l.length = n) (hb : ∀ s ∈ l, s.n ≤ 140737488351232) (hmax : n ≤ 140737488351232) (kk : ∀ xn : Nat, (xn ≤ 1048576 → n + tot l ≤ 1048576) → K (.exit 0) (law18_large_X0 xn) h) :
    ∀ (k i xn : Nat), i + k = n → xn = n + tot (l.take i) → (1 ≤ i → xn ≤ 1048576 + 140737488351232) → law18_large_L11010 a n c xn i K h := by
  intro k
  induction k with
  | zero =>
    intro i xn hi hx hy
    rw [List.take_of_length_le (by omega)] at hx
    exact law18_large_L11010_of (br_false (decide_eq_false (by omega)) (kk xn (by omega)))
  | succ k ih =>
    intro i xn hi hx hy
    have hil : i < l.length := by omega
    refine law18_large_L11010_of (br_true (decide_eq_true (by omega)) ((br_iff _ _ _).2 ⟨fun e => ?_, fun e => kk xn (fun h => ?_)⟩))
    · have e := of_decide_eq_true e
      refine idx (i := i) E_sl_sl_uint8 hr (by omega) (by omega) (v := bsV l[i]) (by simp [hil]) fun t ht => ⟨_, _, _, ht, ?_⟩
      have hbi := hb l[i] (List.getElem_mem hil)
      have w1 : IntKind.i64.wrap ((xn : Int) + (l[i].n : Int)) = ((xn + l[i].n : Nat) : Int) := by rw [wrap_i64_z (by omega) (by omega)]; simp
      simp only [w1, inc (show i < 2 ^ 62 by omega)]
      exact ih (i + 1) _ (by omega) (by rw [tot_take_succ hil]; omega) (by omega)
    · have := of_decide_eq_false e; omega
theorem large_spec (hr : Rd h a (l.map bsV)) (hn : l.length = n) (hb : ∀ s ∈ l, s.n ≤ 140737488351232) (hmax : n ≤ 140737488351232) (kk : ∀ b, (b = false → n + tot l ≤ 1048576) → Q (.bool b) h) : SpecH PP F_law18_large [.slice a n c] h Q := by
  refine law18_large_door ?_
  unfold law18_large_main
  refine large_loop hr hn hb hmax (fun xn hx => ?_) n 0 n (by omega) (by simp [tot]) (by omega)
  rw [law18_large_at11010_X0]
  refine kk _ fun e => hx ?_
  have := of_decide_eq_false e; omega
theorem feeds_loop {h0 : Heap} {d : Nat} (tab : Tab h0) (hr : Rd h0 a (l.map bsV)) (hn : l.length = n) (hw : ∀ s ∈ l, BsWf h0 s) (ht : n + tot l ≤ 1048576) (kk : ∀ h', ExtB h0.size h0 h' → K (.exit 0) law18_FrameFeeds_X0 h') :
    ∀ (k i : Nat) {h : Heap} {aa : Option Addr} {ac : Nat} {ab : List Nat} {told : Int}, i + k = n → ((rd ((l.take i).flatMap (·.bs))).2.1 = 0 → ab = (l.take i).flatMap (·.bs) ∧ told = ((rd ((l.take i).flatMap (·.bs))).1.length : Nat)) →
    Hs h (DecAt d ((l.take i).flatMap (·.bs)) :: own aa ab.length ac T_uint8 1 (nV ab) :: [ro h0]) → law18_FrameFeeds_L1111111010 a n c (some ⟨d, 0, none⟩) aa ab.length ac told (rd ((l.take i).flatMap (·.bs))).2.1 i K h := by
  intro k
  induction k with
  | zero =>
    intro i h aa ac ab told hi hab H
    exact law18_FrameFeeds_L1111111010_of (br_false (decide_eq_false (by omega)) (kk h H.tl.tl.ro_below))
  | succ k ih =>
    intro i h aa ac ab told hi hab H
    have t : TabL [ro h0] := TabL.ro tab
    have hil : i < l.length := by omega
    have W := hw _ (List.getElem_mem hil)
    have htk : l.take (i + 1) = l.take i ++ [l[i]] := List.take_succ_eq_append_getElem hil
    have hpre : (l.take (i + 1)).flatMap (·.bs) = (l.take i).flatMap (·.bs) ++ l[i].bs := by rw [htk, List.flatMap_append, List.flatMap_cons, List.flatMap_nil, List.append_nil]
    have hl1 : ((l.take i).flatMap (·.bs)).length = tot (l.take i) := bss_len fun s hs => (hw s (List.mem_of_mem_take hs)).len
    have hl2 := tot_take_succ hil
    have hl3 := tot_take_le l (i + 1)
    have hlt : ∀ x ∈ (l.take i).flatMap (·.bs), x < 256 := by
      intro x hx
      obtain ⟨s, hs, hx⟩ := List.mem_flatMap.1 hx
      exact (hw s (List.mem_of_mem_take hs)).lt x hx
    have Wl := W.len
    have step : ∀ {h : Heap} {aa : Option Addr} {ac : Nat} {ab : List Nat} {told : Int}, ((rd ((l.take (i + 1)).flatMap (·.bs))).2.1 = 0 → ab = (l.take (i + 1)).flatMap (·.bs) ∧ told = ((rd ((l.take (i + 1)).flatMap (·.bs))).1.length : Nat)) →
        Hs h (DecAt d ((l.take (i + 1)).flatMap (·.bs)) :: own aa ab.length ac T_uint8 1 (nV ab) :: [ro h0]) → law18_FrameFeeds_J1111111010011 a n c (some ⟨d, 0, none⟩) aa ab.length ac told (rd ((l.take (i + 1)).flatMap (·.bs))).2.1 i K h := by
      intro h aa ac ab told hab H
      refine law18_FrameFeeds_J1111111010011_of ?_
      unfold law18_FrameFeeds_J1111111010011_txt
      simp only [inc (show i < 2 ^ 62 by omega)]
      exact ih (i + 1) (by omega) hab H
    rw [hpre] at step
    generalize (l.take i).flatMap (·.bs) = pre at *
    have I : ∀ {h : Heap} {M : List Assn} {R : Addr → Heap → Prop}, Hs h (ro h0 :: M) → (∀ t, cellH h t = some (.slice l[i].a l[i].n l[i].c) → R t h) → hwp PP (Instr.indexAt T_sl_sl_uint8 (.slice a n c) (.int .i64 i)) (fun u h1 => ∃ t, u = .pointer (some t) ∧ R t h1) h := fun H r =>
      idx (i := i) E_sl_sl_uint8 (H.ro_rd hr) (by omega) (by omega) (v := bsV l[i]) (by simp [hil]) r
    have G : ∀ {M : List Assn}, Gv (ro h0 :: M) l[i].a (nV l[i].bs) := Gv.ro W.rd
    refine law18_FrameFeeds_L1111111010_of (br_true (decide_eq_true (by omega)) ?_)
    refine I H.m2 fun t1 ht1 => ⟨_, _, _, ht1, ?_⟩
    refine Lend_spec (xs := l[i].bs) (H.m2.ro_rd W.rd) Wl (by omega) (fun e => by have := W.nil e; have := W.le; omega) H (fun h2 b H2 => ⟨_, _, _, rfl, ?_⟩) G.cons.cons
    have Gb : ∀ {M : List Assn}, Gv (lent b l[i].bs :: M) (some ⟨b, 0, none⟩) (nV l[i].bs) := fun {M} => by
      have := (Gv.own (L := M) (a := some ⟨b, 0, none⟩) (n := l[i].bs.length + 2) (c := l[i].bs.length + 2) (e := T_uint8) (sz := 1) (xs := nV (l[i].bs ++ [165, 90]))).take l[i].n
      rwa [show (nV (l[i].bs ++ [165, 90])).take l[i].n = nV l[i].bs by rw [nV_app, List.take_append_of_le_length (by rw [nV_len]; omega), List.take_of_length_le (by rw [nV_len]; omega)]] at this
    refine FeedAt_spec (xs := l[i].bs) t.cons.cons Gb Wl (fun e => nomatch e) W.lt (by omega) H2.m1 fun h3 fa fc fl e1 e2 H3 => ⟨_, _, _, _, rfl, ?_⟩
    refine I (H3.m4) fun t4 ht4 => ⟨_, _, _, ht4, ?_⟩
    refine Back_spec (xs := l[i].bs) G.cons.cons.cons Wl (by omega) H3.m2 fun h5 H5 => ⟨_, rfl, br_false rfl ?_⟩
    -- [DecAt, FO, own, ro]
    by_cases ew : (rd pre).2.1 = 0
    · obtain ⟨rfl, htold⟩ := hab ew
      rw [ew]
      refine br_false rfl ?_
      refine I H5.m3 fun t7 ht7 => ⟨_, _, _, ht7, ?_⟩
      refine (H5.m2).app_sl E_sl_uint8 (m := l[i].n) (ys := nV l[i].bs) (H5.m3.ro_rd W.rd) (by rw [nV_len, Wl]; omega) (fun e => by have := W.nil e; have := W.le; omega) (nV_one _) (fun h9 a9 c9 H9 => ⟨_, _, _, rfl, ?_⟩) (by omega) (by omega)
      rw [← nV_app] at H9
      have hlen : (ab ++ l[i].bs).length = ab.length + l[i].n := by rw [List.length_append, Wl]
      rw [← hlen] at H9 ⊢
      have hx9 : ∀ x ∈ ab ++ l[i].bs, x < 256 := fun x hx => (List.mem_append.1 hx).elim (hlt x) (W.lt x)
      have hn9 : ∀ {M : List Assn} {h : Heap}, Hs h (own a9 (ab ++ l[i].bs).length c9 T_uint8 1 (nV (ab ++ l[i].bs)) :: M) → a9 = none → c9 = 0 := fun H e => by subst e; exact H.own_none
      refine Read_spec (bs := ab ++ l[i].bs) Gv.own rfl H9.own_le (hn9 H9) hx9 (by omega) H9 fun h10 oa oc H10 => ⟨_, _, _, _, _, rfl, ?_⟩
      have hw10 := rd_rest_lt _ (ab ++ l[i].bs) (Nat.le_refl _) hx9
      rw [htold]
      have hrl : (rd (ab ++ l[i].bs)).1.length = (rd ab).1.length + fl.length := by rw [e1, List.length_append]
      refine slice_rds (lo := some (.int .i64 ((rd ab).1.length : Nat))) (hi := none) E_sl_api_Frame H10.rd H10.own_len H10.own_le trivial trivial (by simp [bnd]) (by simp [bnd]; omega) (by simp [bnd]) (fun e => by subst e; exact H10.own_none) fun a11 r11 n11 => ⟨_, _, _, rfl, ?_⟩
      have er : (((rd (ab ++ l[i].bs)).1.flatMap frV).drop ((bnd (some (Value.int .i64 ((rd ab).1.length : Nat))) 0).toNat * 2)).take (((bnd none ((rd (ab ++ l[i].bs)).1.length : Nat)).toNat - (bnd (some (Value.int .i64 ((rd ab).1.length : Nat))) 0).toNat) * 2) = fl.flatMap frV := by
        simp only [bnd, Int.toNat_natCast]
        have hf : ((rd ab).1.flatMap frV).length = (rd ab).1.length * 2 := flat_len (sz := 2) (fun _ => rfl) _
        have hf2 : (fl.flatMap frV).length = fl.length * 2 := flat_len (sz := 2) (fun _ => rfl) _
        rw [e1, List.flatMap_append, List.drop_append, List.drop_of_length_le (by omega), hf, Nat.sub_self, List.drop_zero, List.nil_append, List.take_of_length_le (by rw [hf2, List.length_append]; omega)]
      rw [er] at r11
      have en : (bnd none ((rd (ab ++ l[i].bs)).1.length : Nat)).toNat - (bnd (some (Value.int .i64 ((rd ab).1.length : Nat))) 0).toNat = fl.length := by simp only [bnd, Int.toNat_natCast]; omega
      rw [en]
      refine Same_spec (l := fl) (H10.m3).rd r11 rfl (by omega) ⟨_, rfl, br_false rfl ?_⟩
      refine br_false (by simp) ?_
      refine WrongAt_spec H10.m2 ⟨_, rfl, br_false (by simp) ?_⟩
      have hal : (ab ++ l[i].bs).length < 2 ^ 20 + 1 := by omega
      refine WantsAt_spec (by omega) H10.m2 fun h13 H13 => ⟨_, rfl, ?_⟩
      refine RWants_spec (bs := ab ++ l[i].bs) Gv.own.cons.cons rfl (H13.m2).own_le (hn9 H13.m2) hx9 (by omega) H13 fun h14 H14 => ⟨_, rfl, ?_⟩
      rw [show (wantsOf (ab ++ l[i].bs) != (if (rd (ab ++ l[i].bs)).2.1 = 0 then wants (rd (ab ++ l[i].bs)).2.2 else 0)) = false by unfold wantsOf; simp]
      exact law18_FrameFeeds_J1111111010010011111101_of (br_false rfl (step (fun _ => ⟨rfl, rfl⟩) ((H14.m1.tl).m2.tl)))
    · obtain ⟨rfl, e3⟩ := e2 ew
      refine br_true (by simpa using ew) (br_false (by simp) (br_false (by rw [e3]; simp) ?_))
      refine WrongAt_spec H5 ⟨_, rfl, br_false (by rw [e3]; simp) ?_⟩
      refine WantsAt_spec (by rw [List.length_append]; omega) H5 fun h7 H7 => ⟨_, rfl, ?_⟩
      have e4 : wantsOf (pre ++ l[i].bs) = 0 := by unfold wantsOf; rw [e3, if_neg ew]
      rw [e4]
      refine law18_FrameFeeds_J1111111010010011101001_of (br_false rfl ?_)
      have := step (h := h7) (aa := aa) (ac := ac) (ab := ab) (told := told) (fun e => by rw [e3] at e; exact absurd e ew) ((H7.m1).tl)
      rw [e3] at this
      exact this
end
theorem FrameFeeds_spec {a : Option Addr} {n c : Nat} {l : List Bs} (tab : Tab h) (hr : Rd h a (l.map bsV)) (hn : l.length = n) (hw : ∀ s ∈ l, BsWf h s) (hmax : n ≤ 140737488351232) (HQ : ∀ h', ExtB h.size h h' → Q (.bool true) h') : SpecH PP F_law18_FrameFeeds [.slice a n c] h Q := by
  refine law18_FrameFeeds_door ?_
  unfold law18_FrameFeeds_main
  have H0 := Hs.start h
  have t : TabL [ro h] := TabL.ro tab
  have J : ∀ b : Bool, (b = false → n + tot l ≤ 1048576) → law18_FrameFeeds_J101 a n c b Q h := by
    intro b hb
    refine law18_FrameFeeds_J101_of ((br_iff _ _ _).2 ⟨fun _ => awake_spec t H0 fun h2 H2 => ⟨_, rfl, HQ _ H2.ro_below⟩, fun e => ?_⟩)
    refine NewAt_spec H0 fun h2 d H2 => ⟨_, rfl, br_false rfl ?_⟩
    have := feeds_loop (d := d) (c := c) (K := law18_FrameFeeds_K111111101 Q) tab hr hn hw (hb e) (fun h' e' => ?_) n 0 (aa := none) (ac := 0) (ab := []) (told := 0) (h := h2) (by omega) (fun _ => ⟨rfl, by rw [List.take_zero, List.flatMap_nil, rd_nil]; rfl⟩) ((H2.own_nil T_uint8 1).m1)
    · rw [List.take_zero, List.flatMap_nil, rd_nil] at this
      exact this
    rw [law18_FrameFeeds_at1111111010_X0]
    have H3 : Hs h' [ro h] := by
      refine ⟨fun b => if b < h.size then h[b]? else none, fun _ => none, fun b hb => by simp [hb], trivial, fun _ => .inr rfl, fun b o hb => ?_, fun _ _ e => nomatch e⟩
      simp only at hb
      split at hb
      · rename_i hlt; show h'[b]? = some o; rw [e'.2 b hlt]; exact hb
      · cases hb
    exact awake_spec t H3 fun h4 H4 => ⟨_, rfl, HQ _ H4.ro_below⟩
  refine large_spec hr hn (fun s hs => (hw s hs).big) hmax fun b hb => ⟨_, rfl, (br_iff _ _ _).2 ⟨fun _ => J _ (fun e => by cases e), fun eb => J _ fun _ => hb eb⟩⟩
end Go.Proofs.YtdjjchfhccmjgaaDoor
