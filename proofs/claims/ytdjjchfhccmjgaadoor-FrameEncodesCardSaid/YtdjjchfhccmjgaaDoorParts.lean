/- A decoder that has been fed some bytes, whatever they are. -/
import Derived.Test.YtdjjchfhccmjgaaDoorLaws3
set_option linter.unusedVariables false
set_option linter.unusedSimpArgs false
namespace Go.Proofs.YtdjjchfhccmjgaaDoor
open Go Go.HW
variable {h : Heap} {L : List Assn} {Q : Value → Heap → Prop}
def DecAt (d : Nat) (pre : List Nat) : Assn := fun m => ∃ buf, (((rd pre).2.1 = 0 → buf = (rd pre).2.2) ∧ buf.length ≤ pre.length) ∧ Dec d buf (rd pre).2.1 m
theorem DecAt_iff {d : Nat} {pre : List Nat} : Hs h (DecAt d pre :: L) ↔ ∃ buf, (((rd pre).2.1 = 0 → buf = (rd pre).2.2) ∧ buf.length ≤ pre.length) ∧ Hs h (Dec d buf (rd pre).2.1 :: L) := by
  unfold DecAt; simp only [Hs.ex, Hs.and]
theorem rd_nil : rd [] = ([], 0, []) := rd_wait (by unfold nx; rfl)
theorem rd_len (bs : List Nat) : (rd bs).2.2.length ≤ bs.length := by
  have : ∀ (k : Nat) (bs : List Nat), bs.length ≤ k → (rd bs).2.2.length ≤ bs.length := by
    intro k
    induction k with
    | zero => intro bs hk; rw [rd_wait (by unfold nx; rw [if_pos (by omega)])]; exact Nat.le_refl _
    | succ k ih =>
      intro bs hk
      cases N : nx bs with
      | wait => rw [rd_wait N]; exact Nat.le_refl _
      | bad e => rw [rd_bad N]; exact Nat.le_refl _
      | got f n =>
        have hg := nx_got N
        rw [rd_got N]
        have := ih (bs.drop n) (by rw [List.length_drop]; omega)
        rw [List.length_drop] at this
        simp only []; omega
  exact this _ bs (Nat.le_refl _)
theorem NewAt_spec (H : Hs h L) (kk : ∀ h' d, Hs h' (DecAt d [] :: L) → Q (P_ d) h') : SpecH PP F_frame_New [] h Q :=
  FNew_spec H fun h' d H' => kk h' d (DecAt_iff.2 ⟨[], ⟨fun _ => by rw [rd_nil], Nat.le_refl _⟩, by rw [rd_nil]; exact H'⟩)
theorem FeedAt_spec {d n c : Nat} {a : Option Addr} {pre xs : List Nat} (t : TabL L) (hr : Gv L a (nV xs)) (hn : xs.length = n) (hn0 : a = none → n = 0) (hx : ∀ x ∈ xs, x < 256) (hl : pre.length + n < 2 ^ 30) (H : Hs h (DecAt d pre :: L))
    (kk : ∀ h' fa fc l, (rd (pre ++ xs)).1 = (rd pre).1 ++ l → ((rd pre).2.1 ≠ 0 → l = [] ∧ (rd (pre ++ xs)).2.1 = (rd pre).2.1) → Hs h' (DecAt d (pre ++ xs) :: FO fa fc l :: L) → Q (.tuple #[.slice fa l.length fc, .int .i64 (rd (pre ++ xs)).2.1]) h') :
    SpecH PP F_frame_Decoder_Feed [P_ d, .slice a n c] h Q := by
  obtain ⟨buf, ⟨hb, hbl⟩, H1⟩ := DecAt_iff.1 H
  have hap := rd_app pre.length pre xs (Nat.le_refl _)
  refine Feed_spec (xs := xs) t hr hn hn0 hx (by omega) H1 (fun e h2 H2 => ?_) (fun e h2 fa fc H2 => ?_)
  · rw [if_neg e] at hap
    have := kk h2 none 0 [] (by rw [hap]; simp) (fun _ => ⟨rfl, by rw [hap]⟩) ?_
    · rw [hap] at this; exact this
    have H3 := (H2.own_nil T_api_Frame 2).m1
    refine DecAt_iff.2 ⟨buf, ⟨fun e2 => ?_, by rw [List.length_append]; omega⟩, ?_⟩
    · rw [hap] at e2; exact absurd e2 e
    · rw [hap]; exact H3
  · rw [if_pos e, ← hb e] at hap
    have hl2 := rd_len (buf ++ xs)
    have := kk h2 fa fc (rd (buf ++ xs)).1 (by rw [hap]) (fun e2 => absurd e e2) ?_
    · rw [hap] at this; exact this
    refine DecAt_iff.2 ⟨(rd (buf ++ xs)).2.2, ⟨fun _ => by rw [hap], ?_⟩, ?_⟩
    · rw [List.length_append] at hl2 ⊢; omega
    · rw [hap]; exact H2
def wantsOf (pre : List Nat) : Int := if (rd pre).2.1 = 0 then wants (rd pre).2.2 else 0
theorem WantsAt_spec {d : Nat} {pre : List Nat} (hl : pre.length < 2 ^ 40) (H : Hs h (DecAt d pre :: L)) (kk : ∀ h', Hs h' (DecAt d pre :: L) → Q (.int .i64 (wantsOf pre)) h') : SpecH PP F_frame_Decoder_Wants [P_ d] h Q := by
  obtain ⟨buf, ⟨hb, hbl⟩, H1⟩ := DecAt_iff.1 H
  refine Wants_spec (by omega) H1 fun h2 H2 => ?_
  have := kk h2 (DecAt_iff.2 ⟨buf, ⟨hb, hbl⟩, H2⟩)
  unfold wantsOf at this
  split
  · rename_i e; rw [if_pos e, ← hb e] at this; exact this
  · rename_i e; rw [if_neg e] at this; exact this
theorem WrongAt_spec {d : Nat} {pre : List Nat} (H : Hs h (DecAt d pre :: L)) (kk : Q (.int .i64 (rd pre).2.1) h) : SpecH PP F_frame_Decoder_Wrong [P_ d] h Q := by
  obtain ⟨buf, _, H1⟩ := DecAt_iff.1 H
  exact Wrong_spec H1 kk
/-! ### The law of parts -/
section
variable {a ca wa : Option Addr} {n c cn cc wc whole d : Nat} {bs : List Nat} {cl : List Int} {K : Ex → Fr → Heap → Prop} {e8 : Int} {wl : List Fm}
theorem parts_loop (t : TabL L) (hr : Gv L a (nV bs)) (hn : bs.length = n) (hnc : n ≤ c) (hn0 : a = none → c = 0) (hx : ∀ x ∈ bs, x < 256) (hmax : n ≤ 1048576) (hc : Gv L ca (cl.map fun z => .int .i64 z)) (hcn : cl.length = cn) (hcmax : cn ≤ 1048576)
    (kk : ∀ h' ga gc at_, at_ ≤ n → Hs h' (DecAt d (bs.take at_) :: FO ga gc (rd (bs.take at_)).1 :: L) → K (.exit 0) (law18_FrameParts_X0 a n c (some ⟨whole, 0, none⟩) (some ⟨d, 0, none⟩) wa wl.length wc e8 ga (rd (bs.take at_)).1.length gc at_) h') :
    ∀ (k i : Nat) {h : Heap} {ga : Option Addr} {gc at_ : Nat}, i + k = cn → at_ ≤ n → Hs h (DecAt d (bs.take at_) :: FO ga gc (rd (bs.take at_)).1 :: L) → law18_FrameParts_L11111111010 a n c ca cn cc (some ⟨whole, 0, none⟩) (some ⟨d, 0, none⟩) wa wl.length wc e8 ga (rd (bs.take at_)).1.length gc at_ i K h := by
  intro k
  induction k with
  | zero =>
    intro i h ga gc at_ hi ha H
    exact law18_FrameParts_L11111111010_of (br_false (decide_eq_false (by omega)) (kk h ga gc at_ ha H))
  | succ k ih =>
    intro i h ga gc at_ hi ha H
    have hil : i < cl.length := by omega
    have next : ∀ {h : Heap} {ga : Option Addr} {gc at_ : Nat}, at_ ≤ n → Hs h (DecAt d (bs.take at_) :: FO ga gc (rd (bs.take at_)).1 :: L) → law18_FrameParts_J11111111010011 a n c ca cn cc (some ⟨whole, 0, none⟩) (some ⟨d, 0, none⟩) wa wl.length wc e8 ga (rd (bs.take at_)).1.length gc at_ i K h := by
      intro h ga gc at_ ha H
      refine law18_FrameParts_J11111111010011_of ?_
      unfold law18_FrameParts_J11111111010011_txt
      simp only [inc (show i < 2 ^ 62 by omega)]
      exact ih (i + 1) (by omega) ha H
    refine law18_FrameParts_L11111111010_of (br_true (decide_eq_true (by omega)) ?_)
    refine idx (i := i) E_sl_int (hc _ H.tl.tl) (by omega) (by omega) (v := .int .i64 cl[i]) (by simp) fun t1 ht => ⟨_, ht, ?_⟩
    refine (br_iff _ _ _).2 ⟨fun _ => next ha H, fun e1 => ?_⟩
    have e1 := of_decide_eq_false e1
    have w1 : IntKind.i64.wrap ((n : Int) - (at_ : Int)) = ((n - at_ : Nat) : Int) := by rw [wrap_i64_z (by omega) (by omega)]; omega
    simp only [w1]
    refine (br_iff _ _ _).2 ⟨fun _ => next ha H, fun e2 => ?_⟩
    have e2 := of_decide_eq_false e2
    obtain ⟨m, hm⟩ := Int.eq_ofNat_of_zero_le (show 0 ≤ cl[i] by omega)
    rw [hm] at e2 ⊢
    have w2 : IntKind.i64.wrap ((at_ : Int) + (m : Int)) = ((at_ + m : Nat) : Int) := by rw [wrap_i64_z (by omega) (by omega)]; simp
    simp only [w2]
    refine bytes_cutG (i := at_) (j := at_ + m) E_sl_uint8 hr hn hnc hn0 (by omega) (by omega) fun a4 c4 r4 n4 _ _ => ⟨_, _, _, rfl, ?_⟩
    have em : at_ + m - at_ = m := by omega
    rw [em] at r4 n4 ⊢
    have etk : bs.take at_ ++ (bs.drop at_).take m = bs.take (at_ + m) := by rw [List.take_add]
    refine FeedAt_spec (xs := (bs.drop at_).take m) t.cons r4.cons (by rw [List.length_take, List.length_drop]; omega) n4 (fun x hm => hx x (List.mem_of_mem_drop (List.mem_of_mem_take hm))) (by rw [List.length_take]; omega) H fun h5 fa fc l el _ H5 => ⟨_, _, _, _, rfl, ?_⟩
    rw [etk] at el H5 ⊢
    have hl1 := (rd_rest_lt _ (bs.take (at_ + m)) (Nat.le_refl _) (fun x hm => hx x (List.mem_of_mem_take hm))).2.2
    rw [List.length_take, el, List.length_append] at hl1
    refine (H5.m2).app_sl E_sl_api_Frame (m := l.length) (ys := l.flatMap frV) (H5.m1).rd (by rw [flat_len (sz := 2) (fun _ => rfl)]) (fun e => by subst e; have := H5.m1.own_none; have := H5.m1.own_le; omega) (fun v hv => fr_one hv) (fun h6 a6 c6 H6 => ⟨_, _, _, rfl, ?_⟩) (by omega) (by omega)
    refine WrongAt_spec H6.m1 ⟨_, rfl, br_false (by simp) ?_⟩
    have H7 : Hs h6 (DecAt d (bs.take (at_ + m)) :: FO a6 c6 (rd (bs.take (at_ + m))).1 :: L) := by
      unfold FO
      rw [el, List.flatMap_append, List.length_append]
      exact (H6.m2.tl).m1
    have e7 : (rd (bs.take at_)).1.length + l.length = (rd (bs.take (at_ + m))).1.length := by rw [el, List.length_append]
    simp only [w2, e7]
    exact next (by omega) H7
end
theorem FrameParts_spec {a ca : Option Addr} {n c cn cc : Nat} {bs : List Nat} {cl : List Int} (tab : Tab h) (hr : Rd h a (nV bs)) (hn : bs.length = n) (hnc : n ≤ c) (hn0 : a = none → n = 0) (hx : ∀ x ∈ bs, x < 256) (hc : Rd h ca (cl.map fun z => .int .i64 z)) (hcn : cl.length = cn) (hn1 : a = none → c = 0)
    (HQ : ∀ h', ExtB h.size h h' → Q (.bool true) h') : SpecH PP F_law18_FrameParts [.slice a n c, .slice ca cn cc] h Q := by
  refine law18_FrameParts_door ?_
  unfold law18_FrameParts_main
  have H0 := Hs.start h
  have t : TabL [ro h] := TabL.ro tab
  have J : ∀ b : Bool, (b = false → n ≤ 1048576 ∧ cn ≤ 1048576) → law18_FrameParts_J101 a n c ca cn cc b Q h := by
    intro b hb
    refine law18_FrameParts_J101_of ((br_iff _ _ _).2 ⟨fun _ => awake_spec t H0 fun h2 H2 => ⟨_, rfl, HQ _ H2.ro_below⟩, fun e => ?_⟩)
    obtain ⟨b1, b2⟩ := hb e
    refine NewAt_spec H0 fun h2 w H2 => ⟨_, rfl, ?_⟩
    refine NewAt_spec H2 fun h3 d H3 => ⟨_, rfl, br_false rfl ?_⟩
    refine law18_FrameParts_J111101_of (br_false rfl ?_)
    have G : Gv [ro h] a (nV bs) := Gv.ro hr
    refine FeedAt_spec (pre := []) (xs := bs) t.cons G.cons hn hn0 hx (by simp only [List.length_nil]; omega) H3.m1 fun h4 fa fc l el _ H4 => ⟨_, _, _, _, rfl, ?_⟩
    rw [List.nil_append] at el H4 ⊢
    rw [rd_nil, List.nil_append] at el
    have e0 : bs.take 0 = [] := rfl
    have H5 := (H4.m2.own_nil T_api_Frame 2).m1
    have H6 : Hs h4 (DecAt d (bs.take 0) :: FO none 0 (rd (bs.take 0)).1 :: DecAt w bs :: FO fa fc l :: [ro h]) := by
      rw [e0, rd_nil]; exact H5
    have t6 : TabL (DecAt w bs :: FO fa fc l :: [ro h]) := t.cons.cons
    have := parts_loop (d := d) (whole := w) (wl := l) (wa := fa) (wc := fc) (e8 := (rd bs).2.1) (K := law18_FrameParts_K1111111101 Q) (cc := cc) t6 G.cons.cons hn hnc hn1 hx b1 ((Gv.ro hc).cons.cons) hcn b2 (fun h7 ga gc at_ ha H7 => ?_) cn 0 (at_ := 0) (by omega) (by omega) H6
    · rw [e0, rd_nil] at this
      exact this
    rw [law18_FrameParts_at11111111010_X0]
    refine bytes_tailG (i := at_) E_sl_uint8 G hn hnc hn1 ha fun a8 c8 r8 n8 _ _ => ⟨_, _, _, rfl, ?_⟩
    have etk : bs.take at_ ++ bs.drop at_ = bs := List.take_append_drop _ _
    refine FeedAt_spec (xs := bs.drop at_) t6.cons r8.cons.cons.cons (by rw [List.length_drop]; omega) n8 (fun x hm => hx x (List.mem_of_mem_drop hm)) (by rw [List.length_take]; omega) H7 fun h9 fa2 fc2 l2 el2 _ H9 => ⟨_, _, _, _, rfl, ?_⟩
    rw [etk] at el2 H9 ⊢
    have hl1 := (rd_rest_lt _ bs (Nat.le_refl _) hx).2.2
    rw [el2, List.length_append] at hl1
    refine (H9.m2).app_sl E_sl_api_Frame (m := l2.length) (ys := l2.flatMap frV) (H9.m1).rd (by rw [flat_len (sz := 2) (fun _ => rfl)]) (fun e => by subst e; have := H9.m1.own_none; have := H9.m1.own_le; omega) (fun v hv => fr_one hv) (fun h10 a10 c10 H10 => ⟨_, _, _, rfl, ?_⟩) (by omega) (by omega)
    have H11 : Hs h10 (FO a10 c10 l :: DecAt d bs :: FO fa2 fc2 l2 :: DecAt w bs :: FO fa fc l :: [ro h]) := by
      have : l = (rd (bs.take at_)).1 ++ l2 := by rw [← el, el2]
      unfold FO at H10 ⊢
      rw [this, List.flatMap_append, List.length_append]
      rw [this, List.flatMap_append, List.length_append] at H10
      exact H10
    have e7 : (rd (bs.take at_)).1.length + l2.length = l.length := by rw [← el, el2, List.length_append]
    rw [e7]
    refine awake_spec t6.cons.cons.cons H11 fun h12 H12 => ⟨_, rfl, br_true rfl ?_⟩
    refine Same_spec H12.rd (H12.m4.rd) rfl (by rw [← e7]; omega) ⟨_, rfl, br_true rfl (br_true (by simp) ?_)⟩
    refine WantsAt_spec (by omega) H12.m1 fun h13 H13 => ⟨_, rfl, ?_⟩
    refine WantsAt_spec (by omega) H13.m3 fun h14 H14 => ⟨_, rfl, ?_⟩
    rw [show (wantsOf bs == wantsOf bs) = true by simp]
    exact HQ _ (H14.tl.tl.tl.tl.tl.ro_below)
  exact (br_iff _ _ _).2 ⟨fun _ => J _ (fun e => by cases e), fun e0 => J _ fun e => ⟨by have := of_decide_eq_false e0; omega, by have := of_decide_eq_false e; omega⟩⟩
end Go.Proofs.YtdjjchfhccmjgaaDoor
