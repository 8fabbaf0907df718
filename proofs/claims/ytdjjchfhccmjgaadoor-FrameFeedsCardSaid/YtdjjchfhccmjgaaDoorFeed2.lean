/- Contracts of package frame: Feed. -/
import Derived.Test.YtdjjchfhccmjgaaDoorFeed
set_option linter.unusedVariables false
set_option linter.unusedSimpArgs false
namespace Go.Proofs.YtdjjchfhccmjgaaDoor
open Go Go.HW
variable {h : Heap} {L : List Assn} {Q : Value → Heap → Prop}
section
variable {d : Nat} {K : Ex → Fr → Heap → Prop} {out : List Fm}
def FO (fa : Option Addr) (fc : Nat) (out : List Fm) : Assn := own fa out.length fc T_api_Frame 2 (out.flatMap frV)
/-- The decoder with its bytes at hand, and what it has read. -/
def FS (d : Nat) (ba : Option Addr) (bc : Nat) (buf : List Nat) (w : Int) (L : List Assn) : List Assn := pt d T_frame_Decoder [.slice ba buf.length bc, .int .i64 w] :: own ba buf.length bc T_uint8 1 (nV buf) :: L
theorem feed_end {ba oa : Option Addr} {bc oc : Nat} {buf : List Nat} {w : Int} (hl : buf.length < 2 ^ 40) (H : Hs h (FS d ba bc buf w (FO oa oc out :: L)))
    (kk : ∀ h' ba bc, Hs h' (FS d ba bc buf w (FO oa oc out :: L)) → K .ret (frame_Decoder_Feed_Xret oa out.length oc w) h') : frame_Decoder_Feed_G0_1 (some ⟨d, 0, none⟩) oa out.length oc K h := by
  unfold FS at H
  refine frame_Decoder_Feed_G0_1_of ⟨_, _, _, H.cell (off := 0) rfl, ?_⟩
  refine (H.own_nil T_uint8 1).app_sl E_sl_uint8 H.m1.rd (by rw [nV_len, Nat.mul_one]) (fun e => by subst e; have := H.m1.own_none; have := H.m1.own_le; omega) (nV_one _) (fun h2 a2 c2 H2 => ⟨_, _, _, rfl, ?_⟩) (by omega) (by omega)
  refine H2.m1.sto (off := 0) (by simp) fun h3 H3 => ⟨_, H3.cell (off := 1) rfl, kk h3 a2 c2 ?_⟩
  have e : 0 + buf.length = buf.length := Nat.zero_add _
  rw [List.nil_append, e] at H3
  exact (H3.m2).tl
theorem feed_got {ba oa : Option Addr} {bc oc : Nat} {buf : List Nat} {f : Fm} {n : Nat} (hn : nx buf = .got f (n + 9)) (hl : buf.length < 2 ^ 40) (H : Hs h (FS d ba bc buf 0 (FO oa oc out :: L)))
    (kk : ∀ h' ba' bc', Hs h' (FS d ba' bc' (buf.drop (n + 9)) 0 (FO oa oc out :: L)) → frame_Decoder_Feed_J1011111111 (some ⟨d, 0, none⟩) oa out.length oc K h') :
    frame_Decoder_Feed_J1011111111111111111 (some ⟨d, 0, none⟩) oa out.length oc n K h := by
  have hg := nx_got hn
  unfold FS at H
  have w9 : IntKind.i64.wrap ((n : Int) + 9) = ((n + 9 : Nat) : Int) := by rw [wrap_i64_z (by omega) (by omega)]; simp
  refine frame_Decoder_Feed_J1011111111111111111_of ⟨_, _, _, H.cell (off := 0) rfl, ?_⟩
  simp only [w9]
  refine H.m1.own_cut E_sl_uint8 hg.2 fun a2 H2 => ⟨_, _, _, rfl, ?_⟩
  refine H2.m1.sto (off := 0) (by simp) fun h3 H3 => frame_Decoder_Feed_G1_1_of (kk h3 a2 (bc - (n + 9)) ?_)
  unfold FS
  rw [List.length_drop]
  have e : (nV buf).drop ((n + 9) * 1) = nV (buf.drop (n + 9)) := by rw [Nat.mul_one]; simp [nV, List.map_drop]
  rw [e] at H3; exact H3
theorem fr_one {l : List Fm} {v : Value} (hv : v ∈ l.flatMap frV) : oneC v = true := by
  obtain ⟨x, _, hx⟩ := List.mem_flatMap.1 hv
  simp only [frV, List.mem_cons, List.not_mem_nil, or_false] at hx
  rcases hx with rfl | rfl <;> rfl
/-- What stands at the head is told, by its bytes. -/
theorem nx_eq {buf : List Nat} (h4 : 4 ≤ buf.length) : nx buf =
    if 20000 < get4 (buf.take 4) then .bad 180
    else if 5 ≤ buf.length ∧ buf.getD 4 0 = 0 then .bad 182
    else if buf.length < get4 (buf.take 4) + 9 then .wait
    else if get4 ((buf.drop (5 + get4 (buf.take 4))).take 4) ≠ crc ((buf.drop 4).take (1 + get4 (buf.take 4))) then .bad 181
    else .got ⟨buf.getD 4 0, st ((buf.drop 5).take (get4 (buf.take 4)))⟩ (get4 (buf.take 4) + 9) := by
  conv => lhs; unfold nx
  rw [if_neg (by omega)]
theorem feed_mid {ba oa : Option Addr} {bc oc g : Nat} {buf : List Nat} {t65 : Bool} (t : TabL L) (hx : ∀ x ∈ buf, x < 256) (h4 : 4 ≤ buf.length) (hg : get4 (buf.take 4) = g) (hg2 : g ≤ 20000) (ht : t65 = decide (5 ≤ buf.length ∧ buf.getD 4 0 = 0)) (hl : buf.length < 2 ^ 40) (hol : out.length < 2 ^ 40)
    (H : Hs h (FS d ba bc buf 0 (FO oa oc out :: L)))
    (kw : nx buf = .wait → ∀ h' ba bc, Hs h' (FS d ba bc buf 0 (FO oa oc out :: L)) → K .ret (frame_Decoder_Feed_Xret oa out.length oc 0) h')
    (kb : ∀ e, nx buf = .bad e → ∀ h' ba bc, Hs h' (FS d ba bc buf e (FO oa oc out :: L)) → K .ret (frame_Decoder_Feed_Xret oa out.length oc e) h')
    (kg : ∀ f n, nx buf = .got f n → ∀ h' ba' bc' oa' oc', Hs h' (FS d ba' bc' (buf.drop n) 0 (FO oa' oc' (out ++ [f]) :: L)) → frame_Decoder_Feed_J1011111111 (some ⟨d, 0, none⟩) oa' (out ++ [f]).length oc' K h') :
    frame_Decoder_Feed_J1011111111111101 (some ⟨d, 0, none⟩) oa out.length oc g t65 K h := by
  have N := nx_eq h4
  rw [hg, if_neg (by omega)] at N
  subst ht
  refine frame_Decoder_Feed_J1011111111111101_of ((br_iff _ _ _).2 ⟨fun e => ?_, fun e => ?_⟩)
  · rw [if_pos (of_decide_eq_true e)] at N
    unfold FS at H
    refine H.sto (off := 1) (by simp) fun h2 H2 => feed_end hl H2 fun h3 ba bc H3 => kb 182 N h3 ba bc H3
  rw [if_neg (of_decide_eq_false e)] at N
  have w9 : IntKind.i64.wrap ((g : Int) + 9) = ((g + 9 : Nat) : Int) := by rw [wrap_i64_z (by omega) (by omega)]; simp
  have w5 : IntKind.i64.wrap (5 + (g : Int)) = ((5 + g : Nat) : Int) := by rw [wrap_i64_z (by omega) (by omega)]; simp
  have H0 := H
  unfold FS at H0
  refine ⟨_, _, _, H0.cell (off := 0) rfl, ?_⟩
  simp only [w9]
  refine (br_iff _ _ _).2 ⟨fun e2 => ?_, fun e2 => ?_⟩
  · have e3 := of_decide_eq_true e2
    rw [if_pos (by omega)] at N
    exact feed_end hl H fun h3 ba bc H3 => kw N h3 ba bc H3
  have e3 := of_decide_eq_false e2
  rw [if_neg (by omega)] at N
  refine ⟨_, _, _, H0.cell (off := 0) rfl, ?_⟩
  simp only [w5]
  refine Get32_hs (j := 5 + g) hx H0.m1.rd rfl H0.m1.own_le hl H0 (fun e => by omega) (fun _ h2 H2 => ⟨_, _, rfl, _, _, _, H2.cell (off := 0) rfl, ?_⟩)
  have hn0 : ba = none → bc = 0 := fun e => by subst e; exact H2.m1.own_none
  refine bytes_cut (i := 4) (j := 5 + g) E_sl_uint8 H2.m1.rd rfl H2.m1.own_le hn0 (by omega) (by omega) fun a4 c4 r4 n4 hc4 _ => ⟨_, _, _, rfl, ?_⟩
  have hx4 : ∀ x ∈ (buf.drop 4).take (5 + g - 4), x < 256 := fun x hm => hx x (List.mem_of_mem_drop (List.mem_of_mem_take hm))
  refine Sum_hs t.cons.cons.cons hx4 r4 (by rw [List.length_take, List.length_drop]; omega) (by omega) H2 ⟨_, rfl, ?_⟩
  have e14 : 5 + g - 4 = 1 + g := by omega
  rw [e14]
  refine (br_iff _ _ _).2 ⟨fun e5 => ?_, fun e5 => ?_⟩
  · have e6 : get4 ((buf.drop (5 + g)).take 4) ≠ crc ((buf.drop 4).take (1 + g)) := by intro e0; rw [e0] at e5; simp at e5
    rw [if_pos e6] at N
    refine H2.sto (off := 1) (by simp) fun h3 H3 => feed_end hl H3 fun h4 ba bc H4 => kb 181 N h4 ba bc H4
  have e6 : get4 ((buf.drop (5 + g)).take 4) = crc ((buf.drop 4).take (1 + g)) := by simp at e5; omega
  rw [if_neg (by rw [Decidable.not_not]; exact e6)] at N
  refine ⟨_, _, _, H2.cell (off := 0) rfl, ?_⟩
  refine bytes_cut (i := 5) (j := 5 + g) E_sl_uint8 H2.m1.rd rfl H2.m1.own_le hn0 (by omega) (by omega) fun a5 c5 r5 n5 hc5 _ => ⟨_, _, _, rfl, ?_⟩
  have h5l : 4 < buf.length := by omega
  have g4 : buf.getD 4 0 = buf[4] := by rw [List.getD_eq_getElem?_getD, List.getElem?_eq_getElem h5l]; rfl
  have e55 : 5 + g - 5 = g := by omega
  rw [e55] at r5 n5 ⊢
  have c0 := H2.cell (off := 0) rfl
  have I : ∀ {R : Addr → Heap → Prop}, (∀ t, cellH h2 t = some (.int .u8 (buf[4] : Nat)) → R t h2) → hwp PP (Instr.indexAt T_sl_uint8 (.slice ba buf.length bc) (.int .i64 4)) (fun u h1 => ∃ t, u = .pointer (some t) ∧ R t h1) h2 := fun r =>
    idx (i := 4) E_sl_uint8 H2.m1.rd (by omega) (by omega) (show (nV buf)[Int.toNat 4]? = _ from nV_get h5l) r
  have B : ∀ {R : Value → Heap → Prop}, R (.string (st ((buf.drop 5).take g))) h2 → hwp PP (Go.convert T_sl_uint8 T_string (.slice a5 g c5)) R h2 := fun r =>
    hwp_b2s U_string U_sl_uint8 U_uint8 r5 (by rw [List.length_take, List.length_drop]; omega) n5 r
  have wk : IntKind.i64.wrap ((buf[4] : Nat) : Int) = ((buf[4] : Nat) : Int) := wrap_i64_z (by omega) (by have := hx _ (List.getElem_mem h5l); omega)
  have A : ∀ {R : Value → Heap → Prop}, (∀ h' (b : Option Addr) (bc : Nat), frame_Decoder_Feed_J1011111111111111111 (some ⟨d, 0, none⟩) b (out.length + 1) bc g K h' → R (.slice b (out.length + 1) bc) h') → hwp PP (Builtin.append_ #[T_sl_api_Frame, T_sl_api_Frame] T_sl_api_Frame #[.slice oa out.length oc, .slice (some ⟨h2.size, 0, none⟩) 1 1]) R (h2.push (.cells #[.int .i64 (IntKind.i64.wrap ((buf[4] : Nat) : Int)), .string (st ((buf.drop 5).take g))] T_api_Frame (0, 0))) := by
    intro R r
    have H3 : Hs (h2.push (.cells #[.int .i64 (IntKind.i64.wrap ((buf[4] : Nat) : Int)), .string (st ((buf.drop 5).take g))] T_api_Frame (0, 0))) (pt h2.size T_api_Frame [.int .i64 (IntKind.i64.wrap ((buf[4] : Nat) : Int)), .string (st ((buf.drop 5).take g))] :: _) := H2.new
    have rx : Rd (h2.push (.cells #[.int .i64 (IntKind.i64.wrap ((buf[4] : Nat) : Int)), .string (st ((buf.drop 5).take g))] T_api_Frame (0, 0))) (some ⟨h2.size, 0, none⟩) [.int .i64 (IntKind.i64.wrap ((buf[4] : Nat) : Int)), .string (st ((buf.drop 5).take g))] := H3.ptrd rfl
    have H3' : Hs (h2.push (.cells #[.int .i64 (IntKind.i64.wrap ((buf[4] : Nat) : Int)), .string (st ((buf.drop 5).take g))] T_api_Frame (0, 0))) (own oa out.length oc T_api_Frame 2 (out.flatMap frV) :: _) := H3.m3
    refine H3'.app_sl E_sl_api_Frame rx rfl (by simp) (by simp [oneC]) (fun h4 a6 c6 H4 => r h4 a6 c6 ?_) (by omega) (by omega)
    have ef : out.flatMap frV ++ [.int .i64 (IntKind.i64.wrap ((buf[4] : Nat) : Int)), .string (st ((buf.drop 5).take g))] = (out ++ [(⟨buf.getD 4 0, st ((buf.drop 5).take g)⟩ : Fm)]).flatMap frV := by
      rw [List.flatMap_append, wk, g4]; simp [frV]
    rw [ef] at H4
    have H5 : Hs h4 (FS d ba bc buf 0 (FO a6 c6 (out ++ [(⟨buf.getD 4 0, st ((buf.drop 5).take g)⟩ : Fm)]) :: L)) := by
      unfold FS FO
      rw [List.length_append]
      exact ((H4.m1).tl).r2
    have := feed_got N hl H5 fun h6 ba' bc' H6 => kg _ _ N h6 ba' bc' a6 c6 H6
    rw [List.length_append] at this
    exact this
  refine ⟨⟨_, _, _, c0, I fun t ht => ⟨⟨_, ht, B ⟨_, rfl, A fun h' b c g => ⟨_, _, _, rfl, g⟩⟩⟩, B ⟨_, rfl, _, ht, A fun h' b c g => ⟨_, _, _, rfl, g⟩⟩, trivial⟩⟩, B ⟨_, rfl, _, _, _, c0, I fun t ht => ⟨_, ht, A fun h' b c g => ⟨_, _, _, rfl, g⟩⟩⟩, trivial⟩
theorem feed_loop (t : TabL L) : ∀ (k : Nat) {buf : List Nat} {h : Heap} {ba oa : Option Addr} {bc oc : Nat} {out : List Fm}, buf.length ≤ k → (∀ x ∈ buf, x < 256) → buf.length < 2 ^ 40 → out.length + buf.length < 2 ^ 40 →
    Hs h (FS d ba bc buf 0 (FO oa oc out :: L)) →
    (∀ h' ba bc oa oc, Hs h' (FS d ba bc (rd buf).2.2 (rd buf).2.1 (FO oa oc (out ++ (rd buf).1) :: L)) → K .ret (frame_Decoder_Feed_Xret oa (out ++ (rd buf).1).length oc (rd buf).2.1) h') →
    frame_Decoder_Feed_J1011111111 (some ⟨d, 0, none⟩) oa out.length oc K h := by
  intro k
  induction k with
  | zero =>
    intro buf h ba oa bc oc out hk hx hl hol H kk
    have H0 := H
    unfold FS at H0
    have N : nx buf = .wait := by unfold nx; rw [if_pos (by omega)]
    rw [rd_wait N] at kk
    refine frame_Decoder_Feed_J1011111111_of ⟨_, _, _, H0.cell (off := 0) rfl, br_true (decide_eq_true (by omega)) ?_⟩
    refine feed_end hl H fun h' ba bc H' => ?_
    have := kk h' ba bc oa oc
    simp only [List.append_nil] at this
    exact this H'
  | succ k ih =>
    intro buf h ba oa bc oc out hk hx hl hol H kk
    have H0 := H
    unfold FS at H0
    refine frame_Decoder_Feed_J1011111111_of ⟨_, _, _, H0.cell (off := 0) rfl, (br_iff _ _ _).2 ⟨fun e => ?_, fun e => ?_⟩⟩
    · have e1 := of_decide_eq_true e
      have N : nx buf = .wait := by unfold nx; rw [if_pos (by omega)]
      rw [rd_wait N] at kk
      refine feed_end hl H fun h' ba bc H' => ?_
      have := kk h' ba bc oa oc
      simp only [List.append_nil] at this
      exact this H'
    have e1 := of_decide_eq_false e
    have h4 : 4 ≤ buf.length := by omega
    have N := nx_eq h4
    refine ⟨_, _, _, H0.cell (off := 0) rfl, ?_⟩
    refine Get32_hs (j := 0) hx H0.m1.rd rfl H0.m1.own_le hl H0 (fun e => by omega) (fun _ h2 H2 => ⟨_, _, rfl, ?_⟩)
    rw [List.drop_zero]
    have wait : nx buf = .wait → ∀ h' ba bc, Hs h' (FS d ba bc buf 0 (FO oa oc out :: L)) → K .ret (frame_Decoder_Feed_Xret oa out.length oc 0) h' := by
      intro N h' ba bc H'
      rw [rd_wait N] at kk
      have := kk h' ba bc oa oc
      simp only [List.append_nil] at this
      exact this H'
    have bad : ∀ e, nx buf = .bad e → ∀ h' ba bc, Hs h' (FS d ba bc buf e (FO oa oc out :: L)) → K .ret (frame_Decoder_Feed_Xret oa out.length oc e) h' := by
      intro e N h' ba bc H'
      rw [rd_bad N] at kk
      have := kk h' ba bc oa oc
      simp only [List.append_nil] at this
      exact this H'
    have got : ∀ f n, nx buf = .got f n → ∀ h' ba' bc' oa' oc', Hs h' (FS d ba' bc' (buf.drop n) 0 (FO oa' oc' (out ++ [f]) :: L)) → frame_Decoder_Feed_J1011111111 (some ⟨d, 0, none⟩) oa' (out ++ [f]).length oc' K h' := by
      intro f n N h' ba' bc' oa' oc' H'
      have hg := nx_got N
      rw [rd_got N] at kk
      refine ih (by rw [List.length_drop]; omega) (fun x hm => hx x (List.mem_of_mem_drop hm)) (by rw [List.length_drop]; omega) (by rw [List.length_drop, List.length_append]; simp; omega) H' fun h2 ba bc oa oc H2 => ?_
      have := kk h2 ba bc oa oc
      simp only [List.append_assoc, List.singleton_append] at this H2 ⊢
      exact this H2
    refine (br_iff _ _ _).2 ⟨fun e2 => ?_, fun e2 => ?_⟩
    · have e3 := of_decide_eq_true e2
      rw [if_pos (by omega)] at N
      refine H2.sto (off := 1) (by simp) fun h3 H3 => feed_end hl H3 fun h4 ba bc H4 => bad 180 N h4 ba bc H4
    have e3 := of_decide_eq_false e2
    have wg : IntKind.i64.wrap (get4 (buf.take 4) : Int) = (get4 (buf.take 4) : Int) := wrap_i64_z (by omega) (by omega)
    refine ⟨_, _, _, H2.cell (off := 0) rfl, ?_⟩
    simp only [wg]
    refine (br_iff _ _ _).2 ⟨fun e4 => ?_, fun e4 => ?_⟩
    · have e5 : 5 ≤ buf.length := by have := of_decide_eq_true e4; omega
      have h5l : 4 < buf.length := by omega
      have g4 : buf.getD 4 0 = buf[4] := by rw [List.getD_eq_getElem?_getD, List.getElem?_eq_getElem h5l]; rfl
      refine ⟨_, _, _, H2.cell (off := 0) rfl, ?_⟩
      refine idx (i := 4) E_sl_uint8 H2.m1.rd (by omega) (by omega) (show (nV buf)[Int.toNat 4]? = _ from nV_get h5l) fun t1 ht => ⟨_, ht, ?_⟩
      refine feed_mid t hx h4 rfl (by omega) ?_ hl (by omega) H2 wait bad got
      rw [g4, Bool.eq_iff_iff]; simp; omega
    · have e5 : ¬ 5 ≤ buf.length := by have := of_decide_eq_false e4; omega
      refine feed_mid t hx h4 rfl (by omega) ?_ hl (by omega) H2 wait bad got
      symm; exact decide_eq_false (fun hc => e5 hc.1)
end
end Go.Proofs.YtdjjchfhccmjgaaDoor
