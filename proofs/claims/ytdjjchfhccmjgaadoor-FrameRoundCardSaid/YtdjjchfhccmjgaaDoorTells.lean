/- The laws of frames: Tells. -/
import Derived.Test.YtdjjchfhccmjgaaDoorParts
set_option linter.unusedVariables false
set_option linter.unusedSimpArgs false
namespace Go.Proofs.YtdjjchfhccmjgaaDoor
open Go Go.HW
variable {h : Heap} {L : List Assn} {Q : Value → Heap → Prop}
theorem le_of : ∀ (l : List (BitVec 8)), l.length ≤ 8 → Num.le l.length (Num.of l) = l
  | [], _ => rfl
  | b :: l, h => by
    have hl : l.length ≤ 7 := by simpa using h
    show (Num.of l <<< 8 ||| b.setWidth 64).setWidth 8 :: Num.le l.length ((Num.of l <<< 8 ||| b.setWidth 64) >>> 8) = b :: l
    have e1 : (Num.of l <<< 8 ||| b.setWidth 64).setWidth 8 = b := by
      apply BitVec.eq_of_getLsbD_eq
      intro i hi
      rw [BitVec.getLsbD_setWidth, BitVec.getLsbD_or, BitVec.getLsbD_shiftLeft, BitVec.getLsbD_setWidth]
      simp [hi]; omega
    have e2 : (Num.of l <<< 8 ||| b.setWidth 64) >>> 8 = Num.of l := by
      apply BitVec.eq_of_getLsbD_eq
      intro i hi
      rw [BitVec.getLsbD_ushiftRight, BitVec.getLsbD_or, BitVec.getLsbD_shiftLeft, BitVec.getLsbD_setWidth]
      by_cases h2 : 8 + i < 64
      · have : b.getLsbD (8 + i) = false := BitVec.getLsbD_of_ge _ _ (by omega)
        simp [h2, this]
      · have : (Num.of l).getLsbD i = false := Num.of_high l i (by omega)
        simp [h2, this]; try omega
    rw [e1, e2, le_of l (by omega)]
theorem le4_get4 {xs : List Nat} (hl : xs.length = 4) (hx : ∀ x ∈ xs, x < 256) : le4 (get4 xs) = xs := by
  unfold le4 get4
  rw [BitVec.ofNat_toNat, BitVec.setWidth_eq]
  have := le_of (nb xs) (by rw [nb_len]; omega)
  rw [nb_len, hl] at this
  rw [this, bn_nb hx]
theorem get4_inj {xs ys : List Nat} (hl : xs.length = 4) (hl2 : ys.length = 4) (hx : ∀ x ∈ xs, x < 256) (hy : ∀ x ∈ ys, x < 256) (e : get4 xs = get4 ys) : xs = ys := by
  rw [← le4_get4 hl hx, ← le4_get4 hl2 hy, e]
theorem set_lt {xs : List Nat} {i y : Nat} (hx : ∀ x ∈ xs, x < 256) (hy : y < 256) : ∀ x ∈ xs.set i y, x < 256 := by
  intro x hm
  rcases List.mem_or_eq_of_mem_set hm with h | h
  · exact hx x h
  · omega
theorem crc_set_ne {xs : List Nat} {i y : Nat} (hi : i < xs.length) (hx : ∀ x ∈ xs, x < 256) (hy : y < 256) (hne : y ≠ xs[i]) : crc xs ≠ crc (xs.set i y) := by
  intro e
  have e1 : xs = xs.take i ++ [xs[i]] ++ xs.drop (i + 1) := by simp
  have e2 : xs.set i y = xs.take i ++ [y] ++ xs.drop (i + 1) := by rw [List.set_eq_take_append_cons_drop, if_pos hi]; simp
  rw [e2] at e
  have e3 : crc (xs.take i ++ [xs[i]] ++ xs.drop (i + 1)) = crc (xs.take i ++ [y] ++ xs.drop (i + 1)) := by rw [← e1]; exact e
  unfold crc at e3
  have e4 := BitVec.eq_of_toNat_eq e3
  unfold nb at e4
  simp only [List.map_append] at e4
  have e5 := (Crc.sum_window (p := (xs.take i).map (BitVec.ofNat 8)) (m := [xs[i]].map (BitVec.ofNat 8)) (m' := [y].map (BitVec.ofNat 8)) rfl (by simp)).1 e4
  simp only [List.map_cons, List.map_nil, List.cons.injEq, and_true] at e5
  have e6 := congrArg BitVec.toNat e5
  have hxi := hx xs[i] (List.getElem_mem hi)
  rw [BitVec.toNat_ofNat, BitVec.toNat_ofNat, Nat.mod_eq_of_lt (by omega), Nat.mod_eq_of_lt (by omega)] at e6
  exact hne e6.symm
theorem xor_ne {x v : Nat} (h : v ≠ 0) : x ^^^ v ≠ x := by
  intro e
  have : x ^^^ (x ^^^ v) = x ^^^ x := by rw [e]
  rw [← Nat.xor_assoc, Nat.xor_self, Nat.zero_xor] at this
  exact h this
theorem take_set_ge {l : List Nat} {i n y : Nat} (h : n ≤ i) : (l.set i y).take n = l.take n := by
  rw [List.take_set, List.set_eq_of_length_le (by rw [List.length_take]; omega)]
theorem drop_set_lt {l : List Nat} {i n y : Nat} (h : i < n) : (l.set i y).drop n = l.drop n := by
  rw [List.drop_set, if_pos h]
theorem tell_nx {g : Fm} (e : encE g = 0) {p v : Nat} (ha : 4 ≤ p) (ha2 : p < (encB g).length) (hv : v < 256) (hv0 : v ≠ 0) :
    nx ((encB g).set p ((encB g)[p] ^^^ v)) = .bad 181 ∨ (nx ((encB g).set p ((encB g)[p] ^^^ v)) = .bad 182 ∧ p = 4) := by
  obtain ⟨hk, hs⟩ := enc_ok e
  have hl := enc_len g
  have hlt := enc_lt hk
  have hy : (encB g)[p] ^^^ v < 256 := Nat.xor_lt_two_pow (n := 8) (hlt _ (List.getElem_mem ha2)) hv
  have hne := xor_ne (x := (encB g)[p]) hv0
  generalize hyy : (encB g)[p] ^^^ v = y at hy hne
  have e4 : ((encB g).set p y).take 4 = le4 g.body.size := by
    rw [take_set_ge ha]
    unfold encB
    rw [List.append_assoc, List.take_append_of_le_length (by rw [le4_len]; exact Nat.le_refl _), List.take_of_length_le (by rw [le4_len]; exact Nat.le_refl _)]
  have d4 : (encB g).drop 4 = mid g ++ le4 (crc (mid g)) := by
    unfold encB
    rw [List.append_assoc, List.drop_append, List.drop_of_length_le (by rw [le4_len]; exact Nat.le_refl _), le4_len]; simp
  have d9 : (encB g).drop (5 + g.body.size) = le4 (crc (mid g)) := by
    have : (encB g).drop (5 + g.body.size) = ((encB g).drop 4).drop (1 + g.body.size) := by rw [List.drop_drop]; congr 1; omega
    rw [this, d4, List.drop_append, List.drop_of_length_le (by rw [mid_len]; omega), mid_len, show 1 + g.body.size - (g.body.size + 1) = 0 by omega]; rfl
  rw [nx_eq (by rw [List.length_set]; omega), e4, get4_le4 (by omega), if_neg (by omega), List.length_set]
  by_cases h5 : 5 ≤ (encB g).length ∧ ((encB g).set p y).getD 4 0 = 0
  · rw [if_pos h5]
    refine .inr ⟨rfl, ?_⟩
    rcases Nat.lt_or_ge 4 p with h | h
    · exfalso
      have h6 := h5.2
      rw [List.getD_eq_getElem?_getD, List.getElem?_set_ne (by omega)] at h6
      have : (encB g)[4]? = ((encB g).drop 4)[0]? := by rw [List.getElem?_drop]
      rw [this, d4] at h6
      have : g.kind.toNat = 0 := h6
      omega
    · omega
  rw [if_neg h5, if_neg (by omega)]
  left
  rw [if_pos]
  rcases Nat.lt_or_ge p (5 + g.body.size) with h | h
  · rw [drop_set_lt h, d9, List.take_of_length_le (by rw [le4_len]; exact Nat.le_refl _), get4_le4 (crc_lt _), List.drop_set, if_neg (by omega), List.take_set, d4, List.take_append_of_le_length (by rw [mid_len]; omega), List.take_of_length_le (by rw [mid_len]; omega)]
    have hm : p - 4 < (mid g).length := by rw [mid_len]; omega
    refine crc_set_ne hm (mid_lt hk) hy ?_
    have e1 : (encB g)[p]? = ((encB g).drop 4)[p - 4]? := by rw [List.getElem?_drop]; congr 1; omega
    rw [d4, List.getElem?_append_left hm, List.getElem?_eq_getElem hm, List.getElem?_eq_getElem ha2] at e1
    simp only [Option.some.injEq] at e1
    rw [← e1]; exact hne
  · have e1 : (((encB g).set p y).drop 4).take (1 + g.body.size) = mid g := by
      rw [List.drop_set, if_neg (by omega), take_set_ge (by omega), d4, List.take_append_of_le_length (by rw [mid_len]; omega), List.take_of_length_le (by rw [mid_len]; omega)]
    rw [e1, List.drop_set, if_neg (by omega), d9, List.take_of_length_le (by rw [List.length_set, le4_len]; exact Nat.le_refl _)]
    intro e2
    have e3 : get4 ((le4 (crc (mid g))).set (p - (5 + g.body.size)) y) = get4 (le4 (crc (mid g))) := by rw [e2, get4_le4 (crc_lt _)]
    have e5 := get4_inj (by rw [List.length_set, le4_len]) (le4_len _) (set_lt (fun x => le4_lt) hy) (fun x => le4_lt) e3
    have hm : p - (5 + g.body.size) < (le4 (crc (mid g))).length := by rw [le4_len]; omega
    have e6 : (le4 (crc (mid g)))[p - (5 + g.body.size)] = y := by
      have := congrArg (·[p - (5 + g.body.size)]?) e5
      simp only [List.getElem?_set_self hm, List.getElem?_eq_getElem hm, Option.some.injEq] at this
      exact this.symm
    have e7 : (encB g)[p]? = ((encB g).drop (5 + g.body.size))[p - (5 + g.body.size)]? := by rw [List.getElem?_drop]; congr 1; omega
    rw [d9, List.getElem?_eq_getElem hm, List.getElem?_eq_getElem ha2] at e7
    simp only [Option.some.injEq] at e7
    exact hne (by rw [e7, e6])
theorem tell_bad {f4 : Nat} {a b : Option Addr} {an ac bn bc : Nat} {at2 e1 e2 : Int} {v : Nat} (t : TabL L) (H : Hs h L) (he : e1 ≠ 0 ∨ e2 ≠ 0) (HQ : ∀ h', Hs h' L → Q (.bool true) h') : law18_FrameTells_J111101 at2 v ⟨f4, 0, none⟩ a an ac e1 b bn bc e2 true Q h := by
  refine law18_FrameTells_J111101_of (br_true rfl (awake_spec t H fun h1 H1 => ⟨_, rfl, br_true rfl ((br_iff _ _ _).2 ⟨fun _ => HQ _ H1, fun e => ?_⟩)⟩))
  have e' : e1 = 0 := by simpa using e
  rw [show (e2 != 0) = true by rcases he with h | h; exact absurd e' h; simpa using h]
  exact HQ _ H1
theorem tell_good {f4 : Nat} {f g : Fm} {a b : Option Addr} {ac bc p v : Nat} {h0 : Heap} (tab : Tab h0) (ef : encE f = 0) (eg : encE g = 0) (hv : v < 256) (hv0 : v ≠ 0)
    (H : Hs h (own b (g.body.size + 9) bc T_uint8 1 (nV (encB g)) :: own a (f.body.size + 9) ac T_uint8 1 (nV (encB f)) :: pt f4 T_api_Frame (frV f) :: [ro h0])) (HQ : ∀ h', ExtB h0.size h0 h' → Q (.bool true) h') :
    law18_FrameTells_J111111 p v ⟨f4, 0, none⟩ a (f.body.size + 9) ac b (g.body.size + 9) bc Q h := by
  have t : TabL [ro h0] := TabL.ro tab
  obtain ⟨hk, hs⟩ := enc_ok ef
  obtain ⟨hk2, hs2⟩ := enc_ok eg
  have hl := enc_len g
  have hlt := enc_lt hk2
  refine law18_FrameTells_J111111_of ?_
  unfold law18_FrameTells_J111111_txt
  have w1 : IntKind.i64.wrap (((g.body.size + 9 : Nat) : Int) - 4) = ((g.body.size + 5 : Nat) : Int) := by rw [wrap_i64_z (by omega) (by omega)]; omega
  have w2 : IntKind.i64.wrap (4 + Int.tmod (p : Int) ((g.body.size + 5 : Nat) : Int)) = ((4 + p % (g.body.size + 5) : Nat) : Int) := by
    have := Nat.mod_lt p (show 0 < g.body.size + 5 by omega)
    rw [tmod_n, wrap_i64_z (by omega) (by omega)]; simp
  simp only [w1, w2]
  have hp : p % (g.body.size + 5) < g.body.size + 5 := Nat.mod_lt p (by omega)
  generalize hq : 4 + p % (g.body.size + 5) = q
  have hq4 : 4 ≤ q := by omega
  have hql : q < (encB g).length := by omega
  refine br_true (by simp; omega) ?_
  refine idx E_sl_uint8 H.rd (by omega) (by omega) (v := .int .u8 ((encB g)[q] : Nat)) (by rw [Int.toNat_natCast]; exact nV_get hql) fun t1 ht => ⟨_, ht, ?_⟩
  have wx : bXor .u8 ((encB g)[q] : Nat) (v : Nat) = (((encB g)[q] ^^^ v : Nat) : Int) := xor_u8 (hlt _ (List.getElem_mem hql)) hv
  simp only [wx]
  have hy : (encB g)[q] ^^^ v < 256 := Nat.xor_lt_two_pow (n := 8) (hlt _ (List.getElem_mem hql)) hv
  refine H.idx_set E_sl_uint8 (by omega) (by omega) rfl fun h3 H3 => ?_
  have es : (nV (encB g)).set (q : Int).toNat (.int .u8 (((encB g)[q] ^^^ v : Nat) : Int)) = nV ((encB g).set q ((encB g)[q] ^^^ v)) := by rw [Int.toNat_natCast]; simp [nV, List.map_set]
  rw [es] at H3
  have nxb := tell_nx eg hq4 hql hv hv0
  have hlt2 := set_lt (i := q) hlt hy
  have hl2 : ((encB g).set q ((encB g)[q] ^^^ v)).length = g.body.size + 9 := by rw [List.length_set, hl]
  generalize (encB g).set q ((encB g)[q] ^^^ v) = b2 at *
  refine FNew_spec H3 fun h4 d H4 => ⟨_, rfl, br_false rfl ?_⟩
  refine (H4.m2).app_sl E_sl_uint8 (m := g.body.size + 9) (ys := nV b2) (H4.m1).rd (by rw [nV_len, hl2]; omega) (fun e => by subst e; have := H4.m1.own_none; have := H4.m1.own_le; omega) (nV_one _) (fun h5 a5 c5 H5 => ⟨_, _, _, rfl, ?_⟩) (by omega) (by omega)
  rw [← nV_app] at H5
  have hlx : ∀ x ∈ encB f ++ b2, x < 256 := fun x hx => (List.mem_append.1 hx).elim (enc_lt hk x) (hlt2 x)
  refine Feed_spec (xs := encB f ++ b2) t.cons.cons.cons (Gv.own) (by rw [List.length_append, enc_len, hl2]) (fun e => by subst e; have := H5.own_none; have := H5.own_le; omega) hlx (by simp only [List.length_nil]; omega) H5.m1 (fun e => absurd rfl e) fun _ h6 fa fc H6 => ?_
  have ner : ∃ w, nx b2 = .bad w ∧ (w = 181 ∨ w = 182 ∧ q = 4) := by
    rcases nxb with h | ⟨h, h2⟩
    · exact ⟨_, h, .inl rfl⟩
    · exact ⟨_, h, .inr ⟨rfl, h2⟩⟩
  obtain ⟨w, nw, hw⟩ := ner
  have er : rd ([] ++ (encB f ++ b2)) = ([f], w, b2) := by
    rw [List.nil_append, rd_got (nx_enc ef b2)]
    have : (encB f ++ b2).drop (f.body.size + 9) = b2 := by rw [List.drop_append, List.drop_of_length_le (by rw [enc_len]; exact Nat.le_refl _), enc_len]; simp
    rw [this, rd_bad nw]
  rw [er] at H6 ⊢
  refine ⟨_, _, _, _, rfl, ?_⟩
  refine awake_spec t.cons.cons.cons.cons.cons H6 fun h7 H7 => ⟨_, rfl, br_true rfl ⟨_, _, (H7.m4).rdc0, ?_⟩⟩
  have H8 := H7.new (t := T_api_Frame) (cs := #[.int .i64 f.kind, .string f.body]) (xs := frV f)
  refine Same_spec (l := [f]) (H8.m2).rd (H8.ptrd rfl) rfl (by simp) ⟨_, rfl, br_true rfl ?_⟩
  have fin := HQ _ H8.tl.tl.tl.tl.tl.tl.ro_below
  rcases hw with rfl | ⟨rfl, h4⟩
  · exact br_true rfl fin
  · refine br_false rfl (br_true rfl ?_)
    rw [h4]; exact fin
theorem FrameTells_spec {f g : Fm} {at2 : Int} {v : Nat} (tab : Tab h) (hlo : -9223372036854775808 ≤ at2) (hhi : at2 ≤ 9223372036854775807) (hv : v < 256) (HQ : ∀ h', ExtB h.size h h' → Q (.bool true) h') : SpecH PP F_law18_FrameTells [.agg (frV f).toArray, .agg (frV g).toArray, .int .i64 at2, .int .u8 v] h Q := by
  refine law18_FrameTells_door ?_
  unfold law18_FrameTells_main
  have t : TabL [ro h] := TabL.ro tab
  have H1 := (Hs.start h).new (t := T_api_Frame) (cs := #[.int .i64 f.kind, .string f.body]) (xs := frV f)
  have H2 := H1.new (t := T_api_Frame) (cs := #[.int .i64 g.kind, .string g.body]) (xs := frV g)
  have J : ∀ b : Bool, (b = false → v ≠ 0) → law18_FrameTells_J101 at2 v ⟨h.size, 0, none⟩ ⟨(h.push (.cells #[.int .i64 f.kind, .string f.body] T_api_Frame (0, 0))).size, 0, none⟩ b Q ((h.push (.cells #[.int .i64 f.kind, .string f.body] T_api_Frame (0, 0))).push (.cells #[.int .i64 g.kind, .string g.body] T_api_Frame (0, 0))) := by
    intro b hb
    refine law18_FrameTells_J101_of ((br_iff _ _ _).2 ⟨fun _ => awake_spec t.cons.cons H2 fun h3 H3 => ⟨_, rfl, HQ _ H3.tl.tl.ro_below⟩, fun eb => ⟨_, _, H2.m1.rdc0, ?_⟩⟩)
    have hv0 := hb eb
    by_cases ef : encE f = 0
    · refine Encode_spec (f := f) t.cons.cons H2 (fun e => absurd ef e) fun _ h3 a3 c3 H3 => ⟨_, _, _, _, rfl, _, _, (H3.m1).rdc0, ?_⟩
      by_cases eg : encE g = 0
      · refine Encode_spec (f := g) t.cons.cons.cons H3 (fun e => absurd eg e) fun _ h4 a4 c4 H4 => ⟨_, _, _, _, rfl, br_false rfl (br_false rfl ?_)⟩
        rw [decide_eq_false (show ¬ ((g.body.size + 9 : Nat) : Int) < 9 by omega)]
        refine law18_FrameTells_J111101_of (br_false rfl ?_)
        have H5 := (H4.m2).tl
        refine (br_iff _ _ _).2 ⟨fun e1 => ?_, fun e1 => ?_⟩
        · have e1 := of_decide_eq_true e1
          have w : IntKind.i64.wrap (0 - IntKind.i64.wrap (at2 + 1)) = ((-(at2 + 1)).toNat : Int) := by rw [wrap_i64_z (z := at2 + 1) (by omega) (by omega), wrap_i64_z (by omega) (by omega)]; omega
          show law18_FrameTells_J111111 (IntKind.i64.wrap (0 - IntKind.i64.wrap (at2 + 1))) _ _ _ _ _ _ _ _ _ _
          rw [w]
          exact tell_good tab ef eg hv hv0 H5 HQ
        · have e1 := of_decide_eq_false e1
          obtain ⟨p, rfl⟩ := Int.eq_ofNat_of_zero_le (show 0 ≤ at2 by omega)
          exact tell_good tab ef eg hv hv0 H5 HQ
      · refine Encode_spec (f := g) t.cons.cons.cons H3 (fun _ h4 H4 => ⟨_, _, _, _, rfl, br_false rfl (br_true (by simpa using eg) ?_)⟩) fun e => absurd e eg
        exact tell_bad (f4 := h.size) t.cons.cons.cons H4 (.inr eg) fun h5 H5 => HQ _ H5.tl.tl.tl.ro_below
    · refine Encode_spec (f := f) t.cons.cons H2 (fun _ h3 H3 => ⟨_, _, _, _, rfl, _, _, H3.rdc0, ?_⟩) fun e => absurd e ef
      by_cases eg : encE g = 0
      · refine Encode_spec (f := g) t.cons.cons H3 (fun e => absurd eg e) fun _ h4 a4 c4 H4 => ⟨_, _, _, _, rfl, br_true (by simpa using ef) ?_⟩
        exact tell_bad (f4 := h.size) t.cons.cons.cons H4 (.inl ef) fun h5 H5 => HQ _ H5.tl.tl.tl.ro_below
      · refine Encode_spec (f := g) t.cons.cons H3 (fun _ h4 H4 => ⟨_, _, _, _, rfl, br_true (by simpa using ef) ?_⟩) fun e => absurd e eg
        exact tell_bad (f4 := h.size) t.cons.cons H4 (.inl ef) fun h5 H5 => HQ _ H5.tl.tl.ro_below
  refine ⟨_, H2.m1.cell (off := 1) rfl, (br_iff _ _ _).2 ⟨fun _ => J _ (fun e => by cases e), fun _ => ⟨_, H2.cell (off := 1) rfl, (br_iff _ _ _).2 ⟨fun _ => J _ (fun e => by cases e), fun _ => J _ fun e => ?_⟩⟩⟩⟩
  intro e0; subst e0; simp at e
end Go.Proofs.YtdjjchfhccmjgaaDoor
