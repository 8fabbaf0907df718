/- The ref's reading of a stream. -/
import Derived.Test.YtdjjchfhccmjgaaDoorFeed3
set_option linter.unusedVariables false
set_option linter.unusedSimpArgs false
namespace Go.Proofs.YtdjjchfhccmjgaaDoor
open Go Go.HW
variable {h : Heap} {L : List Assn} {Q : Value → Heap → Prop}
/-- What is left of a stream is its tail. -/
theorem rd_tail : ∀ (k : Nat) (bs : List Nat), bs.length ≤ k → (rd bs).2.2 = bs.drop (bs.length - (rd bs).2.2.length) := by
  intro k
  induction k with
  | zero =>
    intro bs hk
    rw [rd_wait (by unfold nx; rw [if_pos (by omega)])]; simp
  | succ k ih =>
    intro bs hk
    cases N : nx bs with
    | wait => rw [rd_wait N]; simp
    | bad e => rw [rd_bad N]; simp
    | got f n =>
      have hg := nx_got N
      have := ih (bs.drop n) (by rw [List.length_drop]; omega)
      rw [rd_got N]
      simp only []
      rw [List.length_drop, List.drop_drop] at this
      have hle : (rd (bs.drop n)).2.2.length ≤ bs.length - n := by
        have e := congrArg List.length this
        rw [List.length_drop] at e; omega
      conv => lhs; rw [this]
      congr 1; omega
section
variable {n c : Nat} {a : Option Addr} {bs : List Nat} {K : Ex → Fr → Heap → Prop}
theorem read_loop (hr : Gv L a (nV bs)) (hn : bs.length = n) (hnc : n ≤ c) (hn0 : a = none → c = 0) (hx : ∀ x ∈ bs, x < 256) (hmax : n < 2 ^ 30) :
    ∀ (k i : Nat) {h : Heap} {oa : Option Addr} {oc : Nat} {out : List Fm}, n - i ≤ k → i ≤ n → out.length ≤ i → Hs h (FO oa oc out :: L) →
    (∀ h' oa oc, Hs h' (FO oa oc (out ++ (rd (bs.drop i)).1) :: L) → K .ret (ref18_Read_Xret oa (out ++ (rd (bs.drop i)).1).length oc ((n - (rd (bs.drop i)).2.2.length : Nat) : Int) (rd (bs.drop i)).2.1) h') →
    ref18_Read_L1110 a n c oa out.length oc i K h := by
  intro k
  induction k with
  | zero =>
    intro i h oa oc out hk hi ho H kk
    have wi : IntKind.i64.wrap ((n : Int) - i) = (n : Int) - i := wrap_i64_z (by omega) (by omega)
    have N : nx (bs.drop i) = .wait := by unfold nx; rw [if_pos (by rw [List.length_drop]; omega)]
    rw [rd_wait N] at kk
    refine ref18_Read_L1110_of ?_
    unfold ref18_Read_L1110_txt
    simp only [wi]
    refine br_true (decide_eq_true (by omega)) ?_
    have := kk h oa oc
    simp only [List.append_nil, List.length_drop] at this
    rw [show n - (bs.length - i) = i by omega] at this
    exact this H
  | succ k ih =>
    intro i h oa oc out hk hi ho H kk
    have wi : IntKind.i64.wrap ((n : Int) - i) = (n : Int) - i := wrap_i64_z (by omega) (by omega)
    have hbl : (bs.drop i).length = n - i := by rw [List.length_drop, hn]
    have stop : ∀ w : Int, (nx (bs.drop i) = .wait ∧ w = 0 ∨ nx (bs.drop i) = .bad w) → K .ret (ref18_Read_Xret oa out.length oc i w) h := by
      intro w hw
      have := kk h oa oc
      rcases hw with ⟨N, rfl⟩ | N
      · rw [rd_wait N] at this
        simp only [List.append_nil, hbl] at this
        rw [show n - (n - i) = i by omega] at this
        exact this H
      · rw [rd_bad N] at this
        simp only [List.append_nil, hbl] at this
        rw [show n - (n - i) = i by omega] at this
        exact this H
    refine ref18_Read_L1110_of ?_
    unfold ref18_Read_L1110_txt
    simp only [wi]
    refine (br_iff _ _ _).2 ⟨fun e => ?_, fun e => ?_⟩
    · have e1 := of_decide_eq_true e
      exact stop 0 (.inl ⟨by unfold nx; rw [if_pos (by omega)], rfl⟩)
    have e1 := of_decide_eq_false e
    have N := nx_eq (buf := bs.drop i) (by omega)
    have g4 := get4_lt (xs := (bs.drop i).take 4) (by rw [List.length_take]; omega)
    generalize hg : get4 ((bs.drop i).take 4) = g at N g4
    have G4 : ((bs.drop i).take 4) = (bs.drop i).take 4 := rfl
    refine rGet_hs (j := i) hx (hr _ H.tl) hn (by omega) (fun e => by omega) (fun _ => ⟨_, _, rfl, ?_⟩)
    rw [hg]
    refine (br_iff _ _ _).2 ⟨fun e2 => ?_, fun e2 => ?_⟩
    · have e3 := of_decide_eq_true e2
      rw [if_pos (by omega)] at N
      exact stop 180 (.inr N)
    have e3 := of_decide_eq_false e2
    rw [if_neg (by omega)] at N
    have wg : IntKind.i64.wrap (g : Int) = (g : Int) := wrap_i64_z (by omega) (by omega)
    have w4 : IntKind.i64.wrap ((i : Int) + 4) = ((i + 4 : Nat) : Int) := by rw [wrap_i64_z (by omega) (by omega)]; simp
    have w5 : IntKind.i64.wrap ((i : Int) + 5) = ((i + 5 : Nat) : Int) := by rw [wrap_i64_z (by omega) (by omega)]; simp
    have w5g : IntKind.i64.wrap (((i + 5 : Nat) : Int) + g) = ((i + 5 + g : Nat) : Int) := by rw [wrap_i64_z (by omega) (by omega)]; simp
    have w9 : IntKind.i64.wrap ((g : Int) + 9) = ((g + 9 : Nat) : Int) := by rw [wrap_i64_z (by omega) (by omega)]; simp
    have midd : ∀ b : Bool, b = decide (5 ≤ (bs.drop i).length ∧ (bs.drop i).getD 4 0 = 0) → ref18_Read_J111000111101 a n c oa out.length oc i g b K h := by
      rintro b rfl
      refine ref18_Read_J111000111101_of ((br_iff _ _ _).2 ⟨fun e4 => ?_, fun e4 => ?_⟩)
      · rw [if_pos (of_decide_eq_true e4)] at N; exact stop 182 (.inr N)
      rw [if_neg (of_decide_eq_false e4)] at N
      simp only [wi, w9, w5, w5g, w4]
      refine (br_iff _ _ _).2 ⟨fun e5 => ?_, fun e5 => ?_⟩
      · have e6 := of_decide_eq_true e5
        rw [if_pos (by omega)] at N; exact stop 0 (.inl ⟨N, rfl⟩)
      have e6 := of_decide_eq_false e5
      rw [if_neg (by omega)] at N
      have d1 : (bs.drop i).drop (5 + g) = bs.drop (i + 5 + g) := by rw [List.drop_drop]; congr 1; omega
      have d2 : (bs.drop i).drop 4 = bs.drop (i + 4) := by rw [List.drop_drop]
      have d3 : (bs.drop i).drop 5 = bs.drop (i + 5) := by rw [List.drop_drop]
      rw [d1, d2, d3] at N
      refine rGet_hs (j := i + 5 + g) hx (hr _ H.tl) hn (by omega) (fun e => by omega) (fun _ => ⟨_, _, rfl, ?_⟩)
      have g5 := get4_lt (xs := (bs.drop (i + 5 + g)).take 4) (by rw [List.length_take]; omega)
      have wu : IntKind.u32.wrap (get4 ((bs.drop (i + 5 + g)).take 4) : Int) = (get4 ((bs.drop (i + 5 + g)).take 4) : Int) := wrap_u32_id g5
      simp only [wu]
      refine bytes_cut (i := i + 4) (j := i + 5 + g) E_sl_uint8 (hr _ H.tl) hn hnc hn0 (by omega) (by omega) fun a4 c4 r4 n4 hc4 _ => ⟨_, _, _, rfl, ?_⟩
      have e14 : i + 5 + g - (i + 4) = 1 + g := by omega
      rw [e14] at r4 ⊢
      refine rSum_hs (fun x hm => hx x (List.mem_of_mem_drop (List.mem_of_mem_take hm))) r4 (by rw [List.length_take, List.length_drop]; omega) (by omega) ⟨_, rfl, ?_⟩
      refine (br_iff _ _ _).2 ⟨fun e7 => ?_, fun e7 => ?_⟩
      · have e8 : get4 ((bs.drop (i + 5 + g)).take 4) ≠ crc ((bs.drop (i + 4)).take (1 + g)) := by intro e0; rw [e0] at e7; simp at e7
        rw [if_pos e8] at N; exact stop 181 (.inr N)
      have e8 : get4 ((bs.drop (i + 5 + g)).take 4) = crc ((bs.drop (i + 4)).take (1 + g)) := by simp at e7; omega
      rw [if_neg (by rw [Decidable.not_not]; exact e8)] at N
      have h5 : i + 4 < bs.length := by omega
      have gd : (bs.drop i).getD 4 0 = bs[i + 4] := by rw [List.getD_eq_getElem?_getD, List.getElem?_drop, List.getElem?_eq_getElem h5]; rfl
      refine idx (i := ((i + 4 : Nat) : Int)) E_sl_uint8 (hr _ H.tl) (by omega) (by omega) (v := .int .u8 (bs[i + 4] : Nat)) (by rw [Int.toNat_natCast]; exact nV_get h5) fun t ht => ?_
      refine bytes_cut (i := i + 5) (j := i + 5 + g) E_sl_uint8 (hr _ H.tl) hn hnc hn0 (by omega) (by omega) fun a5 c5 r5 n5 hc5 _ => ⟨_, _, _, rfl, ?_⟩
      have e55 : i + 5 + g - (i + 5) = g := by omega
      rw [e55] at r5 n5 ⊢
      have B : ∀ {R : Value → Heap → Prop}, R (.string (st ((bs.drop (i + 5)).take g))) h → hwp PP (Go.convert T_sl_uint8 T_string (.slice a5 g c5)) R h := fun r =>
        hwp_b2s U_string U_sl_uint8 U_uint8 r5 (by rw [List.length_take, List.length_drop]; omega) n5 r
      have wk : IntKind.i64.wrap ((bs[i + 4] : Nat) : Int) = ((bs[i + 4] : Nat) : Int) := wrap_i64_z (by omega) (by have := hx _ (List.getElem_mem h5); omega)
      have A : ∀ {R : Value → Heap → Prop}, (∀ h' (b : Option Addr) (bc : Nat), ref18_Read_J111000111111111 a n c b (out.length + 1) bc i g K h' → R (.slice b (out.length + 1) bc) h') → hwp PP (Builtin.append_ #[T_sl_api_Frame, T_sl_api_Frame] T_sl_api_Frame #[.slice oa out.length oc, .slice (some ⟨h.size, 0, none⟩) 1 1]) R (h.push (.cells #[.int .i64 (IntKind.i64.wrap ((bs[i + 4] : Nat) : Int)), .string (st ((bs.drop (i + 5)).take g))] T_api_Frame (0, 0))) := by
        intro R r
        have H3 : Hs (h.push (.cells #[.int .i64 (IntKind.i64.wrap ((bs[i + 4] : Nat) : Int)), .string (st ((bs.drop (i + 5)).take g))] T_api_Frame (0, 0))) (pt h.size T_api_Frame [.int .i64 (IntKind.i64.wrap ((bs[i + 4] : Nat) : Int)), .string (st ((bs.drop (i + 5)).take g))] :: _) := H.new
        have rx : Rd (h.push (.cells #[.int .i64 (IntKind.i64.wrap ((bs[i + 4] : Nat) : Int)), .string (st ((bs.drop (i + 5)).take g))] T_api_Frame (0, 0))) (some ⟨h.size, 0, none⟩) [.int .i64 (IntKind.i64.wrap ((bs[i + 4] : Nat) : Int)), .string (st ((bs.drop (i + 5)).take g))] := H3.ptrd rfl
        have H3' : Hs (h.push (.cells #[.int .i64 (IntKind.i64.wrap ((bs[i + 4] : Nat) : Int)), .string (st ((bs.drop (i + 5)).take g))] T_api_Frame (0, 0))) (own oa out.length oc T_api_Frame 2 (out.flatMap frV) :: _) := H3.m1
        refine H3'.app_sl E_sl_api_Frame rx rfl (by simp) (by simp [oneC]) (fun h4 a6 c6 H4 => r h4 a6 c6 ?_) (by omega) (by omega)
        have ef : out.flatMap frV ++ [.int .i64 (IntKind.i64.wrap ((bs[i + 4] : Nat) : Int)), .string (st ((bs.drop (i + 5)).take g))] = (out ++ [(⟨(bs.drop i).getD 4 0, st ((bs.drop (i + 5)).take g)⟩ : Fm)]).flatMap frV := by
          rw [List.flatMap_append, wk, gd]; simp [frV]
        rw [ef] at H4
        have hg9 := nx_got N
        have w1 : IntKind.i64.wrap ((i : Int) + g) = ((i + g : Nat) : Int) := by rw [wrap_i64_z (by omega) (by omega)]; simp
        have w2 : IntKind.i64.wrap (((i + g : Nat) : Int) + 9) = ((i + g + 9 : Nat) : Int) := by rw [wrap_i64_z (by omega) (by omega)]; simp
        refine ref18_Read_J111000111111111_of ?_
        unfold ref18_Read_J111000111111111_txt
        simp only [w1, w2]
        rw [rd_got N] at kk
        have ed : (bs.drop i).drop (g + 9) = bs.drop (i + g + 9) := by rw [List.drop_drop]; congr 1
        rw [ed] at kk
        have H5 : Hs h4 (FO a6 c6 (out ++ [(⟨(bs.drop i).getD 4 0, st ((bs.drop (i + 5)).take g)⟩ : Fm)]) :: L) := by
          unfold FO
          rw [List.length_append]
          exact (H4.m1).tl
        have := ih (i + g + 9) (by omega) (by omega) (by rw [List.length_append]; simp; omega) H5 fun h6 oa oc H6 => by
          have k2 := kk h6 oa oc
          simp only [List.append_assoc, List.singleton_append] at k2 H6 ⊢
          exact k2 H6
        rw [List.length_append] at this
        exact this
      exact ⟨⟨_, ht, B ⟨_, rfl, A fun h' b c g => ⟨_, _, _, rfl, g⟩⟩⟩, B ⟨_, rfl, _, ht, A fun h' b c g => ⟨_, _, _, rfl, g⟩⟩, trivial⟩
    simp only [wg, wi, w4]
    refine (br_iff _ _ _).2 ⟨fun e4 => ?_, fun e4 => ?_⟩
    · have e5 := of_decide_eq_true e4
      have h5 : i + 4 < bs.length := by omega
      refine idx (i := ((i + 4 : Nat) : Int)) E_sl_uint8 (hr _ H.tl) (by omega) (by omega) (v := .int .u8 (bs[i + 4] : Nat)) (by rw [Int.toNat_natCast]; exact nV_get h5) fun t ht => ⟨_, ht, midd _ ?_⟩
      have : (bs.drop i).getD 4 0 = bs[i + 4] := by rw [List.getD_eq_getElem?_getD, List.getElem?_drop, List.getElem?_eq_getElem h5]; rfl
      rw [this, Bool.eq_iff_iff]; simp; omega
    · have e5 := of_decide_eq_false e4
      refine midd _ ?_
      symm; exact decide_eq_false (fun hc => by omega)
theorem Read_spec (hr : Gv L a (nV bs)) (hn : bs.length = n) (hnc : n ≤ c) (hn0 : a = none → c = 0) (hx : ∀ x ∈ bs, x < 256) (hmax : n < 2 ^ 30) (H : Hs h L)
    (kk : ∀ h' oa oc, Hs h' (FO oa oc (rd bs).1 :: L) → Q (.tuple #[.slice oa (rd bs).1.length oc, .int .i64 ((n - (rd bs).2.2.length : Nat) : Int), .int .i64 (rd bs).2.1]) h') : SpecH PP F_ref18_Read [.slice a n c] h Q := by
  refine ref18_Read_door ?_
  unfold ref18_Read_main
  refine read_loop hr hn hnc hn0 hx hmax n 0 (out := []) (by omega) (by omega) (by simp) (H.own_nil T_api_Frame 2) fun h' oa oc H' => ?_
  rw [ref18_Read_at1110_Xret]
  rw [List.drop_zero, List.nil_append] at H' ⊢
  exact kk h' oa oc H'
theorem RWants_spec (hr : Gv L a (nV bs)) (hn : bs.length = n) (hnc : n ≤ c) (hn0 : a = none → c = 0) (hx : ∀ x ∈ bs, x < 256) (hmax : n < 2 ^ 30) (H : Hs h L)
    (kk : ∀ h', Hs h' L → Q (.int .i64 (if (rd bs).2.1 = 0 then wants (rd bs).2.2 else 0)) h') : SpecH PP F_ref18_Wants [.slice a n c] h Q := by
  refine ref18_Wants_door ?_
  unfold ref18_Wants_main
  refine Read_spec hr hn hnc hn0 hx hmax H fun h1 oa oc H1 => ⟨_, _, _, _, _, rfl, ?_⟩
  by_cases e : (rd bs).2.1 = 0
  · rw [if_pos e] at kk
    rw [e]
    refine br_false rfl ?_
    have hle := (rd_rest_lt _ bs (Nat.le_refl _) hx).2.1
    have ht := rd_tail _ bs (Nat.le_refl _)
    have w1 : IntKind.i64.wrap ((n : Int) - ((n - (rd bs).2.2.length : Nat) : Int)) = ((rd bs).2.2.length : Int) := by rw [wrap_i64_z (by omega) (by omega)]; omega
    simp only [w1]
    unfold wants at kk
    refine (br_iff _ _ _).2 ⟨fun e2 => ?_, fun e2 => ?_⟩
    · have e3 := of_decide_eq_true e2
      rw [if_pos (by omega)] at kk
      rw [wrap_i64_z (by omega) (by omega)]
      exact kk h1 H1.tl
    · have e3 := of_decide_eq_false e2
      rw [if_neg (by omega)] at kk
      refine rGet_hs (j := n - (rd bs).2.2.length) hx (hr _ H1.tl) hn (by omega) (fun e => by omega) (fun _ => ⟨_, _, rfl, ?_⟩)
      have e4 : (bs.drop (n - (rd bs).2.2.length)).take 4 = (rd bs).2.2.take 4 := by rw [← hn, ← ht]
      rw [e4]
      have g4 := get4_lt (xs := (rd bs).2.2.take 4) (by rw [List.length_take]; omega)
      have := kk h1 H1.tl
      show Q (.int .i64 (IntKind.i64.wrap (IntKind.i64.wrap (IntKind.i64.wrap (get4 ((rd bs).2.2.take 4) : Int) + 9) - ((rd bs).2.2.length : Int)))) h1
      rw [wrap_i64_z (z := (get4 _ : Int)) (by omega) (by omega), wrap_i64_z (z := _ + 9) (by omega) (by omega), wrap_i64_z (by omega) (by omega)]
      rw [show (get4 ((rd bs).2.2.take 4) : Int) + 9 = ((9 + get4 ((rd bs).2.2.take 4) : Nat) : Int) by omega]
      exact this
  · rw [if_neg e] at kk
    exact br_true (by simpa using e) (kk h1 H1.tl)
end
end Go.Proofs.YtdjjchfhccmjgaaDoor
