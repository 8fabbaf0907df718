/- Find of the document; the iterator; Find of the program. -/
import Derived.Test.YtaolpeimlkpkbaaFinder
set_option maxRecDepth 20000
set_option linter.unusedVariables false
set_option linter.unusedSimpArgs false
namespace Go.Proofs.Ytaolpeimlkpkbaa
open Go Go.HW
variable {h : Heap} {L : List Assn} {Q : Value → Heap → Prop}
theorem tok_app {l : List Tok} {a : OA} {c : Nat} {t : Tok} {h : Heap} {K : VP} (hs : l.length ≤ 20000) (H : Hs h (own a l.length c T_api_Token 3 (l.flatMap tokV) :: L))
    (k : ∀ h' a' c', Hs h' (own a' (l ++ [t]).length c' T_api_Token 3 ((l ++ [t]).flatMap tokV) :: L) → K (.slice a' (l ++ [t]).length c') h') :
    hwp PP (Builtin.append_ #[T_sl_api_Token, T_sl_api_Token] T_sl_api_Token #[.slice a l.length c, .slice (some ⟨Array.size h, 0, none⟩) 1 1]) K (Array.push h (.cells #[.int .u8 t.lit, .int .i64 t.len, .int .i64 t.dist] T_api_Token (0, 0))) := by
  refine H.app_vals E_sl_api_Token (m := 1) (ys := tokV t) rfl rfl (tokV_one t) (fun h' a' c' H' => ?_) (by omega) (by omega)
  have e : l.flatMap tokV ++ tokV t = (l ++ [t]).flatMap tokV := by simp
  rw [e] at H'
  have := k h' a' c'
  rw [List.length_append] at this
  exact this H'
theorem RFind_hs {n c : Nat} {D : List Nat} {da : OA} (hr : Gv L da (nV D)) (hn : D.length = n) (H : Hs h L)
    (k : ∀ h' a c, Hs h' (own a (find D).length c T_api_Token 3 ((find D).flatMap tokV) :: L) → Q (.slice a (find D).length c) h') : SpecH PP F_ref06_Find [.slice da n c] h Q := by
  refine ref06_Find.door ?_
  dsimp only
  unfold find at k
  refine (br_iff _ _ _).2 ⟨fun e => ?_, fun e => ?_⟩
  · have e := of_decide_eq_true e
    rw [if_pos (by omega)] at k
    exact k h none 0 (H.own_nil _ _)
  have e := of_decide_eq_false e
  rw [if_neg (by omega)] at k
  have hn2 : n ≤ 16384 := by omega
  have hfl := fd_len D D.length 0
  have go : ∀ (r i : Nat) (l : List Tok) {a0 : OA} {c0 : Nat} {h : Heap}, n ≤ i + r → i ≤ n → l ++ fd D n i = fd D D.length 0 → Hs h (own a0 l.length c0 T_api_Token 3 (l.flatMap tokV) :: L) →
      ref06_Find.L1 da n c a0 l.length c0 i (ref06_Find.K1 Q) h := by
    intro r
    induction r with
    | zero =>
      intro i l a0 c0 h hi hin hl H
      refine ref06_Find.L1_of (br_false (decide_eq_false (by omega)) (ref06_Find.L1_X0 ?_))
      rw [fd_end (by omega), List.append_nil] at hl
      rw [← hl] at k
      exact k h a0 c0 H
    | succ r ih =>
      intro i l a0 c0 h hi hin hl H
      refine ref06_Find.L1_of ?_
      dsimp only
      refine (br_iff _ _ _).2 ⟨fun e => ?_, fun e => ref06_Find.L1_X0 ?_⟩
      · have e := of_decide_eq_true e
        have hll : l.length ≤ 16384 := by have := congrArg List.length hl; rw [List.length_append] at this; omega
        have hml := mm_len (D := D) (i := i) (by omega)
        have hm2 := mm_le D i
        rw [fd_step (by omega) (by omega)] at hl
        refine RMatch_hs hr.cons hn (by omega) (by omega) H fun h1 H1 => ⟨_, _, rfl, ?_⟩
        rw [show IntKind.i64.wrap ((i : Int) + 1) = ((i + 1 : Nat) : Int) by rw [wrapI (by omega) (by omega)]; omega]
        refine RMatch_hs hr.cons hn (by omega) (by omega) H1 fun h2 H2 => ⟨_, _, rfl, ?_⟩
        have fin : ∀ b : Bool, decide ((mm D i).1 = 0 ∨ (mm D (i + 1)).1 > (mm D i).1) = b → ref06_Find.J1 da n c a0 l.length c0 i (mm D i).1 (mm D i).2 b (ref06_Find.K1 Q) h2 := by
          rintro b rfl
          refine ref06_Find.J1_of ((br_iff _ _ _).2 ⟨fun e => ?_, fun e => ?_⟩)
          · rw [if_pos (of_decide_eq_true e)] at hl
            refine idx E_sl_uint8 (hr _ H2.tl) (by omega) (by omega) (by rw [Int.toNat_natCast]; exact nVd (by omega)) fun t ht => ⟨_, ht, ?_⟩
            refine tok_app (t := ⟨D.getD i 0, 0, 0⟩) (by omega) H2 fun h3 a3 c3 H3 => ⟨_, _, _, rfl, ?_⟩
            dsimp only
            rw [show IntKind.i64.wrap ((i : Int) + 1) = ((i + 1 : Nat) : Int) by rw [wrapI (by omega) (by omega)]; omega]
            exact ih (i + 1) _ (by omega) (by omega) (by rw [← hl]; simp) H3
          · have e := of_decide_eq_false e
            rw [if_neg e] at hl
            refine tok_app (t := ⟨0, (mm D i).1, (mm D i).2⟩) (by omega) H2 fun h3 a3 c3 H3 => ⟨_, _, _, rfl, ?_⟩
            dsimp only
            rw [show IntKind.i64.wrap ((i : Int) + (mm D i).1) = ((i + (mm D i).1 : Nat) : Int) by rw [wrapI (by omega) (by omega)]; omega]
            exact ih _ _ (by omega) (by omega) (by rw [← hl]; simp) H3
        refine (br_iff _ _ _).2 ⟨fun e => fin _ (decide_eq_true (.inl (by have := beq_iff_eq.1 e; omega))), fun e => fin _ ?_⟩
        have e := beq_eq_false_iff_ne.1 e
        exact decide_eq_decide.2 (by omega)
      · have e := of_decide_eq_false e
        rw [fd_end (by omega), List.append_nil] at hl
        rw [← hl] at k
        exact k h a0 c0 H
  exact go n 0 [] (by omega) (by omega) (by rw [← hn]; rfl) (H.own_nil _ _)
theorem find_le (D : List Nat) : (find D).length ≤ 16384 := by
  unfold find
  split
  · simp
  · have := fd_len D D.length 0; omega
/-- The iterator, for any receiver. -/
theorem All1_hs {y : Value} {t1 n c : Nat} {D : List Nat} {da : OA} (A E : Nat → Assn) (hb : ∀ x ∈ D, x < 256) (hr : Gv L da (nV D)) (hn : D.length = n) (hnc : n ≤ c) (hn0 : da = none → c = 0)
    (hy : ∀ (k : Nat) (hk : k < (find D).length) (M : List Assn) (h : Heap) (R : VP), Hs h (A k :: M) → (∀ h', Hs h' (A (k + 1) :: M) → R (.bool true) h') → (∀ h', Hs h' (E k :: M) → R (.bool false) h') → callV PP y [.agg #[.int .u8 ((find D)[k]).lit, .int .i64 ((find D)[k]).len, .int .i64 ((find D)[k]).dist]] R h)
    (H : Hs h (A 0 :: pt t1 T_sl_uint8 [.slice da n c] :: L)) (k1 : ∀ h', Hs h' (A (find D).length :: pt t1 T_sl_uint8 [.slice da n c] :: L) → Q (.tuple #[]) h')
    (k2 : ∀ k h', k < (find D).length → Hs h' (E k :: pt t1 T_sl_uint8 [.slice da n c] :: L) → Q (.tuple #[]) h') : SpecH PP F_match_All_1 [y, .pointer (some ⟨t1, 0, none⟩)] h Q := by
  refine match_All_1.door ?_
  dsimp only
  refine ⟨_, _, _, H.m1.cell (off := 0) rfl, (br_iff _ _ _).2 ⟨fun e => ?_, fun e => ?_⟩⟩
  · have e := of_decide_eq_true e
    have e0 : (find D).length = 0 := by unfold find; rw [if_pos (by omega)]; rfl
    rw [e0] at k1
    exact k1 h H
  have e := of_decide_eq_false e
  have hn2 : n ≤ 16384 := by omega
  have hfind : find D = fd D n 0 := by unfold find; rw [if_neg (by omega), hn]
  have fl := find_le D
  have go : ∀ (r i k dn : Nat) {f pc : Nat} {pa : OA} {last prev : List Nat} {h : Heap}, n ≤ i + r → i ≤ n → k ≤ (find D).length → (find D).drop k = fd D n i → FInv D last prev dn → dn ≤ i →
      Hs h (A k :: pt t1 T_sl_uint8 [.slice da n c] :: pt f T_match_finder (finV (.slice da n c) last (.slice pa n pc) dn) :: own pa n pc T_int 1 (nI prev) :: L) →
      match_All_1.L1 y ⟨t1, 0, none⟩ ⟨f, 0, none⟩ i (match_All_1.K1 Q) h := by
    intro r
    induction r with
    | zero =>
      intro i k dn f pc pa last prev h hi hin hk hl F hdi H
      refine match_All_1.L1_of ⟨_, _, _, H.m1.cell (off := 0) rfl, br_false (decide_eq_false (by omega)) (match_All_1.L1_X0 ?_)⟩
      rw [fd_end (by omega)] at hl
      have : k = (find D).length := by have := List.drop_eq_nil_iff.1 hl; omega
      subst this
      exact k1 h (((H.m2.tl).m2).tl)
    | succ r ih =>
      intro i k dn f pc pa last prev h hi hin hk hl F hdi H
      refine match_All_1.L1_of ⟨_, _, _, H.m1.cell (off := 0) rfl, (br_iff _ _ _).2 ⟨fun e => ?_, fun e => match_All_1.L1_X0 ?_⟩⟩
      · have e := of_decide_eq_true e
        have hml := mm_len (D := D) (i := i) (by omega)
        have hm2 := mm_le D i
        rw [fd_step (by omega) (by omega)] at hl
        have hk : k < (find D).length := by
          apply Nat.lt_of_not_le; intro hh
          rw [List.drop_of_length_le hh] at hl
          split at hl <;> cases hl
        rw [List.drop_eq_getElem_cons hk] at hl
        refine ⟨_, _, _, H.m1.cell (off := 0) rfl, ?_⟩
        refine idx E_sl_uint8 (hr _ H.tl.tl.tl.tl) (by omega) (by omega) (by rw [Int.toNat_natCast]; exact nVd (by omega)) fun t ht => ⟨_, ht, ?_⟩
        refine Hs.wrs (b := Array.size h) (xs := [.int .u8 0, .int .i64 0, .int .i64 0]) H.new (fun h3 H3 => ?_)
        generalize Array.size h = x at H3 ⊢
        have gM : Gv (pt x T_api_Token [.int .u8 (D.getD i 0 : Nat), .int .i64 0, .int .i64 0] :: A k :: pt t1 T_sl_uint8 [.slice da n c] :: L) da (nV D) := hr.cons.cons.cons
        refine match_hs hb gM hn hnc hn0 F (by omega) hdi ((H3.m3.m4).m1) fun h4 last4 prev4 dn4 F4 hd4 H4 => ⟨_, _, rfl, ?_⟩
        have fin : ∀ {t : Tok} {st : Nat} {last prev : List Nat} {dn : Nat} {h : Heap}, t = (find D)[k] → (find D).drop (k + 1) = fd D n (i + st) → i + st ≤ n → 1 ≤ st → FInv D last prev dn → dn ≤ i + st →
            Hs h (pt x T_api_Token (tokV t) :: pt f T_match_finder (finV (.slice da n c) last (.slice pa n pc) dn) :: own pa n pc T_int 1 (nI prev) :: A k :: pt t1 T_sl_uint8 [.slice da n c] :: L) →
            match_All_1.J2 y ⟨t1, 0, none⟩ ⟨f, 0, none⟩ i ⟨x, 0, none⟩ st (match_All_1.K1 Q) h := by
          intro t st last prev dn h et hl hst hst1 F hdn H
          refine match_All_1.J2_of ⟨_, _, _, H.rdc0, ?_⟩
          subst et
          refine hy k hk _ _ _ H.tl.m2 (fun h' H' => ⟨_, rfl, br_false rfl ?_⟩) (fun h' H' => ⟨_, rfl, br_true rfl (match_All_1.L1_Xret (k2 k h' hk ?_))⟩)
          · dsimp only
            rw [show IntKind.i64.wrap ((i : Int) + (st : Int)) = ((i + st : Nat) : Int) by rw [wrapI (by omega) (by omega)]; omega]
            exact ih (i + st) (k + 1) dn (by omega) hst (by omega) hl F hdn ((H'.m3).m1)
          · exact (((H'.m1).tl).m1).tl
        have lit : ∀ {last prev : List Nat} {dn : Nat} {h : Heap}, ((mm D i).1 = 0 ∨ (mm D (i + 1)).1 > (mm D i).1) → FInv D last prev dn → dn ≤ i + 1 →
            Hs h (pt f T_match_finder (finV (.slice da n c) last (.slice pa n pc) dn) :: own pa n pc T_int 1 (nI prev) :: pt x T_api_Token [.int .u8 (D.getD i 0 : Nat), .int .i64 0, .int .i64 0] :: A k :: pt t1 T_sl_uint8 [.slice da n c] :: L) →
            match_All_1.J2 y ⟨t1, 0, none⟩ ⟨f, 0, none⟩ i ⟨x, 0, none⟩ 1 (match_All_1.K1 Q) h := fun hc F hd H => by
          rw [if_pos hc] at hl
          injection hl with hl1 hl2
          exact fin (t := ⟨D.getD i 0, 0, 0⟩) (st := 1) hl1.symm hl2 (by omega) (by omega) F hd H.m2
        refine (br_iff _ _ _).2 ⟨fun e => ?_, fun e => ?_⟩
        · have e := of_decide_eq_true e
          dsimp only
          rw [show IntKind.i64.wrap ((i : Int) + 1) = ((i + 1 : Nat) : Int) by rw [wrapI (by omega) (by omega)]; omega]
          refine match_hs hb gM hn hnc hn0 F4 (by omega) (by omega) H4 fun h5 last5 prev5 dn5 F5 hd5 H5 => ⟨_, _, rfl, ?_⟩
          refine (br_iff _ _ _).2 ⟨fun e2 => ?_, fun e2 => ?_⟩
          · have e2 := of_decide_eq_true e2
            rw [if_neg (by omega)] at hl
            injection hl with hl1 hl2
            refine Hs.wrs (b := x) H5.m2 (fun h6 H6 => ?_)
            exact fin (t := ⟨0, (mm D i).1, (mm D i).2⟩) hl1.symm hl2 (by omega) (by omega) F5 (by omega) H6
          · have e2 := of_decide_eq_false e2
            exact lit (.inr (by omega)) F5 hd5 H5
        · have e := of_decide_eq_false e
          exact lit (.inl (by omega)) F4 (by omega) H4
      · have e := of_decide_eq_false e
        rw [fd_end (by omega)] at hl
        have : k = (find D).length := by have := List.drop_eq_nil_iff.1 hl; omega
        subst this
        exact k1 h (((H.m2.tl).m2).tl)
  have start : ∀ {h : Heap} {b : Nat}, Hs h (pt b T_int (List.replicate n (.int .i64 0)) :: A 0 :: pt t1 T_sl_uint8 [.slice da n c] :: L) →
      match_All_1.J1 y ⟨t1, 0, none⟩ ⟨h.size, 0, none⟩ Q (Array.push h (.cells (([(.slice da n c)] : List Value) ++ (List.replicate 4096 (.int .i64 0) : List Value) ++ ([(.slice (some ⟨b, 0, none⟩) n n), (.int .i64 0)] : List Value)).toArray T_match_finder (0, 0))) := by
    intro h b H
    refine match_All_1.J1_of ?_
    have H2 := H.pt_all (n := n) (by simp)
    have e : ([(.slice da n c)] : List Value) ++ (List.replicate 4096 (.int .i64 0) : List Value) ++ ([(.slice (some ⟨b, 0, none⟩) n n), (.int .i64 0)] : List Value) = finV (.slice da n c) (List.replicate 4096 0) (.slice (some ⟨b, 0, none⟩) n n) 0 := by
      rw [finV, nI_rep]; simp only [List.singleton_append, List.cons_append]; rfl
    rw [e]
    have H3 := H2.new (t := T_match_finder) (cs := (finV (.slice da n c) (List.replicate 4096 0) (.slice (some ⟨b, 0, none⟩) n n) 0).toArray) (xs := finV (.slice da n c) (List.replicate 4096 0) (.slice (some ⟨b, 0, none⟩) n n) 0) rfl
    have F := FInv.new (D := D) (by omega)
    rw [← nI_rep, ← hn] at H3
    rw [← hn]
    rw [← hn] at go
    exact go D.length 0 0 0 (by omega) (by omega) (by omega) (by rw [List.drop_zero, hfind, hn]) F (by omega) (H3.m3.m3)
  refine ⟨_, _, _, H.m1.cell (off := 0) rfl, ?_, ?_, trivial⟩
  · refine ⟨_, _, _, H.m1.cell (off := 0) rfl, ?_⟩
    refine H.make E_sl_int rfl rfl (Nat.le_refl _) (by omega) (by omega) fun h3 b H3 => ⟨_, _, _, rfl, start H3⟩
  · refine H.make E_sl_int rfl rfl (Nat.le_refl _) (by omega) (by omega) fun h3 b H3 => ⟨_, _, _, rfl, _, _, _, H3.m2.cell (off := 0) rfl, start H3⟩
end Go.Proofs.Ytaolpeimlkpkbaa
