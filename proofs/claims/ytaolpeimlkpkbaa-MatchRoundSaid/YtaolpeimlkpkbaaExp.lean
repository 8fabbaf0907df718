/- Tokens: the walks of Expand and of the document's. -/
import Derived.Test.YtaolpeimlkpkbaaTok
set_option linter.unusedVariables false
set_option linter.unusedSimpArgs false
namespace Go.Proofs.Ytaolpeimlkpkbaa
open Go Go.HW
variable {h : Heap} {L : List Assn} {Q : Value → Heap → Prop}
theorem nV_get {l : List Nat} {i : Nat} (hi : i < l.length) : (nV l)[i]? = some (.int .u8 (l[i] : Nat)) := by simp [nV, hi]
theorem getD_of {l : List Nat} {i : Nat} (hi : i < l.length) : l.getD i 0 = l[i] := by simp [hi]
theorem out_app {out : List Nat} {a : OA} {c : Nat} {x : Nat} {h : Heap} {K : VP} (hs : out.length ≤ 20000) (H : Hs h (own a out.length c T_uint8 1 (nV out) :: L))
    (k : ∀ h' a' c', Hs h' (own a' (out ++ [x]).length c' T_uint8 1 (nV (out ++ [x])) :: L) → K (.slice a' (out ++ [x]).length c') h') :
    hwp PP (Builtin.append_ #[T_sl_uint8, T_sl_uint8] T_sl_uint8 #[.slice a out.length c, .slice (some ⟨Array.size h, 0, none⟩) 1 1]) K (Array.push h (.cells #[.int .u8 x] T_uint8 (0, 0))) := by
  refine H.app_vals E_sl_uint8 (m := 1) (ys := [.int .u8 x]) rfl rfl (by simp [oneC]) (fun h' a' c' H' => ?_) (by omega) (by omega)
  have e : nV out ++ [.int .u8 (x : Int)] = nV (out ++ [x]) := by simp [nV]
  rw [e] at H'
  have := k h' a' c'
  rw [List.length_append] at this
  exact this H'
theorem Expand_hs {a : OA} {n c : Nat} {l : List Tok} {lim : Int} (hr : Gv L a (l.flatMap tokV)) (hn : l.length = n) (hn2 : n < 2 ^ 61) (H : Hs h L)
    (k : ∀ h' b d, Hs h' (own b (exAll l lim).2.length d T_uint8 1 (nV (exAll l lim).2) :: L) → Q (.tuple #[.slice b (exAll l lim).2.length d, .int .i64 (exAll l lim).1]) h') : SpecH PP F_match_Expand [.slice a n c, .int .i64 lim] h Q := by
  refine match_Expand.door ?_
  have fin : ∀ b : Bool, decide (lim < 0 ∨ lim > 16384) = b → match_Expand.J1 a n c lim b Q h := by
    intro b e
    refine match_Expand.J1_of ((br_iff _ _ _).2 ⟨fun eb => ?_, fun eb => ?_⟩)
    · subst eb
      have e1 := of_decide_eq_true e
      unfold exAll at k
      rw [if_pos e1] at k
      exact k h none 0 (H.own_nil _ _)
    · subst eb
      have e1 := of_decide_eq_false e
      unfold exAll at k
      rw [if_neg e1] at k
      obtain ⟨m, rfl⟩ := Int.eq_ofNat_of_zero_le (show 0 ≤ lim by omega)
      rw [Int.toNat_natCast] at k
      have go : ∀ (r i : Nat) (out : List Nat) {a0 : OA} {c0 : Nat} {h : Heap}, r + i = n → out.length ≤ m → exGo m (l.drop i) out = exGo m l [] → Hs h (own a0 out.length c0 T_uint8 1 (nV out) :: L) →
          match_Expand.L1 (m : Int) a0 out.length c0 a n c (n : Int) (i : Int) (match_Expand.K2 Q) h := by
        intro r
        induction r with
        | zero =>
          intro i out a0 c0 h hi hs he H
          refine match_Expand.L1_of (br_false (decide_eq_false (by omega)) (match_Expand.L1_X0 ?_))
          rw [List.drop_of_length_le (by omega)] at he
          rw [← he] at k
          exact k h a0 c0 H
        | succ r ih =>
          intro i out a0 c0 h hi hs he H
          refine match_Expand.L1_of ?_
          dsimp only
          refine br_true (decide_eq_true (by omega)) ?_
          rw [List.drop_eq_getElem_cons (by omega)] at he
          refine idxf E_sl_api_Token (φ := tokV) (l := l) (x := l[i]) (hr _ H.tl) tokV_len (by omega) (by omega) (by omega) (by simp) fun t ht => ⟨_, _, _, ht, ?_⟩
          refine Hs.wrs (b := Array.size h) (xs := [.int .u8 0, .int .i64 0, .int .i64 0]) H.new (fun h3 H3 => ⟨_, _, _, H3.rdc0, ?_⟩)
          generalize l[i] = t at H3 he ⊢
          refine right_hs (by omega) H3 fun h4 H4 => ⟨_, rfl, ?_⟩
          rw [exGo] at he
          cases hm : may t out.length
          · rw [if_pos hm] at he
            refine br_true rfl (match_Expand.L1_Xret ?_)
            rw [← he] at k
            exact k h4 none 0 (H4.tl.tl.own_nil _ _)
          rw [if_neg (by simp [hm])] at he
          refine br_false rfl ⟨_, H4.cell (off := 1) rfl, ?_⟩
          rw [one_eq hm, wrapI (by omega) (by have := one_le hm; omega)]
          refine (br_iff _ _ _).2 ⟨fun e => match_Expand.L1_Xret ?_, fun e => ?_⟩
          · rw [if_pos (by have := of_decide_eq_true e; omega)] at he
            rw [← he] at k
            exact k h4 none 0 (H4.tl.tl.own_nil _ _)
          have e := of_decide_eq_false e
          rw [if_neg (by omega)] at he
          have hm2 := may_len hm
          have hlen := step_len hm
          have two : ∀ (r2 j : Nat) (out2 : List Nat) {a0 : OA} {c0 : Nat} {h : Heap} {x : Nat}, r2 + j = t.len.toNat → out2.length + r2 ≤ m → (t.len ≠ 0 → out.length ≤ out2.length) → cp t.dist.toNat r2 out2 = step t out → Hs h (own a0 out2.length c0 T_uint8 1 (nV out2) :: pt x T_api_Token (tokV t) :: L) →
              match_Expand.L2 (m : Int) a0 out2.length c0 ⟨x, 0, none⟩ a n c (n : Int) (i : Int) t.len (j : Int) (match_Expand.K5 (match_Expand.K2 Q)) h := by
            intro r2
            induction r2 with
            | zero =>
              intro j out2 a0 c0 h x hj hs2 ho hc H
              refine match_Expand.L2_of (br_false (decide_eq_false (by omega)) (match_Expand.L2_X3 ?_))
              dsimp only
              rw [wrapI (by omega) (by omega)]
              rw [cp] at hc
              refine ih (i + 1) out2 (by omega) (by omega) ?_ H.m1.tl
              rw [hc]; exact he
            | succ r2 ih2 =>
              intro j out2 a0 c0 h x hj hs2 ho hc H
              refine match_Expand.L2_of ?_
              dsimp only
              refine br_true (decide_eq_true (by omega)) ⟨_, H.m1.cell (off := 2) rfl, ?_⟩
              have ho := ho (by omega)
              have hd : IntKind.i64.wrap ((out2.length : Int) - t.dist) = ((out2.length - t.dist.toNat : Nat) : Int) := by rw [wrapI (by omega) (by omega)]; omega
              have hlt : out2.length - t.dist.toNat < out2.length := by omega
              rw [hd]
              refine idx E_sl_uint8 H.rd (by omega) (by omega) (by rw [Int.toNat_natCast]; exact nV_get hlt) fun u hu => ⟨_, hu, ?_⟩
              refine out_app (by omega) H fun h5 a5 c5 H5 => ⟨_, _, _, rfl, ?_⟩
              rw [wrapI (by omega) (by omega)]
              refine ih2 (j + 1) _ (by omega) (by simp; omega) (by simp; omega) ?_ H5
              rw [← hc, cp, getD_of hlt]
          have one2 : ∀ {out2 : List Nat} {a0 : OA} {c0 : Nat} {h : Heap} {x : Nat}, out2 = (if t.len = 0 then out ++ [t.lit] else out) → Hs h (own a0 out2.length c0 T_uint8 1 (nV out2) :: pt x T_api_Token (tokV t) :: L) →
              match_Expand.J2 (m : Int) a0 out2.length c0 ⟨x, 0, none⟩ a n c (n : Int) (i : Int) (match_Expand.K2 Q) h := by
            intro out2 a0 c0 h x e2 H
            refine match_Expand.J2_of ⟨_, H.m1.cell (off := 1) rfl, ?_⟩
            have hl2 : out2.length + t.len.toNat ≤ m := by
              unfold one at e hlen
              subst e2
              split
              · simp; split at e <;> omega
              · split at e <;> omega
            refine two t.len.toNat 0 out2 (by omega) hl2 (fun h0 => by rw [e2, if_neg h0]; exact Nat.le_refl _) ?_ H
            rw [step, e2]
          refine ⟨_, H4.cell (off := 1) rfl, (br_iff _ _ _).2 ⟨fun e0 => ?_, fun e0 => ?_⟩⟩
          · have e0 : t.len = 0 := by simpa using e0
            refine ⟨_, H4.cell (off := 0) rfl, ?_⟩
            refine out_app (by omega) H4.m1 fun h5 a5 c5 H5 => ⟨_, _, _, rfl, ?_⟩
            exact one2 (by rw [if_pos e0]) H5
          · have e0 : t.len ≠ 0 := by simpa using e0
            exact one2 (by rw [if_neg e0]) H4.m1
      exact go n 0 [] (by omega) (by simp) rfl (H.own_nil _ _)
  refine (br_iff _ _ _).2 ⟨fun e => fin true (decide_eq_true (.inl (of_decide_eq_true e))), fun e => fin _ ?_⟩
  have e := of_decide_eq_false e
  exact decide_eq_decide.2 (by omega)
theorem RExpand_hs {a : OA} {n c : Nat} {l : List Tok} {lim : Int} (hr : Gv L a (l.flatMap tokV)) (hn : l.length = n) (hn2 : n < 2 ^ 61) (H : Hs h L)
    (k : ∀ h' b d, Hs h' (own b (exAll l lim).2.length d T_uint8 1 (nV (exAll l lim).2) :: L) → Q (.tuple #[.slice b (exAll l lim).2.length d, .int .i64 (exAll l lim).1]) h') : SpecH PP F_ref06_Expand [.slice a n c, .int .i64 lim] h Q := by
  refine ref06_Expand.door ?_
  have fin : ∀ b : Bool, decide (lim < 0 ∨ lim > 16384) = b → ref06_Expand.J1 a n c lim b Q h := by
    intro b e
    refine ref06_Expand.J1_of ((br_iff _ _ _).2 ⟨fun eb => ?_, fun eb => ?_⟩)
    · subst eb
      have e1 := of_decide_eq_true e
      unfold exAll at k
      rw [if_pos e1] at k
      exact k h none 0 (H.own_nil _ _)
    · subst eb
      have e1 := of_decide_eq_false e
      unfold exAll at k
      rw [if_neg e1] at k
      obtain ⟨m, rfl⟩ := Int.eq_ofNat_of_zero_le (show 0 ≤ lim by omega)
      rw [Int.toNat_natCast] at k
      have go : ∀ (r i : Nat) (out : List Nat) {a0 : OA} {c0 : Nat} {h : Heap}, r + i = n → out.length ≤ m → exGo m (l.drop i) out = exGo m l [] → Hs h (own a0 out.length c0 T_uint8 1 (nV out) :: L) →
          ref06_Expand.L1 a n c (m : Int) a0 out.length c0 (i : Int) (ref06_Expand.K2 Q) h := by
        intro r
        induction r with
        | zero =>
          intro i out a0 c0 h hi hs he H
          refine ref06_Expand.L1_of (br_false (decide_eq_false (by omega)) (ref06_Expand.L1_X0 ?_))
          rw [List.drop_of_length_le (by omega)] at he
          rw [← he] at k
          exact k h a0 c0 H
        | succ r ih =>
          intro i out a0 c0 h hi hs he H
          refine ref06_Expand.L1_of ?_
          dsimp only
          refine br_true (decide_eq_true (by omega)) ?_
          rw [List.drop_eq_getElem_cons (by omega)] at he
          have look : ∀ {h : Heap} {M : List Assn} {R : Addr → Heap → Prop}, Hs h (M ++ L) → (∀ t, rdCells h t 0 (tokV l[i]) → R t h) → hwp PP (Instr.indexAt T_sl_api_Token (.slice a n c) (.int .i64 (i : Int))) (fun u h1 => ∃ t, u = .pointer (some t) ∧ R t h1) h := fun {h M R} H K =>
            idxf E_sl_api_Token (φ := tokV) (l := l) (x := l[i]) (hr _ (by induction M with | nil => exact H | cons A M ihM => exact ihM H.tl)) tokV_len (by omega) (by omega) (by omega) (by simp) K
          generalize l[i] = t at he look
          refine look (M := [_]) H fun u hu => ⟨_, _, _, hu, ?_⟩
          refine may_hs H fun h4 H4 => ⟨_, rfl, ?_⟩
          rw [exGo] at he
          cases hm : may t out.length
          · rw [if_pos hm] at he
            refine br_true rfl (ref06_Expand.L1_Xret ?_)
            rw [← he] at k
            exact k h4 none 0 (H4.tl.own_nil _ _)
          rw [if_neg (by simp [hm])] at he
          refine br_false rfl (look (M := [_]) H4 fun u hu => ⟨_, hu.2.1, ?_⟩)
          rw [one_eq hm, wrapI (by omega) (by have := one_le hm; omega)]
          refine (br_iff _ _ _).2 ⟨fun e => ref06_Expand.L1_Xret ?_, fun e => ?_⟩
          · rw [if_pos (by have := of_decide_eq_true e; omega)] at he
            rw [← he] at k
            exact k h4 none 0 (H4.tl.own_nil _ _)
          have e := of_decide_eq_false e
          rw [if_neg (by omega)] at he
          have hm2 := may_len hm
          have hlen := step_len hm
          have two : ∀ (r2 j : Nat) (out2 : List Nat) {a0 : OA} {c0 : Nat} {h : Heap}, r2 + j = t.len.toNat → out2.length + r2 ≤ m → (t.len ≠ 0 → out.length ≤ out2.length) → cp t.dist.toNat r2 out2 = step t out → Hs h (own a0 out2.length c0 T_uint8 1 (nV out2) :: L) →
              ref06_Expand.L2 a n c (m : Int) a0 out2.length c0 (i : Int) (j : Int) (ref06_Expand.K5 (ref06_Expand.K2 Q)) h := by
            intro r2
            induction r2 with
            | zero =>
              intro j out2 a0 c0 h hj hs2 ho hc H
              refine ref06_Expand.L2_of (look (M := [_]) H fun u hu => ⟨_, hu.2.1, ?_⟩)
              refine br_false (decide_eq_false (by omega)) (ref06_Expand.L2_X2 ?_)
              dsimp only
              rw [wrapI (by omega) (by omega)]
              rw [cp] at hc
              refine ih (i + 1) out2 (by omega) (by omega) ?_ H
              rw [hc]; exact he
            | succ r2 ih2 =>
              intro j out2 a0 c0 h hj hs2 ho hc H
              refine ref06_Expand.L2_of (look (M := [_]) H fun u hu => ⟨_, hu.2.1, ?_⟩)
              refine br_true (decide_eq_true (by omega)) (look (M := [_]) H fun u hu => ⟨_, hu.2.2.1, ?_⟩)
              have ho := ho (by omega)
              have hd : IntKind.i64.wrap ((out2.length : Int) - t.dist) = ((out2.length - t.dist.toNat : Nat) : Int) := by rw [wrapI (by omega) (by omega)]; omega
              have hlt : out2.length - t.dist.toNat < out2.length := by omega
              dsimp only
              rw [hd]
              refine idx E_sl_uint8 H.rd (by omega) (by omega) (by rw [Int.toNat_natCast]; exact nV_get hlt) fun u hu => ⟨_, hu, ?_⟩
              refine out_app (by omega) H fun h5 a5 c5 H5 => ⟨_, _, _, rfl, ?_⟩
              rw [wrapI (by omega) (by omega)]
              refine ih2 (j + 1) _ (by omega) (by simp; omega) (by simp; omega) ?_ H5
              rw [← hc, cp, getD_of hlt]
          have one2 : ∀ {out2 : List Nat} {a0 : OA} {c0 : Nat} {h : Heap}, out2 = (if t.len = 0 then out ++ [t.lit] else out) → Hs h (own a0 out2.length c0 T_uint8 1 (nV out2) :: L) →
              ref06_Expand.J2 a n c (m : Int) a0 out2.length c0 (i : Int) (ref06_Expand.K2 Q) h := by
            intro out2 a0 c0 h e2 H
            refine ref06_Expand.J2_of ?_
            have hl2 : out2.length + t.len.toNat ≤ m := by
              unfold one at e hlen
              subst e2
              split
              · simp; split at e <;> omega
              · split at e <;> omega
            refine two t.len.toNat 0 out2 (by omega) hl2 (fun h0 => by rw [e2, if_neg h0]; exact Nat.le_refl _) ?_ H
            rw [step, e2]
          refine look (M := [_]) H4 fun u hu => ⟨_, hu.2.1, (br_iff _ _ _).2 ⟨fun e0 => ?_, fun e0 => ?_⟩⟩
          · have e0 : t.len = 0 := by simpa using e0
            refine look (M := [_]) H4 fun u hu => ⟨_, hu.1, ?_⟩
            refine out_app (by omega) H4 fun h5 a5 c5 H5 => ⟨_, _, _, rfl, ?_⟩
            exact one2 (by rw [if_pos e0]) H5
          · have e0 : t.len ≠ 0 := by simpa using e0
            exact one2 (by rw [if_neg e0]) H4
      exact go n 0 [] (by omega) (by simp) rfl (H.own_nil _ _)
  refine (br_iff _ _ _).2 ⟨fun e => fin true (decide_eq_true (.inl (of_decide_eq_true e))), fun e => fin _ ?_⟩
  have e := of_decide_eq_false e
  exact decide_eq_decide.2 (by omega)
theorem RCheck_hs {a : OA} {n c : Nat} {l : List Tok} (hr : Gv L a (l.flatMap tokV)) (hn : l.length = n) (hn2 : n < 2 ^ 61) (H : Hs h L) (k : ∀ h', Hs h' L → Q (.int .i64 (ckGo l 0)) h') : SpecH PP F_ref06_Check [.slice a n c] h Q := by
  refine ref06_Check.door (RExpand_hs hr hn hn2 H fun h' b d H' => ⟨_, _, _, _, rfl, ?_⟩)
  have e : (exAll l 16384).1 = ckGo l 0 := ck_ex l []
  rw [e]
  exact k h' H'.tl
end Go.Proofs.Ytaolpeimlkpkbaa
