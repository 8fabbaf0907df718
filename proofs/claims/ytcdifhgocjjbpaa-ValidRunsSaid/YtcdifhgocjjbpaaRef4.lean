/- The document's set: Stage. -/
import Derived.Test.YtcdifhgocjjbpaaRef3
set_option maxRecDepth 20000
set_option linter.unusedVariables false
set_option linter.unusedSimpArgs false
namespace Go.Proofs.Ytcdifhgocjjbpaa
open Go Go.HW
variable {h : Heap} {L : List Assn} {Q : Value → Heap → Prop}
theorem wrs_len (l : List Wr) : (l.flatMap wrV).length = l.length * 5 := flat_len wrV_len l
theorem Stage_hs {s : Nat} {v : RS} {w : Wr} (hv : RB v) (H : Hs h (refA s v :: L)) (kk : ∀ h', Hs h' (refA s (v.stage w) :: L) → Q (.tuple #[]) h') : SpecH PP F_ref13_Set_Stage [.pointer (some ⟨s, 0, none⟩), wrA w] h Q := by
  refine ref13_Set_Stage.door ?_
  dsimp only
  have H1 := H.new (t := T_api_Write) (cs := (wrV w).toArray) (xs := wrV w)
  generalize Array.size h = w3 at H1 ⊢
  have h3 := hv.st
  obtain ⟨a1, c1, a2, c2, a3, c3, H0⟩ := refA_open.1 H1.m1
  have hnn : a3 = none → c3 = 0 := fun e => by subst e; exact H0.m3.own_none
  have hle := H0.m3.own_le
  clear H1
  have g3 : Gv (pt s T_haversackref13_Set [.int .i64 v.at_, .slice a1 v.rd.length c1, .slice a2 v.ls.length c2, .slice a3 v.st.length c3] :: own a1 v.rd.length c1 T_api_Key 3 (v.rd.flatMap keyV) :: own a2 v.ls.length c2 T_api_Box 2 (v.ls.flatMap bxV) :: own a3 v.st.length c3 T_api_Write 5 (v.st.flatMap wrV) :: pt w3 T_api_Write (wrV w) :: L) a3 (v.st.flatMap wrV) := Gv.own.cons.cons.cons
  -- behind the search
  have J2 : ∀ {k : Nat} {h : Heap} {b : OA} {m d : Nat} {rest : List Wr}, k ≤ v.st.length → rest.length = m → m ≤ v.st.length → (b = none → m = 0) → stg w v.st = v.st.take k ++ [w] ++ rest →
      Gv (pt s T_haversackref13_Set [.int .i64 v.at_, .slice a1 v.rd.length c1, .slice a2 v.ls.length c2, .slice a3 v.st.length c3] :: own a1 v.rd.length c1 T_api_Key 3 (v.rd.flatMap keyV) :: own a2 v.ls.length c2 T_api_Box 2 (v.ls.flatMap bxV) :: own a3 v.st.length c3 T_api_Write 5 (v.st.flatMap wrV) :: pt w3 T_api_Write (wrV w) :: L) b (rest.flatMap wrV) →
      Hs h (pt s T_haversackref13_Set [.int .i64 v.at_, .slice a1 v.rd.length c1, .slice a2 v.ls.length c2, .slice a3 v.st.length c3] :: own a1 v.rd.length c1 T_api_Key 3 (v.rd.flatMap keyV) :: own a2 v.ls.length c2 T_api_Box 2 (v.ls.flatMap bxV) :: own a3 v.st.length c3 T_api_Write 5 (v.st.flatMap wrV) :: pt w3 T_api_Write (wrV w) :: L) →
      ref13_Set_Stage.J2 (some ⟨s, 0, none⟩) ⟨w3, 0, none⟩ (k : Int) b m d Q h := by
    intro k h b m d rest hk hm hml hb0 hst gr H
    refine ref13_Set_Stage.J2_of ?_
    dsimp only [nilc]
    refine ⟨_, _, _, H.cell (off := 3) rfl, ?_⟩
    refine cutS (lo := none) (hi := some (.int .i64 (k : Int))) E_sl_api_Write g3 (wrs_len _) hle hnn (Nat.zero_le k) hk rfl rfl fun a' c' g' n' hc' _ => ⟨_, _, _, rfl, ?_⟩
    rw [wrs_cut, Nat.sub_zero, List.drop_zero] at g'
    rw [Nat.sub_zero] at n' ⊢
    have hkl : (v.st.take k).length = k := by rw [List.length_take]; omega
    refine (H.own_nil _ _).app_sl E_sl_api_Write (m := k) (ys := (v.st.take k).flatMap wrV) (g' _ H) (by rw [wrs_len, hkl]) n' (wrs_one _) (fun h2 b2 d2 H2 => ⟨_, _, _, rfl, ?_⟩) (by omega) (by omega)
    rw [List.nil_append, Nat.zero_add] at H2
    rw [Nat.zero_add]
    refine ⟨_, _, _, _, _, H2.m5.rdc0, ?_⟩
    generalize hT : v.st.take k = T at H2 hkl hst ⊢
    subst hkl
    refine wr_app (w := w) (by omega) H2 fun h3 b3 d3 H3 => ⟨_, _, _, rfl, ?_⟩
    have hl3 : (T ++ [w]).length = T.length + 1 := by rw [List.length_append]; rfl
    refine H3.app_sl E_sl_api_Write (m := m) (ys := rest.flatMap wrV) (gr _ H3.tl) (by rw [wrs_len, hm]) hb0 (wrs_one _) (fun h4 b4 d4 H4 => ⟨_, _, _, rfl, ?_⟩) (by omega) (by omega)
    rw [← List.flatMap_append, ← hst] at H4
    refine H4.m1.sto (off := 3) (by simp) fun h5 H5 => kk h5 (refA_open.2 ⟨a1, c1, a2, c2, b4, d4, ?_⟩)
    have hll : (T ++ [w]).length + m = (stg w v.st).length := by rw [hst, List.length_append (bs := rest), hm]
    rw [hll] at H5
    exact H5.m4.tl.m4.tl.m1.m3.m3.m3
  have fin0 : ∀ {k : Nat} {h : Heap}, (∀ j (hj : j < v.st.length), j < k → klt v.st[j].k w.k = true) → k ≤ v.st.length → (∀ hi : k < v.st.length, klt v.st[k].k w.k = false) → Hs h (pt s T_haversackref13_Set [.int .i64 v.at_, .slice a1 v.rd.length c1, .slice a2 v.ls.length c2, .slice a3 v.st.length c3] :: own a1 v.rd.length c1 T_api_Key 3 (v.rd.flatMap keyV) :: own a2 v.ls.length c2 T_api_Box 2 (v.ls.flatMap bxV) :: own a3 v.st.length c3 T_api_Write 5 (v.st.flatMap wrV) :: pt w3 T_api_Write (wrV w) :: L) →
      ref13_Set_Stage.K1 Q (.exit 0) (ref13_Set_Stage.X0 (some ⟨s, 0, none⟩) ⟨w3, 0, none⟩ (k : Int)) h := by
    intro k h q1 q2 q3 H
    have hst := stg_at q1 q2 q3
    refine ref13_Set_Stage.L1_X0 ?_
    dsimp only [nilc]
    refine ⟨_, _, _, H.cell (off := 3) rfl, ?_⟩
    refine cutS (lo := some (.int .i64 (k : Int))) (hi := none) E_sl_api_Write g3 (wrs_len _) hle hnn q2 (Nat.le_refl _) rfl rfl fun a' c' g' n' hc' nn' => ⟨_, _, _, rfl, ?_⟩
    rw [wrs_cut] at g'
    have hdl : (v.st.drop k).length = v.st.length - k := List.length_drop ..
    rw [List.take_of_length_le (by omega)] at g'
    have J1 : ∀ b : Bool, isK v.st[k]? w.k = b → ref13_Set_Stage.J1 (some ⟨s, 0, none⟩) ⟨w3, 0, none⟩ (k : Int) a' (v.st.length - k) c' b Q h := by
      intro b hb
      rw [hb] at hst
      refine ref13_Set_Stage.J1_of ((br_iff _ _ _).2 ⟨fun e => ?_, fun e => ?_⟩)
      · rw [if_pos e] at hst
        have hk1 : k < v.st.length := by
          apply Nat.lt_of_not_le; intro q
          rw [List.getElem?_eq_none q] at hb; rw [e] at hb; cases hb
        refine cutS (i := 1) (lo := some (.int .i64 1)) (hi := none) E_sl_api_Write g' (by rw [wrs_len, hdl]) hc' nn' (by omega) (Nat.le_refl _) rfl rfl fun a2' c2' g2 n2 _ _ => ⟨_, _, _, rfl, ?_⟩
        rw [wrs_cut, List.drop_drop, List.take_of_length_le (by rw [List.length_drop]; omega)] at g2
        exact J2 (rest := v.st.drop (k + 1)) q2 (by rw [List.length_drop]; omega) (by omega) n2 hst g2 H
      · rw [if_neg (by rw [e]; simp)] at hst
        exact J2 (rest := v.st.drop k) q2 hdl (by omega) n' hst g' H
    refine (br_iff _ _ _).2 ⟨fun e => ?_, fun e => J1 false ?_⟩
    · have e := of_decide_eq_true e
      have hk1 : k < v.st.length := by omega
      refine idxf (i := 0) E_sl_api_Write (φ := wrV) (l := v.st.drop k) (x := v.st[k]) (g' _ H) wrV_len (by decide) (by omega) (by omega) (by simp [hk1]) fun t ht => ⟨_, _, _, ⟨ht.1, ht.2.1, ht.2.2.1, trivial⟩, _, _, _, H.m4.rdo 0 rfl, ?_⟩
      rw [key_dec v.st[k].k w.k]
      exact J1 _ (by rw [List.getElem?_eq_getElem hk1]; rfl)
    · have e := of_decide_eq_false e
      rw [List.getElem?_eq_none (by omega)]; rfl
  have go : ∀ (r k : Nat) {h : Heap}, r + k = v.st.length → (∀ j (hj : j < v.st.length), j < k → klt v.st[j].k w.k = true) → Hs h (pt s T_haversackref13_Set [.int .i64 v.at_, .slice a1 v.rd.length c1, .slice a2 v.ls.length c2, .slice a3 v.st.length c3] :: own a1 v.rd.length c1 T_api_Key 3 (v.rd.flatMap keyV) :: own a2 v.ls.length c2 T_api_Box 2 (v.ls.flatMap bxV) :: own a3 v.st.length c3 T_api_Write 5 (v.st.flatMap wrV) :: pt w3 T_api_Write (wrV w) :: L) → ref13_Set_Stage.L1 (some ⟨s, 0, none⟩) ⟨w3, 0, none⟩ (k : Int) (ref13_Set_Stage.K1 Q) h := by
    intro r
    induction r with
    | zero =>
      intro k h hi q H
      refine ref13_Set_Stage.L1_of ?_
      dsimp only [nilc]
      exact ⟨_, _, _, H.cell (off := 3) rfl, br_false (decide_eq_false (by omega)) (fin0 q (by omega) (fun hi => by omega) H)⟩
    | succ r ih =>
      intro k h hi q H
      refine ref13_Set_Stage.L1_of ?_
      dsimp only [nilc]
      refine ⟨_, _, _, H.cell (off := 3) rfl, br_true (decide_eq_true (by omega)) ⟨_, _, _, H.cell (off := 3) rfl, ?_⟩⟩
      refine idxf E_sl_api_Write (φ := wrV) (l := v.st) (x := v.st[k]) (H.m3.rd) wrV_len (by decide) (by omega) (by omega) (by simp) fun t ht => ⟨_, _, _, ⟨ht.1, ht.2.1, ht.2.2.1, trivial⟩, _, _, _, H.m4.rdo 0 rfl, ?_⟩
      refine Before_hs (a := v.st[k].k) (b := w.k) H fun h2 H2 => ⟨_, rfl, (br_iff _ _ _).2 ⟨fun e => ?_, fun e => fin0 q (by omega) (fun _ => e) H2⟩⟩
      rw [i1 (i := k) (by omega)]
      refine ih (k + 1) (by omega) (fun j hj hjk => ?_) H2
      by_cases ej : j = k
      · subst ej; exact e
      · exact q j hj (by omega)
  exact go v.st.length 0 (by omega) (fun j _ h => by omega) H0
end Go.Proofs.Ytcdifhgocjjbpaa
