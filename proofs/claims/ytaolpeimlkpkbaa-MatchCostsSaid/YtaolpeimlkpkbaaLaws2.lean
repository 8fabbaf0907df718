/- The law Joins. -/
import Derived.Test.YtaolpeimlkpkbaaLaws
import Derived.Test.YtaolpeimlkpkbaaJoin
set_option maxRecDepth 20000
set_option linter.unusedVariables false
set_option linter.unusedSimpArgs false
namespace Go.Proofs.Ytaolpeimlkpkbaa
open Go Go.HW
variable {h : Heap} {L : List Assn} {Q : Value → Heap → Prop}
theorem exAll_len (l : List Tok) (b : Int) : (exAll l b).2.length ≤ 16384 := by
  unfold exAll
  split
  · simp
  · have := ex_len (lim := b.toNat) (l := l) (out := []) (by simp); omega
theorem MatchJoins_spec {a a2 : OA} {n c n2 c2 : Nat} {l m : List Tok} (hr : Rd h a (l.flatMap tokV)) (hn : l.length = n) (hn0 : a = none → n = 0) (hr2 : Rd h a2 (m.flatMap tokV)) (hn2 : m.length = n2) (hn02 : a2 = none → n2 = 0) (HQ : ∀ h', ExtB h.size h h' → Q (.bool true) h') :
    SpecH PP F_law06_MatchJoins [.slice a n c, .slice a2 n2 c2] h Q := by
  refine law06_MatchJoins.door ?_
  have H := Hs.start h
  have fin : ∀ {h' : Heap} {M : List Assn}, Hs h' (ro h :: M) → Q (.bool true) h' := fun H => HQ _ H.ro_below
  have g : Gv [ro h] a (l.flatMap tokV) := Gv.ro hr
  have g2 : Gv [ro h] a2 (m.flatMap tokV) := Gv.ro hr2
  have main : ∀ b : Bool, (b = false → n ≤ 1048576 ∧ n2 ≤ 1048576) → law06_MatchJoins.J1 a n c a2 n2 c2 b Q h := by
    intro b hb
    refine law06_MatchJoins.J1_of ((br_iff _ _ _).2 ⟨fun e => awake_hs H fun h1 H1 => ⟨_, rfl, fin H1⟩, fun e => ?_⟩)
    obtain ⟨hb1, hb2⟩ := hb e
    refine Expand_hs g hn (by omega) H fun h1 b1 d1 H1 => ⟨_, _, _, _, rfl, ?_⟩
    refine Expand_hs g2.cons hn2 (by omega) H1 fun h2 b2 d2 H2 => ⟨_, _, _, _, rfl, ?_⟩
    have la := exAll_len l 16384
    have lb := exAll_len m 16384
    have J : ∀ b : Bool, (b = false → (exAll l 16384).1 = 0 ∧ (exAll m 16384).1 = 0) → law06_MatchJoins.J2 a n c a2 n2 c2 b1 (exAll l 16384).2.length d1 b2 (exAll m 16384).2.length d2 b Q h2 := by
      intro b hb
      refine law06_MatchJoins.J2_of ((br_iff _ _ _).2 ⟨fun e => awake_hs H2 fun h1 H1 => ⟨_, rfl, fin H1.tl.tl⟩, fun e => ?_⟩)
      obtain ⟨e1, e2⟩ := hb e
      have eA := exAll_app e1 e2
      have k1 : ckGo l 0 = 0 := by rw [← ck_exAll]; exact e1
      have k2 : ckGo m 0 = 0 := by rw [← ck_exAll]; exact e2
      refine lent_hs g.cons.cons hn (by omega) hn0 H2 fun h3 b3 H3 => ⟨_, _, _, rfl, ?_⟩
      have H4 : Hs h3 (own (some ⟨b3, 0, none⟩) n (n + 1) T_api_Token 3 (l.flatMap tokV) :: own b2 (exAll m 16384).2.length d2 T_uint8 1 (nV (exAll m 16384).2) :: own b1 (exAll l 16384).2.length d1 T_uint8 1 (nV (exAll l 16384).2) :: [ro h]) :=
        H3.pt_own 0 (by rw [List.drop_zero, ← hn, tl_take]) (by rw [toksV_len, hn]) (by omega) (by rw [toksV_len]; simp; omega)
      refine H4.app_sl E_sl_api_Token (m := n2) (ys := m.flatMap tokV) (g2 _ H4.tl.tl.tl) (by rw [toksV_len, hn2]) hn02 (toksV_one _) (fun h5 b5 d5 H5 => ⟨_, _, _, rfl, ?_⟩) (by omega) (by omega)
      rw [← List.flatMap_append] at H5
      have hx : (l ++ m).length = n + n2 := by rw [List.length_append, hn, hn2]
      refine Expand_hs Gv.own hx (by omega) H5 fun h6 b6 d6 H6 => ⟨_, _, _, _, rfl, ?_⟩
      rw [eA] at H6 ⊢
      generalize exAll l 16384 = A at *
      generalize exAll m 16384 = B at *
      dsimp only
      rw [wrapI (by omega) (by omega)]
      refine (br_iff _ _ _).2 ⟨fun e => ?_, fun e => ?_⟩
      · have e := of_decide_eq_true e
        rw [if_neg (by omega)]
        exact awake_hs H6 fun h7 H7 => ⟨_, rfl, br_true rfl (fin H7.tl.tl.tl.tl)⟩
      · have e := of_decide_eq_false e
        rw [if_pos (by omega)] at H6 ⊢
        dsimp only at H6 ⊢
        rw [List.length_append] at H6 ⊢
        refine Cost_hs g.cons.cons.cons.cons hn (by omega) H6 fun h7 H7 => ⟨_, _, rfl, ?_⟩
        refine Cost_hs g2.cons.cons.cons.cons hn2 (by omega) H7 fun h8 H8 => ⟨_, _, rfl, ?_⟩
        refine Cost_hs Gv.own.cons hx (by omega) H8 fun h9 H9 => ⟨_, _, rfl, ?_⟩
        refine awake_hs H9 fun h10 H10 => ⟨_, rfl, br_true rfl (br_true rfl ?_)⟩
        have k3 : ckGo (l ++ m) 0 = 0 := by rw [← ck_exAll, eA, if_pos (by omega)]
        refine H10.m3.app_sl E_sl_uint8 (m := B.2.length) (ys := nV B.2) (H10.m2.rd) (by rw [nV_len]; omega) (fun e => by subst e; have := H10.m2.own_none; have := H10.m2.own_le; omega) (nV_one _) (fun h11 b11 d11 H11 => ⟨_, _, _, rfl, ?_⟩) (by omega) (by omega)
        rw [← nV_app] at H11
        refine BSame_hs (l := A.2 ++ B.2) Gv.own.cons Gv.own (by rw [List.length_append]) (by omega) H11 ⟨_, rfl, br_true rfl ?_⟩
        have c1 : costAll l = (costs l, 0) := by unfold costAll; rw [if_pos k1]
        have c2 : costAll m = (costs m, 0) := by unfold costAll; rw [if_pos k2]
        have c3 : costAll (l ++ m) = (costs l + costs m, 0) := by unfold costAll; rw [if_pos k3, costs_app]
        have b1 := costs_le l
        have b2 := costs_le m
        rw [c1, c2, c3]
        refine br_true rfl (br_true rfl (br_true rfl ?_))
        dsimp only
        rw [wrapI (by omega) (by omega), show (costs l + costs m == costs l + costs m) = true by simp]
        exact fin H11.tl.tl.tl.tl
    refine (br_iff _ _ _).2 ⟨fun e => J true (fun h => by cases h), fun e => J _ fun h => ?_⟩
    have e := bne_eq_false_iff_eq.1 e
    exact ⟨e, bne_eq_false_iff_eq.1 h⟩
  refine (br_iff _ _ _).2 ⟨fun e => main true (fun h => by cases h), fun e => main _ fun h => ?_⟩
  have e := of_decide_eq_false e
  have h := of_decide_eq_false h
  omega
end Go.Proofs.Ytaolpeimlkpkbaa
