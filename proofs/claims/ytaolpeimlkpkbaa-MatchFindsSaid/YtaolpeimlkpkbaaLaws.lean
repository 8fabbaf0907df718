/- The laws Expands, Costs, Joins. -/
import Derived.Test.YtaolpeimlkpkbaaAwake
set_option maxRecDepth 20000
set_option linter.unusedVariables false
set_option linter.unusedSimpArgs false
namespace Go.Proofs.Ytaolpeimlkpkbaa
open Go Go.HW
variable {h : Heap} {L : List Assn} {Q : Value → Heap → Prop}
theorem inc1 {i : Nat} (h : i < 2 ^ 62) : IntKind.i64.wrap ((i : Int) + 1) = ((i + 1 : Nat) : Int) := by rw [wrapI (by omega) (by omega)]; omega
theorem MatchExpands_spec {a : OA} {n c : Nat} {l : List Tok} {bound : Int} (hr : Rd h a (l.flatMap tokV)) (hn : l.length = n) (hn0 : a = none → n = 0) (hs : n * 24 ≤ 140737488351232) (HQ : ∀ h', ExtB h.size h h' → Q (.bool true) h') : SpecH PP F_law06_MatchExpands [.slice a n c, .int .i64 bound] h Q := by
  refine law06_MatchExpands.door ?_
  dsimp only
  have H := Hs.start h
  have fin : ∀ {h' : Heap} {M : List Assn}, Hs h' (ro h :: M) → Q (.bool true) h' := fun H => HQ _ H.ro_below
  have g : Gv [ro h] a (l.flatMap tokV) := Gv.ro hr
  refine (br_iff _ _ _).2 ⟨fun e => awake_hs H fun h1 H1 => ⟨_, rfl, fin H1⟩, fun e => ?_⟩
  have e := of_decide_eq_false e
  refine lent_hs g hn (by omega) hn0 H fun h1 b H1 => ⟨_, _, _, rfl, ?_⟩
  refine Expand_hs Gv_tl hn (by omega) H1 fun h2 b2 c2 H2 => ⟨_, _, _, _, rfl, ?_⟩
  refine Check_hs Gv_tl.cons hn (by omega) H2 fun h3 H3 => ⟨_, rfl, ?_⟩
  refine back_hs (g.cons) hn (by omega) H3.m1 fun h4 H4 => ⟨_, rfl, ?_⟩
  refine RExpand_hs g.cons hn (by omega) H4 fun h5 b5 c5 H5 => ⟨_, _, _, _, rfl, ?_⟩
  have hlen : (exAll l bound).2.length ≤ 16384 := by
    unfold exAll
    split
    · simp
    · have := ex_len (lim := bound.toNat) (l := l) (out := []) (by simp); omega
  refine BSame_hs Gv.own.cons Gv.own rfl (by omega) H5 ⟨_, rfl, ?_⟩
  generalize hX : exAll l bound = X at H5 hlen ⊢
  have last : ∀ {hh : Heap}, Hs hh (own b5 X.2.length c5 T_uint8 1 (nV X.2) :: [ro h]) → law06_MatchExpands.K1 Q (.exit 0) (law06_MatchExpands.X0 a n c bound X.1 (ckGo l 0) true b5 X.2.length c5 X.1 true) hh := by
    intro h' H
    refine law06_MatchExpands.L1_X0 ?_
    refine Expand_hs g.cons hn (by omega) H fun h6 b6 c6 H6 => ⟨_, _, _, _, rfl, ?_⟩
    refine awake_hs H6 fun h7 H7 => ⟨_, rfl, br_true rfl (br_true rfl (br_true rfl ?_))⟩
    rw [hX] at H7 ⊢
    refine BSame_hs Gv.own Gv.own.cons rfl (by omega) H7 ⟨_, rfl, br_true rfl (br_true (by simp) (br_true (by simp) ?_))⟩
    refine RCheck_hs g.cons.cons hn (by omega) H7 fun h8 H8 => ⟨_, rfl, ?_⟩
    rw [show (ckGo l 0 == ckGo l 0) = true by simp]
    exact fin H8.tl.tl
  have go : ∀ (r i : Nat) {hh : Heap} {ys : List Value}, r + i = X.2.length → Hs hh (own b2 X.2.length c2 T_uint8 1 ys :: own b5 X.2.length c5 T_uint8 1 (nV X.2) :: [ro h]) →
      law06_MatchExpands.L1 a n c bound b2 X.2.length c2 X.1 (ckGo l 0) true b5 X.2.length c5 X.1 true i (law06_MatchExpands.K1 Q) hh := by
    intro r
    induction r with
    | zero => intro i hh ys hi H; exact law06_MatchExpands.L1_of (br_false (decide_eq_false (by omega)) (last H.tl))
    | succ r ih =>
      intro i hh ys hi H
      refine law06_MatchExpands.L1_of (br_true (decide_eq_true (by omega)) ?_)
      refine H.idx_set E_sl_uint8 (by omega) (by omega) rfl fun h2 H2 => ?_
      dsimp only
      rw [inc1 (i := i) (by omega)]
      exact ih (i + 1) (by omega) H2
  exact go X.2.length 0 (by omega) H5.m1
theorem MatchCosts_spec {a : OA} {n c : Nat} {l : List Tok} (hr : Rd h a (l.flatMap tokV)) (hn : l.length = n) (hn0 : a = none → n = 0) (HQ : ∀ h', ExtB h.size h h' → Q (.bool true) h') : SpecH PP F_law06_MatchCosts [.slice a n c] h Q := by
  refine law06_MatchCosts.door ?_
  dsimp only
  have H := Hs.start h
  have fin : ∀ {h' : Heap} {M : List Assn}, Hs h' (ro h :: M) → Q (.bool true) h' := fun H => HQ _ H.ro_below
  have g : Gv [ro h] a (l.flatMap tokV) := Gv.ro hr
  refine (br_iff _ _ _).2 ⟨fun e => awake_hs H fun h1 H1 => ⟨_, rfl, fin H1⟩, fun e => ?_⟩
  have e := of_decide_eq_false e
  refine lent_hs g hn (by omega) hn0 H fun h1 b H1 => ⟨_, _, _, rfl, ?_⟩
  refine Cost_hs Gv_tl hn (by omega) H1 fun h2 H2 => ⟨_, _, rfl, ?_⟩
  refine back_hs g hn (by omega) H2 fun h4 H4 => ⟨_, rfl, ?_⟩
  refine RCost_hs g hn (by omega) H4 fun h5 H5 => ⟨_, _, rfl, ?_⟩
  refine awake_hs H5 fun h6 H6 => ⟨_, rfl, br_true rfl (br_true rfl (br_true (by simp) ?_))⟩
  rw [show ((costAll l).2 == (costAll l).2) = true by simp]
  exact fin H6
end Go.Proofs.Ytaolpeimlkpkbaa
