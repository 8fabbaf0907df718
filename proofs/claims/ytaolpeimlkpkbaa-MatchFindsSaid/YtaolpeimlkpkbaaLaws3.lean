/- The laws Round and Twice. -/
import Derived.Test.YtaolpeimlkpkbaaLaws2
import Derived.Test.YtaolpeimlkpkbaaPlain
set_option maxRecDepth 20000
set_option linter.unusedVariables false
set_option linter.unusedSimpArgs false
namespace Go.Proofs.Ytaolpeimlkpkbaa
open Go Go.HW
variable {h : Heap} {L : List Assn} {Q : Value → Heap → Prop}
theorem MatchRound_spec {a : OA} {n c : Nat} {D : List Nat} (hr : Rd h a (nV D)) (hn : D.length = n) (hn0 : a = none → n = 0) (hb : ∀ x ∈ D, x < 256) (HQ : ∀ h', ExtB h.size h h' → Q (.bool true) h') : SpecH PP F_law06_MatchRound [.slice a n c] h Q := by
  refine law06_MatchRound.door ?_
  dsimp only
  have H := Hs.start h
  have fin : ∀ {h' : Heap} {M : List Assn}, Hs h' (ro h :: M) → Q (.bool true) h' := fun H => HQ _ H.ro_below
  have g : Gv [ro h] a (nV D) := Gv.ro hr
  refine (br_iff _ _ _).2 ⟨fun e => awake_hs H fun h1 H1 => ⟨_, rfl, fin H1⟩, fun e => ?_⟩
  have e := of_decide_eq_false e
  have hD : D.length ≤ 16384 := by omega
  refine Find_hs hb g hn (by omega) hn0 H fun h1 b1 d1 H1 => ⟨_, _, _, rfl, ?_⟩
  have hT := fd_len D D.length 0
  have hTl : (find D).length ≤ n := by unfold find; rw [if_neg (by omega)]; omega
  have hck := find_ck hD
  have hco := find_cost hD
  have hex : ∀ {m : Nat}, m ≤ 16384 → exAll (find D) m = if D.length ≤ m then (0, D) else (2, []) := fun {m} hm => by
    unfold exAll; rw [if_neg (by omega), Int.toNat_natCast, find_ex hD]
  have hall : exAll (find D) n = (0, D) := by rw [hex (by omega), if_pos (by omega)]
  generalize find D = T at *
  refine Expand_hs Gv.own rfl (by omega) H1 fun h2 b2 d2 H2 => ⟨_, _, _, _, rfl, ?_⟩
  rw [hall] at H2 ⊢
  dsimp only at H2 ⊢
  have hc : costAll T = (costs T, 0) := by unfold costAll; rw [if_pos hck]
  refine Cost_hs Gv.own.cons rfl (by omega) H2 fun h3 H3 => ⟨_, _, rfl, ?_⟩
  rw [hc]
  dsimp only
  have hpl := plainS_ge D
  have J : ∀ {h4 : Heap}, Hs h4 (own b2 D.length d2 T_uint8 1 (nV D) :: own b1 T.length d1 T_api_Token 3 (T.flatMap tokV) :: [ro h]) → law06_MatchRound.J2 a n c b1 T.length d1 b2 D.length d2 0 (costs T) 0 (plainS D) Q h4 := by
    intro h4 H4
    refine law06_MatchRound.J2_of (awake_hs H4 fun h5 H5 => ⟨_, rfl, br_true rfl (br_true rfl ?_)⟩)
    rw [hn] at H5 ⊢
    refine BSame_hs Gv.own g.cons.cons hn (by omega) H5 ⟨_, rfl, br_true rfl ?_⟩
    refine Check_hs Gv.own.cons rfl (by omega) H5 fun h6 H6 => ⟨_, rfl, ?_⟩
    rw [hck]
    refine br_true rfl (br_true rfl (br_true (decide_eq_true hco) ?_))
    rw [decide_eq_true (show (T.length : Int) ≤ n by omega)]
    exact fin H6.tl.tl
  have last : law06_MatchRound.K1 Q (.exit 0) (law06_MatchRound.X0 a n c b1 T.length d1 b2 D.length d2 0 (costs T) 0 (plainS D)) h3 := by
    refine law06_MatchRound.L1_X0 ?_
    refine (br_iff _ _ _).2 ⟨fun e => ?_, fun e => J H3⟩
    have e := of_decide_eq_true e
    dsimp only
    rw [show IntKind.i64.wrap ((n : Int) - 1) = ((n - 1 : Nat) : Int) by rw [wrapI (by omega) (by omega)]; omega]
    refine Expand_hs Gv.own.cons rfl (by omega) H3 fun h5 b5 d5 H5 => ⟨_, _, _, _, rfl, ?_⟩
    rw [hex (by omega), if_neg (by omega)] at H5 ⊢
    exact br_false rfl (J H5.tl)
  have go : ∀ (r i : Nat), r + i = n → law06_MatchRound.L1 a n c b1 T.length d1 b2 D.length d2 0 (costs T) 0 (plainS (D.take i)) i (law06_MatchRound.K1 Q) h3 := by
    intro r
    induction r with
    | zero =>
      intro i hi
      refine law06_MatchRound.L1_of (br_false (decide_eq_false (by omega)) ?_)
      rw [List.take_of_length_le (by omega)]
      exact last
    | succ r ih =>
      intro i hi
      refine law06_MatchRound.L1_of (br_true (decide_eq_true (by omega)) ?_)
      dsimp only
      have hp := plainS_take (D := D) (i := i) (by omega)
      have hp2 := plainS_ge (D.take i)
      rw [List.length_take] at hp2
      have ih := ih (i + 1) (by omega)
      rw [hp] at ih
      have nxt : ∀ {s : Int}, s = plainS (D.take i) + pc (D.getD i 0) → law06_MatchRound.J1 a n c b1 T.length d1 b2 D.length d2 0 (costs T) 0 s i (law06_MatchRound.K1 Q) h3 := fun {s} es => by
        refine law06_MatchRound.J1_of ?_
        dsimp only
        rw [inc1 (i := i) (by omega), es]
        exact ih
      rw [wrapI (x := plainS (D.take i) + 8) (by omega) (by omega)]
      refine idx E_sl_uint8 (g.cons.cons _ H3) (by omega) (by omega) (by rw [Int.toNat_natCast]; exact nVd (by omega)) fun t ht => ⟨_, ht, ?_⟩
      refine (br_iff _ _ _).2 ⟨fun e => ?_, fun e => ?_⟩
      · have e := of_decide_eq_true e
        rw [wrapI (by omega) (by omega)]
        exact nxt (by unfold pc; rw [if_pos (by omega)]; omega)
      · have e := of_decide_eq_false e
        exact nxt (by unfold pc; rw [if_neg (by omega)])
  exact go n 0 (by omega)
theorem ones_drop {T : List Tok} {i : Nat} (hi : i < T.length) : ones (T.drop i) = one T[i] + ones (T.drop (i + 1)) := by rw [List.drop_eq_getElem_cons hi, ones_cons]
theorem cn_drop {L : Nat} {T : List Tok} {i s : Nat} (hi : i < T.length) : cn L (T.drop i) s = (if s + one T[i] > L then 1 else 0) + cn L (T.drop (i + 1)) (s + one T[i]) := by rw [List.drop_eq_getElem_cons hi, cn]
theorem MatchTwice_spec {a : OA} {n c : Nat} {D : List Nat} (hr : Rd h a (nV D)) (hn : D.length = n) (hn0 : a = none → n = 0) (hb : ∀ x ∈ D, x < 256) (HQ : ∀ h', ExtB h.size h h' → Q (.bool true) h') : SpecH PP F_law06_MatchTwice [.slice a n c] h Q := by
  refine law06_MatchTwice.door ?_
  have H := Hs.start h
  have fin : ∀ {h' : Heap} {M : List Assn}, Hs h' (ro h :: M) → Q (.bool true) h' := fun H => HQ _ H.ro_below
  have g : Gv [ro h] a (nV D) := Gv.ro hr
  have main : ∀ b : Bool, (b = false → n ≤ 8192) → law06_MatchTwice.J1 a n c b Q h := by
    intro b hbb
    refine law06_MatchTwice.J1_of ((br_iff _ _ _).2 ⟨fun e => awake_hs H fun h1 H1 => ⟨_, rfl, fin H1⟩, fun e => ?_⟩)
    have hn2 := hbb e
    refine (H.own_nil _ _).app_sl E_sl_uint8 (m := n) (ys := nV D) (g _ H) (by rw [nV_len]; omega) hn0 (nV_one _) (fun h1 b1 d1 H1 => ⟨_, _, _, rfl, ?_⟩) (by omega) (by omega)
    refine H1.app_sl E_sl_uint8 (m := n) (ys := nV D) (g _ H1.tl) (by rw [nV_len]; omega) hn0 (nV_one _) (fun h2 b2 d2 H2 => ⟨_, _, _, rfl, ?_⟩) (by omega) (by omega)
    rw [List.nil_append, ← nV_app] at H2
    have hb2 : ∀ x ∈ D ++ D, x < 256 := fun x hx => (List.mem_append.1 hx).elim (hb x) (hb x)
    refine Find_hs hb2 Gv.own (by rw [List.length_append]; omega) (by omega) (fun e => by subst e; have := H2.own_none; have := H2.own_le; omega) H2 fun h3 b3 d3 H3 => ⟨_, _, _, rfl, ?_⟩
    have ⟨f1, f2⟩ := twice_find (E := D) (by omega)
    have f3 := find_le (D ++ D)
    generalize find (D ++ D) = T at *
    have go : ∀ (r i said k : Nat), r + i = T.length → said + ones (T.drop i) = ones T → k + cn D.length (T.drop i) said = cn D.length T 0 → k ≤ i →
        law06_MatchTwice.L1 a n c b3 T.length d3 said k i (law06_MatchTwice.K2 Q) h3 := by
      intro r
      induction r with
      | zero =>
        intro i said k hi h1 h2 hk
        rw [List.drop_of_length_le (by omega)] at h1 h2
        have h1 : said = ones T := h1
        have h2 : k = cn D.length T 0 := h2
        refine law06_MatchTwice.L1_of (br_false (decide_eq_false (by omega)) (law06_MatchTwice.L1_X0 ?_))
        refine awake_hs H3 fun h4 H4 => ⟨_, rfl, br_true rfl ?_⟩
        dsimp only
        rw [wrapI (x := 2 * (n : Int)) (by omega) (by omega)]
        refine br_true (beq_iff_eq.2 (by omega)) ?_
        have hd : Int.tdiv (n : Int) 129 = ((n / 129 : Nat) : Int) := tdiv_n n 129
        rw [hd, wrapI (x := ((n / 129 : Nat) : Int)) (by omega) (by omega), wrapI (x := 2 * ((n / 129 : Nat) : Int)) (by omega) (by omega), wrapI (by omega) (by omega), decide_eq_true (by omega)]
        exact fin H4.tl.tl
      | succ r ih =>
        intro i said k hi h1 h2 hk
        refine law06_MatchTwice.L1_of (br_true (decide_eq_true (by omega)) ?_)
        rw [ones_drop (by omega)] at h1
        rw [cn_drop (by omega)] at h2
        refine idxf E_sl_api_Token (φ := tokV) (l := T) (x := T[i]) (H3.rd) tokV_len (by omega) (by omega) (by omega) (by simp) fun t ht => ⟨_, ht.2.1, ?_⟩
        dsimp only
        have eo : (if T[i].len > 1 then T[i].len else 1) = (one T[i] : Int) := by unfold one; split <;> omega
        rw [eo, wrapI (by omega) (by omega)]
        generalize one T[i] = o at h1 h2 ⊢
        have nxt : ∀ {k2 : Nat}, k2 = k + (if said + o > D.length then 1 else 0) → law06_MatchTwice.J2 a n c b3 T.length d3 ((said : Int) + o) k2 i (law06_MatchTwice.K2 Q) h3 := fun {k2} e => by
          refine law06_MatchTwice.J2_of ?_
          dsimp only
          rw [inc1 (i := i) (by omega)]
          exact ih (i + 1) (said + o) k2 (by omega) (by omega) (by omega) (by split at e <;> omega)
        refine (br_iff _ _ _).2 ⟨fun e => ?_, fun e => ?_⟩
        · have e := of_decide_eq_true e
          rw [inc1 (i := k) (by omega)]
          exact nxt (by rw [if_pos (by omega)])
        · have e := of_decide_eq_false e
          exact nxt (by rw [if_neg (by omega)]; omega)
    exact go T.length 0 0 0 (by omega) (by simp) (by simp) (by omega)
  refine (br_iff _ _ _).2 ⟨fun e => main true (fun h => by cases h), fun e => main _ fun h => ?_⟩
  have h := of_decide_eq_false h
  omega
end Go.Proofs.Ytaolpeimlkpkbaa
