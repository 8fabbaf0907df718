/- The law Runs. -/
import Derived.Test.YtcdifhgocjjbpaaLaws4
set_option maxRecDepth 20000
set_option linter.unusedVariables false
set_option linter.unusedSimpArgs false
namespace Go.Proofs.Ytcdifhgocjjbpaa
open Go Go.HW
variable {h : Heap} {L : List Assn} {Q : Value → Heap → Prop}
theorem opV_len (o : OpV) : (opV o).length = 8 := rfl
structure OpWf (h : Heap) (o : OpV) : Prop where
  rd : Rd h o.a (o.cs.flatMap cmV)
  n : o.cs.length = o.n
  lt : o.n < 2 ^ 60
  cm : ∀ x ∈ o.cs, Rd h x.a (x.ws.flatMap wrV) ∧ x.ws.length = x.n ∧ x.n < 2 ^ 60
theorem OpWf.ok {h : Heap} {o : OpV} (w : OpWf h o) : OpOk (ro h :: L) o := ⟨Gv.ro w.rd, w.n, w.lt, fun x hx => ⟨Gv.ro (w.cm x hx).1, (w.cm x hx).2.1, (w.cm x hx).2.2⟩⟩
theorem ValidRuns_spec {at_ : Int} {a : OA} {n c : Nat} {l : List OpV} (hr : Rd h a (l.flatMap opV)) (hn : l.length = n) (hw : ∀ o ∈ l, OpWf h o) (HQ : ∀ h', ExtB h.size h h' → Q (.bool true) h') :
    SpecH PP F_law13_ValidRuns [.int .i64 at_, .slice a n c] h Q := by
  refine law13_ValidRuns.door ?_
  have H := Hs.start h
  have fin : ∀ {h' : Heap} {M : List Assn}, Hs h' (ro h :: M) → Q (.bool true) h' := fun H => HQ _ H.ro_below
  have g : Gv [ro h] a (l.flatMap opV) := Gv.ro hr
  refine (br_iff _ _ _).2 ⟨fun e => fin H, fun e => ?_⟩
  have e := of_decide_eq_false e
  have last : ∀ {s r0 : Nat} {v : VS} {r : RS} {h' : Heap}, Lk v r → r.st.length < 2 ^ 20 → Hs h' (setA s v :: refA r0 r :: [ro h]) → law13_ValidRuns.K3 Q (.exit 2) (law13_ValidRuns.X2 (some ⟨s, 0, none⟩) ⟨r0, 0, none⟩) h' := by
    intro s r0 v r h' lk hlt H
    refine law13_ValidRuns.L2_X2 (awake_hs H fun h1 H1 => ⟨_, rfl, br_true rfl ⟨?_, ?_, trivial⟩⟩)
    · refine Writes_hs lk.vi (by rw [lk.len]; omega) H1 fun h2 a c e p hr H2 => ?_
      obtain rfl : e = r.st := rise_uniq hr lk.rise (p.trans lk.st.symm)
      obtain ⟨a1, c1, a2, c2, a3, c3, H3⟩ := refA_open.1 H2.m2
      refine ⟨_, _, _, rfl, _, _, _, H3.cell (off := 3) rfl, KWrites_hs (l := r.st) Gv.own.cons.cons.cons.cons Gv.own.cons.cons.cons rfl (by omega) H3 ⟨_, rfl, ?_⟩⟩
      exact fin H3.tl.tl.tl.tl.tl.tl
    · obtain ⟨a1, c1, a2, c2, a3, c3, H3⟩ := refA_open.1 H1.m1
      refine ⟨_, _, _, H3.cell (off := 3) rfl, Writes_hs lk.vi (by rw [lk.len]; omega) H3.m4 fun h2 a c e p hr H2 => ?_⟩
      obtain rfl : e = r.st := rise_uniq hr lk.rise (p.trans lk.st.symm)
      refine ⟨_, _, _, rfl, KWrites_hs (l := r.st) Gv.own Gv.own.cons.cons.cons.cons.cons rfl (by omega) H2 ⟨_, rfl, ?_⟩⟩
      exact fin H2.tl.tl.tl.tl.tl.tl
  have two : ∀ (k i : Nat) {s r0 : Nat} {v : VS} {r : RS} {h' : Heap}, k + i = n → Lk v r → v.at_ = at_ → r.rd.length ≤ i → r.ls.length ≤ i → r.st.length ≤ i → Hs h' (setA s v :: refA r0 r :: [ro h]) →
      law13_ValidRuns.L2 at_ a n c (some ⟨s, 0, none⟩) ⟨r0, 0, none⟩ (i : Int) (law13_ValidRuns.K3 Q) h' := by
    intro k
    induction k with
    | zero =>
      intro i s r0 v r h' hi lk ha l1 l2 l3 H
      exact law13_ValidRuns.L2_of (br_false (decide_eq_false (by omega)) (last lk (by omega) H))
    | succ k ih =>
      intro i s r0 v r h' hi lk ha l1 l2 l3 H
      refine law13_ValidRuns.L2_of (br_true (decide_eq_true (by omega)) ?_)
      refine idxf E_sl_haversacklaw13_Op (φ := opV) (l := l) (x := l[i]) (g _ H.tl.tl) opV_len (by decide) (by omega) (by omega) (by simp) fun t ht => ⟨_, _, _, _, _, _, _, _, _, _, ht, ?_⟩
      refine step_hs (o := l[i]) lk ⟨by omega, by omega, by omega⟩ (hw _ (List.getElem_mem _)).ok H fun h2 v' r' lk' ha' m1 m2 m3 H2 => ⟨_, rfl, br_false rfl ?_⟩
      refine At_hs H2 ⟨_, rfl, ?_⟩
      dsimp only
      rw [ha', ha, bne_self_eq_false]
      refine law13_ValidRuns.J1_of (br_false rfl ?_)
      rw [i1 (i := i) (by omega)]
      exact ih (i + 1) (by omega) lk' (ha'.trans ha) (by omega) (by omega) (by omega) H2
  have one : ∀ (k i : Nat), k + i = n → law13_ValidRuns.L1 at_ a n c (i : Int) (law13_ValidRuns.K1 Q) h := by
    intro k
    induction k with
    | zero =>
      intro i hi
      refine law13_ValidRuns.L1_of (br_false (decide_eq_false (by omega)) (law13_ValidRuns.L1_X0 ?_))
      refine New_hs H fun h1 s H1 => ⟨_, rfl, br_false rfl ?_⟩
      refine two n 0 (by omega) (Lk.new at_) rfl (by simp) (by simp) (by simp) ?_
      have H2 := ((((H1.own_nil T_api_Write 5).own_nil T_api_Box 2).own_nil T_api_Key 3).new (t := T_haversackref13_Set) (cs := #[.int .i64 at_, .slice none 0 0, .slice none 0 0, .slice none 0 0]) (xs := [.int .i64 at_, .slice none 0 0, .slice none 0 0, .slice none 0 0]))
      exact (refA_open.2 ⟨none, 0, none, 0, none, 0, H2⟩).m1
    | succ k ih =>
      intro i hi
      refine law13_ValidRuns.L1_of (br_true (decide_eq_true (by omega)) ?_)
      refine idxf E_sl_haversacklaw13_Op (φ := opV) (l := l) (x := l[i]) (g _ H) opV_len (by decide) (by omega) (by omega) (by simp) fun t ht => ⟨_, _, _, ht.2.2.2.2.2.2.2.1, ?_⟩
      refine (br_iff _ _ _).2 ⟨fun e => law13_ValidRuns.L1_Xret (fin H), fun e => ?_⟩
      dsimp only
      rw [i1 (i := i) (by omega)]
      exact ih (i + 1) (by omega)
  exact one n 0 (by omega)
end Go.Proofs.Ytcdifhgocjjbpaa
