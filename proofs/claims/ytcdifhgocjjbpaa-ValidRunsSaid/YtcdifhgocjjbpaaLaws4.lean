/- The law Runs: a step. -/
import Derived.Test.YtcdifhgocjjbpaaLaws3
import Derived.Test.YtcdifhgocjjbpaaHwSl2
set_option maxRecDepth 20000
set_option linter.unusedVariables false
set_option linter.unusedSimpArgs false
namespace Go.Proofs.Ytcdifhgocjjbpaa
open Go Go.HW
variable {h : Heap} {L : List Assn} {Q : Value → Heap → Prop}
structure OpV where
  kind : Int
  k : Key
  b : Bx
  d : ByteArray
  a : OA
  n : Nat
  c : Nat
  cs : List Cm
def opV (o : OpV) : List Value := [.int .i64 o.kind, .string o.k.t, .string o.k.a, .string o.k.e, .string o.b.t, .string o.b.a, .string o.d, .slice o.a o.n o.c]
structure OpOk (L : List Assn) (o : OpV) : Prop where
  rd : Gv L o.a (o.cs.flatMap cmV)
  n : o.cs.length = o.n
  lt : o.n < 2 ^ 60
  cm : ∀ x ∈ o.cs, CmOk L x
theorem OpOk.cons {L : List Assn} {A : Assn} {o : OpV} (h : OpOk L o) : OpOk (A :: L) o := ⟨h.rd.cons, h.n, h.lt, fun x hx => (h.cm x hx).cons⟩
def gone : Wr := ⟨⟨⟨#[]⟩, ⟨#[]⟩, ⟨#[]⟩⟩, false, ⟨#[103, 111, 110, 101]⟩⟩
theorem step_hs {s r0 : Nat} {v : VS} {r : RS} {o : OpV} (lk : Lk v r) (hb : RB r) (ok : OpOk L o) (H : Hs h (setA s v :: refA r0 r :: L))
    (kk : ∀ h' v' r', Lk v' r' → v'.at_ = v.at_ → r'.rd.length ≤ r.rd.length + 1 → r'.ls.length ≤ r.ls.length + 1 → r'.st.length ≤ r.st.length + 1 → Hs h' (setA s v' :: refA r0 r' :: L) → Q (.bool true) h') :
    SpecH PP F_law13_step [.pointer (some ⟨s, 0, none⟩), .pointer (some ⟨r0, 0, none⟩), .agg (opV o).toArray] h Q := by
  have b1 := hb.rd
  have b2 := hb.ls
  have b3 := hb.st
  refine law13_step.door ?_
  dsimp only
  have H1 := H.new (t := T_haversacklaw13_Op) (cs := (opV o).toArray) (xs := opV o)
  generalize Array.size h = o5 at H1 ⊢
  have same : ∀ {h' : Heap}, Hs h' (setA s v :: refA r0 r :: L) → Q (.bool true) h' := fun H => kk _ v r lk rfl (by omega) (by omega) (by omega) H
  refine ⟨_, H1.cell (off := 0) rfl, (br_iff _ _ _).2 ⟨fun e => ?_, fun e1 => (br_iff _ _ _).2 ⟨fun e => ?_, fun e2 => (br_iff _ _ _).2 ⟨fun e => ?_, fun e3 => (br_iff _ _ _).2 ⟨fun e => ?_, fun e4 => (br_iff _ _ _).2 ⟨fun e => ?_, fun e5 => (br_iff _ _ _).2 ⟨fun e => ?_, fun e6 => ?_⟩⟩⟩⟩⟩⟩⟩
  · refine ⟨_, _, _, H1.rdo 1 rfl, Read_hs (k := o.k) H1.m1 fun h2 H2 => ⟨rfl, ?_⟩⟩
    dsimp only [nilc]
    obtain ⟨a1, c1, a2, c2, a3, c3, H3⟩ := refA_open.1 H2.m2
    refine ⟨_, _, _, H3.cell (off := 1) rfl, _, _, _, H3.m5.rdo 1 rfl, ?_⟩
    refine H3.m1.app_vals E_sl_api_Key (ys := keyV o.k) (m := 1) rfl rfl (by intro x hx; simp [keyV] at hx; rcases hx with rfl | rfl | rfl <;> rfl) (fun h4 a' c' H4 => ⟨_, _, _, rfl, ?_⟩) (by omega) (by omega)
    refine H4.m1.sto (off := 1) (by simp) fun h5 H5 => ?_
    have q1 : (r.rd ++ [o.k]).length = r.rd.length + 1 := by simp
    have q2 : (r.rd ++ [o.k]).flatMap keyV = r.rd.flatMap keyV ++ keyV o.k := by simp
    refine kk h5 _ { r with rd := r.rd ++ [o.k] } (lk.read o.k) rfl (by simp) (by simp) (by simp) ?_
    exact (refA_open.2 ⟨a', c', a2, c2, a3, c3, by dsimp only; rw [q1, q2]; exact H5⟩).m1.m2.tl
  · refine ⟨_, _, H1.rdo 4 rfl, List_hs (b := o.b) H1.m1 fun h2 H2 => ⟨rfl, ?_⟩⟩
    dsimp only [nilc]
    obtain ⟨a1, c1, a2, c2, a3, c3, H3⟩ := refA_open.1 H2.m2
    refine ⟨_, _, _, H3.cell (off := 2) rfl, _, _, H3.m5.rdo 4 rfl, ?_⟩
    refine H3.m2.app_vals E_sl_api_Box (ys := bxV o.b) (m := 1) rfl rfl (by intro x hx; simp [bxV] at hx; rcases hx with rfl | rfl <;> rfl) (fun h4 a' c' H4 => ⟨_, _, _, rfl, ?_⟩) (by omega) (by omega)
    refine H4.m1.sto (off := 2) (by simp) fun h5 H5 => ?_
    have q1 : (r.ls ++ [o.b]).length = r.ls.length + 1 := by simp
    have q2 : (r.ls ++ [o.b]).flatMap bxV = r.ls.flatMap bxV ++ bxV o.b := by simp
    refine kk h5 _ { r with ls := r.ls ++ [o.b] } (lk.list o.b) rfl (by simp) (by simp) (by simp) ?_
    exact (refA_open.2 ⟨a1, c1, a', c', a3, c3, by dsimp only; rw [q1, q2]; exact H5.m2.m1⟩).m1.m2.tl
  · refine ⟨_, _, _, H1.rdo 1 rfl, _, H1.cell (off := 6) rfl, Put_hs (k := o.k) H1.m1 fun h2 H2 => ⟨rfl, _, _, _, H2.m1.rdo 1 rfl, _, H2.m1.cell (off := 6) rfl, ?_⟩⟩
    refine Stage_hs (w := ⟨o.k, true, o.d⟩) hb H2.m2 fun h3 H3 => ⟨rfl, ?_⟩
    exact kk h3 _ _ (lk.put _) rfl (by simp [RS.stage]) (by simp [RS.stage]) (stg_len _ _) H3.m1.m2.tl
  · refine ⟨_, _, _, H1.rdo 1 rfl, Delete_hs (k := o.k) H1.m1 fun h2 H2 => ⟨rfl, _, _, _, H2.m1.rdo 1 rfl, ?_⟩⟩
    refine Stage_hs (w := ⟨o.k, false, ⟨#[]⟩⟩) hb H2.m2 fun h3 H3 => ⟨rfl, ?_⟩
    exact kk h3 _ _ (lk.put _) rfl (by simp [RS.stage]) (by simp [RS.stage]) (stg_len _ _) H3.m1.m2.tl
  · refine ⟨_, _, _, H1.rdo 1 rfl, Own_hs (k := o.k) H1.m1 fun h2 H2 => ?_⟩
    rw [lk.own o.k]
    refine ⟨_, _, _, _, _, _, rfl, ?_⟩
    refine Hs.wrs (xs := wrV noW) H2.new fun h3 H3 => ⟨_, _, _, H3.m2.rdo 1 rfl, ROwn_hs (k := o.k) hb H3.m3 fun h4 H4 => ⟨_, _, _, _, _, _, rfl, ?_⟩⟩
    refine Hs.wrs (xs := wrV noW) H4.new fun h5 H5 => ⟨_, _, _, _, _, H5.m2.rdc0, _, _, _, _, _, H5.rdc0, br_true (by simp) ?_⟩
    rw [beq_self_eq_true]
    exact same H5.tl.m1.tl.m1.m2.tl
  · refine ⟨_, _, _, H1.cell (off := 7) rfl, Check_hs (cs := o.cs) lk.vi ok.rd.cons.cons ok.n ok.lt (fun x hx => (ok.cm x hx).cons.cons) H1.m1 fun h2 H2 => ?_⟩
    rw [lk.check]
    refine ⟨_, _, rfl, _, _, _, H2.m1.cell (off := 7) rfl, RCheck_hs (cs := o.cs) hb ok.rd.cons.cons ok.n ok.lt (fun x hx => (ok.cm x hx).cons.cons) H2.m2 fun h3 H3 => ⟨_, _, rfl, ?_⟩⟩
    rw [bne_self_eq_false, bne_self_eq_false]
    refine br_false rfl (law13_step.J1_of (br_false rfl ?_))
    have hn := ok.n
    have hlt := ok.lt
    have go : ∀ (k i : Nat) {h : Heap}, k + i = o.n → Hs h (refA r0 r :: setA s v :: pt o5 T_haversacklaw13_Op (opV o) :: L) → law13_step.L2 (some ⟨s, 0, none⟩) (some ⟨r0, 0, none⟩) ⟨o5, 0, none⟩ (i : Int) (law13_step.K3 Q) h := by
      intro k
      induction k with
      | zero =>
        intro i h hi H
        exact law13_step.L2_of ⟨_, _, _, H.m2.cell (off := 7) rfl, br_false (decide_eq_false (by omega)) (law13_step.L2_X3 (same H.m1.m2.tl))⟩
      | succ k ih =>
        intro i h hi H
        have okx := ok.cm o.cs[i] (List.getElem_mem _)
        have next : ∀ {h : Heap} (b : Bool), b = false → Hs h (refA r0 r :: setA s v :: pt o5 T_haversacklaw13_Op (opV o) :: L) → law13_step.J2 (some ⟨s, 0, none⟩) (some ⟨r0, 0, none⟩) ⟨o5, 0, none⟩ (i : Int) b (law13_step.K3 Q) h := by
          intro h b hb H
          refine law13_step.J2_of (br_false hb ?_)
          dsimp only
          rw [i1 (i := i) (by omega)]
          exact ih (i + 1) (by omega) H
        have ev : (!(v.clash o.cs[i] == r.clash o.cs[i])) = false := by rw [lk.clash]; simp
        have el : ∀ {h : Heap} {R : Addr → Heap → Prop}, Hs h (refA r0 r :: setA s v :: pt o5 T_haversacklaw13_Op (opV o) :: L) → (∀ t, (∀ h', Hs h' (refA r0 r :: setA s v :: pt o5 T_haversacklaw13_Op (opV o) :: L) → rdCells h' t 0 (cmV o.cs[i])) → R t h) →
            hwp PP (Instr.indexAt T_sl_api_Commit (.slice o.a o.n o.c) (.int .i64 (i : Int))) (fun u h1 => ∃ t, u = .pointer (some t) ∧ R t h1) h := fun H K =>
          idxG E_sl_api_Commit (φ := cmV) (l := o.cs) (x := o.cs[i]) ok.rd.cons.cons.cons H cmV_len (by decide) (by omega) (by omega) (by simp) K
        have cl : ∀ {h : Heap} {Q' : Value → Heap → Prop}, Hs h (refA r0 r :: setA s v :: pt o5 T_haversacklaw13_Op (opV o) :: L) → (∀ h', Hs h' (refA r0 r :: setA s v :: pt o5 T_haversacklaw13_Op (opV o) :: L) → Q' (.bool (v.clash o.cs[i])) h') → SpecH PP F_valid_Set_Clash [.pointer (some ⟨s, 0, none⟩), .agg (cmV o.cs[i]).toArray] h Q' :=
          fun H K => Clash_hs lk.vi okx.cons.cons H.m1 fun h' H' => K h' H'.m1
        have rc : ∀ {h : Heap} {Q' : Value → Heap → Prop}, Hs h (refA r0 r :: setA s v :: pt o5 T_haversacklaw13_Op (opV o) :: L) → (∀ h', Hs h' (refA r0 r :: setA s v :: pt o5 T_haversacklaw13_Op (opV o) :: L) → Q' (.bool (r.clash o.cs[i])) h') → SpecH PP F_ref13_Set_Clash [.pointer (some ⟨r0, 0, none⟩), .agg (cmV o.cs[i]).toArray] h Q' :=
          fun H K => RClash_hs hb okx.cons.cons H fun h' H' => K h' H'
        refine law13_step.L2_of ⟨_, _, _, H.m2.cell (off := 7) rfl, br_true (decide_eq_true (by omega)) ⟨_, _, _, H.m2.cell (off := 7) rfl, el H fun t ht => ⟨_, _, _, _, ht _ H, ?_, ?_, trivial⟩⟩⟩
        · exact cl H fun h2 H2 => ⟨_, rfl, _, _, _, H2.m2.cell (off := 7) rfl, el H2 fun t2 ht2 => ⟨_, _, _, _, ht2 _ H2, rc H2 fun h3 H3 => ⟨_, rfl, next _ ev H3⟩⟩⟩
        · refine ⟨_, _, _, H.m2.cell (off := 7) rfl, el H fun t2 ht2 => ⟨?_, ⟨_, _, _, _, ht2 _ H, ?_⟩, trivial⟩⟩
          · exact cl H fun h2 H2 => ⟨_, rfl, _, _, _, _, ht2 _ H2, rc H2 fun h3 H3 => ⟨_, rfl, next _ ev H3⟩⟩
          · exact cl H fun h2 H2 => ⟨_, rfl, rc H2 fun h3 H3 => ⟨_, rfl, next _ ev H3⟩⟩
    exact go o.n 0 (by omega) H3.m1.m1
  · refine Writes_hs lk.vi (by rw [lk.len]; omega) H1.m1 fun h2 a c e p hr H2 => ?_
    obtain rfl : e = r.st := rise_uniq hr lk.rise (p.trans lk.st.symm)
    refine ⟨_, _, _, rfl, ?_⟩
    dsimp only [nilc]
    obtain ⟨a1, c1, a2, c2, a3, c3, H3⟩ := refA_open.1 H2.m3
    refine ⟨_, _, _, H3.cell (off := 3) rfl, KWrites_hs (l := r.st) Gv.own.cons.cons.cons.cons Gv.own.cons.cons.cons rfl (by omega) H3 ⟨_, rfl, ?_⟩⟩
    have go : ∀ (k i : Nat) (xs : List Wr) {h : Heap}, k + i = r.st.length → xs.length = r.st.length → Hs h (own a r.st.length c T_api_Write 5 (xs.flatMap wrV) :: pt r0 T_haversackref13_Set [.int .i64 r.at_, .slice a1 r.rd.length c1, .slice a2 r.ls.length c2, .slice a3 r.st.length c3] :: own a1 r.rd.length c1 T_api_Key 3 (r.rd.flatMap keyV) :: own a2 r.ls.length c2 T_api_Box 2 (r.ls.flatMap bxV) :: own a3 r.st.length c3 T_api_Write 5 (r.st.flatMap wrV) :: setA s v :: pt o5 T_haversacklaw13_Op (opV o) :: L) →
        law13_step.L1 a r.st.length c true (i : Int) (law13_step.K1 Q) h := by
      intro k
      induction k with
      | zero =>
        intro i xs h hi hl H
        refine law13_step.L1_of (br_false (decide_eq_false (by omega)) (law13_step.L1_X1 (same ?_)))
        exact (refA_open.2 ⟨a1, c1, a2, c2, a3, c3, H.tl⟩).m1.m2.tl
      | succ k ih =>
        intro i xs h hi hl H
        refine law13_step.L1_of (br_true (decide_eq_true (by omega)) ?_)
        refine H.idx_wrf gone E_sl_api_Write (by omega) (by omega) wrV_len (by decide) (by intro x hx; simp [wrV] at hx; rcases hx with rfl | rfl | rfl | rfl | rfl <;> rfl) fun h' H' => ?_
        dsimp only
        rw [i1 (i := i) (by omega)]
        exact ih (i + 1) _ (by omega) (by simpa using hl) H'
    exact go r.st.length 0 r.st (by omega) rfl H3.m4
end Go.Proofs.Ytcdifhgocjjbpaa
