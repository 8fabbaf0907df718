/- The document's set: Before, meets, Clash, Check. -/
import Derived.Test.YtcdifhgocjjbpaaValid3
set_option maxRecDepth 20000
set_option linter.unusedVariables false
set_option linter.unusedSimpArgs false
namespace Go.Proofs.Ytcdifhgocjjbpaa
open Go Go.HW
variable {h : Heap} {L : List Assn} {Q : Value → Heap → Prop}
theorem i1 {i : Nat} (h : i < 2 ^ 62) : IntKind.i64.wrap ((i : Int) + 1) = ((i + 1 : Nat) : Int) := by rw [wrap_i64_z (by omega) (by omega)]; omega
theorem keyV_len (x : Key) : (keyV x).length = 3 := rfl
theorem bxV_len (x : Bx) : (bxV x).length = 2 := rfl
theorem wrV_len (x : Wr) : (wrV x).length = 5 := rfl
theorem Before_hs {a b : Key} (H : Hs h L) (kk : ∀ h', Hs h' L → Q (.bool (klt a b)) h') : SpecH PP F_ref13_Before [keyA a, keyA b] h Q := by
  refine ref13_Before.door ?_
  dsimp only
  have H1 := H.new (t := T_api_Key) (cs := (keyV a).toArray) (xs := keyV a)
  have H2 := H1.new (t := T_api_Key) (cs := (keyV b).toArray) (xs := keyV b)
  have fin := kk _ H2.tl.tl
  unfold klt at fin
  refine ⟨_, H2.m1.cell (off := 0) rfl, _, H2.cell (off := 0) rfl, (br_iff _ _ _).2 ⟨fun e => ?_, fun e => ?_⟩⟩
  · rw [if_pos (by simpa using e)] at fin
    exact ⟨_, H2.m1.cell (off := 0) rfl, _, H2.cell (off := 0) rfl, fin⟩
  rw [if_neg (by simpa using e)] at fin
  refine ⟨_, H2.m1.cell (off := 1) rfl, _, H2.cell (off := 1) rfl, (br_iff _ _ _).2 ⟨fun e2 => ?_, fun e2 => ?_⟩⟩
  · rw [if_pos (by simpa using e2)] at fin
    exact ⟨_, H2.m1.cell (off := 1) rfl, _, H2.cell (off := 1) rfl, fin⟩
  rw [if_neg (by simpa using e2)] at fin
  exact ⟨_, H2.m1.cell (off := 2) rfl, _, H2.cell (off := 2) rfl, fin⟩
structure RS where
  at_ : Int
  rd : List Key
  ls : List Bx
  st : List Wr
def refA (s : Nat) (v : RS) : Assn := fun m => ∃ a1 c1 a2 c2 a3 c3, Sp [pt s T_haversackref13_Set [.int .i64 v.at_, .slice a1 v.rd.length c1, .slice a2 v.ls.length c2, .slice a3 v.st.length c3], own a1 v.rd.length c1 T_api_Key 3 (v.rd.flatMap keyV), own a2 v.ls.length c2 T_api_Box 2 (v.ls.flatMap bxV), own a3 v.st.length c3 T_api_Write 5 (v.st.flatMap wrV)] m
theorem refA_open {s : Nat} {v : RS} : Hs h (refA s v :: L) ↔ ∃ a1 c1 a2 c2 a3 c3, Hs h (pt s T_haversackref13_Set [.int .i64 v.at_, .slice a1 v.rd.length c1, .slice a2 v.ls.length c2, .slice a3 v.st.length c3] :: own a1 v.rd.length c1 T_api_Key 3 (v.rd.flatMap keyV) :: own a2 v.ls.length c2 T_api_Box 2 (v.ls.flatMap bxV) :: own a3 v.st.length c3 T_api_Write 5 (v.st.flatMap wrV) :: L) := by
  unfold refA
  simp only [Hs.ex, Hs.app, List.cons_append, List.nil_append]
def RS.meets (v : RS) (k : Key) : Bool := v.rd.any (fun x => decide (x = k)) || v.ls.any (fun x => decide (x = ⟨k.t, k.a⟩))
structure RB (v : RS) : Prop where
  rd : v.rd.length < 2 ^ 20
  ls : v.ls.length < 2 ^ 20
  st : v.st.length < 2 ^ 20
theorem key_dec (x k : Key) : (decide (x.t = k.t) && (decide (x.a = k.a) && (decide (x.e = k.e) && true))) = decide (x = k) := by
  cases x; cases k; simp [Key.mk.injEq, Bool.decide_and]
theorem Rmeets_hs {s : Nat} {v : RS} {k : Key} (hv : RB v) (H : Hs h (refA s v :: L)) (kk : ∀ h', Hs h' (refA s v :: L) → Q (.bool (v.meets k)) h') : SpecH PP F_ref13_Set_meets [.pointer (some ⟨s, 0, none⟩), keyA k] h Q := by
  obtain ⟨a1, c1, a2, c2, a3, c3, H⟩ := refA_open.1 H
  refine ref13_Set_meets.door ?_
  dsimp only
  have H1 := H.new (t := T_api_Key) (cs := (keyV k).toArray) (xs := keyV k)
  have fin := fun h' H' => kk h' (refA_open.2 ⟨a1, c1, a2, c2, a3, c3, H'⟩)
  have fin := fin _ H1.tl
  have h1 := hv.rd; have h2 := hv.ls
  unfold RS.meets at fin
  have two : ∀ (r i : Nat), r + i = v.ls.length → (v.ls.drop i).any (fun x => decide (x = ⟨k.t, k.a⟩)) = v.ls.any (fun x => decide (x = ⟨k.t, k.a⟩)) → v.rd.any (fun x => decide (x = k)) = false →
      ref13_Set_meets.L2 (some ⟨s, 0, none⟩) ⟨Array.size h, 0, none⟩ (i : Int) (ref13_Set_meets.K3 Q) (Array.push h (.cells (keyV k).toArray T_api_Key (0, 0))) := by
    intro r
    induction r with
    | zero =>
      intro i hi he h0
      rw [h0, Bool.false_or, ← he, List.drop_of_length_le (by omega)] at fin
      refine ref13_Set_meets.L2_of ?_
      dsimp only [nilc]
      exact ⟨_, _, _, H1.m1.cell (off := 2) rfl, br_false (decide_eq_false (by omega)) (ref13_Set_meets.L2_X2 fin)⟩
    | succ r ih =>
      intro i hi he h0
      rw [List.drop_eq_getElem_cons (by omega), List.any_cons] at he
      refine ref13_Set_meets.L2_of ?_
      dsimp only [nilc]
      refine ⟨_, _, _, H1.m1.cell (off := 2) rfl, br_true (decide_eq_true (by omega)) ⟨_, _, _, H1.m1.cell (off := 2) rfl, ?_⟩⟩
      have J : ∀ b : Bool, decide (v.ls[i] = ⟨k.t, k.a⟩) = b → ref13_Set_meets.J1 (some ⟨s, 0, none⟩) ⟨Array.size h, 0, none⟩ (i : Int) b (ref13_Set_meets.K3 Q) (Array.push h (.cells (keyV k).toArray T_api_Key (0, 0))) := by
        intro b hb
        refine ref13_Set_meets.J1_of ((br_iff _ _ _).2 ⟨fun e => ref13_Set_meets.L2_Xret ?_, fun e => ?_⟩)
        · rw [h0, Bool.false_or, ← he, hb, e, Bool.true_or] at fin; exact fin
        · rw [hb, e, Bool.false_or] at he
          dsimp only
          rw [i1 (i := i) (by omega)]
          exact ih (i + 1) (by omega) he h0
      refine idxf E_sl_api_Box (φ := bxV) (l := v.ls) (x := v.ls[i]) (H1.m3.rd) bxV_len (by decide) (by omega) (by omega) (by simp) fun t ht => ⟨_, ht.1, _, H1.cell (off := 0) rfl, (br_iff _ _ _).2 ⟨fun e => ⟨_, _, _, H1.m1.cell (off := 2) rfl, ?_⟩, fun e => J false ?_⟩⟩
      · refine idxf E_sl_api_Box (φ := bxV) (l := v.ls) (x := v.ls[i]) (H1.m3.rd) bxV_len (by decide) (by omega) (by omega) (by simp) fun t ht => ⟨_, ht.2.1, _, H1.cell (off := 1) rfl, J _ ?_⟩
        have e := of_decide_eq_true e
        generalize v.ls[i] = z at e
        cases z; simp only at e ⊢; simp [Bx.mk.injEq, e]
      · have e := of_decide_eq_false e
        exact decide_eq_false fun q => e (by rw [q])
  have one : ∀ (r i : Nat), r + i = v.rd.length → (v.rd.drop i).any (fun x => decide (x = k)) = v.rd.any (fun x => decide (x = k)) →
      ref13_Set_meets.L1 (some ⟨s, 0, none⟩) ⟨Array.size h, 0, none⟩ (i : Int) (ref13_Set_meets.K1 Q) (Array.push h (.cells (keyV k).toArray T_api_Key (0, 0))) := by
    intro r
    induction r with
    | zero =>
      intro i hi he
      rw [List.drop_of_length_le (by omega)] at he
      refine ref13_Set_meets.L1_of ?_
      dsimp only [nilc]
      exact ⟨_, _, _, H1.m1.cell (off := 1) rfl, br_false (decide_eq_false (by omega)) (ref13_Set_meets.L1_X0 (two v.ls.length 0 (by omega) rfl he.symm))⟩
    | succ r ih =>
      intro i hi he
      rw [List.drop_eq_getElem_cons (by omega), List.any_cons] at he
      refine ref13_Set_meets.L1_of ?_
      dsimp only [nilc]
      refine ⟨_, _, _, H1.m1.cell (off := 1) rfl, br_true (decide_eq_true (by omega)) ⟨_, _, _, H1.m1.cell (off := 1) rfl, ?_⟩⟩
      refine idxf E_sl_api_Key (φ := keyV) (l := v.rd) (x := v.rd[i]) (H1.m2.rd) keyV_len (by decide) (by omega) (by omega) (by simp) fun t ht => ⟨_, _, _, ht, _, _, _, H1.rdc0, ?_⟩
      rw [key_dec]
      refine (br_iff _ _ _).2 ⟨fun e => ref13_Set_meets.L1_Xret ?_, fun e => ?_⟩
      · rw [← he, e, Bool.true_or, Bool.true_or] at fin; exact fin
      · rw [e, Bool.false_or] at he
        rw [i1 (i := i) (by omega)]
        exact ih (i + 1) (by omega) he
  exact one v.rd.length 0 (by omega) rfl
end Go.Proofs.Ytcdifhgocjjbpaa
