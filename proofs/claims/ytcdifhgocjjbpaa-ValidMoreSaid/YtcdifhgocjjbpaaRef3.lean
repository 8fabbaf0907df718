/- The document's set: Own, Stage. -/
import Derived.Test.YtcdifhgocjjbpaaRef2
import Derived.Test.YtcdifhgocjjbpaaHwSl2
set_option maxRecDepth 20000
set_option linter.unusedVariables false
set_option linter.unusedSimpArgs false
namespace Go.Proofs.Ytcdifhgocjjbpaa
open Go Go.HW
variable {h : Heap} {L : List Assn} {Q : Value → Heap → Prop}
def RS.own (v : RS) (k : Key) : Wr × Bool := match v.st.find? (fun w => decide (w.k = k)) with | some w => (w, true) | none => (noW, false)
theorem ROwn_hs {s : Nat} {v : RS} {k : Key} (hv : RB v) (H : Hs h (refA s v :: L)) (kk : ∀ h', Hs h' (refA s v :: L) → Q (.tuple #[wrA (v.own k).1, .bool (v.own k).2]) h') : SpecH PP F_ref13_Set_Own [.pointer (some ⟨s, 0, none⟩), keyA k] h Q := by
  refine ref13_Set_Own.door ?_
  dsimp only
  have H1 := H.new (t := T_api_Key) (cs := (keyV k).toArray) (xs := keyV k)
  have H2 := H1.new (t := T_api_Write) (cs := (wrV noW).toArray) (xs := wrV noW)
  have h3 := hv.st
  unfold RS.own at kk
  have go : ∀ (r i : Nat) {hh : Heap} {k3 t4 : Nat}, r + i = v.st.length → (v.st.drop i).find? (fun w => decide (w.k = k)) = v.st.find? (fun w => decide (w.k = k)) → Hs hh (pt t4 T_api_Write (wrV noW) :: pt k3 T_api_Key (keyV k) :: refA s v :: L) →
      ref13_Set_Own.L1 (some ⟨s, 0, none⟩) ⟨k3, 0, none⟩ ⟨t4, 0, none⟩ (i : Int) (ref13_Set_Own.K1 Q) hh := by
    intro r
    induction r with
    | zero =>
      intro i hh k3 t4 hi he H
      obtain ⟨a1, c1, a2, c2, a3, c3, H0⟩ := refA_open.1 H.m2
      rw [List.drop_of_length_le (by omega)] at he
      rw [← he] at kk
      refine ref13_Set_Own.L1_of ?_
      dsimp only [nilc]
      refine ⟨_, _, _, H0.cell (off := 3) rfl, br_false (decide_eq_false (by omega)) (ref13_Set_Own.L1_X0 ?_)⟩
      refine H.wrs (xs := wrV noW) fun h2 H2 => ⟨_, _, _, _, _, H2.rdc0, kk h2 H2.tl.tl⟩
    | succ r ih =>
      intro i hh k3 t4 hi he H
      obtain ⟨a1, c1, a2, c2, a3, c3, H0⟩ := refA_open.1 H.m2
      rw [List.drop_eq_getElem_cons (by omega), List.find?_cons] at he
      refine ref13_Set_Own.L1_of ?_
      dsimp only [nilc]
      refine ⟨_, _, _, H0.cell (off := 3) rfl, br_true (decide_eq_true (by omega)) ⟨_, _, _, H0.cell (off := 3) rfl, ?_⟩⟩
      refine idxf E_sl_api_Write (φ := wrV) (l := v.st) (x := v.st[i]) (H0.m3.rd) wrV_len (by decide) (by omega) (by omega) (by simp) fun t ht => ⟨_, _, _, ⟨ht.1, ht.2.1, ht.2.2.1, trivial⟩, _, _, _, H.m1.rdc0, ?_⟩
      rw [key_dec v.st[i].k k]
      refine (br_iff _ _ _).2 ⟨fun e => ⟨_, _, _, H0.cell (off := 3) rfl, ?_⟩, fun e => ?_⟩
      · rw [e] at he
        rw [← he] at kk
        refine idxf E_sl_api_Write (φ := wrV) (l := v.st) (x := v.st[i]) (H0.m3.rd) wrV_len (by decide) (by omega) (by omega) (by simp) fun t ht => ⟨_, _, _, _, _, ht, ?_⟩
        refine H.wrs (xs := wrV noW) fun h2 H2 => ref13_Set_Own.L1_Xret ⟨_, _, _, _, _, H2.rdc0, kk h2 H2.tl.tl⟩
      · rw [e] at he
        rw [i1 (i := i) (by omega)]
        exact ih (i + 1) (by omega) he H
  exact go v.st.length 0 (by omega) rfl H2
def stg (w : Wr) : List Wr → List Wr
  | [] => [w]
  | x :: l => if klt x.k w.k = true then x :: stg w l else if x.k = w.k then w :: l else w :: x :: l
def RS.stage (v : RS) (w : Wr) : RS := { v with st := stg w v.st }
theorem stg_len (w : Wr) : ∀ l : List Wr, (stg w l).length ≤ l.length + 1
  | [] => by simp [stg]
  | x :: l => by
    have := stg_len w l
    rw [stg]; split
    · simp only [List.length_cons]; omega
    · split <;> simp
def isK (o : Option Wr) (k : Key) : Bool := match o with | some x => decide (x.k = k) | none => false
/-- At the first place that is not before. -/
theorem stg_at {w : Wr} : ∀ {l : List Wr} {i : Nat}, (∀ j (hj : j < l.length), j < i → klt l[j].k w.k = true) → i ≤ l.length → (∀ hi : i < l.length, klt l[i].k w.k = false) →
    stg w l = l.take i ++ [w] ++ (if isK l[i]? w.k = true then l.drop (i + 1) else l.drop i)
  | [], i, _, hi, _ => by have : i = 0 := by simpa using hi
                          subst this; simp [stg, isK]
  | x :: l, 0, h1, hi, h2 => by
    have := h2 (by simp)
    simp only [List.getElem_cons_zero] at this
    rw [stg, if_neg (by rw [this]; simp)]
    by_cases e : x.k = w.k
    · rw [if_pos e]; simp [e, isK]
    · rw [if_neg e]; simp [e, isK]
  | x :: l, i + 1, h1, hi, h2 => by
    have h0 := h1 0 (by simp) (by omega)
    simp only [List.getElem_cons_zero] at h0
    have ih := stg_at (w := w) (l := l) (i := i) (fun j hj hji => by have := h1 (j + 1) (by simpa using hj) (by omega); simpa using this) (by simpa using hi) (fun hi2 => by have := h2 (by simpa using hi2); simpa using this)
    rw [stg, if_pos h0, ih]
    simp
theorem wrs_one (l : List Wr) : ∀ v ∈ l.flatMap wrV, oneC v = true := by
  intro v hv; obtain ⟨t, _, ht⟩ := List.mem_flatMap.1 hv
  simp only [wrV, List.mem_cons, List.not_mem_nil, or_false] at ht
  rcases ht with rfl | rfl | rfl | rfl | rfl <;> rfl
theorem wrs_cut {l : List Wr} (i j : Nat) : ((l.flatMap wrV).drop (i * 5)).take (j * 5) = ((l.drop i).take j).flatMap wrV := by
  have d : ∀ (l : List Wr) (i : Nat), (l.flatMap wrV).drop (i * 5) = (l.drop i).flatMap wrV := by
    intro l
    induction l with
    | nil => intro i; simp
    | cons x l ih => intro i; cases i with
      | zero => simp
      | succ i => rw [List.flatMap_cons, show (i + 1) * 5 = (wrV x).length + i * 5 by rw [wrV_len]; omega, List.drop_append, List.drop_succ_cons]; simpa [List.drop_eq_nil_of_le] using ih i
  have t : ∀ (l : List Wr) (i : Nat), (l.flatMap wrV).take (i * 5) = (l.take i).flatMap wrV := by
    intro l
    induction l with
    | nil => intro i; simp
    | cons x l ih => intro i; cases i with
      | zero => simp
      | succ i => rw [List.flatMap_cons, show (i + 1) * 5 = (wrV x).length + i * 5 by rw [wrV_len]; omega, List.take_append, List.take_succ_cons, List.flatMap_cons, ← ih i]; simp [List.take_of_length_le]
  rw [d, t]
end Go.Proofs.Ytcdifhgocjjbpaa
