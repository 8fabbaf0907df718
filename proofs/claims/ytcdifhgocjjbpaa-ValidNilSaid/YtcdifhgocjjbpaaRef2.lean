/- The document's set: Clash, Check, Own. -/
import Derived.Test.YtcdifhgocjjbpaaRef
set_option maxRecDepth 20000
set_option linter.unusedVariables false
set_option linter.unusedSimpArgs false
namespace Go.Proofs.Ytcdifhgocjjbpaa
open Go Go.HW
variable {h : Heap} {L : List Assn} {Q : Value → Heap → Prop}
def RS.clash (v : RS) (x : Cm) : Bool := decide (x.at_ > v.at_) && x.ws.any fun w => v.meets w.k
theorem RClash_hs {s : Nat} {v : RS} {x : Cm} (hv : RB v) (hx : CmOk L x) (H : Hs h (refA s v :: L)) (kk : ∀ h', Hs h' (refA s v :: L) → Q (.bool (v.clash x)) h') : SpecH PP F_ref13_Set_Clash [.pointer (some ⟨s, 0, none⟩), .agg (cmV x).toArray] h Q := by
  refine ref13_Set_Clash.door ?_
  dsimp only
  have H1 := H.new (t := T_api_Commit) (cs := (cmV x).toArray) (xs := cmV x)
  have hn := hx.n
  have hlt := hx.lt
  unfold RS.clash at kk
  have go : ∀ (r i : Nat) {hh : Heap}, r + i = x.n → (decide (x.at_ > v.at_) && (x.ws.drop i).any (fun w => v.meets w.k)) = (decide (x.at_ > v.at_) && x.ws.any fun w => v.meets w.k) → Hs hh (pt (Array.size h) T_api_Commit (cmV x) :: refA s v :: L) →
      ref13_Set_Clash.L1 (some ⟨s, 0, none⟩) ⟨Array.size h, 0, none⟩ (i : Int) (ref13_Set_Clash.K1 Q) hh := by
    intro r
    induction r with
    | zero =>
      intro i hh hi he H
      refine ref13_Set_Clash.L1_of ⟨_, _, _, H.cell (off := 1) rfl, br_false (decide_eq_false (by omega)) (ref13_Set_Clash.L1_X0 ?_)⟩
      rw [List.drop_of_length_le (by omega)] at he
      have := kk hh H.tl
      rw [← he] at this
      simpa using this
    | succ r ih =>
      intro i hh hi he H
      rw [List.drop_eq_getElem_cons (by omega), List.any_cons] at he
      refine ref13_Set_Clash.L1_of ⟨_, _, _, H.cell (off := 1) rfl, br_true (decide_eq_true (by omega)) ⟨_, H.cell (off := 0) rfl, ?_⟩⟩
      dsimp only [nilc]
      obtain ⟨a1, c1, a2, c2, a3, c3, H0⟩ := refA_open.1 H.m1
      have J : ∀ (b : Bool) {h' : Heap}, (decide (x.at_ > v.at_) && v.meets x.ws[i].k) = b → Hs h' (pt (Array.size h) T_api_Commit (cmV x) :: refA s v :: L) → ref13_Set_Clash.J1 (some ⟨s, 0, none⟩) ⟨Array.size h, 0, none⟩ (i : Int) b (ref13_Set_Clash.K1 Q) h' := by
        intro b h' hb H
        rw [Bool.and_or_distrib_left] at he
        refine ref13_Set_Clash.J1_of ((br_iff _ _ _).2 ⟨fun e => ref13_Set_Clash.L1_Xret ?_, fun e => ?_⟩)
        · have := kk h' H.tl
          rw [← he, hb, e, Bool.true_or] at this; exact this
        · rw [hb, e, Bool.false_or] at he
          rw [i1 (i := i) (by omega)]
          exact ih (i + 1) (by omega) he H
      refine ⟨_, H0.cell (off := 0) rfl, (br_iff _ _ _).2 ⟨fun e => ⟨_, _, _, H.cell (off := 1) rfl, ?_⟩, fun e => J false (by rw [e]; rfl) H⟩⟩
      refine idxf E_sl_api_Write (φ := wrV) (l := x.ws) (x := x.ws[i]) (hx.rd _ H.tl.tl) wrV_len (by decide) (by omega) (by omega) (by simp) fun t ht => ⟨_, _, _, ⟨ht.1, ht.2.1, ht.2.2.1, trivial⟩, ?_⟩
      exact Rmeets_hs (k := x.ws[i].k) hv H.m1 fun h2 H2 => ⟨_, rfl, J _ (by rw [e]; rfl) H2.m1⟩
  exact go x.n 0 (by omega) rfl H1
def RS.check (v : RS) (cs : List Cm) : Int × Int := if ordd cs 0 = false then (-1, 130) else if v.st.length = 0 then (-1, 0) else (idxI (cs.findIdx? v.clash), 0)
theorem RCheck_hs {s n c : Nat} {a : OA} {v : RS} {cs : List Cm} (hv : RB v) (hr : Gv L a (cs.flatMap cmV)) (hn : cs.length = n) (hlt : n < 2 ^ 60) (hx : ∀ x ∈ cs, CmOk L x) (H : Hs h (refA s v :: L)) (kk : ∀ h', Hs h' (refA s v :: L) → Q (.tuple #[.int .i64 (v.check cs).1, .int .i64 (v.check cs).2]) h') :
    SpecH PP F_ref13_Set_Check [.pointer (some ⟨s, 0, none⟩), .slice a n c] h Q := by
  refine ref13_Set_Check.door ?_
  unfold RS.check at kk
  have two : ∀ (r i : Nat) {h : Heap}, ordd cs 0 = true → r + i = n → (v.st.length ≠ 0 → (cs.take i).findIdx? v.clash = none) → Hs h (refA s v :: L) → ref13_Set_Check.L2 (some ⟨s, 0, none⟩) a n c (i : Int) (ref13_Set_Check.K3 Q) h := by
    intro r
    induction r with
    | zero =>
      intro i h ho hi h0 H
      refine ref13_Set_Check.L2_of (br_false (decide_eq_false (by omega)) (ref13_Set_Check.L2_X2 ?_))
      have := kk h H
      rw [if_neg (by rw [ho]; simp)] at this
      by_cases e : v.st.length = 0
      · rw [if_pos e] at this; exact this
      · have h1 := h0 e
        rw [List.take_of_length_le (by omega)] at h1
        rw [if_neg e, h1] at this; exact this
    | succ r ih =>
      intro i h ho hi h0 H
      obtain ⟨a1, c1, a2, c2, a3, c3, H0⟩ := refA_open.1 H
      refine ref13_Set_Check.L2_of (br_true (decide_eq_true (by omega)) ?_)
      dsimp only [nilc]
      refine ⟨_, _, _, H0.cell (off := 3) rfl, ?_⟩
      have J : ∀ (b : Bool) {h' : Heap}, (v.st.length ≠ 0 → v.clash cs[i] = b) → (v.st.length = 0 → b = false) → Hs h' (refA s v :: L) → ref13_Set_Check.J1 (some ⟨s, 0, none⟩) a n c (i : Int) b (ref13_Set_Check.K3 Q) h' := by
        intro b h' hb hb0 H
        refine ref13_Set_Check.J1_of ((br_iff _ _ _).2 ⟨fun e => ref13_Set_Check.L2_Xret ?_, fun e => ?_⟩)
        · have hne : v.st.length ≠ 0 := fun q => by have := hb0 q; rw [e] at this; cases this
          have := kk h' H
          rw [if_neg (by rw [ho]; simp), if_neg hne, idx_drop (i := i) (by omega) (h0 hne), if_pos (by rw [hb hne, e])] at this
          exact this
        · rw [i1 (i := i) (by omega)]
          refine ih (i + 1) ho (by omega) (fun hne => ?_) H
          rw [List.take_succ_eq_append_getElem (by omega), List.findIdx?_append, h0 hne]
          simp [hb hne, e]
      refine (br_iff _ _ _).2 ⟨fun e => ?_, fun e => J false (fun hne => by have := of_decide_eq_false e; omega) (fun _ => rfl) H⟩
      have e := of_decide_eq_true e
      refine idxf E_sl_api_Commit (φ := cmV) (l := cs) (x := cs[i]) (hr _ H.tl) cmV_len (by decide) (by omega) (by omega) (by simp) fun t ht => ⟨_, _, _, _, ht, ?_⟩
      exact RClash_hs (x := cs[i]) hv (hx _ (List.getElem_mem _)) H fun h2 H2 => ⟨_, rfl, J _ (fun _ => rfl) (fun q => by omega) H2⟩
  have go : ∀ (r i : Nat) (la : Int) {h : Heap}, r + i = n → ordd (cs.drop i) la = ordd cs 0 → Hs h (refA s v :: L) → ref13_Set_Check.L1 (some ⟨s, 0, none⟩) a n c la (i : Int) (ref13_Set_Check.K1 Q) h := by
    intro r
    induction r with
    | zero =>
      intro i la h hi ho H
      rw [List.drop_of_length_le (by omega)] at ho
      exact ref13_Set_Check.L1_of (br_false (decide_eq_false (by omega)) (ref13_Set_Check.L1_X0 (two n 0 ho.symm (by omega) (fun _ => rfl) H)))
    | succ r ih =>
      intro i la h hi ho H
      refine ref13_Set_Check.L1_of (br_true (decide_eq_true (by omega)) ?_)
      rw [List.drop_eq_getElem_cons (by omega), ordd] at ho
      refine idxf E_sl_api_Commit (φ := cmV) (l := cs) (x := cs[i]) (hr _ H.tl) cmV_len (by decide) (by omega) (by omega) (by simp) fun t ht => ⟨_, ht.1, ?_⟩
      refine (br_iff _ _ _).2 ⟨fun e => ref13_Set_Check.L1_Xret ?_, fun e => ?_⟩
      · rw [if_pos (of_decide_eq_true e)] at ho
        have := kk h H
        rw [if_pos ho.symm] at this
        exact this
      · rw [if_neg (of_decide_eq_false e)] at ho
        refine idxf E_sl_api_Commit (φ := cmV) (l := cs) (x := cs[i]) (hr _ H.tl) cmV_len (by decide) (by omega) (by omega) (by simp) fun t ht => ⟨_, ht.1, ?_⟩
        dsimp only
        rw [i1 (i := i) (by omega)]
        exact ih (i + 1) _ (by omega) ho H
  exact go n 0 0 (by omega) rfl H
end Go.Proofs.Ytcdifhgocjjbpaa
