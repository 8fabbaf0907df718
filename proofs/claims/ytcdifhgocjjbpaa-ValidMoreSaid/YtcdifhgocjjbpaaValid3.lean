/- Contracts of package valid: Check. -/
import Derived.Test.YtcdifhgocjjbpaaValid2
set_option maxRecDepth 20000
set_option linter.unusedVariables false
set_option linter.unusedSimpArgs false
namespace Go.Proofs.Ytcdifhgocjjbpaa
open Go Go.HW
variable {h : Heap} {L : List Assn} {Q : Value → Heap → Prop}
def ordd : List Cm → Int → Bool
  | [], _ => true
  | c :: l, last => if c.at_ ≤ last then false else ordd l c.at_
def idxI (o : Option Nat) : Int := match o with | some i => i | none => -1
def VS.check (v : VS) (cs : List Cm) : Int × Int := if ordd cs 0 = false then (-1, 130) else if v.st.length = 0 then (-1, 0) else (idxI (cs.findIdx? v.clash), 0)
theorem cmV_len (x : Cm) : (cmV x).length = 2 := rfl
theorem idx_drop {α : Type} {p : α → Bool} {l : List α} {i : Nat} (hi : i < l.length) (h0 : (l.take i).findIdx? p = none) : l.findIdx? p = if p l[i] = true then some i else ((l.drop (i + 1)).findIdx? p).map (· + (i + 1)) := by
  conv => lhs; rw [← List.take_append_drop i l]
  rw [List.findIdx?_append, h0, List.drop_eq_getElem_cons hi, List.findIdx?_cons]
  simp only [Option.none_or, List.length_take, Nat.min_eq_left (Nat.le_of_lt hi)]
  split
  · simp
  · cases (l.drop (i + 1)).findIdx? p <;> simp; omega
theorem Check_hs {s n c : Nat} {a : OA} {v : VS} {cs : List Cm} (hv : VI v) (hr : Gv L a (cs.flatMap cmV)) (hn : cs.length = n) (hlt : n < 2 ^ 60) (hx : ∀ x ∈ cs, CmOk L x) (H : Hs h (setA s v :: L)) (kk : ∀ h', Hs h' (setA s v :: L) → Q (.tuple #[.int .i64 (v.check cs).1, .int .i64 (v.check cs).2]) h') :
    SpecH PP F_valid_Set_Check [.pointer (some ⟨s, 0, none⟩), .slice a n c] h Q := by
  refine valid_Set_Check.door (br_false rfl ?_)
  unfold VS.check at kk
  have last : ∀ {h : Heap}, ordd cs 0 = true → Hs h (setA s v :: L) → valid_Set_Check.K1 Q (.exit 0) (valid_Set_Check.X0 (some ⟨s, 0, none⟩) a n c) h := by
    intro h ho H
    rw [if_neg (by rw [ho]; simp)] at kk
    obtain ⟨r1, r2, r3, H0⟩ := setA_open.1 H
    refine valid_Set_Check.L1_X0 ?_
    dsimp only [nilc]
    refine ⟨_, H0.cell (off := 3) rfl, ?_⟩
    refine H0.m3.mlen (t := T_map_api_Key_api_Write) U_map_api_Key_api_Write ⟨_, rfl, (br_iff _ _ _).2 ⟨fun e => ?_, fun e => ?_⟩⟩
    · rw [if_pos (by have := beq_iff_eq.1 e; omega)] at kk; exact kk h H
    rw [if_neg (by have := beq_eq_false_iff_ne.1 e; omega)] at kk
    refine slices_IndexFunc_api_Commit_api_Commit.door ?_
    have fin : ∀ {i : Int} {h' : Heap}, i = idxI (cs.findIdx? v.clash) → Hs h' (setA s v :: L) → ∃ t33, Value.int .i64 i = .int .i64 t33 ∧ Q (.tuple #[.int .i64 t33, .int .i64 0]) h' := by
      rintro _ h' rfl H
      exact ⟨_, rfl, kk h' H⟩
    have go : ∀ (r i : Nat) {h : Heap}, r + i = n → (cs.take i).findIdx? v.clash = none → Hs h (setA s v :: L) →
        slices_IndexFunc_api_Commit_api_Commit.L1 a n c (.func (.func F_valid_Set_Clash) #[.pointer (some ⟨s, 0, none⟩)] #[]) (n : Int) (i : Int) (slices_IndexFunc_api_Commit_api_Commit.K1 (fun v_1 h2 => ∃ t33, v_1 = Value.int .i64 t33 ∧ Q (.tuple #[.int .i64 t33, .int .i64 0]) h2)) h := by
      intro r
      induction r with
      | zero =>
        intro i h hi h0 H
        refine slices_IndexFunc_api_Commit_api_Commit.L1_of (br_false (decide_eq_false (by omega)) (slices_IndexFunc_api_Commit_api_Commit.L1_X0 (fin ?_ H)))
        rw [List.take_of_length_le (by omega)] at h0
        rw [h0]; rfl
      | succ r ih =>
        intro i h hi h0 H
        refine slices_IndexFunc_api_Commit_api_Commit.L1_of (br_true (decide_eq_true (by omega)) ?_)
        have hd := idx_drop (p := v.clash) (l := cs) (i := i) (by omega) h0
        refine idxf E_sl_api_Commit (φ := cmV) (l := cs) (x := cs[i]) (hr _ H.tl) cmV_len (by decide) (by omega) (by omega) (by simp) fun t ht => ⟨_, _, _, _, ht, ?_⟩
        refine callV_fn (by kernel_rfl) ?_
        show SpecH PP F_valid_Set_Clash [_, _] h _
        refine Clash_hs (x := cs[i]) hv (hx _ (List.getElem_mem _)) H fun h2 H2 => ⟨_, rfl, (br_iff _ _ _).2 ⟨fun e2 => slices_IndexFunc_api_Commit_api_Commit.L1_Xret (fin ?_ H2), fun e2 => ?_⟩⟩
        · rw [hd, if_pos e2]; rfl
        · dsimp only
          rw [show IntKind.i64.wrap ((i : Int) + 1) = ((i + 1 : Nat) : Int) by rw [wrap_i64_z (by omega) (by omega)]; omega]
          refine ih (i + 1) (by omega) ?_ H2
          rw [List.take_succ_eq_append_getElem (by omega), List.findIdx?_append, h0]
          simp [e2]
    exact go n 0 (by omega) rfl H
  have go : ∀ (r i : Nat) (la : Int) {h : Heap}, r + i = n → ordd (cs.drop i) la = ordd cs 0 → Hs h (setA s v :: L) → valid_Set_Check.L1 (some ⟨s, 0, none⟩) a n c la a n c (n : Int) (i : Int) (valid_Set_Check.K1 Q) h := by
    intro r
    induction r with
    | zero =>
      intro i la h hi ho H
      rw [List.drop_of_length_le (by omega)] at ho
      exact valid_Set_Check.L1_of (br_false (decide_eq_false (by omega)) (last ho.symm H))
    | succ r ih =>
      intro i la h hi ho H
      refine valid_Set_Check.L1_of (br_true (decide_eq_true (by omega)) ?_)
      rw [List.drop_eq_getElem_cons (by omega), ordd] at ho
      refine idxf E_sl_api_Commit (φ := cmV) (l := cs) (x := cs[i]) (hr _ H.tl) cmV_len (by decide) (by omega) (by omega) (by simp) fun t ht => ⟨_, _, _, _, ht, ?_⟩
      refine Hs.wrs (b := Array.size h) (xs := [.int .i64 0, .slice none 0 0]) H.new (fun h3 H3 => ⟨_, H3.cell (off := 0) rfl, ?_⟩)
      refine (br_iff _ _ _).2 ⟨fun e => valid_Set_Check.L1_Xret ?_, fun e => ⟨_, H3.cell (off := 0) rfl, ?_⟩⟩
      · rw [if_pos (of_decide_eq_true e)] at ho
        rw [if_pos ho.symm] at kk
        exact kk h3 H3.tl
      · rw [if_neg (of_decide_eq_false e)] at ho
        dsimp only
        rw [show IntKind.i64.wrap ((i : Int) + 1) = ((i + 1 : Nat) : Int) by rw [wrap_i64_z (by omega) (by omega)]; omega]
        exact ih (i + 1) _ (by omega) ho H3.tl
  exact go n 0 0 (by omega) rfl H
end Go.Proofs.Ytcdifhgocjjbpaa
