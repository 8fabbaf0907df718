/- Contracts of package valid: Own, Clash, Check. -/
import Derived.Test.YtcdifhgocjjbpaaValid
set_option maxRecDepth 20000
set_option linter.unusedVariables false
set_option linter.unusedSimpArgs false
namespace Go.Proofs.Ytcdifhgocjjbpaa
open Go Go.HW
variable {h : Heap} {L : List Assn} {Q : Value → Heap → Prop}
def noW : Wr := ⟨⟨⟨#[]⟩, ⟨#[]⟩, ⟨#[]⟩⟩, false, ⟨#[]⟩⟩
def VS.own (v : VS) (k : Key) : Wr × Bool := match mget v.st k with | some w => (w, true) | none => (noW, false)
theorem zW : (PP.info? T_api_Write).bind (·.zero) = some (wrA noW) := by kernel_rfl
theorem zB : (PP.info? T_bool).bind (·.zero) = some (.bool false) := by kernel_rfl
theorem Own_hs {s : Nat} {v : VS} {k : Key} (H : Hs h (setA s v :: L)) (kk : ∀ h', Hs h' (setA s v :: L) → Q (.tuple #[wrA (v.own k).1, .bool (v.own k).2]) h') : SpecH PP F_valid_Set_Own [.pointer (some ⟨s, 0, none⟩), keyA k] h Q := by
  obtain ⟨r1, r2, r3, H⟩ := setA_open.1 H
  refine valid_Set_Own.door ?_
  dsimp only
  have H1 := H.new (t := T_api_Key) (cs := (keyV k).toArray) (xs := keyV k)
  have H2 := H1.new (t := T_api_Write) (cs := (wrV noW).toArray) (xs := wrV noW)
  have key : (match mget v.st k with | some w => Value.tuple #[wrA w, .bool true] | none => .tuple #[wrA noW, .bool false]) = .tuple #[wrA (v.own k).1, .bool (v.own k).2] := by
    unfold VS.own; cases mget v.st k <;> rfl
  have J : ∀ {h : Heap} {w6 t4 : Nat}, Hs h (pt w6 T_api_Write (wrV (v.own k).1) :: pt t4 T_api_Write (wrV noW) :: setA s v :: L) → valid_Set_Own.J1 ⟨t4, 0, none⟩ ⟨w6, 0, none⟩ (v.own k).2 Q h := by
    intro h w6 t4 H
    refine valid_Set_Own.J1_of ⟨_, _, _, _, _, H.rdc0, ?_⟩
    refine H.m1.wrs (fun h2 H2 => ⟨_, _, _, _, _, H2.rdc0, kk h2 H2.tl.tl⟩)
  refine br_false rfl ⟨_, H2.m2.cell (off := 3) rfl, _, _, _, H2.m1.rdc0, ?_, ?_, trivial⟩
  · refine H2.m5.lookup2 (t := T_map_api_Key_api_Write) U_map_api_Key_api_Write KeyK zW k ?_
    refine ⟨(v.own k).1.k.t, (v.own k).1.k.a, (v.own k).1.k.e, (v.own k).1.there, (v.own k).1.data, (v.own k).2, by unfold VS.own; cases mget v.st k <;> rfl, ?_⟩
    refine Hs.wrs (xs := wrV noW) H2.new (fun h3 H3 => J (t4 := Array.size (Array.push h (.cells (keyV k).toArray T_api_Key (0, 0)))) ?_)
    exact (setA_open.2 ⟨r1, r2, r3, H3.m6.m6.m6.m6⟩).m3.tl.m2.m2
  · have H3 := H2.new (t := T_api_Write) (cs := (wrV noW).toArray) (xs := wrV noW)
    refine H3.m6.lookup2 (t := T_map_api_Key_api_Write) U_map_api_Key_api_Write KeyK zW k ?_
    refine ⟨(v.own k).1.k.t, (v.own k).1.k.a, (v.own k).1.k.e, (v.own k).1.there, (v.own k).1.data, (v.own k).2, by unfold VS.own; cases mget v.st k <;> rfl, ?_⟩
    refine H3.wrs (fun h4 H4 => J (t4 := Array.size (Array.push h (.cells (keyV k).toArray T_api_Key (0, 0)))) ?_)
    exact (setA_open.2 ⟨r1, r2, r3, H4.m6.m6.m6.m6⟩).m3.tl.m2.m2
/-! ### Clash, Check -/
structure Cm where
  at_ : Int
  a : OA
  n : Nat
  c : Nat
  ws : List Wr
def cmV (x : Cm) : List Value := [.int .i64 x.at_, .slice x.a x.n x.c]
/-- A commit's writes lie where its slice says. -/
structure CmOk (L : List Assn) (x : Cm) : Prop where
  rd : Gv L x.a (x.ws.flatMap wrV)
  n : x.ws.length = x.n
  lt : x.n < 2 ^ 60
theorem CmOk.cons {L : List Assn} {A : Assn} {x : Cm} (h : CmOk L x) : CmOk (A :: L) x := ⟨h.rd.cons, h.n, h.lt⟩
def VS.meets (v : VS) (k : Key) : Bool := (mget v.rd k).isSome || (mget v.ls ⟨k.t, k.a⟩).isSome
def VS.clash (v : VS) (x : Cm) : Bool := decide (x.at_ > v.at_) && x.ws.any fun w => v.meets w.k
theorem look_true {α : Type} [DecidableEq α] {l : List (α × Bool)} (hl : ∀ x ∈ l, x.2 = true) (k : α) : (match mget l k with | some b => Value.bool b | none => .bool false) = .bool (mget l k).isSome := by
  cases e : mget l k with
  | none => rfl
  | some b => have := hl _ (mget_mem e); simp only at this; subst this; rfl
theorem Clash1_hs {s c1 : Nat} {v : VS} {w : Wr} (hv : VI v) (H : Hs h (pt c1 T_p_valid_Set [.pointer (some ⟨s, 0, none⟩)] :: setA s v :: L)) (kk : ∀ h', Hs h' (pt c1 T_p_valid_Set [.pointer (some ⟨s, 0, none⟩)] :: setA s v :: L) → Q (.bool (v.meets w.k)) h') :
    SpecH PP F_valid_Set_Clash_1 [wrA w, .pointer (some ⟨c1, 0, none⟩)] h Q := by
  obtain ⟨r1, r2, r3, H0⟩ := setA_open.1 H.m1
  refine valid_Set_Clash_1.door ?_
  dsimp only
  have H1 := H0.new (t := T_api_Write) (cs := (wrV w).toArray) (xs := wrV w)
  have back : ∀ {h' : Heap}, Hs h' (pt (Array.size h) T_api_Write (wrV w) :: pt s T_valid_Set [.int .i64 v.at_, .map (some r1), .map (some r2), .map (some r3)] :: mp keyA Value.bool r1 v.rd :: mp bxA Value.bool r2 v.ls :: mp keyA wrA r3 v.st :: pt c1 T_p_valid_Set [.pointer (some ⟨s, 0, none⟩)] :: L) → Hs h' (pt c1 T_p_valid_Set [.pointer (some ⟨s, 0, none⟩)] :: setA s v :: L) := fun H => (setA_open.2 ⟨r1, r2, r3, H.tl⟩).m1
  refine ⟨_, H1.m5.cell (off := 0) rfl, ?_⟩
  dsimp only [nilc]
  refine ⟨_, H1.m1.cell (off := 1) rfl, _, _, _, H1.rdo 0 rfl, ?_⟩
  refine H1.m2.lookup1 (t := T_map_api_Key_bool) U_map_api_Key_bool KeyK zB w.k ?_
  refine ⟨(mget v.rd w.k).isSome, by
    cases e : mget v.rd w.k with
    | none => rfl
    | some b => have := hv.rd _ (mget_mem e); simp only at this; subst this; rfl, ?_⟩
  unfold VS.meets at kk
  refine (br_iff _ _ _).2 ⟨fun e => ?_, fun e => ?_⟩
  · rw [e] at kk; exact kk _ (back H1)
  · refine ⟨_, H1.m5.cell (off := 0) rfl, ?_⟩
    dsimp only [nilc]
    refine ⟨_, H1.m1.cell (off := 2) rfl, _, H1.cell (off := 0) rfl, _, H1.cell (off := 1) rfl, ?_⟩
    refine H1.m3.lookup1 (t := T_map_api_Box_bool) U_map_api_Box_bool BoxK zB (⟨w.k.t, w.k.a⟩ : Bx) ?_
    refine ⟨(mget v.ls ⟨w.k.t, w.k.a⟩).isSome, by
      cases e : mget v.ls ⟨w.k.t, w.k.a⟩ with
      | none => rfl
      | some b => have := hv.ls _ (mget_mem e); simp only at this; subst this; rfl, ?_⟩
    rw [e] at kk; exact kk _ (back H1)
theorem Clash_hs {s : Nat} {v : VS} {x : Cm} (hv : VI v) (hx : CmOk L x) (H : Hs h (setA s v :: L)) (kk : ∀ h', Hs h' (setA s v :: L) → Q (.bool (v.clash x)) h') : SpecH PP F_valid_Set_Clash [.pointer (some ⟨s, 0, none⟩), .agg (cmV x).toArray] h Q := by
  refine valid_Set_Clash.door ?_
  dsimp only
  have H1 := H.new (t := T_p_valid_Set) (cs := #[.pointer (some ⟨s, 0, none⟩)]) (xs := [.pointer (some ⟨s, 0, none⟩)])
  have H2 := H1.new (t := T_api_Commit) (cs := (cmV x).toArray) (xs := cmV x)
  generalize hs2 : Array.size h = s2 at H2 ⊢
  refine ⟨_, H2.m1.cell (off := 0) rfl, br_true rfl ⟨_, H2.cell (off := 0) rfl, _, H2.m1.cell (off := 0) rfl, ?_⟩⟩
  dsimp only [nilc]
  obtain ⟨r1, r2, r3, H0⟩ := setA_open.1 H2.m2
  refine ⟨_, H0.cell (off := 0) rfl, ?_⟩
  unfold VS.clash at kk
  refine (br_iff _ _ _).2 ⟨fun e => ?_, fun e => ?_⟩
  · rw [e, Bool.true_and] at kk
    refine ⟨_, _, _, H2.cell (off := 1) rfl, ?_⟩
    refine slices_ContainsFunc_api_Write_api_Write.door (slices_IndexFunc_api_Write_api_Write.door ?_)
    have hn := hx.n
    have hlt := hx.lt
    have fin : ∀ {t : Int} {h' : Heap}, decide (t ≥ 0) = x.ws.any (fun w => v.meets w.k) → Hs h' (pt s2 T_p_valid_Set [.pointer (some ⟨s, 0, none⟩)] :: setA s v :: L) → ∃ (t7 : Int), Value.int .i64 t = .int .i64 t7 ∧ (let t8 : Bool := decide (t7 ≥ 0); ∃ t20, Value.bool t8 = .bool t20 ∧ Q (.bool t20) h') := by
      intro t h' e H
      refine ⟨_, rfl, _, rfl, ?_⟩
      rw [e]; exact kk h' H.tl
    have go : ∀ (r i : Nat) {h : Heap}, r + i = x.n → (x.ws.drop i).any (fun w => v.meets w.k) = x.ws.any (fun w => v.meets w.k) → Hs h (pt s2 T_p_valid_Set [.pointer (some ⟨s, 0, none⟩)] :: setA s v :: L) →
        slices_IndexFunc_api_Write_api_Write.L1 x.a x.n x.c (.func (.func F_valid_Set_Clash_1) #[] #[.pointer (some ⟨s2, 0, none⟩)]) (x.n : Int) (i : Int) (slices_IndexFunc_api_Write_api_Write.K1 (fun v h1 => ∃ (t7 : Int), v = .int .i64 t7 ∧ (let t8 : Bool := decide (t7 ≥ 0); ∃ t20, Value.bool t8 = .bool t20 ∧ Q (.bool t20) h1))) h := by
      intro r
      induction r with
      | zero =>
        intro i h hi he H
        refine slices_IndexFunc_api_Write_api_Write.L1_of (br_false (decide_eq_false (by omega)) (slices_IndexFunc_api_Write_api_Write.L1_X0 (fin ?_ H)))
        rw [← he, List.drop_of_length_le (by omega)]; rfl
      | succ r ih =>
        intro i h hi he H
        refine slices_IndexFunc_api_Write_api_Write.L1_of (br_true (decide_eq_true (by omega)) ?_)
        rw [List.drop_eq_getElem_cons (by omega), List.any_cons] at he
        refine idxf E_sl_api_Write (φ := wrV) (l := x.ws) (x := x.ws[i]) (hx.rd _ H.tl.tl) (fun _ => rfl) (by decide) (by omega) (by omega) (by simp) fun t ht => ⟨_, _, _, _, _, ht, ?_⟩
        refine callV_fn (by kernel_rfl) ?_
        show SpecH PP F_valid_Set_Clash_1 [_, _] h _
        refine Clash1_hs (w := x.ws[i]) hv H fun h2 H2 => ⟨_, rfl, (br_iff _ _ _).2 ⟨fun e2 => slices_IndexFunc_api_Write_api_Write.L1_Xret (fin ?_ H2), fun e2 => ?_⟩⟩
        · rw [← he, e2]; simp
        · dsimp only
          rw [show IntKind.i64.wrap ((i : Int) + 1) = ((i + 1 : Nat) : Int) by rw [wrap_i64_z (by omega) (by omega)]; omega]
          rw [e2, Bool.false_or] at he
          exact ih (i + 1) (by omega) he H2
    exact go x.n 0 (by omega) rfl H2.tl
  · rw [e, Bool.false_and] at kk
    exact kk _ H2.tl.tl
end Go.Proofs.Ytcdifhgocjjbpaa
