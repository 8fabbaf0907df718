/- Tokens: what they say (plain), and the walks of right, may, Check and Expand. -/
import Derived.Test.YtaolpeimlkpkbaaG
import Derived.Test.YtaolpeimlkpkbaaHwSl
set_option linter.unusedVariables false
set_option linter.unusedSimpArgs false
namespace Go.Proofs.Ytaolpeimlkpkbaa
open Go Go.HW
variable {h : Heap} {L : List Assn} {Q : Value → Heap → Prop}
structure Tok where
  lit : Nat
  len : Int
  dist : Int
  deriving DecidableEq, Inhabited
def tokV (t : Tok) : List Value := [.int .u8 t.lit, .int .i64 t.len, .int .i64 t.dist]
structure TokWf (t : Tok) : Prop where
  lit : t.lit < 256
  len : -9223372036854775808 ≤ t.len ∧ t.len ≤ 9223372036854775807
  dist : -9223372036854775808 ≤ t.dist ∧ t.dist ≤ 9223372036854775807
theorem tokV_len (t : Tok) : (tokV t).length = 3 := rfl
theorem toksV_len (l : List Tok) : (l.flatMap tokV).length = l.length * 3 := flat_len tokV_len l
theorem tokV_one (t : Tok) : ∀ v ∈ tokV t, oneC v = true := by intro v hv; simp [tokV] at hv; rcases hv with rfl | rfl | rfl <;> rfl
theorem toksV_one (l : List Tok) : ∀ v ∈ l.flatMap tokV, oneC v = true := by intro v hv; obtain ⟨t, _, ht⟩ := List.mem_flatMap.1 hv; exact tokV_one t v ht
def may (t : Tok) (said : Nat) : Bool := if t.len = 0 then decide (t.dist = 0) else decide (t.lit = 0 ∧ 3 ≤ t.len ∧ t.len ≤ 258 ∧ 1 ≤ t.dist ∧ t.dist ≤ 32768 ∧ t.dist ≤ (said : Int))
def cp (d : Nat) : Nat → List Nat → List Nat
  | 0, out => out
  | n + 1, out => cp d n (out ++ [out.getD (out.length - d) 0])
def one (t : Tok) : Nat := if t.len > 1 then t.len.toNat else 1
def step (t : Tok) (out : List Nat) : List Nat := cp t.dist.toNat t.len.toNat (if t.len = 0 then out ++ [t.lit] else out)
def exGo (lim : Nat) : List Tok → List Nat → Int × List Nat
  | [], out => (0, out)
  | t :: l, out => if may t out.length = false then (60, []) else if out.length + one t > lim then (2, []) else exGo lim l (step t out)
def ckGo : List Tok → Nat → Int
  | [], _ => 0
  | t :: l, said => if may t said = false then 60 else if said + one t > 16384 then 2 else ckGo l (said + one t)
def exAll (l : List Tok) (lim : Int) : Int × List Nat := if lim < 0 ∨ lim > 16384 then (1, []) else exGo lim.toNat l []
theorem cp_len (d : Nat) : ∀ (n : Nat) (out : List Nat), (cp d n out).length = out.length + n
  | 0, out => rfl
  | n + 1, out => by rw [cp, cp_len d n]; simp; omega
theorem may_len {t : Tok} {s : Nat} (h : may t s = true) : (t.len = 0 ∧ t.dist = 0) ∨ (t.lit = 0 ∧ 3 ≤ t.len ∧ t.len ≤ 258 ∧ 1 ≤ t.dist ∧ t.dist ≤ 32768 ∧ t.dist ≤ (s : Int)) := by
  unfold may at h
  split at h
  · exact .inl ⟨by assumption, of_decide_eq_true h⟩
  · exact .inr (of_decide_eq_true h)
theorem step_len {t : Tok} {out : List Nat} (h : may t out.length = true) : (step t out).length = out.length + one t := by
  unfold step one
  rw [cp_len]
  rcases may_len h with h | h
  · rw [if_pos h.1, if_neg (by omega)]; simp; omega
  · rw [if_neg (by omega), if_pos (by omega)]
theorem one_le {t : Tok} {s : Nat} (h : may t s = true) : 1 ≤ one t ∧ one t ≤ 258 := by
  unfold one
  rcases may_len h with h | h
  · rw [if_neg (by omega)]; omega
  · rw [if_pos (by omega)]; omega
theorem ck_ex : ∀ (l : List Tok) (out : List Nat), (exGo 16384 l out).1 = ckGo l out.length
  | [], out => rfl
  | t :: l, out => by
    simp only [exGo, ckGo]
    split
    · rfl
    · rename_i hm
      split
      · rfl
      · rw [ck_ex l, step_len (by simpa using hm)]
theorem ex_len {lim : Nat} : ∀ {l : List Tok} {out : List Nat} (h : out.length ≤ lim), (exGo lim l out).2.length ≤ lim
  | [], out, h => h
  | t :: l, out, h => by
    simp only [exGo]
    split
    · simp
    · split
      · simp
      · exact ex_len (by rw [step_len (by simp_all)]; omega)
theorem cp_lt (d : Nat) : ∀ (n : Nat) {out : List Nat}, (∀ x ∈ out, x < 256) → ∀ x ∈ cp d n out, x < 256
  | 0, out, h => h
  | n + 1, out, h => cp_lt d n fun x hx => by
    rcases List.mem_append.1 hx with hx | hx
    · exact h x hx
    · rw [List.mem_singleton.1 hx, List.getD_eq_getElem?_getD]
      cases e : out[out.length - d]? with
      | none => simp
      | some y => exact h y (List.mem_of_getElem? e)
theorem step_lt {t : Tok} {out : List Nat} (ht : TokWf t) (h : ∀ x ∈ out, x < 256) : ∀ x ∈ step t out, x < 256 := by
  unfold step
  apply cp_lt
  split
  · intro x hx
    rcases List.mem_append.1 hx with hx | hx
    · exact h x hx
    · rw [List.mem_singleton.1 hx]; exact ht.lit
  · exact h
theorem ex_lt {lim : Nat} : ∀ {l : List Tok} {out : List Nat} (hl : ∀ t ∈ l, TokWf t) (h : ∀ x ∈ out, x < 256), ∀ x ∈ (exGo lim l out).2, x < 256
  | [], out, _, h => h
  | t :: l, out, hl, h => by
    simp only [exGo]
    split
    · simp
    · split
      · simp
      · exact ex_lt (fun x hx => hl x (List.mem_cons_of_mem _ hx)) (step_lt (hl t (List.mem_cons_self ..)) h)
/-! Walks. -/
theorem right_hs {t : Tok} {said : Nat} (hs : said ≤ 20000) (H : Hs h L) (k : ∀ h', Hs h' L → Q (.bool (may t said)) h') : SpecH PP F_match_right [.agg #[.int .u8 t.lit, .int .i64 t.len, .int .i64 t.dist], .int .i64 said] h Q := by
  refine match_right.door ?_
  dsimp only
  have H1 := H.new (t := T_api_Token) (cs := #[.int .u8 (t.lit : Int), .int .i64 t.len, .int .i64 t.dist]) (xs := tokV t)
  generalize h.push (.cells #[.int .u8 (t.lit : Int), .int .i64 t.len, .int .i64 t.dist] T_api_Token (0, 0)) = h1 at H1 ⊢
  generalize h.size = x at H1 ⊢
  have c0 : cellH h1 ⟨x, 0, none⟩ = some (.int .u8 t.lit) := H1.cell (off := 0) rfl
  have c1 : cellH h1 (Addr.add ⟨x, 0, none⟩ 1) = some (.int .i64 t.len) := H1.cell (off := 1) rfl
  have c2 : cellH h1 (Addr.add ⟨x, 0, none⟩ 2) = some (.int .i64 t.dist) := H1.cell (off := 2) rfl
  have fin : ∀ b : Bool, may t said = b → Q (.bool b) h1 := fun b e => e ▸ k h1 H1.tl
  unfold may at fin
  refine ⟨_, c1, (br_iff _ _ _).2 ⟨fun e => ⟨_, c2, fin _ ?_⟩, fun e => ⟨_, c0, (br_iff _ _ _).2 ⟨fun e2 => ⟨_, c1, (br_iff _ _ _).2 ⟨fun e3 => ⟨_, c1, (br_iff _ _ _).2 ⟨fun e4 => ⟨_, c2, (br_iff _ _ _).2 ⟨fun e5 => ⟨_, c2, fin _ ?_⟩, fun e5 => fin _ ?_⟩⟩, fun e4 => fin _ ?_⟩⟩, fun e3 => fin _ ?_⟩⟩, fun e2 => fin _ ?_⟩⟩⟩⟩
  all_goals simp only [beq_iff_eq, beq_eq_false_iff_ne, decide_eq_true_eq, decide_eq_false_iff_not, ge_iff_le, ne_eq] at *
  · rw [if_pos e]; exact Bool.eq_iff_iff.2 (by simp)
  all_goals rw [if_neg e]
  · apply decide_eq_decide.2; split <;> omega
  all_goals exact decide_eq_false (by omega)
theorem may_hs {t : Tok} {said : Nat} (H : Hs h L) (k : ∀ h', Hs h' L → Q (.bool (may t said)) h') : SpecH PP F_ref06_may [.agg #[.int .u8 t.lit, .int .i64 t.len, .int .i64 t.dist], .int .i64 said] h Q := by
  refine ref06_may.door ?_
  dsimp only
  have H1 := H.new (t := T_api_Token) (cs := #[.int .u8 (t.lit : Int), .int .i64 t.len, .int .i64 t.dist]) (xs := tokV t)
  generalize h.push (.cells #[.int .u8 (t.lit : Int), .int .i64 t.len, .int .i64 t.dist] T_api_Token (0, 0)) = h1 at H1 ⊢
  generalize h.size = x at H1 ⊢
  have c0 : cellH h1 ⟨x, 0, none⟩ = some (.int .u8 t.lit) := H1.cell (off := 0) rfl
  have c1 : cellH h1 (Addr.add ⟨x, 0, none⟩ 1) = some (.int .i64 t.len) := H1.cell (off := 1) rfl
  have c2 : cellH h1 (Addr.add ⟨x, 0, none⟩ 2) = some (.int .i64 t.dist) := H1.cell (off := 2) rfl
  have fin : ∀ b : Bool, may t said = b → Q (.bool b) h1 := fun b e => e ▸ k h1 H1.tl
  unfold may at fin
  refine ⟨_, c1, (br_iff _ _ _).2 ⟨fun e => ⟨_, c2, fin _ ?_⟩, fun e => ⟨_, c0, (br_iff _ _ _).2 ⟨fun e2 => ⟨_, c1, (br_iff _ _ _).2 ⟨fun e3 => ⟨_, c1, (br_iff _ _ _).2 ⟨fun e4 => ⟨_, c2, (br_iff _ _ _).2 ⟨fun e5 => ⟨_, c2, (br_iff _ _ _).2 ⟨fun e6 => ⟨_, c2, fin _ ?_⟩, fun e6 => fin _ ?_⟩⟩, fun e5 => fin _ ?_⟩⟩, fun e4 => fin _ ?_⟩⟩, fun e3 => fin _ ?_⟩⟩, fun e2 => fin _ ?_⟩⟩⟩⟩
  all_goals simp only [beq_iff_eq, beq_eq_false_iff_ne, decide_eq_true_eq, decide_eq_false_iff_not, ge_iff_le, ne_eq] at *
  · rw [if_pos e]; exact Bool.eq_iff_iff.2 (by simp)
  all_goals rw [if_neg e]
  · apply decide_eq_decide.2; omega
  all_goals exact decide_eq_false (by omega)
theorem wrapI {x : Int} (h1 : -9223372036854775808 ≤ x) (h2 : x < 9223372036854775808) : IntKind.i64.wrap x = x := wrap_i64_z h1 h2
theorem one_eq {t : Tok} {s : Nat} (h : may t s = true) : (if t.len > 1 then t.len else 1) = (one t : Int) := by
  unfold one; split <;> omega
theorem Check_hs {a : OA} {n c : Nat} {l : List Tok} (hr : Gv L a (l.flatMap tokV)) (hn : l.length = n) (hn2 : n < 2 ^ 61) (H : Hs h L) (k : ∀ h', Hs h' L → Q (.int .i64 (ckGo l 0)) h') : SpecH PP F_match_Check [.slice a n c] h Q := by
  refine match_Check.door ?_
  have go : ∀ (r i said : Nat) {h : Heap}, r + i = n → said ≤ 16384 → ckGo (l.drop i) said = ckGo l 0 → Hs h L → match_Check.L1 (said : Int) a n c (n : Int) (i : Int) (match_Check.K1 Q) h := by
    intro r
    induction r with
    | zero =>
      intro i said h hi hs he H
      refine match_Check.L1_of ?_
      refine br_false (decide_eq_false (by omega)) (match_Check.L1_X0 ?_)
      rw [List.drop_of_length_le (by omega)] at he
      have kk := k h H
      rw [← he] at kk; exact kk
    | succ r ih =>
      intro i said h hi hs he H
      refine match_Check.L1_of ?_
      dsimp only
      refine br_true (decide_eq_true (by omega)) ?_
      rw [List.drop_eq_getElem_cons (by omega)] at he
      refine idxf E_sl_api_Token (φ := tokV) (l := l) (x := l[i]) (hr _ H) tokV_len (by omega) (by omega) (by omega) (by simp) fun t ht => ⟨_, _, _, ht, ?_⟩
      refine H.new (xs := [.int .u8 0, .int .i64 0, .int .i64 0]).wrs (fun h3 H3 => ⟨_, _, _, H3.rdc0, ?_⟩)
      generalize l[i] = t at H3 he ⊢
      refine right_hs (by omega) H3 fun h4 H4 => ⟨_, rfl, ?_⟩
      rw [ckGo] at he
      cases hm : may t said
      · rw [if_pos hm] at he
        refine br_true rfl (match_Check.L1_Xret ?_)
        have kk := k h4 H4.tl; rw [← he] at kk; exact kk
      · rw [if_neg (by simp [hm])] at he
        refine br_false rfl ⟨_, H4.cell (off := 1) rfl, ?_⟩
        rw [one_eq hm, wrapI (by omega) (by have := one_le hm; omega)]
        refine (br_iff _ _ _).2 ⟨fun e => match_Check.L1_Xret ?_, fun e => ?_⟩
        · rw [if_pos (by have := of_decide_eq_true e; omega)] at he
          have kk := k h4 H4.tl; rw [← he] at kk; exact kk
        · have e := of_decide_eq_false e
          rw [if_neg (by omega)] at he
          rw [wrapI (by omega) (by omega)]
          exact ih (i + 1) (said + one t) (by omega) (by omega) he H4.tl
  exact go n 0 0 (by omega) (by omega) rfl H
end Go.Proofs.Ytaolpeimlkpkbaa
