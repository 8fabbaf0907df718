/- Texts of the proof, laid together: Plain laws of responses.; Contracts of package haversackkeep: bytes.; Contracts of package haversackkeep: bytes lent and given back.; The document's examples; which inputs are looked at.; The laws of requests and responses: put and got as the document has it.; The laws of there and back.; Arguments opened: requests, responses. -/
import Derived.Test.YtnidhafhgclakaaP4
import Derived.Test.YtnidhafhgclakaaP2
set_option linter.unusedVariables false
set_option linter.unusedSimpArgs false
namespace Go.Proofs.Ytnidhafhgclakaa
open Go Go.HW
/-! ### A response, put -/
def encN (ns : List ByteArray) : List Nat := ns.flatMap fun s => s.size :: sb s
def shortN (ns : List ByteArray) : Prop := ∀ s ∈ ns, s.size ≤ 255
theorem putNames_ok {ns : List ByteArray} : ∀ {bs a : List Nat}, putNames ns bs = .ok a ↔ shortN ns ∧ a = bs ++ encN ns := by
  induction ns with
  | nil => intro bs a; simp [putNames, shortN, encN, eq_comm]
  | cons s ns ih =>
    intro bs a
    simp only [putNames]
    by_cases h : s.size ≤ 255
    · rw [if_pos h, ih]; simp [shortN, encN, h]
    · rw [if_neg h]; simp [shortN, h]
theorem putNames_err {ns : List ByteArray} : ∀ {bs : List Nat} {e : Int}, putNames ns bs = .error e → e = 2 := by
  induction ns with
  | nil => intro bs e h; simp [putNames] at h
  | cons s ns ih =>
    intro bs e h
    simp only [putNames] at h
    split at h
    · exact ih h
    · simp only [Except.error.injEq] at h; exact h.symm
theorem dig2 {c : Nat} (h : c < 65536) : dig c 2 = [c % 256, c / 256] := by
  simp [dig]; omega
theorem rspW_iff {r : Rsp} : rspW r = true ↔ within r.txn = true ∧ within r.at' = true ∧ within r.size = true ∧ within r.ub = true ∧ within r.ue = true := by simp [rspW]
theorem rspS_put {r : Rsp} (hw : rspW r = true) (h0 : 0 ≤ r.code) (h1 : r.code ≤ 65535) (hn : r.names.length ≤ 64) :
    rspS true [] r = if r.data.size ≤ 16384 then (match putNames r.names (headR r) with | .ok b => .ok (b, r) | .error e => .error e) else .error 2 := by
  obtain ⟨w1, w2, w3, w4, w5⟩ := rspW_iff.1 hw
  have e1 : shortS true [] r.code = .ok (dig r.code.toNat 2, r.code) := rfl
  have n1 : ∀ (bs : List Nat) {x : Int}, within x = true → numS true bs x = .ok (bs ++ dig x.toNat 4, x) := fun bs x h => by simp [numS, h]
  have e2 : numsS true (dig r.code.toNat 2) r = .ok (dig r.code.toNat 2 ++ dig r.txn.toNat 4 ++ dig r.at'.toNat 4 ++ dig r.size.toNat 4 ++ dig r.ub.toNat 4 ++ dig r.ue.toNat 4, r) := by
    simp only [numsS, n1 _ w1, n1 _ w2, n1 _ w3, n1 _ w4, n1 _ w5, okb]
  by_cases hd : r.data.size ≤ 16384
  · rw [if_pos hd]
    have e3 : ∀ bs, textS true bs r.data 16384 = .ok (bs ++ dig r.data.size 2 ++ sb r.data, r.data) := fun bs => by simp [textS, hd]
    have e4 : ∀ bs, manyS true bs r.names.length = .ok (bs ++ [r.names.length], r.names.length) := fun bs => by simp [manyS, smallS]; omega
    have e5 : dig r.code.toNat 2 ++ dig r.txn.toNat 4 ++ dig r.at'.toNat 4 ++ dig r.size.toNat 4 ++ dig r.ub.toNat 4 ++ dig r.ue.toNat 4 ++ dig r.data.size 2 ++ sb r.data ++ [r.names.length] = headR r := by
      rw [dig2 (by omega)]; simp [headR, txtB]
    simp only [rspS, e1, e2, e3, e4, e5, okb, namesS]
    cases putNames r.names (headR r) <;> rfl
  · rw [if_neg hd]
    have e3 : ∀ bs, textS true bs r.data 16384 = .error 2 := fun bs => by simp [textS, hd]
    simp only [rspS, e1, e2, e3, okb, erb]
/-- THE LAW of responses that are put. -/
theorem putRsp_eq (r : Rsp) : putRsp r = refPutRsp r := by
  unfold putRsp refPutRsp
  by_cases hw : rspW r = true
  · rw [if_pos hw]
    by_cases hc : 0 ≤ r.code ∧ r.code ≤ 65535
    · rw [if_pos hc, if_pos (show (0 ≤ r.code ∧ r.code ≤ 65535) ∧ rspW r = true from ⟨hc, hw⟩)]
      by_cases hn : r.names.length ≤ 64
      · rw [if_pos hn, rspS_put hw hc.1 hc.2 hn]
        by_cases hd : r.data.size ≤ 16384
        · rw [if_pos hd, if_neg (by omega)]
          cases h : putNames r.names (headR r) with
          | error e => rw [putNames_err h]
          | ok b =>
            by_cases hl : b.length ≤ 20000
            · simp only [if_pos hl, if_neg (show ¬ b.length > 20000 by omega)]
            · simp only [if_neg hl, if_pos (show b.length > 20000 by omega)]
        · rw [if_neg hd, if_pos (by omega)]
      · rw [if_neg hn, if_pos (by omega)]
    · rw [if_neg hc, if_neg fun q => hc q.1]
  · rw [if_neg hw, if_neg fun q => hw q.2]

/-! ### A response, got -/
theorem shortR_ok {l l' : List Nat} {x y : Int} (h : shortS false l y = .ok (l', x)) : ((smallR 2 ⟨l, false⟩).1 : Int) = x ∧ (smallR 2 ⟨l, false⟩).2 = ⟨l', false⟩ := by
  simp only [shortS] at h
  split at h <;> simp only [Except.ok.injEq, Prod.mk.injEq, reduceCtorEq] at h
  rename_i q
  obtain ⟨rfl, rfl⟩ := h
  have e := takeR_ok (b := false) q
  exact ⟨by simp only [smallR, e], by simp only [smallR, e]⟩
theorem shortR_err {l : List Nat} {e y : Int} (h : shortS false l y = .error e) : (smallR 2 ⟨l, false⟩).2.bad = true := by
  simp only [shortS] at h
  split at h <;> (try simp only [reduceCtorEq] at h)
  rename_i q
  exact takeR_bad (by omega)
theorem nums_ok {l l' : List Nat} {r r' : Rsp} (h : numsS false l r = .ok (l', r')) : rr5 (rr4 (rr3 (rr2 (rr1 (⟨l, false⟩, r))))) = (⟨l', false⟩, r') := by
  unfold numsS at h
  cases h1 : numS false l r.txn with
  | error e1 => rw [h1] at h; cases h
  | ok q1 =>
    obtain ⟨b1, x1⟩ := q1
    simp only [h1, okb] at h
    cases h2 : numS false b1 r.at' with
    | error e1 => rw [h2] at h; cases h
    | ok q2 =>
      obtain ⟨b2, x2⟩ := q2
      simp only [h2, okb] at h
      cases h3 : numS false b2 r.size with
      | error e1 => rw [h3] at h; cases h
      | ok q3 =>
        obtain ⟨b3, x3⟩ := q3
        simp only [h3, okb] at h
        cases h4 : numS false b3 r.ub with
        | error e1 => rw [h4] at h; cases h
        | ok q4 =>
          obtain ⟨b4, x4⟩ := q4
          simp only [h4, okb] at h
          cases h5 : numS false b4 r.ue with
          | error e1 => rw [h5] at h; cases h
          | ok q5 =>
            obtain ⟨b5, x5⟩ := q5
            simp only [h5, okb, Except.ok.injEq, Prod.mk.injEq] at h
            obtain ⟨rfl, rfl⟩ := h
            obtain ⟨a1, c1⟩ := numberR_ok h1
            obtain ⟨a2, c2⟩ := numberR_ok h2
            obtain ⟨a3, c3⟩ := numberR_ok h3
            obtain ⟨a4, c4⟩ := numberR_ok h4
            obtain ⟨a5, c5⟩ := numberR_ok h5
            simp only [rr1, rr2, rr3, rr4, rr5, a1, c1, a2, c2, a3, c3, a4, c4, a5, c5]
theorem nums_err {l : List Nat} {r : Rsp} {e : Int} (h : numsS false l r = .error e) : (rr5 (rr4 (rr3 (rr2 (rr1 (⟨l, false⟩, r)))))).1.bad = true := by
  unfold numsS at h
  have s2 : ∀ {x : CS × Rsp}, x.1.bad = true → (rr2 x).1.bad = true := fun h => numberR_sticky h
  have s3 : ∀ {x : CS × Rsp}, x.1.bad = true → (rr3 x).1.bad = true := fun h => numberR_sticky h
  have s4 : ∀ {x : CS × Rsp}, x.1.bad = true → (rr4 x).1.bad = true := fun h => numberR_sticky h
  have s5 : ∀ {x : CS × Rsp}, x.1.bad = true → (rr5 x).1.bad = true := fun h => numberR_sticky h
  cases h1 : numS false l r.txn with
  | error e1 => exact s5 (s4 (s3 (s2 (numberR_err h1))))
  | ok q1 =>
    obtain ⟨b1, x1⟩ := q1
    simp only [h1, okb] at h
    obtain ⟨a1, c1⟩ := numberR_ok h1
    simp only [rr1, a1, c1]
    cases h2 : numS false b1 r.at' with
    | error e1 => exact s5 (s4 (s3 (numberR_err h2)))
    | ok q2 =>
      obtain ⟨b2, x2⟩ := q2
      simp only [h2, okb] at h
      obtain ⟨a2, c2⟩ := numberR_ok h2
      simp only [rr2, a2, c2]
      cases h3 : numS false b2 r.size with
      | error e1 => exact s5 (s4 (numberR_err h3))
      | ok q3 =>
        obtain ⟨b3, x3⟩ := q3
        simp only [h3, okb] at h
        obtain ⟨a3, c3⟩ := numberR_ok h3
        simp only [rr3, a3, c3]
        cases h4 : numS false b3 r.ub with
        | error e1 => exact s5 (numberR_err h4)
        | ok q4 =>
          obtain ⟨b4, x4⟩ := q4
          simp only [h4, okb] at h
          obtain ⟨a4, c4⟩ := numberR_ok h4
          simp only [rr4, a4, c4]
          cases h5 : numS false b4 r.ue with
          | error e1 => exact numberR_err h5
          | ok q5 => simp only [h5, okb] at h; cases h
theorem loopR_bad {k : Nat} {s : CS} {acc : List ByteArray} (h : s.bad = true) : (loopR k s acc).1.bad = true := by
  cases k with
  | zero => exact h
  | succ k => simp only [loopR, if_pos h]; exact h
theorem small1 {b : Nat} {l : List Nat} {z : Bool} : smallR 1 ⟨b :: l, z⟩ = (b, ⟨l, z⟩) := by
  have e := takeR_ok (l := b :: l) (n := 1) (b := z) (by simp)
  simp only [smallR, e]
  simp [val]
theorem small1_nil {z : Bool} : (smallR 1 ⟨[], z⟩).2.bad = true := takeR_bad (by simp)
theorem names_ok : ∀ {k : Nat} {l l' : List Nat} {acc ns : List ByteArray}, getNames k l acc = .ok (l', ns) → loopR k ⟨l, false⟩ acc = (⟨l', false⟩, ns)
  | 0, l, l', acc, ns, h => by simp only [getNames, Except.ok.injEq, Prod.mk.injEq] at h; obtain ⟨rfl, rfl⟩ := h; rfl
  | k + 1, [], l', acc, ns, h => by simp [getNames] at h
  | k + 1, b :: l, l', acc, ns, h => by
    simp only [getNames] at h
    split at h
    · rename_i q
      have e := takeR_ok (b := false) q
      simp only [loopR, Bool.false_eq_true, if_false, small1, e]
      exact names_ok h
    · simp at h
theorem names_err : ∀ {k : Nat} {l : List Nat} {acc : List ByteArray} {e : Int}, getNames k l acc = .error e → (loopR k ⟨l, false⟩ acc).1.bad = true
  | 0, l, acc, e, h => by simp [getNames] at h
  | k + 1, [], acc, e, h => by
    simp only [loopR, Bool.false_eq_true, if_false]
    exact loopR_bad (takeR_sticky small1_nil)
  | k + 1, b :: l, acc, e, h => by
    simp only [getNames] at h
    split at h
    · rename_i q
      have e := takeR_ok (b := false) q
      simp only [loopR, Bool.false_eq_true, if_false, small1, e]
      exact names_err h
    · rename_i q
      simp only [loopR, Bool.false_eq_true, if_false, small1]
      exact loopR_bad (takeR_bad (by omega))
theorem many_inv {l l' : List Nat} {n m : Nat} (h : manyS false l n = .ok (l', m)) : l = m :: l' ∧ m ≤ 64 := by
  cases l with
  | nil => simp [manyS, smallS] at h
  | cons b l =>
    simp only [manyS, smallS] at h
    split at h <;> simp only [Except.ok.injEq, Prod.mk.injEq, reduceCtorEq] at h
    obtain ⟨rfl, rfl⟩ := h
    exact ⟨by simp, by simp; omega⟩
theorem rr6_sticky {x : CS × Rsp} (h : x.1.bad = true) : (rr6 x).1.bad = true := textR_sticky h
theorem rrN_sticky {x : CS × Rsp} (h : x.1.bad = true) : (rrN x).1.bad = true := by
  simp only [rrN]
  exact loopR_bad (by simp only [smallR_sticky h, Bool.true_or])
theorem rr5_sticky {x : CS × Rsp} (h : x.1.bad = true) : (rr5 (rr4 (rr3 (rr2 (rr1 x))))).1.bad = true := numberR_sticky (numberR_sticky (numberR_sticky (numberR_sticky (numberR_sticky h))))
theorem rsp_ok {bs b : List Nat} {r : Rsp} (h : rspS false bs Rsp.zero = .ok (b, r)) : rrAll bs = (⟨b, false⟩, r) := by
  unfold rspS at h
  cases h1 : shortS false bs Rsp.zero.code with
  | error e1 => rw [h1] at h; cases h
  | ok q1 =>
    obtain ⟨b1, x1⟩ := q1
    simp only [h1, okb] at h
    obtain ⟨a1, c1⟩ := shortR_ok h1
    cases h2 : numsS false b1 { Rsp.zero with code := x1 } with
    | error e1 => rw [h2] at h; cases h
    | ok q2 =>
      obtain ⟨b2, x2⟩ := q2
      simp only [h2, okb] at h
      have e2 := nums_ok h2
      cases h3 : textS false b2 Rsp.zero.data 16384 with
      | error e1 => rw [h3] at h; cases h
      | ok q3 =>
        obtain ⟨b3, x3⟩ := q3
        simp only [h3, okb] at h
        obtain ⟨a3, c3⟩ := textR_ok h3
        cases h4 : manyS false b3 Rsp.zero.names.length with
        | error e1 => rw [h4] at h; cases h
        | ok q4 =>
          obtain ⟨b4, x4⟩ := q4
          simp only [h4, okb] at h
          obtain ⟨rfl, hm⟩ := many_inv h4
          cases h5 : namesS false x4 b4 Rsp.zero.names with
          | error e1 => rw [h5] at h; cases h
          | ok q5 =>
            obtain ⟨b5, x5⟩ := q5
            simp only [h5, okb, Except.ok.injEq, Prod.mk.injEq] at h
            obtain ⟨rfl, rfl⟩ := h
            have e5 := names_ok (show getNames x4 b4 [] = .ok (b5, x5) from h5)
            unfold rrAll
            rw [a1, c1, e2]
            have e6 : rr6 (⟨b2, false⟩, x2) = (⟨x4 :: b4, false⟩, { x2 with data := x3 }) := by simp only [rr6, a3, c3]
            rw [e6]
            have hd : decide ((x4 : Int) > 64) = false := by simp; omega
            simp only [rrN, small1, hd, Bool.or_self, e5]
theorem rsp_bad {bs : List Nat} {e : Int} (h : rspS false bs Rsp.zero = .error e) : (rrAll bs).1.bad = true := by
  unfold rspS at h
  unfold rrAll
  cases h1 : shortS false bs Rsp.zero.code with
  | error e1 => exact rrN_sticky (rr6_sticky (rr5_sticky (shortR_err h1)))
  | ok q1 =>
    obtain ⟨b1, x1⟩ := q1
    simp only [h1, okb] at h
    obtain ⟨a1, c1⟩ := shortR_ok h1
    rw [a1, c1]
    cases h2 : numsS false b1 { Rsp.zero with code := x1 } with
    | error e1 => exact rrN_sticky (rr6_sticky (nums_err h2))
    | ok q2 =>
      obtain ⟨b2, x2⟩ := q2
      simp only [h2, okb] at h
      rw [nums_ok h2]
      cases h3 : textS false b2 Rsp.zero.data 16384 with
      | error e1 => exact rrN_sticky (textR_err h3)
      | ok q3 =>
        obtain ⟨b3, x3⟩ := q3
        simp only [h3, okb] at h
        obtain ⟨a3, c3⟩ := textR_ok h3
        have e6 : rr6 (⟨b2, false⟩, x2) = (⟨b3, false⟩, { x2 with data := x3 }) := by simp only [rr6, a3, c3]
        rw [e6]
        cases h4 : manyS false b3 Rsp.zero.names.length with
        | error e1 =>
          cases b3 with
          | nil => exact loopR_bad (by simp only [small1_nil, Bool.true_or])
          | cons b l =>
            simp only [manyS, smallS] at h4
            split at h4 <;> (try simp only [reduceCtorEq] at h4)
            rename_i q
            have hd : decide ((b : Int) > 64) = true := by simp; omega
            exact loopR_bad (by simp only [small1, hd, Bool.or_true])
        | ok q4 =>
          obtain ⟨b4, x4⟩ := q4
          simp only [h4, okb] at h
          obtain ⟨rfl, hm⟩ := many_inv h4
          have hd : decide ((x4 : Int) > 64) = false := by simp; omega
          cases h5 : namesS false x4 b4 Rsp.zero.names with
          | error e1 =>
            have := names_err (show getNames x4 b4 [] = .error e1 from h5)
            simp only [rrN, small1, hd, Bool.or_self, this]
          | ok q5 => simp only [h5, okb] at h; cases h
/-- THE LAW of responses that are got. -/
theorem getRsp_eq (bs : List Nat) : getRsp bs = refGetRsp bs := by
  unfold getRsp refGetRsp
  by_cases hl : bs.length ≤ 20000
  · have hd : decide ((bs.length : Int) > 20000) = false := by simp; omega
    rw [if_pos hl]
    cases h : rspS false bs Rsp.zero with
    | error e => rw [rsp_bad h, rspS_err h]; simp
    | ok x =>
      obtain ⟨b, r⟩ := x
      rw [rsp_ok h]
      by_cases hz : b.length = 0
      · simp [hz]; omega
      · have : 0 < b.length := by omega
        simp [hz, this]
  · have hd : decide ((bs.length : Int) > 20000) = true := by simp; omega
    rw [if_neg hl, hd]; simp

/-! ### There and back -/
theorem exact_short (y : Int) : Exact (fun l => shortS false l y) := by
  intro l l' x h
  simp only [shortS] at h
  split at h <;> simp only [Except.ok.injEq, Prod.mk.injEq, reduceCtorEq] at h
  rename_i q
  obtain ⟨rfl, rfl⟩ := h
  have hl : (l.take 2).length = 2 := by simp; omega
  refine ⟨l.take 2, (List.take_append_drop _ _).symm, fun m => ?_, fun p t hp ht => ⟨190, ?_⟩⟩
  · simp only [shortS, take_app hl, drop_app hl, List.length_append, hl]
    rw [if_pos (by omega)]
  · have : p.length < 2 := by
      have e := congrArg List.length hp
      rw [List.length_append, hl] at e
      have : t.length ≠ 0 := fun h0 => ht (List.eq_nil_of_length_eq_zero h0)
      omega
    simp only [shortS, if_neg (show ¬ 2 ≤ p.length by omega)]
theorem exact_many (n : Nat) : Exact (fun l => manyS false l n) := by
  intro l l' m h
  obtain ⟨rfl, hm⟩ := many_inv h
  refine ⟨[m], rfl, fun q => ?_, fun p t hp ht => ⟨190, ?_⟩⟩
  · simp [manyS, smallS]; omega
  · have : p = [] := by
      cases p with
      | nil => rfl
      | cons x p => simp at hp; exact absurd hp.2.2 ht
    subst this; rfl
theorem exact_names (k : Nat) : ∀ acc, Exact (fun l => getNames k l acc) := by
  induction k with
  | zero => exact fun acc => Exact.pure acc
  | succ k ih =>
    intro acc l l' ns h
    cases l with
    | nil => simp [getNames] at h
    | cons b l =>
      simp only [getNames] at h
      split at h
      · rename_i q
        obtain ⟨d, hd, hm, hp⟩ := ih (acc ++ [st (l.take b)]) _ _ _ h
        have hl : (l.take b).length = b := by simp; omega
        refine ⟨b :: (l.take b ++ d), by rw [List.cons_append, List.append_assoc, ← hd, List.take_append_drop], fun m => ?_, fun p t hpt ht => ?_⟩
        · dsimp only
          rw [List.cons_append, List.append_assoc]
          simp only [getNames, take_app hl, drop_app hl, List.length_append, hl]
          rw [if_pos (by omega)]
          exact hm m
        · cases p with
          | nil => exact ⟨190, rfl⟩
          | cons x p =>
            simp only [List.cons_append, List.cons.injEq] at hpt
            obtain ⟨rfl, hpt⟩ := hpt
            simp only [getNames]
            by_cases hx : x ≤ p.length
            · rw [if_pos hx]
              have e1 : p.take x = l.take x := by
                have := congrArg (List.take x) hpt
                rwa [List.take_append_of_le_length hx, take_app hl] at this
              have e2 : p.drop x ++ t = d := by
                have := congrArg (List.drop x) hpt
                rwa [List.drop_append_of_le_length hx, drop_app hl] at this
              rw [e1]
              exact hp _ t e2 ht
            · rw [if_neg hx]; exact ⟨190, rfl⟩
      · simp at h
theorem exact_nums (r : Rsp) : Exact (fun l => numsS false l r) := by
  refine Exact.congr (fun l => ?_) ((exact_num r.txn).bind fun x1 => (exact_num r.at').bind fun x2 => (exact_num r.size).bind fun x3 => (exact_num r.ub).bind fun x4 => (exact_num r.ue).bind fun x5 => Exact.pure ({ r with txn := x1, at' := x2, size := x3, ub := x4, ue := x5 } : Rsp))
  unfold numsS
  dsimp only
  cases numS false l r.txn with
  | error e => rfl
  | ok q =>
    obtain ⟨b1, x1⟩ := q
    simp only [okb]
    cases numS false b1 r.at' with
    | error e => rfl
    | ok q =>
      obtain ⟨b2, x2⟩ := q
      simp only [okb]
      cases numS false b2 r.size with
      | error e => rfl
      | ok q =>
        obtain ⟨b3, x3⟩ := q
        simp only [okb]
        cases numS false b3 r.ub with
        | error e => rfl
        | ok q =>
          obtain ⟨b4, x4⟩ := q
          simp only [okb]
          cases numS false b4 r.ue <;> rfl
theorem exact_rsp (r : Rsp) : Exact (fun l => rspS false l r) := by
  refine Exact.congr (fun l => ?_) ((exact_short r.code).bind fun c => (exact_nums { r with code := c }).bind fun r1 => (exact_text r.data 16384).bind fun d => (exact_many r.names.length).bind fun m => (exact_names m r.names).bind fun ns => Exact.pure ({ r1 with data := d, names := ns } : Rsp))
  unfold rspS
  dsimp only
  cases shortS false l r.code with
  | error e => rfl
  | ok q =>
    obtain ⟨b1, x1⟩ := q
    simp only [okb]
    cases numsS false b1 { r with code := x1 } with
    | error e => rfl
    | ok q =>
      obtain ⟨b2, x2⟩ := q
      simp only [okb]
      cases textS false b2 r.data 16384 with
      | error e => rfl
      | ok q =>
        obtain ⟨b3, x3⟩ := q
        simp only [okb]
        cases manyS false b3 r.names.length with
        | error e => rfl
        | ok q =>
          obtain ⟨b4, x4⟩ := q
          simp only [okb, namesS]
          cases getNames x4 b4 r.names <;> rfl
theorem names_of : ∀ {ns : List ByteArray} {m : List Nat} {acc : List ByteArray}, shortN ns → getNames ns.length (encN ns ++ m) acc = .ok (m, acc ++ ns)
  | [], m, acc, _ => by simp [getNames, encN]
  | s :: ns, m, acc, h => by
    have hl := sb_len s
    have e : encN (s :: ns) ++ m = s.size :: (sb s ++ (encN ns ++ m)) := by simp [encN]
    rw [e]
    simp only [List.length_cons, getNames, List.length_append, hl, take_app hl, drop_app hl, st_sb]
    rw [if_pos (by omega), names_of (fun x hx => h x (by simp [hx]))]
    simp
theorem short_of {x y : Int} {m : List Nat} (h0 : 0 ≤ x) (h1 : x ≤ 65535) : shortS false (dig x.toNat 2 ++ m) y = .ok (m, x) := by
  obtain ⟨k, rfl⟩ := Int.eq_ofNat_of_zero_le h0
  have hd := dig_len (k : Int).toNat 2
  have hv : val (dig (k : Int).toNat 2) = k := by rw [val_dig]; show k % _ = k; omega
  simp only [shortS, take_app hd, drop_app hd, hv, List.length_append, hd]
  rw [if_pos (by omega)]
theorem putRsp_ok {r : Rsp} {a : List Nat} (h : putRsp r = (0, a)) : (0 ≤ r.code ∧ r.code ≤ 65535) ∧ rspW r = true ∧ r.data.size ≤ 16384 ∧ r.names.length ≤ 64 ∧ shortN r.names ∧ a = headR r ++ encN r.names ∧ a.length ≤ 20000 := by
  rw [putRsp_eq] at h
  unfold refPutRsp at h
  split at h
  · rename_i hc
    split at h
    · simp at h
    · rename_i hn
      split at h
      · rename_i b hb
        split at h
        · simp at h
        · rename_i hl
          simp only [Prod.mk.injEq, true_and] at h
          subst h
          obtain ⟨h1, h2⟩ := putNames_ok.1 hb
          exact ⟨hc.1, hc.2, by omega, by omega, h1, h2, by omega⟩
      · simp at h
  · simp at h
theorem rspS_of {r : Rsp} {m : List Nat} (hc : 0 ≤ r.code ∧ r.code ≤ 65535) (hw : rspW r = true) (hd : r.data.size ≤ 16384) (hn : r.names.length ≤ 64) (hs : shortN r.names) :
    rspS false (headR r ++ encN r.names ++ m) Rsp.zero = .ok (m, r) := by
  obtain ⟨w1, w2, w3, w4, w5⟩ := rspW_iff.1 hw
  have e0 : headR r ++ encN r.names ++ m = dig r.code.toNat 2 ++ (dig r.txn.toNat 4 ++ (dig r.at'.toNat 4 ++ (dig r.size.toNat 4 ++ (dig r.ub.toNat 4 ++ (dig r.ue.toNat 4 ++ (txtB r.data ++ (r.names.length :: (encN r.names ++ m)))))))) := by
    rw [dig2 (by omega)]; simp [headR]
  have e4 : ∀ l n, manyS false (r.names.length :: l) n = .ok (l, r.names.length) := fun l n => by simp [manyS, smallS]; omega
  rw [e0]
  simp only [rspS, numsS, short_of hc.1 hc.2, numS_of w1, numS_of w2, numS_of w3, numS_of w4, numS_of w5, textS_of (show 16384 < 65536 by decide) hd, e4, namesS, okb]
  rw [show Rsp.zero.names = [] from rfl, names_of hs]
  rfl
/-- What is put is got again; with a byte more, or without the last one, it is refused. -/
theorem rsp_round {r : Rsp} {a : List Nat} (h : putRsp r = (0, a)) : 1 ≤ a.length ∧ getRsp a = (0, r) ∧ (∀ x, getRsp (a ++ [x]) = (190, Rsp.zero)) ∧ getRsp (a.take (a.length - 1)) = (190, Rsp.zero) := by
  obtain ⟨hc, hw, hd, hn, hs, rfl, hl⟩ := putRsp_ok h
  have run : ∀ m, rspS false (headR r ++ encN r.names ++ m) Rsp.zero = .ok (m, r) := fun m => rspS_of hc hw hd hn hs
  have hne : headR r ++ encN r.names ≠ [] := by simp [headR]
  refine ⟨by simp [headR], ?_, fun x => ?_, ?_⟩
  · have := run []
    rw [List.append_nil] at this
    simp only [getRsp, if_pos hl, this]; rfl
  · unfold getRsp
    split
    · rw [run [x]]; rfl
    · rfl
  · rcases List.eq_nil_or_concat (headR r ++ encN r.names) with he | ⟨d, t, he⟩
    · exact absurd he hne
    · have e1 : (headR r ++ encN r.names).take ((headR r ++ encN r.names).length - 1) = d := by rw [he]; simp
      rw [e1]
      obtain ⟨d', hd', _, hp⟩ := exact_rsp Rsp.zero (headR r ++ encN r.names ++ []) [] r (run [])
      simp only [List.append_nil] at hd'
      obtain ⟨e, hee⟩ := hp d [t] (by rw [← hd', he]; simp) (by simp)
      have hdl : d.length ≤ 20000 := by rw [he] at hl; simp at hl; omega
      simp only [getRsp, if_pos hdl, hee, rspS_err hee]
theorem short_inv {x y : Int} {l l' : List Nat} (h8 : ∀ b ∈ l, b < 256) (h : shortS false l y = .ok (l', x)) : (0 ≤ x ∧ x ≤ 65535) ∧ l = dig x.toNat 2 ++ l' := by
  simp only [shortS] at h
  split at h <;> simp only [Except.ok.injEq, Prod.mk.injEq, reduceCtorEq] at h
  rename_i q
  obtain ⟨rfl, rfl⟩ := h
  have h2 : ∀ b ∈ l.take 2, b < 256 := fun b hb => h8 b (List.mem_of_mem_take hb)
  have hl : (l.take 2).length = 2 := by simp; omega
  have hv := val_lt h2
  have := dig_val h2
  rw [hl] at this hv
  refine ⟨by omega, ?_⟩
  rw [Int.toNat_natCast, this, List.take_append_drop]
theorem names_inv : ∀ {k : Nat} {l l' : List Nat} {acc ns : List ByteArray}, (∀ b ∈ l, b < 256) → getNames k l acc = .ok (l', ns) → ∃ ms, ns = acc ++ ms ∧ ms.length = k ∧ shortN ms ∧ l = encN ms ++ l'
  | 0, l, l', acc, ns, h8, h => by simp only [getNames, Except.ok.injEq, Prod.mk.injEq] at h; obtain ⟨rfl, rfl⟩ := h; exact ⟨[], by simp, rfl, by simp [shortN], rfl⟩
  | k + 1, [], l', acc, ns, h8, h => by simp [getNames] at h
  | k + 1, b :: l, l', acc, ns, h8, h => by
    simp only [getNames] at h
    split at h
    · rename_i q
      obtain ⟨ms, e1, e2, e3, e4⟩ := names_inv (fun x hx => h8 x (by simp; exact .inr (List.mem_of_mem_drop hx))) h
      have hb := h8 b (by simp)
      have hl : (l.take b).length = b := by simp; omega
      refine ⟨st (l.take b) :: ms, by rw [e1]; simp, by simp [e2], ?_, ?_⟩
      · intro s hs
        rcases List.mem_cons.1 hs with rfl | hs
        · rw [st_size, hl]; omega
        · exact e3 s hs
      · have e5 : encN (st (l.take b) :: ms) ++ l' = (st (l.take b)).size :: (sb (st (l.take b)) ++ (encN ms ++ l')) := by simp [encN]
        rw [e5, st_size, hl, sb_st (fun x hx => h8 x (by simp; exact .inr (List.mem_of_mem_take hx))), ← e4, List.take_append_drop]
    · simp at h
/-- What is got is put as the same bytes. -/
theorem rsp_one {bs : List Nat} {r : Rsp} (h8 : ∀ b ∈ bs, b < 256) (h : getRsp bs = (0, r)) : putRsp r = (0, bs) := by
  unfold getRsp at h
  split at h
  case isFalse => simp at h
  rename_i hl
  cases hr : rspS false bs Rsp.zero with
  | error e => rw [hr] at h; simp only [Prod.mk.injEq] at h; have := rspS_err hr; omega
  | ok x =>
    obtain ⟨b, r0⟩ := x
    rw [hr] at h
    dsimp only at h
    split at h
    case isFalse => simp at h
    rename_i hz
    simp only [Prod.mk.injEq, true_and] at h
    subst h
    have hb : b = [] := List.eq_nil_of_length_eq_zero hz
    subst hb
    unfold rspS at hr
    cases h1 : shortS false bs Rsp.zero.code with
    | error e1 => rw [h1] at hr; cases hr
    | ok q1 =>
      obtain ⟨b1, x1⟩ := q1
      simp only [h1, okb, numsS] at hr
      obtain ⟨hc, g1⟩ := short_inv h8 h1
      have k1 : ∀ x ∈ b1, x < 256 := fun x hx => h8 x (by rw [g1]; simp [hx])
      cases h2 : numS false b1 Rsp.zero.txn with
      | error e1 => rw [h2] at hr; cases hr
      | ok q2 =>
        obtain ⟨b2, x2⟩ := q2
        simp only [h2, okb] at hr
        obtain ⟨w2, g2⟩ := numS_inv k1 h2
        have k2 : ∀ x ∈ b2, x < 256 := fun x hx => k1 x (by rw [g2]; simp [hx])
        cases h3 : numS false b2 Rsp.zero.at' with
        | error e1 => rw [h3] at hr; cases hr
        | ok q3 =>
          obtain ⟨b3, x3⟩ := q3
          simp only [h3, okb] at hr
          obtain ⟨w3, g3⟩ := numS_inv k2 h3
          have k3 : ∀ x ∈ b3, x < 256 := fun x hx => k2 x (by rw [g3]; simp [hx])
          cases h4 : numS false b3 Rsp.zero.size with
          | error e1 => rw [h4] at hr; cases hr
          | ok q4 =>
            obtain ⟨b4, x4⟩ := q4
            simp only [h4, okb] at hr
            obtain ⟨w4, g4⟩ := numS_inv k3 h4
            have k4 : ∀ x ∈ b4, x < 256 := fun x hx => k3 x (by rw [g4]; simp [hx])
            cases h5 : numS false b4 Rsp.zero.ub with
            | error e1 => rw [h5] at hr; cases hr
            | ok q5 =>
              obtain ⟨b5, x5⟩ := q5
              simp only [h5, okb] at hr
              obtain ⟨w5, g5⟩ := numS_inv k4 h5
              have k5 : ∀ x ∈ b5, x < 256 := fun x hx => k4 x (by rw [g5]; simp [hx])
              cases h6 : numS false b5 Rsp.zero.ue with
              | error e1 => rw [h6] at hr; cases hr
              | ok q6 =>
                obtain ⟨b6, x6⟩ := q6
                simp only [h6, okb] at hr
                obtain ⟨w6, g6⟩ := numS_inv k5 h6
                have k6 : ∀ x ∈ b6, x < 256 := fun x hx => k5 x (by rw [g6]; simp [hx])
                cases h7 : textS false b6 Rsp.zero.data 16384 with
                | error e1 => rw [h7] at hr; cases hr
                | ok q7 =>
                  obtain ⟨b7, x7⟩ := q7
                  simp only [h7, okb] at hr
                  obtain ⟨w7, g7⟩ := textS_inv k6 h7
                  have k7 : ∀ x ∈ b7, x < 256 := fun x hx => k6 x (by rw [g7]; simp [hx])
                  cases h9 : manyS false b7 Rsp.zero.names.length with
                  | error e1 => rw [h9] at hr; cases hr
                  | ok q9 =>
                    obtain ⟨b9, m⟩ := q9
                    simp only [h9, okb] at hr
                    obtain ⟨rfl, hm⟩ := many_inv h9
                    cases h10 : namesS false m b9 Rsp.zero.names with
                    | error e1 => rw [h10] at hr; cases hr
                    | ok q10 =>
                      obtain ⟨b10, ns⟩ := q10
                      simp only [h10, okb, Except.ok.injEq, Prod.mk.injEq] at hr
                      obtain ⟨rfl, rfl⟩ := hr
                      obtain ⟨ms, n1, n2, n3, n4⟩ := names_inv (fun x hx => k7 x (by simp [hx])) (show getNames m b9 [] = .ok ([], ns) from h10)
                      simp only [List.nil_append] at n1
                      subst n1
                      rw [putRsp_eq]
                      unfold refPutRsp
                      have hw : rspW { Rsp.zero with code := x1, txn := x2, at' := x3, size := x4, ub := x5, ue := x6, data := x7, names := ns } = true := by simp [rspW, w2, w3, w4, w5, w6]
                      have hb : bs = headR { Rsp.zero with code := x1, txn := x2, at' := x3, size := x4, ub := x5, ue := x6, data := x7, names := ns } ++ encN ns := by
                        rw [g1, g2, g3, g4, g5, g6, g7, n4, dig2 (by omega), ← n2]; simp [headR]
                      have hp := (putNames_ok (ns := ns) (bs := headR { Rsp.zero with code := x1, txn := x2, at' := x3, size := x4, ub := x5, ue := x6, data := x7, names := ns }) (a := bs)).2 ⟨n3, hb⟩
                      rw [if_pos ⟨hc, hw⟩]
                      dsimp only
                      rw [if_neg (by omega), hp]
                      dsimp only
                      rw [if_neg (by omega)]
end Go.Proofs.Ytnidhafhgclakaa

set_option linter.unusedVariables false
set_option linter.unusedSimpArgs false
namespace Go.Proofs.Ytnidhafhgclakaa
open Go Go.HW
theorem keepBytes_loop {a b : Option Addr} {n c m d : Nat} {xs ys : List Nat} {h : Heap} {K : Ex → Fr → Heap → Prop} (ha : Rd h a (nV xs)) (hb : Rd h b (nV ys)) (hna : xs.length = n) (hnb : ys.length = n) (hm : m = n) (hmax : n < 2 ^ 62)
    (k1 : xs = ys → K (.exit 0) keep_Bytes.X0 h) (k2 : xs ≠ ys → K .ret (keep_Bytes.Xret false) h) : ∀ (k i : Nat), i + k = n → xs.take i = ys.take i → keep_Bytes.L1 a n c b m d i K h := by
  subst hm
  intro k
  induction k with
  | zero =>
    intro i hi ht
    refine keep_Bytes.L1_of (br_false (decide_eq_false (by omega)) (k1 ?_))
    rwa [List.take_of_length_le (by omega), List.take_of_length_le (by omega)] at ht
  | succ k ih =>
    intro i hi ht
    have h1 : i < xs.length := by omega
    have h2 : i < ys.length := by omega
    refine keep_Bytes.L1_of (br_true (decide_eq_true (by omega)) ?_)
    refine idx E_sl_uint8 ha (by omega) (by omega) (v := .int .u8 (xs[i] : Nat)) (by rw [Int.toNat_natCast]; exact nV_get h1) fun t ht1 => ⟨_, ht1, ?_⟩
    refine idx E_sl_uint8 hb (by omega) (by omega) (v := .int .u8 (ys[i] : Nat)) (by rw [Int.toNat_natCast]; exact nV_get h2) fun t ht2 => ⟨_, ht2, ?_⟩
    simp only [inc (show i < 2 ^ 62 by omega)]
    refine (br_iff _ _ _).2 ⟨fun hb' => k2 ?_, fun hb' => ih (i + 1) (by omega) ?_⟩
    · rintro rfl; simp at hb'
    · have e : xs[i] = ys[i] := by simp only [bne_eq_false_iff_eq] at hb'; omega
      rw [List.take_succ_eq_append_getElem h1, List.take_succ_eq_append_getElem h2, ht, e]
theorem keepBytes_spec {a b : Option Addr} {n c m d : Nat} {xs ys : List Nat} {h : Heap} {Q : Value → Heap → Prop} (ha : Rd h a (nV xs)) (hb : Rd h b (nV ys)) (hna : xs.length = n) (hnb : ys.length = m) (hmax : n < 2 ^ 62)
    (kk : Q (.bool (decide (xs = ys))) h) : SpecH PP F_keep_Bytes [.slice a n c, .slice b m d] h Q := by
  refine keep_Bytes.door ?_
  refine (br_iff _ _ _).2 ⟨fun hne => ?_, fun heq => ?_⟩
  · rw [decide_eq_false (fun e => by subst e; simp at hne; omega)] at kk; exact kk
  · have e : m = n := by simp at heq; omega
    refine keepBytes_loop ha hb hna (by omega) e hmax (fun e => ?_) (fun e => ?_) n 0 (by omega) rfl
    · refine keep_Bytes.L1_X0 ?_; rwa [decide_eq_true e] at kk
    · refine keep_Bytes.L1_Xret ?_; rwa [decide_eq_false e] at kk
end Go.Proofs.Ytnidhafhgclakaa

set_option linter.unusedVariables false
set_option linter.unusedSimpArgs false
namespace Go.Proofs.Ytnidhafhgclakaa
open Go Go.HW
variable {h : Heap} {L : List Assn} {Q : Value → Heap → Prop}
/-- A lent row: the bytes, and two marks behind them. -/
def lent (b : Nat) (xs : List Nat) : Assn := own (some ⟨b, 0, none⟩) (xs.length + 2) (xs.length + 2) T_uint8 1 (nV (xs ++ [165, 90]))
theorem Gv_lent {b : Nat} {xs : List Nat} : Gv (lent b xs :: L) (some ⟨b, 0, none⟩) (nV xs) := by
  have := (Gv.own (L := L) (a := some ⟨b, 0, none⟩) (n := xs.length + 2) (c := xs.length + 2) (e := T_uint8) (sz := 1) (xs := nV (xs ++ [165, 90]))).take xs.length
  rwa [show (nV (xs ++ [165, 90])).take xs.length = nV xs by rw [nV_app, List.take_append_of_le_length (by rw [nV_len]; exact Nat.le_refl _), List.take_of_length_le (by rw [nV_len]; exact Nat.le_refl _)]] at this
theorem Lend_spec {a : Option Addr} {n c : Nat} {xs : List Nat} (hr : Rd h a (nV xs)) (hn : xs.length = n) (hmax : n < 2 ^ 40) (hn0 : a = none → n = 0) (H : Hs h L)
    (kk : ∀ h' b, Hs h' (lent b xs :: L) → Q (.slice (some ⟨b, 0, none⟩) n (n + 2)) h') (hr2 : Gv L a (nV xs)) : SpecH PP F_keep_Lend [.slice a n c] h Q := by
  refine keep_Lend.door ?_
  have w2 : IntKind.i64.wrap ((n : Int) + 2) = ((n + 2 : Nat) : Int) := by rw [wrap_i64_z (by omega) (by omega)]; simp
  have w1 : IntKind.i64.wrap ((n : Int) + 1) = ((n + 1 : Nat) : Int) := inc (by omega)
  simp only [w1, w2]
  refine H.make E_sl_uint8 rfl rfl (Nat.le_refl _) (by omega) (by omega) fun h1 b H1 => ⟨_, _, _, rfl, ?_⟩
  refine H1.copy (off := 0) (ys := nV xs) E_sl_uint8 (by rw [nV_len]; simp; omega) (hr2 _ H1.tl) hn0 (by rw [nV_len, hn, Nat.min_eq_left (by omega), Nat.mul_one]) (nV_one _) fun h2 H2 => ⟨_, rfl, ?_⟩
  have e1 : (List.replicate (n + 2) (Value.int .u8 0)).take 0 ++ nV xs ++ (List.replicate (n + 2) (Value.int .u8 0)).drop (0 + (nV xs).length) = nV (xs ++ 0 :: [0]) := by
    rw [List.take_zero, List.nil_append, nV_len, hn, List.drop_replicate, nV_app]; congr 1
    rw [show n + 2 - (0 + n) = 2 by omega]; rfl
  rw [e1] at H2
  have hl : ∀ x y : Nat, (nV (xs ++ x :: [y])).length = n + 2 := fun x y => by rw [nV_len, List.length_append, hn]; rfl
  refine (H2.pt_all (n := n + 2) (hl 0 0)).idx_set E_sl_uint8 (by omega) (by omega) rfl fun h3 H3 => ?_
  rw [Int.toNat_natCast, show (Value.int .u8 165) = .int .u8 ((165 : Nat) : Int) from rfl, nV_setat hn] at H3
  refine H3.idx_set E_sl_uint8 (by omega) (by omega) rfl fun h4 H4 => ?_
  have e2 : xs ++ 165 :: [0] = (xs ++ [165]) ++ 0 :: [] := by simp
  rw [Int.toNat_natCast, e2, show (Value.int .u8 90) = .int .u8 ((90 : Nat) : Int) from rfl, nV_setat (by simp [hn])] at H4
  refine slice_pre E_sl_uint8 (by omega) ⟨some ⟨b, 0, none⟩, n, n + 2, rfl, kk h4 b ?_⟩
  · unfold lent; rw [hn]
    have e3 : (xs ++ [165]) ++ 90 :: [] = xs ++ [165, 90] := by simp
    rw [e3] at H4; exact H4
theorem scr_loop {b n : Nat} {ok : Bool} {K : Ex → Fr → Heap → Prop} (hmax : n < 2 ^ 41) (kk : ∀ h', Hs h' L → K (.exit 2) (keep_Back.X2 ok) h') :
    ∀ (k i : Nat) {h : Heap} {l : List Nat}, i + k = n → l.length = n → Hs h (own (some ⟨b, 0, none⟩) n n T_uint8 1 (nV l) :: L) → keep_Back.L2 (some ⟨b, 0, none⟩) n n ok i K h := by
  intro k
  induction k with
  | zero =>
    intro i h l hi hl H
    exact keep_Back.L2_of (br_false (decide_eq_false (by omega)) (kk h H.tl))
  | succ k ih =>
    intro i h l hi hl H
    have hil : i < l.length := by omega
    refine keep_Back.L2_of (br_true (decide_eq_true (by omega)) ?_)
    refine idx E_sl_uint8 H.rd (by omega) (by omega) (v := .int .u8 (l[i] : Nat)) (by rw [Int.toNat_natCast]; exact nV_get hil) fun t ht => ⟨_, ht, ?_⟩
    have w : IntKind.u8.wrap ((l[i] : Int) + 77) = (((l[i] + 77) % 256 : Nat) : Int) := by rw [show (l[i] : Int) + 77 = ((l[i] + 77 : Nat) : Int) by simp, wrap_u8]
    refine H.idx_set E_sl_uint8 (by omega) (by omega) rfl fun h2 H2 => ?_
    rw [Int.toNat_natCast, w] at H2
    have e : (nV l).set i (.int .u8 (((l[i] + 77) % 256 : Nat) : Int)) = nV (l.set i ((l[i] + 77) % 256)) := by simp [nV, List.map_set]
    rw [e] at H2
    simp only [inc (show i < 2 ^ 62 by omega)]
    exact ih (i + 1) (by omega) (by simp [hl]) H2
theorem cmp_loop {b n m d : Nat} {a : Option Addr} {xs : List Nat} {K : Ex → Fr → Heap → Prop} (hr : Rd h (some ⟨b, 0, none⟩) (nV (xs ++ [165, 90]))) (hr2 : Rd h a (nV xs)) (hn : xs.length = n) (hmax : n < 2 ^ 40)
    (kk : K (.exit 0) (keep_Back.X0 (some ⟨b, 0, none⟩) (n + 2) (n + 2) true) h) :
    ∀ (k i : Nat), i + k = n → keep_Back.L1 (some ⟨b, 0, none⟩) n d a n m (some ⟨b, 0, none⟩) (n + 2) (n + 2) true i K h := by
  intro k
  induction k with
  | zero =>
    intro i hi
    exact keep_Back.L1_of (br_false (decide_eq_false (by omega)) kk)
  | succ k ih =>
    intro i hi
    have hil : i < xs.length := by omega
    refine keep_Back.L1_of (br_true (decide_eq_true (by omega)) (br_true rfl ?_))
    refine idx E_sl_uint8 hr (by omega) (by omega) (v := .int .u8 (xs[i] : Nat)) (by rw [Int.toNat_natCast, nV_app, List.getElem?_append_left (by rw [nV_len]; exact hil)]; exact nV_get hil) fun t ht => ⟨_, ht, ?_⟩
    refine idx E_sl_uint8 hr2 (by omega) (by omega) (v := .int .u8 (xs[i] : Nat)) (by rw [Int.toNat_natCast]; exact nV_get hil) fun t ht => ⟨_, ht, keep_Back.J2_of ?_⟩
    rw [beq_self_eq_true]
    simp only [inc (show i < 2 ^ 62 by omega)]
    exact ih (i + 1) (by omega)
theorem Back_spec {b n m : Nat} {a : Option Addr} {xs : List Nat} (hr2 : Gv L a (nV xs)) (hn : xs.length = n) (hmax : n < 2 ^ 40) (H : Hs h (lent b xs :: L)) (kk : ∀ h', Hs h' L → Q (.bool true) h') :
    SpecH PP F_keep_Back [.slice (some ⟨b, 0, none⟩) n (n + 2), .slice a n m] h Q := by
  refine keep_Back.door ?_
  have w2 : IntKind.i64.wrap ((n : Int) + 2) = ((n + 2 : Nat) : Int) := by rw [wrap_i64_z (by omega) (by omega)]; simp
  have w1 : IntKind.i64.wrap ((n : Int) + 1) = ((n + 1 : Nat) : Int) := inc (by omega)
  simp only [w1, w2]
  unfold lent at H; rw [hn] at H
  refine slice_pre E_sl_uint8 (by omega) ⟨some ⟨b, 0, none⟩, n + 2, n + 2, rfl, ?_⟩
  have e1 : (nV (xs ++ [165, 90]))[n]? = some (.int .u8 165) := by rw [← hn]; simp [nV]
  have e2 : (nV (xs ++ [165, 90]))[n + 1]? = some (.int .u8 90) := by rw [← hn]; simp [nV]
  refine idx E_sl_uint8 H.rd (by omega) (by omega) (by rw [Int.toNat_natCast]; exact e1) fun t ht => ⟨_, ht, br_true rfl ?_⟩
  refine idx E_sl_uint8 H.rd (by omega) (by omega) (by rw [Int.toNat_natCast]; exact e2) fun t ht => ⟨_, ht, keep_Back.J1_of ?_⟩
  refine cmp_loop H.rd (hr2 _ H.tl) hn hmax ?_ n 0 (by omega)
  refine keep_Back.L1_X0 ?_
  refine scr_loop (by omega) (fun h2 H2 => ?_) (n + 2) 0 (by omega) (by simp [hn]) H
  refine keep_Back.L2_X2 ?_
  exact kk h2 H2
end Go.Proofs.Ytnidhafhgclakaa

set_option linter.unusedVariables false
set_option linter.unusedSimpArgs false
set_option maxRecDepth 8000
namespace Go.Proofs.Ytnidhafhgclakaa
open Go Go.HW
variable {h : Heap} {L M : List Assn} {Q X : Value → Heap → Prop}
theorem own_nil_le {a : OA} {n c : Nat} {xs : List Value} (H : Hs h (own a n c T_uint8 1 xs :: L)) : n ≤ c ∧ (a = none → c = 0) := by
  obtain ⟨h1, h2, ⟨ha, hc⟩ | ⟨b, off, cs, ha, _⟩⟩ := H.Own
  · exact ⟨h2, fun _ => hc⟩
  · exact ⟨h2, fun e => by rw [e] at ha; cases ha⟩
def aw1 : Req := ⟨4, 7, ⟨#[97]⟩, ⟨#[]⟩, ⟨#[]⟩, 0, 0, ⟨#[]⟩⟩
def aw2 : Req := ⟨2, 1, ⟨#[]⟩, ⟨#[]⟩, ⟨#[]⟩, 0, 0, ⟨#[]⟩⟩
def aw3 : Rsp := ⟨140, 0, 0, 0, ⟨#[]⟩, [⟨#[120]⟩], 0, 0⟩
def awB : List Nat := [140, 0, 0, 0, 0, 0, 0, 0, 0, 0, 0, 0, 0, 0, 0, 0, 0, 0, 0, 0, 0, 0, 0, 0, 1, 1, 120]
theorem awe1 : putReq aw1 = (0, [4, 7, 0, 0, 0, 1, 0, 97]) := by kernel_rfl
theorem awe2 : getReq [4, 7, 0, 0, 0, 1, 0, 97] = (0, aw1) := (req_round awe1).2.1
theorem awe3 : getReq [14] = (191, Req.zero) := by kernel_rfl
theorem awe4 : putReq aw2 = (1, []) := by kernel_rfl
theorem awe5 : putRsp aw3 = (0, awB) := by kernel_rfl
theorem awe6 : getRsp awB = (0, aw3) := (rsp_round awe5).2.1
theorem szs0 : (0 : Nat) < 2 ^ 62 := by decide
theorem awake_h (H : Hs h L) (kk : ∀ h', Hs h' L → Q (.bool true) h') : SpecH PP F_law19_awake [] h Q := by
  refine law19_awake.door ?_
  have sz1 : aw1.szs := ⟨by show (1 : Nat) < 2 ^ 62; decide, szs0, szs0, szs0⟩
  refine PutRequest_h (r := aw1) H sz1 ?_
  intro h1 a1 n1 c1 l1 H1
  rw [awe1] at l1 H1 ⊢
  dsimp only at l1 H1 ⊢
  obtain ⟨o1, o2⟩ := own_nil_le H1
  refine ⟨_, _, _, _, rfl, ?_⟩
  refine GetRequest_h (bs := [4, 7, 0, 0, 0, 1, 0, 97]) Gv.own l1 o1 o2 (by rw [← l1]; decide) (by decide) H1 ?_
  intro h2 H2
  rw [awe2]
  dsimp only
  refine ⟨_, _, _, _, _, _, _, _, _, rfl, ?_⟩
  have H3 := H2.new (t := T_api_Request) (cs := #[(.int .i64 0), (.int .i64 0), (.string (⟨#[]⟩ : ByteArray)), (.string (⟨#[]⟩ : ByteArray)), (.string (⟨#[]⟩ : ByteArray)), (.int .i64 0), (.int .i64 0), (.string (⟨#[]⟩ : ByteArray))]) (xs := Req.zero.l)
  generalize Array.push h2 _ = h3 at H3 ⊢
  generalize h2.size = bb at H3 ⊢
  refine Hs.wrs (xs := Req.zero.l) H3 ?_
  intro h4 H4
  replace H4 : Hs h4 (pt bb T_api_Request aw1.l :: own a1 n1 c1 T_uint8 1 (nV [4, 7, 0, 0, 0, 1, 0, 97]) :: L) := H4
  have H5 := (H4.new (t := T_uint8) (cs := #[.int .u8 14]) (xs := nV [14])).pt_all (n := 1) rfl
  generalize Array.push h4 _ = h5 at H5 ⊢
  generalize (some ⟨h4.size, 0, none⟩ : OA) = a14 at H5 ⊢
  have p14 := own_nil_le H5
  refine GetRequest_h (bs := [14]) Gv.own rfl p14.1 p14.2 (by decide) (by decide) H5 ?_
  intro h6 H6
  rw [awe3]
  dsimp only
  refine ⟨_, _, _, _, _, _, _, _, _, rfl, ?_⟩
  have H7 := H6.new (t := T_api_Request) (cs := #[(.int .i64 0), (.int .i64 0), (.string (⟨#[]⟩ : ByteArray)), (.string (⟨#[]⟩ : ByteArray)), (.string (⟨#[]⟩ : ByteArray)), (.int .i64 0), (.int .i64 0), (.string (⟨#[]⟩ : ByteArray))]) (xs := Req.zero.l)
  generalize Array.push h6 _ = h7 at H7 ⊢
  generalize h6.size = tb at H7 ⊢
  refine Hs.wrs (xs := Req.zero.l) H7 ?_
  intro h8 H8
  have sz2 : aw2.szs := ⟨szs0, szs0, szs0, szs0⟩
  refine PutRequest_h (r := aw2) (L := pt bb T_api_Request aw1.l :: own a1 n1 c1 T_uint8 1 (nV [4, 7, 0, 0, 0, 1, 0, 97]) :: L) (H8.sel 4 [2, 3]) sz2 ?_
  intro h9 a2 n2 c2 l2 H9
  rw [awe4] at l2 H9 ⊢
  dsimp only at l2 H9 ⊢
  refine ⟨_, _, _, _, rfl, ?_⟩
  have H10 := H9.tl.new (t := T_string) (cs := #[.string (⟨#[120]⟩ : ByteArray)]) (xs := sV [⟨#[120]⟩])
  generalize Array.push h9 _ = h10 at H10 ⊢
  generalize h9.size = nb at H10 ⊢
  have g10 : Gv (pt nb T_string (sV [⟨#[120]⟩]) :: pt bb T_api_Request aw1.l :: own a1 n1 c1 T_uint8 1 (nV [4, 7, 0, 0, 0, 1, 0, 97]) :: L) (some ⟨nb, 0, none⟩) (sV aw3.names) := fun h H => H.ptrd (by rfl)
  refine PutResponse_h (r := aw3) (na := some ⟨nb, 0, none⟩) (nn := 1) (nc := 1) H10 rfl (by decide) g10 (by show (0 : Nat) < 2 ^ 62; decide) ?_
  intro h11 a3 n3 c3 l3 H11
  rw [awe5] at l3 H11 ⊢
  dsimp only at l3 H11 ⊢
  obtain ⟨p1, p2⟩ := own_nil_le H11
  refine ⟨_, _, _, _, rfl, ?_⟩
  refine GetResponse_h (bs := awB) Gv.own l3 p1 p2 (by decide) H11 ?_
  intro h12 na nn nc hn H12
  rw [awe6] at hn H12 ⊢
  dsimp only at hn H12 ⊢
  refine ⟨_, _, _, _, _, _, _, _, _, _, _, rfl, ?_⟩
  have H13 := H12.new (t := T_api_Response) (cs := #[(.int .i64 0), (.int .i64 0), (.int .i64 0), (.int .i64 0), (.string (⟨#[]⟩ : ByteArray)), (.slice none 0 0), (.int .i64 0), (.int .i64 0)]) (xs := Rsp.zero.l none 0 0)
  generalize Array.push h12 _ = h13 at H13 ⊢
  generalize h12.size = db at H13 ⊢
  refine Hs.wrs (xs := Rsp.zero.l none 0 0) H13 ?_
  intro h14 H14
  replace H14 : Hs h14 (pt db T_api_Response (aw3.l na nn nc) :: own na nn nc T_string 1 (sV aw3.names) :: own a3 n3 c3 T_uint8 1 (nV awB) :: pt nb T_string (sV [⟨#[120]⟩]) :: pt bb T_api_Request aw1.l :: own a1 n1 c1 T_uint8 1 (nV [4, 7, 0, 0, 0, 1, 0, 97]) :: L) := H14
  refine br_true rfl (br_true rfl (br_true rfl (br_true rfl (br_true rfl ?_))))
  refine law19_awake.J1_of (br_true rfl ?_)
  have H15 := H14.new (t := T_uint8) (cs := #[(.int .u8 4), (.int .u8 7), (.int .u8 0), (.int .u8 0), (.int .u8 0), (.int .u8 1), (.int .u8 0), (.int .u8 97)]) (xs := nV [4, 7, 0, 0, 0, 1, 0, 97])
  refine keepBytes_spec (xs := [4, 7, 0, 0, 0, 1, 0, 97]) (ys := [4, 7, 0, 0, 0, 1, 0, 97]) (H15.sel 7 [6, 0, 1, 2, 3, 4, 5]).rd (H15.ptrd (by rfl)) l1 rfl (by rw [← l1]; decide) ?_
  refine ⟨_, rfl, br_true rfl ?_⟩
  refine ⟨_, _, _, _, _, _, _, _, (H15.sel 6 [5, 0, 1, 2, 3, 4]).rdc0 (xs := aw1.l), ?_⟩
  refine br_true rfl ?_
  have hn3 : n3 = 27 := by rw [← l3]; rfl
  have hnn : nn = 1 := by rw [← hn]; rfl
  subst hn3 hnn
  refine br_true rfl ?_
  refine ⟨_, H15.m1.cell (off := 0) rfl, br_true rfl ?_⟩
  refine ⟨_, _, _, H15.m1.cell (off := 5) rfl, br_true rfl ?_⟩
  refine ⟨_, _, _, H15.m1.cell (off := 5) rfl, ?_⟩
  refine idx E_sl_string (xs := sV aw3.names) ((H15.sel 3 [2, 0, 1]).rd) (by decide) (by decide) (v := .string ⟨#[120]⟩) rfl ?_
  intro t ht
  exact ⟨_, ht, kk _ (H15.tl.tl.tl.tl.tl.tl.tl)⟩
theorem big_h {r : Req} (H : Hs h L) (kk : ∀ (b : Bool) h', (b = false → r.szs) → Hs h' L → Q (.bool b) h') : SpecH PP F_law19_big [r.v] h Q := by
  refine law19_big.door ?_
  have H1 := H.new (t := T_api_Request) (cs := #[(.int .i64 r.kind), (.int .i64 r.txn), (.string r.archive), (.string r.entry), (.string r.data), (.int .i64 r.frm), (.int .i64 r.most), (.string r.token)]) (xs := r.l)
  refine ⟨_, H1.cell (off := 2) rfl, ?_⟩
  refine (br_iff _ _ _).2 ⟨fun _ => kk true _ (fun q => by cases q) H1.tl, fun q1 => ⟨_, H1.cell (off := 3) rfl, ?_⟩⟩
  refine (br_iff _ _ _).2 ⟨fun _ => kk true _ (fun q => by cases q) H1.tl, fun q2 => ⟨_, H1.cell (off := 4) rfl, ?_⟩⟩
  refine (br_iff _ _ _).2 ⟨fun _ => kk true _ (fun q => by cases q) H1.tl, fun q3 => ⟨_, H1.cell (off := 7) rfl, ?_⟩⟩
  refine kk _ _ (fun q4 => ?_) H1.tl
  simp only [decide_eq_false_iff_not] at q1 q2 q3 q4
  exact ⟨by omega, by omega, by omega, by omega⟩
theorem bigger_loop {K : EP} {rb nn nc : Nat} {na : OA} {r : Rsp} (g : Gv L na (sV r.names)) (hnn : r.names.length = nn) (hmax : nn < 2 ^ 60) (hz : ∀ s ∈ r.names, s.size ≤ 140737488351232) (H : Hs h (pt rb T_api_Response (r.l na nn nc) :: L))
    (kk : ∀ x : Int, (x ≤ 1048576 → r.data.size + nn ≤ 1048576) → K (.exit 0) (law19_bigger.X0 x) h) : ∀ (k i : Nat) (x : Int), i + k = nn → x < 2 ^ 62 → ((r.data.size + nn : Nat) : Int) ≤ x → law19_bigger.L1 ⟨rb, 0, none⟩ x i K h := by
  intro k
  induction k with
  | zero =>
    intro i x hi h1 h2
    refine law19_bigger.L1_of ⟨_, _, _, H.cell (off := 5) rfl, ?_⟩
    exact br_false (by simp; omega) (kk x fun q => by omega)
  | succ k ih =>
    intro i x hi h1 h2
    have hil : i < r.names.length := by omega
    refine law19_bigger.L1_of ⟨_, _, _, H.cell (off := 5) rfl, ?_⟩
    refine br_true (by simp; omega) ?_
    refine (br_iff _ _ _).2 ⟨fun q => ?_, fun q => kk x fun q2 => by simp at q; omega⟩
    refine ⟨_, _, _, H.cell (off := 5) rfl, ?_⟩
    refine idx E_sl_string (g _ H.tl) (by omega) (by omega) (v := .string r.names[i]) (by simp [hil]) ?_
    intro t ht
    refine ⟨_, ht, ?_⟩
    have hs := hz r.names[i] (List.getElem_mem hil)
    have hx : x ≤ 1048576 := by simpa using q
    dsimp only
    rw [inc (by omega), wrap_i64_z (by omega) (by omega)]
    exact ih (i + 1) _ (by omega) (by omega) (by omega)
theorem bigger_h {r : Rsp} {na : OA} {nn nc : Nat} (H : Hs h L) (g : Gv L na (sV r.names)) (hnn : r.names.length = nn) (hmax : nn < 2 ^ 60) (hz : ∀ s ∈ r.names, s.size ≤ 140737488351232) (hd : r.data.size ≤ 140737488351232)
    (kk : ∀ (b : Bool) h', (b = false → r.data.size < 2 ^ 62 ∧ nn ≤ 1048576) → Hs h' L → Q (.bool b) h') : SpecH PP F_law19_bigger [r.v na nn nc] h Q := by
  refine law19_bigger.door ?_
  have H1 := H.new (t := T_api_Response) (cs := #[(.int .i64 r.code), (.int .i64 r.txn), (.int .i64 r.at'), (.int .i64 r.size), (.string r.data), (.slice na nn nc), (.int .i64 r.ub), (.int .i64 r.ue)]) (xs := r.l na nn nc)
  refine ⟨_, H1.cell (off := 4) rfl, ?_⟩
  dsimp only
  refine ⟨_, _, _, H1.cell (off := 5) rfl, ?_⟩
  rw [wrap_i64_z (by omega) (by omega)]
  refine bigger_loop (K := law19_bigger.K1 Q) g hnn hmax hz H1 ?_ nn 0 _ (by omega) (by omega) (by omega)
  intro x hx
  refine law19_bigger.L1_X0 ?_
  exact kk _ _ (fun q => by have : ¬ x > 1048576 := by simpa using q
                            have := hx (by omega)
                            omega) H1.tl
end Go.Proofs.Ytnidhafhgclakaa

set_option linter.unusedVariables false
set_option linter.unusedSimpArgs false
namespace Go.Proofs.Ytnidhafhgclakaa
open Go Go.HW
variable {h : Heap} {L M : List Assn} {Q X : Value → Heap → Prop}
theorem one_req (r : Req) : ∀ v ∈ r.l, oneC v = true := by simp [Req.l, oneC]
theorem one_rsp (r : Rsp) (a : OA) (n c : Nat) : ∀ v ∈ r.l a n c, oneC v = true := by simp [Rsp.l, oneC]
theorem opt_len (b : Bool) (l : List Nat) : (opt b l).length ≤ l.length := by cases b <;> simp [opt]
theorem putReq_len (r : Req) : (putReq r).2.length ≤ 20000 := by
  rw [putReq_eq]
  unfold refPut
  split
  · split
    · split
      · simp
      · rename_i hl
        unfold longR at hl
        have a0 := opt_len (has r.kind 0) (dig r.txn.toNat 4)
        have a1 := opt_len (has r.kind 1) (txtB r.archive)
        have a2 := opt_len (has r.kind 2) (txtB r.entry)
        have a3 := opt_len (has r.kind 3) (txtB r.data)
        have a4 := opt_len (has r.kind 4) (dig r.frm.toNat 4 ++ dig r.most.toNat 4)
        have a6 := opt_len (has r.kind 6) (txtB r.token)
        simp only [List.length_append, dig_len, txtB_len] at a0 a1 a2 a3 a4 a6
        simp only [bodyR, List.length_append, List.length_cons, List.length_nil]
        omega
    · simp
  · simp
theorem putRsp_len (r : Rsp) : (putRsp r).2.length ≤ 20000 := by
  rw [putRsp_eq]
  unfold refPutRsp
  split
  · split
    · simp
    · split
      · split
        · simp
        · rename_i hl; dsimp only; omega
      · simp
  · simp
theorem WirePutRequests_spec {r : Req} (HQ : ∀ h', ExtB h.size h h' → Q (.bool true) h') : SpecH PP F_law19_WirePutRequests [r.v] h Q := by
  refine law19_WirePutRequests.door ?_
  have H1 := (Hs.start h).new (t := T_api_Request) (cs := #[(.int .i64 r.kind), (.int .i64 r.txn), (.string r.archive), (.string r.entry), (.string r.data), (.int .i64 r.frm), (.int .i64 r.most), (.string r.token)]) (xs := r.l)
  refine ⟨_, _, _, _, _, _, _, _, H1.rdc0 (xs := r.l), ?_⟩
  refine big_h (r := r) H1 ?_
  intro b h2 hb H2
  refine ⟨_, rfl, ?_⟩
  refine (br_iff _ _ _).2 ⟨fun _ => HQ h2 H2.tl.ro_below, fun q => ?_⟩
  have hs := hb q
  refine ⟨_, _, _, _, _, _, _, _, H2.rdc0 (xs := r.l), ?_⟩
  refine PutRequest_h (r := r) H2 hs ?_
  intro h3 a n c l3 H3
  refine ⟨_, _, _, _, rfl, ?_⟩
  refine ⟨_, _, _, _, _, _, _, _, H3.m1.rdc0 (xs := r.l), ?_⟩
  refine rPutRequest_h (r := r) hs H3 ?_
  intro h4 a2 n2 c2 l4 H4
  rw [← putReq_eq] at l4 H4 ⊢
  refine ⟨_, _, _, _, rfl, awake_h H4 ?_⟩
  intro h5 H5
  refine ⟨_, rfl, br_true rfl (br_true (by simp) ?_)⟩
  refine keepBytes_spec H5.m1.rd H5.rd l3 l4 (by have := putReq_len r; omega) ?_
  refine ⟨_, rfl, ?_⟩
  rw [decide_eq_true rfl]
  exact HQ h5 (H5.sel 4 [3]).ro_below
theorem WireGetRequests_spec {a : OA} {n c : Nat} {bs : List Nat} (hr : Rd h a (nV bs)) (hn : bs.length = n) (hnc : n ≤ c) (hn0 : a = none → c = 0) (h8 : ∀ x ∈ bs, x < 256) (HQ : ∀ h', ExtB h.size h h' → Q (.bool true) h') : SpecH PP F_law19_WireGetRequests [.slice a n c] h Q := by
  refine law19_WireGetRequests.door ?_
  refine (br_iff _ _ _).2 ⟨fun _ => HQ h (ExtB.refl _ _), fun q => ?_⟩
  have hmax : n ≤ 1048576 := by have : ¬ (n : Int) > 1048576 := by simpa using q
                                omega
  refine Lend_spec hr hn (by omega) (fun e => by have := hn0 e; omega) (Hs.start h) ?_ (Gv.ro hr)
  intro h1 b H1
  refine ⟨_, _, _, rfl, ?_⟩
  refine GetRequest_h (bs := bs) Gv_lent hn (by omega) (fun e => by cases e) (by omega) h8 H1 ?_
  intro h2 H2
  refine ⟨_, _, _, _, _, _, _, _, _, rfl, ?_⟩
  have H3 := H2.new (t := T_api_Request) (cs := #[(.int .i64 0), (.int .i64 0), (.string (⟨#[]⟩ : ByteArray)), (.string (⟨#[]⟩ : ByteArray)), (.string (⟨#[]⟩ : ByteArray)), (.int .i64 0), (.int .i64 0), (.string (⟨#[]⟩ : ByteArray))]) (xs := Req.zero.l)
  refine Hs.wrs (vs := (getReq bs).2.l) (xs := Req.zero.l) H3 ?_ (hv := one_req _)
  intro h4 H4
  refine Back_spec (a := a) (xs := bs) (L := [pt h2.size T_api_Request (getReq bs).2.l, ro h]) (Gv.cons (Gv.ro hr)) hn (by omega) H4.m1 ?_
  intro h5 H5
  refine ⟨_, rfl, ?_⟩
  refine rGetRequest_h (L := [pt h2.size T_api_Request (getReq bs).2.l, ro h]) (bs := bs) (Gv.cons (Gv.ro hr)) hn hnc hn0 h8 H5 ?_
  intro h6 H6
  rw [← getReq_eq]
  refine ⟨_, _, _, _, _, _, _, _, _, rfl, ?_⟩
  have H7 := H6.new (t := T_api_Request) (cs := #[(.int .i64 0), (.int .i64 0), (.string (⟨#[]⟩ : ByteArray)), (.string (⟨#[]⟩ : ByteArray)), (.string (⟨#[]⟩ : ByteArray)), (.int .i64 0), (.int .i64 0), (.string (⟨#[]⟩ : ByteArray))]) (xs := Req.zero.l)
  refine Hs.wrs (vs := (getReq bs).2.l) (xs := Req.zero.l) H7 ?_ (hv := one_req _)
  intro h8' H8
  refine awake_h H8 ?_
  intro h9 H9
  refine ⟨_, rfl, br_true rfl (br_true rfl ?_)⟩
  refine ⟨_, _, _, _, _, _, _, _, H9.m1.rdc0 (xs := (getReq bs).2.l), _, _, _, _, _, _, _, _, H9.rdc0 (xs := (getReq bs).2.l), ?_⟩
  refine br_true (by simp) ?_
  dsimp only
  rw [show ((getReq bs).1 == (getReq bs).1) = true by simp]
  exact HQ h9 H9.tl.tl.ro_below
theorem WireGetResponses_spec {a : OA} {n c : Nat} {bs : List Nat} (hr : Rd h a (nV bs)) (hn : bs.length = n) (hnc : n ≤ c) (hn0 : a = none → c = 0) (h8 : ∀ x ∈ bs, x < 256) (HQ : ∀ h', ExtB h.size h h' → Q (.bool true) h') : SpecH PP F_law19_WireGetResponses [.slice a n c] h Q := by
  refine law19_WireGetResponses.door ?_
  refine (br_iff _ _ _).2 ⟨fun _ => HQ h (ExtB.refl _ _), fun q => ?_⟩
  have hmax : n ≤ 1048576 := by have : ¬ (n : Int) > 1048576 := by simpa using q
                                omega
  refine Lend_spec hr hn (by omega) (fun e => by have := hn0 e; omega) (Hs.start h) ?_ (Gv.ro hr)
  intro h1 b H1
  refine ⟨_, _, _, rfl, ?_⟩
  refine GetResponse_h (bs := bs) Gv_lent hn (by omega) (fun e => by cases e) h8 H1 ?_
  intro h2 na nn nc hnn H2
  refine ⟨_, _, _, _, _, _, _, _, _, _, _, rfl, ?_⟩
  have H3 := H2.new (t := T_api_Response) (cs := #[(.int .i64 0), (.int .i64 0), (.int .i64 0), (.int .i64 0), (.string (⟨#[]⟩ : ByteArray)), (.slice none 0 0), (.int .i64 0), (.int .i64 0)]) (xs := Rsp.zero.l none 0 0)
  refine Hs.wrs (vs := (getRsp bs).2.l na nn nc) (xs := Rsp.zero.l none 0 0) H3 ?_ (hv := one_rsp _ _ _ _)
  intro h4 H4
  refine Back_spec (a := a) (xs := bs) (L := [pt h2.size T_api_Response ((getRsp bs).2.l na nn nc), own na nn nc T_string 1 (sV (getRsp bs).2.names), ro h]) (Gv.cons (Gv.cons (Gv.ro hr))) hn (by omega) (H4.sel 4 [2, 0, 1, 3]) ?_
  intro h5 H5
  refine ⟨_, rfl, ?_⟩
  refine rGetResponse_h (L := [pt h2.size T_api_Response ((getRsp bs).2.l na nn nc), own na nn nc T_string 1 (sV (getRsp bs).2.names), ro h]) (bs := bs) (Gv.cons (Gv.cons (Gv.ro hr))) hn hnc hn0 h8 H5 ?_
  intro h6 ma mn mc hmn H6
  rw [← getRsp_eq] at hmn H6 ⊢
  refine ⟨_, _, _, _, _, _, _, _, _, _, _, rfl, ?_⟩
  have H7 := H6.new (t := T_api_Response) (cs := #[(.int .i64 0), (.int .i64 0), (.int .i64 0), (.int .i64 0), (.string (⟨#[]⟩ : ByteArray)), (.slice none 0 0), (.int .i64 0), (.int .i64 0)]) (xs := Rsp.zero.l none 0 0)
  refine Hs.wrs (vs := (getRsp bs).2.l ma mn mc) (xs := Rsp.zero.l none 0 0) H7 ?_ (hv := one_rsp _ _ _ _)
  intro h8' H8
  refine awake_h H8 ?_
  intro h9 H9
  refine ⟨_, rfl, br_true rfl (br_true rfl ?_)⟩
  refine ⟨_, _, _, _, _, _, _, _, _, _, (H9.sel 5 [2, 0, 1, 3, 4]).rdc0 (xs := (getRsp bs).2.l na nn nc), _, _, _, _, _, _, _, _, _, _, H9.rdc0 (xs := (getRsp bs).2.l ma mn mc), ?_⟩
  refine Same_h (a := (getRsp bs).2) (b := (getRsp bs).2) (na := na) (nn := nn) (nc := nc) (ma := ma) (mn := mn) (mc := mc) H9 (fun h H => (H.sel 5 [3, 0, 1, 2, 4]).rd) (fun h H => H.m1.rd) hnn hmn ?_ ?_ (fun e => absurd rfl e)
  · have := (H9.sel 5 [3, 0, 1, 2, 4]).own_len
    have : nn ≤ bs.length + 64 := by
      rw [← hnn]
      have : (getRsp bs).2.names.length ≤ 64 := by
        unfold getRsp
        split
        · cases hs : rspS false bs Rsp.zero with
          | error e => simp [Rsp.zero]
          | ok x =>
            obtain ⟨b', r'⟩ := x
            dsimp only
            split
            · have hp := putRsp_ok (rsp_one h8 (show getRsp bs = (0, r') by unfold getRsp; rw [if_pos (by assumption), hs]; dsimp only; rw [if_pos (by assumption)]))
              exact hp.2.2.2.1
            · simp [Rsp.zero]
        · simp [Rsp.zero]
      omega
    omega
  · intro _ h10 H10
    refine ⟨_, rfl, br_true rfl ?_⟩
    dsimp only
    rw [show ((getRsp bs).1 == (getRsp bs).1) = true by simp]
    exact HQ h10 (H10.sel 5 [4]).ro_below
theorem WirePutResponses_spec {r : Rsp} {na : OA} {nn nc : Nat} (hr : Rd h na (sV r.names)) (hnn : r.names.length = nn) (hnc : nn ≤ nc) (hmax : nn < 2 ^ 60) (hn0 : na = none → nn = 0) (hz : ∀ s ∈ r.names, s.size ≤ 140737488351232) (hd : r.data.size ≤ 140737488351232)
    (HQ : ∀ h', ExtB h.size h h' → Q (.bool true) h') : SpecH PP F_law19_WirePutResponses [r.v na nn nc] h Q := by
  refine law19_WirePutResponses.door ?_
  have H1 := (Hs.start h).new (t := T_api_Response) (cs := #[(.int .i64 r.code), (.int .i64 r.txn), (.int .i64 r.at'), (.int .i64 r.size), (.string r.data), (.slice na nn nc), (.int .i64 r.ub), (.int .i64 r.ue)]) (xs := r.l na nn nc)
  refine ⟨_, _, _, _, _, _, _, _, _, _, H1.rdc0 (xs := r.l na nn nc), ?_⟩
  refine bigger_h (r := r) (na := na) (nn := nn) (nc := nc) H1 (Gv.cons (Gv.ro hr)) hnn hmax hz hd ?_
  intro b h2 hb H2
  refine ⟨_, rfl, ?_⟩
  refine (br_iff _ _ _).2 ⟨fun _ => HQ h2 H2.tl.ro_below, fun q => ?_⟩
  obtain ⟨hs, hn20⟩ := hb q
  refine ⟨_, _, _, _, _, _, _, _, _, _, H2.rdc0 (xs := r.l na nn nc), ?_⟩
  have H3 := H2.new (t := T_api_Response) (cs := #[(.int .i64 0), (.int .i64 0), (.int .i64 0), (.int .i64 0), (.string (⟨#[]⟩ : ByteArray)), (.slice none 0 0), (.int .i64 0), (.int .i64 0)]) (xs := Rsp.zero.l none 0 0)
  refine Hs.wrs (vs := r.l na nn nc) (xs := Rsp.zero.l none 0 0) H3 ?_ (hv := one_rsp _ _ _ _)
  intro h4 H4
  refine ⟨_, _, _, H4.m1.cell (off := 5) rfl, ?_⟩
  refine H4.make E_sl_string rfl rfl (Nat.le_refl _) (by omega) (by omega) ?_
  intro h5 ob' H5
  refine ⟨_, _, _, rfl, ?_⟩
  refine H5.m1.sto (off := 5) (by simp [Rsp.l]) ?_
  intro h6 H6
  replace H6 : Hs h6 (pt h2.size T_api_Response (r.l (some ⟨ob', 0, none⟩) nn nn) :: pt ob' T_string (List.replicate nn (.string (⟨#[]⟩ : ByteArray))) :: pt h.size T_api_Response (r.l na nn nc) :: [ro h]) := H6
  refine ⟨_, _, _, H6.cell (off := 5) rfl, _, _, _, (H6.sel 3 [2, 0, 1]).cell (off := 5) rfl, ?_⟩
  refine H6.m1.copy (ys := sV r.names) (off := 0) E_sl_string (by simp [hnn]) ((H6.sel 4 [3]).ro_rd hr) hn0 (by simp [hnn]) (fun v hv => by simp only [List.mem_map] at hv; obtain ⟨s, _, rfl⟩ := hv; rfl) ?_
  intro h7 H7
  refine ⟨_, rfl, ?_⟩
  have e7 : (List.replicate nn (Value.string (⟨#[]⟩ : ByteArray))).take 0 ++ sV r.names ++ (List.replicate nn (Value.string (⟨#[]⟩ : ByteArray))).drop (0 + (sV r.names).length) = sV r.names := by simp [hnn]
  rw [e7] at H7
  refine ⟨_, _, _, _, _, _, _, _, _, _, H7.m1.rdc0 (xs := r.l (some ⟨ob', 0, none⟩) nn nn), ?_⟩
  have g1 : Gv (pt ob' T_string (sV r.names) :: pt h2.size T_api_Response (r.l (some ⟨ob', 0, none⟩) nn nn) :: pt h.size T_api_Response (r.l na nn nc) :: [ro h]) (some ⟨ob', 0, none⟩) (sV r.names) := fun h H => H.ptrd (by rw [List.drop_zero, List.take_of_length_le (Nat.le_refl _)])
  refine PutResponse_h (r := r) (na := some ⟨ob', 0, none⟩) (nn := nn) (nc := nn) H7 hnn (Nat.le_refl _) g1 hs ?_
  intro h8 a n c l8 H8
  refine ⟨_, _, _, _, rfl, ?_⟩
  refine ⟨_, _, _, _, _, _, _, _, _, _, (H8.sel 4 [3, 0, 1, 2]).rdc0 (xs := r.l na nn nc), ?_⟩
  refine rPutResponse_h (r := r) (na := na) (nn := nn) (nc := nc) H8 hnn hnc (fun h H => (H.sel 5 [4]).ro_rd hr) ?_
  intro h9 a2 n2 c2 l9 H9
  rw [← putRsp_eq] at l9 H9 ⊢
  refine ⟨_, _, _, _, rfl, awake_h H9 ?_⟩
  intro h10 H10
  refine ⟨_, rfl, br_true rfl (br_true (by simp) ?_)⟩
  refine keepBytes_spec H10.m1.rd H10.rd l8 l9 (by have := putRsp_len r; omega) ?_
  refine ⟨_, rfl, ?_⟩
  rw [decide_eq_true rfl]
  refine br_true rfl ?_
  refine ⟨_, _, _, _, _, _, _, _, _, _, (H10.sel 4 [3, 0, 1, 2]).rdc0 (xs := r.l (some ⟨ob', 0, none⟩) nn nn), _, _, _, _, _, _, _, _, _, _, (H10.sel 5 [4, 0, 1, 2, 3]).rdc0 (xs := r.l na nn nc), ?_⟩
  refine Same_h (a := r) (b := r) (na := some ⟨ob', 0, none⟩) (nn := nn) (nc := nn) (ma := na) (mn := nn) (mc := nc) H10 (fun h H => (H.sel 3 [2]).ptrd (by rw [List.drop_zero, List.take_of_length_le (Nat.le_refl _)])) (fun h H => (H.sel 6 [5]).ro_rd hr) hnn hnn hmax ?_ (fun e => absurd rfl e)
  intro _ h11 H11
  exact ⟨_, rfl, HQ h11 (H11.sel 6 [5]).ro_below⟩
end Go.Proofs.Ytnidhafhgclakaa

set_option linter.unusedVariables false
set_option linter.unusedSimpArgs false
namespace Go.Proofs.Ytnidhafhgclakaa
open Go Go.HW
variable {h : Heap} {L M : List Assn} {Q X : Value → Heap → Prop}
theorem txtB_lt {s : ByteArray} {x : Nat} (h : x ∈ txtB s) : x < 256 := by
  rcases List.mem_append.1 h with h | h
  · exact dig_lt h
  · exact sb_lt h
theorem putReq_lt {r : Req} {a : List Nat} (h : putReq r = (0, a)) : ∀ x ∈ a, x < 256 := by
  obtain ⟨hg, hz, hf, rfl⟩ := putReq_ok h
  have hk : 1 ≤ r.kind ∧ r.kind ≤ 13 := by simpa [goodKind] using hg
  intro x hx
  rcases List.mem_cons.1 hx with rfl | hx
  · omega
  · simp only [encs, List.mem_flatMap] at hx
    obtain ⟨f, _, hx⟩ := hx
    cases f <;> simp only [Fl.enc, List.mem_append] at hx
    case txn => exact dig_lt hx
    case part => exact hx.elim dig_lt dig_lt
    all_goals exact txtB_lt hx
theorem putRsp_lt {r : Rsp} {a : List Nat} (h : putRsp r = (0, a)) : ∀ x ∈ a, x < 256 := by
  obtain ⟨hc, hw, hd, hn, hs, rfl, hl⟩ := putRsp_ok h
  intro x hx
  rcases List.mem_append.1 hx with hx | hx
  · simp only [headR, List.mem_append, List.mem_cons, List.not_mem_nil, or_false] at hx
    rcases hx with ((((((hx | hx) | hx) | hx) | hx) | hx) | hx) | hx
    · rcases hx with rfl | rfl
      · omega
      · omega
    · exact dig_lt hx
    · exact dig_lt hx
    · exact dig_lt hx
    · exact dig_lt hx
    · exact dig_lt hx
    · exact txtB_lt hx
    · omega
  · simp only [encN, List.mem_flatMap] at hx
    obtain ⟨s, hs', hx⟩ := hx
    rcases List.mem_cons.1 hx with rfl | hx
    · have := hs s hs'; omega
    · exact sb_lt hx
theorem putReq_szs {r : Req} {a : List Nat} (h : putReq r = (0, a)) : r.szs := by
  rw [putReq_eq] at h
  unfold refPut at h
  split at h
  · split at h
    · split at h
      · simp at h
      · rename_i hl
        unfold longR at hl
        exact ⟨by omega, by omega, by omega, by omega⟩
    · simp at h
  · simp at h
theorem lt_more {a : List Nat} {m : Nat} (h : ∀ x ∈ a, x < 256) (hm : m < 256) : ∀ x ∈ a ++ [m], x < 256 := by
  intro x hx
  rcases List.mem_append.1 hx with hx | hx
  · exact h x hx
  · simp at hx; omega
theorem WireRound_spec {q : Req} {r : Rsp} {na : OA} {nn nc more : Nat} (hmo : more < 256) (hr : Rd h na (sV r.names)) (hnn : r.names.length = nn) (hnc : nn ≤ nc) (hmax : nn < 2 ^ 60) (hz : ∀ s ∈ r.names, s.size ≤ 140737488351232) (hd : r.data.size ≤ 140737488351232)
    (HQ : ∀ h', ExtB h.size h h' → Q (.bool true) h') : SpecH PP F_law19_WireRound [q.v, r.v na nn nc, .int .u8 more] h Q := by
  refine law19_WireRound.door ?_
  dsimp only
  have H1 := (Hs.start h).new (t := T_api_Request) (cs := #[(.int .i64 q.kind), (.int .i64 q.txn), (.string q.archive), (.string q.entry), (.string q.data), (.int .i64 q.frm), (.int .i64 q.most), (.string q.token)]) (xs := q.l)
  have H2 := H1.new (t := T_api_Response) (cs := #[(.int .i64 r.code), (.int .i64 r.txn), (.int .i64 r.at'), (.int .i64 r.size), (.string r.data), (.slice na nn nc), (.int .i64 r.ub), (.int .i64 r.ue)]) (xs := r.l na nn nc)
  generalize Array.push (Array.push h _) _ = h2 at H2 ⊢
  generalize Array.size (Array.push h _) = rb at H2 ⊢
  generalize hqb : h.size = qb at H2 ⊢
  clear H1
  refine ⟨_, _, _, _, _, _, _, _, H2.m1.rdc0 (xs := q.l), ?_⟩
  refine big_h (r := q) H2 ?_
  intro b h3 hb H3
  refine ⟨_, rfl, ?_⟩
  have big : ∀ h', Hs h' [pt rb T_api_Response (r.l na nn nc), pt qb T_api_Request q.l, ro h] → law19_WireRound.J1 more ⟨qb, 0, none⟩ ⟨rb, 0, none⟩ true Q h' := fun h' H' => law19_WireRound.J1_of (br_true rfl (HQ h' (H'.sel 3 [2]).ro_below))
  refine (br_iff _ _ _).2 ⟨fun _ => big h3 H3, fun qz => ?_⟩
  have hs := hb qz
  refine ⟨_, _, _, _, _, _, _, _, _, _, H3.rdc0 (xs := r.l na nn nc), ?_⟩
  refine bigger_h (r := r) (na := na) (nn := nn) (nc := nc) H3 (fun h H => (H.sel 3 [2]).ro_rd hr) hnn hmax hz hd ?_
  intro b2 h4 hb2 H4
  refine ⟨_, rfl, ?_⟩
  cases b2 with
  | true => exact big h4 H4
  | false =>
  obtain ⟨hds, hn20⟩ := hb2 rfl
  -- the response
  have J3 : ∀ h', Hs h' [pt rb T_api_Response (r.l na nn nc), pt qb T_api_Request q.l, ro h] → law19_WireRound.J3 more ⟨rb, 0, none⟩ Q h' := by
    intro h5 H5
    refine law19_WireRound.J3_of ?_
    refine ⟨_, _, _, _, _, _, _, _, _, _, H5.rdc0 (xs := r.l na nn nc), ?_⟩
    refine PutResponse_h (r := r) (na := na) (nn := nn) (nc := nc) H5 hnn hnc (fun h H => (H.sel 3 [2]).ro_rd hr) hds ?_
    intro h6 a n c l6 H6
    refine ⟨_, _, _, _, rfl, ?_⟩
    have J5 : ∀ h' (M : List Assn), (∀ h, Hs h M → Hs h [ro h]) ∨ True → Hs h' (ro h :: M) → law19_WireRound.J5 Q h' := by
      intro h' M _ H'
      refine law19_WireRound.J5_of (awake_h H' ?_)
      intro h1 H1
      exact ⟨_, rfl, HQ h1 H1.ro_below⟩
    refine (br_iff _ _ _).2 ⟨fun e0 => ?_, fun _ => J5 h6 [] (.inr trivial) (H6.sel 4 [3])⟩
    have e0' : (putRsp r).1 = 0 := by simpa using e0
    generalize hp : putRsp r = pr at l6 H6 e0'
    obtain ⟨e, bs⟩ := pr
    simp only at e0' l6 H6
    subst e0'
    obtain ⟨k1, k2, k3, k4⟩ := rsp_round hp
    have k8 := putRsp_lt hp
    have hlen : bs.length ≤ 20000 := by have := putRsp_len r; rw [hp] at this; exact this
    obtain ⟨o1, o2⟩ := own_nil_le H6
    refine br_false (by simp; omega) ?_
    refine GetResponse_h (bs := bs) Gv.own l6 o1 o2 k8 H6 ?_
    intro h7 ma mn mc hmn H7
    rw [k2] at hmn H7 ⊢
    refine ⟨_, _, _, _, _, _, _, _, _, _, _, rfl, ?_⟩
    have H8 := H7.new (t := T_api_Response) (cs := #[(.int .i64 0), (.int .i64 0), (.int .i64 0), (.int .i64 0), (.string (⟨#[]⟩ : ByteArray)), (.slice none 0 0), (.int .i64 0), (.int .i64 0)]) (xs := Rsp.zero.l none 0 0)
    generalize Array.push h7 _ = h8 at H8 ⊢
    generalize h7.size = yb at H8 ⊢
    refine Hs.wrs (vs := r.l ma mn mc) (xs := Rsp.zero.l none 0 0) H8 ?_ (hv := one_rsp _ _ _ _)
    intro h9 H9
    refine slice_full E_sl_uint8 o1 ?_
    refine ⟨_, _, _, rfl, ?_⟩
    refine H9.app_grow1 E_sl_uint8 (fun h H => (H.sel 3 [2]).rd) (by rw [nV_len, l6]) (fun e => by have := o2 e; omega) (by rfl) ?_ (by omega)
    intro h10 a2 c2 H10
    refine ⟨_, _, _, rfl, ?_⟩
    have H10' : Hs h10 (own a2 (n + 1) c2 T_uint8 1 (nV (bs ++ [more])) :: pt yb T_api_Response (r.l ma mn mc) :: own ma mn mc T_string 1 (sV r.names) :: own a n c T_uint8 1 (nV bs) :: [pt rb T_api_Response (r.l na nn nc), pt qb T_api_Request q.l, ro h]) := by rw [nV_app]; exact H10
    obtain ⟨o3, o4⟩ := own_nil_le H10'
    refine GetResponse_h (bs := bs ++ [more]) Gv.own (by simp [l6]) o3 o4 (lt_more k8 hmo) H10' ?_
    intro h11 xa xn xc hxn H11
    rw [k3]
    refine ⟨_, _, _, _, _, _, _, _, _, _, _, rfl, ?_⟩
    have H12 := H11.new (t := T_api_Response) (cs := #[(.int .i64 0), (.int .i64 0), (.int .i64 0), (.int .i64 0), (.string (⟨#[]⟩ : ByteArray)), (.slice none 0 0), (.int .i64 0), (.int .i64 0)]) (xs := Rsp.zero.l none 0 0)
    generalize Array.push h11 _ = h12 at H12 ⊢
    generalize h11.size = tb at H12 ⊢
    refine Hs.wrs (vs := Rsp.zero.l xa xn xc) (xs := Rsp.zero.l none 0 0) H12 ?_ (hv := one_rsp _ _ _ _)
    intro h13 H13
    dsimp only
    rw [show IntKind.i64.wrap ((n : Int) - 1) = ((n - 1 : Nat) : Int) by rw [wrap_i64_z (by omega) (by omega)]; omega]
    have H14 : Hs h13 (own a n c T_uint8 1 (nV bs) :: pt yb T_api_Response (r.l ma mn mc) :: own ma mn mc T_string 1 (sV r.names) :: [pt rb T_api_Response (r.l na nn nc), pt qb T_api_Request q.l, ro h]) := H13.sel 6 [5, 3, 4]
    refine cutG (L := own a n c T_uint8 1 (nV bs) :: pt yb T_api_Response (r.l ma mn mc) :: own ma mn mc T_string 1 (sV r.names) :: [pt rb T_api_Response (r.l na nn nc), pt qb T_api_Request q.l, ro h]) (lo := none) (hi := some (.int .i64 ((n - 1 : Nat) : Int))) (i := 0) (j := n - 1) E_sl_uint8 Gv.own l6 o1 o2 (by omega) (by omega) rfl rfl ?_
    intro a3 c3 g3 e1 e2 e3
    simp only [Nat.sub_zero, List.drop_zero] at g3 e1 e2 ⊢
    refine ⟨_, _, _, rfl, ?_⟩
    refine GetResponse_h (bs := bs.take (n - 1)) g3 (by simp; omega) e2 e3 (fun x hx => k8 x (List.mem_of_mem_take hx)) H14 ?_
    intro h15 za zn zc hzn H15
    rw [show getRsp (bs.take (n - 1)) = (190, Rsp.zero) by rw [← l6]; exact k4]
    refine ⟨_, _, _, _, _, _, _, _, _, _, _, rfl, ?_⟩
    have H16 := H15.new (t := T_api_Response) (cs := #[(.int .i64 0), (.int .i64 0), (.int .i64 0), (.int .i64 0), (.string (⟨#[]⟩ : ByteArray)), (.slice none 0 0), (.int .i64 0), (.int .i64 0)]) (xs := Rsp.zero.l none 0 0)
    generalize Array.push h15 _ = h16 at H16 ⊢
    generalize h15.size = ub at H16 ⊢
    refine Hs.wrs (vs := Rsp.zero.l za zn zc) (xs := Rsp.zero.l none 0 0) H16 ?_ (hv := one_rsp _ _ _ _)
    intro h17 H17
    have H18 : Hs h17 (pt yb T_api_Response (r.l ma mn mc) :: own ma mn mc T_string 1 (sV r.names) :: [pt rb T_api_Response (r.l na nn nc), pt qb T_api_Request q.l, ro h]) := H17.sel 5 [3, 4]
    refine br_false rfl ?_
    refine ⟨_, _, _, _, _, _, _, _, _, _, H18.rdc0 (xs := r.l ma mn mc), _, _, _, _, _, _, _, _, _, _, (H18.sel 3 [2]).rdc0 (xs := r.l na nn nc), ?_⟩
    refine Same_h (a := r) (b := r) (na := ma) (nn := mn) (nc := mc) (ma := na) (mn := nn) (mc := nc) H18 (fun h H => H.m1.rd) (fun h H => (H.sel 5 [4]).ro_rd hr) hmn hnn (by have : r.names.length = mn := hmn; omega) ?_ (fun e => absurd rfl e)
    intro _ h19 H19
    refine ⟨_, rfl, br_false rfl (br_false rfl ?_)⟩
    exact law19_WireRound.J4_of (br_false rfl (J5 h19 [] (.inr trivial) (H19.sel 5 [4])))
  refine law19_WireRound.J1_of (br_false rfl ?_)
  refine ⟨_, _, _, _, _, _, _, _, H4.m1.rdc0 (xs := q.l), ?_⟩
  refine PutRequest_h (r := q) H4 hs ?_
  intro h6 a n c l6 H6
  refine ⟨_, _, _, _, rfl, ?_⟩
  refine (br_iff _ _ _).2 ⟨fun e0 => ?_, fun _ => J3 h6 H6.tl⟩
  have e0' : (putReq q).1 = 0 := by simpa using e0
  generalize hp : putReq q = pr at l6 H6 e0'
  obtain ⟨e, bs⟩ := pr
  simp only at e0' l6 H6
  subst e0'
  obtain ⟨k1, k2, k3, k4⟩ := req_round hp
  have k8 := putReq_lt hp
  have hlen : bs.length ≤ 20000 := by have := putReq_len q; rw [hp] at this; exact this
  obtain ⟨o1, o2⟩ := own_nil_le H6
  refine br_false (by simp; omega) ?_
  refine GetRequest_h (bs := bs) Gv.own l6 o1 o2 (by omega) k8 H6 ?_
  intro h7 H7
  rw [k2]
  refine ⟨_, _, _, _, _, _, _, _, _, rfl, ?_⟩
  have H8 := H7.new (t := T_api_Request) (cs := #[(.int .i64 0), (.int .i64 0), (.string (⟨#[]⟩ : ByteArray)), (.string (⟨#[]⟩ : ByteArray)), (.string (⟨#[]⟩ : ByteArray)), (.int .i64 0), (.int .i64 0), (.string (⟨#[]⟩ : ByteArray))]) (xs := Req.zero.l)
  generalize Array.push h7 _ = h8 at H8 ⊢
  generalize h7.size = xb at H8 ⊢
  refine Hs.wrs (vs := q.l) (xs := Req.zero.l) H8 ?_ (hv := one_req _)
  intro h9 H9
  refine slice_full E_sl_uint8 o1 ?_
  refine ⟨_, _, _, rfl, ?_⟩
  refine H9.app_grow1 E_sl_uint8 (fun h H => (H.sel 2 [1]).rd) (by rw [nV_len, l6]) (fun e => by have := o2 e; omega) (by rfl) ?_ (by omega)
  intro h10 a2 c2 H10
  refine ⟨_, _, _, rfl, ?_⟩
  have H10' : Hs h10 (own a2 (n + 1) c2 T_uint8 1 (nV (bs ++ [more])) :: pt xb T_api_Request q.l :: own a n c T_uint8 1 (nV bs) :: [pt rb T_api_Response (r.l na nn nc), pt qb T_api_Request q.l, ro h]) := by rw [nV_app]; exact H10
  obtain ⟨o3, o4⟩ := own_nil_le H10'
  refine GetRequest_h (bs := bs ++ [more]) Gv.own (by simp [l6]) o3 o4 (by omega) (lt_more k8 hmo) H10' ?_
  intro h11 H11
  rw [k3]
  refine ⟨_, _, _, _, _, _, _, _, _, rfl, ?_⟩
  have H12 := H11.new (t := T_api_Request) (cs := #[(.int .i64 0), (.int .i64 0), (.string (⟨#[]⟩ : ByteArray)), (.string (⟨#[]⟩ : ByteArray)), (.string (⟨#[]⟩ : ByteArray)), (.int .i64 0), (.int .i64 0), (.string (⟨#[]⟩ : ByteArray))]) (xs := Req.zero.l)
  generalize Array.push h11 _ = h12 at H12 ⊢
  generalize h11.size = tb at H12 ⊢
  refine Hs.wrs (vs := Req.zero.l) (xs := Req.zero.l) H12 ?_ (hv := one_req _)
  intro h13 H13
  dsimp only
  rw [show IntKind.i64.wrap ((n : Int) - 1) = ((n - 1 : Nat) : Int) by rw [wrap_i64_z (by omega) (by omega)]; omega]
  have H14 : Hs h13 (own a n c T_uint8 1 (nV bs) :: pt xb T_api_Request q.l :: [pt rb T_api_Response (r.l na nn nc), pt qb T_api_Request q.l, ro h]) := H13.sel 4 [3, 2]
  refine cutG (L := own a n c T_uint8 1 (nV bs) :: pt xb T_api_Request q.l :: [pt rb T_api_Response (r.l na nn nc), pt qb T_api_Request q.l, ro h]) (lo := none) (hi := some (.int .i64 ((n - 1 : Nat) : Int))) (i := 0) (j := n - 1) E_sl_uint8 Gv.own l6 o1 o2 (by omega) (by omega) rfl rfl ?_
  intro a3 c3 g3 e1 e2 e3
  simp only [Nat.sub_zero, List.drop_zero] at g3 e1 e2 ⊢
  refine ⟨_, _, _, rfl, ?_⟩
  refine GetRequest_h (bs := bs.take (n - 1)) g3 (by simp; omega) e2 e3 (by omega) (fun x hx => k8 x (List.mem_of_mem_take hx)) H14 ?_
  intro h15 H15
  rw [show getReq (bs.take (n - 1)) = (190, Req.zero) by rw [← l6]; exact k4]
  refine ⟨_, _, _, _, _, _, _, _, _, rfl, ?_⟩
  have H16 := H15.new (t := T_api_Request) (cs := #[(.int .i64 0), (.int .i64 0), (.string (⟨#[]⟩ : ByteArray)), (.string (⟨#[]⟩ : ByteArray)), (.string (⟨#[]⟩ : ByteArray)), (.int .i64 0), (.int .i64 0), (.string (⟨#[]⟩ : ByteArray))]) (xs := Req.zero.l)
  generalize Array.push h15 _ = h16 at H16 ⊢
  generalize h15.size = ub at H16 ⊢
  refine Hs.wrs (vs := Req.zero.l) (xs := Req.zero.l) H16 ?_ (hv := one_req _)
  intro h17 H17
  have H18 : Hs h17 (pt xb T_api_Request q.l :: [pt rb T_api_Response (r.l na nn nc), pt qb T_api_Request q.l, ro h]) := H17.sel 3 [2]
  refine br_false rfl ?_
  refine ⟨_, _, _, _, _, _, _, _, H18.rdc0 (xs := q.l), _, _, _, _, _, _, _, _, (H18.sel 3 [2]).rdc0 (xs := q.l), ?_⟩
  refine br_false (by simp) (br_false rfl ?_)
  exact law19_WireRound.J2_of (br_false rfl (J3 h17 H18.tl))
theorem WireOne_spec {a : OA} {n c : Nat} {bs : List Nat} (hr : Rd h a (nV bs)) (hn : bs.length = n) (hnc : n ≤ c) (hn0 : a = none → c = 0) (h8 : ∀ x ∈ bs, x < 256) (HQ : ∀ h', ExtB h.size h h' → Q (.bool true) h') : SpecH PP F_law19_WireOne [.slice a n c] h Q := by
  refine law19_WireOne.door ?_
  refine (br_iff _ _ _).2 ⟨fun _ => HQ h (ExtB.refl _ _), fun q => ?_⟩
  have hmax : n ≤ 1048576 := by have : ¬ (n : Int) > 1048576 := by simpa using q
                                omega
  have J4 : ∀ h', Hs h' [ro h] → law19_WireOne.J4 Q h' := fun h' H' => law19_WireOne.J4_of (awake_h H' fun h1 H1 => ⟨_, rfl, HQ h1 H1.ro_below⟩)
  have J2 : ∀ h', Hs h' [ro h] → law19_WireOne.J2 a n c Q h' := by
    intro h1 H1
    refine law19_WireOne.J2_of ?_
    refine GetResponse_h (bs := bs) (Gv.ro hr) hn hnc hn0 h8 H1 ?_
    intro h2 na nn nc hnn H2
    refine ⟨_, _, _, _, _, _, _, _, _, _, _, rfl, ?_⟩
    have H3 := H2.new (t := T_api_Response) (cs := #[(.int .i64 0), (.int .i64 0), (.int .i64 0), (.int .i64 0), (.string (⟨#[]⟩ : ByteArray)), (.slice none 0 0), (.int .i64 0), (.int .i64 0)]) (xs := Rsp.zero.l none 0 0)
    generalize Array.push h2 _ = h3 at H3 ⊢
    generalize h2.size = rb at H3 ⊢
    refine Hs.wrs (vs := (getRsp bs).2.l na nn nc) (xs := Rsp.zero.l none 0 0) H3 ?_ (hv := one_rsp _ _ _ _)
    intro h4 H4
    refine (br_iff _ _ _).2 ⟨fun e0 => ?_, fun _ => J4 h4 (H4.sel 3 [2])⟩
    have e0' : (getRsp bs).1 = 0 := by simpa using e0
    generalize hp : getRsp bs = pr at hnn H4 e0'
    obtain ⟨e, r⟩ := pr
    simp only at e0' hnn H4
    subst e0'
    have hone := rsp_one h8 hp
    have hsz := (putRsp_ok hone).2.2.1
    refine ⟨_, _, _, _, _, _, _, _, _, _, H4.rdc0 (xs := r.l na nn nc), ?_⟩
    have hnc' : nn ≤ nc := H4.m1.own_le
    refine PutResponse_h (r := r) (na := na) (nn := nn) (nc := nc) H4 hnn hnc' (fun h H => H.m1.rd) (by omega) ?_
    intro h5 a2 n2 c2 l5 H5
    rw [hone] at l5 H5 ⊢
    refine ⟨_, _, _, _, rfl, br_false rfl ?_⟩
    refine keepBytes_spec H5.rd ((H5.sel 4 [3]).ro_rd hr) l5 hn (by have : bs.length = n2 := l5; omega) ?_
    refine ⟨_, rfl, ?_⟩
    rw [decide_eq_true rfl]
    exact law19_WireOne.J3_of (br_false rfl (J4 h5 (H5.sel 4 [3])))
  refine GetRequest_h (bs := bs) (Gv.ro hr) hn hnc hn0 (by omega) h8 (Hs.start h) ?_
  intro h2 H2
  refine ⟨_, _, _, _, _, _, _, _, _, rfl, ?_⟩
  have H3 := H2.new (t := T_api_Request) (cs := #[(.int .i64 0), (.int .i64 0), (.string (⟨#[]⟩ : ByteArray)), (.string (⟨#[]⟩ : ByteArray)), (.string (⟨#[]⟩ : ByteArray)), (.int .i64 0), (.int .i64 0), (.string (⟨#[]⟩ : ByteArray))]) (xs := Req.zero.l)
  generalize Array.push h2 _ = h3 at H3 ⊢
  generalize h2.size = rb at H3 ⊢
  refine Hs.wrs (vs := (getReq bs).2.l) (xs := Req.zero.l) H3 ?_ (hv := one_req _)
  intro h4 H4
  refine (br_iff _ _ _).2 ⟨fun e0 => ?_, fun _ => J2 h4 (H4.sel 2 [1])⟩
  have e0' : (getReq bs).1 = 0 := by simpa using e0
  generalize hp : getReq bs = pr at H4 e0'
  obtain ⟨e, r⟩ := pr
  simp only at e0' H4
  subst e0'
  have hone := req_one h8 hp
  refine ⟨_, _, _, _, _, _, _, _, H4.rdc0 (xs := r.l), ?_⟩
  refine PutRequest_h (r := r) H4 (putReq_szs hone) ?_
  intro h5 a2 n2 c2 l5 H5
  rw [hone] at l5 H5 ⊢
  refine ⟨_, _, _, _, rfl, br_false rfl ?_⟩
  refine keepBytes_spec H5.rd ((H5.sel 3 [2]).ro_rd hr) l5 hn (by have : bs.length = n2 := l5; omega) ?_
  refine ⟨_, rfl, ?_⟩
  rw [decide_eq_true rfl]
  exact law19_WireOne.J1_of (br_false rfl (J2 h5 (H5.sel 3 [2])))
end Go.Proofs.Ytnidhafhgclakaa

set_option linter.unusedVariables false
namespace Go.Proofs.Ytnidhafhgclakaa
open Go Go.HW
theorem open_req {W : World} {ecs : List Value} (hl : ecs.length = 8) (g : Dat PP W T_api_Request ecs) : ∃ x, ecs = Req.l x ∧ True := by
  match ecs, hl with
  | [a0, a1, a2, a3, a4, a5, a6, a7], _ =>
    have f := g.fields
    rw [FL_api_Request] at f
    obtain ⟨n0, e0, _⟩ := (f (T_api_ReqKind, 0, 1) (by simp)).i64 U_api_ReqKind
    obtain ⟨n1, e1, _⟩ := (f (T_int, 1, 1) (by simp)).i64 U_int
    obtain ⟨s2, e2, _⟩ := (f (T_string, 2, 1) (by simp)).str U_string
    obtain ⟨s3, e3, _⟩ := (f (T_string, 3, 1) (by simp)).str U_string
    obtain ⟨s4, e4, _⟩ := (f (T_string, 4, 1) (by simp)).str U_string
    obtain ⟨n5, e5, _⟩ := (f (T_int, 5, 1) (by simp)).i64 U_int
    obtain ⟨n6, e6, _⟩ := (f (T_int, 6, 1) (by simp)).i64 U_int
    obtain ⟨s7, e7, _⟩ := (f (T_string, 7, 1) (by simp)).str U_string
    cases e0; cases e1; cases e2; cases e3; cases e4; cases e5; cases e6; cases e7
    exact ⟨⟨n0, n1, s2, s3, s4, n5, n6, s7⟩, rfl, trivial⟩
structure RspA where
  r : Rsp
  a : OA
  n : Nat
  c : Nat
def rspV (x : RspA) : List Value := x.r.l x.a x.n x.c
structure RspWf (h : Heap) (x : RspA) : Prop where
  rd : Rd h x.a (sV x.r.names)
  len : x.r.names.length = x.n
  le : x.n ≤ x.c
  max : x.n < 2 ^ 60
  nil : x.a = none → x.n = 0
  szs : ∀ s ∈ x.r.names, s.size ≤ 140737488351232
  data : x.r.data.size ≤ 140737488351232
theorem open_rsp {W : World} {ecs : List Value} (hl : ecs.length = 8) (g : Dat PP W T_api_Response ecs) : ∃ x, ecs = rspV x ∧ RspWf W.heap x := by
  match ecs, hl with
  | [a0, a1, a2, a3, a4, a5, a6, a7], _ =>
    have f := g.fields
    rw [FL_api_Response] at f
    obtain ⟨n0, e0, _⟩ := (f (T_api_Errno, 0, 1) (by simp)).i64 U_api_Errno
    obtain ⟨n1, e1, _⟩ := (f (T_int, 1, 1) (by simp)).i64 U_int
    obtain ⟨n2, e2, _⟩ := (f (T_int, 2, 1) (by simp)).i64 U_int
    obtain ⟨n3, e3, _⟩ := (f (T_int, 3, 1) (by simp)).i64 U_int
    obtain ⟨s4, e4, h4⟩ := (f (T_string, 4, 1) (by simp)).str U_string
    obtain ⟨ad, m, c, l, e5, hr, hn, hnc, _, hnil, hs, hw⟩ := (f (T_sl_string, 5, 1) (by simp)).rows (fun s => [Value.string s]) (fun s => s.size ≤ 140737488351232) (sz := 1) (e := T_string) U_sl_string C_string (fun _ => rfl)
      (fun ecs hl g => by obtain ⟨x, e, h⟩ := g.str U_string; exact ⟨x, e, h⟩)
    have fu := (f (T_api_Use, 6, 2) (by simp)).fields
    rw [FL_api_Use] at fu
    obtain ⟨n6, e6, _⟩ := (fu (T_int, 0, 1) (by simp)).i64 U_int
    obtain ⟨n7, e7, _⟩ := (fu (T_int, 1, 1) (by simp)).i64 U_int
    rw [show PP.bytesOf T_string = 16 by kernel_rfl] at hs
    cases e0; cases e1; cases e2; cases e3; cases e4; cases e5; cases e6; cases e7
    refine ⟨⟨⟨n0, n1, n2, n3, s4, l, n6, n7⟩, ad, m, c⟩, rfl, ?_, hn, hnc, by show m < 2 ^ 60; omega, fun e => by have := hnil e; show m = 0; omega, hw, h4⟩
    rwa [flatMap_one] at hr
end Go.Proofs.Ytnidhafhgclakaa
