/- Plain law of frames: a stream is read frame by frame. -/
import Derived.Test.YtdjjchfhccmjgaaDoorLUse
set_option linter.unusedVariables false
set_option linter.unusedSimpArgs false
namespace Go.Proofs.YtdjjchfhccmjgaaDoor
open Go Go.HW
structure Fm where
  kind : Int
  body : ByteArray
def frV (f : Fm) : List Value := [.int .i64 f.kind, .string f.body]
inductive Nx where
  | wait
  | bad (e : Int)
  | got (f : Fm) (n : Nat)
/-- What stands at the head of a stream. -/
def nx (bs : List Nat) : Nx :=
  if bs.length < 4 then .wait
  else if 20000 < get4 (bs.take 4) then .bad 180
  else if 5 ≤ bs.length ∧ bs.getD 4 0 = 0 then .bad 182
  else if bs.length < get4 (bs.take 4) + 9 then .wait
  else if get4 ((bs.drop (5 + get4 (bs.take 4))).take 4) ≠ crc ((bs.drop 4).take (1 + get4 (bs.take 4))) then .bad 181
  else .got ⟨bs.getD 4 0, st ((bs.drop 5).take (get4 (bs.take 4)))⟩ (get4 (bs.take 4) + 9)
theorem nx_got {bs : List Nat} {f : Fm} {n : Nat} (h : nx bs = .got f n) : 9 ≤ n ∧ n ≤ bs.length := by
  unfold nx at h
  repeat' split at h
  all_goals first | (cases h; done) | skip
  rename_i h1 h2 h3 h4 h5
  injection h with _ hn
  omega
theorem nx_app {bs cs : List Nat} (h : nx bs ≠ .wait) : nx (bs ++ cs) = nx bs := by
  have t4 : 4 ≤ bs.length := by
    rcases Nat.lt_or_ge bs.length 4 with h1 | h1
    · exact absurd (by unfold nx; rw [if_pos h1]) h
    · exact h1
  have e4 : (bs ++ cs).take 4 = bs.take 4 := List.take_append_of_le_length t4
  unfold nx at h ⊢
  rw [e4]
  rw [if_neg (by omega)] at h
  rw [if_neg (by rw [List.length_append]; omega), if_neg (show ¬ bs.length < 4 by omega)]
  by_cases h2 : 20000 < get4 (bs.take 4)
  · rw [if_pos h2, if_pos h2]
  rw [if_neg h2] at h
  rw [if_neg h2, if_neg h2]
  by_cases h3 : 5 ≤ bs.length ∧ bs.getD 4 0 = 0
  · have : (bs ++ cs).getD 4 0 = bs.getD 4 0 := by rw [List.getD_eq_getElem?_getD, List.getD_eq_getElem?_getD, List.getElem?_append_left (by omega)]
    rw [if_pos h3, if_pos ⟨by rw [List.length_append]; omega, by rw [this]; exact h3.2⟩]
  rw [if_neg h3] at h
  by_cases h4 : bs.length < get4 (bs.take 4) + 9
  · rw [if_pos h4] at h; exact absurd rfl h
  rw [if_neg h4] at h
  have g4 : (bs ++ cs).getD 4 0 = bs.getD 4 0 := by rw [List.getD_eq_getElem?_getD, List.getD_eq_getElem?_getD, List.getElem?_append_left (by omega)]
  have d : ∀ i n, i + n ≤ bs.length → ((bs ++ cs).drop i).take n = (bs.drop i).take n := by
    intro i n hi
    rw [List.drop_append_of_le_length (by omega), List.take_append_of_le_length (by rw [List.length_drop]; omega)]
  rw [g4, if_neg (by intro hc; exact h3 ⟨by omega, hc.2⟩), if_neg (by rw [List.length_append]; omega), if_neg h3, if_neg h4, d _ _ (by omega), d _ _ (by omega), d _ _ (by omega)]
/-- A stream's frames, its fault, what is left. -/
def rd (bs : List Nat) : List Fm × Int × List Nat :=
  match h : nx bs with
  | .wait => ([], 0, bs)
  | .bad e => ([], e, bs)
  | .got f n => let r := rd (bs.drop n); (f :: r.1, r.2.1, r.2.2)
termination_by bs.length
decreasing_by have := nx_got h; rw [List.length_drop]; omega
theorem rd_wait {bs : List Nat} (h : nx bs = .wait) : rd bs = ([], 0, bs) := by rw [rd]; split <;> simp_all
theorem rd_bad {bs : List Nat} {e : Int} (h : nx bs = .bad e) : rd bs = ([], e, bs) := by rw [rd]; split <;> simp_all
theorem rd_got {bs : List Nat} {f : Fm} {n : Nat} (h : nx bs = .got f n) : rd bs = (f :: (rd (bs.drop n)).1, (rd (bs.drop n)).2.1, (rd (bs.drop n)).2.2) := by rw [rd]; split <;> simp_all
theorem bad_ne {bs : List Nat} {e : Int} (h : nx bs = .bad e) : e = 180 ∨ e = 181 ∨ e = 182 := by
  unfold nx at h
  repeat' split at h
  all_goals first | (cases h; done) | (injection h with h; omega)
/-- Reading in pieces is reading the whole. -/
theorem rd_app (k : Nat) : ∀ (bs cs : List Nat), bs.length ≤ k → rd (bs ++ cs) = if (rd bs).2.1 = 0 then ((rd bs).1 ++ (rd ((rd bs).2.2 ++ cs)).1, (rd ((rd bs).2.2 ++ cs)).2) else ((rd bs).1, (rd bs).2.1, (rd bs).2.2 ++ cs) := by
  induction k with
  | zero =>
    intro bs cs hk
    have h : nx bs = .wait := by unfold nx; rw [if_pos (by omega)]
    rw [rd_wait h]; simp
  | succ k ih =>
    intro bs cs hk
    cases h : nx bs with
    | wait => rw [rd_wait h]; simp
    | bad e =>
      have hb := bad_ne h
      have h2 : nx (bs ++ cs) = .bad e := by rw [nx_app (by rw [h]; exact fun h => nomatch h), h]
      rw [rd_bad h, rd_bad h2, if_neg (by show e ≠ 0; omega)]
    | got f n =>
      have hg := nx_got h
      have h2 : nx (bs ++ cs) = .got f n := by rw [nx_app (by rw [h]; exact fun h => nomatch h), h]
      rw [rd_got h, rd_got h2, List.drop_append_of_le_length hg.2, ih _ _ (by rw [List.length_drop]; omega)]
      simp only []
      split <;> rfl
theorem rd_wrong (bs : List Nat) (k : Nat) : bs.length ≤ k → (rd bs).2.1 = 0 ∨ (rd bs).2.1 = 180 ∨ (rd bs).2.1 = 181 ∨ (rd bs).2.1 = 182 := by
  induction k generalizing bs with
  | zero => intro hk; rw [rd_wait (by unfold nx; rw [if_pos (by omega)])]; simp
  | succ k ih =>
    intro hk
    cases h : nx bs with
    | wait => rw [rd_wait h]; simp
    | bad e => rw [rd_bad h]; exact .inr (bad_ne h)
    | got f n => have hg := nx_got h; rw [rd_got h]; exact ih _ (by rw [List.length_drop]; omega)
end Go.Proofs.YtdjjchfhccmjgaaDoor
