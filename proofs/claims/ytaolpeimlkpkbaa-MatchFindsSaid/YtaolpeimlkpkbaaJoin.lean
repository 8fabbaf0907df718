/- What rows of tokens say, one behind the other (plain). -/
import Derived.Test.YtaolpeimlkpkbaaCost
set_option linter.unusedVariables false
set_option linter.unusedSimpArgs false
namespace Go.Proofs.Ytaolpeimlkpkbaa
open Go Go.HW
theorem ex_app {lim : Nat} : ∀ (l m : List Tok) (out : List Nat), exGo lim (l ++ m) out = if (exGo lim l out).1 = 0 then exGo lim m (exGo lim l out).2 else exGo lim l out
  | [], m, out => by simp [exGo]
  | t :: l, m, out => by
    simp only [List.cons_append, exGo]
    split
    · rfl
    · split
      · rfl
      · exact ex_app l m _
theorem cp_shift (a : List Nat) {d : Nat} : ∀ (n : Nat) (out : List Nat), 1 ≤ d → d ≤ out.length → cp d n (a ++ out) = a ++ cp d n out
  | 0, out, _, _ => rfl
  | n + 1, out, h1, h2 => by
    rw [cp, cp, List.length_append, List.append_assoc]
    have e : (a ++ out).getD (a.length + out.length - d) 0 = out.getD (out.length - d) 0 := by
      rw [List.getD_eq_getElem?_getD, List.getElem?_append_right (by omega), List.getD_eq_getElem?_getD]
      congr 2; omega
    rw [e]
    exact cp_shift a n _ h1 (by simp; omega)
theorem step_shift (a : List Nat) {t : Tok} {out : List Nat} (h : may t out.length = true) : step t (a ++ out) = a ++ step t out := by
  unfold step
  rcases may_len h with h | h
  · rw [if_pos h.1, if_pos h.1, h.1, List.append_assoc]; rfl
  · rw [if_neg (by omega), if_neg (by omega)]; exact cp_shift a _ _ (by omega) (by omega)
theorem may_more {t : Tok} {s u : Nat} (h : may t s = true) (hs : s ≤ u) : may t u = true := by
  unfold may at *
  split at h
  · rename_i e; rw [if_pos e]; exact h
  · rename_i e; rw [if_neg e]; have := of_decide_eq_true h; exact decide_eq_true (by omega)
theorem ex_ok {lim : Nat} {t : Tok} {l : List Tok} {out r : List Nat} (h : exGo lim (t :: l) out = (0, r)) : may t out.length = true ∧ out.length + one t ≤ lim ∧ exGo lim l (step t out) = (0, r) := by
  rw [exGo] at h
  split at h
  · cases h
  · rename_i hm
    split at h
    · cases h
    · exact ⟨by simpa using hm, by omega, h⟩
theorem ex_ge {lim : Nat} : ∀ {l : List Tok} {out r : List Nat}, exGo lim l out = (0, r) → out.length ≤ r.length
  | [], out, r, h => by cases h; exact Nat.le_refl _
  | t :: l, out, r, h => by
    obtain ⟨h1, h2, h3⟩ := ex_ok h
    have := ex_ge h3
    rw [step_len h1] at this
    omega
theorem ex_shift {lim : Nat} (a : List Nat) : ∀ {l : List Tok} {out r : List Nat}, exGo lim l out = (0, r) → a.length + out.length ≤ lim →
    exGo lim l (a ++ out) = if a.length + r.length ≤ lim then (0, a ++ r) else (2, [])
  | [], out, r, h, hl => by cases h; simp only [exGo]; rw [if_pos hl]
  | t :: l, out, r, h, hl => by
    obtain ⟨hm2, h2, h3⟩ := ex_ok h
    have hm3 : may t (a ++ out).length = true := may_more hm2 (by simp)
    have hge := ex_ge h3
    rw [step_len hm2] at hge
    rw [exGo, if_neg (fun q => by rw [hm3] at q; cases q), List.length_append]
    by_cases e : a.length + out.length + one t > lim
    · rw [if_pos e, if_neg (by omega)]
    · rw [if_neg e, step_shift a hm2]
      exact ex_shift a h3 (by rw [step_len hm2]; omega)
theorem costs_app (l m : List Tok) : costs (l ++ m) = costs l + costs m := by unfold costs; rw [List.map_append, List.sum_append]
theorem exAll_def (l : List Tok) : exAll l 16384 = exGo 16384 l [] := by unfold exAll; rw [if_neg (by omega)]; rfl
/-- Rows that say bytes each, together. -/
theorem exAll_app {l m : List Tok} (h1 : (exAll l 16384).1 = 0) (h2 : (exAll m 16384).1 = 0) :
    exAll (l ++ m) 16384 = if (exAll l 16384).2.length + (exAll m 16384).2.length ≤ 16384 then (0, (exAll l 16384).2 ++ (exAll m 16384).2) else (2, []) := by
  simp only [exAll_def] at *
  rw [ex_app, if_pos h1]
  have hle := ex_len (lim := 16384) (l := l) (out := []) (by simp)
  generalize hx : exGo 16384 m [] = x at h2 ⊢
  obtain ⟨x1, r⟩ := x
  simp only at h2
  subst h2
  have := ex_shift (exGo 16384 l []).2 hx (by simpa using hle)
  rw [List.append_nil] at this
  exact this
theorem ck_exAll (l : List Tok) : (exAll l 16384).1 = ckGo l 0 := ck_ex l []
end Go.Proofs.Ytaolpeimlkpkbaa
