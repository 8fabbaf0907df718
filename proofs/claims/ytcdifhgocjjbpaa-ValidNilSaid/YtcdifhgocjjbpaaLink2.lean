/- The two sets are alike (plain): what is staged. -/
import Derived.Test.YtcdifhgocjjbpaaLink
set_option linter.unusedVariables false
set_option linter.unusedSimpArgs false
namespace Go.Proofs.Ytcdifhgocjjbpaa
open Go Go.HW
theorem mem_stg {w y : Wr} : ∀ {l : List Wr}, y ∈ stg w l → y = w ∨ y ∈ l
  | [], h => by simp [stg] at h; exact .inl h
  | x :: l, h => by
    rw [stg] at h
    split at h
    · rcases List.mem_cons.1 h with h | h
      · exact .inr (h ▸ List.mem_cons_self ..)
      · exact (mem_stg h).imp id (List.mem_cons_of_mem _)
    · split at h
      · rcases List.mem_cons.1 h with h | h
        · exact .inl h
        · exact .inr (List.mem_cons_of_mem _ h)
      · rcases List.mem_cons.1 h with h | h
        · exact .inl h
        · exact .inr h
theorem gt_of {a b : Key} (h1 : klt a b ≠ true) (h2 : a ≠ b) : klt b a = true := by
  cases e : klt b a with
  | true => rfl
  | false => exact absurd (klt_tri (by simpa using h1) e) h2
theorem rise_stg {w : Wr} : ∀ {l : List Wr}, Rise l → Rise (stg w l)
  | [], _ => by simp [stg, Rise]
  | x :: l, h => by
    have hc := List.pairwise_cons.1 h
    rw [stg]
    split
    · rename_i e
      refine List.pairwise_cons.2 ⟨fun y hy => ?_, rise_stg hc.2⟩
      rcases mem_stg hy with rfl | hy
      · exact e
      · exact hc.1 y hy
    · rename_i e
      split
      · rename_i e2
        exact List.pairwise_cons.2 ⟨fun y hy => by have := hc.1 y hy; unfold wlt at this ⊢; rw [← e2]; exact this, hc.2⟩
      · rename_i e2
        have g := gt_of e e2
        refine List.pairwise_cons.2 ⟨fun y hy => ?_, h⟩
        rcases List.mem_cons.1 hy with rfl | hy
        · exact g
        · exact klt_trans g (hc.1 y hy)
theorem keep_all {k : Key} {l : List Wr} (h : ∀ y ∈ l, y.k ≠ k) : l.filter (fun x => !decide (x.k = k)) = l := by
  rw [List.filter_eq_self]; intro y hy; simp [h y hy]
theorem ne_of_lt {a b : Key} (h : klt a b = true) : b ≠ a := fun q => by rw [q, klt_irrefl] at h; cases h
theorem stg_perm {w : Wr} : ∀ {l : List Wr}, Rise l → (stg w l).Perm (w :: l.filter (fun x => !decide (x.k = w.k)))
  | [], _ => by simp [stg]
  | x :: l, h => by
    have hc := List.pairwise_cons.1 h
    rw [stg]
    split
    · rename_i e
      have hx : x.k ≠ w.k := fun q => by rw [q, klt_irrefl] at e; cases e
      rw [List.filter_cons, if_pos (by simp [hx])]
      exact ((stg_perm hc.2).cons x).trans (List.Perm.swap ..)
    · rename_i e
      split
      · rename_i e2
        rw [List.filter_cons, if_neg (by simp [e2]), keep_all (fun y hy => by have := hc.1 y hy; rw [← e2]; exact ne_of_lt this)]
      · rename_i e2
        have g := gt_of e e2
        rw [List.filter_cons, if_pos (by simp [e2]), keep_all (fun y hy => ne_of_lt (klt_trans g (hc.1 y hy)))]
theorem mset_perm {w : Wr} : ∀ {m : List (Key × Wr)}, (m.map (·.1)).Nodup → (∀ x ∈ m, x.2.k = x.1) → ((mset m w.k w).map (·.2)).Perm (w :: (m.map (·.2)).filter (fun x => !decide (x.k = w.k)))
  | [], _, _ => by simp [mset]
  | y :: m, h, hv => by
    rw [List.map_cons, List.nodup_cons] at h
    have hy := hv y (List.mem_cons_self ..)
    rw [mset]
    split
    · rename_i e
      rw [List.map_cons, List.map_cons, List.filter_cons, if_neg (by simp [hy, e]), keep_all]
      intro z hz
      obtain ⟨x, hx, rfl⟩ := List.mem_map.1 hz
      rw [hv x (List.mem_cons_of_mem _ hx), ← e]
      exact fun q => h.1 (q ▸ List.mem_map_of_mem hx)
    · rename_i e
      rw [List.map_cons, List.map_cons, List.filter_cons, if_pos (by simp [hy, e])]
      exact ((mset_perm h.2 fun x hx => hv x (List.mem_cons_of_mem _ hx)).cons _).trans (List.Perm.swap ..)
theorem Lk.put {v : VS} {r : RS} (h : Lk v r) (w : Wr) : Lk (v.put w) (r.stage w) where
  at_ := h.at_
  rd := h.rd
  ls := h.ls
  nd := nodup_mset h.nd _ _
  st := (stg_perm h.rise).trans (((h.st.filter _).cons w).trans (mset_perm h.nd h.vi.st).symm)
  rise := rise_stg h.rise
  vi := ⟨h.vi.rd, h.vi.ls, fun x hx => by rcases mem_mset hx with rfl | hx; rfl; exact h.vi.st x hx⟩
theorem Lk.own {v : VS} {r : RS} (h : Lk v r) (k : Key) : v.own k = r.own k := by
  have key : mget v.st k = r.st.find? (fun w => decide (w.k = k)) := by
    cases e : r.st.find? (fun w => decide (w.k = k)) with
    | some w =>
      have hw : w.k = k := by simpa using List.find?_some e
      have hm := h.st.subset (List.mem_of_find?_eq_some e)
      obtain ⟨x, hx, rfl⟩ := List.mem_map.1 hm
      have h1 := h.vi.st x hx
      exact mget_of_mem h.nd (by have : x = (k, x.2) := by rw [← hw, h1]
                                 rw [← this]; exact hx)
    | none =>
      cases e2 : mget v.st k with
      | none => rfl
      | some w =>
        have hm := mget_mem e2
        have h1 : w.k = k := h.vi.st _ hm
        have := h.st.symm.subset (List.mem_map_of_mem (f := (·.2)) hm)
        have h2 := List.find?_eq_none.1 e w this
        simp [h1] at h2
  unfold VS.own RS.own; rw [key]; cases r.st.find? (fun w => decide (w.k = k)) <;> rfl
end Go.Proofs.Ytcdifhgocjjbpaa
