/- The two sets are alike (plain). -/
import Derived.Test.YtcdifhgocjjbpaaRef4
set_option linter.unusedVariables false
set_option linter.unusedSimpArgs false
namespace Go.Proofs.Ytcdifhgocjjbpaa
open Go Go.HW
structure Lk (v : VS) (r : RS) : Prop where
  at_ : v.at_ = r.at_
  rd : ∀ k, (mget v.rd k).isSome = r.rd.any (fun x => decide (x = k))
  ls : ∀ k, (mget v.ls k).isSome = r.ls.any (fun x => decide (x = k))
  nd : (v.st.map (·.1)).Nodup
  st : r.st.Perm (v.st.map (·.2))
  rise : Rise r.st
  vi : VI v
theorem Lk.meets {v : VS} {r : RS} (h : Lk v r) (k : Key) : v.meets k = r.meets k := by unfold VS.meets RS.meets; rw [h.rd, h.ls]
theorem Lk.clash {v : VS} {r : RS} (h : Lk v r) (x : Cm) : v.clash x = r.clash x := by
  unfold VS.clash RS.clash; rw [h.at_, show v.meets = r.meets from funext h.meets]
theorem Lk.len {v : VS} {r : RS} (h : Lk v r) : v.st.length = r.st.length := by rw [h.st.length_eq, List.length_map]
theorem Lk.check {v : VS} {r : RS} (h : Lk v r) (cs : List Cm) : v.check cs = r.check cs := by
  unfold VS.check RS.check
  rw [h.len, show v.clash = r.clash from funext h.clash]
theorem Lk.new (a : Int) : Lk (.new a) ⟨a, [], [], []⟩ := ⟨rfl, fun _ => rfl, fun _ => rfl, by simp [VS.new], List.Perm.refl _, List.Pairwise.nil, by simp [VS.new], by simp [VS.new], by simp [VS.new]⟩
theorem isSome_mset {α β : Type} [DecidableEq α] (l : List (α × β)) (k : α) (b : β) (j : α) : (mget (mset l k b) j).isSome = (decide (k = j) || (mget l j).isSome) := by
  rw [mget_mset]; by_cases e : k = j <;> simp [e]
theorem mem_mset {α β : Type} [DecidableEq α] {l : List (α × β)} {k : α} {b : β} {x : α × β} (h : x ∈ mset l k b) : x = (k, b) ∨ x ∈ l := by
  induction l with
  | nil => simp [mset] at h; exact .inl h
  | cons y l ih =>
    rw [mset] at h
    split at h
    · rcases List.mem_cons.1 h with h | h
      · exact .inl h
      · exact .inr (List.mem_cons_of_mem _ h)
    · rcases List.mem_cons.1 h with h | h
      · exact .inr (h ▸ List.mem_cons_self ..)
      · rcases ih h with h | h
        · exact .inl h
        · exact .inr (List.mem_cons_of_mem _ h)
theorem Lk.read {v : VS} {r : RS} (h : Lk v r) (k : Key) : Lk (v.read k) { r with rd := r.rd ++ [k] } where
  at_ := h.at_
  rd j := by
    show (mget (mset v.rd k true) j).isSome = _
    rw [isSome_mset, h.rd]; simp [Bool.or_comm]
  ls := h.ls
  nd := h.nd
  st := h.st
  rise := h.rise
  vi := ⟨fun x hx => by rcases mem_mset hx with rfl | hx; rfl; exact h.vi.rd x hx, h.vi.ls, h.vi.st⟩
theorem Lk.list {v : VS} {r : RS} (h : Lk v r) (k : Bx) : Lk (v.list k) { r with ls := r.ls ++ [k] } where
  at_ := h.at_
  rd := h.rd
  ls j := by
    show (mget (mset v.ls k true) j).isSome = _
    rw [isSome_mset, h.ls]; simp [Bool.or_comm]
  nd := h.nd
  st := h.st
  rise := h.rise
  vi := ⟨h.vi.rd, fun x hx => by rcases mem_mset hx with rfl | hx; rfl; exact h.vi.ls x hx, h.vi.st⟩
end Go.Proofs.Ytcdifhgocjjbpaa
