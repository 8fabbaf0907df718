/- Contracts of package quota: a book of accounts and reservations. -/
import Derived.Test.YtladdcnfdbmnlaaG
import Derived.Test.YtladdcnfdbmnlaaHwMaps
set_option linter.unusedVariables false
set_option linter.unusedSimpArgs false
namespace Go.Proofs.Ytladdcnfdbmnlaa
open Go Go.HW

abbrev P_ (p : Nat) : Value := .pointer (some ⟨p, 0, none⟩)
structure Ten where
  name : ByteArray
  sec : ByteArray
  mb : Int
  me : Int
  deriving Inhabited
def tenV (t : Ten) : List Value := [.string t.name, .string t.sec, .int .i64 t.mb, .int .i64 t.me]
structure Hd where
  id : Nat
  k : Nat
  b : Int
  e : Int
def pos (x : Int) : Int := if x > 0 then x else 0
theorem pos_nonneg (x : Int) : 0 ≤ pos x := by unfold pos; split <;> omega
def hB : List Hd → Nat → Int
  | [], _ => 0
  | x :: l, k => (if x.k = k then pos x.b else 0) + hB l k
def hE : List Hd → Nat → Int
  | [], _ => 0
  | x :: l, k => (if x.k = k then pos x.e else 0) + hE l k
theorem hB_app (l m : List Hd) (k : Nat) : hB (l ++ m) k = hB l k + hB m k := by induction l with | nil => simp [hB] | cons x l ih => simp only [List.cons_append, hB, ih]; omega
theorem hE_app (l m : List Hd) (k : Nat) : hE (l ++ m) k = hE l k + hE m k := by induction l with | nil => simp [hE] | cons x l ih => simp only [List.cons_append, hE, ih]; omega
theorem hB_nonneg (l : List Hd) (k : Nat) : 0 ≤ hB l k := by induction l with | nil => simp [hB] | cons x l ih => simp only [hB]; have := pos_nonneg x.b; split <;> omega
theorem hE_nonneg (l : List Hd) (k : Nat) : 0 ≤ hE l k := by induction l with | nil => simp [hE] | cons x l ih => simp only [hE]; have := pos_nonneg x.e; split <;> omega
structure QS where
  ts : List Ten
  us : List (Int × Int)
  hd : List Hd
  last : Nat
/-- Where a tenant stands. -/
def fnd (ts : List Ten) (n : ByteArray) : Option Nat := ts.findIdx? fun t => decide (t.name = n)
theorem fnd_lt {ts : List Ten} {n : ByteArray} {k : Nat} (h : fnd ts n = some k) : k < ts.length := by
  unfold fnd at h; rw [List.findIdx?_eq_some_iff_getElem] at h; exact h.1
def fdH (hd : List Hd) (id : Int) : Option Hd := hd.find? fun x => decide ((x.id : Int) = id)
def goneH (hd : List Hd) (id : Int) : List Hd := hd.filter fun x => !decide ((x.id : Int) = id)
structure QI (s : QS) : Prop where
  len : s.us.length = s.ts.length
  names : (s.ts.map (·.name)).Nodup
  most : ∀ t ∈ s.ts, 0 ≤ t.mb ∧ t.mb ≤ 1000000000 ∧ 0 ≤ t.me ∧ t.me ≤ 1000000000
  usB : ∀ k, k < s.ts.length → 0 ≤ (s.us.getD k (0, 0)).1 ∧ (s.us.getD k (0, 0)).1 + hB s.hd k ≤ 2000000000 ∧ hB s.hd k ≤ 1000000000
  usE : ∀ k, k < s.ts.length → 0 ≤ (s.us.getD k (0, 0)).2 ∧ (s.us.getD k (0, 0)).2 + hE s.hd k ≤ 2000000000 ∧ hE s.hd k ≤ 1000000000
  ks : ∀ x ∈ s.hd, x.k < s.ts.length ∧ -1000000000 ≤ x.b ∧ x.b ≤ 1000000000 ∧ -1000000000 ≤ x.e ∧ x.e ≤ 1000000000 ∧ x.id ≤ s.last
  ids : (s.hd.map (·.id)).Nodup
def QS.use (s : QS) (k : Nat) : Int × Int := s.us.getD k (0, 0)
def QS.mb (s : QS) (k : Nat) : Int := (s.ts.getD k default).mb
def QS.me (s : QS) (k : Nat) : Int := (s.ts.getD k default).me
def QS.left (s : QS) (k : Nat) : Int × Int := (pos (s.mb k - (s.use k).1 - hB s.hd k), pos (s.me k - (s.use k).2 - hE s.hd k))
def QS.set (s : QS) (k : Nat) (u : Int × Int) : QS := { s with us := s.us.set k u }
def QS.res (s : QS) (k : Nat) (b e : Int) : QS := { s with last := s.last + 1, hd := s.hd ++ [⟨s.last + 1, k, b, e⟩] }
def QS.free (s : QS) (id : Int) : QS := { s with hd := goneH s.hd id }
def QS.take (s : QS) (id : Int) (x : Hd) : QS := { s with hd := goneH s.hd id, us := s.us.set x.k (pos ((s.use x.k).1 + x.b), pos ((s.use x.k).2 + x.e)) }

theorem QI.mostk {s : QS} (q : QI s) {k : Nat} (hk : k < s.ts.length) : 0 ≤ s.mb k ∧ s.mb k ≤ 1000000000 ∧ 0 ≤ s.me k ∧ s.me k ≤ 1000000000 := by
  have := q.most _ (List.getElem_mem hk)
  unfold QS.mb QS.me
  rw [List.getD_eq_getElem?_getD, List.getElem?_eq_getElem hk]; exact this
theorem fdH_mem {hd : List Hd} {id : Int} {x : Hd} (h : fdH hd id = some x) : x ∈ hd ∧ (x.id : Int) = id := by
  have := List.find?_some h
  exact ⟨List.mem_of_find?_eq_some h, by simpa using this⟩
theorem gone_sum {hd : List Hd} (hn : (hd.map (·.id)).Nodup) {id : Int} {x : Hd} (h : fdH hd id = some x) (k : Nat) :
    hB (goneH hd id) k = hB hd k - (if x.k = k then pos x.b else 0) ∧ hE (goneH hd id) k = hE hd k - (if x.k = k then pos x.e else 0) := by
  induction hd with
  | nil => simp [fdH] at h
  | cons y l ih =>
    simp only [List.map_cons, List.nodup_cons] at hn
    unfold fdH at h
    rw [List.find?_cons] at h
    by_cases hy : (y.id : Int) = id
    · simp only [hy, decide_true] at h
      have h := Option.some.inj h
      subst h
      have hg : goneH (y :: l) id = l := by
        unfold goneH
        rw [List.filter_cons]
        simp only [hy, decide_true, Bool.not_true, Bool.false_eq_true, if_false]
        rw [List.filter_eq_self]
        intro z hz
        have : z.id ≠ y.id := fun e => hn.1 (List.mem_map.2 ⟨z, hz, e⟩)
        simp; omega
      rw [hg]; simp only [hB, hE]; omega
    · simp only [decide_eq_false hy] at h
      have hg : goneH (y :: l) id = y :: goneH l id := by unfold goneH; rw [List.filter_cons]; simp [hy]
      rw [hg]
      obtain ⟨e1, e2⟩ := ih hn.2 h
      simp only [hB, hE, e1, e2]; omega
theorem getD_set {us : List (Int × Int)} {k : Nat} (hk : k < us.length) (u : Int × Int) (j : Nat) : (us.set k u).getD j (0, 0) = if k = j then u else us.getD j (0, 0) := by
  simp only [List.getD_eq_getElem?_getD, List.getElem?_set]
  split
  · rename_i h; subst h; simp [hk]
  · rfl
theorem QI.set {s : QS} (q : QI s) {k : Nat} (hk : k < s.ts.length) {u : Int × Int} (h1 : 0 ≤ u.1 ∧ u.1 ≤ 1000000000) (h2 : 0 ≤ u.2 ∧ u.2 ≤ 1000000000) : QI (s.set k u) where
  len := by simp [QS.set, q.len]
  names := q.names
  most := q.most
  usB j hj := by
    have := q.usB j hj
    simp only [QS.set, getD_set (by rw [q.len]; exact hk)]
    split <;> (try simp only) <;> omega
  usE j hj := by
    have := q.usE j hj
    simp only [QS.set, getD_set (by rw [q.len]; exact hk)]
    split <;> (try simp only) <;> omega
  ks := q.ks
  ids := q.ids
theorem QI.res {s : QS} (q : QI s) {k : Nat} (hk : k < s.ts.length) {b e : Int} (hb : -1000000000 ≤ b ∧ b ≤ 1000000000) (he : -1000000000 ≤ e ∧ e ≤ 1000000000) (h1 : pos b ≤ (s.left k).1) (h2 : pos e ≤ (s.left k).2) : QI (s.res k b e) where
  len := q.len
  names := q.names
  most := q.most
  usB j hj := by
    have := q.usB j hj
    have m := q.mostk hk
    simp only [QS.res, hB_app, hB]
    simp only [QS.left, QS.use] at h1
    have p := pos_nonneg b
    unfold pos at h1 p ⊢
    by_cases hkj : k = j
    · subst hkj; simp only [if_true]; constructor
      · omega
      · split at h1 <;> split at h1 <;> simp_all <;> omega
    · simp only [if_neg hkj]; omega
  usE j hj := by
    have := q.usE j hj
    have m := q.mostk hk
    simp only [QS.res, hE_app, hE]
    simp only [QS.left, QS.use] at h2
    have p := pos_nonneg e
    unfold pos at h2 p ⊢
    by_cases hkj : k = j
    · subst hkj; simp only [if_true]; constructor
      · omega
      · split at h2 <;> split at h2 <;> simp_all <;> omega
    · simp only [if_neg hkj]; omega
  ks x hx := by
    simp only [QS.res] at hx ⊢
    rcases List.mem_append.1 hx with hx | hx
    · have := q.ks x hx; omega
    · simp at hx; subst hx; simp only; omega
  ids := by
    simp only [QS.res, List.map_append, List.map_cons, List.map_nil]
    rw [List.nodup_append]
    refine ⟨q.ids, by simp, fun a ha b hb => ?_⟩
    simp at hb; subst hb
    obtain ⟨x, hx, rfl⟩ := List.mem_map.1 ha
    have := (q.ks x hx).2.2.2.2.2; omega
theorem gone_mem {hd : List Hd} {id : Int} {x : Hd} (h : x ∈ goneH hd id) : x ∈ hd := (List.mem_filter.1 h).1
theorem QI.free {s : QS} (q : QI s) {id : Int} {x : Hd} (h : fdH s.hd id = some x) : QI (s.free id) where
  len := q.len
  names := q.names
  most := q.most
  usB j hj := by
    have := q.usB j hj; have := (gone_sum q.ids h j).1; have := pos_nonneg x.b
    simp only [QS.free]; split at * <;> omega
  usE j hj := by
    have := q.usE j hj; have := (gone_sum q.ids h j).2; have := pos_nonneg x.e
    simp only [QS.free]; split at * <;> omega
  ks x hx := q.ks x (gone_mem hx)
  ids := q.ids.sublist (List.Sublist.map _ List.filter_sublist)
theorem QI.take {s : QS} (q : QI s) {id : Int} {x : Hd} (h : fdH s.hd id = some x) : QI (s.take id x) where
  len := by simp [QS.take, q.len]
  names := q.names
  most := q.most
  usB j hj := by
    have hx := q.ks x (fdH_mem h).1
    have := q.usB j hj; have := (gone_sum q.ids h j).1
    simp only [QS.take, getD_set (by rw [q.len]; exact hx.1), QS.use]
    by_cases hk : x.k = j
    · rw [if_pos hk] at *; subst hk; simp only; unfold pos at *; split at * <;> split <;> omega
    · rw [if_neg hk] at *; omega
  usE j hj := by
    have hx := q.ks x (fdH_mem h).1
    have := q.usE j hj; have := (gone_sum q.ids h j).2
    simp only [QS.take, getD_set (by rw [q.len]; exact hx.1), QS.use]
    by_cases hk : x.k = j
    · rw [if_pos hk] at *; subst hk; simp only; unfold pos at *; split at * <;> split <;> omega
    · rw [if_neg hk] at *; omega
  ks x hx := q.ks x (gone_mem hx)
  ids := q.ids.sublist (List.Sublist.map _ List.filter_sublist)
end Go.Proofs.Ytladdcnfdbmnlaa
