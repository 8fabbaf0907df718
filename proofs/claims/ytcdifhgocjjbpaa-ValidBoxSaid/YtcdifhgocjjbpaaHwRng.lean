/- A range over a map that the round leaves alone. -/
import Derived.Test.YtcdifhgocjjbpaaHwMaps
set_option linter.unusedVariables false
set_option linter.unusedSimpArgs false
set_option linter.unusedSectionVars false
namespace Go.HW
open Go
section
variable {α β : Type} [DecidableEq α] {κ : α → Value} {ν : β → Value} {h : Heap} {L : List Assn} {P : Program} {r i : Nat} {l done todo : List (α × β)}
def entOf (κ : α → Value) (ν : β → Value) (y : (α × β) × Nat) : MapEntry := ⟨κ y.1.1, ν y.1.2, y.2⟩
theorem ents_zip (l : List (α × β)) (bs : List Nat) : entsOf κ ν l bs = (l.zip bs).map (entOf κ ν) := by
  unfold entsOf
  induction l generalizing bs with
  | nil => rfl
  | cons x l ih => cases bs with
    | nil => rfl
    | cons b bs => simp only [List.zipWith_cons_cons, List.zip_cons_cons, List.map_cons, ih]; rfl
theorem nodup_of {γ δ : Type} {f : γ → δ} {l : List γ} (h : (l.map f).Nodup) : l.Nodup := List.Pairwise.of_map f (fun a b h e => h (congrArg f e)) h
theorem inj_of {γ δ : Type} {f : γ → δ} : ∀ {l : List γ}, (l.map f).Nodup → ∀ y ∈ l, ∀ z ∈ l, f y = f z → y = z
  | [], _, y, hy, _, _, _ => by cases hy
  | x :: l, h, y, hy, z, hz, e => by
    rw [List.map_cons, List.nodup_cons] at h
    rcases List.mem_cons.1 hy with hy1 | hy
    · rcases List.mem_cons.1 hz with hz1 | hz
      · rw [hy1, hz1]
      · exact absurd (List.mem_map_of_mem (f := f) hz) (by rw [← e, hy1]; exact h.1)
    · rcases List.mem_cons.1 hz with hz1 | hz
      · exact absurd (List.mem_map_of_mem (f := f) hy) (by rw [e, hz1]; exact h.1)
      · exact inj_of h.2 y hy z hz e
/-- A map under way: the pairs that were told, in order, and those that are left. -/
def rgn (κ : α → Value) (ν : β → Value) (r i : Nat) (l done todo : List (α × β)) : Assn := fun m => ∃ (bs : List Nat) (clock : Nat) (dz tz : List ((α × β) × Nat)),
  (bs.length = l.length ∧ bs.Nodup ∧ (∀ b ∈ bs, b < clock) ∧ (l.map (·.1)).Nodup ∧ tz = (l.zip bs).filter (fun y => !(dz.map (·.2)).contains y.2) ∧ (∀ y ∈ dz, y ∈ l.zip bs) ∧ dz.map (·.1) = done ∧ tz.map (·.1) = todo ∧ (dz.map (·.2)).Nodup) ∧
  Sp [ob r (.map (entsOf κ ν l bs).toArray clock), ob i (.mapIter (some r) clock (dz.map (·.2)).toArray clock)] m
theorem rgn_open : Hs h (rgn κ ν r i l done todo :: L) ↔ ∃ (bs : List Nat) (clock : Nat) (dz tz : List ((α × β) × Nat)),
  (bs.length = l.length ∧ bs.Nodup ∧ (∀ b ∈ bs, b < clock) ∧ (l.map (·.1)).Nodup ∧ tz = (l.zip bs).filter (fun y => !(dz.map (·.2)).contains y.2) ∧ (∀ y ∈ dz, y ∈ l.zip bs) ∧ dz.map (·.1) = done ∧ tz.map (·.1) = todo ∧ (dz.map (·.2)).Nodup) ∧
  Hs h (ob r (.map (entsOf κ ν l bs).toArray clock) :: ob i (.mapIter (some r) clock (dz.map (·.2)).toArray clock) :: L) := by
  unfold rgn
  simp only [Hs.ex, Hs.and, Hs.app, List.cons_append, List.nil_append]
theorem Hs.range (H : Hs h (mp κ ν r l :: L)) {t kt et : TypeId} (hm : P.underlying t = some (.map kt et)) {K : Value → Heap → Prop} (kk : ∀ h' i, Hs h' (rgn κ ν r i l [] l :: L) → K (.pointer (some ⟨i, 0, none⟩)) h') : hwp P (Instr.range t (.map (some r))) K h := by
  obtain ⟨bs, clock, ⟨h1, h2, h3, h4⟩, H⟩ := H.mp_obj
  unfold Instr.range
  refine (hwp_bind' _ _ _ _).2 ((hwp_bind' _ _ _ _).2 ((hwp_underlying hm).2 ?_))
  show hwp P (getObj r >>= _) _ h
  refine (hwp_bind' _ _ _ _).2 ⟨_, H.get, rfl, ?_⟩
  show hwp P (newObj _ >>= _) K h
  refine (hwp_bind' _ _ _ _).2 ?_
  show K (.pointer (some ⟨h.size, 0, none⟩)) (h.push _)
  refine kk _ _ (rgn_open.2 ⟨bs, clock, [], l.zip bs, ⟨h1, h2, h3, h4, ?_, by simp, rfl, ?_, by simp⟩, (H.push _).m1⟩)
  · rw [List.filter_eq_self.2]; simp
  · rw [List.map_fst_zip (by omega)]
theorem Hs.rgn_end (H : Hs h (rgn κ ν r i l done todo :: L)) : Hs h (mp κ ν r l :: L) := by
  obtain ⟨bs, clock, dz, tz, ⟨h1, h2, h3, h4, _⟩, H⟩ := rgn_open.1 H
  exact (H.m1.tl).mp_mk h1 h2 h3 h4
/-- Nothing is told twice, nothing is left out. -/
theorem Hs.rgn_perm (H : Hs h (rgn κ ν r i l done todo :: L)) : (done ++ todo).Perm l := by
  obtain ⟨bs, clock, dz, tz, ⟨h1, h2, h3, h4, h5, h6, h7, h8, h9⟩, H⟩ := rgn_open.1 H
  have hz : ((l.zip bs).map (·.2)) = bs := List.map_snd_zip (by omega)
  have hnd : (l.zip bs).Nodup := nodup_of (f := (·.2)) (by rw [hz]; exact h2)
  have hinj : ∀ y ∈ l.zip bs, ∀ z ∈ l.zip bs, y.2 = z.2 → y = z := fun y hy z hz' e => inj_of (f := (·.2)) (by rw [hz]; exact h2) y hy z hz' e
  have hp : (dz ++ tz).Perm (l.zip bs) := by
    have hdn : dz.Nodup := nodup_of (f := (·.2)) h9
    have htn : tz.Nodup := by rw [h5]; exact hnd.filter _
    refine (List.perm_ext_iff_of_nodup (List.nodup_append.2 ⟨hdn, htn, ?_⟩) hnd).2 fun y => ?_
    · intro y hy z hz' e
      subst e
      rw [h5, List.mem_filter] at hz'
      have := hz'.2
      simp only [Bool.not_eq_true', List.contains_eq_mem, decide_eq_false_iff_not] at this
      exact this (List.mem_map_of_mem hy)
    · rw [List.mem_append]
      constructor
      · rintro (hy | hy)
        · exact h6 y hy
        · rw [h5, List.mem_filter] at hy; exact hy.1
      · intro hy
        by_cases hm : y.2 ∈ dz.map (·.2)
        · obtain ⟨z, hz1, hz2⟩ := List.mem_map.1 hm
          have := hinj z (h6 z hz1) y hy hz2
          exact .inl (this ▸ hz1)
        · right; rw [h5, List.mem_filter]; exact ⟨hy, by simpa [List.contains_eq_mem] using hm⟩
  have := hp.map (·.1)
  rw [List.map_append, h7, h8, List.map_fst_zip (by omega)] at this
  exact this
theorem hwp_mapNext {n : Nat} {K : Nat → Heap → Prop} (hn : 0 < n) (k : ∀ m, m < n → K m h) : hwp P (choose (.mapNext n)) K h := by
  show (if (Question.mapNext n).forced then hwp P (.pure 0) K h else ∀ t, hwp P (.pure ((Question.mapNext n).cut t)) K h)
  split
  · exact k 0 hn
  · exact fun t => k _ (Nat.mod_lt _ hn)
/-- A step: one of those that are left, or the end. -/
theorem Hs.next (H : Hs h (rgn κ ν r i l done todo :: L)) {ty : TypeId} {K : Value → Heap → Prop} (k0 : todo = [] → K (.tuple #[.bool false]) h)
    (k1 : ∀ h' x todo', todo.Perm (x :: todo') → Hs h' (rgn κ ν r i l (done ++ [x]) todo' :: L) → K (.tuple #[.bool true, κ x.1, ν x.2]) h') : hwp P (Instr.next (.pointer (some ⟨i, 0, none⟩)) false ty) K h := by
  obtain ⟨bs, clock, dz, tz, ⟨h1, h2, h3, h4, h5, h6, h7, h8, h9⟩, H⟩ := rgn_open.1 H
  unfold Instr.next
  show hwp P (getObj i >>= _) K h
  refine (hwp_bind' _ _ _ _).2 ⟨_, H.m1.get, rfl, ?_⟩
  show hwp P (getObj r >>= _) K h
  refine (hwp_bind' _ _ _ _).2 ⟨_, H.get, rfl, ?_⟩
  have hz : ((l.zip bs).map (·.2)) = bs := List.map_snd_zip (by omega)
  have hlt : ∀ y ∈ l.zip bs, y.2 < clock := fun y hy => h3 _ (by rw [← hz]; exact List.mem_map_of_mem hy)
  have hall : ∀ e ∈ (entsOf κ ν l bs), e.born < clock := by
    rw [ents_zip]; intro e he; obtain ⟨y, hy, rfl⟩ := List.mem_map.1 he; exact hlt y hy
  have test : (!((dz.map (·.2)).toArray).isEmpty && !((entsOf κ ν l bs).toArray).isEmpty && ((entsOf κ ν l bs).toArray).all (·.born ≥ clock)) = false := by
    cases he : entsOf κ ν l bs with
    | nil => simp
    | cons e es =>
      have := hall e (by rw [he]; exact List.mem_cons_self ..)
      simp; intro _ h; omega
  have left : ((entsOf κ ν l bs).toArray.filter fun e => !((dz.map (·.2)).toArray).contains e.born) = (tz.map (entOf κ ν)).toArray := by
    rw [h5, ents_zip]
    simp only [List.filter_toArray, List.filter_map]
    congr 2
    apply List.filter_congr
    intro y hy
    simp [entOf]
    exact decide_eq_decide.2 List.mem_toArray
  have htz : ∀ y ∈ tz, y ∈ l.zip bs := fun y hy => by rw [h5] at hy; exact (List.mem_filter.1 hy).1
  have old : ((tz.map (entOf κ ν)).toArray.filter fun e => decide (e.born < clock)) = (tz.map (entOf κ ν)).toArray := by
    simp only [List.filter_toArray]
    congr 1
    rw [List.filter_eq_self]
    intro e he; obtain ⟨y, hy, rfl⟩ := List.mem_map.1 he
    exact decide_eq_true (hlt y (htz y hy))
  have new : ((tz.map (entOf κ ν)).toArray.filter fun e => decide (e.born ≥ clock)) = #[] := by
    simp only [List.filter_toArray]
    congr 1
    rw [List.filter_eq_nil_iff]
    intro e he; obtain ⟨y, hy, rfl⟩ := List.mem_map.1 he
    have := hlt y (htz y hy)
    simp [entOf]; omega
  have fin : ∀ {y : (α × β) × Nat} {h' : Heap}, y ∈ tz → Hs h' (ob r (.map (entsOf κ ν l bs).toArray clock) :: ob i (.mapIter (some r) clock (((dz.map (·.2)).toArray).push y.2) clock) :: L) → K (.tuple #[.bool true, κ y.1.1, ν y.1.2]) h' := by
    intro y h' hy H'
    have hy2 : y.2 ∉ dz.map (·.2) := by
      rw [h5, List.mem_filter] at hy
      have := hy.2
      simpa [List.contains_eq_mem] using this
    refine k1 h' y.1 ((l.zip bs).filter (fun z => !((dz ++ [y]).map (·.2)).contains z.2) |>.map (·.1)) ?_ (rgn_open.2 ⟨bs, clock, dz ++ [y], _, ⟨h1, h2, h3, h4, rfl, ?_, ?_, rfl, ?_⟩, ?_⟩)
    · rw [← h8, ← List.map_cons (f := fun z : (α × β) × Nat => z.1)]
      refine List.Perm.map _ ?_
      have hnd : (l.zip bs).Nodup := nodup_of (f := (·.2)) (by rw [hz]; exact h2)
      refine (List.perm_ext_iff_of_nodup (by rw [h5]; exact hnd.filter _) (List.nodup_cons.2 ⟨?_, hnd.filter _⟩)).2 fun z => ?_
      · rw [List.mem_filter]; simp
      · rw [List.mem_cons, List.mem_filter]
        constructor
        · intro hz2
          by_cases e : z = y
          · exact .inl e
          · right
            have hz3 := hz2
            rw [h5, List.mem_filter] at hz3
            refine ⟨hz3.1, ?_⟩
            have hne : z.2 ≠ y.2 := fun e2 => e (inj_of (f := (·.2)) (by rw [hz]; exact h2) z hz3.1 y (htz y hy) e2)
            have := hz3.2
            simp only [Bool.not_eq_true', List.contains_eq_mem, decide_eq_false_iff_not] at this ⊢
            simp only [List.map_append, List.mem_append, not_or]
            exact ⟨this, by simpa using hne⟩
        · rintro (rfl | ⟨hz2, hz3⟩)
          · exact hy
          · rw [h5, List.mem_filter]
            refine ⟨hz2, ?_⟩
            simp only [Bool.not_eq_true', List.contains_eq_mem, decide_eq_false_iff_not] at hz3 ⊢
            exact fun q => hz3 (by rw [List.map_append]; exact List.mem_append_left _ q)
    · intro z hz2
      rcases List.mem_append.1 hz2 with hz2 | hz2
      · exact h6 z hz2
      · rw [List.mem_singleton.1 hz2]; exact htz y hy
    · rw [List.map_append, h7]; rfl
    · rw [List.map_append]
      exact List.nodup_append.2 ⟨h9, by simp, fun u hu v hv => by rw [List.mem_singleton.1 hv]; exact fun e => hy2 (by have e : u = y.2 := e; rw [← e]; exact hu)⟩
    · rw [List.map_append]
      simpa using H'
  show hwp P (if (!((dz.map (·.2)).toArray).isEmpty && !((entsOf κ ν l bs).toArray).isEmpty && ((entsOf κ ν l bs).toArray).all (·.born ≥ clock)) = true then _ else _) K h
  rw [test]
  simp only [left, old, new, Bool.false_eq_true, if_false]
  have e1 : (if ((tz.map (entOf κ ν)).toArray).isEmpty = true then #[none] else #[] : Array (Option MapEntry)) ++ ((tz.map (entOf κ ν)).toArray ++ #[]).map some = (if tz = [] then [none] else tz.map fun y => some (entOf κ ν y)).toArray := by
    cases tz with
    | nil => simp
    | cons y ys => simp
  simp only [e1]
  refine (hwp_bind' _ _ _ _).2 ?_
  by_cases he : tz = []
  · simp only [if_pos he]
    have : todo = [] := by rw [← h8, he]; rfl
    exact k0 this
  · simp only [if_neg he]
    refine hwp_mapNext (by have := List.length_pos_iff.2 he; simpa using this) fun n hn => ?_
    have hn : n < tz.length := by simpa using hn
    have e2 : ((tz.map fun y => some (entOf κ ν y)).toArray)[n]? = some (some (entOf κ ν tz[n])) := by simp [hn]
    rw [e2]
    show hwp P (setObj i _ >>= _) K h
    refine (hwp_bind' _ _ _ _).2 ⟨⟨_, H.m1.get, rfl, rfl⟩, ?_⟩
    exact fin (y := tz[n]) (List.getElem_mem hn) ((H.m1.set _).m1)
/-- The pair that was told last. -/
theorem Hs.entry {x : α × β} (H : Hs h (rgn κ ν r i l (done ++ [x]) todo :: L)) {K : Value → Heap → Prop} (k : K (.tuple #[κ x.1, ν x.2]) h) : hwp P (Instr.entry (.pointer (some ⟨i, 0, none⟩))) K h := by
  obtain ⟨bs, clock, dz, tz, ⟨h1, h2, h3, h4, h5, h6, h7, h8, h9⟩, H⟩ := rgn_open.1 H
  obtain ⟨dy, y, rfl⟩ : ∃ dy y, dz = dy ++ [y] := by
    rcases List.eq_nil_or_concat dz with e | ⟨a, b, e⟩
    · rw [e] at h7; simp at h7
    · exact ⟨a, b, by rw [e]; simp⟩
  have hxy : y.1 = x := by
    rw [List.map_append] at h7
    have := List.append_inj_right' h7 rfl
    simpa using this
  unfold Instr.entry
  show hwp P (getObj i >>= _) K h
  refine (hwp_bind' _ _ _ _).2 ⟨_, H.m1.get, rfl, ?_⟩
  have eb : ((dy ++ [y]).map (·.2)).toArray.back? = some y.2 := by simp
  have hz : ((l.zip bs).map (·.2)) = bs := List.map_snd_zip (by omega)
  have hf : (entsOf κ ν l bs).toArray.find? (fun e => e.born == y.2) = some (entOf κ ν y) := by
    rw [ents_zip]
    simp only [List.find?_toArray, List.find?_map]
    have hy := h6 y (by simp)
    have : (l.zip bs).find? ((fun e => e.born == y.2) ∘ entOf κ ν) = some y := by
      cases hq : (l.zip bs).find? ((fun e => e.born == y.2) ∘ entOf κ ν) with
      | none =>
        have := List.find?_eq_none.1 hq y hy
        simp [entOf] at this
      | some z =>
        have h10 := List.find?_some hq
        have h11 := List.mem_of_find?_eq_some hq
        have : z.2 = y.2 := by simpa [entOf] using h10
        rw [inj_of (f := (·.2)) (by rw [hz]; exact h2) z h11 y hy this]
    rw [this]; rfl
  simp only [hwp, eb]
  show hwp P (getObj r >>= _) K h
  refine (hwp_bind' _ _ _ _).2 ⟨_, H.get, rfl, ?_⟩
  show hwp P (if (clock != clock) = true then _ else _) K h
  rw [if_neg (by simp)]
  show hwp P (match (entsOf κ ν l bs).toArray.find? (fun e => e.born == y.2) with | some e => pure (.tuple #[e.key, e.val]) | none => _) K h
  rw [hf]
  subst hxy
  exact k
end
end Go.HW
