/- Slices of rows of several cells: made, cut, an element written. -/
import Derived.Test.YtladdcnfdbmnlaaHwStr
set_option linter.unusedVariables false
set_option linter.unusedSimpArgs false
namespace Go.HW
open Go
section
variable {h : Heap} {L : List Assn}
theorem range_rep {α : Type} {φ : α → List Value} {sz : Nat} (hφ : ∀ x, (φ x).length = sz) (hs : 0 < sz) (x : α) (c : Nat) :
    (Array.range (c * sz)).map (fun i => (φ x).toArray[i % (φ x).toArray.size]!) = ((List.replicate c x).flatMap φ).toArray := by
  have hl : ((List.replicate c x).flatMap φ).length = c * sz := by
    rw [List.length_flatMap]; simp [hφ]
  apply Array.ext
  · simp [hl]
  · intro i h1 h2
    have hi : i < c * sz := by simpa using h1
    have hq : i / sz < c := Nat.div_lt_of_lt_mul (by rw [Nat.mul_comm]; exact hi)
    have hm : i % sz < sz := Nat.mod_lt _ hs
    have e1 : (List.replicate c x)[i / sz]? = some x := by rw [List.getElem?_replicate, if_pos hq]
    have e2 := flat_get (φ := φ) hφ e1 (i % sz) (φ x)[i % sz]! (by rw [List.getElem!_eq_getElem?_getD, List.getElem?_eq_getElem (by rw [hφ]; exact hm)]; rfl)
    rw [Nat.mul_comm, Nat.div_add_mod] at e2
    have e3 : ((List.replicate c x).flatMap φ)[i]? = some (((List.replicate c x).flatMap φ)[i]'(by rw [hl]; exact hi)) := List.getElem?_eq_getElem _
    rw [e3] at e2
    simp only [Option.some.injEq] at e2
    rw [Array.getElem_map, Array.getElem_range, List.getElem_toArray, e2]
    simp only [List.size_toArray, hφ]
    rw [List.getElem!_toArray]
theorem hwp_makes {α : Type} {φ : α → List Value} {P : Program} {t e : TypeId} {sz bz : Nat} {z : Value} (E : Elem P t e sz bz z) {x : α} (hφ : ∀ x, (φ x).length = sz) (hs : 0 < sz) (hz : z.cells = (φ x).toArray) {n c : Nat} {k k' : IntKind} (hnc : n ≤ c) (hc : bz * c ≤ 2 ^ 48) (hc2 : c < 2 ^ 63) {K : Value → Heap → Prop} {h : Heap}
    (H : K (.slice (some ⟨h.size, 0, none⟩) n c) (h.push (.cells ((List.replicate c x).flatMap φ).toArray e (0, 0)))) : hwp P (Instr.makeSlice t (.int k n) (.int k' c)) K h := by
  unfold Instr.makeSlice
  refine (hwp_bind' _ _ _ _).2 ((hwp_underlying E.und).2 ((hwp_bind' _ _ _ _).2 (hwp_int.2 ((hwp_bind' _ _ _ _).2 (hwp_int.2 ((hwp_bind' _ _ _ _).2 (E.typeInfo ?_)))))))
  intro i hbz hiz his
  have wn : ∀ m : Nat, m < 2 ^ 63 → IntKind.i64.wrap (m : Int) = m := fun m hm => IntWalk.i64_in _ (by omega)
  have h1 : (bz : Int) * (c : Int) ≤ 2 ^ 48 := by exact_mod_cast hc
  simp only [wn n (by omega), wn c hc2, hbz]
  rw [if_neg (by
    have e1 : decide ((c : Int) < 0) = false := by simp only [decide_eq_false_iff_not]; omega
    have e2 : decide ((bz : Int) * (c : Int) > 2 ^ 48) = false := by simp only [decide_eq_false_iff_not]; omega
    have e3 : decide ((n : Int) < 0) = false := by simp only [decide_eq_false_iff_not]; omega
    have e4 : decide ((n : Int) > c) = false := by simp only [decide_eq_false_iff_not]; omega
    simp only [e1, e2, e3, e4]; decide)]
  refine (hwp_bind' _ _ _ _).2 (hwp_askRoom ?_)
  refine (hwp_bind' _ _ _ _).2 (E.sizeOf.2 ?_)
  have fin : ∀ zs : Array Value, (zs = (φ x).toArray ∨ c = 0) → hwp P (do
      let a ← newRow e ((Array.range (c * sz)).map fun i => zs[i % zs.size]!)
      pure (Value.slice (some a) n c)) K h := by
    intro zs hzs
    show K _ _
    rcases hzs with rfl | rfl
    · rw [range_rep hφ hs]; exact H
    · rw [Nat.zero_mul]; simpa [Array.range] using H
  by_cases hc0 : (c : Int).toNat * sz = 0
  · rw [if_pos hc0]
    refine fin #[] (.inr ?_)
    rcases Nat.mul_eq_zero.1 hc0 with h | h <;> omega
  · rw [if_neg hc0]
    show hwp P (Go.zeroValue e >>= fun v => _) _ h
    refine (hwp_bind' _ _ _ _).2 (E.zeroValue.2 ?_)
    exact fin z.cells (.inl hz)
/-- make of a slice of rows. -/
theorem Hs.makes {α : Type} (φ : α → List Value) (x : α) {P : Program} {t e : TypeId} {sz bz n c : Nat} {z : Value} {k k' : IntKind} {i j : Int} (H : Hs h L) (E : Elem P t e sz bz z) (hφ : ∀ x, (φ x).length = sz) (hs : 0 < sz) (hi : i = n) (hj : j = c) (hnc : n ≤ c) (hc : bz * c ≤ 2 ^ 48) (hc2 : c < 2 ^ 63) {K : Value → Heap → Prop}
    (kk : ∀ h' b, Hs h' (pt b e ((List.replicate c x).flatMap φ) :: L) → K (.slice (some ⟨b, 0, none⟩) n c) h') (hz : z.cells = (φ x).toArray := by rfl) : hwp P (Instr.makeSlice t (.int k i) (.int k' j)) K h := by
  subst hi hj
  exact hwp_makes E hφ hs hz hnc hc hc2 (kk _ _ H.new)
/-- A part of a slice of rows is read. -/
theorem slice_rds {P : Program} {t e : TypeId} {sz bz : Nat} {z : Value} (E : Elem P t e sz bz z) {a : Option Addr} {n c : Nat} {xs : List Value} {lo hi : Option Value} {h : Heap} (hr : Rd h a xs) (hn : xs.length = n * sz) (hnc : n ≤ c) (il : isInt lo) (ih : isInt hi)
    (h0 : 0 ≤ bnd lo 0) (h1 : bnd lo 0 ≤ bnd hi n) (h2 : bnd hi n ≤ n) (hnz : a = none → c = 0) {K : Value → Heap → Prop}
    (H : ∀ a', Rd h a' ((xs.drop ((bnd lo 0).toNat * sz)).take (((bnd hi n).toNat - (bnd lo 0).toNat) * sz)) → (a' = none → (bnd hi n).toNat - (bnd lo 0).toNat = 0) → K (.slice a' ((bnd hi n).toNat - (bnd lo 0).toNat) (c - (bnd lo 0).toNat)) h) :
    hwp P (Instr.sliceAt t (.slice a n c) lo hi none) K h := by
  refine hwp_sliceSl E il ih h0 h1 (by omega) ?_
  refine H _ ?_ ?_
  · by_cases hc : (c : Int) = bnd lo 0
    · have e : (bnd hi n).toNat - (bnd lo 0).toNat = 0 := by omega
      rw [e, Nat.zero_mul, List.take_zero]; exact Rd.nil _ _
    · rw [if_neg hc]
      refine hr.sub _ fun i v hv => ?_
      rw [List.getElem?_take] at hv
      split at hv
      · rwa [List.getElem?_drop] at hv
      · cases hv
  · intro e
    split at e
    · have := hnz e; omega
    · cases a with
      | none => have := hnz rfl; omega
      | some ad => simp at e
/-- An element of several cells is written into a slice of one's own. -/
theorem Hs.idx_wrs {P : Program} {t e : TypeId} {sz bz n c : Nat} {z : Value} {a : Option Addr} {xs vs : List Value} (E : Elem P t e sz bz z) {k : IntKind} {i : Int} (H : Hs h (own a n c e sz xs :: L)) (h0 : 0 ≤ i) (hi : i < n) (hl : vs.length = sz) (hs : 0 < sz) (hv : ∀ v ∈ vs, oneC v = true) {R : Heap → Prop}
    (K : ∀ h', Hs h' (own a n c e sz (xs.take (i.toNat * sz) ++ vs ++ xs.drop (i.toNat * sz + sz)) :: L) → R h') :
    hwp P (Instr.indexAt t (.slice a n c) (.int k i)) (fun u h1 => ∃ t, u = .pointer (some t) ∧ wrCells t 0 vs R h1) h := by
  have hlen := H.own_len
  have hle := H.own_le
  have hk : (i.toNat + 1) * sz ≤ n * sz := Nat.mul_le_mul_right _ (by omega)
  rw [Nat.add_mul, Nat.one_mul] at hk
  have hk2 : n * sz ≤ c * sz := Nat.mul_le_mul_right _ hle
  obtain ⟨b, off, ys, rfl, hc1, hx1, H1⟩ := H.own_pt (by omega)
  refine hwp_index E h0 hi ⟨_, rfl, ?_⟩
  rw [add_mk]
  refine H1.wrso (off + i.toNat * sz) (fun h' H' => K h' ?_) (by omega) hv
  have hyl : (ys.take (off + i.toNat * sz) ++ vs ++ ys.drop (off + i.toNat * sz + vs.length)).length = ys.length := by simp; omega
  refine H'.pt_own off ?_ ?_ hle (by rw [hyl]; exact hc1)
  · apply List.ext_getElem?
    intro j
    subst hx1
    simp only [List.getElem?_take, List.getElem?_drop, List.getElem?_append, List.length_append, List.length_take, List.length_drop, hl]
    repeat' split
    all_goals first | (exfalso; omega) | rfl | (congr 1 <;> omega)
  · simp; omega
theorem Hs.own_none {n c : Nat} {e : TypeId} {sz : Nat} {xs : List Value} (H : Hs h (own none n c e sz xs :: L)) : c = 0 := by
  rcases H.Own.2.2 with ⟨_, h⟩ | ⟨b, off, cs, h, _⟩
  · exact h
  · cases h
/-- The same, with the rows named. -/
theorem flat_set {α : Type} {φ : α → List Value} {sz : Nat} (hφ : ∀ x, (φ x).length = sz) (l : List α) (x : α) : ∀ (i : Nat), i < l.length → (l.flatMap φ).take (i * sz) ++ φ x ++ (l.flatMap φ).drop (i * sz + sz) = (l.set i x).flatMap φ := by
  induction l with
  | nil => intro i hi; simp at hi
  | cons y l ih =>
    intro i hi
    cases i with
    | zero =>
      simp only [Nat.zero_mul, List.take_zero, List.nil_append, List.flatMap_cons, List.set_cons_zero, Nat.zero_add]
      rw [List.drop_append_of_le_length (by rw [hφ]; exact Nat.le_refl _), List.drop_of_length_le (by rw [hφ]; exact Nat.le_refl _), List.nil_append]
    | succ i =>
      have := ih i (by simpa using hi)
      simp only [List.flatMap_cons, List.set_cons_succ]
      rw [← this, Nat.add_mul, Nat.one_mul, Nat.add_comm (i * sz) sz, List.take_append, List.drop_append, hφ, List.take_of_length_le (by rw [hφ]; omega), List.drop_of_length_le (by rw [hφ]; omega), List.nil_append]
      simp only [Nat.add_sub_cancel_left, List.append_assoc]
      congr 4; omega
theorem Hs.idx_wrf {α : Type} {φ : α → List Value} {P : Program} {t e : TypeId} {sz bz n c : Nat} {z : Value} {a : Option Addr} {l : List α} (x : α) (E : Elem P t e sz bz z) {k : IntKind} {i : Int} (H : Hs h (own a n c e sz (l.flatMap φ) :: L)) (h0 : 0 ≤ i) (hi : i < n) (hφ : ∀ x, (φ x).length = sz) (hs : 0 < sz) (hv : ∀ v ∈ φ x, oneC v = true) {R : Heap → Prop}
    (K : ∀ h', Hs h' (own a n c e sz ((l.set i.toNat x).flatMap φ) :: L) → R h') :
    hwp P (Instr.indexAt t (.slice a n c) (.int k i)) (fun u h1 => ∃ t, u = .pointer (some t) ∧ wrCells t 0 (φ x) R h1) h := by
  refine H.idx_wrs E h0 hi (hφ x) hs hv fun h' H' => K h' ?_
  have hlen := H.own_len
  have hl := flat_len hφ l
  have : l.length = n := Nat.eq_of_mul_eq_mul_right hs (by omega)
  rwa [flat_set hφ l x _ (by omega)] at H'
end
end Go.HW
