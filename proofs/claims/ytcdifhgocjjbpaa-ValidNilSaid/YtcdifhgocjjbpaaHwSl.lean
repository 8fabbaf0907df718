/- Slices of rows of several cells: made, cut, an element written. -/
import Derived.Test.YtcdifhgocjjbpaaHwStr
set_option linter.unusedVariables false
set_option linter.unusedSimpArgs false
namespace Go.HW
open Go
section
variable {h : Heap} {L : List Assn}
theorem range_rep {α : Type} {φ : α → List Value} {sz : Nat} (hφ : ∀ x, (φ x).length = sz) (hs : 0 < sz) (x : α) (c : Nat) :
    (Array.range (c * sz)).map (fun i => (φ x).toArray[i % (φ x).toArray.size]!) = ((List.replicate c x).flatMap φ).toArray := by
  have hl : ((List.replicate c x).flatMap φ).length = c * sz := by
    rw [List.length_flatMap]; simp [hφ]
  apply Array.ext
  · simp [hl]
  · intro i h1 h2
    have hi : i < c * sz := by simpa using h1
    have hq : i / sz < c := Nat.div_lt_of_lt_mul (by rw [Nat.mul_comm]; exact hi)
    have hm : i % sz < sz := Nat.mod_lt _ hs
    have e1 : (List.replicate c x)[i / sz]? = some x := by rw [List.getElem?_replicate, if_pos hq]
    have e2 := flat_get (φ := φ) hφ e1 (i % sz) (φ x)[i % sz]! (by rw [List.getElem!_eq_getElem?_getD, List.getElem?_eq_getElem (by rw [hφ]; exact hm)]; rfl)
    rw [Nat.mul_comm, Nat.div_add_mod] at e2
    have e3 : ((List.replicate c x).flatMap φ)[i]? = some (((List.replicate c x).flatMap φ)[i]'(by rw [hl]; exact hi)) := List.getElem?_eq_getElem _
    rw [e3] at e2
    simp only [Option.some.injEq] at e2
    rw [Array.getElem_map, Array.getElem_range, List.getElem_toArray, e2]
    simp only [List.size_toArray, hφ]
    rw [List.getElem!_toArray]
theorem hwp_makes {α : Type} {φ : α → List Value} {P : Program} {t e : TypeId} {sz bz : Nat} {z : Value} (E : Elem P t e sz bz z) {x : α} (hφ : ∀ x, (φ x).length = sz) (hs : 0 < sz) (hz : z.cells = (φ x).toArray) {n c : Nat} {k k' : IntKind} (hnc : n ≤ c) (hc : bz * c ≤ 2 ^ 48) (hc2 : c < 2 ^ 63) {K : Value → Heap → Prop} {h : Heap}
    (H : K (.slice (some ⟨h.size, 0, none⟩) n c) (h.push (.cells ((List.replicate c x).flatMap φ).toArray e (0, 0)))) : hwp P (Instr.makeSlice t (.int k n) (.int k' c)) K h := by
  unfold Instr.makeSlice
  refine (hwp_bind' _ _ _ _).2 ((hwp_underlying E.und).2 ((hwp_bind' _ _ _ _).2 (hwp_int.2 ((hwp_bind' _ _ _ _).2 (hwp_int.2 ((hwp_bind' _ _ _ _).2 (E.typeInfo ?_)))))))
  intro i hbz hiz his
  have wn : ∀ m : Nat, m < 2 ^ 63 → IntKind.i64.wrap (m : Int) = m := fun m hm => IntWalk.i64_in _ (by omega)
  have h1 : (bz : Int) * (c : Int) ≤ 2 ^ 48 := by exact_mod_cast hc
  simp only [wn n (by omega), wn c hc2, hbz]
  rw [if_neg (by
    have e1 : decide ((c : Int) < 0) = false := by simp only [decide_eq_false_iff_not]; omega
    have e2 : decide ((bz : Int) * (c : Int) > 2 ^ 48) = false := by simp only [decide_eq_false_iff_not]; omega
    have e3 : decide ((n : Int) < 0) = false := by simp only [decide_eq_false_iff_not]; omega
    have e4 : decide ((n : Int) > c) = false := by simp only [decide_eq_false_iff_not]; omega
    simp only [e1, e2, e3, e4]; decide)]
  refine (hwp_bind' _ _ _ _).2 (hwp_askRoom ?_)
  refine (hwp_bind' _ _ _ _).2 (E.sizeOf.2 ?_)
  have fin : ∀ zs : Array Value, (zs = (φ x).toArray ∨ c = 0) → hwp P (do
      let a ← newRow e ((Array.range (c * sz)).map fun i => zs[i % zs.size]!)
      pure (Value.slice (some a) n c)) K h := by
    intro zs hzs
    show K _ _
    rcases hzs with rfl | rfl
    · rw [range_rep hφ hs]; exact H
    · rw [Nat.zero_mul]; simpa [Array.range] using H
  by_cases hc0 : (c : Int).toNat * sz = 0
  · rw [if_pos hc0]
    refine fin #[] (.inr ?_)
    rcases Nat.mul_eq_zero.1 hc0 with h | h <;> omega
  · rw [if_neg hc0]
    show hwp P (Go.zeroValue e >>= fun v => _) _ h
    refine (hwp_bind' _ _ _ _).2 (E.zeroValue.2 ?_)
    exact fin z.cells (.inl hz)
/-- make of a slice of rows. -/
theorem Hs.makes {α : Type} (φ : α → List Value) (x : α) {P : Program} {t e : TypeId} {sz bz n c : Nat} {z : Value} {k k' : IntKind} {i j : Int} (H : Hs h L) (E : Elem P t e sz bz z) (hφ : ∀ x, (φ x).length = sz) (hs : 0 < sz) (hi : i = n) (hj : j = c) (hnc : n ≤ c) (hc : bz * c ≤ 2 ^ 48) (hc2 : c < 2 ^ 63) {K : Value → Heap → Prop}
    (kk : ∀ h' b, Hs h' (pt b e ((List.replicate c x).flatMap φ) :: L) → K (.slice (some ⟨b, 0, none⟩) n c) h') (hz : z.cells = (φ x).toArray := by rfl) : hwp P (Instr.makeSlice t (.int k i) (.int k' j)) K h := by
  subst hi hj
  exact hwp_makes E hφ hs hz hnc hc hc2 (kk _ _ H.new)
/-- A part of a slice of rows is read. -/
theorem slice_rds {P : Program} {t e : TypeId} {sz bz : Nat} {z : Value} (E : Elem P t e sz bz z) {a : Option Addr} {n c : Nat} {xs : List Value} {lo hi : Option Value} {h : Heap} (hr : Rd h a xs) (hn : xs.length = n * sz) (hnc : n ≤ c) (il : isInt lo) (ih : isInt hi)
    (h0 : 0 ≤ bnd lo 0) (h1 : bnd lo 0 ≤ bnd hi n) (h2 : bnd hi n ≤ n) (hnz : a = none → c = 0) {K : Value → Heap → Prop}
    (H : ∀ a', Rd h a' ((xs.drop ((bnd lo 0).toNat * sz)).take (((bnd hi n).toNat - (bnd lo 0).toNat) * sz)) → (a' = none → (bnd hi n).toNat - (bnd lo 0).toNat = 0) → K (.slice a' ((bnd hi n).toNat - (bnd lo 0).toNat) (c - (bnd lo 0).toNat)) h) :
    hwp P (Instr.sliceAt t (.slice a n c) lo hi none) K h := by
  refine hwp_sliceSl E il ih h0 h1 (by omega) ?_
  refine H _ ?_ ?_
  · by_cases hc : (c : Int) = bnd lo 0
    · have e : (bnd hi n).toNat - (bnd lo 0).toNat = 0 := by omega
      rw [e, Nat.zero_mul, List.take_zero]; exact Rd.nil _ _
    · rw [if_neg hc]
      refine hr.sub _ fun i v hv => ?_
      rw [List.getElem?_take] at hv
      split at hv
      · rwa [List.getElem?_drop] at hv
      · cases hv
  · intro e
    split at e
    · have := hnz e; omega
    · cases a with
      | none => have := hnz rfl; omega
      | some ad => simp at e
/-- An element of several cells is written into a slice of one's own. -/
theorem Hs.idx_wrs {P : Program} {t e : TypeId} {sz bz n c : Nat} {z : Value} {a : Option Addr} {xs vs : List Value} (E : Elem P t e sz bz z) {k : IntKind} {i : Int} (H : Hs h (own a n c e sz xs :: L)) (h0 : 0 ≤ i) (hi : i < n) (hl : vs.length = sz) (hs : 0 < sz) (hv : ∀ v ∈ vs, oneC v = true) {R : Heap → Prop}
    (K : ∀ h', Hs h' (own a n c e sz (xs.take (i.toNat * sz) ++ vs ++ xs.drop (i.toNat * sz + sz)) :: L) → R h') :
    hwp P (Instr.indexAt t (.slice a n c) (.int k i)) (fun u h1 => ∃ t, u = .pointer (some t) ∧ wrCells t 0 vs R h1) h := by
  have hlen := H.own_len
  have hle := H.own_le
  have hk : (i.toNat + 1) * sz ≤ n * sz := Nat.mul_le_mul_right _ (by omega)
  rw [Nat.add_mul, Nat.one_mul] at hk
  have hk2 : n * sz ≤ c * sz := Nat.mul_le_mul_right _ hle
  obtain ⟨b, off, ys, rfl, hc1, hx1, H1⟩ := H.own_pt (by omega)
  refine hwp_index E h0 hi ⟨_, rfl, ?_⟩
  rw [add_mk]
  refine H1.wrso (off + i.toNat * sz) (fun h' H' => K h' ?_) (by omega) hv
  have hyl : (ys.take (off + i.toNat * sz) ++ vs ++ ys.drop (off + i.toNat * sz + vs.length)).length = ys.length := by simp; omega
  refine H'.pt_own off ?_ ?_ hle (by rw [hyl]; exact hc1)
  · apply List.ext_getElem?
    intro j
    subst hx1
    simp only [List.getElem?_take, List.getElem?_drop, List.getElem?_append, List.length_append, List.length_take, List.length_drop, hl]
    repeat' split
    all_goals first | (exfalso; omega) | rfl | (congr 1 <;> omega)
  · simp; omega
theorem Hs.own_none {n c : Nat} {e : TypeId} {sz : Nat} {xs : List Value} (H : Hs h (own none n c e sz xs :: L)) : c = 0 := by
  rcases H.Own.2.2 with ⟨_, h⟩ | ⟨b, off, cs, h, _⟩
  · exact h
  · cases h
/-- The same, with the rows named. -/
theorem flat_set {α : Type} {φ : α → List Value} {sz : Nat} (hφ : ∀ x, (φ x).length = sz) (l : List α) (x : α) : ∀ (i : Nat), i < l.length → (l.flatMap φ).take (i * sz) ++ φ x ++ (l.flatMap φ).drop (i * sz + sz) = (l.set i x).flatMap φ := by
  induction l with
  | nil => intro i hi; simp at hi
  | cons y l ih =>
    intro i hi
    cases i with
    | zero =>
      simp only [Nat.zero_mul, List.take_zero, List.nil_append, List.flatMap_cons, List.set_cons_zero, Nat.zero_add]
      rw [List.drop_append_of_le_length (by rw [hφ]; exact Nat.le_refl _), List.drop_of_length_le (by rw [hφ]; exact Nat.le_refl _), List.nil_append]
    | succ i =>
      have := ih i (by simpa using hi)
      simp only [List.flatMap_cons, List.set_cons_succ]
      rw [← this, Nat.add_mul, Nat.one_mul, Nat.add_comm (i * sz) sz, List.take_append, List.drop_append, hφ, List.take_of_length_le (by rw [hφ]; omega), List.drop_of_length_le (by rw [hφ]; omega), List.nil_append]
      simp only [Nat.add_sub_cancel_left, List.append_assoc]
      congr 4; omega
theorem Hs.idx_wrf {α : Type} {φ : α → List Value} {P : Program} {t e : TypeId} {sz bz n c : Nat} {z : Value} {a : Option Addr} {l : List α} (x : α) (E : Elem P t e sz bz z) {k : IntKind} {i : Int} (H : Hs h (own a n c e sz (l.flatMap φ) :: L)) (h0 : 0 ≤ i) (hi : i < n) (hφ : ∀ x, (φ x).length = sz) (hs : 0 < sz) (hv : ∀ v ∈ φ x, oneC v = true) {R : Heap → Prop}
    (K : ∀ h', Hs h' (own a n c e sz ((l.set i.toNat x).flatMap φ) :: L) → R h') :
    hwp P (Instr.indexAt t (.slice a n c) (.int k i)) (fun u h1 => ∃ t, u = .pointer (some t) ∧ wrCells t 0 (φ x) R h1) h := by
  refine H.idx_wrs E h0 hi (hφ x) hs hv fun h' H' => K h' ?_
  have hlen := H.own_len
  have hl := flat_len hφ l
  have : l.length = n := Nat.eq_of_mul_eq_mul_right hs (by omega)
  rwa [flat_set hφ l x _ (by omega)] at H'
theorem cell_inv {h : Heap} {b off : Nat} {v : Value} (e : cellH h ⟨b, off, none⟩ = some v) : ∃ cs t f, h[b]? = some (.cells cs t f) ∧ cs[off]? = some v := by
  unfold cellH wOf World.cell? at e
  simp only at e
  cases hb : h[b]? with
  | none => rw [hb] at e; simp at e
  | some o =>
    rw [hb] at e
    cases o <;> simp at e
    rename_i cs t f
    exact ⟨cs, t, f, rfl, by first | exact e | simpa using e⟩
/-- A fresh part of a heap is added. -/
theorem Hs.add {h' : Heap} {A : Assn} (H : Hs h L) (e : ExtB h.size h h') (m : PM) (hA : A m) (hs : Sub m fun b => h'[b]?) (hf : ∀ b, b < h.size → m b = none) : Hs h' (A :: L) := by
  refine ⟨m, fun b => h[b]?, hA, H, fun b => ?_, hs, fun b o hb => ?_⟩
  · rcases Nat.lt_or_ge b h.size with h1 | h1
    · exact .inl (hf b h1)
    · exact .inr (Array.getElem?_eq_none h1)
  · have := lt_of_get hb
    show h'[b]? = some o
    rw [e.2 b this]; exact hb
theorem Hs.extB {h' : Heap} (H : Hs h L) (e : ExtB h.size h h') : Hs h' L := H.ext fun b o hb => by
  rw [e.2 b (lt_of_get hb)]; exact hb
theorem Hs.own_new {h' : Heap} {a : Option Addr} {n c : Nat} {t : TypeId} {sz : Nat} {xs : List Value} (H : Hs h L) (e : ExtB h.size h h') (o : HW.Own h' a n c t sz xs) (hb : ∀ ad, a = some ad → h.size ≤ ad.block) : Hs h' (HW.own a n c t sz xs :: L) := by
  obtain ⟨h1, h2, ⟨rfl, h3⟩ | ⟨b, off, cs, rfl, h3, h4, h5⟩⟩ := o
  · exact H.add e (fun _ => none) ⟨h1, h2, .inl ⟨rfl, h3⟩⟩ (fun _ _ e => nomatch e) fun _ _ => rfl
  · have hb' : h.size ≤ b := hb _ rfl
    refine H.add e (fun j => if j = b then some (.cells cs t (0, 0)) else none) ⟨h1, h2, .inr ⟨b, off, cs, rfl, by simp, h4, h5⟩⟩ (fun j o hj => ?_) fun j hj => by rw [if_neg (by omega)]
    simp only at hj
    split at hj
    · rename_i hjb; subst hjb; cases hj; exact h3
    · cases hj
theorem Hs.rdO_new {h' : Heap} {b off : Nat} {xs : List Value} (H : Hs h L) (e : ExtB h.size h h') (r : Rd h' (some ⟨b, off, none⟩) xs) (hb : h.size ≤ b) : Hs h' (HW.rdO (some ⟨b, off, none⟩) xs :: L) := by
  cases xs with
  | nil => exact H.add e (fun _ => none) (fun i v hv => by simp at hv) (fun _ _ e => nomatch e) fun _ _ => rfl
  | cons x xs =>
    have hc : ∀ i v, (x :: xs)[i]? = some v → ∃ cs t f, h'[b]? = some (.cells cs t f) ∧ cs[off + i]? = some v := by
      intro i v hv
      obtain ⟨ad, ha, hcl⟩ := r i v hv
      cases ha
      rw [add_mk] at hcl
      exact cell_inv hcl
    obtain ⟨cs, t, f, h1, _⟩ := hc 0 x rfl
    refine H.add e (fun j => if j = b then some (.cells cs t f) else none) (fun i v hv => ?_) (fun j o hj => ?_) fun j hj => by rw [if_neg (by omega)]
    · obtain ⟨cs', t', f', h2, h3⟩ := hc i v hv
      rw [h1] at h2; cases h2
      exact ⟨b, off, cs, t, f, rfl, by simp, h3⟩
    · simp only at hj
      split at hj
      · rename_i hjb; subst hjb; cases hj; exact h1
      · cases hj
/-- The head of a slice, up to its room. -/
theorem slice_pre {P : Program} {t e : TypeId} {sz bz : Nat} {z : Value} (E : Elem P t e sz bz z) {b off n c m : Nat} {k : IntKind} {K : Value → Heap → Prop} (hm : m ≤ c) (H : K (.slice (some ⟨b, off, none⟩) m c) h) :
    hwp P (Instr.sliceAt t (.slice (some ⟨b, off, none⟩) n c) none (some (.int k (m : Int))) none) K h := by
  refine hwp_sliceSl (lo := none) (hi := some (.int k (m : Int))) E trivial trivial (by simp [bnd]) (by simp [bnd]) (by simp [bnd]; omega) ?_
  have e : (if (c : Int) = bnd none 0 then some (⟨b, off, none⟩ : Addr) else (some (⟨b, off, none⟩ : Addr)).map (·.add ((bnd none 0).toNat * sz))) = some ⟨b, off, none⟩ := by
    split
    · rfl
    · rw [Option.map_some, add_mk]; simp [bnd]
  rw [e]
  have e1 : (bnd (some (Value.int k (m : Int))) n).toNat - (bnd none 0).toNat = m := by simp [bnd]
  have e2 : c - (bnd none 0).toNat = c := by simp [bnd]
  rw [e1, e2]; exact H
/-- The head of one's own slice is cut away. -/
theorem Hs.own_cut {P : Program} {t e : TypeId} {sz bz : Nat} {z : Value} {a : Option Addr} {n c i : Nat} {xs : List Value} {k : IntKind} {K : Value → Heap → Prop} (H : Hs h (HW.own a n c e sz xs :: L)) (E : Elem P t e sz bz z) (hi : i ≤ n)
    (kk : ∀ a', Hs h (HW.own a' (n - i) (c - i) e sz (xs.drop (i * sz)) :: L) → K (.slice a' (n - i) (c - i)) h) : hwp P (Instr.sliceAt t (.slice a n c) (some (.int k (i : Int))) none none) K h := by
  have hnc := H.own_le
  have hl := H.own_len
  refine hwp_sliceSl (lo := some (.int k (i : Int))) (hi := none) E trivial trivial (by simp [bnd]) (by simp [bnd]; omega) (by simp [bnd]; omega) ?_
  have e1 : (bnd none (n : Int)).toNat - (bnd (some (Value.int k (i : Int))) 0).toNat = n - i := by simp [bnd]
  have e2 : c - (bnd (some (Value.int k (i : Int))) 0).toNat = c - i := by simp [bnd]
  have e3 : (bnd (some (Value.int k (i : Int))) 0).toNat = i := by simp [bnd]
  rw [e1, e2, e3]
  refine kk _ (H.mono fun m ho => ?_)
  obtain ⟨h1, h2, h3⟩ := ho
  refine ⟨by rw [List.length_drop, h1, Nat.sub_mul], by omega, ?_⟩
  rcases h3 with ⟨rfl, rfl⟩ | ⟨b, off, cs, rfl, hm, hc, hx⟩
  · left; refine ⟨?_, by omega⟩; split <;> rfl
  · right
    by_cases hci : c = i
    · subst hci
      have : n = c := by omega
      refine ⟨b, off, cs, ?_, hm, by simp; omega, fun j hj => ?_⟩
      · exact if_pos rfl
      · rw [List.length_drop, h1, this] at hj; omega
    · refine ⟨b, off + i * sz, cs, ?_, hm, ?_, fun j hj => ?_⟩
      · rw [if_neg (by simp [bnd]; omega), Option.map_some, add_mk]
      · have hic : i ≤ c := by omega
        have : (c - i) * sz + i * sz = c * sz := by rw [← Nat.add_mul]; congr 1; omega
        omega
      · rw [List.getElem?_drop, ← hx _ (by rw [List.length_drop] at hj; omega), Nat.add_assoc]
/-- Some of a row of bytes. -/
theorem bytes_cut {P : Program} {t e : TypeId} {bz : Nat} {z : Value} (E : Elem P t e 1 bz z) {a : Option Addr} {n c i j : Nat} {bs : List Nat} {k k' : IntKind} {K : Value → Heap → Prop} (hr : Rd h a (nV bs)) (hn : bs.length = n) (hnc : n ≤ c) (hn0 : a = none → c = 0) (hij : i ≤ j) (hj : j ≤ n)
    (H : ∀ a' c', Rd h a' (nV ((bs.drop i).take (j - i))) → (a' = none → j - i = 0) → j - i ≤ c' → (a' = none → c' = 0) → K (.slice a' (j - i) c') h) : hwp P (Instr.sliceAt t (.slice a n c) (some (.int k (i : Int))) (some (.int k' (j : Int))) none) K h := by
  refine hwp_sliceSl (lo := some (.int k (i : Int))) (hi := some (.int k' (j : Int))) E trivial trivial (by simp [bnd]) (by simp [bnd]; omega) (by simp [bnd]; omega) ?_
  have e1 : (bnd (some (Value.int k' (j : Int))) (n : Int)).toNat - (bnd (some (Value.int k (i : Int))) 0).toNat = j - i := by simp [bnd]
  have e2 : c - (bnd (some (Value.int k (i : Int))) 0).toNat = c - i := by simp [bnd]
  have e3 : (bnd (some (Value.int k (i : Int))) 0).toNat * 1 = i := by simp [bnd]
  rw [e1, e2, e3]
  have en : ∀ x : Option Addr, x = (if (c : Int) = bnd (some (Value.int k (i : Int))) 0 then a else a.map (·.add i)) → x = none → c = 0 := by
    intro x hx hx0
    rw [hx0] at hx
    split at hx
    · exact hn0 hx.symm
    · cases a with
      | none => exact hn0 rfl
      | some ad => simp at hx
  refine H _ _ ?_ (fun h0 => by have := en _ rfl h0; omega) (by omega) (fun h0 => by have := en _ rfl h0; omega)
  by_cases hc : (c : Int) = bnd (some (Value.int k (i : Int))) 0
  · have : c = i := by simp only [bnd] at hc; omega
    rw [show j - i = 0 by omega, List.take_zero]; exact Rd.nil _ _
  · rw [if_neg hc]
    refine hr.sub _ fun q v hv => ?_
    simp only [nV, List.getElem?_map, List.getElem?_take, List.getElem?_drop] at hv ⊢
    split at hv
    · exact hv
    · simp at hv
/-- Some of a row of bytes, wherever it is read. -/
theorem cutG {P : Program} {t e : TypeId} {bz : Nat} {z : Value} (E : Elem P t e 1 bz z) {a : Option Addr} {n c i j : Nat} {bs : List Nat} {lo hi : Option Value} {K : Value → Heap → Prop} (hr : Gv L a (nV bs)) (hn : bs.length = n) (hnc : n ≤ c) (hn0 : a = none → c = 0) (hij : i ≤ j) (hj : j ≤ n) (hlo : bnd lo 0 = (i : Int)) (hhi : bnd hi (n : Int) = (j : Int))
    (H : ∀ a' c', Gv L a' (nV ((bs.drop i).take (j - i))) → (a' = none → j - i = 0) → j - i ≤ c' → (a' = none → c' = 0) → K (.slice a' (j - i) c') h) (il : isInt lo := by trivial) (ih : isInt hi := by trivial) : hwp P (Instr.sliceAt t (.slice a n c) lo hi none) K h := by
  refine hwp_sliceSl (lo := lo) (hi := hi) E il ih (by omega) (by omega) (by omega) ?_
  have e1 : (bnd hi (n : Int)).toNat - (bnd lo 0).toNat = j - i := by omega
  have e2 : c - (bnd lo 0).toNat = c - i := by omega
  have e3 : (bnd lo 0).toNat * 1 = i := by omega
  rw [e1, e2, e3]
  have en : ∀ x : Option Addr, x = (if (c : Int) = bnd lo 0 then a else a.map (·.add i)) → x = none → c = 0 := by
    intro x hx hx0
    rw [hx0] at hx
    split at hx
    · exact hn0 hx.symm
    · cases a with
      | none => exact hn0 rfl
      | some ad => simp at hx
  refine H _ _ ?_ (fun h0 => by have := en _ rfl h0; omega) (by omega) (fun h0 => by have := en _ rfl h0; omega)
  by_cases hc : (c : Int) = bnd lo 0
  · have : c = i := by omega
    rw [show j - i = 0 by omega, List.take_zero]; exact fun h _ => Rd.nil h _
  · rw [if_neg hc]
    refine fun h2 H2 => (hr h2 H2).sub _ fun q v hv => ?_
    simp only [nV, List.getElem?_map, List.getElem?_take, List.getElem?_drop] at hv ⊢
    split at hv
    · exact hv
    · simp at hv
theorem bytes_cutG {P : Program} {t e : TypeId} {bz : Nat} {z : Value} (E : Elem P t e 1 bz z) {a : Option Addr} {n c i j : Nat} {bs : List Nat} {k k' : IntKind} {K : Value → Heap → Prop} (hr : Gv L a (nV bs)) (hn : bs.length = n) (hnc : n ≤ c) (hn0 : a = none → c = 0) (hij : i ≤ j) (hj : j ≤ n)
    (H : ∀ a' c', Gv L a' (nV ((bs.drop i).take (j - i))) → (a' = none → j - i = 0) → j - i ≤ c' → (a' = none → c' = 0) → K (.slice a' (j - i) c') h) : hwp P (Instr.sliceAt t (.slice a n c) (some (.int k (i : Int))) (some (.int k' (j : Int))) none) K h :=
  cutG E hr hn hnc hn0 hij hj rfl rfl H
theorem bytes_tailG {P : Program} {t e : TypeId} {bz : Nat} {z : Value} (E : Elem P t e 1 bz z) {a : Option Addr} {n c i : Nat} {bs : List Nat} {k : IntKind} {K : Value → Heap → Prop} (hr : Gv L a (nV bs)) (hn : bs.length = n) (hnc : n ≤ c) (hn0 : a = none → c = 0) (hi : i ≤ n)
    (H : ∀ a' c', Gv L a' (nV (bs.drop i)) → (a' = none → n - i = 0) → n - i ≤ c' → (a' = none → c' = 0) → K (.slice a' (n - i) c') h) : hwp P (Instr.sliceAt t (.slice a n c) (some (.int k (i : Int))) none none) K h :=
  cutG (lo := some (.int k (i : Int))) (hi := none) E hr hn hnc hn0 hi (Nat.le_refl _) rfl rfl fun a' c' k => H a' c' (by rwa [List.take_of_length_le (by rw [List.length_drop, hn]; exact Nat.le_refl _)] at k)
end
end Go.HW
