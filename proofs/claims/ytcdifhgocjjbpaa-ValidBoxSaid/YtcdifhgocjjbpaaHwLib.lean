/- Laws of the operations on heaps: slices, blocks of cells. -/
import Derived.Test.YtcdifhgocjjbpaaHwCode
import Derived.IntWalk
set_option linter.unusedVariables false
set_option linter.unusedSimpArgs false
namespace Go.HW
open Go

/-- A struct's fields: type, place, cells. -/
def fieldsOf (P : Program) (t : TypeId) : List (TypeId × Nat × Nat) :=
  match P.underlying t with
  | some (.struct fs) => fs.toList.map fun f => (f.type, f.offset, P.cellsOf f.type)
  | _ => []
/-! ### Heaps -/
theorem get_push (h : Heap) (o : Obj) (i : Nat) : (h.push o)[i]? = if i = h.size then some o else h[i]? := Array.getElem?_push
theorem get_set (h : Heap) (b : Nat) (o : Obj) (i : Nat) : (h.setIfInBounds b o)[i]? = if b = i then (if b < h.size then some o else none) else h[i]? := Array.getElem?_setIfInBounds
theorem lt_of_get {h : Heap} {i : Nat} {o : Obj} (e : h[i]? = some o) : i < h.size := (Array.getElem?_eq_some_iff.1 e).1

/-- All that was there is as it was. -/
def Ext (h h' : Heap) : Prop := ∀ (i : Nat) (o : Obj), h[i]? = some o → h'[i]? = some o
theorem Ext.refl (h : Heap) : Ext h h := fun _ _ e => e
theorem Ext.trans {a b c : Heap} (h : Ext a b) (k : Ext b c) : Ext a c := fun i o e => k i o (h i o e)
theorem Ext.push (h : Heap) (o : Obj) : Ext h (h.push o) := fun i o' e => by
  rw [get_push, if_neg (by have := lt_of_get e; omega)]; exact e
theorem Ext.size {h h' : Heap} (k : Ext h h') : h.size ≤ h'.size := by
  rcases Nat.lt_or_ge h'.size h.size with hlt | hge
  · have e : h[h'.size]? = some h[h'.size] := Array.getElem?_eq_getElem hlt
    have := lt_of_get (k _ _ e); omega
  · exact hge
/-- All that was there below n is as it was. -/
def ExtB (n : Nat) (h h' : Heap) : Prop := h.size ≤ h'.size ∧ ∀ (i : Nat), i < n → h'[i]? = h[i]?
theorem ExtB.refl (n : Nat) (h : Heap) : ExtB n h h := ⟨Nat.le_refl _, fun _ _ => rfl⟩
theorem ExtB.trans {n : Nat} {a b c : Heap} (h : ExtB n a b) (k : ExtB n b c) : ExtB n a c := ⟨Nat.le_trans h.1 k.1, fun i hi => (k.2 i hi).trans (h.2 i hi)⟩
theorem ExtB.mono {n m : Nat} {h h' : Heap} (k : ExtB n h h') (hm : m ≤ n) : ExtB m h h' := ⟨k.1, fun i hi => k.2 i (by omega)⟩
theorem Ext.below {h h' : Heap} (k : Ext h h') : ExtB h.size h h' := ⟨k.size, fun i hi => by
  have e : h[i]? = some h[i] := Array.getElem?_eq_getElem hi
  rw [e]; exact k i _ e⟩
theorem ExtB.toExt {h h' : Heap} (k : ExtB h.size h h') : Ext h h' := fun i o e => by rw [k.2 i (lt_of_get e)]; exact e
theorem ExtB.push {n : Nat} {h : Heap} (hn : n ≤ h.size) (o : Obj) : ExtB n h (h.push o) := (Ext.push h o).below.mono hn
theorem ExtB.set {n : Nat} {h : Heap} {b : Nat} (hb : n ≤ b) (o : Obj) : ExtB n h (h.setIfInBounds b o) := ⟨by simp, fun i hi => by rw [get_set, if_neg (by omega)]⟩

theorem add_mk (b off n : Nat) : (Addr.add ⟨b, off, none⟩ n) = ⟨b, off + n, none⟩ := by
  unfold Addr.add; split
  · rename_i h; subst h; rfl
  · rfl
theorem cell_of {h : Heap} {b off : Nat} {cs : Array Value} {t : TypeId} {f : Nat × Nat} {v : Value} (e : h[b]? = some (.cells cs t f)) (ev : cs[off]? = some v) : cellH h ⟨b, off, none⟩ = some v := by
  unfold cellH wOf World.cell?
  simp only [e]; exact ev
theorem frozen_of {h : Heap} {b off : Nat} {cs : Array Value} {t : TypeId} (e : h[b]? = some (.cells cs t (0, 0))) : frozenH h ⟨b, off, none⟩ = false := by
  unfold frozenH wOf World.frozen?
  simp only [e]; simp
theorem setCell_of {h : Heap} {b off : Nat} {cs : Array Value} {t : TypeId} {f : Nat × Nat} (e : h[b]? = some (.cells cs t f)) (v : Value) : setCellH h ⟨b, off, none⟩ v = h.setIfInBounds b (.cells (cs.setIfInBounds off v) t f) := by
  have hlt := lt_of_get e
  unfold setCellH wOf World.setCell
  apply Array.ext_getElem?
  intro i
  simp only [Array.getElem?_modify, get_set]
  by_cases hi : b = i
  · subst hi; rw [if_pos rfl, if_pos rfl, if_pos hlt, e]; rfl
  · rw [if_neg hi, if_neg hi]

/-- A block of cells, wholly known. -/
def Blk (h : Heap) (b : Nat) (t : TypeId) (xs : List Value) : Prop := h[b]? = some (.cells xs.toArray t (0, 0))
theorem Blk.ext {h h' : Heap} {b : Nat} {t : TypeId} {xs : List Value} (k : Blk h b t xs) (e : Ext h h') : Blk h' b t xs := e _ _ k
theorem Blk.keep {n : Nat} {h h' : Heap} {b : Nat} {t : TypeId} {xs : List Value} (k : Blk h b t xs) (e : ExtB n h h') (hb : b < n) : Blk h' b t xs := (e.2 b hb).trans k
theorem Blk.lt {h : Heap} {b : Nat} {t : TypeId} {xs : List Value} (k : Blk h b t xs) : b < h.size := lt_of_get k
theorem Blk.new (h : Heap) (t : TypeId) (xs : List Value) : Blk (h.push (.cells xs.toArray t (0, 0))) h.size t xs := by unfold Blk; rw [get_push, if_pos rfl]
theorem Blk.set {h : Heap} {b : Nat} (hb : b < h.size) (t : TypeId) (xs : List Value) : Blk (h.setIfInBounds b (.cells xs.toArray t (0, 0))) b t xs := by unfold Blk; rw [get_set, if_pos rfl, if_pos hb]
theorem wr_ok {h : Heap} {b off : Nat} {t : TypeId} {xs : List Value} {v : Value} {K : Heap → Prop} (hb : Blk h b t xs) (ho : off < xs.length) (hv : oneC v = true)
    (H : K (h.setIfInBounds b (.cells (xs.set off v).toArray t (0, 0)))) : wr ⟨b, off, none⟩ v K h := by
  refine ⟨hv, ⟨xs[off], cell_of hb (by simp [ho])⟩, frozen_of hb, ?_⟩
  rw [setCell_of hb]
  simpa using H

/-- A row of cells that a slice reads. -/
def Rd (h : Heap) (a : Option Addr) (xs : List Value) : Prop := ∀ i v, xs[i]? = some v → ∃ ad, a = some ad ∧ cellH h (ad.add i) = some v
theorem cell_block {h h' : Heap} {a : Addr} (e : h'[a.block]? = h[a.block]?) : cellH h' a = cellH h a := by
  unfold cellH wOf World.cell?
  simp only [e]
theorem add_block (a : Addr) (n : Nat) : (a.add n).block = a.block := by unfold Addr.add; split <;> rfl
theorem add_add (a : Addr) (m n : Nat) : (a.add m).add n = a.add (m + n) := by
  unfold Addr.add
  by_cases hm : m = 0
  · subst hm; by_cases hn : n = 0 <;> simp [hn]
  · by_cases hn : n = 0
    · subst hn; simp [hm]
    · rw [if_neg hm, if_neg hn, if_neg (by omega)]; simp [Nat.add_assoc]
theorem cell_lt {h : Heap} {a : Addr} {v : Value} (e : cellH h a = some v) : a.block < h.size := by
  rcases Nat.lt_or_ge a.block h.size with hlt | hge
  · exact hlt
  · unfold cellH wOf World.cell? at e
    rw [show h[a.block]? = none from Array.getElem?_eq_none hge] at e
    cases e
theorem Rd.keepB {n : Nat} {h h' : Heap} {a : Option Addr} {xs : List Value} (k : Rd h a xs) (e : ExtB n h h') (hn : ∀ ad, a = some ad → xs ≠ [] → ad.block < n) : Rd h' a xs := by
  intro i v hv
  obtain ⟨ad, ha, hc⟩ := k i v hv
  refine ⟨ad, ha, ?_⟩
  rw [cell_block (h := h)]
  · exact hc
  · rw [add_block]; exact e.2 _ (hn _ ha (by rintro rfl; simp at hv))
theorem Rd.keep {h h' : Heap} {a : Option Addr} {xs : List Value} (k : Rd h a xs) (e : ExtB h.size h h') : Rd h' a xs := by
  refine k.keepB e fun ad ha hne => ?_
  obtain ⟨v, l, rfl⟩ := List.exists_cons_of_ne_nil hne
  obtain ⟨ad', ha', hc⟩ := k 0 v (by simp)
  rw [ha] at ha'; cases ha'
  have := cell_lt hc
  rwa [add_block] at this
theorem Rd.ext {h h' : Heap} {a : Option Addr} {xs : List Value} (k : Rd h a xs) (e : Ext h h') : Rd h' a xs := k.keep e.below
theorem Rd.lt {h : Heap} {a : Addr} {xs : List Value} (k : Rd h (some a) xs) (hne : xs ≠ []) : a.block < h.size := by
  obtain ⟨v, l, rfl⟩ := List.exists_cons_of_ne_nil hne
  obtain ⟨ad', ha', hc⟩ := k 0 v (by simp)
  cases ha'
  have := cell_lt hc
  rwa [add_block] at this
theorem Rd.nil (h : Heap) (a : Option Addr) : Rd h a [] := fun i v hv => by simp at hv
theorem Rd.of_blk {h : Heap} {b off : Nat} {t : TypeId} {xs ys : List Value} (k : Blk h b t xs) (e : ys = (xs.drop off).take ys.length) : Rd h (some ⟨b, off, none⟩) ys := by
  intro i v hv
  refine ⟨_, rfl, ?_⟩
  rw [add_mk]
  refine cell_of k ?_
  rw [e] at hv
  simp only [List.getElem?_take, List.getElem?_drop] at hv
  split at hv
  · simpa using hv
  · cases hv
theorem Rd.cell {h : Heap} {a : Addr} {xs : List Value} (k : Rd h (some a) xs) {i : Nat} {v : Value} (hi : xs[i]? = some v) : cellH h (a.add i) = some v := by
  obtain ⟨ad, ha, hc⟩ := k i v hi
  cases ha; exact hc
theorem Rd.some_of {h : Heap} {a : Option Addr} {xs : List Value} (k : Rd h a xs) (hne : xs ≠ []) : ∃ ad, a = some ad := by
  obtain ⟨v, l, rfl⟩ := List.exists_cons_of_ne_nil hne
  obtain ⟨ad', ha', hc⟩ := k 0 v (by simp)
  exact ⟨ad', ha'⟩
theorem Rd.sub {h : Heap} {a : Option Addr} {xs : List Value} (k : Rd h a xs) (lo : Nat) {ys : List Value} (e : ∀ (i : Nat) v, ys[i]? = some v → xs[lo + i]? = some v) : Rd h (a.map (·.add lo)) ys := by
  intro i v hv
  obtain ⟨ad, ha, hc⟩ := k (lo + i) v (e i v hv)
  subst ha
  exact ⟨_, rfl, by rw [add_add]; exact hc⟩
theorem Rd.take {h : Heap} {a : Option Addr} {xs : List Value} (k : Rd h a xs) (n : Nat) : Rd h a (xs.take n) := fun i v hv => k i v (by
  rw [List.getElem?_take] at hv
  split at hv
  · exact hv
  · cases hv)

/-! ### Types of slices -/
structure Elem (P : Program) (t e : TypeId) (sz bz : Nat) (z : Value) : Prop where
  und : P.underlying t = some (.slice e)
  info : ∃ i, P.info? e = some i ∧ i.size = sz ∧ i.bytes = bz ∧ i.zero = some z
theorem Elem.of {P : Program} {t e : TypeId} {sz bz : Nat} {z : Value} (u : P.underlying t = some (.slice e)) (i : (P.info? e).map (fun i => (i.size, i.bytes, i.zero)) = some (sz, bz, some z)) : Elem P t e sz bz z := by
  refine ⟨u, ?_⟩
  cases h : P.info? e with
  | none => rw [h] at i; cases i
  | some j => rw [h] at i; simp only [Option.map_some, Option.some.injEq, Prod.mk.injEq] at i; exact ⟨j, rfl, i.1, i.2.1, i.2.2⟩
theorem size_of {P : Program} {e : TypeId} {sz : Nat} (i : (P.info? e).map (·.size) = some sz) : ∃ i, P.info? e = some i ∧ i.size = sz := by
  cases h : P.info? e with
  | none => rw [h] at i; cases i
  | some j => rw [h] at i; simp only [Option.map_some, Option.some.injEq] at i; exact ⟨j, rfl, i⟩
theorem Elem.sizeOf {P : Program} {t e : TypeId} {sz bz : Nat} {z : Value} (E : Elem P t e sz bz z) {K : Nat → Heap → Prop} {h : Heap} : hwp P (Go.sizeOf e) K h ↔ K sz h := by
  obtain ⟨i, hi, hs, _, _⟩ := E.info
  simp only [Go.sizeOf, Go.typeInfo, program, bind, hwp_bind, hwp, hi, pure, hs]
theorem Elem.typeInfo {P : Program} {t e : TypeId} {sz bz : Nat} {z : Value} (E : Elem P t e sz bz z) {K : TypeInfo → Heap → Prop} {h : Heap} (H : ∀ i, i.bytes = bz → i.zero = some z → i.size = sz → K i h) : hwp P (Go.typeInfo e) K h := by
  obtain ⟨i, hi, hs, hb, hz⟩ := E.info
  simp only [Go.typeInfo, program, bind, hwp_bind, hwp, hi, pure]; exact H i hb hz hs
theorem Elem.zeroValue {P : Program} {t e : TypeId} {sz bz : Nat} {z : Value} (E : Elem P t e sz bz z) {K : Value → Heap → Prop} {h : Heap} : hwp P (Go.zeroValue e) K h ↔ K z h := by
  obtain ⟨i, hi, _, _, hz⟩ := E.info
  simp only [Go.zeroValue, Go.typeInfo, program, bind, hwp_bind, hwp, hi, pure, hz]

theorem hwp_int {P : Program} {k : IntKind} {n : Int} {K : Int → Heap → Prop} {h : Heap} : hwp P (asInt (.int k n)) K h ↔ K n h := Iff.rfl

theorem hwp_index {P : Program} {t e : TypeId} {sz bz : Nat} {z : Value} (E : Elem P t e sz bz z) {a : Addr} {n c : Nat} {k : IntKind} {i : Int} (h0 : 0 ≤ i) (hi : i < n) {K : Value → Heap → Prop} {h : Heap}
    (H : K (.pointer (some (a.add (i.toNat * sz)))) h) : hwp P (Instr.indexAt t (.slice (some a) n c) (.int k i)) K h := by
  unfold Instr.indexAt
  refine (hwp_bind' _ _ _ _).2 ((hwp_bind' _ _ _ _).2 ((hwp_underlying E.und).2 ?_))
  show hwp P (Go.underlying t >>= _) K h
  refine (hwp_bind' _ _ _ _).2 ((hwp_underlying E.und).2 ?_)
  show hwp P (if 0 ≤ i ∧ i < (n : Int) then _ else _) K h
  rw [if_pos ⟨h0, hi⟩]
  exact (hwp_bind' _ _ _ _).2 (E.sizeOf.2 H)
theorem hwp_indexArr {P : Program} {t e : TypeId} {len sz : Nat} (hu : P.underlying t = some (.array len e)) (hs : ∃ i, P.info? e = some i ∧ i.size = sz) {a : Addr} {k : IntKind} {i : Int} (h0 : 0 ≤ i) (hi : i < len) {K : Value → Heap → Prop} {h : Heap}
    (H : K (.pointer (some (a.add (i.toNat * sz)))) h) : hwp P (Instr.indexAt t (.pointer (some a)) (.int k i)) K h := by
  unfold Instr.indexAt
  refine (hwp_bind' _ _ _ _).2 ((hwp_bind' _ _ _ _).2 ((hwp_underlying hu).2 ?_))
  show hwp P (Go.underlying t >>= _) K h
  refine (hwp_bind' _ _ _ _).2 ((hwp_underlying hu).2 ?_)
  show hwp P (if 0 ≤ i ∧ i < (len : Int) then _ else _) K h
  rw [if_pos ⟨h0, hi⟩]
  obtain ⟨inf, hinf, hsz⟩ := hs
  refine (hwp_bind' _ _ _ _).2 ?_
  simp only [Go.sizeOf, Go.typeInfo, program, bind, hwp_bind, hwp, hinf, pure, hsz]
  exact H

theorem hwp_sliceBound {P : Program} {k : IntKind} {i : Int} {y : Nat} {c : BoundsCode} (h0 : 0 ≤ i) (h1 : i ≤ y) {K : Nat → Heap → Prop} {h : Heap} (H : K i.toNat h) : hwp P (Instr.sliceBound (.int k i) y c) K h := by
  unfold Instr.sliceBound
  refine (hwp_bind' _ _ _ _).2 ?_
  show hwp P (if 0 ≤ i ∧ i ≤ (y : Int) then _ else _) K h
  rw [if_pos ⟨h0, h1⟩]; exact H
/-- A bound of a slice expression, or its default. -/
def bnd (o : Option Value) (d : Int) : Int := match o with | some (.int _ i) => i | _ => d
def isInt : Option Value → Prop | none => True | some (.int _ _) => True | _ => False
theorem hwp_sliceSl {P : Program} {t e : TypeId} {sz bz : Nat} {z : Value} (E : Elem P t e sz bz z) {a : Option Addr} {n c : Nat} {lo hi : Option Value} (il : isInt lo) (ih : isInt hi)
    (h0 : 0 ≤ bnd lo 0) (h1 : bnd lo 0 ≤ bnd hi n) (h2 : bnd hi n ≤ c) {K : Value → Heap → Prop} {h : Heap}
    (H : K (.slice (if (c : Int) = bnd lo 0 then a else a.map (·.add ((bnd lo 0).toNat * sz))) ((bnd hi n).toNat - (bnd lo 0).toNat) (c - (bnd lo 0).toNat)) h) :
    hwp P (Instr.sliceAt t (.slice a n c) lo hi none) K h := by
  unfold Instr.sliceAt
  refine (hwp_bind' _ _ _ _).2 ((hwp_underlying E.und).2 ?_)
  show hwp P (Instr.slice t (.slice a n c) lo hi none) K h
  unfold Instr.slice
  refine (hwp_bind' _ _ _ _).2 ((hwp_underlying E.und).2 ((hwp_bind' _ _ _ _).2 ?_))
  have key : hwp P (Instr.sliceBounds true n c lo hi none) (fun p h' => p = ((bnd lo 0).toNat, (bnd hi n).toNat, c) ∧ h' = h) h := by
    unfold Instr.sliceBounds
    refine (hwp_bind' _ _ _ _).2 ?_
    show hwp P _ _ h
    cases hi with
    | none =>
      refine (hwp_bind' _ _ _ _).2 ?_
      cases lo with
      | none => refine (hwp_bind' _ _ _ _).2 ?_; simp [hwp, pure, bnd]
      | some v =>
        obtain ⟨k, i, rfl⟩ : ∃ k i, v = .int k i := by cases v <;> simp_all [isInt]
        have h0 : 0 ≤ i := h0
        have h1 : i ≤ (n : Int) := h1
        refine (hwp_bind' _ _ _ _).2 (hwp_sliceBound h0 h1 ?_)
        simp [hwp, pure, bnd]
    | some u =>
      obtain ⟨k', j, rfl⟩ : ∃ k i, u = .int k i := by cases u <;> simp_all [isInt]
      have h1 : bnd lo 0 ≤ j := h1
      have h2 : j ≤ c := h2
      show hwp P _ (fun p h' => p = ((bnd lo 0).toNat, j.toNat, c) ∧ h' = h) h
      refine (hwp_bind' _ _ _ _).2 (hwp_sliceBound (by omega) h2 ?_)
      cases lo with
      | none => refine (hwp_bind' _ _ _ _).2 ?_; simp [hwp, pure, bnd]
      | some v =>
        obtain ⟨k, i, rfl⟩ : ∃ k i, v = .int k i := by cases v <;> simp_all [isInt]
        have h0 : 0 ≤ i := h0
        have h1 : i ≤ j := h1
        refine (hwp_bind' _ _ _ _).2 (hwp_sliceBound h0 (by omega) ?_)
        exact ⟨rfl, rfl⟩
  refine hwp_mono _ ?_ key
  rintro _ _ ⟨rfl, rfl⟩
  refine (hwp_bind' _ _ _ _).2 (E.sizeOf.2 ?_)
  show K _ _
  have e : (c = (bnd lo 0).toNat) ↔ ((c : Int) = bnd lo 0) := by omega
  simp only [e]; exact H

/-! ### make, copy, append -/
theorem firstCells_ok {P : Program} {sz m c : Nat} {a : Option Addr} {xs : List Value} {h : Heap} (hl : xs.length = m * sz) (hr : Rd h a xs) (hn : a = none → m = 0) {K : Array Value → Heap → Prop} (H : K xs.toArray h) :
    hwp P (Builtin.firstCells sz m (.slice a m c)) K h := by
  cases a with
  | none =>
    have := hn rfl
    subst this
    have : xs = [] := by cases xs with | nil => rfl | cons => simp at hl
    subst this
    exact H
  | some ad =>
    show hwp P (loadCells ad (m * sz)) K h
    refine loadCells_ok hl ?_ H
    have : ∀ (l : List Value) (i : Nat), (∀ j, j < l.length → xs[i + j]? = l[j]?) → rdCells h ad i l := by
      intro l
      induction l with
      | nil => exact fun _ _ => trivial
      | cons v l ih =>
        intro i hj
        refine ⟨hr.cell (by simpa using hj 0 (by simp)), ih (i + 1) (fun j hj' => ?_)⟩
        have := hj (j + 1) (by simp; omega)
        simp only [List.getElem?_cons_succ] at this
        rw [← this]; congr 1; omega
    exact this xs 0 (fun j _ => by simp)

theorem storeCells_blk {P : Program} {b : Nat} {t : TypeId} (ys : List Value) : ∀ {h : Heap} {xs : List Value} {off i : Nat} {K : Unit → Heap → Prop}, Blk h b t xs → off + i + ys.length ≤ xs.length → (∀ v ∈ ys, oneC v = true) →
    (∀ h', (∀ j, b ≠ j → h'[j]? = h[j]?) → h'.size = h.size → Blk h' b t (xs.take (off + i) ++ ys ++ xs.drop (off + i + ys.length)) → K () h') → hwp P (storeCells ⟨b, off, none⟩ ys i) K h := by
  induction ys with
  | nil =>
    intro h xs off i K hb hl hv H
    exact H h (fun _ _ => rfl) rfl (by simpa using hb)
  | cons y ys ih =>
    intro h xs off i K hb hl hv H
    have hlt : off + i < xs.length := by simp at hl; omega
    refine (hwp_bind' _ _ _ _).2 ?_
    rw [add_mk]
    refine wr_ok (K := fun h => hwp P (storeCells ⟨b, off, none⟩ ys (i + 1)) K h) hb hlt (hv y (by simp)) ?_
    refine ih (xs := xs.set (off + i) y) (Blk.set hb.lt t _) (by simp at hl ⊢; omega) (fun v hv' => hv v (by simp [hv'])) ?_
    intro h' hk hs hb'
    refine H h' (fun j hj => by rw [hk j hj, get_set, if_neg hj]) (by rw [hs]; simp) ?_
    have e : (xs.set (off + i) y).take (off + (i + 1)) ++ ys ++ (xs.set (off + i) y).drop (off + (i + 1) + ys.length) = xs.take (off + i) ++ (y :: ys) ++ xs.drop (off + i + (y :: ys).length) := by
      rw [List.drop_set_of_lt (by omega), ← Nat.add_assoc, List.take_succ_eq_append_getElem (by simp; omega)]
      simp [List.take_set_of_le, Nat.add_assoc, Nat.add_comm 1]
    rwa [e] at hb'

theorem hwp_copy {P : Program} {t e t2 : TypeId} {sz bz : Nat} {z : Value} (E : Elem P t e sz bz z) {ty bt : TypeId} {b off n c m c2 : Nat} {a2 : Option Addr} {xs ys : List Value} {h : Heap} {K : Value → Heap → Prop}
    (hb : Blk h b bt xs) (hy : ys.length = min m n * sz) (hr : Rd h a2 ys) (hn : a2 = none → m = 0) (hle : off + ys.length ≤ xs.length) (hv : ∀ v ∈ ys, oneC v = true)
    (H : ∀ h', (∀ j, b ≠ j → h'[j]? = h[j]?) → h'.size = h.size → Blk h' b bt (xs.take off ++ ys ++ xs.drop (off + ys.length)) → K (.int .i64 (min m n : Nat)) h') :
    hwp P (Builtin.copy_ #[t, t2] ty #[.slice (some ⟨b, off, none⟩) n c, .slice a2 m c2]) K h := by
  unfold Builtin.copy_
  refine (hwp_bind' _ _ _ _).2 ((hwp_underlying E.und).2 ?_)
  refine (hwp_bind' _ _ _ _).2 ?_
  refine (hwp_bind' _ _ _ _).2 (E.sizeOf.2 ?_)
  refine (hwp_bind' _ _ _ _).2 ?_
  have fc : hwp P (Builtin.firstCells sz (min m n) (.slice a2 m c2)) (fun vs h' => vs = ys.toArray ∧ h' = h) h := by
    have := firstCells_ok (P := P) (c := c2) hy hr (fun h => by rw [hn h]; simp) (K := fun vs h' => vs = ys.toArray ∧ h' = h) ⟨rfl, rfl⟩
    cases a2 <;> exact this
  refine hwp_mono _ ?_ fc
  rintro _ _ ⟨rfl, rfl⟩
  show hwp P (storeCells ⟨b, off, none⟩ ys >>= fun _ => _) _ _
  refine (hwp_bind' _ _ _ _).2 (storeCells_blk ys hb (by omega) hv ?_)
  intro h' hk hs hb'
  exact H h' hk hs (by simpa using hb')

theorem hwp_askRoom {P : Program} {n : Nat} {K : Unit → Heap → Prop} {h : Heap} (H : K () h) : hwp P (askRoom n) K h := by
  unfold askRoom; split <;> exact H
theorem range_replicate (n : Nat) (z : Value) : (Array.range n).map (fun i => #[z][i % 1]!) = Array.replicate n z := by
  apply Array.ext
  · simp
  · intro i h1 h2; simp [Nat.mod_one]

theorem hwp_make {P : Program} {t e : TypeId} {bz : Nat} {z : Value} (E : Elem P t e 1 bz z) (hz : z.cells = #[z]) {n c : Nat} {k k' : IntKind} (hnc : n ≤ c) (hc : bz * c ≤ 2 ^ 48) (hc2 : c < 2 ^ 63) {K : Value → Heap → Prop} {h : Heap}
    (H : K (.slice (some ⟨h.size, 0, none⟩) n c) (h.push (.cells (List.replicate c z).toArray e (0, 0)))) : hwp P (Instr.makeSlice t (.int k n) (.int k' c)) K h := by
  unfold Instr.makeSlice
  refine (hwp_bind' _ _ _ _).2 ((hwp_underlying E.und).2 ((hwp_bind' _ _ _ _).2 (hwp_int.2 ((hwp_bind' _ _ _ _).2 (hwp_int.2 ((hwp_bind' _ _ _ _).2 (E.typeInfo ?_)))))))
  intro i hbz hiz his
  have wn : ∀ m : Nat, m < 2 ^ 63 → IntKind.i64.wrap (m : Int) = m := fun m hm => IntWalk.i64_in _ (by omega)
  have h1 : (bz : Int) * (c : Int) ≤ 2 ^ 48 := by exact_mod_cast hc
  simp only [wn n (by omega), wn c hc2, hbz]
  rw [if_neg (by
    have e1 : decide ((c : Int) < 0) = false := by simp only [decide_eq_false_iff_not]; omega
    have e2 : decide ((bz : Int) * (c : Int) > 2 ^ 48) = false := by simp only [decide_eq_false_iff_not]; omega
    have e3 : decide ((n : Int) < 0) = false := by simp only [decide_eq_false_iff_not]; omega
    have e4 : decide ((n : Int) > c) = false := by simp only [decide_eq_false_iff_not]; omega
    simp only [e1, e2, e3, e4]; decide)]
  refine (hwp_bind' _ _ _ _).2 (hwp_askRoom ?_)
  refine (hwp_bind' _ _ _ _).2 (E.sizeOf.2 ?_)
  have fin : ∀ zs : Array Value, (zs = #[z] ∨ c = 0) → hwp P (do
      let a ← newRow e ((Array.range (c * 1)).map fun i => zs[i % zs.size]!)
      pure (Value.slice (some a) n c)) K h := by
    intro zs hzs
    show K _ _
    rcases hzs with rfl | rfl
    · rw [Nat.mul_one, show (#[z] : Array Value).size = 1 from rfl, range_replicate]
      simpa using H
    · simpa [Array.range] using H
  by_cases hc0 : (c : Int).toNat * 1 = 0
  · rw [if_pos hc0]
    exact fin #[] (.inr (by simpa using hc0))
  · rw [if_neg hc0]
    show hwp P (Go.zeroValue e >>= fun v => _) _ h
    refine (hwp_bind' _ _ _ _).2 (E.zeroValue.2 ?_)
    have := fin z.cells (.inl hz)
    exact this

/-- A slice whose room can be written. -/
def Own (h : Heap) (a : Option Addr) (n c : Nat) (e : TypeId) (sz : Nat) (xs : List Value) : Prop :=
  xs.length = n * sz ∧ n ≤ c ∧ ((a = none ∧ c = 0) ∨ ∃ b off cs, a = some ⟨b, off, none⟩ ∧ h[b]? = some (.cells cs e (0, 0)) ∧ off + c * sz ≤ cs.size ∧ ∀ i, i < xs.length → cs[off + i]? = xs[i]?)
theorem Own.rd {h : Heap} {a : Option Addr} {n c : Nat} {e : TypeId} {sz : Nat} {xs : List Value} (k : Own h a n c e sz xs) : Rd h a xs := by
  obtain ⟨hl, hnc, ⟨rfl, rfl⟩ | ⟨b, off, cs, ha, hb, hc, hx⟩⟩ := k
  · have h0 : n = 0 := by omega
    have : xs = [] := by cases xs with | nil => rfl | cons => simp [h0] at hl
    subst this; exact Rd.nil _ _
  · intro i v hv
    refine ⟨_, ha, ?_⟩
    rw [add_mk]
    refine cell_of hb ?_
    rw [hx i (List.getElem?_eq_some_iff.1 hv).1]; exact hv
theorem Own.none_zero {h : Heap} {a : Option Addr} {n c : Nat} {e : TypeId} {sz : Nat} {xs : List Value} (k : Own h a n c e sz xs) (ha : a = none) : n = 0 := by
  obtain ⟨hl, hnc, ⟨_, rfl⟩ | ⟨b, off, cs, ha', _⟩⟩ := k
  · omega
  · rw [ha] at ha'; cases ha'
theorem Own.keep {h h' : Heap} {a : Option Addr} {n c : Nat} {e : TypeId} {sz : Nat} {xs : List Value} (k : Own h a n c e sz xs) (hk : ∀ ad, a = some ad → h'[ad.block]? = h[ad.block]?) : Own h' a n c e sz xs := by
  obtain ⟨hl, hnc, q | ⟨b, off, cs, ha, hb, hc, hx⟩⟩ := k
  · exact ⟨hl, hnc, .inl q⟩
  · exact ⟨hl, hnc, .inr ⟨b, off, cs, ha, (hk _ ha).trans hb, hc, hx⟩⟩
theorem Own.nil (h : Heap) (e : TypeId) (sz : Nat) : Own h none 0 0 e sz [] := ⟨by simp, Nat.le_refl _, .inl ⟨rfl, rfl⟩⟩
theorem Own.of_blk {h : Heap} {b off : Nat} {e : TypeId} {xs ys : List Value} {n c sz : Nat} (k : Blk h b e xs) (hy : ys = (xs.drop off).take (n * sz)) (hl : ys.length = n * sz) (hnc : n ≤ c) (hc : off + c * sz ≤ xs.length) : Own h (some ⟨b, off, none⟩) n c e sz ys := by
  refine ⟨hl, hnc, .inr ⟨b, off, xs.toArray, rfl, k, by simpa using hc, fun i hi => ?_⟩⟩
  rw [hy]
  simp only [List.getElem?_toArray, List.getElem?_take, List.getElem?_drop]
  rw [if_pos (by omega)]
/-- Slicing what is owned. -/
theorem Own.sub {h : Heap} {a : Option Addr} {n c : Nat} {e : TypeId} {sz : Nat} {xs : List Value} (k : Own h a n c e sz xs) (lo hi : Nat) (h1 : lo ≤ hi) (h2 : hi ≤ n) : Own h (if (c : Int) = lo then a else a.map (·.add (lo * sz))) (hi - lo) (c - lo) e sz ((xs.drop (lo * sz)).take ((hi - lo) * sz)) := by
  obtain ⟨hl, hnc, q | ⟨b, off, cs, ha, hb, hc, hx⟩⟩ := k
  · obtain ⟨rfl, rfl⟩ := q
    refine ⟨?_, by omega, .inl ⟨by simp, by omega⟩⟩
    have : n = 0 := by omega
    have : xs = [] := by cases xs with | nil => rfl | cons => simp at hl; simp [this] at hl
    subst this; have : hi - lo = 0 := by omega
    simp [this]
  · subst ha
    have e1 : (hi - lo) * sz = hi * sz - lo * sz := Nat.sub_mul _ _ _
    have e2 : hi * sz ≤ n * sz := Nat.mul_le_mul_right _ h2
    have e3 : lo * sz ≤ hi * sz := Nat.mul_le_mul_right _ h1
    have e4 : (c - lo) * sz = c * sz - lo * sz := Nat.sub_mul _ _ _
    have e5 : n * sz ≤ c * sz := Nat.mul_le_mul_right _ hnc
    refine ⟨by simp; omega, by omega, ?_⟩
    by_cases hcl : (c : Int) = lo
    · rw [if_pos hcl]
      have : hi - lo = 0 := by omega
      refine .inr ⟨b, off, cs, rfl, hb, by omega, fun i hi' => ?_⟩
      simp [this] at hi'
    · rw [if_neg hcl]
      refine .inr ⟨b, off + lo * sz, cs, by simp [add_mk], hb, by omega, fun i hi' => ?_⟩
      simp at hi'
      simp only [List.getElem?_take, List.getElem?_drop]
      rw [if_pos (by omega), Nat.add_assoc]; exact hx _ (by omega)

theorem growBy_le (need : Nat) : ∀ (r c : Nat), c ≤ need → Builtin.growBy need r c ≤ 2 * need + 192
  | 0, c, hc => by show c ≤ _; omega
  | r + 1, c, hc => by
    show (if c ≥ need then c else Builtin.growBy need r (c + (c + 768) / 4)) ≤ _
    split
    · omega
    · rcases Nat.le_total (c + (c + 768) / 4) need with h | h
      · exact growBy_le need r _ h
      · have : Builtin.growBy need r (c + (c + 768) / 4) = c + (c + 768) / 4 := by
          cases r with
          | zero => rfl
          | succ r => show (if _ then _ else _) = _; rw [if_pos h]
        rw [this]; omega
theorem cap_le {need old : Nat} (h : old < need) : Builtin.nextslicecap need old ≤ 2 * need + 192 := by
  unfold Builtin.nextslicecap
  split
  · omega
  · split
    · omega
    · exact growBy_le need 4 old (by omega)
theorem zeroCells_list (z : Array Value) (n : Nat) : ∃ l : List Value, Builtin.zeroCells z n = l.toArray := ⟨_, (Array.toArray_toList (xs := Builtin.zeroCells z n)).symm⟩
theorem zeroCells_size (z : Array Value) (n : Nat) : (Builtin.zeroCells z n).size = n * z.size := by simp [Builtin.zeroCells]

/-- append: what a second slice or a string holds is put behind the first. -/
def Src (h : Heap) : Value → Nat → Nat → List Value → Prop
  | .slice a m _, m', sz, ys => m' = m ∧ ys.length = m * sz ∧ Rd h a ys ∧ (a = none → m = 0)
  | .string s, m', sz, ys => m' = s.size ∧ sz = 1 ∧ ys = s.data.toList.map fun b => .int .u8 b.toNat
  | _, _, _, _ => False

theorem pure_step {P : Program} {α : Type} (f : TypeDesc → α) (u : TypeDesc) (v : α) {K : α → Heap → Prop} {h : Heap} (e : f u = v) (H : K v h) : hwp P (pure (f u)) K h := by rw [e]; exact H
def notInt : TypeDesc → Bool | .int _ => false | _ => true
theorem hwp_append {P : Program} {t e t2 : TypeId} {sz bz : Nat} {z : Value} (E : Elem P t e sz bz z) (hz : z.cells.size = sz) {ut : TypeDesc} (hu : P.underlying t2 = some ut) (hnu : notInt ut = true) {ty : TypeId} {a : Option Addr} {n c m : Nat} {x : Value} {xs ys : List Value} {h : Heap} {K : Value → Heap → Prop}
    (ho : Own h a n c e sz xs) (hx : Src h x m sz ys) (hv : ∀ v ∈ ys, oneC v = true) (hm : (2 * (n + m) + 192) * bz ≤ 2 ^ 48) (hm0 : n + m < 2 ^ 62)
    (H : ∀ h' a' c', h.size ≤ h'.size → (∀ j, j < h.size → (∀ ad, a = some ad → ad.block ≠ j) → h'[j]? = h[j]?) →
      Own h' a' (n + m) c' e sz (xs ++ ys) → (∀ ad, a' = some ad → ad.block < h'.size ∧ ((∃ ad0, a = some ad0 ∧ ad0.block = ad.block) ∨ h.size ≤ ad.block)) → (c < n + m → ∀ j, j < h.size → h'[j]? = h[j]?) → K (.slice a' (n + m) c') h') :
    hwp P (Builtin.append_ #[t, t2] ty #[.slice a n c, x]) K h := by
  obtain ⟨inf, hinf, hsz, hbz, hzz⟩ := E.info
  have hxl : xs.length = n * sz := ho.1
  have hyl : ys.length = m * sz := by
    cases x <;> simp only [Src] at hx
    · obtain ⟨rfl, h2, rfl⟩ := hx; subst h2; simp
    · obtain ⟨rfl, h2, _⟩ := hx; exact h2
  have hln : ∀ (K : Nat → Heap → Prop), K m h → hwp P (Builtin.lenOf x) K h := by
    intro K hK
    cases x <;> simp only [Src] at hx
    · obtain ⟨rfl, _⟩ := hx; exact hK
    · obtain ⟨rfl, _⟩ := hx; exact hK
  have hfc : ∀ (K : Array Value → Heap → Prop), K ys.toArray h → hwp P (Builtin.firstCells sz m x) K h := by
    intro K hK
    cases x <;> simp only [Src] at hx
    · obtain ⟨rfl, rfl, rfl⟩ := hx
      show K ((_ : ByteArray).data.map _) h
      have e : ∀ s : ByteArray, (s.extract 0 s.size).data.map (fun b => Value.int .u8 b.toNat) = (s.data.toList.map fun b => Value.int .u8 b.toNat).toArray := by
        intro s; rw [ByteArray.data_extract, show s.size = s.data.size from rfl, Array.extract_size]; apply Array.toList_inj.1; simp
      rw [e]; exact hK
    · obtain ⟨rfl, h2, h3, h4⟩ := hx
      exact firstCells_ok h2 h3 h4 hK
  unfold Builtin.append_
  refine (hwp_bind' _ _ _ _).2 ((hwp_underlying E.und).2 ?_)
  refine (hwp_bind' _ _ _ _).2 (E.sizeOf.2 ?_)
  refine (hwp_bind' _ _ _ _).2 ((hwp_underlying hu).2 ?_)
  refine (hwp_bind' _ _ _ _).2 ?_
  refine pure_step (fun u => match u with | .int _ => true | _ => false) ut false ?_ ?_
  · cases ut <;> first | rfl | cases hnu
  show hwp P (Builtin.lenOf x >>= _) K h
  refine (hwp_bind' _ _ _ _).2 (hln _ ?_)
  by_cases hc : n + m ≤ c
  · show hwp P (if n + m ≤ c then _ else _) K h
    rw [if_pos hc]
    show hwp P (Builtin.firstCells sz m x >>= _) K h
    refine (hwp_bind' _ _ _ _).2 (hfc _ ?_)
    obtain ⟨hl, hnc, ⟨rfl, rfl⟩ | ⟨b, off, cs, rfl, hb, hcs, hxc⟩⟩ := ho
    · have hm0 : m = 0 := by omega
      have hn0 : n = 0 := by omega
      subst hm0 hn0
      have : ys = [] := by cases ys with | nil => rfl | cons => simp at hyl
      subst this
      refine H h none 0 (Nat.le_refl _) (fun _ _ _ => rfl) ⟨by simpa using hl, by omega, .inl ⟨rfl, rfl⟩⟩ (fun _ h => by cases h) (fun h => by omega)
    · show hwp P (storeCells ((⟨b, off, none⟩ : Addr).add (n * sz)) ys >>= fun _ => _) _ _
      rw [add_mk]
      have e5 : (n + m) * sz ≤ c * sz := Nat.mul_le_mul_right _ hc
      have e6 : (n + m) * sz = n * sz + m * sz := Nat.add_mul _ _ _
      refine (hwp_bind' _ _ _ _).2 (storeCells_blk (xs := cs.toList) ys (by unfold Blk; simpa using hb) (by simp; omega) hv ?_)
      intro h' hk hs hb'
      refine H h' (some ⟨b, off, none⟩) c (by omega) (fun j hj hne => hk j (hne _ rfl)) ?_ (fun ad had => by cases had; exact ⟨by rw [hs]; exact lt_of_get hb, .inl ⟨_, rfl, rfl⟩⟩) (fun h => by omega)
      refine Own.of_blk hb' ?_ (by simp; omega) hc (by simp; omega)
      simp only [Nat.add_zero]
      apply List.ext_getElem?
      intro i
      simp only [List.getElem?_take, List.getElem?_drop, List.getElem?_append, List.length_append, List.length_take]
      have hcs' : off + n * sz ≤ cs.size := by omega
      simp only [Array.length_toList, Nat.min_eq_left hcs']
      rcases Nat.lt_or_ge i (xs.length) with h1 | h1
      · rw [if_pos h1, if_pos (by omega), if_pos (by omega), if_pos (by omega), if_pos (by omega), ← hxc i h1]; simp
      · rw [if_neg (by omega)]
        rcases Nat.lt_or_ge i (xs.length + ys.length) with h2 | h2
        · rw [if_pos (by omega), if_pos (by omega), if_neg (by omega)]; congr 1; omega
        · rw [if_neg (by omega)]; simp; omega
  · show hwp P (if n + m ≤ c then _ else _) K h
    rw [if_neg hc]
    have hcap := cap_le (need := n + m) (old := c) (by omega)
    have hle := Nat.mul_le_mul_right bz hcap
    refine (hwp_bind' _ _ _ _).2 (E.typeInfo ?_)
    intro i1 hb1 _ _
    rw [if_neg (by rintro ⟨h1, _⟩; have : IntKind.i64.max = 9223372036854775807 := rfl; omega)]
    refine (hwp_bind' _ _ _ _).2 (E.typeInfo ?_)
    intro i2 hb2 _ _
    rw [if_neg (by rw [hb2]; omega)]
    refine (hwp_bind' _ _ _ _).2 ?_
    show ∀ t, _
    intro t
    have hnc : n + m ≤ (Question.appendCap (n + m) c e).cut t := by show _ ≤ n + m + _; omega
    generalize (Question.appendCap (n + m) c e).cut t = nc at hnc ⊢
    refine (hwp_bind' _ _ _ _).2 (E.typeInfo ?_)
    intro i3 hb3 _ _
    refine (hwp_bind' _ _ _ _).2 (hwp_askRoom ?_)
    refine (hwp_bind' _ _ _ _).2 (firstCells_ok hxl ho.rd ho.none_zero ?_)
    refine (hwp_bind' _ _ _ _).2 (hfc _ ?_)
    refine (hwp_bind' _ _ _ _).2 (E.zeroValue.2 ?_)
    obtain ⟨zl, hzl⟩ := zeroCells_list z.cells (nc - (n + m))
    have hzs := zeroCells_size z.cells (nc - (n + m))
    rw [hzl, hz] at hzs
    rw [hzl]
    refine (hwp_bind' _ _ _ _).2 ?_
    show K (.slice (some ⟨h.size, 0, none⟩) (n + m) nc) (h.push (.cells (xs.toArray ++ ys.toArray ++ zl.toArray) e (0, 0)))
    have hap : xs.toArray ++ ys.toArray ++ zl.toArray = (xs ++ ys ++ zl).toArray := by simp
    rw [hap]
    refine H _ _ _ (by simp) (fun j hj _ => by rw [get_push, if_neg (by omega)]) ?_ (fun ad had => by cases had; exact ⟨by simp, .inr (Nat.le_refl _)⟩) (fun _ j hj => by rw [get_push, if_neg (by omega)])
    have e6 : (n + m) * sz = n * sz + m * sz := Nat.add_mul _ _ _
    refine Own.of_blk (Blk.new h e _) ?_ (by simp; omega) hnc ?_
    · rw [List.drop_zero, e6, ← hxl, ← hyl, ← List.length_append, List.take_left]
    · simp at hzs
      have e7 : (nc - (n + m)) * sz = nc * sz - (n + m) * sz := Nat.sub_mul _ _ _
      have e8 : (n + m) * sz ≤ nc * sz := Nat.mul_le_mul_right _ hnc
      simp; omega
end Go.HW
