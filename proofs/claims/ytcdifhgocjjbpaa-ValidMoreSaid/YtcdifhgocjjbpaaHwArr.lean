/- Arrays: an element, a slice of the whole, equality; a literal's bytes. -/
import Derived.Test.YtcdifhgocjjbpaaHwSl
set_option linter.unusedVariables false
set_option linter.unusedSimpArgs false
namespace Go.HW
open Go
structure Arr (P : Program) (t e : TypeId) (n sz : Nat) : Prop where
  und : P.underlying t = some (.array n e)
  info : ∃ i, P.info? e = some i ∧ i.size = sz
theorem Arr.of {P : Program} {t e : TypeId} {n sz : Nat} (u : P.underlying t = some (.array n e)) (i : (P.info? e).map (·.size) = some sz) : Arr P t e n sz := ⟨u, size_of i⟩
section
variable {P : Program} {t e : TypeId} {n sz : Nat} {h : Heap} {L : List Assn}
theorem Arr.sizeOf (A : Arr P t e n sz) {K : Nat → Heap → Prop} (H : K sz h) : hwp P (Go.sizeOf e) K h := by
  obtain ⟨i, hi, hs⟩ := A.info
  unfold Go.sizeOf Go.typeInfo
  refine (hwp_bind' _ _ _ _).2 ((hwp_bind' _ _ _ _).2 ?_)
  show hwp P (match P.info? e with | some i => pure i | none => _) _ h
  rw [hi]
  show K i.size h
  rw [hs]; exact H
/-- An element of an array in a block of its own. -/
theorem ai (A : Arr P t e n 1) {b j : Nat} {k : IntKind} {i : Int} (hi : j < n) {R : Addr → Heap → Prop} (K : R ⟨b, j, none⟩ h) (hj : i = (j : Int) := by rfl) : hwp P (Instr.indexAt t (.pointer (some ⟨b, 0, none⟩)) (.int k i)) (fun u h1 => ∃ t, u = .pointer (some t) ∧ R t h1) h := by
  subst hj
  refine hwp_indexArr A.und A.info (by omega) (by omega) ⟨_, rfl, ?_⟩
  rw [add_mk, Nat.mul_one, Int.toNat_natCast, Nat.zero_add]; exact K
/-- An element of an array that is a part of something else. -/
theorem aio (A : Arr P t e n 1) {b off j : Nat} {k : IntKind} {i : Int} (hi : j < n) {R : Addr → Heap → Prop} (K : R ⟨b, off + j, none⟩ h) (hj : i = (j : Int) := by rfl) : hwp P (Instr.indexAt t (.pointer (some ⟨b, off, none⟩)) (.int k i)) (fun u h1 => ∃ t, u = .pointer (some t) ∧ R t h1) h := by
  subst hj
  refine hwp_indexArr A.und A.info (by omega) (by omega) ⟨_, rfl, ?_⟩
  rw [add_mk, Nat.mul_one, Int.toNat_natCast]; exact K
theorem slArr (A : Arr P t e n sz) {b off : Nat} {K : Value → Heap → Prop} (H : K (.slice (some ⟨b, off, none⟩) n n) h) : hwp P (Instr.sliceAt t (.pointer (some ⟨b, off, none⟩)) none none none) K h := by
  unfold Instr.sliceAt
  refine (hwp_bind' _ _ _ _).2 ((hwp_underlying A.und).2 ?_)
  refine (hwp_bind' _ _ _ _).2 ?_
  show hwp P (do let (l, h, m) ← Instr.sliceBounds false n n none none none; let size ← Go.sizeOf e; pure (Value.slice (some (if m = l then (⟨b, off, none⟩ : Addr) else (⟨b, off, none⟩ : Addr).add (l * size))) (h - l) (m - l))) K h
  refine (hwp_bind' _ _ _ _).2 ?_
  have key : hwp P (Instr.sliceBounds false n n none none none) (fun x h => hwp P (do let size ← Go.sizeOf e; pure (Value.slice (some (if x.2.2 = x.1 then (⟨b, off, none⟩ : Addr) else (⟨b, off, none⟩ : Addr).add (x.1 * size))) (x.2.1 - x.1) (x.2.2 - x.1))) K h) h := by
    unfold Instr.sliceBounds
    refine (hwp_bind' _ _ _ _).2 ?_
    show hwp P (Go.sizeOf e >>= _) K h
    refine (hwp_bind' _ _ _ _).2 (A.sizeOf ?_)
    show K _ _
    simp only [Nat.zero_mul, Nat.sub_zero, add_mk, Nat.add_zero, ite_self]
    exact H
  exact key
theorem part_one {v : Value} {cs : Array Value} {off : Nat} {k : IntKind} (he : P.underlying e = some (.int k)) (hv : cs[off]? = some v) {K : Value → Heap → Prop} (H : K v h) : hwp P (Go.part e cs off) K h := by
  unfold Go.part Go.isAgg
  refine (hwp_bind' _ _ _ _).2 ((hwp_bind' _ _ _ _).2 ((hwp_underlying he).2 ?_))
  show hwp P (if false = true then _ else _) K h
  rw [if_neg (by decide), hv]; exact H
/-- An element of an array that is a value. -/
theorem aiv (A : Arr P t e n 1) {k k' : IntKind} (he : P.underlying e = some (.int k')) {j : Nat} {i : Int} {xs : List Value} {v : Value} (hi : j < n) (hv : xs[j]? = some v) {K : Value → Heap → Prop} (H : K v h) (hj : i = (j : Int) := by rfl) : hwp P (Instr.index t (.agg xs.toArray) (.int k i)) K h := by
  subst hj
  unfold Instr.index
  refine (hwp_bind' _ _ _ _).2 ?_
  show hwp P (Go.underlying t >>= _) K h
  refine (hwp_bind' _ _ _ _).2 ((hwp_underlying A.und).2 ?_)
  show hwp P (if 0 ≤ (j : Int) ∧ (j : Int) < n then _ else _) K h
  rw [if_pos (by omega)]
  refine (hwp_bind' _ _ _ _).2 (A.sizeOf ?_)
  exact part_one he (by rw [Nat.mul_one, Int.toNat_natCast]; simpa using hv) H
theorem eqInt {d : Nat} {k : IntKind} (he : P.underlying e = some (.int k)) {a b : Int} {K : Bool → Heap → Prop} (H : K (a == b) h) : hwp P (Op.equalIn (d + 1) e (.int k a) (.int k b)) K h := by
  unfold Op.equalIn
  refine (hwp_bind' _ _ _ _).2 ((hwp_underlying he).2 ?_)
  show hwp P (if k = k then _ else _) K h
  rw [if_pos rfl]; exact H
theorem eqArr_ok {d : Nat} {k : IntKind} (A : Arr P t e n 1) (he : P.underlying e = some (.int k)) {xs ys : List Int} (hx : xs.length = n) (hy : ys.length = n) {K : Bool → Heap → Prop} (H : K (decide (xs = ys)) h) :
    hwp P (Op.equalIn (d + 2) t (.agg (xs.map (Value.int k)).toArray) (.agg (ys.map (Value.int k)).toArray)) K h := by
  unfold Op.equalIn
  refine (hwp_bind' _ _ _ _).2 ((hwp_underlying A.und).2 ?_)
  refine (hwp_bind' _ _ _ _).2 (A.sizeOf ?_)
  refine (hwp_bind' _ _ _ _).2 ?_
  simp only [Std.Legacy.Range.forIn_eq_forIn_range', Std.Legacy.Range.size, Nat.sub_zero, Nat.add_sub_cancel, Nat.div_one, Nat.mul_one]
  have hall : decide (xs = ys) = (List.range' 0 n 1).all fun i => xs.getD i 0 == ys.getD i 0 := by
    rw [Bool.eq_iff_iff]
    simp only [decide_eq_true_eq, List.all_eq_true, List.mem_range'_1, beq_iff_eq]
    constructor
    · rintro rfl i _; rfl
    · intro h
      apply List.ext_getElem (by omega)
      intro i h1 h2
      have := h i (by omega)
      simpa [List.getD_eq_getElem?_getD, h1, h2] using this
  rw [hall] at H
  have hl : ∀ i ∈ List.range' 0 n 1, i < n := fun i hi => by simpa using (List.mem_range'_1.1 hi).2
  clear hall
  generalize List.range' 0 n 1 = l at hl H ⊢
  induction l with
  | nil => exact H
  | cons i l ih =>
    have hi : i < n := hl i (by simp)
    rw [List.forIn_cons]
    refine (hwp_bind' _ _ _ _).2 ((hwp_bind' _ _ _ _).2 ?_)
    refine part_one (v := .int k (xs.getD i 0)) he (by simp [List.getD_eq_getElem?_getD, show i < xs.length by omega]) ?_
    refine (hwp_bind' _ _ _ _).2 ?_
    refine part_one (v := .int k (ys.getD i 0)) he (by simp [List.getD_eq_getElem?_getD, show i < ys.length by omega]) ?_
    refine (hwp_bind' _ _ _ _).2 (eqInt he ?_)
    simp only [List.all_cons] at H
    cases hb : (xs.getD i 0 == ys.getD i 0) with
    | false => rw [hb] at H; exact H
    | true => rw [hb] at H; exact ih (fun j hj => hl j (by simp [hj])) (by simpa using H)
theorem eqGuard_none {op : BinOp} {x y : Operand} {xs ys : Array Value} (hg : P.eqGuardType P.depth t = false) {K : Unit → Heap → Prop} (H : K () h) : hwp P (eqGuard op t x y (.agg xs) (.agg ys)) K h := by
  have g : hwp P (if (!(P.eqGuardType P.depth t)) = true then pure () else (do
      if ← Op.eqGuardIn Op.maxDepth t (.agg xs) (.agg ys) then unsupported (.noEntry "binop/eql: two nil values of an interface type with methods, in a part of a struct or an array") : Sem Unit)) K h := by
    rw [if_pos (by rw [hg]; rfl)]; exact H
  unfold eqGuard
  split
  · exact g
  · exact g
  · exact H
theorem eqArr {k : IntKind} (A : Arr P t e n 1) (he : P.underlying e = some (.int k)) (hg : P.eqGuardType P.depth t = false) {x y : Operand} {xs ys : List Int} (hx : xs.length = n) (hy : ys.length = n) {K : Value → Heap → Prop} (H : K (.bool (decide (xs = ys))) h) :
    hwp P (do eqGuard .eql t x y (.agg (xs.map (Value.int k)).toArray) (.agg (ys.map (Value.int k)).toArray); Go.binOp .eql t (.agg (xs.map (Value.int k)).toArray) (.agg (ys.map (Value.int k)).toArray)) K h := by
  refine (hwp_bind' _ _ _ _).2 (eqGuard_none hg ?_)
  refine (hwp_bind' _ _ _ _).2 ?_
  exact eqArr_ok A he hx hy H
theorem neArr {k : IntKind} (A : Arr P t e n 1) (he : P.underlying e = some (.int k)) (hg : P.eqGuardType P.depth t = false) {x y : Operand} {xs ys : List Int} (hx : xs.length = n) (hy : ys.length = n) {K : Value → Heap → Prop} (H : K (.bool (!decide (xs = ys))) h) :
    hwp P (do eqGuard .neq t x y (.agg (xs.map (Value.int k)).toArray) (.agg (ys.map (Value.int k)).toArray); Go.binOp .neq t (.agg (xs.map (Value.int k)).toArray) (.agg (ys.map (Value.int k)).toArray)) K h := by
  refine (hwp_bind' _ _ _ _).2 (eqGuard_none hg ?_)
  refine (hwp_bind' _ _ _ _).2 ?_
  exact eqArr_ok A he hx hy H
theorem nV_int (l : List Nat) : nV l = (l.map fun x : Nat => (x : Int)).map (Value.int .u8) := by simp [nV]
theorem cast_eq {a b : List Nat} : decide ((a.map fun x : Nat => (x : Int)) = b.map fun x : Nat => (x : Int)) = decide (a = b) := by
  have : ((a.map fun x : Nat => (x : Int)) = b.map fun x : Nat => (x : Int)) ↔ a = b := List.map_inj_right fun x y h => by omega
  rw [Bool.eq_iff_iff]; simp [this]
/-- Arrays of bytes are held against each other. -/
theorem arrEq (A : Arr P t e n 1) (he : P.underlying e = some (.int .u8)) (hg : P.eqGuardType P.depth t = false) {x y : Operand} {a b : List Nat} (hx : a.length = n) (hy : b.length = n) {K : Value → Heap → Prop} (H : K (.bool (decide (a = b))) h) :
    hwp P (do eqGuard .eql t x y (.agg (nV a).toArray) (.agg (nV b).toArray); Go.binOp .eql t (.agg (nV a).toArray) (.agg (nV b).toArray)) K h := by
  rw [nV_int, nV_int]
  exact eqArr A he hg (by rw [List.length_map, hx]) (by rw [List.length_map, hy]) (by rw [cast_eq]; exact H)
theorem arrNe (A : Arr P t e n 1) (he : P.underlying e = some (.int .u8)) (hg : P.eqGuardType P.depth t = false) {x y : Operand} {a b : List Nat} (hx : a.length = n) (hy : b.length = n) {K : Value → Heap → Prop} (H : K (.bool (!decide (a = b))) h) :
    hwp P (do eqGuard .neq t x y (.agg (nV a).toArray) (.agg (nV b).toArray); Go.binOp .neq t (.agg (nV a).toArray) (.agg (nV b).toArray)) K h := by
  rw [nV_int, nV_int]
  exact neArr A he hg (by rw [List.length_map, hx]) (by rw [List.length_map, hy]) (by rw [cast_eq]; exact H)
theorem Gv.pt {b : Nat} {ty : TypeId} {xs : List Value} : Gv (HW.pt b ty xs :: L) (some ⟨b, 0, none⟩) xs := fun h H => H.ptrd (by simp)
theorem nV_rep (n x : Nat) : nV (List.replicate n x) = List.replicate n (.int .u8 (x : Int)) := by simp [nV]
/-- A literal's bytes: the block is marked, its cells stay. -/
theorem Hs.conv {t e ty : TypeId} {b n c : Nat} {xs : List Value} {K : Value → Heap → Prop} (H : Hs h (pt b ty xs :: L)) (ht : P.underlying t = some (.slice e)) (he : P.underlying e = some (.int .u8))
    (kk : ∀ h', Hs h' (HW.rdO (some ⟨b, 0, none⟩) xs :: L) → K (.slice (some ⟨b, 0, none⟩) n c) h') : hwp P (Go.convert t t (.slice (some ⟨b, 0, none⟩) n c)) K h := by
  unfold Go.convert
  refine (hwp_bind' _ _ _ _).2 ((hwp_underlying ht).2 ((hwp_bind' _ _ _ _).2 ((hwp_underlying ht).2 ?_)))
  refine (hwp_bind' _ _ _ _).2 ((hwp_underlying he).2 ?_)
  simp only [beq_self_eq_true]
  refine (hwp_bind' _ _ _ _).2 ?_
  unfold markStringish
  refine (hwp_bind' _ _ _ _).2 ?_
  have hb := H.get
  have toR : ∀ {h' : Heap} {f : Nat × Nat}, Hs h' (ob b (.cells xs.toArray ty f) :: L) → Hs h' (HW.rdO (some ⟨b, 0, none⟩) xs :: L) := fun H' => H'.mono fun m hm i v hv => ⟨b, 0, _, ty, _, rfl, hm, by simpa using hv⟩
  show hwp P (match shapeH h b with | some (_, n) => _ | _ => _) _ h
  split
  · rename_i ty2 n2 hs
    refine kk _ (toR (f := (n2, n2 + 1)) (H.chg (fun j hj => freeze_other _ _ _ _ hj) ?_))
    show (freezeH h ⟨b, n2, none⟩ 1)[b]? = _
    unfold freezeH World.freeze
    simp only [Nat.one_ne_zero, if_false, wOf, Array.getElem?_modify, if_true, hb, Option.map_some]
    rfl
  · exact kk _ (toR H)
end
end Go.HW
