/- From the row's reading of arguments, of whatever plain type, to rows of cells in the first heap. -/
import Derived.Test.YtcdifhgocjjbpaaHwRow
import Derived.Test.YtcdifhgocjjbpaaHwSep
import Derived.SizedLaws
set_option linter.unusedVariables false
set_option linter.unusedSimpArgs false
namespace Go.HW
open Go Go.ChangeShapes Go.WideShapes Go.RowKit

/-- These cells read as data of this type. -/
def Dat (P : Program) (W : World) (t : TypeId) (cs : List Value) : Prop := ∃ (H : Type) (enc : TypeId × Value → H) (sp : Nat → Bool) (hd : Bool) (fuel : Nat) (x : DataW H × List MemPlace), DataW.trod enc P W 0 sp hd fuel t cs = some x ∧ ∀ n ∈ x.1.weights P t, n ≤ reachBytes
theorem weightsAll_mem {H : Type} {P : Program} {e : TypeId} : ∀ {l : List (DataW H)} {d : DataW H}, d ∈ l → ∀ n ∈ d.weights P e, n ∈ DataW.weightsAll P e l
  | x :: l, d, hd, n, hn => by
    simp only [DataW.weightsAll, List.mem_append]
    rcases List.mem_cons.1 hd with rfl | h
    · exact .inl hn
    · exact .inr (weightsAll_mem h n hn)
  | [], _, hd, _, _ => by simp at hd
section
variable {P : Program} {W : World} {t e : TypeId} {cs : List Value}
theorem Dat.of {H : Type} {enc : TypeId × Value → H} {sp : Nat → Bool} {hd : Bool} {v : Value} {d : DataW H} {p : List MemPlace} (h : DataW.Trod enc P W 0 sp hd t v d p) (hw : ∀ n ∈ d.weights P t, n ≤ reachBytes) : Dat P W t v.cells.toList := by
  obtain ⟨n, hn⟩ := h; exact ⟨H, enc, sp, hd, n, _, hn, hw⟩
/-- The form's own reach, for one argument. -/
theorem reach_at {H : Type} {ts : List TypeId} {ds : List (DataW H)} (h : (DataW.weightsEach P ts ds).all (· ≤ reachBytes) = true) {j : Nat} {t : TypeId} {d : DataW H} (ht : ts[j]? = some t) (hd : ds[j]? = some d) : ∀ n ∈ d.weights P t, n ≤ reachBytes := fun n hn => by
  simpa using List.all_eq_true.1 h _ (DataW.weights_mem_each ht hd n hn)
theorem Dat.bool (h : Dat P W t cs) (ht : P.underlying t = some .bool) : ∃ b, cs = [.bool b] := by
  obtain ⟨H, enc, sp, hd, n, x, h, _⟩ := h; obtain ⟨b, h, _⟩ := DataW.trod_bool ht h; exact ⟨b, h⟩
theorem Dat.int {k : IntKind} (h : Dat P W t cs) (ht : P.underlying t = some (.int k)) : ∃ n, cs = [.int k n] ∧ (Lit.int k n).wf = true := by
  obtain ⟨H, enc, sp, hd, n, x, h, _⟩ := h; obtain ⟨b, h, _, h2⟩ := DataW.trod_int ht h; exact ⟨b, h, h2⟩
theorem Dat.i64 (h : Dat P W t cs) (ht : P.underlying t = some (.int .i64)) : ∃ n : Int, cs = [.int .i64 n] ∧ -9223372036854775808 ≤ n ∧ n ≤ 9223372036854775807 := by
  obtain ⟨n, h, w⟩ := h.int ht; have := bounds_i64 w; exact ⟨n, h, by omega, by omega⟩
theorem Dat.u8 (h : Dat P W t cs) (ht : P.underlying t = some (.int .u8)) : ∃ n : Nat, cs = [.int .u8 n] ∧ n < 256 := by
  obtain ⟨n, h, w⟩ := h.int ht; have := bounds_u8 w; exact ⟨n.toNat, by rw [h, Int.toNat_of_nonneg (by omega)], by omega⟩
theorem Dat.u32 (h : Dat P W t cs) (ht : P.underlying t = some (.int .u32)) : ∃ n : Nat, cs = [.int .u32 n] ∧ n < 4294967296 := by
  obtain ⟨n, h, w⟩ := h.int ht; have := bounds_u32 w; exact ⟨n.toNat, by rw [h, Int.toNat_of_nonneg (by omega)], by omega⟩
theorem Dat.u64 (h : Dat P W t cs) (ht : P.underlying t = some (.int .u64)) : ∃ n : Nat, cs = [.int .u64 n] ∧ n < 18446744073709551616 := by
  obtain ⟨n, h, w⟩ := h.int ht; have := bounds_u64 w; exact ⟨n.toNat, by rw [h, Int.toNat_of_nonneg (by omega)], by omega⟩
theorem Dat.str (h : Dat P W t cs) (ht : P.underlying t = some .string) : ∃ s : ByteArray, cs = [.string s] ∧ s.size ≤ 140737488351232 := by
  obtain ⟨H, enc, sp, hd, n, x, h, hw⟩ := h; obtain ⟨b, hc, rfl, h2⟩ := DataW.trod_string ht h
  exact ⟨b, hc, hw _ (by simp only [DataW.weights, List.mem_singleton, Array.length_toList]; rfl)⟩
theorem Dat.struct {fs : Array Field} (h : Dat P W t cs) (ht : P.underlying t = some (.struct fs)) : cs.length = P.cellsOf t ∧ ∀ (i : Nat) (f : Field), fs[i]? = some f → Dat P W f.type ((cs.drop f.offset).take (P.cellsOf f.type)) := by
  obtain ⟨H, enc, sp, hd, n, x, h, hw⟩ := h
  obtain ⟨xs, m, _, rfl, hl, hxl, hf⟩ := DataW.trod_struct ht h
  refine ⟨hl, fun i f hif => ?_⟩
  have hi : i < xs.length := by rw [hxl]; exact (Array.getElem?_eq_some_iff.1 hif).1
  have := hf i f hif
  rw [List.getElem?_eq_getElem hi] at this
  refine ⟨H, enc, sp, hd, m, _, this, fun n hn => hw n ?_⟩
  simp only [DataW.weights, ht]
  exact DataW.weights_mem_each (j := i) (t := f.type) (d := (xs[i]).1) (by simp [hif]) (by simp [hi]) n hn
theorem struct_of {P : Program} {t : TypeId} (h : (fieldsOf P t).isEmpty = false) : ∃ fs, P.underlying t = some (.struct fs) := by
  unfold fieldsOf at h
  split at h
  · rename_i fs hfs; exact ⟨fs, hfs⟩
  · cases h
theorem Dat.fields (h : Dat P W t cs) : ∀ x ∈ fieldsOf P t, Dat P W x.1 ((cs.drop x.2.1).take x.2.2) := by
  intro x hx
  unfold fieldsOf at hx
  split at hx
  · rename_i fs hfs
    simp only [List.mem_map] at hx
    obtain ⟨f, hf, rfl⟩ := hx
    obtain ⟨i, hi, rfl⟩ := List.getElem_of_mem hf
    exact (h.struct hfs).2 i _ (by simp_all)
  · simp at hx
theorem okWide_array {r : Reach} {base : Nat} {v : Value} {n : Nat} (ht : P.underlying t = some (.array n e)) (h : Value.okWide P W r base t v) : ∃ cs, v = .agg cs ∧ cs.size = P.cellsOf t := by
  unfold Value.okWide at h
  rw [ht] at h
  obtain ⟨cs, h1, h2, _⟩ := h
  exact ⟨cs, h1, h2⟩
theorem Dat.array {n : Nat} (h : Dat P W t cs) (ht : P.underlying t = some (.array n e)) : cs.length = P.cellsOf t ∧ ∀ i, i < n → Dat P W e ((cs.drop (i * P.cellsOf e)).take (P.cellsOf e)) := by
  obtain ⟨H, enc, sp, hd, fuel, x, h, hw⟩ := h
  cases fuel with
  | zero => simp [DataW.trod] at h
  | succ m =>
    unfold DataW.trod at h
    rw [ht] at h
    split at h <;> simp_all
    obtain ⟨hl, xs, hp, rfl⟩ := h
    intro i hi
    have h1 := mapM_some_get hp i i (by simp [hi])
    have h2 := mapM_some_length hp
    have hx : i < xs.length := by simp at h2; omega
    rw [List.getElem?_eq_getElem hx] at h1
    refine ⟨H, enc, sp, hd, m, _, h1, fun n hn => hw n ?_⟩
    simp only [DataW.weights, ht]
    exact weightsAll_mem (List.mem_map_of_mem (List.getElem_mem hx)) n hn
theorem mapM_cells {α β : Type} {f : α → Option β} : ∀ {l : List α} {r : List β}, l.mapM f = some r → r.length = l.length ∧ ∀ (i : Nat) a b, l[i]? = some a → r[i]? = some b → f a = some b := by
  intro l
  induction l with
  | nil => intro r h; simp at h; subst h; simp
  | cons a l ih =>
    intro r h
    simp only [List.mapM_cons] at h
    cases ha : f a with
    | none => rw [ha] at h; simp at h
    | some b =>
      rw [ha] at h
      cases hl : l.mapM f with
      | none => rw [hl] at h; simp at h
      | some bs =>
        rw [hl] at h
        simp at h; subst h
        obtain ⟨h1, h2⟩ := ih hl
        refine ⟨by simp [h1], fun i x y hx hy => ?_⟩
        cases i with
        | zero => simp at hx hy; subst hx hy; exact ha
        | succ i => exact h2 i x y (by simpa using hx) (by simpa using hy)
theorem cells_get {W : World} {base : Nat} {a : Addr} {n : Nat} {cs : List Value} (h : W.cells? base a n = some cs) : cs.length = n ∧ ∀ (i : Nat) v, cs[i]? = some v → cellH W.heap (a.add i) = some v := by
  unfold World.cells? at h
  split at h
  · obtain ⟨h1, h2⟩ := mapM_cells h
    refine ⟨by simpa using h1, fun i v hv => ?_⟩
    have hi : i < n := by have := (List.getElem?_eq_some_iff.1 hv).1; simpa [h1] using this
    have := h2 i i v (by simp [hi]) hv
    rwa [cell_w] at this
  · cases h
/-- A slice, element by element. -/
theorem Dat.slice (h : Dat P W t cs) (ht : P.underlying t = some (.slice e)) : ∃ (a : Option Addr) (n c : Nat), cs = [.slice a n c] ∧ n ≤ c ∧ c < 9223372036854775808 ∧ (a = none → c = 0) ∧ n * P.bytesOf e ≤ 140737488351232 ∧
    ∀ i, i < n → ∃ ad ecs, a = some ad ∧ ecs.length = P.cellsOf e ∧ (∀ (j : Nat) v, ecs[j]? = some v → cellH W.heap (ad.add (i * P.cellsOf e + j)) = some v) ∧ Dat P W e ecs := by
  obtain ⟨H, enc, sp, hd, fuel, x, h, hw⟩ := h
  rcases DataW.trod_slice ht h with ⟨rfl, _⟩ | ⟨a, len, cap, elems, rest, n, _, rfl, rfl, hb, hl, hm, hlen, hel, _, _⟩
  · exact ⟨none, 0, 0, rfl, Nat.le_refl _, by omega, fun _ => rfl, by omega, fun i hi => by omega⟩
  · simp only [DataW.weights, ht] at hw
    have hw0 := hw _ (List.mem_cons_self ..)
    have hwl : len * P.bytesOf e ≤ 140737488351232 := by
      refine Nat.le_trans (Nat.mul_le_mul_right _ ?_) hw0
      simp only [List.length_map]; omega
    refine ⟨some a, len, cap, rfl, hl, by have : maxLen = 2 ^ 63 - 1 := rfl; omega, (fun h => nomatch h), hwl, fun i hi => ?_⟩
    have h1 := hel i hi
    have hil : i < elems.length := by omega
    rw [List.getElem?_eq_getElem hil, Option.bind_eq_some_iff] at h1
    obtain ⟨ecs, hc, hg⟩ := h1
    obtain ⟨q1, q2⟩ := cells_get hc
    refine ⟨a, ecs, rfl, q1, fun j v hv => by rw [← add_add]; exact q2 j v hv, H, enc, sp, hd, n, _, hg, fun n hn => hw n ?_⟩
    exact List.mem_cons_of_mem _ (List.mem_append_left _ (weightsAll_mem (List.mem_map_of_mem (List.getElem_mem hil)) n hn))
/-- A slice as the row of what its elements are. -/
theorem Dat.rows {α : Type} (φ : α → List Value) (wf : α → Prop) {sz : Nat} (h : Dat P W t cs) (ht : P.underlying t = some (.slice e)) (hc : P.cellsOf e = sz) (hφ : ∀ x, (φ x).length = sz)
    (step : ∀ ecs, ecs.length = sz → Dat P W e ecs → ∃ x, ecs = φ x ∧ wf x) :
    ∃ (a : Option Addr) (n c : Nat) (l : List α), cs = [.slice a n c] ∧ Rd W.heap a (l.flatMap φ) ∧ l.length = n ∧ n ≤ c ∧ c < 9223372036854775808 ∧ (a = none → c = 0) ∧ n * P.bytesOf e ≤ 140737488351232 ∧ ∀ x ∈ l, wf x := by
  obtain ⟨a, n, c, h1, h2, h3, h4, hz, h5⟩ := h.slice ht
  have key : ∀ k, k ≤ n → ∃ l : List α, l.length = k ∧ (∀ x ∈ l, wf x) ∧ Rd W.heap a (l.flatMap φ) := by
    intro k
    induction k with
    | zero => exact fun _ => ⟨[], rfl, by simp, Rd.nil _ _⟩
    | succ k ih =>
      intro hk
      obtain ⟨l, hl, hw, hr⟩ := ih (by omega)
      obtain ⟨ad, ecs, ha, hel, hcell, hg⟩ := h5 k (by omega)
      obtain ⟨x, rfl, hx⟩ := step ecs (by rw [hel, hc]) hg
      refine ⟨l ++ [x], by simp [hl], fun y hy => ?_, ?_⟩
      · rcases List.mem_append.1 hy with hy | hy
        · exact hw y hy
        · simp at hy; subst hy; exact hx
      · have hfl : (l.flatMap φ).length = k * sz := by
          rw [← hl]; clear hl hw hr ih
          induction l with
          | nil => simp
          | cons y l ih => simp [List.flatMap_cons, hφ, ih, Nat.add_mul, Nat.add_comm]
        intro i v hv
        simp only [List.flatMap_append, List.flatMap_cons, List.flatMap_nil, List.append_nil] at hv
        rcases Nat.lt_or_ge i (k * sz) with hi | hi
        · rw [List.getElem?_append_left (by omega)] at hv
          exact hr i v hv
        · rw [List.getElem?_append_right (by omega), hfl] at hv
          refine ⟨ad, ha, ?_⟩
          have := hcell (i - k * sz) v hv
          rwa [hc, show k * sz + (i - k * sz) = i by omega] at this
  obtain ⟨l, hl, hw, hr⟩ := key n (Nat.le_refl _)
  exact ⟨a, n, c, l, h1, hr, hl, h2, h3, h4, hz, hw⟩
theorem flatMap_one {α β : Type} (f : α → β) (l : List α) : l.flatMap (fun x => [f x]) = l.map f := by induction l <;> simp_all
/-- A slice of bytes. -/
theorem Dat.bytes (h : Dat P W t cs) (ht : P.underlying t = some (.slice e)) (he : P.underlying e = some (.int .u8)) (hc : P.cellsOf e = 1) :
    ∃ (a : Option Addr) (n c : Nat) (bs : List (BitVec 8)), cs = [.slice a n c] ∧ Rd W.heap a (byV bs) ∧ bs.length = n ∧ n ≤ c ∧ c < 9223372036854775808 ∧ (a = none → c = 0) ∧ n * P.bytesOf e ≤ 140737488351232 := by
  obtain ⟨a, n, c, l, h1, h2, h3, h4, h5, h6, hz, _⟩ := h.rows (α := BitVec 8) (fun b => [.int .u8 b.toNat]) (fun _ => True) ht hc (fun _ => rfl) (fun ecs _ hg => by
    obtain ⟨n, rfl, hn⟩ := hg.u8 he
    exact ⟨BitVec.ofNat 8 n, by rw [BitVec.toNat_ofNat, Nat.mod_eq_of_lt hn], trivial⟩)
  exact ⟨a, n, c, l, h1, by rwa [flatMap_one] at h2, h3, h4, h5, h6, hz⟩
/-- A slice of bytes, as natural numbers. -/
theorem Dat.nbytes (h : Dat P W t cs) (ht : P.underlying t = some (.slice e)) (he : P.underlying e = some (.int .u8)) (hc : P.cellsOf e = 1) :
    ∃ (a : Option Addr) (n c : Nat) (bs : List Nat), cs = [.slice a n c] ∧ Rd W.heap a (bs.map fun x : Nat => .int .u8 (x : Int)) ∧ bs.length = n ∧ n ≤ c ∧ c < 9223372036854775808 ∧ (a = none → c = 0) ∧ n * P.bytesOf e ≤ 140737488351232 ∧ ∀ x ∈ bs, x < 256 := by
  obtain ⟨a, n, c, l, h1, h2, h3, h4, h5, h6, hz, h7⟩ := h.rows (α := Nat) (fun b => [.int .u8 (b : Int)]) (fun x => x < 256) ht hc (fun _ => rfl) (fun ecs _ hg => by
    obtain ⟨n, rfl, hn⟩ := hg.u8 he
    exact ⟨n, rfl, hn⟩)
  exact ⟨a, n, c, l, h1, by rwa [flatMap_one] at h2, h3, h4, h5, h6, hz, h7⟩
/-- A slice of whole numbers. -/
theorem Dat.ints (h : Dat P W t cs) (ht : P.underlying t = some (.slice e)) (he : P.underlying e = some (.int .i64)) (hc : P.cellsOf e = 1) :
    ∃ (a : Option Addr) (n c : Nat) (l : List Int), cs = [.slice a n c] ∧ Rd W.heap a (l.map fun z => .int .i64 z) ∧ l.length = n ∧ n ≤ c ∧ c < 9223372036854775808 ∧ (a = none → c = 0) ∧ n * P.bytesOf e ≤ 140737488351232 ∧ ∀ z ∈ l, -9223372036854775808 ≤ z ∧ z ≤ 9223372036854775807 := by
  obtain ⟨a, n, c, l, h1, h2, h3, h4, h5, h6, hz, h7⟩ := h.rows (α := Int) (fun z => [.int .i64 z]) (fun z => -9223372036854775808 ≤ z ∧ z ≤ 9223372036854775807) ht hc (fun _ => rfl) (fun ecs _ hg => by
    obtain ⟨n, rfl, hn⟩ := hg.i64 he
    exact ⟨n, rfl, hn⟩)
  exact ⟨a, n, c, l, h1, by rwa [flatMap_one] at h2, h3, h4, h5, h6, hz, h7⟩
end
/-- A value of one cell. -/
theorem cells_one {v u : Value} (hv : ∀ cs, v ≠ .agg cs) (h : v.cells.toList = [u]) : v = u := by
  cases v <;> first | (simp [Value.cells] at h; exact h) | exact absurd rfl (hv _)
end Go.HW
