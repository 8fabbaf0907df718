/- The library's sort by a function, at one element: what its parts compute (the kit's plain law of the sort tells the rest). Printed by sortgen.py. -/
import Derived.Test.YtcdifhgocjjbpaaWr
import Derived.Test.YtcdifhgocjjbpaaHwFr
import Derived.Sort.AssemblyPlain
set_option maxRecDepth 20000
set_option linter.unusedVariables false
set_option linter.unusedSimpArgs false
namespace Go.Proofs.Ytcdifhgocjjbpaa.Srtapi_Write
open Go Go.HW Go.Sort
variable {h : Heap} {L : List Assn} {Q : Value → Heap → Prop} {a : OA} {n c : Nat}
def S (a : OA) (n c : Nat) (d : Array Wr) : Assn := own a n c T_api_Write 5 (d.toList.flatMap wrV)
theorem phl (x : Wr) : (wrV x).length = 5 := rfl
/-- What the comparing function does. -/
def CmpOk (cmp : Value) (lt : Wr → Wr → Bool) : Prop := ∀ (x y : Wr) (M : List Assn) (h : Heap) (R : VP), Hs h M → (∀ h' (r : Int), decide (r < 0) = lt x y → Hs h' M → R (.int .i64 r) h') → callV PP cmp [.agg (wrV x).toArray, .agg (wrV y).toArray] R h
theorem wI {x : Int} (h1 : -9223372036854775808 ≤ x) (h2 : x < 9223372036854775808) : IntKind.i64.wrap x = x := wrap_i64_z h1 h2
theorem wA {i j : Nat} (h : i + j < 2 ^ 62) : IntKind.i64.wrap ((i : Int) + (j : Int)) = ((i + j : Nat) : Int) := by rw [wI (by omega) (by omega)]; omega
theorem wS {i j : Nat} (h : j ≤ i) (h2 : i < 2 ^ 62) : IntKind.i64.wrap ((i : Int) - (j : Int)) = ((i - j : Nat) : Int) := by rw [wI (by omega) (by omega)]; omega
theorem w1 {i : Nat} (h : i < 2 ^ 62) : IntKind.i64.wrap ((i : Int) + 1) = ((i + 1 : Nat) : Int) := by rw [wI (by omega) (by omega)]; omega
theorem p1 {i : Nat} (h : 1 ≤ i) (h2 : i < 2 ^ 62) : IntKind.i64.wrap ((i : Int) - 1) = ((i - 1 : Nat) : Int) := by rw [wI (by omega) (by omega)]; omega
theorem toL {d : Array Wr} {i : Nat} (hi : i < d.size) : d.toList[i]? = some d[i]! := by simp [hi]
/-- An element is looked at. -/
theorem lk {d : Array Wr} {i : Nat} {M : List Assn} (hn : d.size = n) (hi : i < n) (H : Hs h (S a n c d :: M)) {R : Addr → Heap → Prop} (K : ∀ t, rdCells h t 0 (wrV d[i]!) → R t h) :
    hwp PP (Instr.indexAt T_sl_api_Write (.slice a n c) (.int .i64 (i : Int))) (fun u h1 => ∃ t, u = .pointer (some t) ∧ R t h1) h :=
  idxf E_sl_api_Write (φ := wrV) (l := d.toList) (x := d[i]!) H.rd phl (by decide) (by omega) (by omega) (by rw [Int.toNat_natCast]; exact toL (by omega)) K
/-- Two elements are exchanged. -/
theorem swap_hs {d : Array Wr} {i j : Nat} (hn : d.size = n) (hi : i < n) (hj : j < n) (H : Hs h (S a n c d :: L)) {K : Heap → Prop} (k : ∀ h', Hs h' (S a n c (swp d i j) :: L) → K h') :
    hwp PP (Instr.indexAt T_sl_api_Write (.slice a n c) (.int .i64 (j : Int))) (fun v h1 => ∃ (t88 : Addr), v = (.pointer (some t88)) ∧
    ∃ (f0 : ByteArray) (f1 : ByteArray) (f2 : ByteArray) (f3 : Bool) (f4 : ByteArray), rdCells h1 t88 0 [(.string f0), (.string f1), (.string f2), (.bool f3), (.string f4)] ∧
    hwp PP (Instr.indexAt T_sl_api_Write (.slice a n c) (.int .i64 (i : Int))) (fun v_1 h2 => ∃ (t92 : Addr), v_1 = (.pointer (some t92)) ∧
    ∃ (g0 : ByteArray) (g1 : ByteArray) (g2 : ByteArray) (g3 : Bool) (g4 : ByteArray), rdCells h2 t92 0 [(.string g0), (.string g1), (.string g2), (.bool g3), (.string g4)] ∧
    hwp PP (Instr.indexAt T_sl_api_Write (.slice a n c) (.int .i64 (i : Int))) (fun v_2 h3 => ∃ (t94 : Addr), v_2 = (.pointer (some t94)) ∧
    wrCells t94 0 [(.string f0), (.string f1), (.string f2), (.bool f3), (.string f4)] (fun h4 =>
    hwp PP (Instr.indexAt T_sl_api_Write (.slice a n c) (.int .i64 (j : Int))) (fun v_3 h5 => ∃ (t96 : Addr), v_3 = (.pointer (some t96)) ∧
    wrCells t96 0 [(.string g0), (.string g1), (.string g2), (.bool g3), (.string g4)] K h5) h4) h3) h2) h1) h := by
  refine lk hn hj H fun t ht => ⟨_, _, _, _, _, ht, ?_⟩
  refine lk hn hi H fun t ht => ⟨_, _, _, _, _, ht, ?_⟩
  have one : ∀ x : Wr, ∀ v ∈ wrV x, oneC v = true := fun x v hv => by
    simp only [wrV, List.mem_cons, List.not_mem_nil, or_false] at hv
    rcases hv with rfl | rfl | rfl | rfl | rfl <;> rfl
  refine Hs.idx_wrf (φ := wrV) d[j]! E_sl_api_Write H (by omega) (by omega) phl (by decide) (one _) fun h4 H4 => ?_
  refine Hs.idx_wrf (φ := wrV) d[i]! E_sl_api_Write H4 (by omega) (by omega) phl (by decide) (one _) fun h6 H6 => ?_
  refine k h6 ?_
  have e : (d.toList.set (i : Int).toNat d[j]!).set (j : Int).toNat d[i]! = (swp d i j).toList := by
    rw [Int.toNat_natCast, Int.toNat_natCast, swp, Array.toList_setIfInBounds, Array.toList_setIfInBounds]
  rw [e] at H6
  exact H6
theorem swp_size {d : Array Wr} {i j : Nat} : (swp d i j).size = d.size := by simp [swp]
/-! ### order2, median, choosePivot -/
variable {cmp : Value} {lt : Wr → Wr → Bool}
theorem order2_hs (hc : CmpOk cmp lt) {d : Array Wr} {i j s sw : Nat} (hn : d.size = n) (hi : i < n) (hj : j < n) (hs : s < 1000) (H : Hs h (pt sw T_int [.int .i64 (s : Int)] :: S a n c d :: L))
    (k : ∀ h', Hs h' (pt sw T_int [.int .i64 ((order2 lt d i j s).2.2 : Nat)] :: S a n c d :: L) → Q (.tuple #[.int .i64 ((order2 lt d i j s).1 : Nat), .int .i64 ((order2 lt d i j s).2.1 : Nat)]) h') :
    SpecH PP F_slices_order2CmpFunc_api_Write [.slice a n c, .int .i64 (i : Int), .int .i64 (j : Int), .pointer (some ⟨sw, 0, none⟩), cmp] h Q := by
  refine slices_order2CmpFunc_api_Write.door ?_
  refine lk hn hj H.tl fun t ht => ⟨_, _, _, _, _, ht, ?_⟩
  refine lk hn hi H.tl fun t ht => ⟨_, _, _, _, _, ht, ?_⟩
  refine hc d[j]! d[i]! _ _ _ H fun h1 r hr H1 => ⟨_, rfl, ?_⟩
  dsimp only
  rw [hr]
  unfold order2 at k
  refine (br_iff _ _ _).2 ⟨fun e => ?_, fun e => ?_⟩
  · rw [if_pos e] at k
    refine ⟨_, H1.cell (off := 0) rfl, ?_⟩
    dsimp only [nilc]
    refine H1.sto (off := 0) (by simp) fun h2 H2 => ?_
    rw [w1 (by omega)] at H2
    exact k h2 H2
  · rw [if_neg (by rw [e]; simp)] at k
    exact k h1 H1
theorem order2_in {d : Array Wr} {i j s : Nat} {p : Nat → Prop} (hi : p i) (hj : p j) : p (order2 lt d i j s).1 ∧ p (order2 lt d i j s).2.1 ∧ (order2 lt d i j s).2.2 ≤ s + 1 := by
  unfold order2; split
  · exact ⟨hj, hi, by simp⟩
  · exact ⟨hi, hj, by simp⟩
theorem median_hs (hc : CmpOk cmp lt) {d : Array Wr} {i j l s sw : Nat} (hn : d.size = n) (hi : i < n) (hj : j < n) (hl : l < n) (hs : s < 900) (H : Hs h (pt sw T_int [.int .i64 (s : Int)] :: S a n c d :: L))
    (k : ∀ h', Hs h' (pt sw T_int [.int .i64 ((median lt d i j l s).2 : Nat)] :: S a n c d :: L) → Q (.int .i64 ((median lt d i j l s).1 : Nat)) h') :
    SpecH PP F_slices_medianCmpFunc_api_Write [.slice a n c, .int .i64 (i : Int), .int .i64 (j : Int), .int .i64 (l : Int), .pointer (some ⟨sw, 0, none⟩), cmp] h Q := by
  refine slices_medianCmpFunc_api_Write.door ?_
  obtain ⟨q1, q2, q3⟩ := order2_in (lt := lt) (d := d) (s := s) (p := (· < n)) hi hj
  refine order2_hs hc hn hi hj (by omega) H fun h1 H1 => ⟨_, _, rfl, ?_⟩
  unfold median at k
  dsimp only at k
  generalize order2 lt d i j s = r1 at *
  obtain ⟨r, r', r''⟩ := r1
  dsimp only at q1 q2 q3 H1 k ⊢
  obtain ⟨q4, q5, q6⟩ := order2_in (lt := lt) (d := d) (s := r'') (p := (· < n)) q2 hl
  refine order2_hs hc hn q2 hl (by omega) H1 fun h2 H2 => ⟨_, _, rfl, ?_⟩
  generalize order2 lt d r' l r'' = r2 at *
  obtain ⟨u, u', u''⟩ := r2
  dsimp only at q4 q5 q6 H2 k ⊢
  exact order2_hs hc hn q1 q4 (by omega) H2 fun h3 H3 => ⟨_, _, rfl, k h3 H3⟩
theorem median_in {d : Array Wr} {i j l s : Nat} {p : Nat → Prop} (hi : p i) (hj : p j) (hl : p l) : p (median lt d i j l s).1 ∧ (median lt d i j l s).2 ≤ s + 3 := by
  unfold median
  dsimp only
  obtain ⟨q1, q2, q3⟩ := order2_in (lt := lt) (d := d) (s := s) (p := p) hi hj
  generalize order2 lt d i j s = r1 at *
  obtain ⟨q4, q5, q6⟩ := order2_in (lt := lt) (d := d) (s := r1.2.2) (p := p) q2 hl
  generalize order2 lt d r1.2.1 l r1.2.2 = r2 at *
  obtain ⟨q7, q8, q9⟩ := order2_in (lt := lt) (d := d) (s := r2.2.2) (p := p) q1 q4
  exact ⟨q8, by omega⟩
theorem medianAdjacent_hs (hc : CmpOk cmp lt) {d : Array Wr} {i s sw : Nat} (hn : d.size = n) (hi : 1 ≤ i) (hi2 : i + 1 < n) (hmax : n < 2 ^ 61) (hs : s < 900) (H : Hs h (pt sw T_int [.int .i64 (s : Int)] :: S a n c d :: L))
    (k : ∀ h', Hs h' (pt sw T_int [.int .i64 ((medianAdjacent lt d i s).2 : Nat)] :: S a n c d :: L) → Q (.int .i64 ((medianAdjacent lt d i s).1 : Nat)) h') :
    SpecH PP F_slices_medianAdjacentCmpFunc_api_Write [.slice a n c, .int .i64 (i : Int), .pointer (some ⟨sw, 0, none⟩), cmp] h Q := by
  refine slices_medianAdjacentCmpFunc_api_Write.door ?_
  dsimp only
  rw [w1 (by omega), p1 hi (by omega)]
  exact median_hs hc hn (by omega) (by omega) (by omega) hs H fun h1 H1 => ⟨_, rfl, k h1 H1⟩
def hintN : Hint → Nat | .unknown => 0 | .increasing => 1 | .decreasing => 2
theorem choosePivot_hs (hc : CmpOk cmp lt) {d : Array Wr} {x y : Nat} (hn : d.size = n) (hxy : x < y) (hy : y ≤ n) (hmax : n < 2 ^ 60) (H : Hs h (S a n c d :: L))
    (k : ∀ h', Hs h' (S a n c d :: L) → Q (.tuple #[.int .i64 ((choosePivot lt d x y).1 : Nat), .int .i64 (hintN (choosePivot lt d x y).2 : Nat)]) h') :
    SpecH PP F_slices_choosePivotCmpFunc_api_Write [.slice a n c, .int .i64 (x : Int), .int .i64 (y : Int), cmp] h Q := by
  refine slices_choosePivotCmpFunc_api_Write.door ?_
  dsimp only
  have H1 := H.new (t := T_int) (cs := #[.int .i64 0]) (xs := [.int .i64 ((0 : Nat) : Int)])
  generalize Array.size h = sw at H1 ⊢
  rw [wS (by omega) (by omega)]
  have t4 : Int.tdiv ((y - x : Nat) : Int) 4 = (((y - x) / 4 : Nat) : Int) := tdiv_n _ 4
  rw [t4, wI (x := (((y - x) / 4 : Nat) : Int)) (by omega) (by omega)]
  have m : ∀ q : Nat, q ≤ 3 → IntKind.i64.wrap ((((y - x) / 4 : Nat) : Int) * (q : Int)) = (((y - x) / 4 * q : Nat) : Int) := fun q hq => by
    have : (y - x) / 4 * q ≤ (y - x) / 4 * 3 := Nat.mul_le_mul_left _ hq
    rw [show (((y - x) / 4 : Nat) : Int) * (q : Int) = (((y - x) / 4 * q : Nat) : Int) by simp, wI (by omega) (by omega)]
  have m1 := m 1 (by omega); have m2 := m 2 (by omega); have m3 := m 3 (by omega)
  simp only [Int.cast_ofNat_Int, Int.ofNat_one] at m1 m2 m3
  have m1' : IntKind.i64.wrap ((((y - x) / 4 : Nat) : Int) * 1) = (((y - x) / 4 * 1 : Nat) : Int) := m1
  rw [m1', m2, m3, wA (by omega), wA (by omega), wA (by omega)]
  have J2 : ∀ {h : Heap} {p s : Nat}, Hs h (pt sw T_int [.int .i64 (s : Int)] :: S a n c d :: L) → choosePivot lt d x y = (p, if s = 0 then .increasing else if s = 12 then .decreasing else .unknown) → slices_choosePivotCmpFunc_api_Write.J2 ⟨sw, 0, none⟩ (p : Int) Q h := by
    intro h p s H e
    rw [e] at k
    refine slices_choosePivotCmpFunc_api_Write.J2_of ⟨_, H.cell (off := 0) rfl, (br_iff _ _ _).2 ⟨fun e1 => ?_, fun e1 => (br_iff _ _ _).2 ⟨fun e2 => ?_, fun e2 => ?_⟩⟩⟩
    · rw [if_pos (by have := beq_iff_eq.1 e1; omega)] at k; exact k h H.tl
    · rw [if_neg (by have := beq_eq_false_iff_ne.1 e1; omega), if_pos (by have := beq_iff_eq.1 e2; omega)] at k; exact k h H.tl
    · rw [if_neg (by have := beq_eq_false_iff_ne.1 e1; omega), if_neg (by have := beq_eq_false_iff_ne.1 e2; omega)] at k; exact k h H.tl
  have J1 : ∀ {h : Heap} {i j l s : Nat}, i < n → j < n → l < n → s < 900 → Hs h (pt sw T_int [.int .i64 (s : Int)] :: S a n c d :: L) → choosePivot lt d x y = ((median lt d i j l s).1, if (median lt d i j l s).2 = 0 then .increasing else if (median lt d i j l s).2 = 12 then .decreasing else .unknown) →
      slices_choosePivotCmpFunc_api_Write.J1 a n c cmp ⟨sw, 0, none⟩ (i : Int) (j : Int) (l : Int) Q h := by
    intro h i j l s hi hj hl hs H e
    exact slices_choosePivotCmpFunc_api_Write.J1_of (median_hs hc hn hi hj hl hs H fun h1 H1 => ⟨_, rfl, J2 H1 e⟩)
  have hq : 4 * ((y - x) / 4) ≤ y - x := Nat.mul_div_le _ _
  refine (br_iff _ _ _).2 ⟨fun e8 => ?_, fun e8 => ?_⟩
  · have e8 := of_decide_eq_true e8
    refine (br_iff _ _ _).2 ⟨fun e50 => ?_, fun e50 => ?_⟩
    · have e50 := of_decide_eq_true e50
      have u : ∀ A B C, medianAdjacent lt d (x + (y - x) / 4 * 1) 0 = A → medianAdjacent lt d (x + (y - x) / 4 * 2) A.2 = B → medianAdjacent lt d (x + (y - x) / 4 * 3) B.2 = C →
          choosePivot lt d x y = ((median lt d A.1 B.1 C.1 C.2).1, if (median lt d A.1 B.1 C.1 C.2).2 = 0 then .increasing else if (median lt d A.1 B.1 C.1 C.2).2 = 12 then .decreasing else .unknown) := by
        rintro _ _ _ rfl rfl rfl
        unfold choosePivot; dsimp only; rw [if_pos (by omega), if_pos (by omega)]
      obtain ⟨a1, a2⟩ : (medianAdjacent lt d (x + (y - x) / 4 * 1) 0).1 < n ∧ (medianAdjacent lt d (x + (y - x) / 4 * 1) 0).2 ≤ 0 + 3 := median_in (p := (· < n)) (by omega) (by omega) (by omega)
      refine medianAdjacent_hs hc hn (by omega) (by omega) (by omega) (by omega) H1 fun h2 H2 => ⟨_, rfl, ?_⟩
      generalize hA : medianAdjacent lt d (x + (y - x) / 4 * 1) 0 = A at H2 a1 a2 ⊢
      obtain ⟨b1, b2⟩ : (medianAdjacent lt d (x + (y - x) / 4 * 2) A.2).1 < n ∧ (medianAdjacent lt d (x + (y - x) / 4 * 2) A.2).2 ≤ A.2 + 3 := median_in (p := (· < n)) (by omega) (by omega) (by omega)
      refine medianAdjacent_hs hc hn (by omega) (by omega) (by omega) (by omega) H2 fun h3 H3 => ⟨_, rfl, ?_⟩
      generalize hB : medianAdjacent lt d (x + (y - x) / 4 * 2) A.2 = B at H3 b1 b2 ⊢
      obtain ⟨c1, c2⟩ : (medianAdjacent lt d (x + (y - x) / 4 * 3) B.2).1 < n ∧ (medianAdjacent lt d (x + (y - x) / 4 * 3) B.2).2 ≤ B.2 + 3 := median_in (p := (· < n)) (by omega) (by omega) (by omega)
      refine medianAdjacent_hs hc hn (by omega) (by omega) (by omega) (by omega) H3 fun h4 H4 => ⟨_, rfl, ?_⟩
      generalize hC : medianAdjacent lt d (x + (y - x) / 4 * 3) B.2 = C at H4 c1 c2 ⊢
      exact J1 a1 b1 c1 (by omega) H4 (u A B C hA hB hC)
    · have e50 := of_decide_eq_false e50
      exact J1 (s := 0) (by omega) (by omega) (by omega) (by omega) H1 (by unfold choosePivot; dsimp only; rw [if_pos (by omega), if_neg (by omega)])
  · have e8 := of_decide_eq_false e8
    exact J2 (s := 0) H1 (by unfold choosePivot; dsimp only; rw [if_neg (by omega)])
theorem choosePivot_in {d : Array Wr} {x y : Nat} (hxy : x < y) : x ≤ (choosePivot lt d x y).1 ∧ (choosePivot lt d x y).1 < y := choosePivot_holds lt d x y hxy
end Go.Proofs.Ytcdifhgocjjbpaa.Srtapi_Write
