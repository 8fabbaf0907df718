/- Texts of the proof, laid together: The library's sort by a function, at one element: what its parts compute (the kit's plain law of the sort tells the rest). Printed by sortgen.py.; The library's sort by a function, at one element, second part: reverse, insertion, heap. Printed by sortgen.py.; The library's sort by a function, at one element, third part: partial insertion, partitions. Printed by sortgen.py.; The library's sort by a function, at one element, fourth part: patterns, the whole. Printed by sortgen.py.; The library's sort by a function, at one element, last part: pdqsort and SortFunc. Printed by sortgen.py.; Versions, chains, the store's memory.; Contracts of package chain: New, Now, newest, Get, Last.; Contracts of package chain: keys, List, Versions.; Contracts of package chain: Put, Versions.; Contracts of package chain: Versions, Prune.; Rows of archives, each with entries of its own.; Contracts of package chain: Dump.; A store of versions, plain: what Put and Prune leave as it was.; The writes of a map, in order: maps.Values, slices.SortedFunc.; Contracts of package valid.; Contracts of package valid: Own, Clash, Check.; DERIVED: THE SHELF's CONTRACTS AT THIS DUMP, IN PLAIN WORDS (tools/lay-plain.mjs out of 'TryzPick.lean', which tools/lay-shelf.mjs wrote): THE SAME DECLARATIONS UNDER THE SAME NAMES: 'import', 'namespace', 'open', 'def', 'theorem' AND NOTHING ELSE: no command of the shelf's: FOR A HAND-IN. Each laying: the table of numbers ('.._ren') and one theorem, a field a fact of the dump's own or the kernel's comparison; each contract: ONE APPLICATION.; Transactions, plain: states by rising keys, what is staged, a manager of all states.; A manager of all states, plain: its calls, what is always so.; Strings by runes: a range over a string; a rune among those of names.; Names of entries, short names.; slices.Sort of strings: the kit's contract as one over heaps.; A manager in memory. -/
import Derived.Test.YtglcanljknjcfaaGreatDoorP4
import Derived.Test.YtglcanljknjcfaaGreatDoorP2
import Derived.Sort.AssemblyPlain
import Derived.Shelf.Small.Utf8
import Derived.Shelf.Small.Strs
import Derived.Shelf.Strings.Search3
import Derived.Shelf.Sort.Plain
import Derived.Shelf.Strings.Runes
import Derived.Shelf.Slices.In.SortNone
import Derived.Test.YtglcanljknjcfaaGreatDoorProg
set_option linter.unusedVariables false
set_option linter.unusedSimpArgs false
set_option linter.unusedSectionVars false
set_option maxRecDepth 20000
namespace Go.Proofs.YtglcanljknjcfaaGreatDoor.Srtapi_Write
open Go Go.HW Go.Sort
variable {h : Heap} {L : List Assn} {Q : Value → Heap → Prop} {a : OA} {n c : Nat}
def S (a : OA) (n c : Nat) (d : Array Wr) : Assn := own a n c y25 5 (d.toList.flatMap wrV)
theorem phl (x : Wr) : (wrV x).length = 5 := rfl
def CmpOk (cmp : Value) (lt : Wr → Wr → Bool) : Prop := ∀ (x y : Wr) (M : List Assn) (h : Heap) (R : VP), Hs h M → (∀ h' (r : Int), decide (r < 0) = lt x y → Hs h' M → R (.int .i64 r) h') → callV PP cmp [.agg (wrV x).toArray, .agg (wrV y).toArray] R h
theorem wI {x : Int} (h1 : -9223372036854775808 ≤ x) (h2 : x < 9223372036854775808) : IntKind.i64.wrap x = x := y34 h1 h2
theorem wA {i j : Nat} (h : i + j < 2 ^ 62) : IntKind.i64.wrap ((i : Int) + (j : Int)) = ((i + j : Nat) : Int) := by rw [wI (by omega) (by omega)]; omega
theorem wS {i j : Nat} (h : j ≤ i) (h2 : i < 2 ^ 62) : IntKind.i64.wrap ((i : Int) - (j : Int)) = ((i - j : Nat) : Int) := by rw [wI (by omega) (by omega)]; omega
theorem w1 {i : Nat} (h : i < 2 ^ 62) : IntKind.i64.wrap ((i : Int) + 1) = ((i + 1 : Nat) : Int) := by rw [wI (by omega) (by omega)]; omega
theorem p1 {i : Nat} (h : 1 ≤ i) (h2 : i < 2 ^ 62) : IntKind.i64.wrap ((i : Int) - 1) = ((i - 1 : Nat) : Int) := by rw [wI (by omega) (by omega)]; omega
theorem toL {d : Array Wr} {i : Nat} (hi : i < d.size) : d.toList[i]? = some d[i]! := by simp [hi]
theorem lk {d : Array Wr} {i : Nat} {M : List Assn} (hn : d.size = n) (hi : i < n) (H : Hs h (S a n c d :: M)) {R : Addr → Heap → Prop} (K : ∀ t, rdCells h t 0 (wrV d[i]!) → R t h) :
  hwp PP (Instr.indexAt y11 (.slice a n c) (.int .i64 (i : Int))) (fun u h1 => ∃ t, u = .pointer (some t) ∧ R t h1) h :=
 idxf y122 (φ := wrV) (l := d.toList) (x := d[i]!) H.rd phl (by decide) (by omega) (by omega) (by rw [Int.toNat_natCast]; exact toL (by omega)) K
theorem y75 {d : Array Wr} {i j : Nat} (hn : d.size = n) (hi : i < n) (hj : j < n) (H : Hs h (S a n c d :: L)) {K : Heap → Prop} (k : ∀ h', Hs h' (S a n c (swp d i j) :: L) → K h') :
  hwp PP (Instr.indexAt y11 (.slice a n c) (.int .i64 (j : Int))) (fun v h1 => ∃ (t88 : Addr), v = (.pointer (some t88)) ∧
  ∃ (f0 : ByteArray) (f1 : ByteArray) (f2 : ByteArray) (f3 : Bool) (f4 : ByteArray), rdCells h1 t88 0 [(.string f0), (.string f1), (.string f2), (.bool f3), (.string f4)] ∧
  hwp PP (Instr.indexAt y11 (.slice a n c) (.int .i64 (i : Int))) (fun v_1 h2 => ∃ (t92 : Addr), v_1 = (.pointer (some t92)) ∧
  ∃ (g0 : ByteArray) (g1 : ByteArray) (g2 : ByteArray) (g3 : Bool) (g4 : ByteArray), rdCells h2 t92 0 [(.string g0), (.string g1), (.string g2), (.bool g3), (.string g4)] ∧
  hwp PP (Instr.indexAt y11 (.slice a n c) (.int .i64 (i : Int))) (fun v_2 h3 => ∃ (t94 : Addr), v_2 = (.pointer (some t94)) ∧
  wrCells t94 0 [(.string f0), (.string f1), (.string f2), (.bool f3), (.string f4)] (fun h4 =>
  hwp PP (Instr.indexAt y11 (.slice a n c) (.int .i64 (j : Int))) (fun v_3 h5 => ∃ (t96 : Addr), v_3 = (.pointer (some t96)) ∧
  wrCells t96 0 [(.string g0), (.string g1), (.string g2), (.bool g3), (.string g4)] K h5) h4) h3) h2) h1) h := by
 refine lk hn hj H fun t ht => ⟨_, _, _, _, _, ht, ?_⟩
 refine lk hn hi H fun t ht => ⟨_, _, _, _, _, ht, ?_⟩
 have one : ∀ x : Wr, ∀ v ∈ wrV x, oneC v = true := fun x v hv => by
  simp only [wrV, List.mem_cons, List.not_mem_nil, or_false] at hv
  rcases hv with rfl | rfl | rfl | rfl | rfl <;> rfl
 refine Hs.idx_wrf (φ := wrV) d[j]! y122 H (by omega) (by omega) phl (by decide) (one _) fun h4 H4 => ?_
 refine Hs.idx_wrf (φ := wrV) d[i]! y122 H4 (by omega) (by omega) phl (by decide) (one _) fun h6 H6 => ?_
 refine k h6 ?_
 have e : (d.toList.set (i : Int).toNat d[j]!).set (j : Int).toNat d[i]! = (swp d i j).toList := by
  rw [Int.toNat_natCast, Int.toNat_natCast, swp, Array.toList_setIfInBounds, Array.toList_setIfInBounds]
 rw [e] at H6
 exact H6
theorem y62 {d : Array Wr} {i j : Nat} : (swp d i j).size = d.size := by simp [swp]
variable {cmp : Value} {lt : Wr → Wr → Bool}
theorem y185 (hc : CmpOk cmp lt) {d : Array Wr} {i j s sw : Nat} (hn : d.size = n) (hi : i < n) (hj : j < n) (hs : s < 1000) (H : Hs h (pt sw y63 [.int .i64 (s : Int)] :: S a n c d :: L))
  (k : ∀ h', Hs h' (pt sw y63 [.int .i64 ((order2 lt d i j s).2.2 : Nat)] :: S a n c d :: L) → Q (.tuple #[.int .i64 ((order2 lt d i j s).1 : Nat), .int .i64 ((order2 lt d i j s).2.1 : Nat)]) h') :
  SpecH PP z345 [.slice a n c, .int .i64 (i : Int), .int .i64 (j : Int), .pointer (some ⟨sw, 0, none⟩), cmp] h Q := by
 refine z344.door ?_
 refine lk hn hj H.tl fun t ht => ⟨_, _, _, _, _, ht, ?_⟩
 refine lk hn hi H.tl fun t ht => ⟨_, _, _, _, _, ht, ?_⟩
 refine hc d[j]! d[i]! _ _ _ H fun h1 r hr H1 => ⟨_, rfl, ?_⟩
 dsimp only
 rw [hr]
 unfold order2 at k
 refine (y16 _ _ _).2 ⟨fun e => ?_, fun e => ?_⟩
 ·rw [if_pos e] at k
  refine ⟨_, H1.cell (off := 0) rfl, ?_⟩
  dsimp only [nilc]
  refine H1.sto (off := 0) (by simp) fun h2 H2 => ?_
  rw [w1 (by omega)] at H2
  exact k h2 H2
 ·rw [if_neg (by rw [e]; simp)] at k
  exact k h1 H1
theorem y139 {d : Array Wr} {i j s : Nat} {p : Nat → Prop} (hi : p i) (hj : p j) : p (order2 lt d i j s).1 ∧ p (order2 lt d i j s).2.1 ∧ (order2 lt d i j s).2.2 ≤ s + 1 := by
 unfold order2; split
 ·exact ⟨hj, hi, by simp⟩
 ·exact ⟨hi, hj, by simp⟩
theorem median_hs (hc : CmpOk cmp lt) {d : Array Wr} {i j l s sw : Nat} (hn : d.size = n) (hi : i < n) (hj : j < n) (hl : l < n) (hs : s < 900) (H : Hs h (pt sw y63 [.int .i64 (s : Int)] :: S a n c d :: L))
  (k : ∀ h', Hs h' (pt sw y63 [.int .i64 ((median lt d i j l s).2 : Nat)] :: S a n c d :: L) → Q (.int .i64 ((median lt d i j l s).1 : Nat)) h') :
  SpecH PP z339 [.slice a n c, .int .i64 (i : Int), .int .i64 (j : Int), .int .i64 (l : Int), .pointer (some ⟨sw, 0, none⟩), cmp] h Q := by
 refine z338.door ?_
 obtain ⟨q1, q2, q3⟩ := y139 (lt := lt) (d := d) (s := s) (p := (· < n)) hi hj
 refine y185 hc hn hi hj (by omega) H fun h1 H1 => ⟨_, _, rfl, ?_⟩
 unfold median at k
 dsimp only at k
 generalize order2 lt d i j s = r1 at *
 obtain ⟨r, r', r''⟩ := r1
 dsimp only at q1 q2 q3 H1 k ⊢
 obtain ⟨q4, q5, q6⟩ := y139 (lt := lt) (d := d) (s := r'') (p := (· < n)) q2 hl
 refine y185 hc hn q2 hl (by omega) H1 fun h2 H2 => ⟨_, _, rfl, ?_⟩
 generalize order2 lt d r' l r'' = r2 at *
 obtain ⟨u, u', u''⟩ := r2
 dsimp only at q4 q5 q6 H2 k ⊢
 exact y185 hc hn q1 q4 (by omega) H2 fun h3 H3 => ⟨_, _, rfl, k h3 H3⟩
theorem y186 {d : Array Wr} {i j l s : Nat} {p : Nat → Prop} (hi : p i) (hj : p j) (hl : p l) : p (median lt d i j l s).1 ∧ (median lt d i j l s).2 ≤ s + 3 := by
 unfold median
 dsimp only
 obtain ⟨q1, q2, q3⟩ := y139 (lt := lt) (d := d) (s := s) (p := p) hi hj
 generalize order2 lt d i j s = r1 at *
 obtain ⟨q4, q5, q6⟩ := y139 (lt := lt) (d := d) (s := r1.2.2) (p := p) q2 hl
 generalize order2 lt d r1.2.1 l r1.2.2 = r2 at *
 obtain ⟨q7, q8, q9⟩ := y139 (lt := lt) (d := d) (s := r2.2.2) (p := p) q1 q4
 exact ⟨q8, by omega⟩
theorem y114 (hc : CmpOk cmp lt) {d : Array Wr} {i s sw : Nat} (hn : d.size = n) (hi : 1 ≤ i) (hi2 : i + 1 < n) (hmax : n < 2 ^ 61) (hs : s < 900) (H : Hs h (pt sw y63 [.int .i64 (s : Int)] :: S a n c d :: L))
  (k : ∀ h', Hs h' (pt sw y63 [.int .i64 ((medianAdjacent lt d i s).2 : Nat)] :: S a n c d :: L) → Q (.int .i64 ((medianAdjacent lt d i s).1 : Nat)) h') :
  SpecH PP z335 [.slice a n c, .int .i64 (i : Int), .pointer (some ⟨sw, 0, none⟩), cmp] h Q := by
 refine z334.door ?_
 dsimp only
 rw [w1 (by omega), p1 hi (by omega)]
 exact median_hs hc hn (by omega) (by omega) (by omega) hs H fun h1 H1 => ⟨_, rfl, k h1 H1⟩
def hintN : Hint → Nat | .unknown => 0 | .increasing => 1 | .decreasing => 2
theorem y201 (hc : CmpOk cmp lt) {d : Array Wr} {x y : Nat} (hn : d.size = n) (hxy : x < y) (hy : y ≤ n) (hmax : n < 2 ^ 60) (H : Hs h (S a n c d :: L))
  (k : ∀ h', Hs h' (S a n c d :: L) → Q (.tuple #[.int .i64 ((choosePivot lt d x y).1 : Nat), .int .i64 (hintN (choosePivot lt d x y).2 : Nat)]) h') :
  SpecH PP z323 [.slice a n c, .int .i64 (x : Int), .int .i64 (y : Int), cmp] h Q := by
 refine z322.door ?_
 dsimp only
 have H1 := H.new (t := y63) (cs := #[.int .i64 0]) (xs := [.int .i64 ((0 : Nat) : Int)])
 generalize Array.size h = sw at H1 ⊢
 rw [wS (by omega) (by omega)]
 have t4 : Int.tdiv ((y - x : Nat) : Int) 4 = (((y - x) / 4 : Nat) : Int) := tdiv_n _ 4
 rw [t4, wI (x := (((y - x) / 4 : Nat) : Int)) (by omega) (by omega)]
 have m : ∀ q : Nat, q ≤ 3 → IntKind.i64.wrap ((((y - x) / 4 : Nat) : Int) * (q : Int)) = (((y - x) / 4 * q : Nat) : Int) := fun q hq => by
  have : (y - x) / 4 * q ≤ (y - x) / 4 * 3 := Nat.mul_le_mul_left _ hq
  rw [show (((y - x) / 4 : Nat) : Int) * (q : Int) = (((y - x) / 4 * q : Nat) : Int) by simp, wI (by omega) (by omega)]
 have m1 := m 1 (by omega); have m2 := m 2 (by omega); have m3 := m 3 (by omega)
 simp only [Int.cast_ofNat_Int, Int.ofNat_one] at m1 m2 m3
 have m1' : IntKind.i64.wrap ((((y - x) / 4 : Nat) : Int) * 1) = (((y - x) / 4 * 1 : Nat) : Int) := m1
 rw [m1', m2, m3, wA (by omega), wA (by omega), wA (by omega)]
 have J2 : ∀ {h : Heap} {p s : Nat}, Hs h (pt sw y63 [.int .i64 (s : Int)] :: S a n c d :: L) → choosePivot lt d x y = (p, if s = 0 then .increasing else if s = 12 then .decreasing else .unknown) → z322.J2 ⟨sw, 0, none⟩ (p : Int) Q h := by
  intro h p s H e
  rw [e] at k
  refine z322.J2_of ⟨_, H.cell (off := 0) rfl, (y16 _ _ _).2 ⟨fun e1 => ?_, fun e1 => (y16 _ _ _).2 ⟨fun e2 => ?_, fun e2 => ?_⟩⟩⟩
  ·rw [if_pos (by have := beq_iff_eq.1 e1; omega)] at k; exact k h H.tl
  ·rw [if_neg (by have := beq_eq_false_iff_ne.1 e1; omega), if_pos (by have := beq_iff_eq.1 e2; omega)] at k; exact k h H.tl
  ·rw [if_neg (by have := beq_eq_false_iff_ne.1 e1; omega), if_neg (by have := beq_eq_false_iff_ne.1 e2; omega)] at k; exact k h H.tl
 have J1 : ∀ {h : Heap} {i j l s : Nat}, i < n → j < n → l < n → s < 900 → Hs h (pt sw y63 [.int .i64 (s : Int)] :: S a n c d :: L) → choosePivot lt d x y = ((median lt d i j l s).1, if (median lt d i j l s).2 = 0 then .increasing else if (median lt d i j l s).2 = 12 then .decreasing else .unknown) →
   z322.J1 a n c cmp ⟨sw, 0, none⟩ (i : Int) (j : Int) (l : Int) Q h := by
  intro h i j l s hi hj hl hs H e
  exact z322.J1_of (median_hs hc hn hi hj hl hs H fun h1 H1 => ⟨_, rfl, J2 H1 e⟩)
 have hq : 4 * ((y - x) / 4) ≤ y - x := Nat.mul_div_le _ _
 refine (y16 _ _ _).2 ⟨fun e8 => ?_, fun e8 => ?_⟩
 ·have e8 := of_decide_eq_true e8
  refine (y16 _ _ _).2 ⟨fun e50 => ?_, fun e50 => ?_⟩
  ·have e50 := of_decide_eq_true e50
   have u : ∀ A B C, medianAdjacent lt d (x + (y - x) / 4 * 1) 0 = A → medianAdjacent lt d (x + (y - x) / 4 * 2) A.2 = B → medianAdjacent lt d (x + (y - x) / 4 * 3) B.2 = C →
     choosePivot lt d x y = ((median lt d A.1 B.1 C.1 C.2).1, if (median lt d A.1 B.1 C.1 C.2).2 = 0 then .increasing else if (median lt d A.1 B.1 C.1 C.2).2 = 12 then .decreasing else .unknown) := by
    rintro _ _ _ rfl rfl rfl
    unfold choosePivot; dsimp only; rw [if_pos (by omega), if_pos (by omega)]
   obtain ⟨a1, a2⟩ : (medianAdjacent lt d (x + (y - x) / 4 * 1) 0).1 < n ∧ (medianAdjacent lt d (x + (y - x) / 4 * 1) 0).2 ≤ 0 + 3 := y186 (p := (· < n)) (by omega) (by omega) (by omega)
   refine y114 hc hn (by omega) (by omega) (by omega) (by omega) H1 fun h2 H2 => ⟨_, rfl, ?_⟩
   generalize hA : medianAdjacent lt d (x + (y - x) / 4 * 1) 0 = A at H2 a1 a2 ⊢
   obtain ⟨b1, b2⟩ : (medianAdjacent lt d (x + (y - x) / 4 * 2) A.2).1 < n ∧ (medianAdjacent lt d (x + (y - x) / 4 * 2) A.2).2 ≤ A.2 + 3 := y186 (p := (· < n)) (by omega) (by omega) (by omega)
   refine y114 hc hn (by omega) (by omega) (by omega) (by omega) H2 fun h3 H3 => ⟨_, rfl, ?_⟩
   generalize hB : medianAdjacent lt d (x + (y - x) / 4 * 2) A.2 = B at H3 b1 b2 ⊢
   obtain ⟨c1, c2⟩ : (medianAdjacent lt d (x + (y - x) / 4 * 3) B.2).1 < n ∧ (medianAdjacent lt d (x + (y - x) / 4 * 3) B.2).2 ≤ B.2 + 3 := y186 (p := (· < n)) (by omega) (by omega) (by omega)
   refine y114 hc hn (by omega) (by omega) (by omega) (by omega) H3 fun h4 H4 => ⟨_, rfl, ?_⟩
   generalize hC : medianAdjacent lt d (x + (y - x) / 4 * 3) B.2 = C at H4 c1 c2 ⊢
   exact J1 a1 b1 c1 (by omega) H4 (u A B C hA hB hC)
  ·have e50 := of_decide_eq_false e50
   exact J1 (s := 0) (by omega) (by omega) (by omega) (by omega) H1 (by unfold choosePivot; dsimp only; rw [if_pos (by omega), if_neg (by omega)])
 ·have e8 := of_decide_eq_false e8
  exact J2 (s := 0) H1 (by unfold choosePivot; dsimp only; rw [if_neg (by omega)])
theorem y202 {d : Array Wr} {x y : Nat} (hxy : x < y) : x ≤ (choosePivot lt d x y).1 ∧ (choosePivot lt d x y).1 < y := choosePivot_holds lt d x y hxy
end Go.Proofs.YtglcanljknjcfaaGreatDoor.Srtapi_Write

set_option maxRecDepth 20000
namespace Go.Proofs.YtglcanljknjcfaaGreatDoor.Srtapi_Write
open Go Go.HW Go.Sort
variable {h : Heap} {L : List Assn} {Q : Value → Heap → Prop} {a : OA} {n c : Nat} {cmp : Value} {lt : Wr → Wr → Bool}
theorem reverse_hs {d : Array Wr} {x y : Nat} (hn : d.size = n) (hxy : x < y) (hy : y ≤ n) (hmax : n < 2 ^ 60) (H : Hs h (S a n c d :: L)) (k : ∀ h', Hs h' (S a n c (reverseRange d x y) :: L) → Q (.tuple #[]) h') :
  SpecH PP z365 [.slice a n c, .int .i64 (x : Int), .int .i64 (y : Int), cmp] h Q := by
 refine z364.door ?_
 dsimp only
 rw [p1 (by omega) (by omega)]
 have go : ∀ (r i j : Nat) {h : Heap} {e : Array Wr}, j ≤ i + r → j < n → e.size = n → reverseLoop i j e = reverseRange d x y → Hs h (S a n c e :: L) → z364.L1 a n c (i : Int) (j : Int) (z364.K1 Q) h := by
  intro r
  induction r with
  | zero =>
   intro i j h e hr hj hs he H
   rw [reverseLoop, if_neg (by omega)] at he
   refine z364.L1_of (y13 (decide_eq_false (by omega)) (z364.L1_X0 (k h ?_)))
   rw [← he]; exact H
  | succ r ih =>
   intro i j h e hr hj hs he H
   rw [reverseLoop] at he
   refine z364.L1_of ((y16 _ _ _).2 ⟨fun e1 => ?_, fun e1 => z364.L1_X0 (k h ?_)⟩)
   ·have e1 := of_decide_eq_true e1
    rw [if_pos (by omega)] at he
    refine y75 hs (by omega) hj H fun h2 H2 => ?_
    dsimp only
    rw [w1 (by omega), p1 (by omega) (by omega)]
    exact ih (i + 1) (j - 1) (by omega) (by omega) (by rw [y62]; exact hs) he H2
   ·have e1 := of_decide_eq_false e1
    rw [if_neg (by omega)] at he
    rw [← he]; exact H
 exact go y x (y - 1) (by omega) (by omega) hn rfl H
theorem insertion_hs (hc : CmpOk cmp lt) {d : Array Wr} {x y : Nat} (hn : d.size = n) (hxy : x ≤ y) (hy : y ≤ n) (hmax : n < 2 ^ 60) (H : Hs h (S a n c d :: L)) (k : ∀ h', Hs h' (S a n c (insertionSort lt d x y) :: L) → Q (.tuple #[]) h') :
    SpecH PP z331 [.slice a n c, .int .i64 (x : Int), .int .i64 (y : Int), cmp] h Q := by
  refine z330.door ?_
  dsimp only
  rw [w1 (by omega)]
  have inn : ∀ (j : Nat) {i : Nat} {K : EP} {h : Heap} {e f : Array Wr}, j < n → e.size = n → insInner lt x j e = f → (∀ h', Hs h' (S a n c f :: L) → z330.K2 K (.exit 2) (z330.X2 a n c (x : Int) (y : Int) cmp (i : Int)) h') →
      Hs h (S a n c e :: L) → z330.L2 a n c (x : Int) (y : Int) cmp (i : Int) (j : Int) (z330.K2 K) h := by
    intro j
    induction j with
    | zero =>
      intro i K h e f hj hs he kk H
      rw [insInner] at he
      refine z330.L2_of (y13 (decide_eq_false (by omega)) (kk h ?_))
      rw [← he]; exact H
    | succ j ih =>
      intro i K h e f hj hs he kk H
      rw [insInner] at he
      refine z330.L2_of ((y16 _ _ _).2 ⟨fun e1 => ?_, fun e1 => kk h ?_⟩)
      · have e1 := of_decide_eq_true e1
        rw [p1 (by omega) (by omega), show j + 1 - 1 = j by omega]
        refine lk hs hj H fun t ht => ⟨_, _, _, _, _, ht, ?_⟩
        refine lk hs (by omega) H fun t ht => ⟨_, _, _, _, _, ht, ?_⟩
        refine hc e[j + 1]! e[j]! _ _ _ H fun h1 r hr H1 => ⟨_, rfl, ?_⟩
        dsimp only
        rw [hr]
        refine (y16 _ _ _).2 ⟨fun e2 => ?_, fun e2 => kk h1 ?_⟩
        · rw [if_pos (by rw [e2, decide_eq_true (by omega)]; rfl)] at he
          refine y75 hs hj (by omega) H1 fun h2 H2 => ?_
          exact ih (by omega) (by rw [y62]; exact hs) he kk H2
        · rw [if_neg (by rw [e2]; simp)] at he
          rw [← he]; exact H1
      · have e1 := of_decide_eq_false e1
        rw [if_neg (by rw [decide_eq_false (by omega)]; simp)] at he
        rw [← he]; exact H
  have go : ∀ (r i : Nat) {h : Heap} {e : Array Wr}, y ≤ i + r → i ≤ y + 1 → e.size = n → insOuter lt x y i e = insertionSort lt d x y → Hs h (S a n c e :: L) → z330.L1 a n c (x : Int) (y : Int) cmp (i : Int) (z330.K1 Q) h := by
    intro r
    induction r with
    | zero =>
      intro i h e hr hi hs he H
      rw [insOuter, if_neg (by omega)] at he
      refine z330.L1_of (y13 (decide_eq_false (by omega)) (z330.L1_X0 (k h ?_)))
      rw [← he]; exact H
    | succ r ih =>
      intro i h e hr hi hs he H
      rw [insOuter] at he
      refine z330.L1_of ((y16 _ _ _).2 ⟨fun e1 => ?_, fun e1 => z330.L1_X0 (k h ?_)⟩)
      · have e1 := of_decide_eq_true e1
        rw [if_pos (by omega)] at he
        have sz : ∀ (j : Nat) (e : Array Wr), (insInner lt x j e).size = e.size := by
          intro j
          induction j with
          | zero => intro e; rfl
          | succ j ih => intro e; rw [insInner]; split
                         · rw [ih, y62]
                         · rfl
        refine inn i (i := i) (by omega) hs rfl (fun h2 H2 => z330.L2_X2 ?_) H
        dsimp only
        rw [w1 (by omega)]
        exact ih (i + 1) (by omega) (by omega) (by rw [sz]; exact hs) he H2
      · have e1 := of_decide_eq_false e1
        rw [if_neg (by omega)] at he
        rw [← he]; exact H
  exact go y (x + 1) (by omega) (by omega) hn rfl H
theorem y178 : ∀ (r : Nat) {hi first root : Nat} {d : Array Wr}, hi ≤ root + r → (siftDown lt hi first root d).size = d.size := by
 intro r
 induction r with
 | zero => intro hi first root d hr; rw [siftDown, dif_pos (by omega)]
 | succ r ih =>
  intro hi first root d hr
  rw [siftDown]
  split
  ·rfl
  ·split
   ·split
    ·rfl
    ·split
     ·rw [ih (by omega), y62]
     ·rfl
   ·split
    ·rfl
    ·rw [ih (by omega), y62]
theorem y197 (hc : CmpOk cmp lt) {d : Array Wr} {lo hi first : Nat} (hn : d.size = n) (hf : first + hi ≤ n) (hlo : lo ≤ n) (hmax : n < 2 ^ 59) (H : Hs h (S a n c d :: L)) (k : ∀ h', Hs h' (S a n c (siftDown lt hi first lo d) :: L) → Q (.tuple #[]) h') :
  SpecH PP z369 [.slice a n c, .int .i64 (lo : Int), .int .i64 (hi : Int), .int .i64 (first : Int), cmp] h Q := by
 refine z368.door ?_
 have go : ∀ (r root : Nat) {h : Heap} {e : Array Wr}, hi ≤ root + r → root ≤ n → e.size = n → siftDown lt hi first root e = siftDown lt hi first lo d → Hs h (S a n c e :: L) → z368.L1 a n c (hi : Int) (first : Int) cmp (root : Int) (z368.K1 Q) h := by
  intro r
  induction r with
  | zero =>
   intro root h e hr hi2 hs he H
   rw [siftDown, dif_pos (by omega)] at he
   refine z368.L1_of ?_
   dsimp only
   rw [wI (x := 2 * (root : Int)) (by omega) (by omega), wI (x := 2 * (root : Int) + 1) (by omega) (by omega)]
   refine y22 (decide_eq_true (by omega)) (z368.L1_X0 (k h ?_))
   rw [← he]; exact H
  | succ r ih =>
   intro root h e hr hi2 hs he H
   refine z368.L1_of ?_
   dsimp only
   rw [wI (x := 2 * (root : Int)) (by omega) (by omega), show IntKind.i64.wrap (2 * (root : Int) + 1) = ((2 * root + 1 : Nat) : Int) by rw [wI (by omega) (by omega)]; omega]
   rw [siftDown] at he
   refine (y16 _ _ _).2 ⟨fun e1 => z368.L1_X0 (k h ?_), fun e1 => ?_⟩
   ·have e1 := of_decide_eq_true e1
    rw [dif_pos (by omega)] at he
    rw [← he]; exact H
   have e1 := of_decide_eq_false e1
   rw [dif_neg (by omega)] at he
   have J2 : ∀ {h : Heap} {ch : Nat}, root < ch → ch < hi → (if (!lt e[first + root]! e[first + ch]!) = true then e else siftDown lt hi first ch (swp e (first + root) (first + ch))) = siftDown lt hi first lo d → Hs h (S a n c e :: L) →
     z368.J2 a n c (hi : Int) (first : Int) cmp (root : Int) (ch : Int) (z368.K1 Q) h := by
    intro h ch hch hch2 he H
    refine z368.J2_of ?_
    dsimp only
    rw [wA (by omega), wA (by omega)]
    refine lk hs (by omega) H fun t ht => ⟨_, _, _, _, _, ht, ?_⟩
    refine lk hs (by omega) H fun t ht => ⟨_, _, _, _, _, ht, ?_⟩
    refine hc e[first + root]! e[first + ch]! _ _ _ H fun h1 r hr H1 => ⟨_, rfl, ?_⟩
    rw [hr]
    refine (y16 _ _ _).2 ⟨fun e2 => z368.L1_Xret (k h1 ?_), fun e2 => ?_⟩
    ·rw [if_pos e2] at he
     rw [← he]; exact H1
    ·rw [if_neg (by rw [e2]; simp)] at he
     refine y75 hs (by omega) (by omega) H1 fun h2 H2 => ?_
     exact ih ch (by omega) (by omega) (by rw [y62]; exact hs) he H2
   have J1 : ∀ {h : Heap} (b : Bool), (2 * root + 1 + 1 < hi && lt e[first + (2 * root + 1)]! e[first + (2 * root + 1) + 1]!) = b → Hs h (S a n c e :: L) →
     z368.J1 a n c (hi : Int) (first : Int) cmp (root : Int) ((2 * root + 1 : Nat) : Int) b (z368.K1 Q) h := by
    intro h b eb H
    refine z368.J1_of ((y16 _ _ _).2 ⟨fun e2 => ?_, fun e2 => ?_⟩)
    ·subst e2
     rw [if_pos eb] at he
     have : 2 * root + 2 < hi := by
      have := (Bool.and_eq_true _ _ ▸ eb).1
      have := of_decide_eq_true this; omega
     rw [dif_pos this] at he
     dsimp only
     rw [w1 (by omega)]
     exact J2 (by omega) (by omega) he H
    ·subst e2
     rw [if_neg (by rw [eb]; simp)] at he
     exact J2 (by omega) (by omega) he H
   rw [w1 (by omega)]
   refine (y16 _ _ _).2 ⟨fun e2 => ?_, fun e2 => J1 false ?_ H⟩
   ·have e2 := of_decide_eq_true e2
    rw [wA (by omega), w1 (by omega)]
    refine lk hs (by omega) H fun t ht => ⟨_, _, _, _, _, ht, ?_⟩
    refine lk hs (by omega) H fun t ht => ⟨_, _, _, _, _, ht, ?_⟩
    refine hc e[first + (2 * root + 1)]! e[first + (2 * root + 1) + 1]! _ _ _ H fun h1 r hr H1 => ⟨_, rfl, ?_⟩
    refine J1 _ ?_ H1
    rw [hr, decide_eq_true (by omega), Bool.true_and]
   ·have e2 := of_decide_eq_false e2
    rw [decide_eq_false (by omega), Bool.false_and]
 exact go hi lo (by omega) hlo hn rfl H
theorem heap_hs (hc : CmpOk cmp lt) {d : Array Wr} {x y : Nat} (hn : d.size = n) (hxy : x < y) (hy : y ≤ n) (hmax : n < 2 ^ 59) (H : Hs h (S a n c d :: L)) (k : ∀ h', Hs h' (S a n c (heapSort lt d x y) :: L) → Q (.tuple #[]) h') :
  SpecH PP z327 [.slice a n c, .int .i64 (x : Int), .int .i64 (y : Int), cmp] h Q := by
 refine z326.door ?_
 dsimp only
 rw [wS (by omega) (by omega), p1 (by omega) (by omega)]
 have t2 : Int.tdiv ((y - x - 1 : Nat) : Int) 2 = (((y - x - 1) / 2 : Nat) : Int) := tdiv_n _ 2
 rw [t2, wI (by omega) (by omega)]
 have pop : ∀ (m : Nat) {h : Heap} {e : Array Wr}, m ≤ y - x → e.size = n → heapPop lt x m e = heapSort lt d x y → Hs h (S a n c e :: L) → z326.L2 a n c cmp (x : Int) 0 ((m : Int) - 1) (z326.K2 Q) h := by
  intro m
  induction m with
  | zero =>
   intro h e hm hs he H
   rw [heapPop] at he
   refine z326.L2_of (y13 (decide_eq_false (by omega)) (z326.L2_X2 (k h ?_)))
   rw [← he]; exact H
  | succ m ih =>
   intro h e hm hs he H
   rw [heapPop] at he
   refine z326.L2_of (y22 (decide_eq_true (by omega)) ?_)
   rw [show ((m + 1 : Nat) : Int) - 1 = (m : Int) by omega]
   dsimp only
   rw [wA (by omega)]
   refine y75 hs (by omega) (by omega) H fun h2 H2 => ?_
   refine y197 (lo := 0) hc (by rw [y62]; exact hs) (by omega) (by omega) hmax H2 fun h3 H3 => ⟨rfl, ?_⟩
   rw [wI (by omega) (by omega)]
   exact ih (by omega) (by rw [y178 m (by omega), y62]; exact hs) he H3
 have build : ∀ (m : Nat) {h : Heap} {e : Array Wr}, m ≤ y - x → e.size = n → heapPop lt x (y - x) (heapBuild lt (y - x) x m e) = heapSort lt d x y → Hs h (S a n c e :: L) →
   z326.L1 a n c cmp (x : Int) 0 ((y - x : Nat) : Int) ((m : Int) - 1) (z326.K1 Q) h := by
  intro m
  induction m with
  | zero =>
   intro h e hm hs he H
   rw [heapBuild] at he
   refine z326.L1_of (y13 (decide_eq_false (by omega)) (z326.L1_X0 ?_))
   dsimp only
   rw [wI (by omega) (by omega)]
   exact pop (y - x) (Nat.le_refl _) hs he H
  | succ m ih =>
   intro h e hm hs he H
   rw [heapBuild] at he
   refine z326.L1_of (y22 (decide_eq_true (by omega)) ?_)
   rw [show ((m + 1 : Nat) : Int) - 1 = (m : Int) by omega]
   refine y197 hc hs (by omega) (by omega) hmax H fun h3 H3 => ⟨rfl, ?_⟩
   dsimp only
   rw [wI (by omega) (by omega)]
   exact ih (by omega) (by rw [y178 (y - x) (by omega)]; exact hs) he H3
 have := build ((y - x - 1) / 2 + 1) (by omega) hn rfl H
 rw [show (((y - x - 1) / 2 + 1 : Nat) : Int) - 1 = (((y - x - 1) / 2 : Nat) : Int) by omega] at this
 exact this
end Go.Proofs.YtglcanljknjcfaaGreatDoor.Srtapi_Write

set_option maxRecDepth 20000
namespace Go.Proofs.YtglcanljknjcfaaGreatDoor.Srtapi_Write
open Go Go.HW Go.Sort
variable {h : Heap} {L : List Assn} {Q : Value → Heap → Prop} {a : OA} {n c : Nat} {cmp : Value} {lt : Wr → Wr → Bool}
theorem scanSorted_le {d : Array Wr} {y : Nat} : ∀ (r i : Nat), y ≤ i + r → i ≤ y → i ≤ scanSorted lt d y i ∧ scanSorted lt d y i ≤ y := by
 intro r
 induction r with
 | zero => intro i h1 h2; rw [scanSorted, if_neg (by rw [decide_eq_false (by omega)]; simp)]; omega
 | succ r ih =>
  intro i h1 h2
  rw [scanSorted]
  split
  ·rename_i e
   have := of_decide_eq_true (Bool.and_eq_true _ _ ▸ e).1
   have := ih (i + 1) (by omega) (by omega)
   omega
  ·omega
theorem shiftUp_size {y : Nat} : ∀ (r j : Nat) (d : Array Wr), y ≤ j + r → (shiftUp lt y j d).size = d.size := by
 intro r
 induction r with
 | zero => intro j d h; rw [shiftUp, if_neg (by omega)]
 | succ r ih =>
  intro j d h
  rw [shiftUp]
  split
  ·split
   ·rfl
   ·rw [ih _ _ (by omega), y62]
  ·rfl
theorem partialIns_hs (hc : CmpOk cmp lt) {d : Array Wr} {x y : Nat} (hn : d.size = n) (hxy : x < y) (hy : y ≤ n) (hmax : n < 2 ^ 59) (H : Hs h (S a n c d :: L))
  (k : ∀ h', Hs h' (S a n c (partialInsertionSort lt d x y).1 :: L) → Q (.bool (partialInsertionSort lt d x y).2) h') :
  SpecH PP z349 [.slice a n c, .int .i64 (x : Int), .int .i64 (y : Int), cmp] h Q := by
 refine z348.door ?_
 dsimp only
 rw [w1 (by omega)]
 have go : ∀ (s i : Nat) {h : Heap} {e : Array Wr}, s ≤ 5 → x < i → i ≤ y → e.size = n → partialIns lt x y s i e = partialInsertionSort lt d x y → Hs h (S a n c e :: L) →
   z348.L1 a n c (x : Int) (y : Int) cmp (i : Int) ((5 - s : Nat) : Int) (z348.K1 Q) h := by
  intro s
  induction s with
  | zero =>
   intro i h e hs5 hxi hi hs he H
   rw [partialIns] at he
   refine z348.L1_of (y13 (decide_eq_false (by omega)) (z348.L1_X0 ?_))
   rw [← he] at k
   exact k h H
  | succ s ih =>
   intro i h e hs5 hxi hi hs he H
   refine z348.L1_of (y22 (decide_eq_true (by omega)) ?_)
   rw [partialIns] at he
   have hsc := scanSorted_le (lt := lt) (d := e) y i (by omega) hi
   have J2 : ∀ {i2 : Nat} {h : Heap} {f : Array Wr}, x < i2 → i2 ≤ y → f.size = n → partialIns lt x y s i2 f = partialInsertionSort lt d x y → Hs h (S a n c f :: L) →
     z348.J2 a n c (x : Int) (y : Int) cmp (i2 : Int) ((5 - (s + 1) : Nat) : Int) (z348.K1 Q) h := by
    intro i2 h f h1 h2 hs he H
    refine z348.J2_of ?_
    dsimp only
    rw [w1 (by omega), show 5 - (s + 1) + 1 = 5 - s by omega]
    exact ih i2 (by omega) h1 h2 hs he H
   have up : ∀ (r j : Nat) {i2 : Nat} {h : Heap} {f g : Array Wr}, y ≤ j + r → 1 ≤ j → x < i2 → i2 ≤ y → f.size = n → shiftUp lt y j f = g → partialIns lt x y s i2 g = partialInsertionSort lt d x y → Hs h (S a n c f :: L) →
     z348.L4 a n c (x : Int) (y : Int) cmp (i2 : Int) ((5 - (s + 1) : Nat) : Int) (j : Int) (z348.K7 (z348.K1 Q)) h := by
    intro r
    induction r with
    | zero =>
     intro j i2 h f g hr hj h1 h2 hs hg he H
     rw [shiftUp, if_neg (by omega)] at hg
     subst hg
     exact z348.L4_of (y13 (decide_eq_false (by omega)) (z348.L4_X6 (J2 h1 h2 hs he H)))
    | succ r ih4 =>
     intro j i2 h f g hr hj h1 h2 hs hg he H
     have hgs : g.size = n := by rw [← hg, shiftUp_size (r + 1) j f hr, hs]
     rw [shiftUp] at hg
     refine z348.L4_of ((y16 _ _ _).2 ⟨fun e1 => ?_, fun e1 => z348.L4_X6 ?_⟩)
     ·have e1 := of_decide_eq_true e1
      rw [if_pos (by omega)] at hg
      dsimp only
      rw [p1 hj (by omega)]
      refine lk hs (by omega) H fun t ht => ⟨_, _, _, _, _, ht, ?_⟩
      refine lk hs (by omega) H fun t ht => ⟨_, _, _, _, _, ht, ?_⟩
      refine hc f[j]! f[j - 1]! _ _ _ H fun h3 r hr H3 => ⟨_, rfl, ?_⟩
      rw [hr]
      refine (y16 _ _ _).2 ⟨fun e2 => z348.L4_X6 ?_, fun e2 => ?_⟩
      ·rw [if_pos e2] at hg; subst hg
       exact J2 h1 h2 hs he H3
      ·rw [if_neg (by rw [e2]; simp)] at hg
       refine y75 hs (by omega) (by omega) H3 fun h5 H5 => ?_
       rw [w1 (by omega)]
       exact ih4 (j + 1) (by omega) (by omega) h1 h2 (by rw [y62]; exact hs) hg he H5
     ·have e1 := of_decide_eq_false e1
      rw [if_neg (by omega)] at hg
      subst hg
      exact J2 h1 h2 hs he H
   have J1 : ∀ {i2 : Nat} {h : Heap} {f : Array Wr}, x < i2 → i2 < y → f.size = n → partialIns lt x y s i2 (if y - i2 ≥ 2 then shiftUp lt y (i2 + 1) f else f) = partialInsertionSort lt d x y → Hs h (S a n c f :: L) →
     z348.J1 a n c (x : Int) (y : Int) cmp (i2 : Int) ((5 - (s + 1) : Nat) : Int) (z348.K1 Q) h := by
    intro i2 h f h1 h2 hs he H
    refine z348.J1_of ?_
    dsimp only
    rw [wS (by omega) (by omega)]
    refine (y16 _ _ _).2 ⟨fun e1 => ?_, fun e1 => ?_⟩
    ·have e1 := of_decide_eq_true e1
     rw [if_pos (by omega)] at he
     rw [w1 (by omega)]
     exact up y (i2 + 1) (by omega) (by omega) h1 (by omega) hs rfl he H
    ·have e1 := of_decide_eq_false e1
     rw [if_neg (by omega)] at he
     exact J2 h1 (by omega) hs he H
   have down : ∀ (j : Nat) {i2 : Nat} {h : Heap} {f g : Array Wr}, j < i2 → x < i2 → i2 < y → f.size = n → shiftDown lt j f = g → partialIns lt x y s i2 (if y - i2 ≥ 2 then shiftUp lt y (i2 + 1) g else g) = partialInsertionSort lt d x y → Hs h (S a n c f :: L) →
     z348.L3 a n c (x : Int) (y : Int) cmp (i2 : Int) ((5 - (s + 1) : Nat) : Int) (j : Int) (z348.K5 (z348.K1 Q)) h := by
    intro j
    induction j with
    | zero =>
     intro i2 h f g hj h1 h2 hs hg he H
     rw [shiftDown] at hg
     subst hg
     exact z348.L3_of (y13 (decide_eq_false (by omega)) (z348.L3_X4 (J1 h1 h2 hs he H)))
    | succ j ih3 =>
     intro i2 h f g hj h1 h2 hs hg he H
     rw [shiftDown] at hg
     refine z348.L3_of (y22 (decide_eq_true (by omega)) ?_)
     dsimp only
     rw [p1 (by omega) (by omega), show j + 1 - 1 = j by omega]
     refine lk hs (by omega) H fun t ht => ⟨_, _, _, _, _, ht, ?_⟩
     refine lk hs (by omega) H fun t ht => ⟨_, _, _, _, _, ht, ?_⟩
     refine hc f[j + 1]! f[j]! _ _ _ H fun h3 r hr H3 => ⟨_, rfl, ?_⟩
     rw [hr]
     refine (y16 _ _ _).2 ⟨fun e2 => z348.L3_X4 ?_, fun e2 => ?_⟩
     ·rw [if_pos e2] at hg; subst hg
      exact J1 h1 h2 hs he H3
     ·rw [if_neg (by rw [e2]; simp)] at hg
      refine y75 hs (by omega) (by omega) H3 fun h5 H5 => ?_
      exact ih3 (by omega) h1 h2 (by rw [y62]; exact hs) hg he H5
   have scan : ∀ (r i0 : Nat) {h : Heap}, y ≤ i0 + r → x < i0 → i0 ≤ y → scanSorted lt e y i0 = scanSorted lt e y i → Hs h (S a n c e :: L) →
     z348.L2 a n c (x : Int) (y : Int) cmp (i0 : Int) ((5 - (s + 1) : Nat) : Int) (z348.K2 (z348.K1 Q)) h := by
    have stop : ∀ {i0 : Nat} {h : Heap}, i0 = scanSorted lt e y i → Hs h (S a n c e :: L) →
      z348.K2 (z348.K1 Q) (.exit 2) (z348.X2 a n c (x : Int) (y : Int) cmp (i0 : Int) ((5 - (s + 1) : Nat) : Int)) h := by
     intro i0 h ei H
     dsimp only at he
     rw [← ei] at he hsc
     refine z348.L2_X2 ?_
     refine (y16 _ _ _).2 ⟨fun e1 => z348.L1_Xret ?_, fun e1 => ?_⟩
     ·have e1 := beq_iff_eq.1 e1
      rw [if_pos (by omega)] at he
      rw [← he] at k
      exact k h H
     have e1 := beq_eq_false_iff_ne.1 e1
     rw [if_neg (by omega)] at he
     dsimp only
     rw [wS (by omega) (by omega)]
     refine (y16 _ _ _).2 ⟨fun e2 => z348.L1_Xret ?_, fun e2 => ?_⟩
     ·have e2 := of_decide_eq_true e2
      rw [if_pos (by omega)] at he
      rw [← he] at k
      exact k h H
     have e2 := of_decide_eq_false e2
     rw [if_neg (by omega)] at he
     rw [p1 (by omega) (by omega)]
     refine y75 hs (by omega) (by omega) H fun h5 H5 => ?_
     rw [wS (by omega) (by omega)]
     refine (y16 _ _ _).2 ⟨fun e3 => ?_, fun e3 => ?_⟩
     ·have e3 := of_decide_eq_true e3
      rw [show (if i0 - x ≥ 2 then shiftDown lt (i0 - 1) (swp e i0 (i0 - 1)) else swp e i0 (i0 - 1)) = shiftDown lt (i0 - 1) (swp e i0 (i0 - 1)) from if_pos (by omega)] at he
      exact down (i0 - 1) (by omega) (by omega) (by omega) (by rw [y62]; exact hs) rfl he H5
     ·have e3 := of_decide_eq_false e3
      rw [show (if i0 - x ≥ 2 then shiftDown lt (i0 - 1) (swp e i0 (i0 - 1)) else swp e i0 (i0 - 1)) = swp e i0 (i0 - 1) from if_neg (by omega)] at he
      exact J1 (by omega) (by omega) (by rw [y62]; exact hs) he H5
    intro r
    induction r with
    | zero =>
     intro i0 h hr h1 h2 he2 H
     rw [scanSorted, if_neg (by rw [decide_eq_false (by omega)]; simp)] at he2
     exact z348.L2_of (y13 (decide_eq_false (by omega)) (stop he2 H))
    | succ r ih2 =>
     intro i0 h hr h1 h2 he2 H
     rw [scanSorted] at he2
     refine z348.L2_of ((y16 _ _ _).2 ⟨fun e1 => ?_, fun e1 => stop ?_ H⟩)
     ·have e1 := of_decide_eq_true e1
      dsimp only
      rw [p1 (by omega) (by omega)]
      refine lk hs (by omega) H fun t ht => ⟨_, _, _, _, _, ht, ?_⟩
      refine lk hs (by omega) H fun t ht => ⟨_, _, _, _, _, ht, ?_⟩
      refine hc e[i0]! e[i0 - 1]! _ _ _ H fun h3 r hr H3 => ⟨_, rfl, ?_⟩
      rw [hr]
      refine (y16 _ _ _).2 ⟨fun e2 => ?_, fun e2 => stop ?_ H3⟩
      ·rw [if_pos (by rw [e2, decide_eq_true (by omega)]; rfl)] at he2
       rw [w1 (by omega)]
       exact ih2 (i0 + 1) (by omega) (by omega) (by omega) he2 H3
      ·rw [if_neg (by rw [e2]; simp)] at he2; exact he2
     ·have e1 := of_decide_eq_false e1
      rw [if_neg (by rw [decide_eq_false (by omega)]; simp)] at he2; exact he2
   exact scan y i (by omega) hxi hi rfl H
 exact go 5 (x + 1) (Nat.le_refl _) (by omega) (by omega) hn rfl H
theorem y121 {p : Wr → Bool} {d : Array Wr} {j : Nat} : ∀ (r i : Nat), j + 1 ≤ i + r → i ≤ scanUp p d j i ∧ (scanUp p d j i ≤ j + 1 ∨ scanUp p d j i = i) := by
 intro r
 induction r with
 | zero => intro i h1; rw [scanUp, if_neg (by rw [decide_eq_false (by omega)]; simp)]; omega
 | succ r ih =>
  intro i h1
  rw [scanUp]
  split
  ·rename_i e
   have := of_decide_eq_true (Bool.and_eq_true _ _ ▸ e).1
   have := ih (i + 1) (by omega)
   omega
  ·omega
theorem y92 {p : Wr → Bool} {d : Array Wr} {i : Nat} : ∀ (j : Nat), scanDown p d i j ≤ j
 | 0 => Nat.le_refl _
 | j + 1 => by
  rw [scanDown]; split
  ·have := y92 (p := p) (d := d) (i := i) j; omega
  ·exact Nat.le_refl _
theorem partition_hs (hc : CmpOk cmp lt) {d : Array Wr} {x y p : Nat} (hn : d.size = n) (hxp : x ≤ p) (hpy : p < y) (hxy : x + 1 < y) (hy : y ≤ n) (hmax : n < 2 ^ 59) (H : Hs h (S a n c d :: L))
  (k : ∀ h', Hs h' (S a n c (Sort.partition lt d x y p).2.2 :: L) → Q (.tuple #[.int .i64 ((Sort.partition lt d x y p).1 : Nat), .bool (Sort.partition lt d x y p).2.1]) h') :
  SpecH PP z353 [.slice a n c, .int .i64 (x : Int), .int .i64 (y : Int), .int .i64 (p : Int), cmp] h Q := by
 refine z352.door ?_
 refine y75 hn (by omega) (by omega) H fun h1 H1 => ?_
 dsimp only
 rw [w1 (by omega), p1 (by omega) (by omega)]
 unfold Sort.partition at k
 dsimp only at k
 have hs1 : (swp d x p).size = n := by rw [y62, hn]
 generalize swp d x p = e at H1 k hs1
 have hi0 := y121 (p := fun z => lt z e[x]!) (d := e) (j := y - 1) y (x + 1) (by omega)
 have later : ∀ (m i j : Nat) {h : Heap} {f : Array Wr}, j + 1 ≤ i + m → x + 1 ≤ i → j < y → f.size = n →
   (∀ h', Hs h' (S a n c (swp (partLoop lt x i j f).2 (partLoop lt x i j f).1 x) :: L) → Q (.tuple #[.int .i64 ((partLoop lt x i j f).1 : Nat), .bool false]) h') → Hs h (S a n c f :: L) →
   z352.L3 a n c (x : Int) cmp (i : Int) (j : Int) (z352.K5 Q) h := by
  intro m
  induction m using Nat.strongRecOn with
  | _ m ihm =>
  intro i j h f hm hxi hj hs kk H
  refine z352.L3_of ?_
  rw [partLoop] at kk
  have hu := y121 (p := fun z => lt z f[x]!) (d := f) (j := j) (j + 1) i (by omega)
  have endK : ∀ {h : Heap} {i2 j2 : Nat}, i2 = scanUp (fun z => lt z f[x]!) f j i → j2 = scanDown (fun z => !lt z f[x]!) f i2 j → Hs h (S a n c f :: L) →
    z352.K9 (z352.K5 Q) (.exit 8) (z352.X8 a n c (x : Int) cmp (i2 : Int) (j2 : Int)) h := by
   intro h i2 j2 ei ej H
   rw [← ei] at kk hu
   have hd := y92 (p := fun z => !lt z f[x]!) (d := f) (i := i2) j
   rw [← ej] at kk hd
   refine z352.L5_X8 ((y16 _ _ _).2 ⟨fun e1 => z352.L3_X4 ?_, fun e1 => ?_⟩)
   ·have e1 := of_decide_eq_true e1
    rw [if_pos (by omega)] at kk
    exact y75 hs (by omega) (by omega) H fun h5 H5 => kk h5 H5
   ·have e1 := of_decide_eq_false e1
    rw [if_neg (by omega), dif_pos (by omega)] at kk
    refine y75 hs (by omega) (by omega) H fun h5 H5 => ?_
    dsimp only
    rw [w1 (by omega), p1 (by omega) (by omega)]
    exact ihm (j2 - 1 + 1 - (i2 + 1)) (by omega) (i2 + 1) (j2 - 1) (by omega) (by omega) (by omega) (by rw [y62]; exact hs) kk H5
  have dn : ∀ (j3 : Nat) {h : Heap} {i2 : Nat}, i2 = scanUp (fun z => lt z f[x]!) f j i → j3 ≤ j → scanDown (fun z => !lt z f[x]!) f i2 j3 = scanDown (fun z => !lt z f[x]!) f i2 j → Hs h (S a n c f :: L) →
    z352.L5 a n c (x : Int) cmp (i2 : Int) (j3 : Int) (z352.K9 (z352.K5 Q)) h := by
   intro j3
   induction j3 with
   | zero =>
    intro h i2 ei hj3 he H
    rw [scanDown] at he
    exact z352.L5_of (y13 (decide_eq_false (by omega)) (endK ei he H))
   | succ j3 ihd =>
    intro h i2 ei hj3 he H
    rw [scanDown] at he
    refine z352.L5_of ((y16 _ _ _).2 ⟨fun e1 => ?_, fun e1 => endK ei ?_ H⟩)
    ·have e1 := of_decide_eq_true e1
     refine lk hs (by omega) H fun t ht => ⟨_, _, _, _, _, ht, ?_⟩
     refine lk hs (by omega) H fun t ht => ⟨_, _, _, _, _, ht, ?_⟩
     refine hc f[j3 + 1]! f[x]! _ _ _ H fun h3 r hr H3 => ⟨_, rfl, ?_⟩
     dsimp only
     rw [hr]
     refine (y16 _ _ _).2 ⟨fun e2 => ?_, fun e2 => endK ei ?_ H3⟩
     ·rw [if_pos (by rw [e2, decide_eq_true (by omega)]; rfl)] at he
      rw [p1 (by omega) (by omega)]
      exact ihd ei (by omega) he H3
     ·rw [if_neg (by rw [e2]; simp)] at he; exact he
    ·have e1 := of_decide_eq_false e1
     rw [if_neg (by rw [decide_eq_false (by omega)]; simp)] at he; exact he
  have upp : ∀ (r i3 : Nat) {h : Heap}, j + 1 ≤ i3 + r → i ≤ i3 → scanUp (fun z => lt z f[x]!) f j i3 = scanUp (fun z => lt z f[x]!) f j i → Hs h (S a n c f :: L) →
    z352.L4 a n c (x : Int) cmp (i3 : Int) (j : Int) (z352.K7 (z352.K5 Q)) h := by
   intro r
   induction r with
   | zero =>
    intro i3 h hr h1 he H
    rw [scanUp, if_neg (by rw [decide_eq_false (by omega)]; simp)] at he
    exact z352.L4_of (y13 (decide_eq_false (by omega)) (z352.L4_X6 (dn j he (Nat.le_refl _) rfl H)))
   | succ r ihu =>
    intro i3 h hr h1 he H
    rw [scanUp] at he
    refine z352.L4_of ((y16 _ _ _).2 ⟨fun e1 => ?_, fun e1 => z352.L4_X6 (dn j ?_ (Nat.le_refl _) rfl H)⟩)
    ·have e1 := of_decide_eq_true e1
     refine lk hs (by omega) H fun t ht => ⟨_, _, _, _, _, ht, ?_⟩
     refine lk hs (by omega) H fun t ht => ⟨_, _, _, _, _, ht, ?_⟩
     refine hc f[i3]! f[x]! _ _ _ H fun h3 r hr H3 => ⟨_, rfl, ?_⟩
     dsimp only
     rw [hr]
     refine (y16 _ _ _).2 ⟨fun e2 => ?_, fun e2 => z352.L4_X6 (dn j ?_ (Nat.le_refl _) rfl H3)⟩
     ·rw [if_pos (by rw [e2, decide_eq_true (by omega)]; rfl)] at he
      rw [w1 (by omega)]
      exact ihu (i3 + 1) (by omega) (by omega) he H3
     ·rw [if_neg (by rw [e2]; simp)] at he; exact he
    ·have e1 := of_decide_eq_false e1
     rw [if_neg (by rw [decide_eq_false (by omega)]; simp)] at he; exact he
  exact upp (j + 1) i (by omega) (Nat.le_refl _) rfl H
 have endK : ∀ {h : Heap} {i2 j2 : Nat}, i2 = scanUp (fun z => lt z e[x]!) e (y - 1) (x + 1) → j2 = scanDown (fun z => !lt z e[x]!) e i2 (y - 1) → Hs h (S a n c e :: L) →
   z352.K2 Q (.exit 2) (z352.X2 a n c (x : Int) cmp (i2 : Int) (j2 : Int)) h := by
  intro h i2 j2 ei ej H
  rw [← ei] at k hi0
  have hd := y92 (p := fun z => !lt z e[x]!) (d := e) (i := i2) (y - 1)
  rw [← ej] at k hd
  refine z352.L2_X2 ((y16 _ _ _).2 ⟨fun e1 => ?_, fun e1 => ?_⟩)
  ·have e1 := of_decide_eq_true e1
   rw [if_pos (by omega)] at k
   exact y75 hs1 (by omega) (by omega) H fun h5 H5 => k h5 H5
  ·have e1 := of_decide_eq_false e1
   rw [if_neg (by omega)] at k
   refine y75 hs1 (by omega) (by omega) H fun h5 H5 => ?_
   dsimp only
   rw [w1 (by omega), p1 (by omega) (by omega)]
   exact later y (i2 + 1) (j2 - 1) (by omega) (by omega) (by omega) (by rw [y62]; exact hs1) k H5
 have dn : ∀ (j3 : Nat) {h : Heap} {i2 : Nat}, i2 = scanUp (fun z => lt z e[x]!) e (y - 1) (x + 1) → j3 ≤ y - 1 → scanDown (fun z => !lt z e[x]!) e i2 j3 = scanDown (fun z => !lt z e[x]!) e i2 (y - 1) → Hs h (S a n c e :: L) →
   z352.L2 a n c (x : Int) cmp (i2 : Int) (j3 : Int) (z352.K2 Q) h := by
  intro j3
  induction j3 with
  | zero =>
   intro h i2 ei hj3 he H
   rw [← ei] at hi0
   rw [scanDown] at he
   exact z352.L2_of (y13 (decide_eq_false (by omega)) (endK ei he H))
  | succ j3 ihd =>
   intro h i2 ei hj3 he H
   have hi1 := hi0
   rw [← ei] at hi1
   rw [scanDown] at he
   refine z352.L2_of ((y16 _ _ _).2 ⟨fun e1 => ?_, fun e1 => endK ei ?_ H⟩)
   ·have e1 := of_decide_eq_true e1
    refine lk hs1 (by omega) H fun t ht => ⟨_, _, _, _, _, ht, ?_⟩
    refine lk hs1 (by omega) H fun t ht => ⟨_, _, _, _, _, ht, ?_⟩
    refine hc e[j3 + 1]! e[x]! _ _ _ H fun h3 r hr H3 => ⟨_, rfl, ?_⟩
    dsimp only
    rw [hr]
    refine (y16 _ _ _).2 ⟨fun e2 => ?_, fun e2 => endK ei ?_ H3⟩
    ·rw [if_pos (by rw [e2, decide_eq_true (by omega)]; rfl)] at he
     rw [p1 (by omega) (by omega)]
     exact ihd ei (by omega) he H3
    ·rw [if_neg (by rw [e2]; simp)] at he; exact he
   ·have e1 := of_decide_eq_false e1
    rw [if_neg (by rw [decide_eq_false (by omega)]; simp)] at he; exact he
 have upp : ∀ (r i3 : Nat) {h : Heap}, y ≤ i3 + r → x + 1 ≤ i3 → scanUp (fun z => lt z e[x]!) e (y - 1) i3 = scanUp (fun z => lt z e[x]!) e (y - 1) (x + 1) → Hs h (S a n c e :: L) →
   z352.L1 a n c (x : Int) cmp (i3 : Int) ((y - 1 : Nat) : Int) (z352.K1 Q) h := by
  intro r
  induction r with
  | zero =>
   intro i3 h hr h1 he H
   rw [scanUp, if_neg (by rw [decide_eq_false (by omega)]; simp)] at he
   exact z352.L1_of (y13 (decide_eq_false (by omega)) (z352.L1_X0 (dn (y - 1) he (Nat.le_refl _) rfl H)))
  | succ r ihu =>
   intro i3 h hr h1 he H
   rw [scanUp] at he
   refine z352.L1_of ((y16 _ _ _).2 ⟨fun e1 => ?_, fun e1 => z352.L1_X0 (dn (y - 1) ?_ (Nat.le_refl _) rfl H)⟩)
   ·have e1 := of_decide_eq_true e1
    refine lk hs1 (by omega) H fun t ht => ⟨_, _, _, _, _, ht, ?_⟩
    refine lk hs1 (by omega) H fun t ht => ⟨_, _, _, _, _, ht, ?_⟩
    refine hc e[i3]! e[x]! _ _ _ H fun h3 r hr H3 => ⟨_, rfl, ?_⟩
    dsimp only
    rw [hr]
    refine (y16 _ _ _).2 ⟨fun e2 => ?_, fun e2 => z352.L1_X0 (dn (y - 1) ?_ (Nat.le_refl _) rfl H3)⟩
    ·rw [if_pos (by rw [e2, decide_eq_true (by omega)]; rfl)] at he
     rw [w1 (by omega)]
     exact ihu (i3 + 1) (by omega) (by omega) he H3
    ·rw [if_neg (by rw [e2]; simp)] at he; exact he
   ·have e1 := of_decide_eq_false e1
    rw [if_neg (by rw [decide_eq_false (by omega)]; simp)] at he; exact he
 exact upp y (x + 1) (by omega) (Nat.le_refl _) rfl H1
theorem y193 (hc : CmpOk cmp lt) {d : Array Wr} {x y p : Nat} (hn : d.size = n) (hxp : x ≤ p) (hpy : p < y) (hxy : x + 1 < y) (hy : y ≤ n) (hmax : n < 2 ^ 59) (H : Hs h (S a n c d :: L))
  (k : ∀ h', Hs h' (S a n c (partitionEqual lt d x y p).2 :: L) → Q (.int .i64 ((partitionEqual lt d x y p).1 : Nat)) h') :
  SpecH PP z357 [.slice a n c, .int .i64 (x : Int), .int .i64 (y : Int), .int .i64 (p : Int), cmp] h Q := by
 refine z356.door ?_
 refine y75 hn (by omega) (by omega) H fun h1 H1 => ?_
 dsimp only
 rw [w1 (by omega), p1 (by omega) (by omega)]
 unfold partitionEqual at k
 have hs1 : (swp d x p).size = n := by rw [y62, hn]
 generalize swp d x p = e at H1 k hs1
 have later : ∀ (m i j : Nat) {h : Heap} {f : Array Wr}, j + 1 ≤ i + m → x + 1 ≤ i → j < y → f.size = n →
   (∀ h', Hs h' (S a n c (partEqLoop lt x i j f).2 :: L) → Q (.int .i64 ((partEqLoop lt x i j f).1 : Nat)) h') → Hs h (S a n c f :: L) →
   z356.L1 a n c (x : Int) cmp (i : Int) (j : Int) (z356.K1 Q) h := by
  intro m
  induction m using Nat.strongRecOn with
  | _ m ihm =>
  intro i j h f hm hxi hj hs kk H
  refine z356.L1_of ?_
  rw [partEqLoop] at kk
  have hu := y121 (p := fun z => !lt f[x]! z) (d := f) (j := j) (j + 1) i (by omega)
  have endK : ∀ {h : Heap} {i2 j2 : Nat}, i2 = scanUp (fun z => !lt f[x]! z) f j i → j2 = scanDown (fun z => lt f[x]! z) f i2 j → Hs h (S a n c f :: L) →
    z356.K5 (z356.K1 Q) (.exit 4) (z356.X4 a n c (x : Int) cmp (i2 : Int) (j2 : Int)) h := by
   intro h i2 j2 ei ej H
   rw [← ei] at kk hu
   have hd := y92 (p := fun z => lt f[x]! z) (d := f) (i := i2) j
   rw [← ej] at kk hd
   refine z356.L3_X4 ((y16 _ _ _).2 ⟨fun e1 => z356.L1_X0 ?_, fun e1 => ?_⟩)
   ·have e1 := of_decide_eq_true e1
    rw [if_pos (by omega)] at kk
    exact kk h H
   ·have e1 := of_decide_eq_false e1
    rw [if_neg (by omega), dif_pos (by omega)] at kk
    refine y75 hs (by omega) (by omega) H fun h5 H5 => ?_
    dsimp only
    rw [w1 (by omega), p1 (by omega) (by omega)]
    exact ihm (j2 - 1 + 1 - (i2 + 1)) (by omega) (i2 + 1) (j2 - 1) (by omega) (by omega) (by omega) (by rw [y62]; exact hs) kk H5
  have dn : ∀ (j3 : Nat) {h : Heap} {i2 : Nat}, i2 = scanUp (fun z => !lt f[x]! z) f j i → j3 ≤ j → scanDown (fun z => lt f[x]! z) f i2 j3 = scanDown (fun z => lt f[x]! z) f i2 j → Hs h (S a n c f :: L) →
    z356.L3 a n c (x : Int) cmp (i2 : Int) (j3 : Int) (z356.K5 (z356.K1 Q)) h := by
   intro j3
   induction j3 with
   | zero =>
    intro h i2 ei hj3 he H
    rw [scanDown] at he
    exact z356.L3_of (y13 (decide_eq_false (by omega)) (endK ei he H))
   | succ j3 ihd =>
    intro h i2 ei hj3 he H
    rw [scanDown] at he
    refine z356.L3_of ((y16 _ _ _).2 ⟨fun e1 => ?_, fun e1 => endK ei ?_ H⟩)
    ·have e1 := of_decide_eq_true e1
     refine lk hs (by omega) H fun t ht => ⟨_, _, _, _, _, ht, ?_⟩
     refine lk hs (by omega) H fun t ht => ⟨_, _, _, _, _, ht, ?_⟩
     refine hc f[x]! f[j3 + 1]! _ _ _ H fun h3 r hr H3 => ⟨_, rfl, ?_⟩
     dsimp only
     rw [hr]
     refine (y16 _ _ _).2 ⟨fun e2 => ?_, fun e2 => endK ei ?_ H3⟩
     ·rw [if_pos (by rw [e2, decide_eq_true (by omega)]; rfl)] at he
      rw [p1 (by omega) (by omega)]
      exact ihd ei (by omega) he H3
     ·rw [if_neg (by rw [e2]; simp)] at he; exact he
    ·have e1 := of_decide_eq_false e1
     rw [if_neg (by rw [decide_eq_false (by omega)]; simp)] at he; exact he
  have upp : ∀ (r i3 : Nat) {h : Heap}, j + 1 ≤ i3 + r → i ≤ i3 → scanUp (fun z => !lt f[x]! z) f j i3 = scanUp (fun z => !lt f[x]! z) f j i → Hs h (S a n c f :: L) →
    z356.L2 a n c (x : Int) cmp (i3 : Int) (j : Int) (z356.K2 (z356.K1 Q)) h := by
   intro r
   induction r with
   | zero =>
    intro i3 h hr h1 he H
    rw [scanUp, if_neg (by rw [decide_eq_false (by omega)]; simp)] at he
    exact z356.L2_of (y13 (decide_eq_false (by omega)) (z356.L2_X2 (dn j he (Nat.le_refl _) rfl H)))
   | succ r ihu =>
    intro i3 h hr h1 he H
    rw [scanUp] at he
    refine z356.L2_of ((y16 _ _ _).2 ⟨fun e1 => ?_, fun e1 => z356.L2_X2 (dn j ?_ (Nat.le_refl _) rfl H)⟩)
    ·have e1 := of_decide_eq_true e1
     refine lk hs (by omega) H fun t ht => ⟨_, _, _, _, _, ht, ?_⟩
     refine lk hs (by omega) H fun t ht => ⟨_, _, _, _, _, ht, ?_⟩
     refine hc f[x]! f[i3]! _ _ _ H fun h3 r hr H3 => ⟨_, rfl, ?_⟩
     dsimp only
     rw [hr]
     refine (y16 _ _ _).2 ⟨fun e2 => ?_, fun e2 => z356.L2_X2 (dn j ?_ (Nat.le_refl _) rfl H3)⟩
     ·rw [if_pos (by rw [e2, decide_eq_true (by omega)]; rfl)] at he
      rw [w1 (by omega)]
      exact ihu (i3 + 1) (by omega) (by omega) he H3
     ·rw [if_neg (by rw [e2]; simp)] at he; exact he
    ·have e1 := of_decide_eq_false e1
     rw [if_neg (by rw [decide_eq_false (by omega)]; simp)] at he; exact he
  exact upp (j + 1) i (by omega) (Nat.le_refl _) rfl H
 exact later y (x + 1) (y - 1) (by omega) (by omega) (by omega) hs1 k H1
end Go.Proofs.YtglcanljknjcfaaGreatDoor.Srtapi_Write

set_option maxRecDepth 20000
namespace Go.Proofs.YtglcanljknjcfaaGreatDoor.Srtapi_Write
open Go Go.HW Go.Sort
variable {h : Heap} {L : List Assn} {Q : Value → Heap → Prop} {a : OA} {n c : Nat} {cmp : Value} {lt : Wr → Wr → Bool}
theorem bits_half {x : Nat} (h : 1 ≤ x) : bitsLen x = bitsLen (x / 2) + 1 := by
 unfold bitsLen
 rw [if_neg (by omega)]
 by_cases e : x = 1
 ·subst e; rfl
 ·rw [if_neg (by omega), Nat.log2_def, if_pos (by omega)]
theorem y142 {x : Nat} : ∀ (k : Nat), 2 ^ k ≤ x → bitsLen x = bitsLen (x / 2 ^ k) + k
 | 0, _ => by simp
 | k + 1, h => by
  have h2 : 2 ^ k * 2 ≤ x := by rw [← Nat.pow_succ]; exact h
  have h3 : 2 ≤ x / 2 ^ k := by rw [Nat.le_div_iff_mul_le (Nat.two_pow_pos k)]; omega
  rw [y142 k (by omega), bits_half (by omega), Nat.div_div_eq_div_mul, ← Nat.pow_succ]
  show bitsLen (x / 2 ^ (k + 1)) + 1 + k = bitsLen (x / 2 ^ (k + 1)) + (k + 1)
  omega
abbrev len8 : ByteArray := ⟨#[0, 1, 2, 2, 3, 3, 3, 3, 4, 4, 4, 4, 4, 4, 4, 4, 5, 5, 5, 5, 5, 5, 5, 5, 5, 5, 5, 5, 5, 5, 5, 5, 6, 6, 6, 6, 6, 6, 6, 6, 6, 6, 6, 6, 6, 6, 6, 6, 6, 6, 6, 6, 6, 6, 6, 6, 6, 6, 6, 6, 6, 6, 6, 6, 7, 7, 7, 7, 7, 7, 7, 7, 7, 7, 7, 7, 7, 7, 7, 7, 7, 7, 7, 7, 7, 7, 7, 7, 7, 7, 7, 7, 7, 7, 7, 7, 7, 7, 7, 7, 7, 7, 7, 7, 7, 7, 7, 7, 7, 7, 7, 7, 7, 7, 7, 7, 7, 7, 7, 7, 7, 7, 7, 7, 7, 7, 7, 7, 8, 8, 8, 8, 8, 8, 8, 8, 8, 8, 8, 8, 8, 8, 8, 8, 8, 8, 8, 8, 8, 8, 8, 8, 8, 8, 8, 8, 8, 8, 8, 8, 8, 8, 8, 8, 8, 8, 8, 8, 8, 8, 8, 8, 8, 8, 8, 8, 8, 8, 8, 8, 8, 8, 8, 8, 8, 8, 8, 8, 8, 8, 8, 8, 8, 8, 8, 8, 8, 8, 8, 8, 8, 8, 8, 8, 8, 8, 8, 8, 8, 8, 8, 8, 8, 8, 8, 8, 8, 8, 8, 8, 8, 8, 8, 8, 8, 8, 8, 8, 8, 8, 8, 8, 8, 8, 8, 8, 8, 8, 8, 8, 8, 8, 8, 8, 8, 8, 8, 8, 8, 8, 8, 8, 8, 8, 8, 8]⟩
theorem len8_ok : ∀ x, x < 256 → (sb len8)[x]? = some (bitsLen x) := by
 have : ∀ x : Fin 256, (sb len8)[x.val]? = some (bitsLen x.val) := by decide +kernel
 exact fun x hx => this ⟨x, hx⟩
theorem Len_hs {x : Nat} (hx : x < 2 ^ 62) (H : Hs h L) (k : ∀ h', Hs h' L → Q (.int .i64 (bitsLen x : Nat)) h') : SpecH PP z271 [.int .u64 x] h Q := by
 refine z270.door (z274.door ?_)
 have J3 : ∀ {y m : Nat}, y < 256 → m ≤ 60 → bitsLen y + m = bitsLen x → z274.J3 (y : Int) (m : Int) (fun v h1 => ∃ (t7 : Int), v = .int .i64 t7 ∧ Q (.int .i64 t7) h1) h := by
  intro y m hy hm e
  refine z274.J3_of ?_
  dsimp only
  rw [wrap_u8_id (a := y) hy]
  have hsz : y < len8.size := hy
  have hv := len8_ok y hy
  have hb : bitsLen y ≤ 8 := by
   have : ∀ z : Fin 256, bitsLen z.val ≤ 8 := by decide +kernel
   exact this ⟨y, hy⟩
  refine hwp_sidx y91 hsz ⟨_, rfl, ?_⟩
  rw [List.getElem?_eq_getElem (by rw [y116]; exact hsz)] at hv
  rw [Option.some.inj hv, y34 (z := (bitsLen y : Nat)) (by omega) (by omega), y34 (by omega) (by omega)]
  refine ⟨_, rfl, ?_⟩
  rw [show (m : Int) + (bitsLen y : Nat) = ((bitsLen x : Nat) : Int) by omega]
  exact k h H
 have J2 : ∀ {y m : Nat}, y < 65536 → m ≤ 50 → bitsLen y + m = bitsLen x → z274.J2 (y : Int) (m : Int) (fun v h1 => ∃ (t7 : Int), v = .int .i64 t7 ∧ Q (.int .i64 t7) h1) h := by
  intro y m hy hm e
  refine z274.J2_of ((y16 _ _ _).2 ⟨fun e1 => ?_, fun e1 => ?_⟩)
  ·have e1 := of_decide_eq_true e1
   dsimp only
   rw [show sShr .u64 (y : Int) 8 = ((y / 2 ^ 8 : Nat) : Int) from shr_u64 (m := 8) (by omega), show IntKind.i64.wrap ((m : Int) + 8) = ((m + 8 : Nat) : Int) by rw [y34 (by omega) (by omega)]; omega]
   exact J3 (by omega) (by omega) (by have := y142 (x := y) 8 (by omega); omega)
  ·have e1 := of_decide_eq_false e1
   exact J3 (by omega) (by omega) e
 have J1 : ∀ {y m : Nat}, y < 4294967296 → m ≤ 32 → bitsLen y + m = bitsLen x → z274.J1 (y : Int) (m : Int) (fun v h1 => ∃ (t7 : Int), v = .int .i64 t7 ∧ Q (.int .i64 t7) h1) h := by
  intro y m hy hm e
  refine z274.J1_of ((y16 _ _ _).2 ⟨fun e1 => ?_, fun e1 => ?_⟩)
  ·have e1 := of_decide_eq_true e1
   dsimp only
   rw [show sShr .u64 (y : Int) 16 = ((y / 2 ^ 16 : Nat) : Int) from shr_u64 (m := 16) (by omega), show IntKind.i64.wrap ((m : Int) + 16) = ((m + 16 : Nat) : Int) by rw [y34 (by omega) (by omega)]; omega]
   exact J2 (by omega) (by omega) (by have := y142 (x := y) 16 (by omega); omega)
  ·have e1 := of_decide_eq_false e1
   exact J2 (by omega) (by omega) e
 refine (y16 _ _ _).2 ⟨fun e1 => ?_, fun e1 => ?_⟩
 ·have e1 := of_decide_eq_true e1
  dsimp only
  rw [show sShr .u64 (x : Int) 32 = ((x / 2 ^ 32 : Nat) : Int) from shr_u64 (m := 32) (by omega)]
  exact J1 (m := 32) (by omega) (by omega) (by have := y142 (x := x) 32 (by omega); omega)
 ·have e1 := of_decide_eq_false e1
  exact J1 (m := 0) (by omega) (by omega) rfl
theorem next_hs {r : UInt64} {rb : Nat} (H : Hs h (pt rb y76 [.int .u64 (r.toNat : Nat)] :: L)) (k : ∀ h', Hs h' (pt rb y76 [.int .u64 ((xorNext r).toNat : Nat)] :: L) → Q (.int .u64 ((xorNext r).toNat : Nat)) h') :
  SpecH PP z371 [.pointer (some ⟨rb, 0, none⟩)] h Q := by
 refine z370.door ?_
 dsimp only [nilc]
 have sh : ∀ (s : UInt64) (m : Nat) (hm : m < 64), (s <<< UInt64.ofNat m).toNat = s.toNat * 2 ^ m % 18446744073709551616 := fun s m hm => by
  rw [UInt64.toNat_shiftLeft, Nat.shiftLeft_eq]
  have : (UInt64.ofNat m).toNat % 64 = m := by simp; omega
  rw [this]
 have sr : ∀ (s : UInt64) (m : Nat) (hm : m < 64), (s >>> UInt64.ofNat m).toNat = s.toNat / 2 ^ m := fun s m hm => by
  rw [UInt64.toNat_shiftRight, Nat.shiftRight_eq_div_pow]
  have : (UInt64.ofNat m).toNat % 64 = m := by simp; omega
  rw [this]
 have lt64 : ∀ s : UInt64, s.toNat < 18446744073709551616 := fun s => s.toNat_lt
 have A : ∀ (s : UInt64), bXor .u64 (s.toNat : Nat) (sShl .u64 (s.toNat : Nat) 13) = (((s ^^^ (s <<< 13)).toNat : Nat) : Int) := fun s => by
  rw [show sShl .u64 (s.toNat : Int) 13 = ((s.toNat * 2 ^ 13 % 18446744073709551616 : Nat) : Int) from shl_u64 (m := 13) (lt64 s), xor_u64 (lt64 s) (Nat.mod_lt _ (by decide)), UInt64.toNat_xor, ← sh s 13 (by decide)]; rfl
 have B : ∀ (s : UInt64), bXor .u64 (s.toNat : Nat) (sShr .u64 (s.toNat : Nat) 7) = (((s ^^^ (s >>> 7)).toNat : Nat) : Int) := fun s => by
  rw [show sShr .u64 (s.toNat : Int) 7 = ((s.toNat / 2 ^ 7 : Nat) : Int) from shr_u64 (m := 7) (lt64 s), xor_u64 (lt64 s) (by have := lt64 s; omega), UInt64.toNat_xor, ← sr s 7 (by decide)]; rfl
 have C : ∀ (s : UInt64), bXor .u64 (s.toNat : Nat) (sShl .u64 (s.toNat : Nat) 17) = (((s ^^^ (s <<< 17)).toNat : Nat) : Int) := fun s => by
  rw [show sShl .u64 (s.toNat : Int) 17 = ((s.toNat * 2 ^ 17 % 18446744073709551616 : Nat) : Int) from shl_u64 (m := 17) (lt64 s), xor_u64 (lt64 s) (Nat.mod_lt _ (by decide)), UInt64.toNat_xor, ← sh s 17 (by decide)]; rfl
 refine ⟨_, H.cell (off := 0) rfl, _, H.cell (off := 0) rfl, H.sto (off := 0) (by simp) fun h1 H1 => ?_⟩
 rw [A r] at H1
 refine ⟨_, H1.cell (off := 0) rfl, _, H1.cell (off := 0) rfl, H1.sto (off := 0) (by simp) fun h2 H2 => ?_⟩
 rw [B] at H2
 refine ⟨_, H2.cell (off := 0) rfl, _, H2.cell (off := 0) rfl, H2.sto (off := 0) (by simp) fun h3 H3 => ⟨_, H3.cell (off := 0) rfl, ?_⟩⟩
 rw [C] at H3 ⊢
 exact k h3 H3
theorem bits_pow {x : Nat} (h : 1 ≤ x) : x < 2 ^ bitsLen x ∧ 2 ^ bitsLen x ≤ 2 * x := by
 unfold bitsLen
 rw [if_neg (by omega)]
 have h1 := Nat.lt_log2_self (n := x)
 have h2 := Nat.log2_self_le (n := x) (by omega)
 rw [Nat.pow_succ] at h1 ⊢
 omega
theorem break_hs {d : Array Wr} {x y : Nat} (hn : d.size = n) (hxy : x ≤ y) (hy : y ≤ n) (hmax : n < 2 ^ 59) (H : Hs h (S a n c d :: L)) (k : ∀ h', Hs h' (S a n c (breakPatterns d x y) :: L) → Q (.tuple #[]) h') :
  SpecH PP z319 [.slice a n c, .int .i64 (x : Int), .int .i64 (y : Int), cmp] h Q := by
 refine z318.door ?_
 dsimp only
 rw [wS hxy (by omega)]
 unfold breakPatterns at k
 dsimp only at k
 generalize hm : y - x = m at k ⊢
 refine (y16 _ _ _).2 ⟨fun e => ?_, fun e => ?_⟩
 ·have e := of_decide_eq_true e
  rw [if_pos (by omega)] at k
  rw [y134 (a := m) (by omega)]
  refine (H.new (t := y76) (cs := #[.int .u64 0]) (xs := [.int .u64 0])).sto (off := 0) (by simp) fun h1 H1 => ?_
  generalize Array.size h = rb at H1 ⊢
  have em : m = (UInt64.ofNat m).toNat := by simp; omega
  refine z340.door ?_
  dsimp only
  rw [y134 (a := m) (by omega)]
  refine Len_hs (by omega) H1 fun h2 H2 => ⟨_, rfl, y22 (decide_eq_true (by omega)) ⟨_, rfl, ?_⟩⟩
  obtain ⟨b1, b2⟩ := bits_pow (x := m) (by omega)
  have hmod : sShl .u64 1 (bitsLen m : Nat) = ((1 <<< bitsLen m : Nat) : Int) := by
   rw [show sShl .u64 1 ((bitsLen m : Nat) : Int) = ((1 * 2 ^ bitsLen m % 18446744073709551616 : Nat) : Int) from shl_u64 (a := 1) (by decide), Nat.shiftLeft_eq, Nat.mod_eq_of_lt (by omega)]
  rw [hmod]
  have hM : 1 <<< bitsLen m = 2 ^ bitsLen m := by rw [Nat.shiftLeft_eq, Nat.one_mul]
  generalize hMM : 1 <<< bitsLen m = M at k hM ⊢
  have q4 : 4 * (m / 4) ≤ m := Nat.mul_div_le _ _
  have t4 : Int.tdiv (m : Int) 4 = ((m / 4 : Nat) : Int) := tdiv_n _ 4
  have tt : IntKind.i64.wrap (IntKind.i64.wrap (Int.tdiv (m : Int) 4) * 2) = ((m / 4 * 2 : Nat) : Int) := by rw [t4, wI (x := ((m / 4 : Nat) : Int)) (by omega) (by omega), wI (by omega) (by omega)]; omega
  rw [tt, wA (by omega), p1 (by omega) (by omega)]
  rw [show (Value.int .u64 (m : Int)) = .int .u64 ((UInt64.ofNat m).toNat : Nat) by rw [← em]] at H2
  have round : ∀ (r : Nat) {h : Heap} {s : UInt64} {f : Array Wr}, 1 ≤ r → r ≤ 3 → (∀ h', Hs h' (S a n c (breakStep x m M (s, f) (x + m / 4 * 2 + 2 - r)).2 :: pt rb y76 [.int .u64 ((breakStep x m M (s, f) (x + m / 4 * 2 + 2 - r)).1.toNat : Nat)] :: L) →
    z318.L1 a n c (x : Int) (m : Int) ⟨rb, 0, none⟩ (M : Int) ((x + m / 4 * 2 + 2 - r + 1 : Nat) : Int) (z318.K1 Q) h') →
    Hs h (S a n c f :: pt rb y76 [.int .u64 (s.toNat : Nat)] :: L) → z318.L1 a n c (x : Int) (m : Int) ⟨rb, 0, none⟩ (M : Int) ((x + m / 4 * 2 + 2 - r : Nat) : Int) (z318.K1 Q) h := by
   intro r h s f hr1 hr kk H
   have hs : f.size = n := by have := H.own_len; rw [y153 phl] at this; simp only [Array.length_toList] at this; omega
   refine z318.L1_of ?_
   dsimp only
   rw [tt, wA (by omega), w1 (by omega)]
   refine y22 (decide_eq_true (by omega)) ?_
   refine next_hs H.m1 fun h1 H1 => ⟨_, rfl, ?_⟩
   unfold breakStep at kk
   dsimp only at kk
   have hx := (xorNext s).toNat_lt
   generalize (xorNext s) = s2 at H1 kk hx ⊢
   have hand : bAnd .u64 (s2.toNat : Nat) (IntKind.u64.wrap ((M : Int) - 1)) = ((s2.toNat &&& (M - 1) : Nat) : Int) := by
    rw [show (M : Int) - 1 = ((M - 1 : Nat) : Int) by omega, y134 (by omega), and_u64 hx (by omega)]
   have hle : s2.toNat &&& (M - 1) ≤ M - 1 := Nat.and_le_right
   rw [hand, wI (by omega) (by omega)]
   generalize s2.toNat &&& (M - 1) = o at kk hle ⊢
   have J : ∀ o2 : Nat, o2 < m → o2 = (if o ≥ m then o - m else o) → z318.J1 a n c (x : Int) (m : Int) ⟨rb, 0, none⟩ (M : Int) ((x + m / 4 * 2 + 2 - r : Nat) : Int) (o2 : Int) (z318.K1 Q) h1 := by
    intro o2 ho eo
    rw [← eo] at kk
    refine z318.J1_of ?_
    dsimp only
    rw [wA (by omega)]
    refine y75 hs (by omega) (by omega) H1.m1 fun h3 H3 => ?_
    rw [w1 (by omega)]
    exact kk h3 H3
   refine (y16 _ _ _).2 ⟨fun e1 => ?_, fun e1 => ?_⟩
   ·have e1 := of_decide_eq_true e1
    rw [wS (by omega) (by omega)]
    exact J (o - m) (by omega) (by rw [if_pos (by omega)])
   ·have e1 := of_decide_eq_false e1
    exact J o (by omega) (by rw [if_neg (by omega)])
  have H2' := H2.m1
  rw [show x + m / 4 * 2 - 1 = x + m / 4 * 2 + 2 - 3 by omega] at k ⊢
  refine round 3 (by omega) (by omega) (fun h3 H3 => ?_) H2'
  rw [show x + m / 4 * 2 + 2 - 3 + 1 = x + m / 4 * 2 + 2 - 2 by omega] at k ⊢
  refine round 2 (by omega) (by omega) (fun h4 H4 => ?_) H3
  rw [show x + m / 4 * 2 + 2 - 2 + 1 = x + m / 4 * 2 + 2 - 1 by omega]
  rw [show x + m / 4 * 2 + 2 - 3 + 2 = x + m / 4 * 2 + 2 - 1 by omega] at k
  refine round 1 (by omega) (by omega) (fun h5 H5 => ?_) H4
  refine z318.L1_of ?_
  dsimp only
  rw [tt, wA (by omega), w1 (by omega)]
  exact y13 (decide_eq_false (by omega)) (z318.L1_X0 (k h5 (H5.m1.tl)))
 ·have e := of_decide_eq_false e
  rw [if_neg (by omega)] at k
  exact k h H
end Go.Proofs.YtglcanljknjcfaaGreatDoor.Srtapi_Write

set_option maxRecDepth 20000
namespace Go.Proofs.YtglcanljknjcfaaGreatDoor.Srtapi_Write
open Go Go.HW Go.Sort
variable {h : Heap} {L : List Assn} {Q : Value → Heap → Prop} {a : OA} {n c : Nat} {cmp : Value} {lt : Wr → Wr → Bool}
theorem S_size {d : Array Wr} (H : Hs h (S a n c d :: L)) : d.size = n := by
 have := H.own_len
 rw [y153 phl] at this
 simp only [Array.length_toList] at this
 omega
def st3 (lt : Wr → Wr → Bool) (d3 : Array Wr) (x y lim : Nat) (wb wp : Bool) (pivot : Nat) : Array Wr :=
 if x > 0 && !lt d3[x - 1]! d3[pivot]! then
  if _h : x < (partitionEqual lt d3 x y pivot).1 ∧ (partitionEqual lt d3 x y pivot).1 ≤ y then pdq lt (partitionEqual lt d3 x y pivot).2 (partitionEqual lt d3 x y pivot).1 y lim wb wp else (partitionEqual lt d3 x y pivot).2
 else
  if _h : x ≤ (Sort.partition lt d3 x y pivot).1 ∧ (Sort.partition lt d3 x y pivot).1 < y then
   if (Sort.partition lt d3 x y pivot).1 - x < y - (Sort.partition lt d3 x y pivot).1 then
    pdq lt (pdq lt (Sort.partition lt d3 x y pivot).2.2 x (Sort.partition lt d3 x y pivot).1 lim true true) ((Sort.partition lt d3 x y pivot).1 + 1) y lim (decide ((Sort.partition lt d3 x y pivot).1 - x ≥ (y - x) / 8)) (Sort.partition lt d3 x y pivot).2.1
   else
    pdq lt (pdq lt (Sort.partition lt d3 x y pivot).2.2 ((Sort.partition lt d3 x y pivot).1 + 1) y lim true true) x (Sort.partition lt d3 x y pivot).1 lim (decide (y - (Sort.partition lt d3 x y pivot).1 ≥ (y - x) / 8)) (Sort.partition lt d3 x y pivot).2.1
  else (Sort.partition lt d3 x y pivot).2.2
def st2 (lt : Wr → Wr → Bool) (d2 : Array Wr) (x y lim : Nat) (wb wp : Bool) (pivot : Nat) (hint : Hint) : Array Wr :=
 let pi := if wb && wp && hint = .increasing then partialInsertionSort lt d2 x y else (d2, false)
 if pi.2 then pi.1 else st3 lt pi.1 x y lim wb wp pivot
def st1 (lt : Wr → Wr → Bool) (d1 : Array Wr) (x y lim : Nat) (wb wp : Bool) : Array Wr :=
 st2 lt (if (choosePivot lt d1 x y).2 = .decreasing then reverseRange d1 x y else d1) x y lim wb wp (if (choosePivot lt d1 x y).2 = .decreasing then (y - 1) - ((choosePivot lt d1 x y).1 - x) else (choosePivot lt d1 x y).1)
  (if (choosePivot lt d1 x y).2 = .decreasing then Hint.increasing else (choosePivot lt d1 x y).2)
theorem pdq_st (d : Array Wr) (x y lim : Nat) (wb wp : Bool) : pdq lt d x y lim wb wp = if y - x ≤ 12 then insertionSort lt d x y else if lim = 0 then heapSort lt d x y else
  st1 lt (if !wb then breakPatterns d x y else d) x y (if !wb then lim - 1 else lim) wb wp := by
 rw [pdq]
 rfl
theorem y166 {p : Wr → Bool} {d : Array Wr} {i : Nat} : ∀ (j : Nat), scanDown p d i j = j ∨ i ≤ scanDown p d i j + 1
 | 0 => .inl rfl
 | j + 1 => by
  rw [scanDown]; split
  ·rename_i e
   have := of_decide_eq_true (Bool.and_eq_true _ _ ▸ e).1
   rcases y166 (p := p) (d := d) (i := i) j with e2 | e2
   ·rw [e2]; exact .inr (by omega)
   ·exact .inr e2
  ·exact .inl rfl
theorem partLoop_in {x y : Nat} : ∀ (m i j : Nat) (f : Array Wr), j + 1 ≤ i + m → x + 1 ≤ i → x ≤ j → j < y → x ≤ (partLoop lt x i j f).1 ∧ (partLoop lt x i j f).1 < y := by
 intro m
 induction m using Nat.strongRecOn with
 | _ m ihm =>
 intro i j f hm hi hj hy
 rw [partLoop]
 have hu := y121 (p := fun z => lt z f[x]!) (d := f) (j := j) (j + 1) i (by omega)
 generalize scanUp (fun z => lt z f[x]!) f j i = i2 at hu ⊢
 have hd := y92 (p := fun z => !lt z f[x]!) (d := f) (i := i2) j
 have hd2 := y166 (p := fun z => !lt z f[x]!) (d := f) (i := i2) j
 generalize scanDown (fun z => !lt z f[x]!) f i2 j = j2 at hd hd2 ⊢
 split
 ·omega
 ·rw [dif_pos (by omega)]
  exact ihm (j2 - 1 + 1 - (i2 + 1)) (by omega) _ _ _ (by omega) (by omega) (by omega) (by omega)
theorem partEqLoop_in {x y : Nat} : ∀ (m i j : Nat) (f : Array Wr), j + 1 ≤ i + m → x + 1 ≤ i → i ≤ y → j < y → x < (partEqLoop lt x i j f).1 ∧ (partEqLoop lt x i j f).1 ≤ y := by
 intro m
 induction m using Nat.strongRecOn with
 | _ m ihm =>
 intro i j f hm hi hiy hy
 rw [partEqLoop]
 have hu := y121 (p := fun z => !lt f[x]! z) (d := f) (j := j) (j + 1) i (by omega)
 generalize scanUp (fun z => !lt f[x]! z) f j i = i2 at hu ⊢
 have hd := y92 (p := fun z => lt f[x]! z) (d := f) (i := i2) j
 generalize scanDown (fun z => lt f[x]! z) f i2 j = j2 at hd ⊢
 split
 ·omega
 ·rw [dif_pos (by omega)]
  exact ihm (j2 - 1 + 1 - (i2 + 1)) (by omega) _ _ _ (by omega) (by omega) (by omega) (by omega)
theorem partition_in {d : Array Wr} {x y p : Nat} (h : x + 1 < y) : x ≤ (Sort.partition lt d x y p).1 ∧ (Sort.partition lt d x y p).1 < y := by
 unfold Sort.partition
 dsimp only
 generalize swp d x p = e
 have hu := y121 (p := fun z => lt z e[x]!) (d := e) (j := y - 1) y (x + 1) (by omega)
 generalize scanUp (fun z => lt z e[x]!) e (y - 1) (x + 1) = i2 at hu ⊢
 have hd := y92 (p := fun z => !lt z e[x]!) (d := e) (i := i2) (y - 1)
 have hd2 := y166 (p := fun z => !lt z e[x]!) (d := e) (i := i2) (y - 1)
 generalize scanDown (fun z => !lt z e[x]!) e i2 (y - 1) = j2 at hd hd2 ⊢
 split
 ·dsimp only; omega
 ·dsimp only
  exact partLoop_in y _ _ _ (by omega) (by omega) (by omega) (by omega)
theorem y194 {d : Array Wr} {x y p : Nat} (h : x + 1 < y) : x < (partitionEqual lt d x y p).1 ∧ (partitionEqual lt d x y p).1 ≤ y := by
 unfold partitionEqual
 exact partEqLoop_in y _ _ _ (by omega) (by omega) (by omega) (by omega)
theorem pdq_loop (hc : CmpOk cmp lt) (hmax : n < 2 ^ 59) : ∀ (m x y lim : Nat) (wb wp : Bool) {h : Heap} {Q : Value → Heap → Prop} {d : Array Wr}, y ≤ x + m → x ≤ y → y ≤ n → lim < 2 ^ 60 → Hs h (S a n c d :: L) → (∀ h', Hs h' (S a n c (pdq lt d x y lim wb wp) :: L) → Q (.tuple #[]) h') →
  z360.L1 a n c (x : Int) (y : Int) (lim : Int) cmp wb wp (z360.K1 Q) h := by
 intro m
 induction m using Nat.strongRecOn with
 | _ m ihm =>
 intro x y lim wb wp h Q d hm hxy hy hlim H k
 have hn := S_size H
 refine z360.L1_of ?_
 dsimp only
 rw [wS hxy (by omega)]
 rw [pdq_st] at k
 refine (y16 _ _ _).2 ⟨fun e => ?_, fun e => ?_⟩
 ·have e := of_decide_eq_true e
  rw [if_pos (by omega)] at k
  exact insertion_hs hc hn hxy hy (by omega) H fun h1 H1 => ⟨rfl, z360.L1_Xret (k h1 H1)⟩
 have e := of_decide_eq_false e
 rw [if_neg (by omega)] at k
 refine (y16 _ _ _).2 ⟨fun e0 => ?_, fun e0 => ?_⟩
 ·have e0 := beq_iff_eq.1 e0
  rw [if_pos (by omega)] at k
  exact heap_hs hc hn (by omega) hy hmax H fun h1 H1 => ⟨rfl, z360.L1_Xret (k h1 H1)⟩
 have e0 := beq_eq_false_iff_ne.1 e0
 rw [if_neg (by omega)] at k
 have J5 : ∀ {h : Heap} {d3 : Array Wr} {lim : Nat} {p : Nat} (b : Bool), x ≤ p → p < y → lim < 2 ^ 60 → (decide (x > 0) && !lt d3[x - 1]! d3[p]!) = b → (∀ h', Hs h' (S a n c (st3 lt d3 x y lim wb wp p) :: L) → Q (.tuple #[]) h') → Hs h (S a n c d3 :: L) →
   z360.J5 a n c (x : Int) (y : Int) (lim : Int) cmp wb wp ((y - x : Nat) : Int) (p : Int) b (z360.K1 Q) h := by
  intro h d3 lim p b hp1 hp2 hlim hb k H
  have hn := S_size H
  unfold st3 at k
  refine z360.J5_of ((y16 _ _ _).2 ⟨fun e1 => ?_, fun e1 => ?_⟩)
  ·subst e1
   rw [if_pos hb] at k
   have hin := y194 (lt := lt) (d := d3) (x := x) (y := y) (p := p) (by omega)
   rw [dif_pos hin] at k
   refine y193 hc hn hp1 hp2 (by omega) hy hmax H fun h1 H1 => ⟨_, rfl, ?_⟩
   generalize partitionEqual lt d3 x y p = r at hin k H1 ⊢
   exact ihm (y - r.1) (by omega) r.1 y lim wb wp (by omega) hin.2 hy hlim H1 k
  ·subst e1
   rw [if_neg (by rw [hb]; simp)] at k
   have hin := partition_in (lt := lt) (d := d3) (x := x) (y := y) (p := p) (by omega)
   rw [dif_pos hin] at k
   refine partition_hs hc hn hp1 hp2 (by omega) hy hmax H fun h1 H1 => ⟨_, _, rfl, ?_⟩
   generalize Sort.partition lt d3 x y p = r at hin k H1 ⊢
   have t8 : Int.tdiv ((y - x : Nat) : Int) 8 = (((y - x) / 8 : Nat) : Int) := tdiv_n _ 8
   dsimp only
   rw [wS hin.1 (by omega), wS (by omega) (by omega), t8, wI (x := (((y - x) / 8 : Nat) : Int)) (by omega) (by omega), w1 (i := r.1) (by omega)]
   refine (y16 _ _ _).2 ⟨fun e2 => ?_, fun e2 => ?_⟩
   ·have e2 := of_decide_eq_true e2
    rw [if_pos (by omega)] at k
    refine z360.door (ihm (r.1 - x) (by omega) x r.1 lim true true (by omega) hin.1 (by omega) hlim H1 fun h2 H2 => ⟨rfl, ?_⟩)
    rw [show decide (((r.1 - x : Nat) : Int) ≥ (((y - x) / 8 : Nat) : Int)) = decide (r.1 - x ≥ (y - x) / 8) from decide_eq_decide.2 (by omega)]
    exact ihm (y - (r.1 + 1)) (by omega) (r.1 + 1) y lim _ _ (by omega) (by omega) hy hlim H2 k
   ·have e2 := of_decide_eq_false e2
    rw [if_neg (by omega)] at k
    refine z360.door (ihm (y - (r.1 + 1)) (by omega) (r.1 + 1) y lim true true (by omega) (by omega) hy hlim H1 fun h2 H2 => ⟨rfl, ?_⟩)
    rw [show decide (((y - r.1 : Nat) : Int) ≥ (((y - x) / 8 : Nat) : Int)) = decide (y - r.1 ≥ (y - x) / 8) from decide_eq_decide.2 (by omega)]
    exact ihm (r.1 - x) (by omega) x r.1 lim _ _ (by omega) hin.1 (by omega) hlim H2 k
 have J4 : ∀ {h : Heap} {d3 : Array Wr} {lim : Nat} {p : Nat}, x ≤ p → p < y → lim < 2 ^ 60 → (∀ h', Hs h' (S a n c (st3 lt d3 x y lim wb wp p) :: L) → Q (.tuple #[]) h') → Hs h (S a n c d3 :: L) →
   z360.J4 a n c (x : Int) (y : Int) (lim : Int) cmp wb wp ((y - x : Nat) : Int) (p : Int) (z360.K1 Q) h := by
  intro h d3 lim p hp1 hp2 hlim k H
  have hn := S_size H
  refine z360.J4_of ((y16 _ _ _).2 ⟨fun e1 => ?_, fun e1 => ?_⟩)
  ·have e1 := of_decide_eq_true e1
   dsimp only
   rw [p1 (by omega) (by omega)]
   refine lk hn (by omega) H fun t ht => ⟨_, _, _, _, _, ht, ?_⟩
   refine lk hn (by omega) H fun t ht => ⟨_, _, _, _, _, ht, ?_⟩
   refine hc d3[x - 1]! d3[p]! _ _ _ H fun h3 r hr H3 => ⟨_, rfl, ?_⟩
   rw [hr]
   exact J5 _ hp1 hp2 hlim (by rw [decide_eq_true (by omega)]; rfl) k H3
  ·have e1 := of_decide_eq_false e1
   exact J5 false hp1 hp2 hlim (by rw [decide_eq_false (by omega)]; rfl) k H
 have J3 : ∀ {h : Heap} {d2 : Array Wr} {lim : Nat} {p : Nat} {hint : Hint} (b : Bool), x ≤ p → p < y → lim < 2 ^ 60 → (wb && wp && decide (hint = .increasing)) = b → (∀ h', Hs h' (S a n c (st2 lt d2 x y lim wb wp p hint) :: L) → Q (.tuple #[]) h') → Hs h (S a n c d2 :: L) →
   z360.J3 a n c (x : Int) (y : Int) (lim : Int) cmp wb wp ((y - x : Nat) : Int) (p : Int) b (z360.K1 Q) h := by
  intro h d2 lim p hint b hp1 hp2 hlim hb k H
  have hn := S_size H
  unfold st2 at k
  dsimp only at k
  refine z360.J3_of ((y16 _ _ _).2 ⟨fun e1 => ?_, fun e1 => ?_⟩)
  ·subst e1
   rw [show (if (wb && wp && decide (hint = .increasing)) = true then partialInsertionSort lt d2 x y else (d2, false)) = partialInsertionSort lt d2 x y from if_pos hb] at k
   refine partialIns_hs hc hn (by omega) hy hmax H fun h1 H1 => ⟨_, rfl, ?_⟩
   generalize partialInsertionSort lt d2 x y = r at k H1 ⊢
   refine (y16 _ _ _).2 ⟨fun e2 => z360.L1_Xret (k h1 ?_), fun e2 => ?_⟩
   ·rw [if_pos e2]; exact H1
   ·rw [if_neg (by rw [e2]; simp)] at k
    exact J4 hp1 hp2 hlim k H1
  ·subst e1
   rw [show (if (wb && wp && decide (hint = .increasing)) = true then partialInsertionSort lt d2 x y else (d2, false)) = (d2, false) from if_neg (by rw [hb]; simp)] at k
   exact J4 hp1 hp2 hlim k H
 have J2 : ∀ {h : Heap} {d2 : Array Wr} {lim : Nat} {p : Nat} {hint : Hint}, x ≤ p → p < y → lim < 2 ^ 60 → (∀ h', Hs h' (S a n c (st2 lt d2 x y lim wb wp p hint) :: L) → Q (.tuple #[]) h') → Hs h (S a n c d2 :: L) →
   z360.J2 a n c (x : Int) (y : Int) (lim : Int) cmp wb wp ((y - x : Nat) : Int) (p : Int) (hintN hint : Nat) (z360.K1 Q) h := by
  intro h d2 lim p hint hp1 hp2 hlim k H
  refine z360.J2_of ?_
  refine (y16 _ _ _).2 ⟨fun e1 => (y16 _ _ _).2 ⟨fun e2 => J3 (hint := hint) _ hp1 hp2 hlim ?_ k H, fun e2 => J3 (hint := hint) _ hp1 hp2 hlim ?_ k H⟩, fun e1 => J3 (hint := hint) _ hp1 hp2 hlim ?_ k H⟩
  ·rw [e1, e2]; cases hint <;> rfl
  ·rw [e1, e2]; rfl
  ·rw [e1]; rfl
 have J1 : ∀ {h : Heap} {d1 : Array Wr} {lim : Nat}, lim < 2 ^ 60 → (∀ h', Hs h' (S a n c (st1 lt d1 x y lim wb wp) :: L) → Q (.tuple #[]) h') → Hs h (S a n c d1 :: L) →
   z360.J1 a n c (x : Int) (y : Int) (lim : Int) cmp wb wp ((y - x : Nat) : Int) (z360.K1 Q) h := by
  intro h d1 lim hlim k H
  have hn := S_size H
  refine z360.J1_of ?_
  have hin := y202 (lt := lt) (d := d1) (x := x) (y := y) (by omega)
  refine y201 hc hn (by omega) hy (by omega) H fun h1 H1 => ⟨_, _, rfl, ?_⟩
  unfold st1 at k
  generalize choosePivot lt d1 x y = r at hin k ⊢
  obtain ⟨p, hint⟩ := r
  dsimp only at hin k ⊢
  refine (y16 _ _ _).2 ⟨fun e1 => ?_, fun e1 => ?_⟩
  ·have e2 : hint = .decreasing := by cases hint <;> first | rfl | (simp [hintN] at e1)
   rw [if_pos e2, if_pos e2, if_pos e2] at k
   refine reverse_hs hn (by omega) hy (by omega) H1 fun h2 H2 => ⟨rfl, ?_⟩
   rw [p1 (by omega) (by omega), wS hin.1 (by omega), wS (by omega) (by omega)]
   exact J2 (hint := .increasing) (by omega) (by omega) hlim k H2
  ·have e2 : hint ≠ .decreasing := by rintro rfl; simp [hintN] at e1
   rw [if_neg e2, if_neg e2, if_neg e2] at k
   exact J2 hin.1 hin.2 hlim k H1
 refine (y16 _ _ _).2 ⟨fun e1 => ?_, fun e1 => ?_⟩
 ·rw [if_pos e1, if_pos e1] at k
  refine break_hs hn hxy hy hmax H fun h1 H1 => ⟨rfl, ?_⟩
  rw [p1 (by omega) (by omega)]
  exact J1 (by omega) k H1
 ·rw [if_neg (by rw [e1]; simp), if_neg (by rw [e1]; simp)] at k
  exact J1 hlim k H
theorem SortFunc_hs (hc : CmpOk cmp lt) (hw : SWO lt) {d : Array Wr} (hmax : n < 2 ^ 59) (H : Hs h (S a n c d :: L)) (k : ∀ h' (e : Array Wr), e.toList.Perm d.toList → (∀ i j, i < j → j < n → lt e[j]! e[i]! = false) → Hs h' (S a n c e :: L) → Q (.tuple #[]) h') :
  SpecH PP z313 [.slice a n c, cmp] h Q := by
 have hn := S_size H
 refine z312.door ?_
 dsimp only
 rw [y134 (by omega)]
 refine Len_hs (by omega) H fun h1 H1 => ⟨_, rfl, ?_⟩
 have hb : bitsLen n < 2 ^ 60 := by
  rcases Nat.eq_zero_or_pos n with rfl | hp
  ·show 0 < _; decide
  ·have := bits_pow hp
   have h2 : bitsLen n < 2 ^ bitsLen n := Nat.lt_two_pow_self
   omega
 refine z360.door ?_
 have hp := pdq_sorts lt hw d 0 n (bitsLen n) true true (by omega) (by omega) (.inl rfl)
 refine pdq_loop hc hmax n 0 n (bitsLen n) true true (by omega) (by omega) (Nat.le_refl _) hb H1 fun h2 H2 => ⟨rfl, ?_⟩
 refine k h2 _ ?_ (fun i j hij hj => hp.2 i j (Nat.zero_le _) hij hj) H2
 have := hp.1.2.2
 have ex : ∀ z : Array Wr, z.size = n → z.extract 0 n = z := fun z hz => by rw [← hz]; exact Array.extract_size
 rw [ex _ (hp.1.1.trans hn), ex d hn] at this
 exact this
end Go.Proofs.YtglcanljknjcfaaGreatDoor.Srtapi_Write

set_option maxRecDepth 20000
namespace Go.Proofs.YtglcanljknjcfaaGreatDoor
open Go Go.HW
variable {h : Heap} {L : List Assn} {Q : Value → Heap → Prop}
structure Ver where
 at_ : Int
 there : Bool
 data : ByteArray
 deriving Inhabited, DecidableEq
def verV (v : Ver) : List Value := [.int .i64 v.at_, .bool v.there, .string v.data]
theorem y167 (v : Ver) : (verV v).length = 3 := rfl
theorem verV_one (v : Ver) : ∀ x ∈ verV v, oneC x = true := by
 intro x hx; simp [verV] at hx; rcases hx with rfl | rfl | rfl <;> rfl
theorem keyV_len (x : Key) : (keyV x).length = 3 := rfl
theorem y126 (v : Key) : ∀ x ∈ keyV v, oneC x = true := by
 intro x hx; simp [keyV] at hx; rcases hx with rfl | rfl | rfl <;> rfl
theorem wrV_len (x : Wr) : (wrV x).length = 5 := rfl
theorem i1 {i : Nat} (h : i < 2 ^ 62) : IntKind.i64.wrap ((i : Int) + 1) = ((i + 1 : Nat) : Int) := by rw [y34 (by omega) (by omega)]; omega
theorem d1 {i : Nat} (h0 : 0 < i) (h : i < 2 ^ 62) : IntKind.i64.wrap ((i : Int) - 1) = ((i - 1 : Nat) : Int) := by rw [y34 (by omega) (by omega)]; omega
structure Ch where
 a : OA
 c : Nat
 vs : List Ver
def chV (x : Ch) : Value := .slice x.a x.vs.length x.c
def chA (x : Ch) : Assn := own x.a x.vs.length x.c y41 3 (x.vs.flatMap verV)
structure CS where
 ch : List (Key × List Ver)
 now : Int
 floor : Int
def absM (m : List (Key × Ch)) : List (Key × List Ver) := m.map fun x => (x.1, x.2.vs)
def storeA (s : Nat) (v : CS) : Assn := fun μ => ∃ (m : List (Key × Ch)) (r : Nat), absM m = v.ch ∧ Sp [pt s y43 [.map (some r), .int .i64 v.now, .int .i64 v.floor], mp keyA chV r m, fam chA m] μ
theorem y96 {s : Nat} {v : CS} : Hs h (storeA s v :: L) ↔ ∃ (m : List (Key × Ch)) (r : Nat), absM m = v.ch ∧ Hs h (pt s y43 [.map (some r), .int .i64 v.now, .int .i64 v.floor] :: mp keyA chV r m :: fam chA m :: L) := by
 unfold storeA
 simp only [Hs.ex, Hs.and, Hs.app, List.cons_append, List.nil_append]
theorem absM_keys (m : List (Key × Ch)) : (absM m).map (·.1) = m.map (·.1) := by unfold absM; rw [List.map_map]; rfl
theorem y165 (m : List (Key × Ch)) (k : Key) : mget (absM m) k = (mget m k).map (·.vs) := by
 induction m with
 | nil => rfl
 | cons x m ih =>
  show mget ((x.1, x.2.vs) :: absM m) k = _
  rw [y50, y50, ih]; split <;> rfl
theorem absM_set (m : List (Key × Ch)) (k : Key) (x : Ch) : absM (mset m k x) = mset (absM m) k x.vs := by
 induction m with
 | nil => rfl
 | cons y m ih =>
  show absM (mset (y :: m) k x) = mset ((y.1, y.2.vs) :: absM m) k x.vs
  rw [mset, mset]
  split
  ·rfl
  ·show (y.1, y.2.vs) :: absM (mset m k x) = _; rw [ih]
theorem ents_congr {α β γ : Type} [DecidableEq α] {κ : α → Value} {ν : β → Value} {ν' : γ → Value} : ∀ {l : List (α × β)} {l' : List (α × γ)} (bs : List Nat), l.map (fun x => (x.1, ν x.2)) = l'.map (fun x => (x.1, ν' x.2)) → entsOf κ ν l bs = entsOf κ ν' l' bs
 | [], [], _, _ => rfl
 | [], _ :: _, _, h => by cases h
 | _ :: _, [], _, h => by cases h
 | x :: l, y :: l', [], _ => rfl
 | x :: l, y :: l', b :: bs, h => by
  simp only [List.map_cons, List.cons.injEq, Prod.mk.injEq] at h
  show (⟨κ x.1, ν x.2, b⟩ : MapEntry) :: entsOf κ ν l bs = ⟨κ y.1, ν' y.2, b⟩ :: entsOf κ ν' l' bs
  rw [ents_congr bs h.2, h.1.1, h.1.2]
theorem mp_congr {α β γ : Type} [DecidableEq α] {κ : α → Value} {ν : β → Value} {ν' : γ → Value} {r : Nat} {l : List (α × β)} {l' : List (α × γ)} (e : l.map (fun x => (x.1, ν x.2)) = l'.map (fun x => (x.1, ν' x.2))) {m : PM} (h : mp κ ν r l m) : mp κ ν' r l' m := by
 obtain ⟨bs, clock, ⟨h1, h2, h3, h4⟩, h5⟩ := h
 have hl : l.length = l'.length := by have := congrArg List.length e; simpa using this
 have hk : l.map (·.1) = l'.map (·.1) := by have := congrArg (List.map (·.1)) e; simpa [Function.comp_def] using this
 exact ⟨bs, clock, ⟨h1.trans hl, h2, h3, hk ▸ h4⟩, by rw [← ents_congr bs e]; exact h5⟩
theorem mset_same {m : List (Key × Ch)} {k : Key} {x y : Ch} (e : mget m k = some x) (he : chV x = chV y) : (mset m k y).map (fun x => (x.1, chV x.2)) = m.map (fun x => (x.1, chV x.2)) := by
 induction m with
 | nil => simp [y133] at e
 | cons z m ih =>
  rw [y50] at e
  rw [mset]
  by_cases hz : z.1 = k
  ·rw [if_pos hz] at e ⊢; cases e; simp [he, hz]
  ·rw [if_neg hz] at e ⊢; simp [ih e]
def mx (a f : Int) : Int := if f > a then f else a
def cnt (vs : List Ver) (t : Int) : Nat := (vs.takeWhile fun v => decide (v.at_ ≤ t)).length
def pick (vs : List Ver) (t : Int) : Option Ver := (vs.takeWhile fun v => decide (v.at_ ≤ t)).getLast?
def getV (vs : List Ver) (t : Int) : ByteArray × Bool := match pick vs t with | some v => if v.there then (v.data, true) else (⟨#[]⟩, false) | none => (⟨#[]⟩, false)
def Rising (vs : List Ver) : Prop := vs.Pairwise fun x y => x.at_ < y.at_
def CS.vs (v : CS) (k : Key) : List Ver := (mget v.ch k).getD []
def CS.get (v : CS) (k : Key) (t : Int) : ByteArray × Bool := getV (v.vs k) (mx t v.floor)
structure CI (v : CS) : Prop where
 keys : (v.ch.map (·.1)).Nodup
 ne : ∀ x ∈ v.ch, x.2 ≠ []
 rise : ∀ x ∈ v.ch, Rising x.2
 now : ∀ x ∈ v.ch, ∀ y ∈ x.2, y.at_ ≤ v.now
 pos : ∀ x ∈ v.ch, ∀ y ∈ x.2, 0 < y.at_
 floor : 0 ≤ v.floor ∧ v.floor ≤ v.now
theorem CS.vs_rise {v : CS} (h : CI v) (k : Key) : Rising (v.vs k) := by
 unfold CS.vs
 cases e : mget v.ch k with
 | none => exact List.Pairwise.nil
 | some x => exact h.rise _ (y87 e)
theorem cnt_of {vs : List Ver} {t : Int} {i : Nat} (hi : i ≤ vs.length) (h1 : ∀ j (hj : j < vs.length), j < i → vs[j].at_ ≤ t) (h2 : ∀ hi : i < vs.length, t < vs[i].at_) : cnt vs t = i := by
 unfold cnt
 induction vs generalizing i with
 | nil => simp at hi; subst hi; rfl
 | cons v vs ih =>
  cases i with
  | zero =>
   have := h2 (by simp)
   rw [List.takeWhile_cons_of_neg]
   ·rfl
   ·simp at this ⊢; omega
  | succ i =>
   have h0 := h1 0 (by simp) (by omega)
   rw [List.takeWhile_cons_of_pos (by simpa using h0), List.length_cons, ih (i := i)]
   ·simpa using hi
   ·intro j hj hji; have := h1 (j + 1) (by simpa using hj) (by omega); simpa using this
   ·intro hi'; have := h2 (by simpa using hi'); simpa using this
theorem cnt_le (vs : List Ver) (t : Int) : cnt vs t ≤ vs.length := by
 unfold cnt; exact (List.takeWhile_sublist _).length_le
theorem pick_none {vs : List Ver} {t : Int} (h : cnt vs t = 0) : pick vs t = none := by
 unfold pick; unfold cnt at h; rw [List.length_eq_zero_iff.1 h]; rfl
theorem pick_some {vs : List Ver} {t : Int} (h : 0 < cnt vs t) : pick vs t = some (vs[cnt vs t - 1]'(by have := cnt_le vs t; omega)) := by
 have hp : vs.takeWhile (fun v => decide (v.at_ ≤ t)) <+: vs := List.takeWhile_prefix _
 unfold pick
 rw [List.getLast?_eq_getElem?]
 have hl : (vs.takeWhile fun v => decide (v.at_ ≤ t)).length = cnt vs t := rfl
 rw [hl, List.getElem?_eq_getElem (by omega)]
 congr 1
 exact hp.getElem _
theorem getV_none {vs : List Ver} {t : Int} (h : cnt vs t = 0) : getV vs t = (⟨#[]⟩, false) := by unfold getV; rw [pick_none h]
theorem getV_some {vs : List Ver} {t : Int} (h : 0 < cnt vs t) : getV vs t = (let v := (vs[cnt vs t - 1]'(by have := cnt_le vs t; omega)); if v.there then (v.data, true) else (⟨#[]⟩, false)) := by unfold getV; rw [pick_some h]
theorem getV_nil (t : Int) : getV [] t = (⟨#[]⟩, false) := rfl
end Go.Proofs.YtglcanljknjcfaaGreatDoor

set_option maxRecDepth 20000
namespace Go.Proofs.YtglcanljknjcfaaGreatDoor
open Go Go.HW
variable {h : Heap} {L : List Assn} {Q : Value → Heap → Prop}
def CS.new : CS := ⟨[], 0, 0⟩
theorem CI.new : CI .new := ⟨by simp [CS.new], by simp [CS.new], by simp [CS.new], by simp [CS.new], by simp [CS.new], by simp [CS.new]⟩
theorem CNew_hs (H : Hs h L) (k : ∀ h' s, Hs h' (storeA s .new :: L) → Q (.pointer (some ⟨s, 0, none⟩)) h') : SpecH PP z209 [] h Q := by
 refine z208.door ?_
 have H1 := (H.fam_new (α := Key) (A := chA)).mp_new (κ := keyA) (ν := chV)
 have H2 := H1.new (t := y43) (cs := #[.map (some (Array.size h)), .int .i64 0, .int .i64 0]) (xs := [.map (some (Array.size h)), .int .i64 0, .int .i64 0])
 exact k _ _ (y96.2 ⟨[], _, rfl, H2⟩)
theorem Now_hs {s : Nat} {v : CS} (H : Hs h (storeA s v :: L)) (k : Q (.int .i64 v.now) h) : SpecH PP z223 [.pointer (some ⟨s, 0, none⟩)] h Q := by
 obtain ⟨m, r, e, H⟩ := y96.1 H
 refine z221.door (y13 rfl ?_)
 exact ⟨_, H.cell (off := 1) rfl, k⟩
theorem newest1_hs {v : Ver} {t : Int} (H : Hs h L) (k : ∀ h', Hs h' L → Q (.int .i64 (if v.at_ ≤ t then -1 else 1)) h') : SpecH PP z237 [.agg (verV v).toArray, .int .i64 t] h Q := by
 refine z236.door ?_
 have H1 := H.new (t := y41) (cs := (verV v).toArray) (xs := verV v)
 refine ⟨_, H1.cell (off := 0) rfl, (y16 _ _ _).2 ⟨fun e => ?_, fun e => ?_⟩⟩
 ·rw [if_pos (of_decide_eq_true e)] at k; exact k _ H1.tl
 ·rw [if_neg (of_decide_eq_false e)] at k; exact k _ H1.tl
theorem bsearch_hs {a : OA} {n c : Nat} {t : Int} {vs : List Ver} (hs : Rising vs) (hn : vs.length = n) (hmax : n < 2 ^ 40) (g : Gv L a (vs.flatMap verV)) (H : Hs h L) (k : ∀ h' b, Hs h' L → Q (.tuple #[.int .i64 (cnt vs t : Nat), .bool b]) h') :
  SpecH PP z289 [.slice a n c, .int .i64 t, .func (.func z237) #[] #[]] h Q := by
 refine z288.door ?_
 have call : ∀ {v : Ver} {h : Heap} {R : VP}, Hs h L → (∀ h', Hs h' L → R (.int .i64 (if v.at_ ≤ t then -1 else 1)) h') → callV PP (.func (.func z237) #[] #[]) [.agg (verV v).toArray, .int .i64 t] R h := by
  intro v h R H k
  refine y152 (by kernel_rfl) ?_
  show SpecH PP z237 [_, _] h R
  exact newest1_hs H k
 have fin : ∀ (i : Nat) {h : Heap}, cnt vs t = i → i ≤ n → Hs h L → z288.K1 Q (.exit 0) (z288.X0 a n c t (.func (.func z237) #[] #[]) (n : Int) (i : Int)) h := by
  intro i h hi hle H
  subst hi
  refine z288.L1_X0 ((y16 _ _ _).2 ⟨fun e => ?_, fun e => k _ _ H⟩)
  have e := of_decide_eq_true e
  refine idxf y84 (φ := verV) (l := vs) (x := vs[cnt vs t]'(by omega)) (g _ H) y167 (by decide) (by omega) (by omega) (by simp) fun t1 ht => ⟨_, _, _, ht, ?_⟩
  exact call H fun h' H' => ⟨_, rfl, k _ _ H'⟩
 have go : ∀ (r i j : Nat) {h : Heap}, j - i ≤ r → i ≤ j → j ≤ n → (∀ x (hx : x < vs.length), x < i → vs[x].at_ ≤ t) → (∀ hj : j < vs.length, t < vs[j].at_) → Hs h L →
   z288.L1 a n c t (.func (.func z237) #[] #[]) (n : Int) (i : Int) (j : Int) (z288.K1 Q) h := by
  intro r
  induction r with
  | zero =>
   intro i j h hr hij hj h1 h2 H
   have : i = j := by omega
   subst this
   refine z288.L1_of (y13 (decide_eq_false (by omega)) (fin i (cnt_of (by omega) h1 h2) hj H))
  | succ r ih =>
   intro i j h hr hij hj h1 h2 H
   rcases Nat.lt_or_ge i j with hlt | hge
   ·refine z288.L1_of (y22 (decide_eq_true (by omega)) ?_)
    dsimp only
    have em : IntKind.i64.wrap (sShr .u64 (IntKind.u64.wrap (IntKind.i64.wrap ((i : Int) + (j : Int)))) 1) = (((i + j) / 2 : Nat) : Int) := by
     rw [show ((i : Int) + (j : Int)) = ((i + j : Nat) : Int) by omega, y34 (z := ((i + j : Nat) : Int)) (by omega) (by omega), y134 (by omega), show (1 : Int) = ((1 : Nat) : Int) from rfl, shr_u64 (a := i + j) (m := 1) (by omega), y34 (by omega) (by omega)]
    rw [em]
    have hm : (i + j) / 2 < vs.length := by omega
    refine idxf y84 (φ := verV) (l := vs) (x := vs[(i + j) / 2]) (g _ H) y167 (by decide) (by omega) (by omega) (by rw [Int.toNat_natCast]; simp) fun t1 ht => ⟨_, _, _, ht, ?_⟩
    refine call H fun h' H' => ⟨_, rfl, ?_⟩
    have hr2 := List.pairwise_iff_getElem.1 hs
    by_cases e : vs[(i + j) / 2].at_ ≤ t
    ·rw [if_pos e]
     refine y22 (by decide) ?_
     rw [i1 (by omega)]
     refine ih ((i + j) / 2 + 1) j (by omega) (by omega) hj (fun x hx hxi => ?_) h2 H'
     rcases Nat.lt_or_ge x ((i + j) / 2) with q | q
     ·have := hr2 x ((i + j) / 2) hx hm q; omega
     ·have : x = (i + j) / 2 := by omega
      subst this; exact e
    ·rw [if_neg e]
     refine y13 (by decide) ?_
     exact ih i ((i + j) / 2) (by omega) (by omega) (by omega) h1 (fun _ => by omega) H'
   ·have : i = j := by omega
    subst this
    refine z288.L1_of (y13 (decide_eq_false (by omega)) (fin i (cnt_of (by omega) h1 h2) hj H))
 exact go n 0 n (by omega) (by omega) (by omega) (fun x hx h0 => by omega) (fun hj => by omega) H
theorem newest_hs {s : Nat} {a : OA} {n c : Nat} {t now floor : Int} {r : Value} {vs : List Ver} (hs : Rising vs) (hn : vs.length = n) (hmax : n < 2 ^ 40) (g : Gv (pt s y43 [r, .int .i64 now, .int .i64 floor] :: L) a (vs.flatMap verV))
  (H : Hs h (pt s y43 [r, .int .i64 now, .int .i64 floor] :: L)) (k : ∀ h', Hs h' (pt s y43 [r, .int .i64 now, .int .i64 floor] :: L) → Q (.int .i64 (cnt vs (mx t floor) : Nat)) h') :
  SpecH PP z235 [.pointer (some ⟨s, 0, none⟩), .slice a n c, .int .i64 t] h Q := by
 refine z234.door ⟨_, H.cell (off := 2) rfl, ?_⟩
 exact bsearch_hs (t := mx t floor) hs hn hmax g H fun h' b H' => ⟨_, _, rfl, k _ H'⟩
theorem zCh : (PP.info? y19).bind (·.zero) = some (.slice none 0 0) := by kernel_rfl
theorem y163 {x : Nat} : ∀ {l : List Nat}, x ∈ l → x ≤ l.sum
 | y :: l, h => by
  rw [List.sum_cons]
  rcases List.mem_cons.1 h with rfl | h
  ·omega
  ·have := y163 h; omega
theorem sum_small {v : CS} {k : Key} {x : List Ver} (hb : (v.ch.map (fun x => x.2.length)).sum < 2 ^ 40) (e : mget v.ch k = some x) : x.length < 2 ^ 40 := by
 have := y163 (l := v.ch.map (fun x => x.2.length)) (List.mem_map_of_mem (f := fun x => x.2.length) (y87 e))
 simp only at this; omega
def CS.total (v : CS) : Nat := (v.ch.map (fun x => x.2.length)).sum
theorem GetX_hs {s r : Nat} {v : CS} {m : List (Key × Ch)} {X : Assn} {k : Key} {t : Int} (hX : ∀ {h : Heap} {M : List Assn}, Hs h (X :: M) → Hs h (mp keyA chV r m :: M)) (em : absM m = v.ch) (hv : CI v) (hb : v.total < 2 ^ 40) (H : Hs h (pt s y43 [.map (some r), .int .i64 v.now, .int .i64 v.floor] :: X :: fam chA m :: L))
  (kk : ∀ h', Hs h' (pt s y43 [.map (some r), .int .i64 v.now, .int .i64 v.floor] :: X :: fam chA m :: L) → Q (.tuple #[.string (v.get k t).1, .bool (v.get k t).2]) h') :
  SpecH PP z215 [.pointer (some ⟨s, 0, none⟩), keyA k, .int .i64 t] h Q := by
 refine z214.door ?_
 dsimp only
 have H0 := H.new (t := y23) (cs := (keyV k).toArray) (xs := keyV k)
 refine y13 rfl ?_
 have hnd : (m.map (·.1)).Nodup := by rw [← absM_keys, em]; exact hv.keys
 refine ⟨_, H0.m1.cell (off := 0) rfl, _, _, _, H0.rdc0, ?_⟩
 refine (hX H0.m2).lookup1 (t := y17) y73 KeyK zCh k ?_
 unfold CS.get CS.vs at kk
 rw [← em, y165] at kk
 have H1 := H0.tl
 cases e : mget m k with
 | none =>
  rw [e] at kk
  refine ⟨_, _, _, rfl, ?_⟩
  refine newest_hs (vs := []) List.Pairwise.nil rfl (by omega) (fun h H => Rd.nil _ _) H1 fun h2 H2 => ⟨_, rfl, ?_⟩
  refine y22 rfl (z214.J1_of (y22 rfl ?_))
  exact kk h2 H2
 | some x =>
  rw [e] at kk
  have hx : mget v.ch k = some x.vs := by rw [← em, y165, e]; rfl
  have hsm := sum_small (v := v) hb hx
  have hrs : Rising x.vs := hv.rise _ (y87 hx)
  refine ⟨_, _, _, rfl, ?_⟩
  have H2 := (H1.m2.fam_take hnd e).m2
  have back : ∀ {h' : Heap}, Hs h' (pt s y43 [.map (some r), .int .i64 v.now, .int .i64 v.floor] :: chA x :: fam chA (mdel m k) :: X :: L) → Hs h' (pt s y43 [.map (some r), .int .i64 v.now, .int .i64 v.floor] :: X :: fam chA m :: L) := fun H => (H.r2.fam_back hnd e).r2
  have g : Gv (pt s y43 [.map (some r), .int .i64 v.now, .int .i64 v.floor] :: chA x :: fam chA (mdel m k) :: X :: L) x.a (x.vs.flatMap verV) := Gv.cons (Gv.own)
  refine newest_hs hrs rfl hsm g H2 fun h2 H2 => ⟨_, rfl, ?_⟩
  have hle := cnt_le x.vs (mx t v.floor)
  rcases Nat.eq_zero_or_pos (cnt x.vs (mx t v.floor)) with q | q
  ·refine y22 (by rw [q]; rfl) (z214.J1_of (y22 rfl ?_))
   have := kk h2 (back H2)
   rw [show getV ((some x).map (·.vs) |>.getD []) (mx t v.floor) = _ from getV_none q] at this
   exact this
  ·refine y13 (beq_eq_false_iff_ne.2 (by omega)) ?_
   have hk := kk h2 (back H2)
   rw [show getV ((some x).map (·.vs) |>.getD []) (mx t v.floor) = _ from getV_some q] at hk
   rw [d1 q (by omega)]
   refine idxf y84 (φ := verV) (l := x.vs) (x := x.vs[cnt x.vs (mx t v.floor) - 1]) (g _ H2) y167 (by decide) (by omega) (by omega) (by rw [Int.toNat_natCast]; simp) fun t1 ht => ⟨_, ht.2.1, ?_⟩
   cases e3 : (x.vs[cnt x.vs (mx t v.floor) - 1]).there with
   | false =>
    rw [if_neg (by rw [e3]; simp)] at hk
    exact z214.J1_of (y22 rfl hk)
   | true =>
    rw [if_pos e3] at hk
    refine z214.J1_of (y13 rfl ?_)
    dsimp only
    rw [d1 q (by omega)]
    exact idxf y84 (φ := verV) (l := x.vs) (x := x.vs[cnt x.vs (mx t v.floor) - 1]) (g _ H2) y167 (by decide) (by omega) (by omega) (by rw [Int.toNat_natCast]; simp) fun t1 ht => ⟨_, ht.2.2.1, hk⟩
theorem Get_hs {s : Nat} {v : CS} {k : Key} {t : Int} (hv : CI v) (hb : v.total < 2 ^ 40) (H : Hs h (storeA s v :: L)) (kk : ∀ h', Hs h' (storeA s v :: L) → Q (.tuple #[.string (v.get k t).1, .bool (v.get k t).2]) h') :
  SpecH PP z215 [.pointer (some ⟨s, 0, none⟩), keyA k, .int .i64 t] h Q := by
 obtain ⟨m, r, em, H⟩ := y96.1 H
 exact GetX_hs (X := mp keyA chV r m) id em hv hb H fun h' H' => kk h' (y96.2 ⟨m, r, em, H'⟩)
end Go.Proofs.YtglcanljknjcfaaGreatDoor

set_option maxRecDepth 20000
namespace Go.Proofs.YtglcanljknjcfaaGreatDoor
open Go Go.HW
variable {h : Heap} {L : List Assn} {Q : Value → Heap → Prop}
theorem klt_swo : Sort.SWO klt := ⟨fun x => y109 _, fun x y z => y175, fun x y z => klt_ntrans⟩
def KRise (l : List Key) : Prop := l.Pairwise fun x y => klt x y = true
theorem krise_uniq : ∀ {l m : List Key}, KRise l → KRise m → (∀ k, k ∈ l ↔ k ∈ m) → l = m
 | [], [], _, _, _ => rfl
 | [], y :: m, _, _, p => by have := (p y).2 (List.mem_cons_self ..); cases this
 | x :: l, [], _, _, p => by have := (p x).1 (List.mem_cons_self ..); cases this
 | x :: l, y :: m, h1, h2, p => by
  have h1' := List.pairwise_cons.1 h1
  have h2' := List.pairwise_cons.1 h2
  have nx : x ∉ l := fun q => by have := h1'.1 x q; rw [y109] at this; cases this
  have ny : y ∉ m := fun q => by have := h2'.1 y q; rw [y109] at this; cases this
  have e : x = y := by
   by_cases e : x = y
   ·exact e
   have hx : x ∈ y :: m := (p x).1 (List.mem_cons_self ..)
   have hy : y ∈ x :: l := (p y).2 (List.mem_cons_self ..)
   rcases List.mem_cons.1 hx with q | q
   ·exact absurd q e
   rcases List.mem_cons.1 hy with q2 | q2
   ·exact absurd q2.symm e
   have a := h2'.1 x q
   have b := h1'.1 y q2
   rw [klt_asymm a] at b; cases b
  subst e
  rw [krise_uniq h1'.2 h2'.2 fun k => ?_]
  have := p k
  rw [List.mem_cons, List.mem_cons] at this
  by_cases hk : k = x
  ·subst hk; simp [nx, ny]
  ·simpa [hk] using this
structure KeysOf (g : Key → Bool) (ks : List Key) : Prop where
 rise : KRise ks
 mem : ∀ k, k ∈ ks ↔ g k = true
theorem KeysOf.uniq {g : Key → Bool} {l m : List Key} (a : KeysOf g l) (b : KeysOf g m) : l = m := krise_uniq a.rise b.rise fun k => (a.mem k).trans (b.mem k).symm
theorem kcmp_ok : Srtapi_Key.CmpOk (.func (.func z233) #[] #[]) klt := by
 intro x y M h R H k
 refine y152 (by kernel_rfl) ?_
 show SpecH PP z233 [_, _] h R
 refine z232.door ?_
 dsimp only
 have H1 := H.new (t := y23) (cs := (keyV x).toArray) (xs := keyV x)
 have H2 := H1.new (t := y23) (cs := (keyV y).toArray) (xs := keyV y)
 refine ⟨_, H2.m1.cell (off := 0) rfl, _, H2.cell (off := 0) rfl, _, y171 _ _, _, rfl, _, H2.m1.cell (off := 1) rfl, _, H2.cell (off := 1) rfl, _, y171 _ _, _, rfl, _, H2.m1.cell (off := 2) rfl, _, H2.cell (off := 2) rfl, _, y171 _ _, _, rfl, ?_⟩
 refine or_hs (H2.tl.tl.new (xs := [.int .i64 (cmpI x.t y.t), .int .i64 (cmpI x.a y.a), .int .i64 (cmpI x.e y.e)])) fun h4 H4 => ⟨_, rfl, k h4 _ ?_ H4⟩
 exact cmp3 x y
theorem key_app {l : List Key} {a : OA} {c : Nat} {w : Key} {h : Heap} {K : VP} (hs : l.length ≤ 2 ^ 40) (H : Hs h (own a l.length c y23 3 (l.flatMap keyV) :: L))
  (k : ∀ h' a' c', Hs h' (own a' (l ++ [w]).length c' y23 3 ((l ++ [w]).flatMap keyV) :: L) → K (.slice a' (l ++ [w]).length c') h') :
  hwp PP (Builtin.append_ #[y14, y14] y14 #[.slice a l.length c, .slice (some ⟨Array.size h, 0, none⟩) 1 1]) K (Array.push h (.cells (keyV w).toArray y23 (0, 0))) := by
 refine H.app_vals y169 (m := 1) (ys := keyV w) rfl rfl (y126 w) (fun h' a' c' H' => ?_) (by omega) (by omega)
 have e : l.flatMap keyV ++ keyV w = (l ++ [w]).flatMap keyV := by simp
 rw [e] at H'
 have := k h' a' c'
 rw [List.length_append] at this
 exact this H'
theorem str_app {l : List ByteArray} {a : OA} {c : Nat} {w : ByteArray} {h : Heap} {K : VP} (hs : l.length ≤ 2 ^ 40) (H : Hs h (own a l.length c y29 1 (l.map Value.string) :: L))
  (k : ∀ h' a' c', Hs h' (own a' (l ++ [w]).length c' y29 1 ((l ++ [w]).map Value.string) :: L) → K (.slice a' (l ++ [w]).length c') h') :
  hwp PP (Builtin.append_ #[y78, y78] y78 #[.slice a l.length c, .slice (some ⟨Array.size h, 0, none⟩) 1 1]) K (Array.push h (.cells #[.string w] y29 (0, 0))) := by
 refine H.app_vals y181 (m := 1) (ys := [.string w]) rfl rfl (by simp [oneC]) (fun h' a' c' H' => ?_) (by omega) (by omega)
 have e : l.map Value.string ++ [.string w] = (l ++ [w]).map Value.string := by simp
 rw [e] at H'
 have := k h' a' c'
 rw [List.length_append] at this
 exact this H'
theorem nodup_snoc {α : Type} {l : List α} {x : α} (h : l.Nodup) (hx : x ∉ l) : (l ++ [x]).Nodup :=
 List.nodup_append.2 ⟨h, by simp, fun a ha b hb e => by rw [List.mem_singleton.1 hb] at e; exact hx (e ▸ ha)⟩
theorem y144 {α : Type} [DecidableEq α] : ∀ {l m : List α}, l.Nodup → (∀ k ∈ l, k ∈ m) → l.length ≤ m.length
 | [], _, _, _ => Nat.zero_le _
 | x :: l, m, h, hs => by
  have hc := List.nodup_cons.1 h
  have hx := hs x (List.mem_cons_self ..)
  have := y144 (l := l) (m := m.erase x) hc.2 fun k hk => by
   have hne : k ≠ x := fun e => hc.1 (e ▸ hk)
   exact (List.mem_erase_of_ne hne).2 (hs k (List.mem_cons_of_mem _ hk))
  rw [List.length_erase_of_mem hx] at this
  have := List.length_pos_of_mem hx
  rw [List.length_cons]; omega
theorem get_mem {v : CS} {k : Key} {t : Int} (h : (v.get k t).2 = true) : k ∈ v.ch.map (·.1) := by
 unfold CS.get CS.vs at h
 cases e : mget v.ch k with
 | none => rw [e] at h; simp [getV_nil] at h
 | some x => exact List.mem_map.2 ⟨_, y87 e, rfl⟩
theorem total_ge {v : CS} (hv : CI v) : v.ch.length ≤ v.total := by
 have : ∀ l : List (Key × List Ver), (∀ x ∈ l, x.2 ≠ []) → l.length ≤ (l.map fun x => x.2.length).sum := by
  intro l
  induction l with
  | nil => intro _; simp
  | cons x l ih =>
   intro h
   have h1 := ih fun y hy => h y (List.mem_cons_of_mem _ hy)
   have h2 := List.length_pos_iff.2 (h x (List.mem_cons_self ..))
   simp; omega
 exact this _ hv.ne
theorem keys_hs {s : Nat} {v : CS} {t : Int} {wanted : Value} (g : Key → Bool) (hw : ∀ (k : Key) (M : List Assn) (h : Heap) (R : VP), Hs h (M ++ L) → (∀ h', Hs h' (M ++ L) → R (.bool (g k)) h') → callV PP wanted [keyA k] R h)
  (hv : CI v) (hb : v.total < 2 ^ 40) (H : Hs h (storeA s v :: L)) (kk : ∀ h' a c ks, KeysOf (fun k => (v.get k t).2 && g k) ks → ks.length ≤ v.total → Hs h' (own a ks.length c y23 3 (ks.flatMap keyV) :: storeA s v :: L) → Q (.slice a ks.length c) h') :
  SpecH PP z231 [.pointer (some ⟨s, 0, none⟩), .int .i64 t, wanted] h Q := by
 obtain ⟨m, r, em, H⟩ := y96.1 H
 refine z230.door (y13 rfl ?_)
 refine ⟨_, H.cell (off := 0) rfl, ?_⟩
 refine H.m1.ranges (t := y17) y73 fun h1 i H1 => ⟨_, rfl, ?_⟩
 have hmk : m.map (·.1) = v.ch.map (·.1) := by rw [← em, absM_keys]
 have hml : m.length ≤ v.total := by have := total_ge hv; have := congrArg List.length hmk; simp at this; omega
 have hmn : (m.map (·.1)).Nodup := by rw [hmk]; exact hv.keys
 have fin : ∀ {h : Heap} {told ks : List Key} {a : OA} {c : Nat}, (∀ x ∈ m, x.1 ∈ told) → ks.length ≤ m.length → ks.Nodup → (∀ k, k ∈ ks ↔ k ∈ told ∧ ((v.get k t).2 && g k) = true) →
   Hs h (own a ks.length c y23 3 (ks.flatMap keyV) :: rgs keyA chV r i m told :: pt s y43 [.map (some r), .int .i64 v.now, .int .i64 v.floor] :: fam chA m :: L) →
   z230.K1 Q (.exit 0) (z230.X0 a ks.length c) h := by
  intro h told ks a c hall hkl hkd hks H
  refine z230.L1_X0 ?_
  have hsz : (ks.toArray).size = ks.length := by simp
  have H2 : Hs h (Srtapi_Key.S a ks.length c ks.toArray :: rgs keyA chV r i m told :: pt s y43 [.map (some r), .int .i64 v.now, .int .i64 v.floor] :: fam chA m :: L) := H
  refine Srtapi_Key.SortFunc_hs kcmp_ok klt_swo (by omega) H2 fun h3 e pe he H3 => ⟨rfl, ?_⟩
  have hn := Srtapi_Key.S_size H3
  have hel : e.toList.length = ks.length := by rw [Array.length_toList, hn]
  have pe : e.toList.Perm ks := pe
  have := kk h3 a c e.toList ⟨?_, fun k => ?_⟩ (by omega)
  ·rw [hel] at this
   refine this ?_
   have H4 := H3.m1.rgs_mp
   exact (y96.2 ⟨m, r, em, H4.m2.m3.r2⟩).m1
  ·unfold KRise
   rw [List.pairwise_iff_getElem]
   intro i j hi hj hij
   have := he i j hij (by rw [hel] at hj; exact hj)
   rw [getElem!_pos e j (by omega), getElem!_pos e i (by omega)] at this
   have hne : e.toList[i] ≠ e.toList[j] := List.pairwise_iff_getElem.1 (pe.nodup_iff.2 hkd) i j hi hj hij
   cases q : klt e.toList[i] e.toList[j] with
   | true => rfl
   | false => exact absurd (klt_tri q (by simpa using this)) hne
  ·rw [pe.mem_iff, hks k]
   constructor
   ·exact fun q => q.2
   ·intro q
    refine ⟨?_, q⟩
    have hm := get_mem (by rw [Bool.and_eq_true] at q; exact q.1)
    rw [← hmk] at hm
    obtain ⟨x, hx, rfl⟩ := List.mem_map.1 hm
    exact hall x hx
 have go : ∀ (n : Nat) {h : Heap} {told ks : List Key} {a : OA} {c : Nat}, m.length - told.length ≤ n → ks.length ≤ told.length → told.Nodup → (∀ k ∈ told, k ∈ m.map (·.1)) → ks.Nodup → (∀ k, k ∈ ks ↔ k ∈ told ∧ ((v.get k t).2 && g k) = true) →
   Hs h (own a ks.length c y23 3 (ks.flatMap keyV) :: rgs keyA chV r i m told :: pt s y43 [.map (some r), .int .i64 v.now, .int .i64 v.floor] :: fam chA m :: L) →
   z230.L1 (some ⟨s, 0, none⟩) t wanted a ks.length c (.pointer (some ⟨i, 0, none⟩)) (z230.K1 Q) h := by
  intro n
  induction n with
  | zero =>
   intro h told ks a c hn hkt hnd hsub hkd hks H
   have htl := y144 hnd hsub
   rw [List.length_map] at htl
   refine z230.L1_of (H.m1.nexts (fun e => ⟨false, [], rfl, y13 rfl (fin e (by omega) hkd hks H)⟩) (fun h' x hx hnx _ => ?_))
   have := y144 (l := told ++ [x.1]) (m := m.map (·.1)) (nodup_snoc hnd hnx) (fun k hk => by
    rcases List.mem_append.1 hk with hk | hk
    ·exact hsub k hk
    ·rw [List.mem_singleton.1 hk]; exact List.mem_map_of_mem hx)
   simp at this; omega
  | succ n ih =>
   intro h told ks a c hn hkt hnd hsub hkd hks H
   have htl := y144 hnd hsub
   rw [List.length_map] at htl
   refine z230.L1_of (H.m1.nexts (fun e => ⟨false, [], rfl, y13 rfl (fin e (by omega) hkd hks H)⟩) (fun h' x hx hnx H2 => ⟨true, [keyA x.1, chV x.2], rfl, y22 rfl ?_⟩))
   have hnd' := nodup_snoc hnd hnx
   have hsub' : ∀ k ∈ told ++ [x.1], k ∈ m.map (·.1) := fun k hk => by
    rcases List.mem_append.1 hk with hk | hk
    ·exact hsub k hk
    ·rw [List.mem_singleton.1 hk]; exact List.mem_map_of_mem hx
   have hlt := y144 hnd' hsub'
   rw [List.length_append, List.length_map, List.length_singleton] at hlt
   refine H2.entrys (y105 hmn hx) ⟨_, _, rfl, _, _, _, rfl, ?_⟩
   dsimp only
   refine Hs.wrs (b := Array.size h') (xs := [.string ⟨#[]⟩, .string ⟨#[]⟩, .string ⟨#[]⟩]) H2.new (fun h3 H3 => ⟨_, _, _, H3.rdc0, ?_⟩)
   generalize Array.size h' = k8 at H3 ⊢
   refine GetX_hs (k := x.1) (X := rgs keyA chV r i m (told ++ [x.1])) (fun H => H.rgs_mp) em hv hb H3.m4.m2.m4 fun h4 H4 => ⟨_, _, rfl, ?_⟩
   have no : ((v.get x.1 t).2 && g x.1) = false → ∀ k, k ∈ ks ↔ k ∈ told ++ [x.1] ∧ ((v.get k t).2 && g k) = true := by
    intro e k
    rw [hks k, List.mem_append, List.mem_singleton]
    exact ⟨fun q => ⟨.inl q.1, q.2⟩, fun q => ⟨q.1.resolve_right (fun e2 => by rw [e2, e] at q; exact absurd q.2 (by simp)), q.2⟩⟩
   refine (y16 _ _ _).2 ⟨fun e => ⟨_, _, _, H4.m3.rdc0, hw x.1 [_, _, _, _, _] h4 _ H4 fun h5 H5 => ⟨_, rfl, z230.J1_of ((y16 _ _ _).2 ⟨fun e2 => ⟨_, _, _, Hs.rdc0 (Hs.m3 H5), ?_⟩, fun e2 => ?_⟩)⟩⟩, fun e => z230.J1_of (y13 rfl ?_)⟩
   ·have H5 : Hs h5 (pt s y43 [.map (some r), .int .i64 v.now, .int .i64 v.floor] :: rgs keyA chV r i m (told ++ [x.1]) :: fam chA m :: pt k8 y23 (keyV x.1) :: own a ks.length c y23 3 (ks.flatMap keyV) :: L) := H5
    refine key_app (w := x.1) (by omega) H5.m4 fun h6 a' c' H6 => ⟨_, _, _, rfl, ?_⟩
    refine ih (told := told ++ [x.1]) (ks := ks ++ [x.1]) (by simp; omega) (by simp; omega) hnd' hsub' (nodup_snoc hkd fun q => hnx ((hks _).1 q).1) (fun k => ?_) H6.m4.tl.m2.m1
    rw [List.mem_append, List.mem_append, hks k, List.mem_singleton]
    constructor
    ·rintro (q | q)
     ·exact ⟨.inl q.1, q.2⟩
     ·subst q; exact ⟨.inr rfl, by rw [e, e2]; rfl⟩
    ·rintro ⟨q | q, q2⟩
     ·exact .inl ⟨q, q2⟩
     ·exact .inr q
   ·have H5 : Hs h5 (pt s y43 [.map (some r), .int .i64 v.now, .int .i64 v.floor] :: rgs keyA chV r i m (told ++ [x.1]) :: fam chA m :: pt k8 y23 (keyV x.1) :: own a ks.length c y23 3 (ks.flatMap keyV) :: L) := H5
    exact ih (told := told ++ [x.1]) (by simp; omega) (by simp; omega) hnd' hsub' hkd (no (by rw [e2, Bool.and_false])) H5.m4.m4.tl.m2.m1
   ·exact ih (told := told ++ [x.1]) (by simp; omega) (by simp; omega) hnd' hsub' hkd (no (by rw [e, Bool.false_and])) H4.m4.m4.tl.m2.m1
 have := go m.length (told := []) (ks := []) (a := none) (c := 0) (by simp) (by simp) (by simp) (by simp) (by simp) (by simp) (H1.own_nil y23 3)
 exact this
theorem CList_hs {s : Nat} {v : CS} {t : Int} {b : Bx} (hv : CI v) (hb : v.total < 2 ^ 40) (H : Hs h (storeA s v :: L)) (kk : ∀ h' a c ks, KeysOf (fun k => (v.get k t).2 && (decide (k.t = b.t) && decide (k.a = b.a))) ks → ks.length ≤ v.total → Hs h' (own a ks.length c y29 1 (ks.map fun k => .string k.e) :: storeA s v :: L) → Q (.slice a ks.length c) h') :
    SpecH PP z217 [.pointer (some ⟨s, 0, none⟩), bxA b, .int .i64 t] h Q := by
  refine z216.door ?_
  dsimp only
  have H1 := H.new (t := y74) (cs := (bxV b).toArray) (xs := bxV b)
  generalize Array.size h = b4 at H1 ⊢
  refine keys_hs (L := pt b4 y74 (bxV b) :: L) (fun k => decide (k.t = b.t) && decide (k.a = b.a)) (fun k M h R H K => ?_) hv hb H1.m1 fun h2 a c ks hk hl H2 => ⟨_, _, _, rfl, ?_⟩
  · refine y152 (by kernel_rfl) ?_
    show SpecH PP z220 [_, _] h R
    refine z219.door ?_
    dsimp only
    have H0 : Hs h (pt b4 y74 (bxV b) :: (M ++ L)) := H.perm List.perm_middle
    have H1 := H0.new (t := y23) (cs := (keyV k).toArray) (xs := keyV k)
    have back : ∀ {h' : Heap}, Hs h' (pt b4 y74 (bxV b) :: (M ++ L)) → Hs h' (M ++ pt b4 y74 (bxV b) :: L) := fun H => H.perm List.perm_middle.symm
    refine ⟨_, H1.cell (off := 0) rfl, _, H1.m1.cell (off := 0) rfl, (y16 _ _ _).2 ⟨fun e => ⟨_, H1.cell (off := 1) rfl, _, H1.m1.cell (off := 1) rfl, ?_⟩, fun e => ?_⟩⟩
    · have := K _ (back H1.tl); rw [e, Bool.true_and] at this; exact this
    · have := K _ (back H1.tl); rw [e, Bool.false_and] at this; exact this
  · have go : ∀ (n i : Nat) {h : Heap} {a' : OA} {c' : Nat}, n + i = ks.length → Hs h (own a' (ks.take i).length c' y29 1 ((ks.take i).map fun k => .string k.e) :: own a ks.length c y23 3 (ks.flatMap keyV) :: storeA s v :: L) →
        z216.L1 a' (ks.take i).length c' a ks.length c (ks.length : Int) (i : Int) (z216.K1 Q) h := by
      intro n
      induction n with
      | zero =>
        intro i h a' c' hi H
        refine z216.L1_of (y13 (decide_eq_false (by omega)) (z216.L1_X0 ?_))
        rw [List.take_of_length_le (by omega)] at H ⊢
        exact kk h a' c' ks hk hl H.m1.tl
      | succ n ih =>
        intro i h a' c' hi H
        refine z216.L1_of (y22 (decide_eq_true (by omega)) ?_)
        refine idxf y169 (φ := keyV) (l := ks) (x := ks[i]) (H.m1.rd) keyV_len (by decide) (by omega) (by omega) (by simp) fun t1 ht => ⟨_, _, _, ht, ?_⟩
        dsimp only
        refine Hs.wrs (b := Array.size h) (xs := [.string ⟨#[]⟩, .string ⟨#[]⟩, .string ⟨#[]⟩]) H.new (fun h3 H3 => ⟨_, H3.cell (off := 2) rfl, ?_⟩)
        have hmm : ((ks.take i).map fun k => Value.string k.e) = ((ks.take i).map Key.e).map Value.string := by rw [List.map_map]; rfl
        have hll : (ks.take i).length = ((ks.take i).map Key.e).length := by simp
        have H4 := H3.tl
        rw [hmm] at H4
        rw [hll] at H4 ⊢
        refine str_app (w := ks[i].e) (by simp; omega) H4 fun h5 a5 c5 H5 => ⟨_, _, _, rfl, ?_⟩
        have e5 : (ks.take i).map Key.e ++ [ks[i].e] = (ks.take (i + 1)).map Key.e := by
          rw [List.take_succ_eq_append_getElem (by omega), List.map_append]; rfl
        rw [e5] at H5 ⊢
        rw [i1 (i := i) (by omega)]
        have := ih (i + 1) (h := h5) (a' := a5) (c' := c5) (by omega)
        rw [show ((ks.take (i + 1)).map fun k => Value.string k.e) = ((ks.take (i + 1)).map Key.e).map Value.string by rw [List.map_map]; rfl, show (ks.take (i + 1)).length = ((ks.take (i + 1)).map Key.e).length by simp] at this
        exact this H5
    have := go ks.length 0 (h := h2) (a' := none) (c' := 0) (by omega)
    exact this ((H2.m2.tl).own_nil y29 1)
end Go.Proofs.YtglcanljknjcfaaGreatDoor

set_option maxRecDepth 20000
namespace Go.Proofs.YtglcanljknjcfaaGreatDoor
open Go Go.HW
variable {h : Heap} {L : List Assn} {Q : Value → Heap → Prop}
def putV (vs : List Ver) (x : Ver) : List Ver := match vs.getLast? with | some y => if y.at_ = x.at_ then vs.dropLast ++ [x] else vs ++ [x] | none => vs ++ [x]
def wver (a : Int) (w : Wr) : Ver := ⟨a, w.there, if w.there then w.data else ⟨#[]⟩⟩
def CS.put1 (a : Int) (v : CS) (w : Wr) : CS := { v with ch := mset v.ch w.k (putV (v.vs w.k) (wver a w)) }
def CS.put (v : CS) (a : Int) (ws : List Wr) : CS := ws.foldl (CS.put1 a) { v with now := a }
def nilCh : Ch := ⟨none, 0, []⟩
def chOf (m : List (Key × Ch)) (k : Key) : Ch := (mget m k).getD nilCh
theorem chOf_vs {m : List (Key × Ch)} {v : CS} (em : absM m = v.ch) (k : Key) : (chOf m k).vs = v.vs k := by
 unfold chOf CS.vs; rw [← em, y165]; cases mget m k <;> rfl
theorem take_ch {m : List (Key × Ch)} {k : Key} (hn : (m.map (·.1)).Nodup) (H : Hs h (fam chA m :: L)) : Hs h (chA (chOf m k) :: fam chA (mdel m k) :: L) := by
 unfold chOf
 cases e : mget m k with
 | none => rw [mdel_none e]; exact H.own_nil y41 3
 | some x => exact H.fam_take hn e
theorem sum_mset {l : List (Key × List Ver)} {k : Key} {x : List Ver} : ((mset l k x).map fun x => x.2.length).sum + ((mget l k).getD []).length = (l.map fun x => x.2.length).sum + x.length := by
 induction l with
 | nil => simp [mset, y133]
 | cons y l ih =>
  rw [mset, y50]
  by_cases e : y.1 = k
  ·rw [if_pos e, if_pos e]; simp; omega
  ·rw [if_neg e, if_neg e]; simp; omega
theorem putV_len (vs : List Ver) (x : Ver) : (putV vs x).length ≤ vs.length + 1 ∧ vs.length ≤ (putV vs x).length := by
 unfold putV
 split
 ·rename_i y e
  have : vs ≠ [] := by rintro rfl; simp at e
  have := List.length_pos_iff.2 this
  split <;> simp <;> omega
 ·simp
theorem put1_total (a : Int) (v : CS) (w : Wr) : (v.put1 a w).total ≤ v.total + 1 := by
 have h1 := sum_mset (l := v.ch) (k := w.k) (x := putV (v.vs w.k) (wver a w))
 have h2 := putV_len (v.vs w.k) (wver a w)
 unfold CS.total CS.put1 CS.vs at *
 simp only at *; omega
theorem Put_hs {s : Nat} {v : CS} {x : Cm} (hb : v.total + x.n < 2 ^ 40) (ok : CmOk L x) (H : Hs h (storeA s v :: L)) (k0 : x.at_ ≤ v.now → ∀ h', Hs h' (storeA s v :: L) → Q (.int .i64 120) h')
  (k1 : v.now < x.at_ → ∀ h', Hs h' (storeA s (v.put x.at_ x.ws) :: L) → Q (.int .i64 0) h') : SpecH PP z227 [.pointer (some ⟨s, 0, none⟩), .agg (cmV x).toArray] h Q := by
 have hn := ok.n
 obtain ⟨m, r, em, H⟩ := y96.1 H
 refine z226.door ?_
 dsimp only
 have H1 := H.new (t := y36) (cs := (cmV x).toArray) (xs := cmV x)
 generalize Array.size h = c3 at H1 ⊢
 refine y13 rfl ⟨_, H1.cell (off := 0) rfl, _, H1.m1.cell (off := 1) rfl, (y16 _ _ _).2 ⟨fun e => ?_, fun e => ?_⟩⟩
 ·exact k0 (of_decide_eq_true e) _ (y96.2 ⟨m, r, em, H1.tl⟩)
 have k1 := k1 (by have := of_decide_eq_false e; omega)
 refine ⟨_, H1.cell (off := 0) rfl, ?_⟩
 refine H1.m1.sto (off := 1) (by simp) fun h2 H2 => ?_
 refine ⟨_, _, _, H2.m1.cell (off := 1) rfl, ?_⟩
 have go : ∀ (n i : Nat) {v : CS} {h : Heap}, n + i = x.n → v.now = x.at_ → v.total + n < 2 ^ 40 → (∀ h', Hs h' (storeA s ((x.ws.drop i).foldl (CS.put1 x.at_) v) :: L) → Q (.int .i64 0) h') → Hs h (storeA s v :: pt c3 y36 (cmV x) :: L) →
   z226.L1 (some ⟨s, 0, none⟩) ⟨c3, 0, none⟩ x.a x.n x.c (x.n : Int) (i : Int) (z226.K1 Q) h := by
  intro n
  induction n with
  | zero =>
   intro i v h hi hnow htot kk H
   rw [List.drop_of_length_le (by omega)] at kk
   exact z226.L1_of (y13 (decide_eq_false (by omega)) (z226.L1_X1 (kk h H.m1.tl)))
  | succ n ih =>
   intro i v h hi hnow htot kk H
   rw [List.drop_eq_getElem_cons (by omega), List.foldl_cons] at kk
   refine z226.L1_of (y22 (decide_eq_true (by omega)) ?_)
   refine idxf y122 (φ := wrV) (l := x.ws) (x := x.ws[i]) (ok.rd.cons.cons _ H) wrV_len (by decide) (by omega) (by omega) (by simp) fun t ht => ⟨_, _, _, _, _, ht, ?_⟩
   generalize x.ws[i] = w at kk ⊢
   dsimp only
   refine Hs.wrs (b := Array.size h) (xs := [.string ⟨#[]⟩, .string ⟨#[]⟩, .string ⟨#[]⟩, .bool false, .string ⟨#[]⟩]) H.new (fun h3 H3 => ?_)
   generalize Array.size h = w6 at H3 ⊢
   refine ⟨_, H3.m2.cell (off := 0) rfl, _, H3.cell (off := 3) rfl, ?_⟩
   refine Hs.wrs (b := Array.size h3) (xs := [.int .i64 0, .bool false, .string ⟨#[]⟩]) H3.new (fun h4 H4 => ?_)
   generalize Array.size h3 = v7 at H4 ⊢
   have J3 : ∀ {h : Heap}, Hs h (storeA s (v.put1 x.at_ w) :: pt v7 y41 (verV (wver x.at_ w)) :: pt w6 y25 (wrV w) :: pt c3 y36 (cmV x) :: L) → z226.J3 (some ⟨s, 0, none⟩) ⟨c3, 0, none⟩ x.a x.n x.c (x.n : Int) (i : Int) (z226.K1 Q) h := by
    intro h H
    refine z226.J3_of ?_
    dsimp only
    rw [i1 (i := i) (by omega)]
    have := put1_total x.at_ v w
    exact ih (i + 1) (v := v.put1 x.at_ w) (by omega) hnow (by omega) kk H.m1.tl.m1.tl
   have J1 : ∀ {h : Heap}, Hs h (pt v7 y41 (verV (wver x.at_ w)) :: pt w6 y25 (wrV w) :: storeA s v :: pt c3 y36 (cmV x) :: L) → z226.J1 (some ⟨s, 0, none⟩) ⟨c3, 0, none⟩ ⟨w6, 0, none⟩ ⟨v7, 0, none⟩ x.a x.n x.c (x.n : Int) (i : Int) (z226.K1 Q) h := by
    intro h H
    obtain ⟨m, r, em, H⟩ := y96.1 H.m2
    have hnd := H.m1.mp_nodup
    have evs := chOf_vs em w.k
    refine z226.J1_of ⟨_, H.cell (off := 0) rfl, _, _, _, H.m4.rdo 0 rfl, ?_⟩
    refine H.m1.lookup1 (t := y17) y73 KeyK zCh w.k ?_
    refine ⟨(chOf m w.k).a, (chOf m w.k).vs.length, (chOf m w.k).c, by unfold chOf; cases mget m w.k <;> rfl, ?_⟩
    have hlen : (chOf m w.k).vs.length ≤ v.total := by
     rw [evs]
     unfold CS.vs CS.total
     cases e : mget v.ch w.k with
     | none => simp
     | some y => exact y163 (List.mem_map_of_mem (f := fun x => x.2.length) (y87 e))
    have H5 : Hs h (chA (chOf m w.k) :: fam chA (mdel m w.k) :: mp keyA chV r m :: pt s y43 [.map (some r), .int .i64 v.now, .int .i64 v.floor] :: pt v7 y41 (verV (wver x.at_ w)) :: pt w6 y25 (wrV w) :: pt c3 y36 (cmV x) :: L) := take_ch hnd H.m2.m2.m1
    clear H
    generalize hx : chOf m w.k = ch at H5 evs hlen ⊢
    have AP : ∀ {R : VP}, (∀ h' a' c', Hs h' (own a' (ch.vs.length + 1) c' y41 3 (ch.vs.flatMap verV ++ verV (wver x.at_ w)) :: fam chA (mdel m w.k) :: mp keyA chV r m :: pt s y43 [.map (some r), .int .i64 v.now, .int .i64 v.floor] :: pt v7 y41 (verV (wver x.at_ w)) :: pt w6 y25 (wrV w) :: pt c3 y36 (cmV x) :: L) → R (.slice a' (ch.vs.length + 1) c') h') →
      hwp PP (Builtin.append_ #[y19, y19] y19 #[.slice ch.a ch.vs.length ch.c, .slice (some ⟨Array.size h, 0, none⟩) 1 1]) R (Array.push h (.cells (verV (wver x.at_ w)).toArray y41 (0, 0))) := fun K =>
     Hs.app_vals H5 y84 (m := 1) (ys := verV (wver x.at_ w)) rfl rfl (verV_one _) K (by omega) (by omega)
    have UP : ∀ {h' : Heap} {a' : OA} {c' : Nat}, putV (v.vs w.k) (wver x.at_ w) = ch.vs ++ [wver x.at_ w] → Hs h' (own a' (ch.vs.length + 1) c' y41 3 (ch.vs.flatMap verV ++ verV (wver x.at_ w)) :: fam chA (mdel m w.k) :: mp keyA chV r m :: pt s y43 [.map (some r), .int .i64 v.now, .int .i64 v.floor] :: pt v7 y41 (verV (wver x.at_ w)) :: pt w6 y25 (wrV w) :: pt c3 y36 (cmV x) :: L) →
      hwp PP (Instr.mapUpdate y17 (.map (some r)) (keyA w.k) (.slice a' (ch.vs.length + 1) c')) (fun _ h29 => z226.J3 (some ⟨s, 0, none⟩) ⟨c3, 0, none⟩ x.a x.n x.c (x.n : Int) (i : Int) (z226.K1 Q) h29) h' := by
     intro h' a' c' hp H
     have e1 : ch.vs.length + 1 = (⟨a', c', ch.vs ++ [wver x.at_ w]⟩ : Ch).vs.length := by simp
     have e2 : ch.vs.flatMap verV ++ verV (wver x.at_ w) = (⟨a', c', ch.vs ++ [wver x.at_ w]⟩ : Ch).vs.flatMap verV := by simp
     rw [e1, e2] at H
     rw [e1]
     refine H.m2.mset (t := y17) y73 KeyK w.k (⟨a', c', ch.vs ++ [wver x.at_ w]⟩ : Ch) rfl fun h2 H2 => J3 ?_
     have H3 : Hs h2 (chA ⟨a', c', ch.vs ++ [wver x.at_ w]⟩ :: fam chA (mdel m w.k) :: mp keyA chV r (mset m w.k ⟨a', c', ch.vs ++ [wver x.at_ w]⟩) :: pt s y43 [.map (some r), .int .i64 v.now, .int .i64 v.floor] :: pt v7 y41 (verV (wver x.at_ w)) :: pt w6 y25 (wrV w) :: pt c3 y36 (cmV x) :: L) := H2.m2.m2
     exact y96.2 ⟨_, r, by rw [absM_set, em, ← hp]; rfl, (H3.fam_put hnd).m1.m2⟩
    have J2f : putV (v.vs w.k) (wver x.at_ w) = ch.vs ++ [wver x.at_ w] → z226.J2 (some ⟨s, 0, none⟩) ⟨c3, 0, none⟩ ⟨w6, 0, none⟩ ⟨v7, 0, none⟩ ch.a ch.vs.length ch.c (ch.vs.length : Int) x.a x.n x.c (x.n : Int) (i : Int) false (z226.K1 Q) h := by
     intro hp
     have cA : cellH h ⟨s, 0, none⟩ = some (.map (some r)) := H5.m3.cell (off := 0) rfl
     have cB : rdCells h ⟨w6, 0, none⟩ 0 (keyV w.k) := H5.m5.rdo 0 rfl
     have HP := (H5.new (t := y41) (cs := (verV (wver x.at_ w)).toArray) (xs := verV (wver x.at_ w))).tl
     have pA : cellH (Array.push h (.cells (verV (wver x.at_ w)).toArray y41 (0, 0))) ⟨s, 0, none⟩ = some (.map (some r)) := HP.m3.cell (off := 0) rfl
     have pB : rdCells (Array.push h (.cells (verV (wver x.at_ w)).toArray y41 (0, 0))) ⟨w6, 0, none⟩ 0 (keyV w.k) := HP.m5.rdo 0 rfl
     refine z226.J2_of (y13 rfl ?_)
     dsimp only [nilc]
     refine ⟨_, _, _, H5.m4.rdc0, ?_⟩
     have u0 := AP (R := fun v h => ∃ (a : OA) (n c : Nat), v = .slice a n c ∧ hwp PP (Instr.mapUpdate y17 (.map (some r)) (keyA w.k) (.slice a n c)) (fun _ h29 => z226.J3 (some ⟨s, 0, none⟩) ⟨c3, 0, none⟩ x.a x.n x.c (x.n : Int) (i : Int) (z226.K1 Q) h29) h) fun h' a' c' H' => ⟨_, _, _, rfl, UP hp H'⟩
     have u1 := AP (R := fun v h => ∃ (a : OA) (n c : Nat), v = .slice a n c ∧ ∃ (k0 k1 k2 : ByteArray), rdCells h ⟨w6, 0, none⟩ 0 [.string k0, .string k1, .string k2] ∧ hwp PP (Instr.mapUpdate y17 (.map (some r)) (.agg #[.string k0, .string k1, .string k2]) (.slice a n c)) (fun _ h29 => z226.J3 (some ⟨s, 0, none⟩) ⟨c3, 0, none⟩ x.a x.n x.c (x.n : Int) (i : Int) (z226.K1 Q) h29) h) fun h' a' c' H' => ⟨_, _, _, rfl, _, _, _, H'.m5.rdo 0 rfl, UP hp H'⟩
     have u2 := AP (R := fun v h => ∃ (a : OA) (n c : Nat), v = .slice a n c ∧ ∃ (r : ON), cellH h ⟨s, 0, none⟩ = some (.map r) ∧ hwp PP (Instr.mapUpdate y17 (.map r) (keyA w.k) (.slice a n c)) (fun _ h29 => z226.J3 (some ⟨s, 0, none⟩) ⟨c3, 0, none⟩ x.a x.n x.c (x.n : Int) (i : Int) (z226.K1 Q) h29) h) fun h' a' c' H' => ⟨_, _, _, rfl, _, H'.m3.cell (off := 0) rfl, UP hp H'⟩
     have u3 := AP (R := fun v h => ∃ (a : OA) (n c : Nat), v = .slice a n c ∧ ∃ (r : ON), cellH h ⟨s, 0, none⟩ = some (.map r) ∧ ∃ (k0 k1 k2 : ByteArray), rdCells h ⟨w6, 0, none⟩ 0 [.string k0, .string k1, .string k2] ∧ hwp PP (Instr.mapUpdate y17 (.map r) (.agg #[.string k0, .string k1, .string k2]) (.slice a n c)) (fun _ h29 => z226.J3 (some ⟨s, 0, none⟩) ⟨c3, 0, none⟩ x.a x.n x.c (x.n : Int) (i : Int) (z226.K1 Q) h29) h) fun h' a' c' H' => ⟨_, _, _, rfl, _, H'.m3.cell (off := 0) rfl, _, _, _, H'.m5.rdo 0 rfl, UP hp H'⟩
     exact ⟨⟨_, cA, ⟨_, _, _, cB, u0⟩, ⟨⟨_, _, _, pB, u0⟩, u1, trivial⟩, trivial⟩,
      ⟨_, _, _, cB, ⟨_, cA, u0⟩, ⟨⟨_, pA, u0⟩, u2, trivial⟩, trivial⟩,
      ⟨⟨_, pA, ⟨_, _, _, pB, u0⟩, u1, trivial⟩, ⟨_, _, _, pB, ⟨_, pA, u0⟩, u2, trivial⟩, u3, trivial⟩, trivial⟩
    rcases Nat.eq_zero_or_pos ch.vs.length with q | q
    ·refine y13 (decide_eq_false (by omega)) (J2f ?_)
     have : ch.vs = [] := List.length_eq_zero_iff.1 q
     rw [← evs, this]; rfl
    ·refine y22 (decide_eq_true (by omega)) ?_
     rw [d1 q (by omega)]
     have hl : ch.vs.getLast? = some ch.vs[ch.vs.length - 1] := by rw [List.getLast?_eq_getElem?, List.getElem?_eq_getElem (by omega)]
     refine idxf y84 (φ := verV) (l := ch.vs) (x := ch.vs[ch.vs.length - 1]) (Hs.rd H5) y167 (by decide) (by omega) (by omega) (by rw [Int.toNat_natCast]; simp) fun t1 ht => ⟨_, ht.1, _, H5.m6.cell (off := 0) rfl, ?_⟩
     cases e3 : (ch.vs[ch.vs.length - 1].at_ == x.at_) with
     | false =>
      refine J2f ?_
      have e3 := beq_eq_false_iff_ne.1 e3
      unfold putV
      rw [← evs, hl]
      exact if_neg e3
     | true =>
      have e3 := beq_iff_eq.1 e3
      have hp : putV (v.vs w.k) (wver x.at_ w) = ch.vs.set (ch.vs.length - 1) (wver x.at_ w) := by
       unfold putV
       rw [← evs, hl]
       refine (if_pos e3).trans ?_
       rw [List.set_eq_take_append_cons_drop, if_pos (by omega), List.drop_of_length_le (by omega), List.dropLast_eq_take]
      refine z226.J2_of (y22 rfl ⟨_, _, _, H5.m4.rdc0, ?_⟩)
      rw [d1 q (by omega)]
      refine Hs.idx_wrf (wver x.at_ w) y84 (l := ch.vs) H5 (by omega) (by omega) y167 (by decide) (verV_one _) fun h' H' => J3 ?_
      rw [Int.toNat_natCast] at H'
      have e1 : ch.vs.length = (⟨ch.a, ch.c, ch.vs.set (ch.vs.length - 1) (wver x.at_ w)⟩ : Ch).vs.length := by simp
      have hg : mget m w.k = some ch := by
       unfold chOf at hx
       cases e : mget m w.k with
       | none => rw [e] at hx; rw [← hx] at q; exact absurd q (by simp [nilCh])
       | some y => rw [e] at hx; rw [← hx]; rfl
      have H6 : Hs h' (chA ⟨ch.a, ch.c, ch.vs.set (ch.vs.length - 1) (wver x.at_ w)⟩ :: fam chA (mdel m w.k) :: mp keyA chV r m :: pt s y43 [.map (some r), .int .i64 v.now, .int .i64 v.floor] :: pt v7 y41 (verV (wver x.at_ w)) :: pt w6 y25 (wrV w) :: pt c3 y36 (cmV x) :: L) := by
       unfold chA; rw [← e1]; exact H'
      have H7 := (H6.fam_put hnd).m1.mono fun μ k => mp_congr (ν' := chV) (mset_same (y := ⟨ch.a, ch.c, ch.vs.set (ch.vs.length - 1) (wver x.at_ w)⟩) hg (by unfold chV; rw [← e1])).symm k
      exact y96.2 ⟨_, r, by rw [absM_set, em, ← hp]; rfl, H7.m2⟩
   refine ⟨_, H4.m1.cell (off := 3) rfl, (y16 _ _ _).2 ⟨fun e => ⟨_, H4.m1.cell (off := 4) rfl, ?_⟩, fun e => J1 ?_⟩⟩
   ·refine H4.sto (off := 2) (by simp) fun h5 H5 => J1 ?_
    have : wver x.at_ w = ⟨x.at_, w.there, w.data⟩ := by unfold wver; rw [if_pos e]
    rw [this]; exact H5
   ·have : wver x.at_ w = ⟨x.at_, w.there, ⟨#[]⟩⟩ := by unfold wver; rw [if_neg (by rw [e]; simp)]
    rw [this]; exact H4
 have := go x.n 0 (v := { v with now := x.at_ }) (h := h2) (by omega) rfl hb (by rw [List.drop_zero]; exact k1) (y96.2 ⟨m, r, em, H2.m1.r3⟩)
 exact this
end Go.Proofs.YtglcanljknjcfaaGreatDoor

set_option maxRecDepth 20000
namespace Go.Proofs.YtglcanljknjcfaaGreatDoor
open Go Go.HW
variable {h : Heap} {L : List Assn} {Q : Value → Heap → Prop}
theorem sum_perm {l m : List Nat} (p : l.Perm m) : l.sum = m.sum := by
 induction p with
 | nil => rfl
 | cons x _ ih => simp [ih]
 | swap x y l => simp; omega
 | trans _ _ h1 h2 => exact h1.trans h2
theorem abs_total {m : List (Key × Ch)} {v : CS} (em : absM m = v.ch) : (m.map fun x => x.2.vs.length).sum = v.total := by
 unfold CS.total; rw [← em]; unfold absM; rw [List.map_map]; rfl
def prn (f : Int) (vs : List Ver) : Nat := match pick vs f with | some v => if v.there then cnt vs f - 1 else cnt vs f | none => cnt vs f
def prV (f : Int) (vs : List Ver) : List Ver := vs.drop (prn f vs)
def prK (f : Int) (o : Option (List Ver)) : Option (List Ver) := o.bind fun vs => if prV f vs = [] then none else some (prV f vs)
theorem prn_le (f : Int) (vs : List Ver) : prn f vs ≤ vs.length := by
 have := cnt_le vs f
 unfold prn; split
 ·split <;> omega
 ·exact this
structure Pruned (v v' : CS) (f : Int) (gone : Nat) : Prop where
 now : v'.now = v.now
 floor : v'.floor = f
 nd : (v'.ch.map (·.1)).Nodup
 get : ∀ k, mget v'.ch k = prK f (mget v.ch k)
 tot : v'.total + gone = v.total
theorem Clone_hs {a : OA} {n c : Nat} {vs : List Ver} (hn : vs.length = n) (hn0 : a = none → n = 0) (hmax : n < 2 ^ 40) (g : Gv L a (vs.flatMap verV)) (H : Hs h L) (kk : ∀ h' a' c', Hs h' (own a' n c' y41 3 (vs.flatMap verV) :: L) → Q (.slice a' n c') h') :
  SpecH PP z291 [.slice a n c] h Q := by
 refine z290.door ?_
 cases a with
 | none =>
  have := hn0 rfl
  subst this
  have e : vs = [] := List.length_eq_zero_iff.1 hn
  subst e
  exact y22 rfl (kk h none 0 (H.own_nil y41 3))
 | some ad =>
  refine y13 rfl ?_
  have H1 := H.new (t := y41) (cs := #[]) (xs := [])
  have H2 : Hs _ (own (some ⟨Array.size h, 0, none⟩) 0 0 y41 3 [] :: L) := H1.pt_own 0 rfl rfl (Nat.le_refl _) (by simp)
  refine H2.app_sl y84 (m := n) (ys := vs.flatMap verV) (g _ H2.tl) (by rw [y153 y167, hn]) (fun e => by cases e) (fun x hx => by obtain ⟨v, _, hv⟩ := List.mem_flatMap.1 hx; exact verV_one v x hv) (fun h' a' c' H' => ⟨_, _, _, rfl, ?_⟩) (by omega) (by omega)
  rw [Nat.zero_add] at H' ⊢
  exact kk h' a' c' H'
theorem take_of_total {m : List (Key × Ch)} {k : Key} {x : Ch} (e : mget m k = some x) : x.vs.length ≤ (m.map fun x => x.2.vs.length).sum := y163 (List.mem_map_of_mem (f := fun x : Key × Ch => x.2.vs.length) (y87 e))
theorem total_mset {m : List (Key × Ch)} {k : Key} {x y : Ch} (e : mget m k = some x) : ((mset m k y).map fun x => x.2.vs.length).sum + x.vs.length = (m.map fun x => x.2.vs.length).sum + y.vs.length := by
 induction m with
 | nil => simp [y133] at e
 | cons z m ih =>
  rw [y50] at e
  rw [mset]
  by_cases hz : z.1 = k
  ·rw [if_pos hz] at e ⊢; cases e; simp; omega
  ·rw [if_neg hz] at e ⊢; have := ih e; simp; omega
theorem total_mdel {m : List (Key × Ch)} {k : Key} {x : Ch} (hn : (m.map (·.1)).Nodup) (e : mget m k = some x) : ((mdel m k).map fun x => x.2.vs.length).sum + x.vs.length = (m.map fun x => x.2.vs.length).sum := by
 have := sum_perm ((mget_perm hn e).map fun x => x.2.vs.length)
 simp only [List.map_cons, List.sum_cons] at this; omega
theorem Prune_hs {s : Nat} {v : CS} {t : Int} (hv : CI v) (hb : v.total < 2 ^ 40) (H : Hs h (storeA s v :: L)) (k0 : t ≤ v.floor → Q (.int .i64 0) h)
  (k1 : v.floor < t → ∀ h' v' gone, Pruned v v' (if v.now < t then v.now else t) gone → Hs h' (storeA s v' :: L) → Q (.int .i64 (gone : Nat)) h') : SpecH PP z225 [.pointer (some ⟨s, 0, none⟩), .int .i64 t] h Q := by
 obtain ⟨m, r, em, H⟩ := y96.1 H
 refine z224.door (y13 rfl ⟨_, H.cell (off := 2) rfl, z224.J1_of ((y16 _ _ _).2 ⟨fun e => k0 (of_decide_eq_true e), fun e => ?_⟩)⟩)
 have k1 := k1 (by have := of_decide_eq_false e; omega)
 dsimp only [nilc]
 refine ⟨_, H.cell (off := 1) rfl, H.sto (off := 2) (by simp) fun h1 H1 => ?_⟩
 generalize hf : (if v.now < t then v.now else t) = f at H1 k1 ⊢
 refine ⟨_, H1.cell (off := 0) rfl, ?_⟩
 have H1 : Hs h1 (pt s y43 [.map (some r), .int .i64 v.now, .int .i64 f] :: mp keyA chV r m :: fam chA m :: L) := H1
 refine H1.m1.ranges (t := y17) y73 fun h2 i H2 => ⟨_, rfl, ?_⟩
 have hmx : mx f f = f := by unfold mx; split <;> rfl
 have ht0 := abs_total em
 have fin : ∀ {h : Heap} {told : List Key} {m' : List (Key × Ch)} {gone : Nat}, (∀ x ∈ m', x.1 ∈ told) → (∀ k, mget (absM m') k = if k ∈ told then prK f (mget v.ch k) else mget v.ch k) → (m'.map fun x => x.2.vs.length).sum + gone = v.total →
   Hs h (rgs keyA chV r i m' told :: pt s y43 [.map (some r), .int .i64 v.now, .int .i64 f] :: fam chA m' :: L) → z224.K2 Q (.exit 0) (z224.X0 (gone : Nat)) h := by
  intro h told m' gone hall hget htot H
  refine z224.L1_X0 ?_
  have hnd := H.rgs_nodup
  refine k1 h ⟨absM m', v.now, f⟩ gone ⟨rfl, rfl, by rw [absM_keys]; exact hnd, fun k => ?_, ?_⟩ (y96.2 ⟨m', r, rfl, H.rgs_mp.m1⟩)
  ·show mget (absM m') k = _
   rw [hget k]
   by_cases hk : k ∈ told
   ·rw [if_pos hk]
   ·rw [if_neg hk]
    have : mget (absM m') k = none := by
     rw [y145, absM_keys]
     intro q
     obtain ⟨x, hx, rfl⟩ := List.mem_map.1 q
     exact hk (hall x hx)
    rw [hget k, if_neg hk] at this
    rw [this]; rfl
  ·rw [← abs_total (v := ⟨absM m', v.now, f⟩) rfl]; exact htot
 have go : ∀ (n : Nat) {h : Heap} {told : List Key} {m' : List (Key × Ch)} {gone : Nat}, m.length - told.length ≤ n → told.Nodup → (∀ k ∈ told, k ∈ m.map (·.1)) → (∀ k, mget (absM m') k = if k ∈ told then prK f (mget v.ch k) else mget v.ch k) → (m'.map fun x => x.2.vs.length).sum + gone = v.total →
   Hs h (rgs keyA chV r i m' told :: pt s y43 [.map (some r), .int .i64 v.now, .int .i64 f] :: fam chA m' :: L) → z224.L1 (some ⟨s, 0, none⟩) (gone : Nat) (.pointer (some ⟨i, 0, none⟩)) (z224.K2 Q) h := by
  intro n
  induction n with
  | zero =>
   intro h told m' gone hn hnd hsub hget htot H
   have htl := y144 hnd hsub
   rw [List.length_map] at htl
   refine z224.L1_of (H.nexts (fun e => ⟨false, [], rfl, y13 rfl (fin e hget htot H)⟩) (fun h' x hx hnx H' => ?_))
   have h3 : mget (absM m') x.1 = some x.2.vs := by rw [y165, y105 H.rgs_nodup hx]; rfl
   rw [hget, if_neg hnx] at h3
   have := y144 (l := told ++ [x.1]) (m := m.map (·.1)) (nodup_snoc hnd hnx) (fun k hk => by
    rcases List.mem_append.1 hk with hk | hk
    ·exact hsub k hk
    ·rw [List.mem_singleton.1 hk, ← absM_keys, em]; exact List.mem_map_of_mem (f := (·.1)) (y87 h3))
   simp at this; omega
  | succ n ih =>
   intro h told m' gone hn hnd hsub hget htot H
   have htl := y144 hnd hsub
   rw [List.length_map] at htl
   refine z224.L1_of (H.nexts (fun e => ⟨false, [], rfl, y13 rfl (fin e hget htot H)⟩) (fun h' x hx hnx H2 => ⟨true, [keyA x.1, chV x.2], rfl, y22 rfl ?_⟩))
   have hmn := H.rgs_nodup
   have hgx : mget m' x.1 = some x.2 := y105 hmn hx
   have h3 : mget (absM m') x.1 = some x.2.vs := by rw [y165, hgx]; rfl
   rw [hget, if_neg hnx] at h3
   have hnd' := nodup_snoc hnd hnx
   have hsub' : ∀ k ∈ told ++ [x.1], k ∈ m.map (·.1) := fun k hk => by
    rcases List.mem_append.1 hk with hk | hk
    ·exact hsub k hk
    ·rw [List.mem_singleton.1 hk, ← absM_keys, em]; exact List.mem_map_of_mem (f := (·.1)) (y87 h3)
   have hlt := y144 hnd' hsub'
   rw [List.length_append, List.length_map, List.length_singleton] at hlt
   have hxl := take_of_total hgx
   have hrs : Rising x.2.vs := hv.rise _ (y87 h3)
   refine H2.entrys hgx ⟨_, _, rfl, _, _, _, rfl, x.2.a, x.2.vs.length, x.2.c, rfl, ?_⟩
   dsimp only
   refine Hs.wrs (b := Array.size h') (xs := [.string ⟨#[]⟩, .string ⟨#[]⟩, .string ⟨#[]⟩]) H2.new (fun hh3 H3 => ?_)
   generalize Array.size h' = k6 at H3 ⊢
   dsimp only [nilc]
   refine ⟨_, H3.m2.cell (off := 2) rfl, ?_⟩
   have H4 : Hs hh3 (pt s y43 [.map (some r), .int .i64 v.now, .int .i64 f] :: chA x.2 :: fam chA (mdel m' x.1) :: pt k6 y23 (keyV x.1) :: rgs keyA chV r i m' (told ++ [x.1]) :: L) := (H3.m3.fam_take hmn hgx).m4
   clear H3
   have g : Gv (pt s y43 [.map (some r), .int .i64 v.now, .int .i64 f] :: chA x.2 :: fam chA (mdel m' x.1) :: pt k6 y23 (keyV x.1) :: rgs keyA chV r i m' (told ++ [x.1]) :: L) x.2.a (x.2.vs.flatMap verV) := Gv.cons Gv.own
   refine newest_hs hrs rfl (by omega) g H4 fun h4 H5 => ⟨_, rfl, ?_⟩
   rw [hmx]
   have hle := cnt_le x.2.vs f
   have hle2 := prn_le f x.2.vs
   have get' : ∀ {m2 : List (Key × Ch)}, (∀ k, k ≠ x.1 → mget m2 k = mget m' k) → mget (absM m2) x.1 = prK f (some x.2.vs) → ∀ k, mget (absM m2) k = if k ∈ told ++ [x.1] then prK f (mget v.ch k) else mget v.ch k := by
    intro m2 h1 h2 k
    by_cases e : k = x.1
    ·subst e; rw [if_pos (by simp), h2, h3]
    ·have e2 : k ∈ told ++ [x.1] ↔ k ∈ told := by simp [e]
     have : mget (absM m2) k = mget (absM m') k := by rw [y165, y165, h1 k e]
     rw [this, hget k]
     by_cases q : k ∈ told
     ·rw [if_pos q, if_pos (e2.2 q)]
     ·rw [if_neg q, if_neg (fun z => q (e2.1 z))]
   have J3 : ∀ {h : Heap} (p : Nat), p = prn f x.2.vs → Hs h (pt s y43 [.map (some r), .int .i64 v.now, .int .i64 f] :: chA x.2 :: fam chA (mdel m' x.1) :: pt k6 y23 (keyV x.1) :: rgs keyA chV r i m' (told ++ [x.1]) :: L) →
     z224.J3 (some ⟨s, 0, none⟩) (gone : Nat) ⟨k6, 0, none⟩ x.2.a x.2.vs.length x.2.c (p : Nat) (.pointer (some ⟨i, 0, none⟩)) (z224.K2 Q) h := by
    intro h p hp H
    refine z224.J3_of ?_
    dsimp only [nilc]
    rw [y34 (by omega) (by omega)]
    have next := @ih
    refine (y16 _ _ _).2 ⟨fun e => ?_, fun e => (y16 _ _ _).2 ⟨fun e2 => ?_, fun e2 => ?_⟩⟩
    ·have e : p = x.2.vs.length := by have := beq_iff_eq.1 e; omega
     refine ⟨_, H.cell (off := 0) rfl, _, _, _, H.m3.rdc0, ?_⟩
     refine H.m4.mdels (t := y17) y73 KeyK x.1 fun h5 H6 => ⟨rfl, ?_⟩
     have htd := total_mdel hmn hgx
     have := ih (h := h5) (told := told ++ [x.1]) (m' := mdel m' x.1) (gone := gone + p) (by simp; omega) hnd' hsub' (get' (fun k hk => by rw [mget_mdel, if_neg (fun q => hk q.symm)]) (by
      rw [y165, mget_mdel, if_pos rfl]
      have : prV f x.2.vs = [] := by unfold prV; exact List.drop_eq_nil_of_le (by omega)
      show none = (if prV f x.2.vs = [] then none else some (prV f x.2.vs))
      rw [if_pos this])) (by omega) ?_
     ·rw [show (gone : Int) + (p : Int) = ((gone + p : Nat) : Int) by omega]
      exact this
     ·exact H6.sel 5 [0, 1, 3]
    ·have e : p ≠ x.2.vs.length := by have := beq_eq_false_iff_ne.1 e; omega
     have e2 := of_decide_eq_true e2
     have g : Gv (pt s y43 [.map (some r), .int .i64 v.now, .int .i64 f] :: chA x.2 :: fam chA (mdel m' x.1) :: pt k6 y23 (keyV x.1) :: rgs keyA chV r i m' (told ++ [x.1]) :: L) x.2.a (x.2.vs.flatMap verV) := Gv.cons Gv.own
     have hoc := Hs.own_le H.m1
     have hon : x.2.a = none → x.2.c = 0 := fun q => by
      have H := H.m1
      unfold chA at H
      rw [q] at H
      exact H.own_none
     refine cutS (i := p) (j := x.2.vs.length) y84 g (y153 y167 _) hoc hon (by omega) (Nat.le_refl _) rfl rfl fun a5 c5 g5 n5 l5 m5 => ⟨_, _, _, rfl, ?_⟩
     rw [flat_cut y167] at g5
     have elen : ((x.2.vs.drop p).take (x.2.vs.length - p)) = prV f x.2.vs := by
      rw [List.take_of_length_le (by simp)]; unfold prV; rw [hp]
     rw [elen] at g5
     have pl : (prV f x.2.vs).length = x.2.vs.length - p := by unfold prV; rw [List.length_drop, hp]
     have CL : ∀ {R : VP}, (∀ h' a' c', Hs h' (own a' (x.2.vs.length - p) c' y41 3 ((prV f x.2.vs).flatMap verV) :: pt s y43 [.map (some r), .int .i64 v.now, .int .i64 f] :: chA x.2 :: fam chA (mdel m' x.1) :: pt k6 y23 (keyV x.1) :: rgs keyA chV r i m' (told ++ [x.1]) :: L) → R (.slice a' (x.2.vs.length - p) c') h') →
       SpecH PP z291 [.slice a5 (x.2.vs.length - p) c5] h R := fun K => Clone_hs pl n5 (by omega) g5 H K
     have UP : ∀ {h' : Heap} {a' : OA} {c' : Nat}, Hs h' (own a' (x.2.vs.length - p) c' y41 3 ((prV f x.2.vs).flatMap verV) :: pt s y43 [.map (some r), .int .i64 v.now, .int .i64 f] :: chA x.2 :: fam chA (mdel m' x.1) :: pt k6 y23 (keyV x.1) :: rgs keyA chV r i m' (told ++ [x.1]) :: L) →
       hwp PP (Instr.mapUpdate y17 (.map (some r)) (keyA x.1) (.slice a' (x.2.vs.length - p) c')) (fun _ h12 => z224.L1 (some ⟨s, 0, none⟩) ((gone : Int) + (p : Int)) (.pointer (some ⟨i, 0, none⟩)) (z224.K2 Q) h12) h' := by
      intro h' a' c' H
      rw [← pl] at H ⊢
      refine H.m5.msets (t := y17) y73 KeyK x.1 (⟨a', c', prV f x.2.vs⟩ : Ch) (by rw [hgx]; simp) rfl fun h5 H6 => ?_
      have htd := total_mset (y := ⟨a', c', prV f x.2.vs⟩) hgx
      simp only at htd
      have := ih (h := h5) (told := told ++ [x.1]) (m' := mset m' x.1 ⟨a', c', prV f x.2.vs⟩) (gone := gone + p) (by simp; omega) hnd' hsub' (get' (fun k hk => by rw [y159, if_neg (fun q => hk q.symm)]) (by
       rw [y165, y159, if_pos rfl]
       have : prV f x.2.vs ≠ [] := fun q => by rw [q] at pl; simp at pl; omega
       show some (prV f x.2.vs) = (if prV f x.2.vs = [] then none else some (prV f x.2.vs))
       rw [if_neg this])) (by omega) ?_
      ·rw [show (gone : Int) + (p : Int) = ((gone + p : Nat) : Int) by omega]
       exact this
      ·have H7 : Hs h5 (chA ⟨a', c', prV f x.2.vs⟩ :: fam chA (mdel m' x.1) :: rgs keyA chV r i (mset m' x.1 ⟨a', c', prV f x.2.vs⟩) (told ++ [x.1]) :: pt s y43 [.map (some r), .int .i64 v.now, .int .i64 f] :: L) := by
        exact H6.sel 6 [1, 4, 0, 2]
       exact (H7.fam_put hmn).r2
     have cA : cellH h ⟨s, 0, none⟩ = some (.map (some r)) := H.cell (off := 0) rfl
     have cB : rdCells h ⟨k6, 0, none⟩ 0 (keyV x.1) := H.m3.rdc0
     refine ⟨⟨_, cA, ⟨_, _, _, cB, CL fun h' a' c' H' => ⟨_, _, _, rfl, UP H'⟩⟩, CL fun h' a' c' H' => ⟨_, _, _, rfl, _, _, _, H'.m4.rdc0, UP H'⟩, trivial⟩,
      ⟨_, _, _, cB, ⟨_, cA, CL fun h' a' c' H' => ⟨_, _, _, rfl, UP H'⟩⟩, CL fun h' a' c' H' => ⟨_, _, _, rfl, _, H'.m1.cell (off := 0) rfl, UP H'⟩, trivial⟩,
      CL fun h' a' c' H' => ⟨_, _, _, rfl, _, H'.m1.cell (off := 0) rfl, _, _, _, H'.m4.rdc0, UP H'⟩, trivial⟩
    ·have e : p ≠ x.2.vs.length := by have := beq_eq_false_iff_ne.1 e; omega
     have e2 : p = 0 := by have := of_decide_eq_false e2; omega
     have := ih (h := h) (told := told ++ [x.1]) (m' := m') (gone := gone + p) (by simp; omega) hnd' hsub' (get' (fun k hk => rfl) (by
      rw [y165, hgx]
      have e3 : prV f x.2.vs = x.2.vs := by unfold prV; rw [← hp, e2]; rfl
      have : x.2.vs ≠ [] := fun q => by rw [q] at e; simp at e; omega
      show some x.2.vs = (if prV f x.2.vs = [] then none else some (prV f x.2.vs))
      rw [e3, if_neg this])) (by omega) (((H.r2.fam_back hmn hgx).m3).m2.m3.tl.m1)
     rw [show (gone : Int) + (p : Int) = ((gone + p : Nat) : Int) by omega]
     exact this
   have ep : ∀ {w : Ver}, pick x.2.vs f = some w → prn f x.2.vs = if w.there then cnt x.2.vs f - 1 else cnt x.2.vs f := fun e => by unfold prn; rw [e]
   refine (y16 _ _ _).2 ⟨fun e => ?_, fun e => z224.J2_of (y13 rfl (J3 _ ?_ H5))⟩
   ·have e : 0 < cnt x.2.vs f := by have := of_decide_eq_true e; omega
    rw [d1 e (by omega)]
    have hpk := ep (pick_some e)
    refine idxf y84 (φ := verV) (l := x.2.vs) (x := x.2.vs[cnt x.2.vs f - 1]) (g _ H5) y167 (by decide) (by omega) (by omega) (by rw [Int.toNat_natCast]; simp) fun t1 ht => ⟨_, ht.2.1, ?_⟩
    refine z224.J2_of ((y16 _ _ _).2 ⟨fun e3 => ?_, fun e3 => J3 _ ?_ H5⟩)
    ·rw [d1 e (by omega)]
     exact J3 _ (by rw [hpk, if_pos e3]) H5
    ·rw [hpk, if_neg (by rw [e3]; simp)]
   ·have e : cnt x.2.vs f = 0 := by have := of_decide_eq_false e; omega
    unfold prn; rw [pick_none e]
 have := go m.length (h := h2) (told := []) (m' := m) (gone := 0) (by simp) (by simp) (by simp) (fun k => by simp [em]) (by omega) H2
 exact this
end Go.Proofs.YtglcanljknjcfaaGreatDoor

set_option maxRecDepth 20000
namespace Go.Proofs.YtglcanljknjcfaaGreatDoor
open Go Go.HW
variable {h : Heap} {L : List Assn} {Q : Value → Heap → Prop}
structure Ent where
 n : ByteArray
 d : ByteArray
 deriving Inhabited, DecidableEq
def entV (e : Ent) : List Value := [.string e.n, .string e.d]
theorem entV_len (e : Ent) : (entV e).length = 2 := rfl
theorem entV_one (e : Ent) : ∀ x ∈ entV e, oneC x = true := by
 intro x hx; simp [entV] at hx; rcases hx with rfl | rfl <;> rfl
structure Arc where
 t : ByteArray
 n : ByteArray
 es : List Ent
 deriving Inhabited, DecidableEq
structure PArc where
 t : ByteArray
 n : ByteArray
 a : OA
 c : Nat
 es : List Ent
def PArc.arc (p : PArc) : Arc := ⟨p.t, p.n, p.es⟩
def arcV (p : PArc) : List Value := [.string p.t, .string p.n, .slice p.a p.es.length p.c]
theorem y177 (p : PArc) : (arcV p).length = 3 := rfl
def entA (p : PArc) : Assn := own p.a p.es.length p.c y143 2 (p.es.flatMap entV)
def arcsA (a : OA) (c : Nat) (D : List Arc) : Assn := fun μ => ∃ P : List PArc, P.map PArc.arc = D ∧ Sp [own a P.length c y49 3 (P.flatMap arcV), Sp (P.map entA)] μ
theorem y176 {a : OA} {c : Nat} {D : List Arc} : Hs h (arcsA a c D :: L) ↔ ∃ P : List PArc, P.map PArc.arc = D ∧ Hs h (own a P.length c y49 3 (P.flatMap arcV) :: Sp (P.map entA) :: L) := by
 unfold arcsA
 simp only [Hs.ex, Hs.and, Hs.app, List.cons_append, List.nil_append]
theorem arcs_nil (H : Hs h L) : Hs h (arcsA none 0 [] :: L) := y176.2 ⟨[], rfl, (show Hs h (Sp [] :: L) from ⟨fun _ => none, fun b => h[b]?, trivial, H, fun _ => .inl rfl, (fun _ _ e => nomatch e), .refl _⟩).own_nil y49 3⟩
theorem arc_app {P : List PArc} {a : OA} {c : Nat} {t n : ByteArray} {K : VP} (hs : P.length ≤ 2 ^ 40) (H : Hs h (own a P.length c y49 3 (P.flatMap arcV) :: Sp (P.map entA) :: L))
  (k : ∀ h' a' c', Hs h' (own a' (P ++ [(⟨t, n, none, 0, []⟩ : PArc)]).length c' y49 3 ((P ++ [(⟨t, n, none, 0, []⟩ : PArc)]).flatMap arcV) :: Sp ((P ++ [(⟨t, n, none, 0, []⟩ : PArc)]).map entA) :: L) → K (.slice a' (P ++ [(⟨t, n, none, 0, []⟩ : PArc)]).length c') h') :
  hwp PP (Builtin.append_ #[y42, y42] y42 #[.slice a P.length c, .slice (some ⟨Array.size h, 0, none⟩) 1 1]) K (Array.push h (.cells #[.string t, .string n, .slice none 0 0] y49 (0, 0))) := by
 refine H.app_vals y118 (m := 1) (ys := [.string t, .string n, .slice none 0 0]) rfl rfl (by simp [oneC]) (fun h' a' c' H' => ?_) (by omega) (by omega)
 have e : P.flatMap arcV ++ [.string t, .string n, .slice none 0 0] = (P ++ [(⟨t, n, none, 0, []⟩ : PArc)]).flatMap arcV := by simp [arcV]
 rw [e] at H'
 have := k h' a' c'
 rw [List.length_append] at this
 refine this ?_
 have H2 : Hs h' (entA ⟨t, n, none, 0, []⟩ :: Sp (P.map entA) :: own a' (P.length + 1) c' y49 3 ((P ++ [(⟨t, n, none, 0, []⟩ : PArc)]).flatMap arcV) :: L) := H'.m1.own_nil y143 2
 rw [List.map_append]
 exact ((Hs.spl.2 H2).spp (List.perm_append_singleton ..).symm).m1
theorem ent_app {P0 : List PArc} {p : PArc} {e : Ent} {A : Assn} {K : VP} (hs : p.es.length ≤ 2 ^ 40) (H : Hs h (A :: Sp ((P0 ++ [p]).map entA) :: L))
  (k : ∀ h' a' c', Hs h' (A :: entA ⟨p.t, p.n, a', c', p.es ++ [e]⟩ :: Sp (P0.map entA) :: L) → K (.slice a' (p.es ++ [e]).length c') h') :
  hwp PP (Builtin.append_ #[y104, y104] y104 #[.slice p.a p.es.length p.c, .slice (some ⟨Array.size h, 0, none⟩) 1 1]) K (Array.push h (.cells (entV e).toArray y143 (0, 0))) := by
 have H1 := H.m1
 rw [List.map_append] at H1
 have H2 : Hs h (own p.a p.es.length p.c y143 2 (p.es.flatMap entV) :: Sp (P0.map entA) :: A :: L) := Hs.spl.1 (H1.spp (List.perm_append_singleton ..))
 refine H2.app_vals y192 (m := 1) (ys := entV e) rfl rfl (entV_one e) (fun h' a' c' H' => ?_) (by omega) (by omega)
 have e1 : p.es.flatMap entV ++ entV e = (p.es ++ [e]).flatMap entV := by simp
 rw [e1] at H'
 have := k h' a' c'
 have e2 : (p.es ++ [e]).length = p.es.length + 1 := by simp
 rw [e2] at this
 refine this ?_
 have H3 : Hs h' (entA ⟨p.t, p.n, a', c', p.es ++ [e]⟩ :: Sp (P0.map entA) :: A :: L) := by unfold entA; rw [e2]; exact H'
 exact H3.m2
theorem ent_wr {P0 : List PArc} {p p' : PArc} {b off c : Nat} {K : Heap → Prop} (ht : p'.t = p.t) (hn : p'.n = p.n) (H : Hs h (own (some ⟨b, off, none⟩) (P0 ++ [p]).length c y49 3 ((P0 ++ [p]).flatMap arcV) :: entA p' :: Sp (P0.map entA) :: L))
  (k : ∀ h', Hs h' (own (some ⟨b, off, none⟩) (P0 ++ [p']).length c y49 3 ((P0 ++ [p']).flatMap arcV) :: Sp ((P0 ++ [p']).map entA) :: L) → K h') : wr ⟨b, off + (P0.length * 3 + 2), none⟩ (.slice p'.a p'.es.length p'.c) K h := by
 have hl : ((P0 ++ [p]).flatMap arcV).length = P0.length * 3 + 3 := by rw [y153 y177]; simp; omega
 refine H.setAt rfl (by omega) rfl fun h' H' => k h' ?_
 have e : ((P0 ++ [p]).flatMap arcV).set (P0.length * 3 + 2) (.slice p'.a p'.es.length p'.c) = (P0 ++ [p']).flatMap arcV := by
  rw [List.flatMap_append, List.flatMap_append, List.set_append_right _ _ (by rw [y153 y177]; omega), y153 y177, show P0.length * 3 + 2 - P0.length * 3 = 2 by omega]
  simp [arcV, ht, hn]
 rw [e] at H'
 have el : (P0 ++ [p']).length = (P0 ++ [p]).length := by simp
 rw [el, List.map_append]
 exact ((Hs.spl.2 H'.r2).spp (List.perm_append_singleton ..).symm).m1
def dstep (D : List Arc) (k : Key) (d : ByteArray) : List Arc := match D.getLast? with
 | some x => if x.t = k.t ∧ x.n = k.a then D.dropLast ++ [⟨x.t, x.n, x.es ++ [⟨k.e, d⟩]⟩] else D ++ [⟨k.t, k.a, [⟨k.e, d⟩]⟩]
 | none => D ++ [⟨k.t, k.a, [⟨k.e, d⟩]⟩]
def dumpOf (g : Key → ByteArray) (ks : List Key) : List Arc := ks.foldl (fun D k => dstep D k (g k)) []
end Go.Proofs.YtglcanljknjcfaaGreatDoor

set_option maxRecDepth 20000
namespace Go.Proofs.YtglcanljknjcfaaGreatDoor
open Go Go.HW
variable {h : Heap} {L : List Assn} {Q : Value → Heap → Prop}
theorem snoc_of {α : Type} {l : List α} (h : 0 < l.length) : ∃ l0 x, l = l0 ++ [x] := by
 rcases List.eq_nil_or_concat l with e | ⟨a, b, e⟩
 ·rw [e] at h; simp at h
 ·exact ⟨a, b, by rw [e]; simp⟩
theorem dstep_snoc {P0 : List PArc} {p : PArc} {k : Key} {d : ByteArray} (h : p.t = k.t ∧ p.n = k.a) {a : OA} {c : Nat} : dstep ((P0 ++ [p]).map PArc.arc) k d = (P0 ++ [(⟨p.t, p.n, a, c, p.es ++ [⟨k.e, d⟩]⟩ : PArc)]).map PArc.arc := by
 unfold dstep
 rw [List.map_append, List.map_append]
 simp only [List.map_cons, List.map_nil, List.getLast?_concat, List.dropLast_concat]
 rw [if_pos (by exact h)]; rfl
theorem dstep_new {P : List PArc} {k : Key} {d : ByteArray} (h : ∀ P0 p, P = P0 ++ [p] → ¬ (p.t = k.t ∧ p.n = k.a)) {a : OA} {c : Nat} : dstep (P.map PArc.arc) k d = (P ++ [(⟨k.t, k.a, a, c, [] ++ [⟨k.e, d⟩]⟩ : PArc)]).map PArc.arc := by
 unfold dstep
 rcases Nat.eq_zero_or_pos P.length with q | q
 ·have : P = [] := List.length_eq_zero_iff.1 q
  subst this; rfl
 ·obtain ⟨P0, p, rfl⟩ := snoc_of q
  rw [List.map_append]
  simp only [List.map_cons, List.map_nil, List.getLast?_concat]
  rw [if_neg (by exact h P0 p rfl)]
  simp [PArc.arc]
theorem Dump_hs {s : Nat} {v : CS} {t : Int} (hv : CI v) (hb : v.total < 2 ^ 39) (H : Hs h (storeA s v :: L)) (kk : ∀ h' a c ks, KeysOf (fun k => (v.get k t).2) ks → ks.length ≤ v.total → Hs h' (arcsA a c (dumpOf (fun k => (v.get k t).1) ks) :: storeA s v :: L) → Q (.slice a (dumpOf (fun k => (v.get k t).1) ks).length c) h') :
  SpecH PP z211 [.pointer (some ⟨s, 0, none⟩), .int .i64 t] h Q := by
 refine z210.door ?_
 refine keys_hs (L := L) (fun _ => true) (fun k M h R H K => ?_) hv (by omega) H fun h2 ka kc ks hk hl H2 => ⟨_, _, _, rfl, ?_⟩
 ·refine y152 (by kernel_rfl) ?_
  show SpecH PP z213 [_] h R
  refine z212.door ?_
  exact K _ (H.ext (.push _ _))
 have hk : KeysOf (fun k => (v.get k t).2) ks := ⟨hk.rise, fun k => by rw [hk.mem k, Bool.and_true]⟩
 have go : ∀ (n i : Nat) {h : Heap} {P : List PArc} {a : OA} {c : Nat}, n + i = ks.length → P.map PArc.arc = dumpOf (fun k => (v.get k t).1) (ks.take i) → P.length ≤ i → (∀ p ∈ P, p.es.length ≤ i) → Hs h (own a P.length c y49 3 (P.flatMap arcV) :: Sp (P.map entA) :: own ka ks.length kc y23 3 (ks.flatMap keyV) :: storeA s v :: L) →
   z210.L1 (some ⟨s, 0, none⟩) t a P.length c ka ks.length kc (ks.length : Int) (i : Int) (z210.K1 Q) h := by
  intro n
  induction n with
  | zero =>
   intro i h P a c hi hP hPl hel H
   refine z210.L1_of (y13 (decide_eq_false (by omega)) (z210.L1_X0 ?_))
   rw [List.take_of_length_le (by omega)] at hP
   have := kk h a c ks hk hl
   rw [← hP, List.length_map] at this
   exact this ((y176.2 ⟨P, rfl, H.sel 4 [0, 1, 3]⟩))
  | succ n ih =>
   intro i h P a c hi hP hPl hel H
   refine z210.L1_of (y22 (decide_eq_true (by omega)) ?_)
   refine idxf y169 (φ := keyV) (l := ks) (x := ks[i]) (Hs.rd H.m2) keyV_len (by decide) (by omega) (by omega) (by simp) fun t1 ht => ⟨_, _, _, ht, ?_⟩
   have hP2 : dstep (P.map PArc.arc) ks[i] (v.get ks[i] t).1 = dumpOf (fun k => (v.get k t).1) (ks.take (i + 1)) := by
    rw [hP, List.take_succ_eq_append_getElem (by omega)]; unfold dumpOf; rw [List.foldl_append]; rfl
   generalize ks[i] = k at hP2 ⊢
   dsimp only
   refine Hs.wrs (b := Array.size h) (xs := [.string ⟨#[]⟩, .string ⟨#[]⟩, .string ⟨#[]⟩]) H.new (fun h3 H3 => ?_)
   generalize Array.size h = k7 at H3 ⊢
   have J2 : ∀ {h : Heap} {P0 : List PArc} {p : PArc} {a : OA} {c : Nat}, (∀ a' c', dstep (P.map PArc.arc) k (v.get k t).1 = (P0 ++ [(⟨p.t, p.n, a', c', p.es ++ [⟨k.e, (v.get k t).1⟩]⟩ : PArc)]).map PArc.arc) → (P0 ++ [p]).length ≤ i + 1 → p.es.length ≤ i → (∀ p ∈ P0, p.es.length ≤ i) →
     Hs h (own a (P0 ++ [p]).length c y49 3 ((P0 ++ [p]).flatMap arcV) :: Sp ((P0 ++ [p]).map entA) :: pt k7 y23 (keyV k) :: own ka ks.length kc y23 3 (ks.flatMap keyV) :: storeA s v :: L) →
     z210.J2 (some ⟨s, 0, none⟩) t a (P0 ++ [p]).length c ⟨k7, 0, none⟩ ka ks.length kc (ks.length : Int) (i : Int) (z210.K1 Q) h := by
    intro h P0 p a c hd hl1 hl2 hl3 H
    have hpos : (P0 ++ [p]).length = P0.length + 1 := by simp
    refine z210.J2_of ⟨_, _, _, H.m2.rdc0, ?_⟩
    refine Get_hs (k := k) hv (by omega) H.m4 fun h4 H4 => ⟨_, _, rfl, ?_⟩
    have H4 : Hs h4 (own a (P0 ++ [p]).length c y49 3 ((P0 ++ [p]).flatMap arcV) :: Sp ((P0 ++ [p]).map entA) :: pt k7 y23 (keyV k) :: own ka ks.length kc y23 3 (ks.flatMap keyV) :: storeA s v :: L) := H4.sel 5 [1, 2, 3, 4, 0]
    dsimp only
    rw [d1 (by omega) (by omega)]
    refine Hs.idx_at y118 H4 (by decide) (by omega) (by omega) fun b off ea => ?_
    subst ea
    have hx : (P0 ++ [p])[P0.length]? = some p := by simp
    have hr := H4.own_rdc (i := P0.length) y177 hx
    have ei : (((P0 ++ [p]).length - 1 : Nat) : Int).toNat = P0.length := by rw [Int.toNat_natCast]; omega
    rw [ei]
    refine ⟨_, _, _, hr.2.2.1, _, H4.m2.cell (off := 2) rfl, ?_⟩
    refine ent_app (e := ⟨k.e, (v.get k t).1⟩) (by omega) H4 fun h5 a5 c5 H5 => ⟨_, _, _, rfl, ?_⟩
    rw [add_mk]
    refine ent_wr (p := p) (p' := ⟨p.t, p.n, a5, c5, p.es ++ [⟨k.e, (v.get k t).1⟩]⟩) rfl rfl H5 fun h6 H6 => ?_
    rw [i1 (i := i) (by omega)]
    have hlen : (P0 ++ [p]).length = (P0 ++ [(⟨p.t, p.n, a5, c5, p.es ++ [⟨k.e, (v.get k t).1⟩]⟩ : PArc)]).length := by simp
    rw [hlen]
    refine ih (i + 1) (by omega) (by rw [← hP2, hd]) (by rw [← hlen]; omega) (fun q hq => ?_) (H6.sel 5 [0, 1, 3, 4])
    rcases List.mem_append.1 hq with hq | hq
    ·have := hl3 q hq; omega
    ·rw [List.mem_singleton.1 hq]; simp; omega
   have H3 : Hs h3 (own a P.length c y49 3 (P.flatMap arcV) :: Sp (P.map entA) :: pt k7 y23 (keyV k) :: own ka ks.length kc y23 3 (ks.flatMap keyV) :: storeA s v :: L) := H3.sel 3 [1, 2, 0]
   have J1t : (∀ P0 p, P = P0 ++ [p] → ¬ (p.t = k.t ∧ p.n = k.a)) → z210.J1 (some ⟨s, 0, none⟩) t a P.length c ⟨k7, 0, none⟩ ka ks.length kc (ks.length : Int) (i : Int) true (z210.K1 Q) h3 := by
    intro hne
    refine z210.J1_of (y22 rfl ⟨_, H3.m2.cell (off := 0) rfl, _, H3.m2.cell (off := 1) rfl, ?_⟩)
    refine arc_app (by omega) H3 fun h4 a' c' H4 => ⟨_, _, _, rfl, ?_⟩
    exact J2 (p := ⟨k.t, k.a, none, 0, []⟩) (fun a' c' => dstep_new hne) (by simp; omega) (by simp) hel H4
   refine (y16 _ _ _).2 ⟨fun e => J1t (fun P0 p e2 => ?_), fun e => ?_⟩
   ·have := beq_iff_eq.1 e; rw [e2] at this; simp at this; omega
   ·have hpos : 0 < P.length := by have := beq_eq_false_iff_ne.1 e; omega
    obtain ⟨P0, p, rfl⟩ := snoc_of hpos
    have hx : (P0 ++ [p])[P0.length]? = some p := by simp
    have ei : (((P0 ++ [p]).length - 1 : Nat) : Int).toNat = P0.length := by rw [Int.toNat_natCast]; simp
    rw [d1 hpos (by omega)]
    have el : ∀ {R : Addr → Heap → Prop}, (∀ t, rdCells h3 t 0 (arcV p) → R t h3) → hwp PP (Instr.indexAt y42 (.slice a (P0 ++ [p]).length c) (.int .i64 (((P0 ++ [p]).length - 1 : Nat) : Int))) (fun u h1 => ∃ t, u = .pointer (some t) ∧ R t h1) h3 := fun K =>
     idxf y118 (φ := arcV) (l := P0 ++ [p]) (x := p) H3.rd y177 (by decide) (by omega) (by omega) (by rw [ei]; exact hx) K
    refine el fun t1 ht1 => ⟨_, ht1.1, _, H3.m2.cell (off := 0) rfl, (y16 _ _ _).2 ⟨fun e1 => J1t fun P1 q e2 => ?_, fun e1 => ?_⟩⟩
    ·obtain ⟨_, e3⟩ := List.append_inj' e2 rfl
     have e3 : p = q := by simpa using e3
     subst e3
     simp at e1; exact fun q => e1 q.1
    ·refine el fun t2 ht2 => ⟨_, ht2.2.1, _, H3.m2.cell (off := 1) rfl, ?_⟩
     cases e4 : (!decide (p.n = k.a)) with
     | true =>
      refine J1t fun P1 q e2 => ?_
      obtain ⟨_, e3⟩ := List.append_inj' e2 rfl
      have e3 : p = q := by simpa using e3
      subst e3
      simp at e4; exact fun q => e4 q.2
     | false =>
      have h1 : p.t = k.t := by simpa using e1
      have h2 : p.n = k.a := by simpa using e4
      exact z210.J1_of (y13 rfl (J2 (fun a' c' => dstep_snoc ⟨h1, h2⟩) (by omega) (hel p (by simp)) (fun q hq => hel q (List.mem_append_left _ hq)) H3))
 have H3 := (y176.1 (arcs_nil H2))
 obtain ⟨P, hP, H3⟩ := H3
 have : P = [] := List.map_eq_nil_iff.1 hP
 subst this
 exact go ks.length 0 (by omega) rfl (Nat.le_refl _) (by simp) H3
end Go.Proofs.YtglcanljknjcfaaGreatDoor

namespace Go.Proofs.YtglcanljknjcfaaGreatDoor
open Go Go.HW
theorem put1_vs (v : CS) (a : Int) (w : Wr) (k : Key) : (v.put1 a w).vs k = if w.k = k then putV (v.vs k) (wver a w) else v.vs k := by
 unfold CS.put1 CS.vs
 simp only
 rw [y159]
 by_cases e : w.k = k
 ·rw [if_pos e, if_pos e, e]; rfl
 ·rw [if_neg e, if_neg e]
theorem putV_mem {vs : List Ver} {x y : Ver} (h : y ∈ putV vs x) : y = x ∨ y ∈ vs := by
 unfold putV at h
 split at h
 ·split at h
  ·rcases List.mem_append.1 h with h | h
   ·exact .inr ((List.dropLast_sublist _).subset h)
   ·exact .inl (List.mem_singleton.1 h)
  ·rcases List.mem_append.1 h with h | h
   ·exact .inr h
   ·exact .inl (List.mem_singleton.1 h)
 ·rcases List.mem_append.1 h with h | h
  ·exact .inr h
  ·exact .inl (List.mem_singleton.1 h)
theorem putV_ne (vs : List Ver) (x : Ver) : putV vs x ≠ [] := by
 unfold putV; split
 ·split <;> simp
 ·simp
theorem putV_rise {vs : List Ver} {x : Ver} (h : Rising vs) (hm : ∀ y ∈ vs, y.at_ ≤ x.at_) : Rising (putV vs x) := by
 unfold putV Rising at *
 rcases List.eq_nil_or_concat vs with e | ⟨l, y, e⟩
 ·subst e; simp
 ·rw [List.concat_eq_append] at e
  subst e
  rw [List.getLast?_concat]
  simp only [List.dropLast_concat]
  rw [List.pairwise_append] at h
  have hlast := hm y (by simp)
  split
  ·rename_i q
   refine List.pairwise_append.2 ⟨h.1, List.pairwise_singleton .., fun a ha b hb => ?_⟩
   have := h.2.2 a ha y (by simp)
   rw [List.mem_singleton.1 hb]; omega
  ·rename_i q
   refine List.pairwise_append.2 ⟨List.pairwise_append.2 h, List.pairwise_singleton .., fun a ha b hb => ?_⟩
   rw [List.mem_singleton.1 hb]
   rcases List.mem_append.1 ha with ha | ha
   ·have := h.2.2 a ha y (by simp); omega
   ·rw [List.mem_singleton.1 ha]; omega
theorem mem_mset {α β : Type} [DecidableEq α] {l : List (α × β)} {k : α} {b : β} {x : α × β} (h : x ∈ mset l k b) : x = (k, b) ∨ x ∈ l := by
 induction l with
 | nil => simp [mset] at h; exact .inl h
 | cons y l ih =>
  rw [mset] at h
  split at h
  ·rcases List.mem_cons.1 h with h | h
   ·exact .inl h
   ·exact .inr (List.mem_cons_of_mem _ h)
  ·rcases List.mem_cons.1 h with h | h
   ·exact .inr (h ▸ List.mem_cons_self ..)
   ·rcases ih h with h | h
    ·exact .inl h
    ·exact .inr (List.mem_cons_of_mem _ h)
theorem vs_mem {v : CS} {k : Key} {y : Ver} (h : y ∈ v.vs k) : ∃ x ∈ v.ch, y ∈ x.2 := by
 unfold CS.vs at h
 cases e : mget v.ch k with
 | none => rw [e] at h; cases h
 | some x => rw [e] at h; exact ⟨_, y87 e, h⟩
theorem CI.put1 {v : CS} {a : Int} {w : Wr} (h : CI v) (hn : v.now = a) (hp : 0 < a) : CI (v.put1 a w) where
 keys := nodup_mset h.keys _ _
 ne x hx := by rcases mem_mset hx with rfl | hx; exact putV_ne _ _; exact h.ne x hx
 rise x hx := by
  rcases mem_mset hx with rfl | hx
  ·refine putV_rise (CS.vs_rise h _) fun y hy => ?_
   obtain ⟨z, hz, hyz⟩ := vs_mem hy
   have := h.now z hz y hyz
   show y.at_ ≤ a; omega
  ·exact h.rise x hx
 now x hx y hy := by
  show y.at_ ≤ v.now
  rcases mem_mset hx with rfl | hx
  ·rcases putV_mem hy with rfl | hy
   ·exact Int.le_of_eq hn.symm
   ·obtain ⟨z, hz, hyz⟩ := vs_mem hy; exact h.now z hz y hyz
  ·exact h.now x hx y hy
 pos x hx y hy := by
  rcases mem_mset hx with rfl | hx
  ·rcases putV_mem hy with rfl | hy
   ·exact hp
   ·obtain ⟨z, hz, hyz⟩ := vs_mem hy; exact h.pos z hz y hyz
  ·exact h.pos x hx y hy
 floor := h.floor
theorem pruned_vs {v v' : CS} {f : Int} {g : Nat} (h : Pruned v v' f g) (k : Key) : v'.vs k = prV f (v.vs k) := by
 unfold CS.vs
 rw [h.get k]
 cases e : mget v.ch k with
 | none => rfl
 | some x =>
  show (if prV f x = [] then none else some (prV f x)).getD [] = prV f x
  split
  ·rename_i q; rw [q]; rfl
  ·rfl
theorem Pruned.ci {v v' : CS} {f : Int} {g : Nat} (h : Pruned v v' f g) (c : CI v) (hf : 0 ≤ f ∧ f ≤ v.now) : CI v' := by
 have sub : ∀ x ∈ v'.ch, ∃ y, (x.1, y) ∈ v.ch ∧ x.2 = prV f y ∧ x.2 ≠ [] := by
  intro x hx
  have hg := y105 h.nd hx
  rw [h.get] at hg
  cases e : mget v.ch x.1 with
  | none => rw [e] at hg; cases hg
  | some y =>
   rw [e] at hg
   have hg : (if prV f y = [] then none else some (prV f y)) = some x.2 := hg
   split at hg
   ·cases hg
   ·rename_i q
    have hg := Option.some.inj hg
    exact ⟨y, y87 e, hg.symm, hg ▸ q⟩
 refine ⟨h.nd, fun x hx => ?_, fun x hx => ?_, fun x hx y hy => ?_, fun x hx y hy => ?_, ?_⟩
 ·obtain ⟨_, _, _, q⟩ := sub x hx; exact q
 ·obtain ⟨y, hy, e, _⟩ := sub x hx
  rw [e]; exact (c.rise _ hy).sublist (List.drop_sublist ..)
 ·obtain ⟨z, hz, e, _⟩ := sub x hx
  rw [e] at hy; rw [h.now]; exact c.now _ hz y (List.mem_of_mem_drop hy)
 ·obtain ⟨z, hz, e, _⟩ := sub x hx
  rw [e] at hy; exact c.pos _ hz y (List.mem_of_mem_drop hy)
 ·rw [h.floor, h.now]; exact hf
theorem put_total (v : CS) (a : Int) (ws : List Wr) : (v.put a ws).total ≤ v.total + ws.length := by
 have : ∀ (ws : List Wr) (v : CS), (ws.foldl (CS.put1 a) v).total ≤ v.total + ws.length := by
  intro ws
  induction ws with
  | nil => intro v; simp
  | cons w ws ih => intro v; have := ih (v.put1 a w); have := put1_total a v w; simp; omega
 exact this ws { v with now := a }
theorem put_fl (v : CS) (a : Int) (ws : List Wr) : (v.put a ws).floor = v.floor ∧ (v.put a ws).now = a := by
 have : ∀ (ws : List Wr) (v : CS), (ws.foldl (CS.put1 a) v).floor = v.floor ∧ (ws.foldl (CS.put1 a) v).now = v.now := by
  intro ws
  induction ws with
  | nil => intro v; exact ⟨rfl, rfl⟩
  | cons w ws ih => intro v; exact ih (v.put1 a w)
 exact this ws { v with now := a }
theorem tw_snoc {α : Type} {p : α → Bool} {x : α} (hx : p x = false) : ∀ {l : List α}, (l ++ [x]).takeWhile p = l.takeWhile p
 | [] => by rw [List.nil_append, List.takeWhile_cons_of_neg (by rw [hx]; simp)]; rfl
 | y :: l => by
  rw [List.cons_append]
  cases e : p y with
  | true => rw [List.takeWhile_cons_of_pos e, List.takeWhile_cons_of_pos e, tw_snoc hx]
  | false => rw [List.takeWhile_cons_of_neg (by rw [e]; simp), List.takeWhile_cons_of_neg (by rw [e]; simp)]
theorem put_before {vs : List Ver} {x : Ver} {t : Int} (ht : t < x.at_) : getV (putV vs x) t = getV vs t := by
 have hx : (fun v : Ver => decide (v.at_ ≤ t)) x = false := decide_eq_false (by omega)
 have : pick (putV vs x) t = pick vs t := by
  unfold pick putV
  rcases List.eq_nil_or_concat vs with e | ⟨l, y, e⟩
  ·subst e; rw [List.getLast?_nil]; show (([] ++ [x] : List Ver).takeWhile fun v => decide (v.at_ ≤ t)).getLast? = _; rw [tw_snoc (p := fun v : Ver => decide (v.at_ ≤ t)) hx]
  ·rw [List.concat_eq_append] at e
   subst e
   rw [List.getLast?_concat]
   simp only [List.dropLast_concat]
   split
   ·rename_i q
    rw [tw_snoc (p := fun v : Ver => decide (v.at_ ≤ t)) hx, tw_snoc (p := fun v : Ver => decide (v.at_ ≤ t)) (decide_eq_false (by omega))]
   ·rw [tw_snoc (p := fun v : Ver => decide (v.at_ ≤ t)) hx]
 unfold getV; rw [this]
theorem get_top {vs : List Ver} {t : Int} (h : ∀ x ∈ vs, x.at_ ≤ t) : pick vs t = vs.getLast? := by
 have : vs.takeWhile (fun v => decide (v.at_ ≤ t)) = vs := by
  induction vs with
  | nil => rfl
  | cons x vs ih => rw [List.takeWhile_cons_of_pos (p := fun v : Ver => decide (v.at_ ≤ t)) (decide_eq_true (h x (List.mem_cons_self ..))), ih fun y hy => h y (List.mem_cons_of_mem _ hy)]
 unfold pick; rw [this]
theorem vs_le {v : CS} (c : CI v) (k : Key) : ∀ x ∈ v.vs k, x.at_ ≤ v.now := fun x hx => by
 obtain ⟨y, hy, hxy⟩ := vs_mem hx; exact c.now y hy x hxy
theorem mx_of {t f : Int} (h : f ≤ t) : mx t f = t := by unfold mx; rw [if_neg (by omega)]
theorem puts_before {a t : Int} (k : Key) : ∀ (ws : List Wr) {v : CS}, mx t v.floor < a → (ws.foldl (CS.put1 a) v).get k t = v.get k t
 | [], _, _ => rfl
 | w :: ws, v, h => by
  rw [List.foldl_cons, puts_before k ws (v := v.put1 a w) h]
  unfold CS.get
  rw [put1_vs]
  split
  ·exact put_before h
  ·rfl
theorem put_keeps {v : CS} {a t : Int} (k : Key) (ws : List Wr) (h : mx t v.floor < a) : (v.put a ws).get k t = v.get k t := puts_before k ws (v := { v with now := a }) h
def accW (k : Key) (p : ByteArray × Bool) (w : Wr) : ByteArray × Bool := if w.k = k then (if w.there then w.data else ⟨#[]⟩, w.there) else p
theorem puts_now {a : Int} (k : Key) : ∀ (ws : List Wr) {v : CS}, CI v → v.now = a → 0 < a → (ws.foldl (CS.put1 a) v).get k a = ws.foldl (accW k) (v.get k a)
 | [], _, _, _, _ => rfl
 | w :: ws, v, c, hn, hp => by
  rw [List.foldl_cons, List.foldl_cons, puts_now k ws (c.put1 hn hp) hn hp]
  congr 1
  have hf := c.floor
  unfold CS.get accW
  rw [put1_vs, show mx a (v.put1 a w).floor = a from mx_of (by show v.floor ≤ a; omega), mx_of (by omega)]
  split
  ·have hle : ∀ x ∈ putV (v.vs k) (wver a w), x.at_ ≤ a := fun x hx => by
    rcases putV_mem hx with rfl | hx
    ·exact Int.le_refl _
    ·have := vs_le c k x hx; omega
   unfold getV
   rw [get_top hle]
   have : (putV (v.vs k) (wver a w)).getLast? = some (wver a w) := by
    unfold putV
    split
    ·split <;> simp
    ·simp
   rw [this]
   unfold wver
   cases w.there <;> rfl
  ·rfl
theorem CI.now_up {v : CS} (h : CI v) {a : Int} (ha : v.now ≤ a) : CI { v with now := a } := ⟨h.keys, h.ne, h.rise, fun x hx y hy => by have := h.now x hx y hy; show y.at_ ≤ a; omega, h.pos, ⟨h.floor.1, by have := h.floor.2; show v.floor ≤ a; omega⟩⟩
theorem put_now {v : CS} {a : Int} (k : Key) (ws : List Wr) (c : CI v) (h : v.now < a) : (v.put a ws).get k a = ws.foldl (accW k) (v.get k v.now) := by
 have hf := c.floor
 unfold CS.put
 rw [puts_now (a := a) k ws (v := { v with now := a }) (CI.now_up (v := v) c (by omega)) rfl (by have := hf.1; omega)]
 congr 1
 unfold CS.get
 rw [show mx a ({ v with now := a } : CS).floor = a from mx_of (by show v.floor ≤ a; omega), mx_of hf.2]
 show getV (v.vs k) a = getV (v.vs k) v.now
 unfold getV
 rw [get_top (vs_le c k), get_top (fun x hx => by have := vs_le c k x hx; omega)]
theorem tw_drop {α : Type} {p : α → Bool} : ∀ {l : List α} {n : Nat}, n ≤ (l.takeWhile p).length → (l.drop n).takeWhile p = (l.takeWhile p).drop n
 | [], n, _ => by simp
 | x :: l, 0, _ => by simp
 | x :: l, n + 1, h => by
  cases e : p x with
  | true =>
   rw [List.takeWhile_cons_of_pos e] at h ⊢
   rw [List.drop_succ_cons, List.drop_succ_cons]
   exact tw_drop (by simpa using h)
  | false => rw [List.takeWhile_cons_of_neg (by rw [e]; simp)] at h; simp at h
theorem tw_le {vs : List Ver} {f t : Int} (h : f ≤ t) : cnt vs f ≤ cnt vs t := by
 unfold cnt
 induction vs with
 | nil => exact Nat.le_refl _
 | cons x vs ih =>
  by_cases e : x.at_ ≤ f
  ·rw [List.takeWhile_cons_of_pos (by simpa using e), List.takeWhile_cons_of_pos (by simpa using (by omega : x.at_ ≤ t))]
   simp only [List.length_cons]; omega
  ·rw [List.takeWhile_cons_of_neg (by simpa using e)]; simp
theorem pr_keeps {vs : List Ver} {f t : Int} (h : f ≤ t) : getV (prV f vs) t = getV vs t := by
 have hle := tw_le (vs := vs) h
 have hp : prn f vs ≤ cnt vs f := by unfold prn; split; split <;> omega; exact Nat.le_refl _
 have hd : (prV f vs).takeWhile (fun v => decide (v.at_ ≤ t)) = (vs.takeWhile fun v => decide (v.at_ ≤ t)).drop (prn f vs) := by
  unfold prV; exact tw_drop (by show prn f vs ≤ cnt vs t; omega)
 rcases Nat.lt_or_ge (prn f vs) (cnt vs t) with q | q
 ·have : pick (prV f vs) t = pick vs t := by
   unfold pick; rw [hd, List.getLast?_drop, if_neg (by show ¬ cnt vs t ≤ prn f vs; omega)]
  unfold getV; rw [this]
 ·have hc : cnt vs f = cnt vs t := by omega
  have hz : (prV f vs).takeWhile (fun v => decide (v.at_ ≤ t)) = [] := by rw [hd]; exact List.drop_eq_nil_of_le q
  have h1 : pick (prV f vs) t = none := by unfold pick; rw [hz]; rfl
  have h2 : getV (prV f vs) t = (⟨#[]⟩, false) := by unfold getV; rw [h1]
  rw [h2]
  rcases Nat.eq_zero_or_pos (cnt vs t) with z | z
  ·rw [getV_none z]
  ·rw [getV_some z]
   have hpk := pick_some (vs := vs) (t := f) (by omega)
   have hprn : prn f vs = if (vs[cnt vs f - 1]'(by have := cnt_le vs f; omega)).there then cnt vs f - 1 else cnt vs f := by unfold prn; rw [hpk]
   have e : (vs[cnt vs t - 1]'(by have := cnt_le vs t; omega)).there = false := by
    cases w : (vs[cnt vs t - 1]'(by have := cnt_le vs t; omega)).there with
    | false => rfl
    | true =>
     have w2 : (vs[cnt vs f - 1]'(by have := cnt_le vs f; omega)).there = true := by simp only [hc]; exact w
     rw [if_pos w2] at hprn; omega
   simp only [e]; rfl
end Go.Proofs.YtglcanljknjcfaaGreatDoor

set_option maxRecDepth 20000
namespace Go.Proofs.YtglcanljknjcfaaGreatDoor
open Go Go.HW
variable {h : Heap} {L : List Assn} {Q : Value → Heap → Prop}
theorem cmp_ok : Srtapi_Write.CmpOk (.func (.func z458) #[] #[]) wlt := by
 intro x y M h R H k
 refine y152 (by kernel_rfl) ?_
 show SpecH PP z458 [_, _] h R
 refine z457.door ?_
 dsimp only
 have H1 := H.new (t := y25) (cs := (wrV x).toArray) (xs := wrV x)
 have H2 := H1.new (t := y25) (cs := (wrV y).toArray) (xs := wrV y)
 refine ⟨_, H2.m1.cell (off := 0) rfl, _, H2.cell (off := 0) rfl, _, y171 _ _, _, rfl, _, H2.m1.cell (off := 1) rfl, _, H2.cell (off := 1) rfl, _, y171 _ _, _, rfl, _, H2.m1.cell (off := 2) rfl, _, H2.cell (off := 2) rfl, _, y171 _ _, _, rfl, ?_⟩
 refine or_hs (H2.tl.tl.new (xs := [.int .i64 (cmpI x.k.t y.k.t), .int .i64 (cmpI x.k.a y.k.a), .int .i64 (cmpI x.k.e y.k.e)])) fun h4 H4 => ⟨_, rfl, k h4 _ ?_ H4⟩
 exact cmp3 x.k y.k
theorem Values1_hs {y : Value} {t1 r : Nat} {l : List (Key × Wr)} (A : List Wr → Assn) (hy : ∀ (done : List Wr) (w : Wr) (M : List Assn) (h : Heap) (R : VP), done.length < l.length → Hs h (A done :: M) → (∀ h', Hs h' (A (done ++ [w]) :: M) → R (.bool true) h') → callV PP y [.agg (wrV w).toArray] R h)
  (H : Hs h (A [] :: mp keyA wrA r l :: pt t1 y38 [.map (some r)] :: L)) (k : ∀ h' done, done.Perm (l.map (·.2)) → Hs h' (A done :: mp keyA wrA r l :: pt t1 y38 [.map (some r)] :: L) → Q (.tuple #[]) h') :
  SpecH PP z269 [y, .pointer (some ⟨t1, 0, none⟩)] h Q := by
 refine z268.door ⟨_, H.m2.cell (off := 0) rfl, ?_⟩
 refine H.m1.range (t := y38) y111 fun h1 i H1 => ⟨_, rfl, ?_⟩
 have go : ∀ (m : Nat) {h : Heap} {done todo : List (Key × Wr)}, todo.length ≤ m → Hs h (rgn keyA wrA r i l done todo :: A (done.map (·.2)) :: pt t1 y38 [.map (some r)] :: L) →
   z268.L1 y (.pointer (some ⟨i, 0, none⟩)) (z268.K1 Q) h := by
  intro m
  induction m with
  | zero =>
   intro h done todo hm H
   refine z268.L1_of ?_
   refine H.next (fun e => ⟨false, [], rfl, y13 rfl (z268.L1_X0 ?_)⟩) (fun h' x todo' p _ => by have := p.length_eq; simp at this; omega)
   have hp := H.rgn_perm
   rw [e, List.append_nil] at hp
   exact k h _ (hp.map _) H.rgn_end.m1
  | succ m ih =>
   intro h done todo hm H
   refine z268.L1_of ?_
   have hp := H.rgn_perm
   refine H.next (fun e => ⟨false, [], rfl, y13 rfl (z268.L1_X0 ?_)⟩) (fun h' x todo' p H2 => ⟨true, [keyA x.1, wrA x.2], rfl, y22 rfl ?_⟩)
   ·rw [e, List.append_nil] at hp
    exact k h _ (hp.map _) H.rgn_end.m1
   ·have hl := p.length_eq
    have hl2 := hp.length_eq
    simp only [List.length_append, List.length_cons] at hl hl2
    refine H2.entry ⟨_, _, rfl, _, _, _, _, _, rfl, ?_⟩
    dsimp only
    refine Hs.wrs (b := Array.size h') (xs := [.string ⟨#[]⟩, .string ⟨#[]⟩, .string ⟨#[]⟩, .bool false, .string ⟨#[]⟩]) H2.new (fun h3 H3 => ⟨_, _, _, _, _, H3.rdc0, ?_⟩)
    refine hy (done.map (·.2)) x.2 _ _ _ (by simp; omega) H3.m2 fun h4 H4 => ⟨_, rfl, y13 rfl ?_⟩
    refine ih (todo := todo') (done := done ++ [x]) (by omega) ?_
    rw [List.map_append]
    exact (H4.m1.tl).m1
 exact go l.length (Nat.le_refl _) H1
theorem wr_app {l : List Wr} {a : OA} {c : Nat} {w : Wr} {h : Heap} {K : VP} (hs : l.length ≤ 2 ^ 30) (H : Hs h (own a l.length c y25 5 (l.flatMap wrV) :: L))
  (k : ∀ h' a' c', Hs h' (own a' (l ++ [w]).length c' y25 5 ((l ++ [w]).flatMap wrV) :: L) → K (.slice a' (l ++ [w]).length c') h') :
  hwp PP (Builtin.append_ #[y11, y11] y11 #[.slice a l.length c, .slice (some ⟨Array.size h, 0, none⟩) 1 1]) K (Array.push h (.cells (wrV w).toArray y25 (0, 0))) := by
 refine H.app_vals y122 (m := 1) (ys := wrV w) rfl rfl (by intro v hv; simp [wrV] at hv; rcases hv with rfl | rfl | rfl | rfl | rfl <;> rfl) (fun h' a' c' H' => ?_) (by omega) (by omega)
 have e : l.flatMap wrV ++ wrV w = (l ++ [w]).flatMap wrV := by simp
 rw [e] at H'
 have := k h' a' c'
 rw [List.length_append] at this
 exact this H'
def VA (out l df : Nat) (Lp : Loop) (dn : List Wr) : Assn := fun m => ∃ a c, Sp [ob l (.loop Lp), ob df (.deferred (some [])), pt out y11 [.slice a dn.length c], own a dn.length c y25 5 (dn.flatMap wrV)] m
theorem VA_open {out l df : Nat} {Lp : Loop} {dn : List Wr} {M : List Assn} : Hs h (VA out l df Lp dn :: M) ↔ ∃ a c, Hs h (ob l (.loop Lp) :: ob df (.deferred (some [])) :: pt out y11 [.slice a dn.length c] :: own a dn.length c y25 5 (dn.flatMap wrV) :: M) := by
 unfold VA
 simp only [Hs.ex, Hs.app, List.cons_append, List.nil_append]
theorem Sorted_hs {r t1 : Nat} {l : List (Key × Wr)} (hl : l.length ≤ 2 ^ 20) (H : Hs h (mp keyA wrA r l :: pt t1 y38 [.map (some r)] :: L))
  (k : ∀ h' a c (e : List Wr), e.Perm (l.map (·.2)) → e.Pairwise (fun x y => wlt y x = false) → Hs h' (own a e.length c y25 5 (e.flatMap wrV) :: mp keyA wrA r l :: pt t1 y38 [.map (some r)] :: L) → Q (.slice a e.length c) h') :
  SpecH PP z315 [.func (.func z269) #[] #[.pointer (some ⟨t1, 0, none⟩)], .func (.func z458) #[] #[]] h Q := by
 refine z314.door ?_
 have coll : ∀ {Q : Value → Heap → Prop}, (∀ h' a c (dn : List Wr), dn.Perm (l.map (·.2)) → Hs h' (own a dn.length c y25 5 (dn.flatMap wrV) :: mp keyA wrA r l :: pt t1 y38 [.map (some r)] :: L) → Q (.slice a dn.length c) h') →
   SpecH PP z287 [.slice none 0 0, .func (.func z269) #[] #[.pointer (some ⟨t1, 0, none⟩)]] h Q := by
  intro Q k
  obtain ⟨m, sm, s0, HE⟩ := Hs.em2 (As := [mp keyA wrA r l, pt t1 y38 [.map (some r)]]) H
  refine SpecH.keepD (z286.door ?_)
  dsimp only
  have H1 := HE.new (t := y11) (cs := #[.slice none 0 0]) (xs := [.slice none 0 0])
  generalize Array.push h (.cells #[.slice none 0 0] y11 (0, 0)) = h1 at H1 ⊢
  generalize Array.size h = out at H1 ⊢
  refine ⟨z269, #[], #[.pointer (some ⟨t1, 0, none⟩)], rfl, by kernel_rfl, fun fn tmps hf => ?_⟩
  generalize hL : (Loop.mk .ready none fn tmps #[7] (z286.cd 52) (z286.cd 53) h1.size) = Lp
  have H3 := (H1.push (.deferred (some []))).push (.loop Lp)
  rw [Array.size_push] at H3
  generalize (Array.push (Array.push h1 (.deferred (some []))) (.loop Lp)) = h3 at H3 ⊢
  generalize Array.size h1 = df at H3 hL ⊢
  show SpecH PP z269 [_, _] _ _
  refine Values1_hs (r := r) (l := l) (L := [Em m]) (VA out (df + 1) df Lp) ?_ ?_ ?_
  ·intro dn w M h R hdn H rt
   obtain ⟨a2, c2, H⟩ := VA_open.1 H
   refine z286.R1_yield (s2 := ⟨out, 0, none⟩) (t4 := none) (t4n := 0) (t4c := 0) H.get (by rw [← hL]) (by rw [← hL]) (by rw [← hL]) (by rw [← hL]; exact hf) (z286.R1_of ?_)
   dsimp only
   refine Hs.wrs (b := Array.size h) (xs := [.string ⟨#[]⟩, .string ⟨#[]⟩, .string ⟨#[]⟩, .bool false, .string ⟨#[]⟩]) H.new (fun h2 H2 => ?_)
   generalize Array.size h = x at H2 ⊢
   refine ⟨Lp, H2.m1.get, by rw [← hL], ?_⟩
   have H3 := H2.m1.set (.loop { Lp with state := .busy })
   generalize h2.setIfInBounds (df + 1) (.loop { Lp with state := .busy }) = h3 at H3 ⊢
   refine ⟨_, _, _, H3.m3.cell (off := 0) rfl, _, _, _, _, _, H3.m1.rdc0, ?_⟩
   refine wr_app (w := w) (by omega) H3.m4 fun h5 a5 c5 H5 => ⟨_, _, _, rfl, ?_⟩
   refine (H5.m4).sto (off := 0) (by simp) fun h6 H6 => ?_
   refine ⟨{ Lp with state := .busy }, H6.m2.get, ?_⟩
   have eL : endL { Lp with state := .busy } none = .loop Lp := by rw [← hL]; rfl
   rw [eL]
   have H7 := H6.m2.set (.loop Lp)
   refine rt _ (VA_open.2 ⟨a5, c5, ?_⟩)
   exact (H7.m4.m4.tl).m1
  ·refine VA_open.2 ⟨none, 0, ?_⟩
   have H4 := H3.own_nil y25 5
   exact H4.m3.m3.m3
  ·intro h' dn p H
   obtain ⟨a2, c2, H⟩ := VA_open.1 H
   refine ⟨Lp, H.get, by rw [← hL]; simp, H.m1.get, ?_⟩
   have H4 := H.set (.loop { Lp with state := .exhausted })
   generalize h'.setIfInBounds (df + 1) (.loop { Lp with state := .exhausted }) = h4 at H4 ⊢
   rw [show Lp.pending = none by rw [← hL]]
   show z286.K1 _ .normal _ _
   refine z286.R1_outn0 ⟨_, _, _, (H4.m2).cell (off := 0) rfl, fun h5 tk kd => ?_⟩
   refine k h5 a2 c2 dn p (Hs.takes2 (As := [_, _, _]) (M := []) (?_ : Hs h4 ([_, _, _] ++ Em m :: [])) sm s0 tk kd ?_)
   ·exact H4.tl.tl.tl
   ·intro A hA m hm
    simp only [List.mem_cons, List.not_mem_nil, or_false] at hA
    rcases hA with rfl | rfl | rfl
    ·exact nd_own hm
    ·exact nd_mp hm
    ·exact nd_pt hm
 refine z292.door (coll fun h1 a c dn p H1 => ⟨_, _, _, rfl, ⟨_, _, _, rfl, ?_⟩⟩)
 have hsz : (dn.toArray).size = dn.length := by simp
 have hlen : dn.length = l.length := by rw [p.length_eq, List.length_map]
 have H2 : Hs h1 (Srtapi_Write.S a dn.length c dn.toArray :: mp keyA wrA r l :: pt t1 y38 [.map (some r)] :: L) := H1
 refine Srtapi_Write.SortFunc_hs cmp_ok wlt_swo (by omega) H2 fun h3 e pe he H3 => ⟨rfl, ?_⟩
 have hn := Srtapi_Write.S_size H3
 have hel : e.toList.length = dn.length := by rw [Array.length_toList, hn]
 have := k h3 a c e.toList (pe.trans p) ?_
 ·rw [hel] at this; exact this H3
 ·rw [List.pairwise_iff_getElem]
  intro i j hi hj hij
  have := he i j hij (by rw [hel] at hj; exact hj)
  rw [getElem!_pos e j (by omega), getElem!_pos e i (by omega)] at this
  simpa using this
end Go.Proofs.YtglcanljknjcfaaGreatDoor

set_option maxRecDepth 20000
namespace Go.Proofs.YtglcanljknjcfaaGreatDoor
open Go Go.HW
variable {h : Heap} {L : List Assn} {Q : Value → Heap → Prop}
structure VS where
 at_ : Int
 rd : List (Key × Bool)
 ls : List (Bx × Bool)
 st : List (Key × Wr)
def setA (s : Nat) (v : VS) : Assn := fun m => ∃ r1 r2 r3, Sp [pt s y195 [.int .i64 v.at_, .map (some r1), .map (some r2), .map (some r3)], mp keyA Value.bool r1 v.rd, mp bxA Value.bool r2 v.ls, mp keyA wrA r3 v.st] m
theorem y94 {s : Nat} {v : VS} : Hs h (setA s v :: L) ↔ ∃ r1 r2 r3, Hs h (pt s y195 [.int .i64 v.at_, .map (some r1), .map (some r2), .map (some r3)] :: mp keyA Value.bool r1 v.rd :: mp bxA Value.bool r2 v.ls :: mp keyA wrA r3 v.st :: L) := by
 unfold setA
 simp only [Hs.ex, Hs.app, List.cons_append, List.nil_append]
def VS.new (a : Int) : VS := ⟨a, [], [], []⟩
def VS.read (v : VS) (k : Key) : VS := { v with rd := mset v.rd k true }
def VS.list (v : VS) (b : Bx) : VS := { v with ls := mset v.ls b true }
def VS.put (v : VS) (w : Wr) : VS := { v with st := mset v.st w.k w }
structure VI (v : VS) : Prop where
 rd : ∀ x ∈ v.rd, x.2 = true
 ls : ∀ x ∈ v.ls, x.2 = true
 st : ∀ x ∈ v.st, x.2.k = x.1
theorem VNew_hs {a : Int} (H : Hs h L) (k : ∀ h' s, Hs h' (setA s (.new a) :: L) → Q (.pointer (some ⟨s, 0, none⟩)) h') : SpecH PP z438 [.int .i64 a] h Q := by
 refine z437.door ?_
 have H1 := H.mp_new (κ := keyA) (ν := Value.bool)
 have H2 := H1.mp_new (κ := bxA) (ν := Value.bool)
 have H3 := H2.mp_new (κ := keyA) (ν := wrA)
 have H4 := H3.new (t := y195) (cs := #[.int .i64 a, .map (some (Array.size h)), .map (some (Array.size (h.push (.map #[] 0)))), .map (some (Array.size ((h.push (.map #[] 0)).push (.map #[] 0))))])
  (xs := [.int .i64 a, .map (some (Array.size h)), .map (some (Array.size (h.push (.map #[] 0)))), .map (some (Array.size ((h.push (.map #[] 0)).push (.map #[] 0))))])
 exact k _ _ (y94.2 ⟨_, _, _, H4.m1.m2.m3.m3⟩)
theorem VRead_hs {s : Nat} {v : VS} {k : Key} (H : Hs h (setA s v :: L)) (kk : ∀ h', Hs h' (setA s (v.read k) :: L) → Q (.tuple #[]) h') : SpecH PP z454 [.pointer (some ⟨s, 0, none⟩), keyA k] h Q := by
 obtain ⟨r1, r2, r3, H⟩ := y94.1 H
 refine z453.door ?_
 dsimp only
 have H1 := H.new (t := y23) (cs := (keyV k).toArray) (xs := keyV k)
 refine y22 rfl ⟨_, H1.m1.cell (off := 1) rfl, _, _, _, H1.rdc0, ?_⟩
 refine H1.m2.mset (t := y137) y207 KeyK k true rfl fun h2 H2 => kk h2 (y94.2 ⟨r1, r2, r3, ?_⟩)
 exact (H2.m1.tl).m1
theorem VList_hs {s : Nat} {v : VS} {b : Bx} (H : Hs h (setA s v :: L)) (kk : ∀ h', Hs h' (setA s (v.list b) :: L) → Q (.tuple #[]) h') : SpecH PP z448 [.pointer (some ⟨s, 0, none⟩), bxA b] h Q := by
 obtain ⟨r1, r2, r3, H⟩ := y94.1 H
 refine z447.door ?_
 dsimp only
 have H1 := H.new (t := y74) (cs := (bxV b).toArray) (xs := bxV b)
 refine y22 rfl ⟨_, H1.m1.cell (off := 2) rfl, _, _, H1.rdc0, ?_⟩
 refine H1.m3.mset (t := y136) y206 BoxK b true rfl fun h2 H2 => kk h2 (y94.2 ⟨r1, r2, r3, ?_⟩)
 exact (H2.m1.tl).m2.m2
theorem VPut_hs {s : Nat} {v : VS} {k : Key} {d : ByteArray} (H : Hs h (setA s v :: L)) (kk : ∀ h', Hs h' (setA s (v.put ⟨k, true, d⟩) :: L) → Q (.tuple #[]) h') : SpecH PP z452 [.pointer (some ⟨s, 0, none⟩), keyA k, .string d] h Q := by
 obtain ⟨r1, r2, r3, H⟩ := y94.1 H
 refine z451.door ?_
 dsimp only
 have H1 := H.new (t := y23) (cs := (keyV k).toArray) (xs := keyV k)
 refine y22 rfl ⟨_, H1.m1.cell (off := 3) rfl, _, _, _, H1.rdc0, _, _, _, H1.rdc0, ?_⟩
 refine H1.m4.mset (t := y38) y111 KeyK k (⟨k, true, d⟩ : Wr) rfl fun h2 H2 => kk h2 (y94.2 ⟨r1, r2, r3, ?_⟩)
 exact (H2.m1.tl).m3.m3.m3
theorem VDelete_hs {s : Nat} {v : VS} {k : Key} (H : Hs h (setA s v :: L)) (kk : ∀ h', Hs h' (setA s (v.put ⟨k, false, ⟨#[]⟩⟩) :: L) → Q (.tuple #[]) h') : SpecH PP z446 [.pointer (some ⟨s, 0, none⟩), keyA k] h Q := by
 obtain ⟨r1, r2, r3, H⟩ := y94.1 H
 refine z445.door ?_
 dsimp only
 have H1 := H.new (t := y23) (cs := (keyV k).toArray) (xs := keyV k)
 refine y22 rfl ⟨_, H1.m1.cell (off := 3) rfl, _, _, _, H1.rdc0, _, _, _, H1.rdc0, ?_⟩
 refine H1.m4.mset (t := y38) y111 KeyK k (⟨k, false, ⟨#[]⟩⟩ : Wr) rfl fun h2 H2 => kk h2 (y94.2 ⟨r1, r2, r3, ?_⟩)
 exact (H2.m1.tl).m3.m3.m3
theorem VAt_hs {s : Nat} {v : VS} (H : Hs h (setA s v :: L)) (kk : Q (.int .i64 v.at_) h) : SpecH PP z440 [.pointer (some ⟨s, 0, none⟩)] h Q := by
 obtain ⟨r1, r2, r3, H⟩ := y94.1 H
 exact z439.door (y13 rfl ⟨_, H.cell (off := 0) rfl, kk⟩)
theorem VWrites_hs {s : Nat} {v : VS} (hv : VI v) (hl : v.st.length ≤ 2 ^ 20) (H : Hs h (setA s v :: L)) (kk : ∀ h' a c (e : List Wr), e.Perm (v.st.map (·.2)) → Rise e → Hs h' (own a e.length c y25 5 (e.flatMap wrV) :: setA s v :: L) → Q (.slice a e.length c) h') :
  SpecH PP z456 [.pointer (some ⟨s, 0, none⟩)] h Q := by
 obtain ⟨r1, r2, r3, H⟩ := y94.1 H
 refine z455.door (y13 rfl ?_)
 refine ⟨_, H.cell (off := 3) rfl, z266.door ?_⟩
 dsimp only
 have H1 := H.new (t := y38) (cs := #[.map (some r3)]) (xs := [.map (some r3)])
 refine ⟨_, rfl, Sorted_hs (r := r3) (l := v.st) hl H1.m4 fun h2 a c e p hs H2 => ⟨_, _, _, rfl, kk h2 a c e p ?_ ?_⟩⟩
 ·have hnd : (v.st.map (·.1)).Nodup := (H1.m4).mp_nodup
  have hk : (v.st.map (·.2)).map (·.k) = v.st.map (·.1) := by
   rw [List.map_map]; exact List.map_congr_left fun x hx => hv.st x hx
  have hn2 : (e.map (·.k)).Nodup := by
   have := (p.map (·.k)).nodup_iff.2 (by rw [hk]; exact hnd)
   exact this
  unfold Rise
  rw [List.pairwise_iff_getElem] at hs ⊢
  intro i j hi hj hij
  have h1 := hs i j hi hj hij
  cases e2 : wlt e[i] e[j] with
  | true => rfl
  | false =>
   have e3 : e[i].k = e[j].k := klt_tri e2 h1
   exfalso
   have := List.pairwise_iff_getElem.1 hn2 i j (by simpa using hi) (by simpa using hj) hij
   simp only [List.getElem_map] at this
   exact this e3
 ·refine (y94.2 ⟨r1, r2, r3, ?_⟩ : Hs h2 (setA s v :: own a e.length c y25 5 (e.flatMap wrV) :: L)).m1
  exact (H2.m2.tl).m1.m4.m4.m4
end Go.Proofs.YtglcanljknjcfaaGreatDoor

set_option maxRecDepth 20000
namespace Go.Proofs.YtglcanljknjcfaaGreatDoor
open Go Go.HW
variable {h : Heap} {L : List Assn} {Q : Value → Heap → Prop}
def noW : Wr := ⟨⟨⟨#[]⟩, ⟨#[]⟩, ⟨#[]⟩⟩, false, ⟨#[]⟩⟩
def VS.own (v : VS) (k : Key) : Wr × Bool := match mget v.st k with | some w => (w, true) | none => (noW, false)
theorem zW : (PP.info? y25).bind (·.zero) = some (wrA noW) := by kernel_rfl
theorem zB : (PP.info? T_bool).bind (·.zero) = some (.bool false) := by kernel_rfl
theorem VOwn_hs {s : Nat} {v : VS} {k : Key} (H : Hs h (setA s v :: L)) (kk : ∀ h', Hs h' (setA s v :: L) → Q (.tuple #[wrA (v.own k).1, .bool (v.own k).2]) h') : SpecH PP z450 [.pointer (some ⟨s, 0, none⟩), keyA k] h Q := by
 obtain ⟨r1, r2, r3, H⟩ := y94.1 H
 refine z449.door ?_
 dsimp only
 have H1 := H.new (t := y23) (cs := (keyV k).toArray) (xs := keyV k)
 have H2 := H1.new (t := y25) (cs := (wrV noW).toArray) (xs := wrV noW)
 have key : (match mget v.st k with | some w => Value.tuple #[wrA w, .bool true] | none => .tuple #[wrA noW, .bool false]) = .tuple #[wrA (v.own k).1, .bool (v.own k).2] := by
  unfold VS.own; cases mget v.st k <;> rfl
 have J : ∀ {h : Heap} {w6 t4 : Nat}, Hs h (pt w6 y25 (wrV (v.own k).1) :: pt t4 y25 (wrV noW) :: setA s v :: L) → z449.J1 ⟨t4, 0, none⟩ ⟨w6, 0, none⟩ (v.own k).2 Q h := by
  intro h w6 t4 H
  refine z449.J1_of ⟨_, _, _, _, _, H.rdc0, ?_⟩
  refine H.m1.wrs (fun h2 H2 => ⟨_, _, _, _, _, H2.rdc0, kk h2 H2.tl.tl⟩)
 refine y13 rfl ⟨_, H2.m2.cell (off := 3) rfl, _, _, _, H2.m1.rdc0, ?_, ?_, trivial⟩
 ·refine H2.m5.lookup2 (t := y38) y111 KeyK zW k ?_
  refine ⟨(v.own k).1.k.t, (v.own k).1.k.a, (v.own k).1.k.e, (v.own k).1.there, (v.own k).1.data, (v.own k).2, by unfold VS.own; cases mget v.st k <;> rfl, ?_⟩
  refine Hs.wrs (xs := wrV noW) H2.new (fun h3 H3 => J (t4 := Array.size (Array.push h (.cells (keyV k).toArray y23 (0, 0)))) ?_)
  exact (y94.2 ⟨r1, r2, r3, H3.m6.m6.m6.m6⟩).m3.tl.m2.m2
 ·have H3 := H2.new (t := y25) (cs := (wrV noW).toArray) (xs := wrV noW)
  refine H3.m6.lookup2 (t := y38) y111 KeyK zW k ?_
  refine ⟨(v.own k).1.k.t, (v.own k).1.k.a, (v.own k).1.k.e, (v.own k).1.there, (v.own k).1.data, (v.own k).2, by unfold VS.own; cases mget v.st k <;> rfl, ?_⟩
  refine H3.wrs (fun h4 H4 => J (t4 := Array.size (Array.push h (.cells (keyV k).toArray y23 (0, 0)))) ?_)
  exact (y94.2 ⟨r1, r2, r3, H4.m6.m6.m6.m6⟩).m3.tl.m2.m2
def VS.meets (v : VS) (k : Key) : Bool := (mget v.rd k).isSome || (mget v.ls ⟨k.t, k.a⟩).isSome
def VS.clash (v : VS) (x : Cm) : Bool := decide (x.at_ > v.at_) && x.ws.any fun w => v.meets w.k
theorem VClash1_hs {s c1 : Nat} {v : VS} {w : Wr} (hv : VI v) (H : Hs h (pt c1 y127 [.pointer (some ⟨s, 0, none⟩)] :: setA s v :: L)) (kk : ∀ h', Hs h' (pt c1 y127 [.pointer (some ⟨s, 0, none⟩)] :: setA s v :: L) → Q (.bool (v.meets w.k)) h') :
  SpecH PP z444 [wrA w, .pointer (some ⟨c1, 0, none⟩)] h Q := by
 obtain ⟨r1, r2, r3, H0⟩ := y94.1 H.m1
 refine z443.door ?_
 dsimp only
 have H1 := H0.new (t := y25) (cs := (wrV w).toArray) (xs := wrV w)
 have back : ∀ {h' : Heap}, Hs h' (pt (Array.size h) y25 (wrV w) :: pt s y195 [.int .i64 v.at_, .map (some r1), .map (some r2), .map (some r3)] :: mp keyA Value.bool r1 v.rd :: mp bxA Value.bool r2 v.ls :: mp keyA wrA r3 v.st :: pt c1 y127 [.pointer (some ⟨s, 0, none⟩)] :: L) → Hs h' (pt c1 y127 [.pointer (some ⟨s, 0, none⟩)] :: setA s v :: L) := fun H => (y94.2 ⟨r1, r2, r3, H.tl⟩).m1
 refine ⟨_, H1.m5.cell (off := 0) rfl, ?_⟩
 dsimp only [nilc]
 refine ⟨_, H1.m1.cell (off := 1) rfl, _, _, _, H1.rdo 0 rfl, ?_⟩
 refine H1.m2.lookup1 (t := y137) y207 KeyK zB w.k ?_
 refine ⟨(mget v.rd w.k).isSome, by
  cases e : mget v.rd w.k with
  | none => rfl
  | some b => have := hv.rd _ (y87 e); simp only at this; subst this; rfl, ?_⟩
 unfold VS.meets at kk
 refine (y16 _ _ _).2 ⟨fun e => ?_, fun e => ?_⟩
 ·rw [e] at kk; exact kk _ (back H1)
 ·refine ⟨_, H1.m5.cell (off := 0) rfl, ?_⟩
  dsimp only [nilc]
  refine ⟨_, H1.m1.cell (off := 2) rfl, _, H1.cell (off := 0) rfl, _, H1.cell (off := 1) rfl, ?_⟩
  refine H1.m3.lookup1 (t := y136) y206 BoxK zB (⟨w.k.t, w.k.a⟩ : Bx) ?_
  refine ⟨(mget v.ls ⟨w.k.t, w.k.a⟩).isSome, by
   cases e : mget v.ls ⟨w.k.t, w.k.a⟩ with
   | none => rfl
   | some b => have := hv.ls _ (y87 e); simp only at this; subst this; rfl, ?_⟩
  rw [e] at kk; exact kk _ (back H1)
theorem VClash_hs {s : Nat} {v : VS} {x : Cm} (hv : VI v) (hx : CmOk L x) (H : Hs h (setA s v :: L)) (kk : ∀ h', Hs h' (setA s v :: L) → Q (.bool (v.clash x)) h') : SpecH PP z442 [.pointer (some ⟨s, 0, none⟩), .agg (cmV x).toArray] h Q := by
 refine z441.door ?_
 dsimp only
 have H1 := H.new (t := y127) (cs := #[.pointer (some ⟨s, 0, none⟩)]) (xs := [.pointer (some ⟨s, 0, none⟩)])
 have H2 := H1.new (t := y36) (cs := (cmV x).toArray) (xs := cmV x)
 generalize hs2 : Array.size h = s2 at H2 ⊢
 refine ⟨_, H2.m1.cell (off := 0) rfl, y22 rfl ⟨_, H2.cell (off := 0) rfl, _, H2.m1.cell (off := 0) rfl, ?_⟩⟩
 dsimp only [nilc]
 obtain ⟨r1, r2, r3, H0⟩ := y94.1 H2.m2
 refine ⟨_, H0.cell (off := 0) rfl, ?_⟩
 unfold VS.clash at kk
 refine (y16 _ _ _).2 ⟨fun e => ?_, fun e => ?_⟩
 ·rw [e, Bool.true_and] at kk
  refine ⟨_, _, _, H2.cell (off := 1) rfl, ?_⟩
  refine z294.door (z304.door ?_)
  have hn := hx.n
  have hlt := hx.lt
  have fin : ∀ {t : Int} {h' : Heap}, decide (t ≥ 0) = x.ws.any (fun w => v.meets w.k) → Hs h' (pt s2 y127 [.pointer (some ⟨s, 0, none⟩)] :: setA s v :: L) → ∃ (t7 : Int), Value.int .i64 t = .int .i64 t7 ∧ (let t8 : Bool := decide (t7 ≥ 0); ∃ t20, Value.bool t8 = .bool t20 ∧ Q (.bool t20) h') := by
   intro t h' e H
   refine ⟨_, rfl, _, rfl, ?_⟩
   rw [e]; exact kk h' H.tl
  have go : ∀ (r i : Nat) {h : Heap}, r + i = x.n → (x.ws.drop i).any (fun w => v.meets w.k) = x.ws.any (fun w => v.meets w.k) → Hs h (pt s2 y127 [.pointer (some ⟨s, 0, none⟩)] :: setA s v :: L) →
    z304.L1 x.a x.n x.c (.func (.func z444) #[] #[.pointer (some ⟨s2, 0, none⟩)]) (x.n : Int) (i : Int) (z304.K1 (fun v h1 => ∃ (t7 : Int), v = .int .i64 t7 ∧ (let t8 : Bool := decide (t7 ≥ 0); ∃ t20, Value.bool t8 = .bool t20 ∧ Q (.bool t20) h1))) h := by
   intro r
   induction r with
   | zero =>
    intro i h hi he H
    refine z304.L1_of (y13 (decide_eq_false (by omega)) (z304.L1_X0 (fin ?_ H)))
    rw [← he, List.drop_of_length_le (by omega)]; rfl
   | succ r ih =>
    intro i h hi he H
    refine z304.L1_of (y22 (decide_eq_true (by omega)) ?_)
    rw [List.drop_eq_getElem_cons (by omega), List.any_cons] at he
    refine idxf y122 (φ := wrV) (l := x.ws) (x := x.ws[i]) (hx.rd _ H.tl.tl) (fun _ => rfl) (by decide) (by omega) (by omega) (by simp) fun t ht => ⟨_, _, _, _, _, ht, ?_⟩
    refine y152 (by kernel_rfl) ?_
    show SpecH PP z444 [_, _] h _
    refine VClash1_hs (w := x.ws[i]) hv H fun h2 H2 => ⟨_, rfl, (y16 _ _ _).2 ⟨fun e2 => z304.L1_Xret (fin ?_ H2), fun e2 => ?_⟩⟩
    ·rw [← he, e2]; simp
    ·dsimp only
     rw [show IntKind.i64.wrap ((i : Int) + 1) = ((i + 1 : Nat) : Int) by rw [y34 (by omega) (by omega)]; omega]
     rw [e2, Bool.false_or] at he
     exact ih (i + 1) (by omega) he H2
  exact go x.n 0 (by omega) rfl H2.tl
 ·rw [e, Bool.false_and] at kk
  exact kk _ H2.tl.tl
end Go.Proofs.YtglcanljknjcfaaGreatDoor

namespace Go.Proofs
open Go.Shelf
def Tryz.lays137_ren : Go.Shelf.Ren := ⟨fun | 137 => 181 | 217 => 200 | 266 => 206 | n => n, fun | 9 => 9 | 5 => 5 | 3 => 3 | n => n, fun | n => n⟩
theorem Tryz.lays137 : Go.Proofs.Lays.n137 Tryz.prog Tryz.lays137_ren := {
 mixed := by kernel_rfl
 f137 := Tryz.func181.trans (congrArg some (by kernel_rfl))
 f217 := Tryz.func200.trans (congrArg some (by kernel_rfl))
 f266 := Tryz.func206.trans (congrArg some (by kernel_rfl))
 t3 := Tryz.underlying3
 a3 := Tryz.isAgg3
 z3 := Tryz.sizeOf3
 v3 := Tryz.zeroValue3
 t5 := Tryz.underlying5
 a5 := Tryz.isAgg5
 z5 := Tryz.sizeOf5
 v5 := Tryz.zeroValue5
 t9 := Tryz.underlying9
 a9 := Tryz.isAgg9
 z9 := Tryz.sizeOf9
 v9 := Tryz.zeroValue9 }
open Go.RowKit in
theorem Tryz.strings_IndexByte (s : ByteArray) (c : Int) (w : World) :
  Calls Tryz.prog 181 #[.string s, .int .u8 c] w fun e w' => e = .returned (.int .i64 (Lib.indexByte s.data.toList c.toNat.toUInt8)) ∧ w' = w := Any.strings_IndexByte Tryz.lays137 s c w
def Tryz.lays143_ren : Go.Shelf.Ren := ⟨fun | 143 => 180 | 219 => 199 | 217 => 200 | 225 => 184 | 224 => 183 | 267 => 205 | 266 => 206 | 314 => 208 | n => n, fun | 9 => 9 | 3 => 3 | 4 => 4 | 5 => 5 | 46 => 185 | 146 => 266 | 51 => 213 | n => n, fun | 1 => 0 | n => n⟩
theorem Tryz.lays143 : Go.Proofs.Lays.n143 Tryz.prog Tryz.lays143_ren := {
 mixed := by kernel_rfl
 f143 := Tryz.func180.trans (congrArg some (by kernel_rfl))
 f217 := Tryz.func200.trans (congrArg some (by kernel_rfl))
 f219 := Tryz.func199.trans (congrArg some (by kernel_rfl))
 f224 := Tryz.func183.trans (congrArg some (by kernel_rfl))
 f225 := Tryz.func184.trans (congrArg some (by kernel_rfl))
 f266 := Tryz.func206.trans (congrArg some (by kernel_rfl))
 f267 := Tryz.func205.trans (congrArg some (by kernel_rfl))
 f314 := Tryz.func208.trans (congrArg some (by kernel_rfl))
 t3 := Tryz.underlying3
 a3 := Tryz.isAgg3
 z3 := Tryz.sizeOf3
 v3 := Tryz.zeroValue3
 t4 := Tryz.underlying4
 a4 := Tryz.isAgg4
 z4 := Tryz.sizeOf4
 v4 := Tryz.zeroValue4
 t5 := Tryz.underlying5
 a5 := Tryz.isAgg5
 z5 := Tryz.sizeOf5
 v5 := Tryz.zeroValue5
 t9 := Tryz.underlying9
 a9 := Tryz.isAgg9
 z9 := Tryz.sizeOf9
 v9 := Tryz.zeroValue9
 t46 := Tryz.underlying185
 a46 := Tryz.isAgg185
 z46 := Tryz.sizeOf185
 v46 := Tryz.zeroValue185
 t51 := Tryz.underlying213
 a51 := Tryz.isAgg213
 z51 := Tryz.sizeOf213
 v51 := Tryz.zeroValue213
 t146 := Tryz.underlying266
 a146 := Tryz.isAgg266
 z146 := Tryz.sizeOf266
 v146 := Tryz.zeroValue266
 g1 := by kernel_rfl }
open Go.RowKit Go.Lib in
theorem Tryz.strings_Index_one (s : ByteArray) (c : UInt8) (w : World) :
  Calls Tryz.prog 180 #[.string s, .string ⟨#[c]⟩] w fun e w' => e = .returned (.int .i64 (Lib.indexByte s.data.toList c)) ∧ w' = w := Any.strings_Index_one Tryz.lays143 s c w
def Tryz.lays189_ren : Go.Shelf.Ren := ⟨fun | 189 => 72 | 125 => 109 | 257 => 110 | 128 => 141 | 129 => 142 | 294 => 143 | 295 => 144 | 296 => 145 | 297 => 146 | 298 => 147 | 299 => 148 | 216 => 149 | 300 => 150 | 301 => 151 | 328 => 166 | 329 => 162 | 330 => 163 | 331 => 167 | 332 => 168 | 215 => 169 | 343 => 194 | n => n, fun | 28 => 75 | 3 => 3 | 46 => 185 | 0 => 0 | 51 => 213 | 53 => 215 | 4 => 4 | 183 => 205 | 182 => 204 | 131 => 210 | 5 => 5 | 9 => 9 | 218 => 230 | 222 => 234 | 228 => 252 | 229 => 253 | n => n, fun | n => n⟩
theorem Tryz.lays189 : Go.Proofs.Lays.n189 Tryz.prog Tryz.lays189_ren := {
 mixed := by kernel_rfl
 f125 := Tryz.func109.trans (congrArg some (by kernel_rfl))
 f128 := Tryz.func141.trans (congrArg some (by kernel_rfl))
 f129 := Tryz.func142.trans (congrArg some (by kernel_rfl))
 f189 := Tryz.func72.trans (congrArg some (by kernel_rfl))
 f215 := Tryz.func169.trans (congrArg some (by kernel_rfl))
 f216 := Tryz.func149.trans (congrArg some (by kernel_rfl))
 f257 := Tryz.func110.trans (congrArg some (by kernel_rfl))
 f294 := Tryz.func143.trans (congrArg some (by kernel_rfl))
 f295 := Tryz.func144.trans (congrArg some (by kernel_rfl))
 f296 := Tryz.func145.trans (congrArg some (by kernel_rfl))
 f297 := Tryz.func146.trans (congrArg some (by kernel_rfl))
 f298 := Tryz.func147.trans (congrArg some (by kernel_rfl))
 f299 := Tryz.func148.trans (congrArg some (by kernel_rfl))
 f300 := Tryz.func150.trans (congrArg some (by kernel_rfl))
 f301 := Tryz.func151.trans (congrArg some (by kernel_rfl))
 f328 := Tryz.func166.trans (congrArg some (by kernel_rfl))
 f329 := Tryz.func162.trans (congrArg some (by kernel_rfl))
 f330 := Tryz.func163.trans (congrArg some (by kernel_rfl))
 f331 := Tryz.func167.trans (congrArg some (by kernel_rfl))
 f332 := Tryz.func168.trans (congrArg some (by kernel_rfl))
 f343 := Tryz.func194.trans (congrArg some (by kernel_rfl))
 t0 := Tryz.underlying0
 a0 := Tryz.isAgg0
 z0 := Tryz.sizeOf0
 v0 := Tryz.zeroValue0
 t3 := Tryz.underlying3
 a3 := Tryz.isAgg3
 z3 := Tryz.sizeOf3
 v3 := Tryz.zeroValue3
 t4 := Tryz.underlying4
 a4 := Tryz.isAgg4
 z4 := Tryz.sizeOf4
 v4 := Tryz.zeroValue4
 t5 := Tryz.underlying5
 a5 := Tryz.isAgg5
 z5 := Tryz.sizeOf5
 v5 := Tryz.zeroValue5
 t9 := Tryz.underlying9
 a9 := Tryz.isAgg9
 z9 := Tryz.sizeOf9
 v9 := Tryz.zeroValue9
 t28 := Tryz.underlying75
 a28 := Tryz.isAgg75
 z28 := Tryz.sizeOf75
 v28 := Tryz.zeroValue75
 t46 := Tryz.underlying185
 a46 := Tryz.isAgg185
 z46 := Tryz.sizeOf185
 v46 := Tryz.zeroValue185
 t51 := Tryz.underlying213
 a51 := Tryz.isAgg213
 z51 := Tryz.sizeOf213
 v51 := Tryz.zeroValue213
 t53 := Tryz.underlying215
 a53 := Tryz.isAgg215
 z53 := Tryz.sizeOf215
 v53 := Tryz.zeroValue215
 t131 := Tryz.underlying210
 a131 := Tryz.isAgg210
 z131 := Tryz.sizeOf210
 v131 := Tryz.zeroValue210
 t182 := Tryz.underlying204
 a182 := Tryz.isAgg204
 z182 := Tryz.sizeOf204
 v182 := Tryz.zeroValue204
 t183 := Tryz.underlying205
 a183 := Tryz.isAgg205
 z183 := Tryz.sizeOf205
 v183 := Tryz.zeroValue205
 t218 := Tryz.underlying230
 a218 := Tryz.isAgg230
 z218 := Tryz.sizeOf230
 v218 := Tryz.zeroValue230
 t222 := Tryz.underlying234
 a222 := Tryz.isAgg234
 z222 := Tryz.sizeOf234
 v222 := Tryz.zeroValue234
 t228 := Tryz.underlying252
 a228 := Tryz.isAgg252
 z228 := Tryz.sizeOf252
 v228 := Tryz.zeroValue252
 t229 := Tryz.underlying253
 a229 := Tryz.isAgg253
 z229 := Tryz.sizeOf253
 v229 := Tryz.zeroValue253 }
def Tryz.lays190_ren : Go.Shelf.Ren := ⟨fun | 190 => 69 | 125 => 109 | 258 => 108 | 128 => 141 | 129 => 142 | 302 => 132 | 303 => 133 | 304 => 134 | 305 => 135 | 306 => 136 | 307 => 137 | 308 => 138 | 309 => 139 | 310 => 140 | 333 => 161 | 329 => 162 | 330 => 163 | 334 => 164 | 335 => 165 | 336 => 118 | 344 => 193 | n => n, fun | 31 => 33 | 9 => 9 | 3 => 3 | 46 => 185 | 0 => 0 | 51 => 213 | 53 => 215 | 4 => 4 | 183 => 205 | 182 => 204 | 131 => 210 | 5 => 5 | 218 => 230 | 222 => 234 | 228 => 252 | 229 => 253 | n => n, fun | n => n⟩
theorem Tryz.lays190 : Go.Proofs.Lays.n190 Tryz.prog Tryz.lays190_ren := {
 mixed := by kernel_rfl
 f125 := Tryz.func109.trans (congrArg some (by kernel_rfl))
 f128 := Tryz.func141.trans (congrArg some (by kernel_rfl))
 f129 := Tryz.func142.trans (congrArg some (by kernel_rfl))
 f190 := Tryz.func69.trans (congrArg some (by kernel_rfl))
 f258 := Tryz.func108.trans (congrArg some (by kernel_rfl))
 f302 := Tryz.func132.trans (congrArg some (by kernel_rfl))
 f303 := Tryz.func133.trans (congrArg some (by kernel_rfl))
 f304 := Tryz.func134.trans (congrArg some (by kernel_rfl))
 f305 := Tryz.func135.trans (congrArg some (by kernel_rfl))
 f306 := Tryz.func136.trans (congrArg some (by kernel_rfl))
 f307 := Tryz.func137.trans (congrArg some (by kernel_rfl))
 f308 := Tryz.func138.trans (congrArg some (by kernel_rfl))
 f309 := Tryz.func139.trans (congrArg some (by kernel_rfl))
 f310 := Tryz.func140.trans (congrArg some (by kernel_rfl))
 f329 := Tryz.func162.trans (congrArg some (by kernel_rfl))
 f330 := Tryz.func163.trans (congrArg some (by kernel_rfl))
 f333 := Tryz.func161.trans (congrArg some (by kernel_rfl))
 f334 := Tryz.func164.trans (congrArg some (by kernel_rfl))
 f335 := Tryz.func165.trans (congrArg some (by kernel_rfl))
 f336 := Tryz.func118.trans (congrArg some (by kernel_rfl))
 f344 := Tryz.func193.trans (congrArg some (by kernel_rfl))
 t0 := Tryz.underlying0
 a0 := Tryz.isAgg0
 z0 := Tryz.sizeOf0
 v0 := Tryz.zeroValue0
 t3 := Tryz.underlying3
 a3 := Tryz.isAgg3
 z3 := Tryz.sizeOf3
 v3 := Tryz.zeroValue3
 t4 := Tryz.underlying4
 a4 := Tryz.isAgg4
 z4 := Tryz.sizeOf4
 v4 := Tryz.zeroValue4
 t5 := Tryz.underlying5
 a5 := Tryz.isAgg5
 z5 := Tryz.sizeOf5
 v5 := Tryz.zeroValue5
 t9 := Tryz.underlying9
 a9 := Tryz.isAgg9
 z9 := Tryz.sizeOf9
 v9 := Tryz.zeroValue9
 t31 := Tryz.underlying33
 a31 := Tryz.isAgg33
 z31 := Tryz.sizeOf33
 v31 := Tryz.zeroValue33
 t46 := Tryz.underlying185
 a46 := Tryz.isAgg185
 z46 := Tryz.sizeOf185
 v46 := Tryz.zeroValue185
 t51 := Tryz.underlying213
 a51 := Tryz.isAgg213
 z51 := Tryz.sizeOf213
 v51 := Tryz.zeroValue213
 t53 := Tryz.underlying215
 a53 := Tryz.isAgg215
 z53 := Tryz.sizeOf215
 v53 := Tryz.zeroValue215
 t131 := Tryz.underlying210
 a131 := Tryz.isAgg210
 z131 := Tryz.sizeOf210
 v131 := Tryz.zeroValue210
 t182 := Tryz.underlying204
 a182 := Tryz.isAgg204
 z182 := Tryz.sizeOf204
 v182 := Tryz.zeroValue204
 t183 := Tryz.underlying205
 a183 := Tryz.isAgg205
 z183 := Tryz.sizeOf205
 v183 := Tryz.zeroValue205
 t218 := Tryz.underlying230
 a218 := Tryz.isAgg230
 z218 := Tryz.sizeOf230
 v218 := Tryz.zeroValue230
 t222 := Tryz.underlying234
 a222 := Tryz.isAgg234
 z222 := Tryz.sizeOf234
 v222 := Tryz.zeroValue234
 t228 := Tryz.underlying252
 a228 := Tryz.isAgg252
 z228 := Tryz.sizeOf252
 v228 := Tryz.zeroValue252
 t229 := Tryz.underlying253
 a229 := Tryz.isAgg253
 z229 := Tryz.sizeOf253
 v229 := Tryz.zeroValue253 }
open Go.Sort Go.RowKit in
theorem Tryz.slices_Sort_string (blk off cap : Nat) (ss : List (List UInt8)) (w : World) (hH : Holds encStr w blk off ss.toArray) (hblk : blk < w.heap.size) (hsz : ss.length < 4611686018427387904) :
  Calls Tryz.prog 69 #[.slice (some ⟨blk, off, none⟩) ss.length cap] w fun e w' =>
   e = .returned (.tuple #[]) ∧ ∃ n os, w' = grow (putRow encStr (Sort.ahead w n) blk off (ss.mergeSort fun x y => decide (x ≤ y)).toArray) os := Any.slices_Sort_string Tryz.lays190 blk off cap ss w hH hblk hsz
def Tryz.lays151_ren : Go.Shelf.Ren := ⟨fun | 151 => 124 | 152 => 158 | 137 => 181 | 119 => 182 | 224 => 183 | 225 => 184 | 217 => 200 | 266 => 206 | n => n, fun | 9 => 9 | 21 => 21 | 4 => 4 | 3 => 3 | 5 => 5 | 0 => 0 | 46 => 185 | n => n, fun | n => n⟩
theorem Tryz.lays151 : Go.Proofs.Lays.n151 Tryz.prog Tryz.lays151_ren := {
 mixed := by kernel_rfl
 f119 := Tryz.func182.trans (congrArg some (by kernel_rfl))
 f137 := Tryz.func181.trans (congrArg some (by kernel_rfl))
 f151 := Tryz.func124.trans (congrArg some (by kernel_rfl))
 f152 := Tryz.func158.trans (congrArg some (by kernel_rfl))
 f217 := Tryz.func200.trans (congrArg some (by kernel_rfl))
 f224 := Tryz.func183.trans (congrArg some (by kernel_rfl))
 f225 := Tryz.func184.trans (congrArg some (by kernel_rfl))
 f266 := Tryz.func206.trans (congrArg some (by kernel_rfl))
 t0 := Tryz.underlying0
 a0 := Tryz.isAgg0
 z0 := Tryz.sizeOf0
 v0 := Tryz.zeroValue0
 t3 := Tryz.underlying3
 a3 := Tryz.isAgg3
 z3 := Tryz.sizeOf3
 v3 := Tryz.zeroValue3
 t4 := Tryz.underlying4
 a4 := Tryz.isAgg4
 z4 := Tryz.sizeOf4
 v4 := Tryz.zeroValue4
 t5 := Tryz.underlying5
 a5 := Tryz.isAgg5
 z5 := Tryz.sizeOf5
 v5 := Tryz.zeroValue5
 t9 := Tryz.underlying9
 a9 := Tryz.isAgg9
 z9 := Tryz.sizeOf9
 v9 := Tryz.zeroValue9
 t21 := Tryz.underlying21
 a21 := Tryz.isAgg21
 z21 := Tryz.sizeOf21
 v21 := Tryz.zeroValue21
 t46 := Tryz.underlying185
 a46 := Tryz.isAgg185
 z46 := Tryz.sizeOf185
 v46 := Tryz.zeroValue185 }
open Go.RowKit Go.Lib in
theorem Tryz.strings_ContainsRune_ascii (s : ByteArray) (r : Int) (w : World) (h0 : 0 ≤ r) (h1 : r < 128) :
  Calls Tryz.prog 124 #[.string s, .int .i32 r] w fun e w' => e = .returned (.bool (decide (0 ≤ Lib.indexByte s.data.toList r.toNat.toUInt8))) ∧ w' = w := Any.strings_ContainsRune_ascii Tryz.lays151 s r w h0 h1
open Go.RowKit Go.Sort in
theorem Tryz.slices_Sort_string_none (p : Option Addr) (cap : Nat) (w : World) :
  Calls Tryz.prog 69 #[.slice p 0 cap] w fun e w' => e = .returned (.tuple #[]) ∧ w' = w := Any.slices_Sort_string_none Tryz.lays190 p cap w
open Go.RowKit Go.Sort in
theorem Tryz.slices_Sort_int_none (p : Option Addr) (cap : Nat) (w : World) :
  Calls Tryz.prog 72 #[.slice p 0 cap] w fun e w' => e = .returned (.tuple #[]) ∧ w' = w := Any.slices_Sort_int_none Tryz.lays189 p cap w
end Go.Proofs

namespace Go.Proofs.YtglcanljknjcfaaGreatDoor
open Go Go.HW
abbrev Nm := ByteArray
abbrev e0 : ByteArray := ⟨#[]⟩
abbrev Sta := List (Key × Nm)
def SRise (s : Sta) : Prop := s.Pairwise fun x y => klt x.1 y.1 = true
def swith : Sta → Wr → Sta
 | [], w => if w.there then [(w.k, w.data)] else []
 | x :: s, w => if x.1 = w.k then (if w.there then (w.k, w.data) :: s else s)
  else if klt w.k x.1 then (if w.there then (w.k, w.data) :: x :: s else x :: s) else x :: swith s w
def sall (s : Sta) (ws : List Wr) : Sta := ws.foldl swith s
theorem swith_mem {s : Sta} {w : Wr} : ∀ {x : Key × Nm}, x ∈ swith s w → x ∈ s ∨ (w.there = true ∧ x = (w.k, w.data)) := by
 induction s with
 | nil =>
  intro x hx
  unfold swith at hx
  split at hx
  ·rename_i h; exact .inr ⟨h, List.mem_singleton.1 hx⟩
  ·cases hx
 | cons y s ih =>
  intro x hx
  unfold swith at hx
  split at hx
  ·split at hx
   ·rename_i h
    rcases List.mem_cons.1 hx with q | q
    ·exact .inr ⟨h, q⟩
    ·exact .inl (List.mem_cons_of_mem _ q)
   ·exact .inl (List.mem_cons_of_mem _ hx)
  ·split at hx
   ·split at hx
    ·rename_i h
     rcases List.mem_cons.1 hx with q | q
     ·exact .inr ⟨h, q⟩
     ·exact .inl q
    ·exact .inl hx
   ·rcases List.mem_cons.1 hx with q | q
    ·exact .inl (q ▸ List.mem_cons_self ..)
    ·exact (ih q).imp (List.mem_cons_of_mem _) id
theorem SRise.with {s : Sta} (h : SRise s) (w : Wr) : SRise (swith s w) := by
 induction s with
 | nil => unfold swith; split; exact List.pairwise_singleton ..; exact .nil
 | cons y s ih =>
  have h' := List.pairwise_cons.1 h
  unfold swith
  split
  ·rename_i e
   split
   ·exact List.pairwise_cons.2 ⟨fun z hz => by rw [← e]; exact h'.1 z hz, h'.2⟩
   ·exact h'.2
  ·rename_i ne
   split
   ·rename_i lt
    split
    ·refine List.pairwise_cons.2 ⟨fun z hz => ?_, h⟩
     rcases List.mem_cons.1 hz with rfl | q
     ·exact lt
     ·exact y175 lt (h'.1 z q)
    ·exact h
   ·rename_i nlt
    refine List.pairwise_cons.2 ⟨fun z hz => ?_, ih h'.2⟩
    rcases swith_mem hz with q | ⟨_, rfl⟩
    ·exact h'.1 z q
    ·cases q : klt y.1 w.k with
     | true => rfl
     | false => exact absurd (klt_tri q (by simpa using nlt)) ne
theorem SRise.all {ws : List Wr} : ∀ {s : Sta}, SRise s → SRise (sall s ws) := by
 induction ws with
 | nil => exact fun h => h
 | cons w ws ih => exact fun h => ih (h.with w)
theorem SRise.nodup {s : Sta} (h : SRise s) : (s.map (·.1)).Nodup := by
 rw [List.nodup_iff_pairwise_ne, List.pairwise_map]
 exact h.imp fun h e => by rw [e, y109] at h; cases h
theorem mget_swith {s : Sta} (h : SRise s) (w : Wr) (k : Key) : mget (swith s w) k = if w.k = k then (if w.there then some w.data else none) else mget s k := by
 induction s with
 | nil =>
  unfold swith
  split
  ·rw [y50]
  ·rw [y133]; split <;> rfl
 | cons y s ih =>
  have h' := List.pairwise_cons.1 h
  have out : ∀ k', (∀ z ∈ s, z.1 ≠ k') → mget s k' = none := fun k' hk => y145.2 fun q => by
   obtain ⟨z, hz, e⟩ := List.mem_map.1 q; exact hk z hz e
  unfold swith
  split
  ·rename_i e
   have hn : mget s w.k = none := out _ fun z hz q => by have := h'.1 z hz; rw [q, e, y109] at this; cases this
   split
   ·rename_i ht
    rw [y50, y50, e]
    by_cases q : w.k = k
    ·rw [if_pos q, if_pos q]
    ·rw [if_neg q, if_neg q, if_neg q]
   ·rename_i ht
    rw [y50, e]
    by_cases q : w.k = k
    ·rw [if_pos q, ← q, hn]
    ·rw [if_neg q, if_neg q]
  ·rename_i ne
   split
   ·rename_i lt
    have hn : mget (y :: s) w.k = none := y145.2 fun q => by
     obtain ⟨z, hz, e⟩ := List.mem_map.1 q
     rcases List.mem_cons.1 hz with rfl | hz
     ·exact ne e
     ·have := y175 lt (h'.1 z hz); rw [e, y109] at this; cases this
    split
    ·rename_i ht
     rw [y50]
    ·rename_i ht
     by_cases q : w.k = k
     ·rw [if_pos q, ← q, hn]
     ·rw [if_neg q]
   ·rw [y50, y50, ih h'.2]
    by_cases q : y.1 = k
    ·rw [if_pos q, if_pos q, if_neg (fun r => ne (q.trans r.symm))]
    ·rw [if_neg q, if_neg q]
def wfind (ws : List Wr) (k : Key) : Option Wr := ws.find? fun w => decide (w.k = k)
def wput : List Wr → Wr → List Wr
 | [], w => [w]
 | x :: l, w => if x.k = w.k then w :: l else if klt w.k x.k then w :: x :: l else x :: wput l w
theorem wput_mem {l : List Wr} {w x : Wr} (h : x ∈ wput l w) : x = w ∨ (x ∈ l ∧ x.k ≠ w.k ∨ x ∈ l) := by
 induction l with
 | nil => exact .inl (List.mem_singleton.1 h)
 | cons y l ih =>
  unfold wput at h
  split at h
  ·rcases List.mem_cons.1 h with q | q
   ·exact .inl q
   ·exact .inr (.inr (List.mem_cons_of_mem _ q))
  ·split at h
   ·rcases List.mem_cons.1 h with q | q
    ·exact .inl q
    ·exact .inr (.inr q)
   ·rcases List.mem_cons.1 h with q | q
    ·exact .inr (.inr (q ▸ List.mem_cons_self ..))
    ·rcases ih q with r | r | r
     ·exact .inl r
     ·exact .inr (.inr (List.mem_cons_of_mem _ r.1))
     ·exact .inr (.inr (List.mem_cons_of_mem _ r))
theorem wput_sub {l : List Wr} {w x : Wr} (h : x ∈ wput l w) : x = w ∨ x ∈ l := (wput_mem h).imp id fun q => q.elim (·.1) id
theorem Rise.put {l : List Wr} (h : Rise l) (w : Wr) : Rise (wput l w) := by
 induction l with
 | nil => exact List.pairwise_singleton ..
 | cons y l ih =>
  have h' := List.pairwise_cons.1 h
  unfold wput
  split
  ·rename_i e
   exact List.pairwise_cons.2 ⟨fun z hz => by have := h'.1 z hz; unfold wlt at this ⊢; rwa [← e], h'.2⟩
  ·rename_i ne
   split
   ·rename_i lt
    refine List.pairwise_cons.2 ⟨fun z hz => ?_, h⟩
    rcases List.mem_cons.1 hz with rfl | q
    ·exact lt
    ·exact y175 lt (h'.1 z q)
   ·rename_i nlt
    refine List.pairwise_cons.2 ⟨fun z hz => ?_, ih h'.2⟩
    rcases wput_sub hz with rfl | q
    ·cases q : klt y.k z.k with
     | true => exact q
     | false => exact absurd (klt_tri q (by simpa using nlt)) ne
    ·exact h'.1 z q
theorem mget_sall : ∀ {ws : List Wr} {s : Sta}, Rise ws → SRise s → ∀ k, mget (sall s ws) k = match wfind ws k with | some w => if w.there then some w.data else none | none => mget s k
 | [], s, _, _, k => rfl
 | w :: ws, s, h, hs, k => by
  have h' := List.pairwise_cons.1 h
  show mget (sall (swith s w) ws) k = _
  rw [mget_sall h'.2 (hs.with w) k, mget_swith hs]
  unfold wfind
  by_cases q : w.k = k
  ·have hn : ws.find? (fun w => decide (w.k = k)) = none := List.find?_eq_none.2 fun z hz r => by
    have r : z.k = k := by simpa using r
    have := h'.1 z hz
    unfold wlt at this
    rw [q, r, y109] at this; cases this
   rw [hn, if_pos q, List.find?_cons_of_pos (by simpa using q)]
  ·rw [List.find?_cons_of_neg (by simpa using q)]
   simp only [if_neg q]
theorem sta_ext {s t : Sta} (hs : SRise s) (ht : SRise t) (h : ∀ k, mget s k = mget t k) : s = t := by
 induction s generalizing t with
 | nil =>
  cases t with
  | nil => rfl
  | cons y t => have := h y.1; rw [y50, if_pos rfl, y133] at this; cases this
 | cons x s ih =>
  cases t with
  | nil => have := h x.1; rw [y50, if_pos rfl, y133] at this; cases this
  | cons y t =>
   have h1 := List.pairwise_cons.1 hs
   have h2 := List.pairwise_cons.1 ht
   have out : ∀ {z : Key × Nm} {l : Sta}, (∀ a ∈ l, klt z.1 a.1 = true) → mget l z.1 = none := fun hl => y145.2 fun q => by
    obtain ⟨a, ha, e⟩ := List.mem_map.1 q
    have := hl a ha; rw [e, y109] at this; cases this
   have hk : x.1 = y.1 := by
    refine Classical.byContradiction fun ne => ?_
    have a1 := h x.1
    rw [y50, if_pos rfl, y50, if_neg (fun q => ne q.symm)] at a1
    have a2 := h y.1
    rw [y50, if_neg ne, y50, if_pos rfl] at a2
    have m1 := h2.1 _ (y87 a1.symm)
    have m2 := h1.1 _ (y87 a2)
    have := y175 m1 m2
    rw [y109] at this; cases this
   have hv : x.2 = y.2 := by
    have a1 := h x.1
    rw [y50, if_pos rfl, y50, if_pos hk.symm] at a1
    exact Option.some.inj a1
   have hxy : x = y := by cases x; cases y; simp at hk hv; rw [hk, hv]
   subst hxy
   congr 1
   refine ih h1.2 h2.2 fun k => ?_
   by_cases q : x.1 = k
   ·subst q; rw [out h1.1, out h2.1]
   ·have := h k; rwa [y50, if_neg q, y50, if_neg q] at this
end Go.Proofs.YtglcanljknjcfaaGreatDoor

namespace Go.Proofs.YtglcanljknjcfaaGreatDoor
open Go Go.HW
def shc (c : Nat) : Bool := (decide (97 ≤ c) && decide (c ≤ 122)) || (decide (48 ≤ c) && decide (c ≤ 57)) || decide (c = 45)
def shortB (s : Nm) : Bool := decide (s ≠ e0) && decide (s.size ≤ 16) && (sb s).all shc
def zch (c : Nat) : Bool := shc c || decide (c = 46) || decide (c = 95) || decide (c = 47)
def partsL : List Nat → List (List Nat)
 | [] => [[]]
 | c :: l => if c = 47 then [] :: partsL l else match partsL l with | p :: ps => (c :: p) :: ps | [] => [[c]]
def partB (p : List Nat) : Bool := decide (p ≠ []) && decide (p ≠ [46]) && decide (p ≠ [46, 46])
def znameB (s : Nm) : Bool := decide (s ≠ e0) && decide (s.size ≤ 64) && (sb s).all zch && (partsL (sb s)).all partB
structure ATx where
 n : Nat
 snap : Nat
 tn : Nm
 st : List Wr
 rd : List Key
 ls : List Bx
structure AM where
 first : Nat
 sts : List Sta
 wrs : List (List Wr)
 txs : List ATx
 next : Nat
def AM.now (A : AM) : Nat := A.first + A.sts.length - 1
def AM.state (A : AM) : Sta := A.sts.getLast?.getD []
def AM.sta (A : AM) (i : Nat) : Sta := (A.sts[i]?).getD []
def AM.find (A : AM) (n : Int) : Option ATx := A.txs.find? fun t => decide ((t.n : Int) = n)
def AM.upd (A : AM) (t : ATx) : AM := { A with txs := A.txs.map fun x => if x.n = t.n then t else x }
def ATx.own (t : ATx) (k : Key) : Option Wr := wfind t.st k
def AM.look (A : AM) (t : ATx) (k : Key) : Option Nm := match t.own k with | some w => if w.there then some w.data else none | none => mget (A.sta t.snap) k
def ATx.key (t : ATx) (ar en : Nm) : Key := ⟨t.tn, ar, en⟩
def ATx.read (t : ATx) (k : Key) : ATx := if (t.own k).isSome then t else { t with rd := t.rd ++ [k] }
def ATx.list (t : ATx) (b : Bx) : ATx := { t with ls := t.ls ++ [b] }
def ATx.stage (t : ATx) (w : Wr) : ATx := { t with st := wput t.st w }
def inBx (b : Bx) (k : Key) : Bool := decide (k.t = b.t) && decide (k.a = b.a)
def AM.sees (A : AM) (t : ATx) : Sta := sall (A.sta t.snap) t.st
def snames (s : Sta) (b : Bx) : List Nm := (s.filter fun x => inBx b x.1).map (·.1.e)
def anew (first : Nat) (s : Sta) : AM := ⟨first, [s], [], [], 1⟩
def AM.begin (A : AM) (tn : Nm) : AM × Int × Int :=
 if shortB tn = false then (A, 0, 143) else if 256 ≤ A.txs.length then (A, 0, 141) else
 ({ A with txs := A.txs ++ [⟨A.next, A.sts.length - 1, tn, [], [], []⟩], next := A.next + 1 }, A.next, 0)
def AM.at (A : AM) (n : Int) (ar : Nm) (en : Option Nm) : Int ⊕ ATx :=
 match A.find n with
 | none => .inl 140
 | some t => if shortB ar = false ∨ (en.map znameB) = some false then .inl 143 else .inr t
def AM.read (A : AM) (n : Int) (ar en : Nm) : AM × Nm × Int :=
 match A.at n ar (some en) with
 | .inl e => (A, e0, e)
 | .inr t => (A.upd (t.read (t.key ar en)), match A.look t (t.key ar en) with | some d => (d, 0) | none => (e0, 144))
def AM.list (A : AM) (n : Int) (ar : Nm) : AM × List Nm × Int :=
 match A.at n ar none with
 | .inl e => (A, [], e)
 | .inr t => (A.upd (t.list ⟨t.tn, ar⟩), snames (A.sees t) ⟨t.tn, ar⟩, 0)
def AM.put (A : AM) (n : Int) (ar en data : Nm) : AM × Int :=
 match A.at n ar (some en) with
 | .inl e => (A, e)
 | .inr t => if 8192 < data.size then (A, 145) else (A.upd (t.stage ⟨t.key ar en, true, data⟩), 0)
def AM.add (A : AM) (n : Int) (ar en data : Nm) : AM × Int :=
 match A.at n ar (some en) with
 | .inl e => (A, e)
 | .inr t =>
  let k := t.key ar en
  let was := (A.look t k).getD e0
  if 8192 < was.size + data.size then (A.upd (t.read k), 145) else (A.upd ((t.read k).stage ⟨k, true, was ++ data⟩), 0)
def AM.delete (A : AM) (n : Int) (ar en : Nm) : AM × Int :=
 match A.at n ar (some en) with
 | .inl e => (A, e)
 | .inr t => (A.upd (t.stage ⟨t.key ar en, false, e0⟩), 0)
def ATx.meets (t : ATx) (k : Key) : Bool := t.rd.any (fun r => decide (r = k)) || t.ls.any (fun b => inBx b k)
def AM.conf (A : AM) (t : ATx) : Bool := (A.wrs.drop t.snap).any fun ws => ws.any fun w => t.meets w.k
def sdump (s : Sta) : List Arc := s.foldl (fun D x => dstep D x.1 x.2) []
def many0 (tn : Nm) (D : List Arc) (m : List (Nm × Int)) : List (Nm × Int) := D.foldl (fun m x => if x.t = tn then mset m x.n ((x.es.length : Nat) : Int) else m) m
def many1 (s : Sta) (m : List (Nm × Int)) (w : Wr) : List (Nm × Int) :=
 if w.there then (if (mget s w.k).isSome then m else mset m w.k.a ((mget m w.k.a).getD 0 + 1)) else if (mget s w.k).isSome then mset m w.k.a ((mget m w.k.a).getD 0 - 1) else m
def fitsM (m : List (Nm × Int)) : Bool := m.all (fun x => decide (x.2 ≤ 64)) && decide ((m.filter fun x => decide (0 < x.2)).length ≤ 16)
def fitsB (s : Sta) (tn : Nm) (ws : List Wr) : Bool := fitsM (ws.foldl (many1 s) (many0 tn (sdump s) []))
def AM.check (A : AM) (n : Int) : Nat × List Wr × Int :=
 match A.find n with
 | none => (0, [], 140)
 | some t => if t.st = [] then (0, [], 0) else if A.conf t then (0, [], 142) else if fitsB A.state t.tn t.st = false then (0, [], 145) else (A.now + 1, t.st, 0)
def AM.close (A : AM) (n : Int) : AM := { A with txs := A.txs.filter fun t => decide ((t.n : Int) ≠ n) }
def AM.push (A : AM) (ws : List Wr) : AM := { A with sts := A.sts ++ [sall A.state ws], wrs := A.wrs ++ [ws] }
def AM.commit (A : AM) (n : Int) : AM × Nat × Int :=
 let c := A.check n
 if c.2.2 = 140 then (A, 0, 140) else
 ((if c.2.2 = 0 ∧ c.2.1 ≠ [] then A.push c.2.1 else A).close n, c.1, c.2.2)
def AM.abort (A : AM) (n : Int) : AM × Int := if (A.find n).isSome then (A.close n, 0) else (A, 140)
def esz (es : List Ent) : Nat := (es.map fun e => e.d.size).sum
def suse (s : Sta) (tn : Nm) : Nat × Nat := (sdump s).foldl (fun u x => if x.t = tn then (u.1 + esz x.es, u.2 + x.es.length) else u) (0, 0)
structure WOk (tn : Nm) (w : Wr) : Prop where
 t : w.k.t = tn
 a : shortB w.k.a = true
 e : znameB w.k.e = true
 d : w.data.size ≤ 8192
 z : w.there = false → w.data = e0
structure TI (A : AM) (t : ATx) : Prop where
 n : 1 ≤ t.n ∧ t.n < A.next
 snap : t.snap < A.sts.length
 rise : Rise t.st
 wok : ∀ w ∈ t.st, WOk t.tn w
 tn : shortB t.tn = true
structure AI (A : AM) : Prop where
 ne : A.sts ≠ []
 rise : ∀ s ∈ A.sts, SRise s
 len : A.wrs.length + 1 = A.sts.length
 wr : ∀ ws ∈ A.wrs, Rise ws ∧ ∃ tn, ∀ w ∈ ws, WOk tn w
 nx : 1 ≤ A.next
 tx : ∀ t ∈ A.txs, TI A t
 nd : (A.txs.map (·.n)).Nodup
 few : A.txs.length ≤ 256
 dat : ∀ s ∈ A.sts, ∀ x ∈ s, x.2.size ≤ 8192
def ATx.sz (t : ATx) : Nat := t.st.length + t.rd.length + t.ls.length
def AM.sz (A : AM) : Nat := (A.sta 0).length + (A.wrs.map (·.length)).sum + A.wrs.length + (A.txs.map ATx.sz).sum + A.next
section
variable {A : AM} {t : ATx}
theorem AI.sta (h : AI A) (i : Nat) : SRise (A.sta i) := by
 unfold AM.sta
 cases e : A.sts[i]? with
 | none => exact .nil
 | some s => exact h.rise s (List.mem_of_getElem? e)
theorem AI.state (h : AI A) : SRise A.state := by
 unfold AM.state
 cases e : A.sts.getLast? with
 | none => exact .nil
 | some s => exact h.rise s (List.mem_of_getLast? e)
theorem y69 {n : Int} (e : A.find n = some t) : t ∈ A.txs ∧ (t.n : Int) = n := ⟨List.mem_of_find?_eq_some e, by simpa using List.find?_some e⟩
theorem AI.find (h : AI A) (ht : t ∈ A.txs) : A.find (t.n : Int) = some t := by
 cases e : A.find (t.n : Int) with
 | none =>
  have := List.find?_eq_none.1 e t ht
  simp at this
 | some u =>
  obtain ⟨hu, eu⟩ := y69 e
  have eu : u.n = t.n := by omega
  have : u = t := by
   have hn := h.nd
   clear e
   generalize A.txs = l at *
   induction l with
   | nil => cases ht
   | cons x l ih =>
    rw [List.map_cons, List.nodup_cons] at hn
    rcases List.mem_cons.1 hu with hu1 | hu1 <;> rcases List.mem_cons.1 ht with ht1 | ht1
    ·rw [hu1, ht1]
    ·exact absurd (hu1 ▸ eu ▸ List.mem_map_of_mem (f := fun x : ATx => x.n) ht1) hn.1
    ·exact absurd (ht1 ▸ eu ▸ List.mem_map_of_mem (f := fun x : ATx => x.n) hu1) hn.1
    ·exact ih ht1 hu1 hn.2
  rw [this]
theorem upd_ns (A : AM) (t : ATx) : (A.upd t).txs.map (·.n) = A.txs.map (·.n) := by
 unfold AM.upd
 simp only [List.map_map]
 refine List.map_congr_left fun x _ => ?_
 simp only [Function.comp]
 split
 ·rename_i e; exact e.symm
 ·rfl
theorem AI.upd (h : AI A) {t' : ATx} (ht : t ∈ A.txs) (hn : t'.n = t.n) (hs : t'.snap = t.snap) (hr : Rise t'.st) (hw : ∀ w ∈ t'.st, WOk t'.tn w) (htn : t'.tn = t.tn) : AI (A.upd t') := by
 have h0 := h.tx t ht
 have hi : TI (A.upd t') t' := ⟨by rw [hn]; exact h0.n, by rw [hs]; exact h0.snap, hr, hw, by rw [htn]; exact h0.tn⟩
 refine ⟨h.ne, h.rise, h.len, h.wr, h.nx, fun x hx => ?_, by rw [upd_ns]; exact h.nd, by unfold AM.upd; simp; exact h.few, h.dat⟩
 obtain ⟨y, hy, rfl⟩ := List.mem_map.1 hx
 split
 ·exact hi
 ·have := h.tx y hy
  exact ⟨this.n, this.snap, this.rise, this.wok, this.tn⟩
theorem read_f (t : ATx) (k : Key) : (t.read k).n = t.n ∧ (t.read k).snap = t.snap ∧ (t.read k).tn = t.tn ∧ (t.read k).st = t.st ∧ (t.read k).ls = t.ls := by
 unfold ATx.read; split <;> exact ⟨rfl, rfl, rfl, rfl, rfl⟩
theorem AI.updr (h : AI A) (ht : t ∈ A.txs) (k : Key) : AI (A.upd (t.read k)) := by
 obtain ⟨h1, h2, h3, h4, _⟩ := read_f t k
 have h0 := h.tx t ht
 exact h.upd ht h1 h2 (by rw [h4]; exact h0.rise) (by rw [h4, h3]; exact h0.wok) h3
theorem AI.updl (h : AI A) (ht : t ∈ A.txs) (b : Bx) : AI (A.upd (t.list b)) := h.upd ht rfl rfl (h.tx t ht).rise (h.tx t ht).wok rfl
theorem AI.upds (h : AI A) (ht : t ∈ A.txs) {w : Wr} (hw : WOk t.tn w) : AI (A.upd (t.stage w)) :=
 h.upd ht rfl rfl ((h.tx t ht).rise.put w) (fun x hx => (wput_sub hx).elim (fun e => e ▸ hw) fun q => (h.tx t ht).wok x q) rfl
theorem y112 {n : Int} {ar : Nm} {en : Option Nm} (e : A.at n ar en = .inr t) : A.find n = some t ∧ shortB ar = true ∧ ∀ x, en = some x → znameB x = true := by
 unfold AM.at at e
 split at e
 ·cases e
 ·rename_i u hu
  split at e
  ·cases e
  ·rename_i hc
   cases e
   refine ⟨hu, ?_, fun x hx => ?_⟩
   ·cases q : shortB ar with
    | true => rfl
    | false => exact absurd (.inl q) hc
   ·subst hx
    cases q : znameB x with
    | true => rfl
    | false => exact absurd (.inr (by simp [q])) hc
theorem AI.begin (h : AI A) (tn : Nm) : AI (A.begin tn).1 := by
 unfold AM.begin
 split
 ·exact h
 rename_i hs
 split
 ·exact h
 rename_i hl
 have hpos : 0 < A.sts.length := List.length_pos_iff.2 h.ne
 refine ⟨h.ne, h.rise, h.len, h.wr, by show 1 ≤ A.next + 1; omega, fun x hx => ?_, ?_, by simp; omega, h.dat⟩
 ·rcases List.mem_append.1 hx with q | q
  ·have := h.tx x q
   exact ⟨⟨this.n.1, Nat.lt_succ_of_lt this.n.2⟩, this.snap, this.rise, this.wok, this.tn⟩
  ·rw [List.mem_singleton.1 q]
   exact ⟨⟨h.nx, Nat.lt_succ_self _⟩, by show A.sts.length - 1 < A.sts.length; omega, .nil, nofun, by simpa using hs⟩
 ·show (List.map (fun x : ATx => x.n) (A.txs ++ [_])).Nodup
  rw [List.map_append, List.nodup_append]
  refine ⟨h.nd, by simp, fun a ha b hb => ?_⟩
  obtain ⟨x, hx, rfl⟩ := List.mem_map.1 ha
  have := (h.tx x hx).n
  simp at hb
  omega
theorem AI.close (h : AI A) (n : Int) : AI (A.close n) := by
 refine ⟨h.ne, h.rise, h.len, h.wr, h.nx, fun x hx => ?_, ?_, Nat.le_trans (List.length_filter_le _ _) h.few, h.dat⟩
 ·have := h.tx x (List.mem_filter.1 hx).1
  exact ⟨this.n, this.snap, this.rise, this.wok, this.tn⟩
 ·exact h.nd.sublist (List.filter_sublist.map _)
theorem sall_dat {tn : Nm} : ∀ {ws : List Wr} {s : Sta}, (∀ x ∈ s, x.2.size ≤ 8192) → (∀ w ∈ ws, WOk tn w) → ∀ x ∈ sall s ws, x.2.size ≤ 8192
 | [], s, h, _ => h
 | w :: ws, s, h, hw => sall_dat (ws := ws) (s := swith s w) (fun x hx => by
  rcases swith_mem hx with q | ⟨_, rfl⟩
  ·exact h x q
  ·exact (hw w (List.mem_cons_self ..)).d) fun w' hw' => hw w' (List.mem_cons_of_mem _ hw')
theorem AI.push (h : AI A) {ws : List Wr} {tn : Nm} (hr : Rise ws) (hw : ∀ w ∈ ws, WOk tn w) : AI (A.push ws) := by
 have hst : ∀ x ∈ A.state, x.2.size ≤ 8192 := by
  unfold AM.state
  cases e : A.sts.getLast? with
  | none => exact nofun
  | some s => exact h.dat s (List.mem_of_getLast? e)
 refine ⟨by unfold AM.push; simp, fun s hs => ?_, ?_, fun ws' hws => ?_, h.nx, fun x hx => ?_, h.nd, h.few, fun s hs => ?_⟩
 ·rcases List.mem_append.1 hs with q | q
  ·exact h.rise s q
  ·rw [List.mem_singleton.1 q]; exact h.state.all
 ·unfold AM.push
  simp only [List.length_append, List.length_singleton]
  rw [h.len]
 ·rcases List.mem_append.1 hws with q | q
  ·exact h.wr ws' q
  ·rw [List.mem_singleton.1 q]; exact ⟨hr, tn, hw⟩
 ·have := h.tx x hx
  exact ⟨this.n, by unfold AM.push; simp only [List.length_append]; exact Nat.lt_add_right _ this.snap, this.rise, this.wok, this.tn⟩
 ·rcases List.mem_append.1 hs with q | q
  ·exact h.dat s q
  ·rw [List.mem_singleton.1 q]; exact sall_dat hst hw
theorem AI.read (h : AI A) (n : Int) (ar en : Nm) : AI (A.read n ar en).1 := by
 unfold AM.read
 split
 ·exact h
 ·rename_i t e
  obtain ⟨e1, _⟩ := y112 e
  exact h.updr (y69 e1).1 _
theorem AI.list (h : AI A) (n : Int) (ar : Nm) : AI (A.list n ar).1 := by
 unfold AM.list
 split
 ·exact h
 ·rename_i t e
  obtain ⟨e1, _⟩ := y112 e
  exact h.updl (y69 e1).1 _
theorem AI.put (h : AI A) (n : Int) (ar en data : Nm) : AI (A.put n ar en data).1 := by
 unfold AM.put
 split
 ·exact h
 ·rename_i t e
  obtain ⟨e1, e2, e3⟩ := y112 e
  split
  ·exact h
  ·rename_i hd
   exact h.upds (y69 e1).1 ⟨rfl, e2, e3 en rfl, by show data.size ≤ 8192; omega, nofun⟩
theorem AI.delete (h : AI A) (n : Int) (ar en : Nm) : AI (A.delete n ar en).1 := by
 unfold AM.delete
 split
 ·exact h
 ·rename_i t e
  obtain ⟨e1, e2, e3⟩ := y112 e
  exact h.upds (y69 e1).1 ⟨rfl, e2, e3 en rfl, by show e0.size ≤ 8192; decide, fun _ => rfl⟩
theorem AI.add (h : AI A) (n : Int) (ar en data : Nm) : AI (A.add n ar en data).1 := by
 unfold AM.add
 split
 ·exact h
 ·rename_i t e
  obtain ⟨e1, e2, e3⟩ := y112 e
  obtain ⟨h1, h2, h3, h4, _⟩ := read_f t (t.key ar en)
  have ht := (y69 e1).1
  have h0 := h.tx t ht
  dsimp only
  split
  ·exact h.updr ht _
  ·rename_i hd
   have hw : WOk t.tn ⟨t.key ar en, true, (A.look t (t.key ar en)).getD e0 ++ data⟩ := ⟨rfl, e2, e3 en rfl, by show (_ ++ data).size ≤ 8192; rw [ByteArray.size_append]; omega, nofun⟩
   refine h.upd ht h1 h2 ?_ (fun x hx => ?_) h3
   ·show Rise (wput (t.read (t.key ar en)).st _); rw [h4]; exact h0.rise.put _
   ·have hx : x ∈ wput (t.read (t.key ar en)).st ⟨t.key ar en, true, (A.look t (t.key ar en)).getD e0 ++ data⟩ := hx
    rw [h4] at hx
    show WOk (t.read (t.key ar en)).tn x
    rw [h3]
    exact (wput_sub hx).elim (fun q => q ▸ hw) fun q => h0.wok x q
theorem AI.commit (h : AI A) (n : Int) : AI (A.commit n).1 := by
 unfold AM.commit
 dsimp only
 split
 ·exact h
 ·split
  ·rename_i h1 h2
   refine AI.close ?_ n
   unfold AM.check at h2 ⊢
   split at h2
   ·exact absurd h2.1 (by decide)
   ·rename_i t e
    have h0 := h.tx t (y69 e).1
    split at h2
    ·exact absurd rfl h2.2
    split at h2
    ·exact absurd h2.1 (by decide)
    split at h2
    ·exact absurd h2.1 (by decide)
    rename_i c1 c2 c3
    rw [if_neg c1, if_neg c2, if_neg c3]
    exact h.push h0.rise h0.wok
  ·exact h.close n
theorem AI.abort (h : AI A) (n : Int) : AI (A.abort n).1 := by
 unfold AM.abort; split; exact h.close n; exact h
theorem ai_new {first : Nat} {s : Sta} (hs : SRise s) (hd : ∀ x ∈ s, x.2.size ≤ 8192) : AI (anew first s) :=
 ⟨by simp [anew], fun x hx => by rw [List.mem_singleton.1 hx]; exact hs, rfl, nofun, Nat.le_refl _, nofun, by simp [anew], by simp [anew], fun x hx => by rw [List.mem_singleton.1 hx]; exact hd⟩
end
end Go.Proofs.YtglcanljknjcfaaGreatDoor

set_option maxRecDepth 20000
namespace Go.Proofs.YtglcanljknjcfaaGreatDoor
open Go Go.HW
section
variable {P : Program} {h : Heap} {L : List Assn}
theorem hwp_i2s {src dst : TypeId} {k : IntKind} {n : Int} {K : Value → Heap → Prop} (h1 : P.underlying src = some (.int k)) (h2 : P.underlying dst = some .string) (H : K (.string (Utf8.encode n)) h) : hwp P (Go.convert src dst (.int k n)) K h := by
 unfold Go.convert
 exact (y10 _ _ _ _).2 ((y32 h1).2 ((y10 _ _ _ _).2 ((y32 h2).2 H)))
theorem hwp_srange {t : TypeId} {s : ByteArray} {K : Value → Heap → Prop} (ht : P.underlying t = some .string) (H : K (.pointer (some ⟨h.size, 0, none⟩)) (h.push (.stringIter s 0))) : hwp P (Instr.range t (.string s)) K h := by
 unfold Instr.range
 refine (y10 _ _ _ _).2 ((y10 _ _ _ _).2 ((y32 ht).2 ?_))
 exact (y10 _ _ _ _).2 H
theorem Hs.snext {i pos : Nat} {s : ByteArray} {ty : TypeId} {K : Value → Heap → Prop} (H : Hs h (ob i (.stringIter s pos) :: L)) (k0 : s.size ≤ pos → K (.tuple #[.bool false]) h)
  (k1 : pos < s.size → ∀ h', Hs h' (ob i (.stringIter s (pos + (Utf8.decode s pos).2)) :: L) → K (.tuple #[.bool true, .int .i64 (pos : Nat), .int .i32 ((Utf8.decode s pos).1 : Nat)]) h') : hwp P (Instr.next (.pointer (some ⟨i, 0, none⟩)) true ty) K h := by
 unfold Instr.next
 refine (y10 _ _ _ _).2 ⟨_, H.get, rfl, ?_⟩
 show hwp P (if pos < s.size then (do let (c, width) := Utf8.decode s pos; setObj i (.stringIter s (pos + width)); pure (.tuple #[.bool true, goInt pos, .int .i32 c])) else pure (.tuple #[.bool false])) K h
 generalize Utf8.decode s pos = cw at *
 obtain ⟨c, w⟩ := cw
 by_cases hp : pos < s.size
 ·rw [if_pos hp]
  exact (y10 _ _ _ _).2 ⟨⟨_, H.get, rfl, rfl⟩, k1 hp _ (H.set _)⟩
 ·rw [if_neg hp]
  exact k0 (by omega)
end
theorem get_sb {s : ByteArray} {i : Nat} (hi : i < s.size) : (s.get! i).toNat = (sb s)[i]'(by rw [y116]; exact hi) := by
 rw [sb_get s i hi]
 have : s.get! i = s[i] := by
  unfold ByteArray.get!
  show s.data[i]! = s.data[i]
  exact getElem!_pos s.data i hi
 rw [this]
theorem dec_lo' {s : ByteArray} {i b : Nat} (hb : (s.get! i).toNat = b) (h : b < 128) : Utf8.decode s i = (b, 1) := by
 unfold Utf8.decode
 simp only [Nat.add_zero, hb]
 rw [if_pos h]
theorem dec_hi' {s : ByteArray} {i b : Nat} (hb : (s.get! i).toNat = b) (h : 128 ≤ b) : 128 ≤ (Utf8.decode s i).1 := by
 have e : (128 : Nat) ≤ Utf8.runeError := by decide
 unfold Utf8.decode
 simp only [Nat.add_zero, hb]
 rw [if_neg (by omega)]
 repeat' split
 all_goals first | exact e | (rename_i q; simp only [ge_iff_le, Bool.and_eq_true, decide_eq_true_eq] at q; dsimp only; omega)
theorem dec_lo {s : ByteArray} {i : Nat} (hi : i < s.size) (h : (sb s)[i]'(by rw [y116]; exact hi) < 128) : Utf8.decode s i = ((sb s)[i]'(by rw [y116]; exact hi), 1) := dec_lo' (get_sb hi) h
theorem dec_hi {s : ByteArray} {i : Nat} (hi : i < s.size) (h : 128 ≤ (sb s)[i]'(by rw [y116]; exact hi)) : 128 ≤ (Utf8.decode s i).1 := dec_hi' (get_sb hi) h
theorem idx_none {l : List UInt8} {c : UInt8} (h : ∀ x ∈ l, x ≠ c) : Lib.indexByte l c = -1 := by
 induction l with
 | nil => rfl
 | cons b l ih =>
  unfold Lib.indexByte
  rw [if_neg (by simpa using h b (List.mem_cons_self ..)), ih fun x hx => h x (List.mem_cons_of_mem _ hx)]
  rfl
abbrev zset : ByteArray := ⟨#[97, 98, 99, 100, 101, 102, 103, 104, 105, 106, 107, 108, 109, 110, 111, 112, 113, 114, 115, 116, 117, 118, 119, 120, 121, 122, 48, 49, 50, 51, 52, 53, 54, 55, 56, 57, 46, 95, 45, 47]⟩
theorem zset_idx : ∀ c : Fin 128, decide (0 ≤ Lib.indexByte zset.data.toList (((c.1 : Nat) : Int).toNat.toUInt8)) = zch c.1 := by decide +kernel
theorem zset_lo : ∀ i : Fin 40, (sb zset)[i.1]'(by rw [y116]; exact i.2) < 128 := by decide +kernel
theorem zch_lo {c : Nat} (h : zch c = true) : c < 128 := by
 unfold zch shc at h
 simp at h; omega
variable {h : Heap} {L : List Assn} {Q : Value → Heap → Prop}
theorem Index1_hs {s : ByteArray} {c : UInt8} (H : Hs h L) (kk : ∀ h', Hs h' L → Q (.int .i64 (Lib.indexByte s.data.toList c)) h') : SpecH PP F_strings_Index [.string s, .string ⟨#[c]⟩] h Q :=
 of_below fun w hw => (Tryz.strings_Index_one s c w).mono fun e w' ⟨he, hw'⟩ => ⟨_, he, hw' ▸ RowKit.Below.refl _ _, hw' ▸ Nat.le_refl _, fun x => kk _ (H.ext x.toExt)⟩
theorem IndexByte_hs {s : ByteArray} {c : Int} (H : Hs h L) (kk : ∀ h', Hs h' L → Q (.int .i64 (Lib.indexByte s.data.toList c.toNat.toUInt8)) h') : SpecH PP F_strings_IndexByte [.string s, .int .u8 c] h Q :=
 of_below fun w hw => (Tryz.strings_IndexByte s c w).mono fun e w' ⟨he, hw'⟩ => ⟨_, he, hw' ▸ RowKit.Below.refl _ _, hw' ▸ Nat.le_refl _, fun x => kk _ (H.ext x.toExt)⟩
theorem ContainsLo_hs {s : ByteArray} {c : Int} (h0 : 0 ≤ c) (h1 : c < 128) (H : Hs h L) (kk : ∀ h', Hs h' L → Q (.bool (decide (0 ≤ Lib.indexByte s.data.toList c.toNat.toUInt8))) h') : SpecH PP z373 [.string s, .int .i32 c] h Q :=
 of_below fun w hw => (Tryz.strings_ContainsRune_ascii s c w h0 h1).mono fun e w' ⟨he, hw'⟩ => ⟨_, he, hw' ▸ RowKit.Below.refl _ _, hw' ▸ Nat.le_refl _, fun x => kk _ (H.ext x.toExt)⟩
def validB (r : Int) : Bool := (decide (0 ≤ r) && decide (r < 55296)) || (decide (57343 < r) && decide (r ≤ 1114111))
theorem Valid_pure (r : Int) : PureAt PP z436 [.int .i32 r] (.bool (validB r)) := by
 intro h
 refine z435.door ?_
 have j2 : ∀ b, validB r = b → z435.J2 b (fun v h' => v = .bool (validB r) ∧ h' = h) h := fun b e => z435.J2_of ((y16 _ _ _).2 ⟨fun q => ⟨by rw [e, q], rfl⟩, fun q => ⟨by rw [e, q], rfl⟩⟩)
 have j1 : ∀ b, b = (decide (0 ≤ r) && decide (r < 55296)) → z435.J1 r b (fun v h' => v = .bool (validB r) ∧ h' = h) h := fun b e => by
  refine z435.J1_of ((y16 _ _ _).2 ⟨fun q => ⟨?_, rfl⟩, fun q => (y16 _ _ _).2 ⟨fun q2 => j2 _ ?_, fun q2 => j2 _ ?_⟩⟩)
  ·unfold validB; rw [← e, q]; rfl
  ·unfold validB; rw [← e, q, q2]; rfl
  ·unfold validB; rw [← e, q, q2]; rfl
 refine (y16 _ _ _).2 ⟨fun q => j1 _ ?_, fun q => j1 _ ?_⟩
 ·rw [q]; rfl
 ·rw [q]; rfl
theorem enc_hi {c : Nat} (h : 128 ≤ c) (hv : validB (c : Nat) = true) : 2 ≤ (Utf8.encode (c : Nat)).size ∧ (Utf8.encode (c : Nat)).size ≤ 4 ∧ ∀ hl : (Utf8.encode (c : Nat)).size - 1 < (sb (Utf8.encode (c : Nat))).length, 128 ≤ (sb (Utf8.encode (c : Nat)))[(Utf8.encode (c : Nat)).size - 1] := by
 have hvv : Utf8.valid (c : Nat) = true := by
  unfold validB at hv; unfold Utf8.valid; simp at hv ⊢; omega
 have hb : ∀ n : Nat, n < 64 → (UInt8.ofNat (128 + n)).toNat = 128 + n := fun n hn => by simp [UInt8.toNat_ofNat']; omega
 have hm := hb (c % 64) (by omega)
 have key : ∀ l : List UInt8, 2 ≤ l.length → l.length ≤ 4 → (∀ hl : l.length - 1 < l.length, 128 ≤ (l[l.length - 1]'hl).toNat) → ∀ e : ByteArray, e = ⟨l.toArray⟩ → 2 ≤ e.size ∧ e.size ≤ 4 ∧ ∀ hl : e.size - 1 < (sb e).length, 128 ≤ (sb e)[e.size - 1] := by
  intro l h2 h4 hk e he
  subst he
  have hs : (ByteArray.mk l.toArray).size = l.length := by simp [ByteArray.size]
  refine ⟨by omega, by omega, fun hl => ?_⟩
  have e1 : sb (ByteArray.mk l.toArray) = l.map UInt8.toNat := by simp [sb]
  simp only [e1, hs, List.getElem_map]
  exact hk (by omega)
 obtain ⟨l, e, h2, h4, hk⟩ : ∃ l : List UInt8, Utf8.encode (c : Nat) = ⟨l.toArray⟩ ∧ 2 ≤ l.length ∧ l.length ≤ 4 ∧ (∀ hl : l.length - 1 < l.length, 128 ≤ (l[l.length - 1]'hl).toNat) := by
  unfold Utf8.encode
  simp only [hvv, if_true, Int.toNat_natCast]
  rw [if_neg (by omega)]
  split
  ·exact ⟨[_, _], rfl, by simp, by simp, fun hl => by show 128 ≤ (UInt8.ofNat (128 + c % 64)).toNat; omega⟩
  ·split
   ·exact ⟨[_, _, _], rfl, by simp, by simp, fun hl => by show 128 ≤ (UInt8.ofNat (128 + c % 64)).toNat; omega⟩
   ·exact ⟨[_, _, _, _], rfl, by simp, by simp, fun hl => by show 128 ≤ (UInt8.ofNat (128 + c % 64)).toNat; omega⟩
 exact key l h2 h4 hk _ e
theorem y173 : zset.size = 40 := rfl
theorem zset_ne {c : Nat} (hc : 128 ≤ c) (hc2 : c < 256) (n m : Nat) : Lib.indexByte (zset.extract n m).data.toList (((c : Nat) : Int).toNat.toUInt8) = -1 := by
 refine idx_none fun x hx q => ?_
 have hx' : x.toNat ∈ sb (zset.extract n m) := List.mem_map_of_mem hx
 rw [sb_extract] at hx'
 have hx2 := List.mem_of_mem_drop (List.mem_of_mem_take hx')
 obtain ⟨i, hi, e⟩ := List.getElem_of_mem hx2
 rw [y116, y173] at hi
 have : (sb zset)[i]'(by rw [y116]; exact hi) < 128 := zset_lo ⟨i, hi⟩
 have e2 : x.toNat = c := by rw [q]; simp; omega
 omega
theorem ZN1_hs {c : Nat} (H : Hs h L) (kk : ∀ h', Hs h' L → Q (.bool (!zch c)) h') : SpecH PP z462 [.int .i32 (c : Nat)] h Q := by
 refine z461.door ?_
 by_cases hc : c < 128
 ·refine ContainsLo_hs (s := zset) (by omega) (by omega) H fun h' H' => ⟨_, rfl, ?_⟩
  dsimp only
  rw [zset_idx ⟨c, hc⟩]
  exact kk h' H'
 have hz : zch c = false := by
  cases e : zch c with
  | false => rfl
  | true => exact absurd (zch_lo e) hc
 rw [hz] at kk
 refine z372.door (z376.door (y22 (decide_eq_true (by omega)) ?_))
 have no : ∀ h', Hs h' L → ∃ (t7 : Int), Value.int .i64 (-1) = (.int .i64 t7) ∧ ∃ (t4 : Bool), Value.bool (decide (t7 ≥ 0)) = (.bool t4) ∧ Q (.bool (!t4)) h' := fun h' H' => ⟨_, rfl, _, rfl, kk h' H'⟩
 rw [decide_eq_false (by omega)]
 refine z376.J1_of (y13 rfl ((y16 _ _ _).2 ⟨fun e => ?_, fun e => ?_⟩))
 ·refine hwp_srange y91 ⟨_, rfl, ?_⟩
  have H1 := H.push (.stringIter zset 0)
  generalize Array.size h = it at H1 ⊢
  generalize Array.push h _ = h1 at H1 ⊢
  have go : ∀ (r pos : Nat) {h : Heap}, pos + r = 40 → Hs h (ob it (.stringIter zset pos) :: L) → ∀ {R : Value → Heap → Prop}, (∀ h', Hs h' L → R (.int .i64 (-1)) h') → z376.L1 (.pointer (some ⟨it, 0, none⟩)) (z376.K2 R) h := by
   intro r
   induction r with
   | zero =>
    intro pos h hp H R k
    exact z376.L1_of (Hs.snext H (fun _ => .inl ⟨rfl, z376.L1_X9 (k _ H.tl)⟩) fun hlt => absurd hlt (by rw [y173]; omega))
   | succ r ih =>
    intro pos h hp H R k
    refine z376.L1_of (Hs.snext H (fun hge => absurd hge (by rw [y173]; omega)) fun hlt h' H' => .inr ⟨_, _, rfl, ?_⟩)
    have lo := zset_lo ⟨pos, by omega⟩
    rw [dec_lo hlt lo] at H' ⊢
    refine y13 ?_ (ih (pos + 1) (by omega) H' k)
    rw [beq_eq_false_iff_ne]
    have lo : (sb zset)[pos]'(by rw [y116]; exact hlt) < 128 := lo
    dsimp only
    omega
  exact go 40 0 rfl H1 no
 ·refine ⟨_, Valid_pure _, _, rfl, ?_⟩
  cases hv : validB (c : Nat) with
  | false => exact y22 rfl (no _ H)
  | true =>
  refine y13 rfl ?_
  obtain ⟨z1, z2, z3⟩ := enc_hi (by omega) hv
  refine z376.S1_of (hwp_i2s U_int32 y91 ⟨_, rfl, ?_⟩)
  generalize Utf8.encode ((c : Nat) : Int) = en at *
  have ew : IntKind.i64.wrap (((en.size : Nat) : Int) - 1) = ((en.size - 1 : Nat) : Int) := by rw [y34 (by omega) (by omega)]; omega
  dsimp only
  rw [ew]
  have hl : en.size - 1 < (sb en).length := by rw [y116]; omega
  have hi := z3 hl
  have hi2 : (sb en)[en.size - 1] < 256 := sb_lt (List.getElem_mem hl)
  have lo : (sb zset)[en.size - 1]'(by rw [y116, y173]; omega) < 128 := zset_lo ⟨en.size - 1, by omega⟩
  refine z376.L2_of (y22 (decide_eq_true (by show ((en.size - 1 : Nat) : Int) < ((zset.size : Nat) : Int); rw [y173]; omega)) (z376.S2_of ?_))
  refine hwp_sidx (i := en.size - 1) y91 (by rw [y173]; omega) ⟨_, rfl, ?_⟩
  refine hwp_sidx (i := en.size - 1) y91 (by omega) ⟨_, rfl, ?_⟩
  refine y22 (by
   rw [bne_iff_ne]; intro q
   have q : (((sb zset)[en.size - 1]'(by rw [y116, y173]; omega) : Nat) : Int) = (((sb en)[en.size - 1]'hl : Nat) : Int) := q
   omega) ?_
  have ew2 : IntKind.i64.wrap (((en.size - 1 : Nat) : Int) + 1) = ((en.size : Nat) : Int) := by rw [y34 (by omega) (by omega)]; omega
  dsimp only
  rw [ew2]
  refine hwp_ssub (lo := some (.int .i64 ((en.size : Nat) : Int))) (hi := none) y91 trivial trivial (by simp [bnd]) (by show ((en.size : Nat) : Int) ≤ ((zset.size : Nat) : Int); rw [y173]; omega) (by simp [bnd]) ⟨_, rfl, ?_⟩
  refine hwp_sidx (i := en.size - 1) y91 (by omega) ⟨_, rfl, ?_⟩
  refine IndexByte_hs H fun h' H' => ⟨_, rfl, ?_⟩
  rw [zset_ne hi hi2]
  exact y22 rfl (z376.S2_Xret (z376.L2_Xret (z376.S1_Xret (no h' H'))))
end Go.Proofs.YtglcanljknjcfaaGreatDoor

set_option maxRecDepth 20000
namespace Go.Proofs.YtglcanljknjcfaaGreatDoor
open Go Go.HW
variable {h : Heap} {L : List Assn} {Q : Value → Heap → Prop}
theorem IndexFunc_hs {s : ByteArray} (hs : s.size < 2 ^ 40) (H : Hs h L) (kk : ∀ v h', decide (v < 0) = (sb s).all zch → Hs h' L → Q (.int .i64 v) h') : SpecH PP z375 [.string s, .func (.func z462) #[] #[]] h Q := by
 refine z374.door (z380.door (hwp_srange y91 ⟨_, rfl, ?_⟩))
 have H1 := H.push (.stringIter s 0)
 generalize Array.size h = it at H1 ⊢
 generalize Array.push h _ = h1 at H1 ⊢
 have go : ∀ (r pos : Nat) {h : Heap}, pos + r = s.size → (∀ x ∈ (sb s).take pos, zch x = true) → Hs h (ob it (.stringIter s pos) :: L) →
   z380.L1 (.func (.func z462) #[] #[]) true (.pointer (some ⟨it, 0, none⟩)) (z380.K1 fun v h1 => ∃ (t7 : Int), v = (.int .i64 t7) ∧ Q (.int .i64 t7) h1) h := by
  intro r
  induction r with
  | zero =>
   intro pos h hp hall H
   refine z380.L1_of (Hs.snext H (fun _ => .inl ⟨rfl, z380.L1_X0 ⟨_, rfl, kk _ _ ?_ H.tl⟩⟩) fun hlt => absurd hlt (by omega))
   rw [List.take_of_length_le (by rw [y116]; omega)] at hall
   rw [List.all_eq_true.2 hall]; rfl
  | succ r ih =>
   intro pos h hp hall H
   refine z380.L1_of (Hs.snext H (fun hge => absurd hge (by omega)) fun hlt h' H' => .inr ⟨_, _, rfl, y152 (by kernel_rfl) ?_⟩)
   have hl : pos < (sb s).length := by rw [y116]; exact hlt
   refine ZN1_hs H' fun h2 H2 => ⟨_, rfl, ?_⟩
   have stop : zch ((sb s)[pos]) = false → ∀ h', Hs h' L → ∃ (t7 : Int), Value.int .i64 ((pos : Nat) : Int) = (.int .i64 t7) ∧ Q (.int .i64 t7) h' := fun e h' H' => ⟨_, rfl, kk _ h' (by
    rw [decide_eq_false (by omega)]
    symm
    rw [← Bool.not_eq_true]
    intro q
    have := List.all_eq_true.1 q _ (List.getElem_mem hl)
    rw [e] at this; cases this) H'⟩
   by_cases hb : (sb s)[pos] < 128
   ·rw [dec_lo hlt hb] at H2 ⊢
    dsimp only
    cases e : zch ((sb s)[pos]) with
    | false => exact y22 rfl (z380.L1_Xret (stop e _ H2.tl))
    | true =>
     refine y13 rfl (ih (pos + 1) (by omega) (fun x hx => ?_) H2)
     rw [List.take_succ_eq_append_getElem hl] at hx
     rcases List.mem_append.1 hx with q | q
     ·exact hall x q
     ·rw [List.mem_singleton.1 q]; exact e
   ·have hd := dec_hi hlt (by omega : 128 ≤ (sb s)[pos])
    have hz : zch (Utf8.decode s pos).1 = false := by
     cases e : zch (Utf8.decode s pos).1 with
     | false => rfl
     | true => exact absurd (zch_lo e) (by omega)
    have hz2 : zch ((sb s)[pos]) = false := by
     cases e : zch ((sb s)[pos]) with
     | false => rfl
     | true => exact absurd (zch_lo e) hb
    rw [hz]
    exact y22 rfl (z380.L1_Xret (stop hz2 _ H2.tl))
 exact go s.size 0 (by omega) (by simp) H1
theorem idx_app {p q : List UInt8} {c : UInt8} (h : c ∉ p) : Lib.indexByte (p ++ c :: q) c = (p.length : Nat) := by
 induction p with
 | nil => show Lib.indexByte (c :: q) c = _; unfold Lib.indexByte; rw [if_pos (by simp)]; rfl
 | cons b p ih =>
  rw [List.mem_cons, not_or] at h
  show Lib.indexByte (b :: (p ++ c :: q)) c = _
  unfold Lib.indexByte
  rw [if_neg (by simpa using fun e : b = c => h.1 e.symm), ih h.2, if_neg (by simp)]
  simp
theorem parts_one {p : List Nat} (h : 47 ∉ p) : partsL p = [p] := by
 induction p with
 | nil => rfl
 | cons b p ih =>
  rw [List.mem_cons, not_or] at h
  unfold partsL
  rw [if_neg (fun e => h.1 e.symm), ih h.2]
theorem parts_app {p q : List Nat} (h : 47 ∉ p) : partsL (p ++ 47 :: q) = p :: partsL q := by
 induction p with
 | nil => show partsL (47 :: q) = _; rw [partsL, if_pos rfl]
 | cons b p ih =>
  rw [List.mem_cons, not_or] at h
  show partsL (b :: (p ++ 47 :: q)) = _
  rw [partsL, if_neg (fun e => h.1 e.symm), ih h.2]
theorem slash_cases (l : List UInt8) : (Lib.indexByte l 47 = -1 ∧ 47 ∉ l.map UInt8.toNat) ∨ ∃ p q, l = p ++ 47 :: q ∧ Lib.indexByte l 47 = (p.length : Nat) ∧ 47 ∉ p.map UInt8.toNat := by
 have un : ∀ p : List UInt8, (47 : UInt8) ∉ p → 47 ∉ p.map UInt8.toNat := fun p hp q => by
  obtain ⟨x, hx, e⟩ := List.mem_map.1 q
  have : x = 47 := UInt8.toNat_inj.1 e
  exact hp (this ▸ hx)
 by_cases h : (47 : UInt8) ∈ l
 ·obtain ⟨p, q, e, hp⟩ := List.eq_append_cons_of_mem h
  exact .inr ⟨p, q, e, by rw [e]; exact idx_app hp, un p hp⟩
 ·exact .inl ⟨idx_none fun x hx e => h (e ▸ hx), un l h⟩
def badB (t : ByteArray) : Bool := !partB (sb t)
theorem r1_j2 {s0 t13 : ByteArray} {t2 : Addr} {l : Nat} {K : VP} {Lp : Loop} (hl : h[l]? = some (.loop Lp)) (hr : Lp.state = .ready) (H : z459.J2 t2 (badB t13) l K (h.setIfInBounds l (.loop { Lp with state := .busy }))) : z459.R1 s0 t2 t13 l K h := by
 refine z459.R1_of ⟨Lp, hl, hr, ?_⟩
 have e : badB t13 = (decide (t13 = (⟨#[]⟩ : ByteArray)) || decide (t13 = (⟨#[46]⟩ : ByteArray)) || decide (t13 = (⟨#[46, 46]⟩ : ByteArray))) := by
  have k : ∀ u : ByteArray, decide (t13 = u) = decide (sb t13 = sb u) := fun u => decide_eq_decide.2 ⟨fun e => by rw [e], sb_inj⟩
  unfold badB partB
  rw [k ⟨#[]⟩, k ⟨#[46]⟩, k ⟨#[46, 46]⟩, show sb ⟨#[]⟩ = [] from rfl, show sb ⟨#[46]⟩ = [46] from rfl, show sb ⟨#[46, 46]⟩ = [46, 46] from rfl]
  simp only [Bool.not_and, decide_not, Bool.not_not]
 rw [e] at H
 refine (y16 _ _ _).2 ⟨fun q => ?_, fun q => (y16 _ _ _).2 ⟨fun q2 => ?_, fun q2 => ?_⟩⟩
 ·rw [q] at H; exact H
 ·rw [q, q2] at H; exact H
 ·rw [q, q2] at H; exact H
theorem Name_hs {s : ByteArray} (H : Hs h L) (kk : ∀ h', Hs h' L → Q (.bool (znameB s)) h') : SpecH PP z460 [.string s] h Q := by
 obtain ⟨m, sm, s0, HE⟩ := H.em
 refine SpecH.keepD (z459.door ?_)
 dsimp only
 have H1 := HE.new (t := T_bool) (cs := #[.bool false]) (xs := [.bool false])
 generalize Array.push h (.cells #[.bool false] T_bool (0, 0)) = h1 at H1 ⊢
 generalize Array.size h = t2 at H1 ⊢
 have bad : znameB s = false → z459.J1 s ⟨t2, 0, none⟩ true (fun v h' => KeepD h h' → Q v h') h1 := fun e => by
  refine z459.J1_of (y22 rfl (H1.sto (off := 0) (by simp) fun h3 H3 => ⟨_, H3.cell (off := 0) rfl, fun h4 tk kd => ?_⟩))
  have := kk h4 (Hs.takes0 H3.tl sm s0 tk kd)
  rw [e] at this; exact this
 refine (y16 _ _ _).2 ⟨fun e => bad ?_, fun e => ?_⟩
 ·unfold znameB; rw [of_decide_eq_true e]; rfl
 have hne : decide (s ≠ e0) = true := by rw [decide_not]; show (!decide (s = ⟨#[]⟩)) = true; rw [e]; rfl
 by_cases e2 : ((s.size : Nat) : Int) > 64
 ·rw [decide_eq_true e2]
  refine bad ?_
  unfold znameB; rw [decide_eq_false (p := s.size ≤ 64) (by omega)]; simp
 rw [decide_eq_false e2]
 have hsz : decide (s.size ≤ 64) = true := decide_eq_true (by omega)
 refine z459.J1_of (y13 rfl (z378.door (z382.door ?_)))
 dsimp only
 have H2 := H1.new (t := y29) (cs := #[.string s]) (xs := [.string s])
 generalize Array.push h1 _ = h2 at H2 ⊢
 generalize Array.size h1 = s3 at H2 ⊢
 have H3 := H2.new (t := y29) (cs := #[.string (⟨#[47]⟩ : ByteArray)]) (xs := [.string ⟨#[47]⟩])
 generalize Array.push h2 _ = h3 at H3 ⊢
 generalize Array.size h2 = s4 at H3 ⊢
 have H4 := H3.new (t := y63) (cs := #[.int .i64 0]) (xs := [.int .i64 0])
 generalize Array.push h3 _ = h4 at H4 ⊢
 generalize Array.size h3 = s5 at H4 ⊢
 refine ⟨_, rfl, _, rfl, ?_⟩
 refine ⟨z385, #[], #[.pointer (some ⟨s4, 0, none⟩), .pointer (some ⟨s3, 0, none⟩), .pointer (some ⟨s5, 0, none⟩)], rfl, by kernel_rfl, fun fn tmps hf => ?_⟩
 generalize hL : (Loop.mk .ready none fn tmps #[13] (z459.cd 116) (z459.cd 117) h4.size) = Lp
 have H5 := (H4.push (.deferred (some []))).push (.loop Lp)
 rw [Array.size_push] at H5
 generalize (Array.push (Array.push h4 (.deferred (some []))) (.loop Lp)) = h5 at H5 ⊢
 generalize Array.size h4 = df at H5 hL ⊢
 have endOk : (partsL (sb s)).all partB = true → ∀ {h' : Heap} {r : ByteArray}, Hs h' (ob (df + 1) (.loop Lp) :: ob df (.deferred (some [])) :: pt s5 y63 [.int .i64 0] :: pt s4 y29 [.string ⟨#[47]⟩] :: pt s3 y29 [.string r] :: pt t2 T_bool [.bool false] :: [Em m]) →
   ∃ L, h'[df + 1]? = some (.loop L) ∧ L.state ≠ .busy ∧ h'[df]? = some (.deferred (some [])) ∧
    jumpK L.pending (fun e h_1 => z459.K2 (fun v h' => KeepD h h' → Q v h') e (mkFr 0 27 [(0, (.string s)), (2, (.pointer (some ⟨t2, 0, none⟩)))]) h_1) (h'.setIfInBounds (df + 1) (.loop { L with state := .exhausted })) := by
  intro hall h' r H
  refine ⟨Lp, H.get, by rw [← hL]; simp, H.m1.get, ?_⟩
  have H6 := H.set (.loop { Lp with state := .exhausted })
  generalize h'.setIfInBounds (df + 1) (.loop { Lp with state := .exhausted }) = h6 at H6 ⊢
  rw [show Lp.pending = none by rw [← hL]]
  show z459.K2 _ .normal _ _
  refine z459.R1_outn0 (IndexFunc_hs (by omega) H6 fun v h7 hv H7 => ⟨_, rfl, ?_⟩)
  refine (H7.sel 6 [5]).sto (off := 0) (by simp) fun h8 H8 => ⟨_, H8.cell (off := 0) rfl, fun h9 tk kd => ?_⟩
  have := kk h9 (Hs.takes0 H8.tl sm s0 tk kd)
  rw [hv]
  have ez : znameB s = (sb s).all zch := by unfold znameB; rw [hne, hsz, hall]; simp
  rw [ez] at this; exact this
 have endBad : (partsL (sb s)).all partB = false → ∀ {h' : Heap} {r : ByteArray}, Hs h' (ob (df + 1) (endL { Lp with state := .busy } (some .ret)) :: ob df (.deferred (some [])) :: pt s5 y63 [.int .i64 0] :: pt s4 y29 [.string ⟨#[47]⟩] :: pt s3 y29 [.string r] :: pt t2 T_bool [.bool false] :: [Em m]) →
   ∃ L, h'[df + 1]? = some (.loop L) ∧ L.state ≠ .busy ∧ h'[df]? = some (.deferred (some [])) ∧
    jumpK L.pending (fun e h_1 => z459.K2 (fun v h' => KeepD h h' → Q v h') e (mkFr 0 27 [(0, (.string s)), (2, (.pointer (some ⟨t2, 0, none⟩)))]) h_1) (h'.setIfInBounds (df + 1) (.loop { L with state := .exhausted })) := by
  intro hall h' r H
  refine ⟨_, H.get, by simp, H.m1.get, ?_⟩
  have H6 := H.set (.loop { ({ Lp with state := .done, pending := some .ret } : Loop) with state := .exhausted })
  generalize h'.setIfInBounds (df + 1) _ = h6 at H6 ⊢
  show z459.K2 _ .ret _ _
  refine z459.R1_outret ⟨_, (H6.sel 6 [5]).cell (off := 0) rfl, fun h9 tk kd => ?_⟩
  have := kk h9 (Hs.takes0 (H6.sel 6 []) sm s0 tk kd)
  have ez : znameB s = false := by unfold znameB; rw [hall]; simp
  rw [ez] at this; exact this
 show SpecH PP z385 [_, _, _, _] _ _
 refine z384.door ⟨_, (H5.sel 4 [3, 0, 1, 2]).cell (off := 0) rfl, y13 rfl ?_⟩
 have part : ∀ {h : Heap} {r t : ByteArray} {K : VP}, Hs h (ob (df + 1) (.loop Lp) :: ob df (.deferred (some [])) :: pt s5 y63 [.int .i64 0] :: pt s4 y29 [.string ⟨#[47]⟩] :: pt s3 y29 [.string r] :: pt t2 T_bool [.bool false] :: [Em m]) →
   (partB (sb t) = true → ∀ h', Hs h' (ob (df + 1) (.loop Lp) :: ob df (.deferred (some [])) :: pt s5 y63 [.int .i64 0] :: pt s4 y29 [.string ⟨#[47]⟩] :: pt s3 y29 [.string r] :: pt t2 T_bool [.bool false] :: [Em m]) → K (.bool true) h') →
   (partB (sb t) = false → ∀ h', Hs h' (ob (df + 1) (endL { Lp with state := .busy } (some .ret)) :: ob df (.deferred (some [])) :: pt s5 y63 [.int .i64 0] :: pt s4 y29 [.string ⟨#[47]⟩] :: pt s3 y29 [.string r] :: pt t2 T_bool [.bool false] :: [Em m]) → K (.bool false) h') →
   callV PP (.func (.yield (df + 1)) #[] #[]) [.string t] K h := by
  intro h r t K H k1 k2
  refine z459.R1_yield (s0 := s) (t2 := ⟨t2, 0, none⟩) H.get (by rw [← hL]) (by rw [← hL]) (by rw [← hL]) (by rw [← hL]; exact hf) (r1_j2 H.get (by rw [← hL]) ?_)
  have H6 := H.set (.loop { Lp with state := .busy })
  generalize h.setIfInBounds (df + 1) (.loop { Lp with state := .busy }) = h6 at H6 ⊢
  refine z459.J2_of ((y16 _ _ _).2 ⟨fun e => ?_, fun e => ?_⟩)
  ·refine (H6.sel 6 [5, 0, 1, 2, 3, 4]).sto (off := 0) (by simp) fun h7 H7 => ?_
   have H8 := H7.sel 6 [1, 2, 3, 4, 5, 0]
   refine ⟨_, H8.get, k2 (by unfold badB at e; simpa using e) _ (H8.set _)⟩
  ·refine ⟨_, H6.get, ?_⟩
   have eL : endL { Lp with state := .busy } none = .loop Lp := by rw [← hL]; rfl
   rw [eL]
   exact k1 (by unfold badB at e; simpa using e) _ (H6.set _)
 have go : ∀ (n : Nat) (r : ByteArray) {h' : Heap}, r.size ≤ n → r.size ≤ 64 → (∀ b, (partsL (sb r)).all partB = b → (partsL (sb s)).all partB = b) → Hs h' (ob (df + 1) (.loop Lp) :: ob df (.deferred (some [])) :: pt s5 y63 [.int .i64 0] :: pt s4 y29 [.string ⟨#[47]⟩] :: pt s3 y29 [.string r] :: pt t2 T_bool [.bool false] :: [Em m]) →
   z384.L2 (.func (.yield (df + 1)) #[] #[]) ⟨s4, 0, none⟩ ⟨s3, 0, none⟩ ⟨s5, 0, none⟩ (z384.K2 fun _ h' => ∃ L, h'[df + 1]? = some (.loop L) ∧ L.state ≠ .busy ∧ h'[df]? = some (.deferred (some [])) ∧
    jumpK L.pending (fun e h_1 => z459.K2 (fun v h' => KeepD h h' → Q v h') e (mkFr 0 27 [(0, (.string s)), (2, (.pointer (some ⟨t2, 0, none⟩)))]) h_1) (h'.setIfInBounds (df + 1) (.loop { L with state := .exhausted }))) h' := by
  intro n
  induction n with
  | zero =>
   intro r h' hr hr2 hp H
   have e0' : r.data.toList = [] := by
    have : r.data.toList.length = 0 := by rw [Array.length_toList]; show r.size = 0; omega
    exact List.length_eq_zero_iff.1 this
   refine z384.L2_of ⟨_, (H.sel 5 [4, 0, 1, 2, 3]).cell (off := 0) rfl, _, (H.sel 4 [3, 0, 1, 2]).cell (off := 0) rfl, Index1_hs H fun h2 H2 => ⟨_, rfl, ?_⟩⟩
   have es : sb r = [] := by unfold sb; rw [e0']; rfl
   rw [e0', show Lib.indexByte [] 47 = -1 from rfl]
   refine y22 rfl (z384.L2_X2 ⟨_, (H2.sel 5 [4, 0, 1, 2, 3]).cell (off := 0) rfl, part H2 (fun q h3 H3 => ⟨_, rfl, endOk (hp true ?_) H3⟩) (fun q h3 H3 => ⟨_, rfl, endBad (hp false ?_) H3⟩)⟩)
   ·rw [es] at q; rw [es]; exact absurd q (by decide)
   ·rw [es]; rfl
  | succ n ih =>
   intro r h' hr hr2 hp H
   refine z384.L2_of ⟨_, (H.sel 5 [4, 0, 1, 2, 3]).cell (off := 0) rfl, _, (H.sel 4 [3, 0, 1, 2]).cell (off := 0) rfl, Index1_hs H fun h2 H2 => ⟨_, rfl, ?_⟩⟩
   rcases slash_cases r.data.toList with ⟨e1, e2⟩ | ⟨p, q, e1, e2, e3⟩
   ·rw [e1]
    have es : partsL (sb r) = [sb r] := parts_one e2
    refine y22 rfl (z384.L2_X2 ⟨_, (H2.sel 5 [4, 0, 1, 2, 3]).cell (off := 0) rfl, part H2 (fun q h3 H3 => ⟨_, rfl, endOk (hp true ?_) H3⟩) (fun q h3 H3 => ⟨_, rfl, endBad (hp false ?_) H3⟩)⟩)
    ·rw [es]; simp [q]
    ·rw [es]; simp [q]
   ·rw [e2]
    have er : sb r = p.map UInt8.toNat ++ 47 :: q.map UInt8.toNat := by unfold sb; rw [e1, List.map_append, List.map_cons]; rfl
    have hlen : r.size = p.length + 1 + q.length := by rw [← y116, er]; simp; omega
    have hparts : partsL (sb r) = p.map UInt8.toNat :: partsL (q.map UInt8.toNat) := by rw [er]; exact parts_app e3
    refine y13 (by simp) ⟨_, (H2.sel 5 [4, 0, 1, 2, 3]).cell (off := 0) rfl, _, (H2.sel 3 [2, 0, 1]).cell (off := 0) rfl, ?_⟩
    have ew : IntKind.i64.wrap (((p.length : Nat) : Int) + 0) = ((p.length : Nat) : Int) := by rw [y34 (by omega) (by omega)]; omega
    dsimp only
    rw [ew]
    refine hwp_ssub (lo := none) (hi := some (.int .i64 ((p.length : Nat) : Int))) y91 trivial trivial (by simp [bnd]) (by simp [bnd]) (by show ((p.length : Nat) : Int) ≤ ((r.size : Nat) : Int); omega) ⟨_, rfl, ?_⟩
    have e4 : sb (r.extract 0 p.length) = p.map UInt8.toNat := by rw [sb_extract, List.drop_zero, Nat.sub_zero, er, List.take_left' (by simp)]
    refine part (t := r.extract 0 p.length) H2 (fun q2 h3 H3 => ⟨_, rfl, y13 rfl ?_⟩) (fun q2 h3 H3 => ⟨_, rfl, y22 rfl (z384.L2_Xret (endBad (hp false ?_) H3))⟩)
    ·refine ⟨_, (H3.sel 5 [4, 0, 1, 2, 3]).cell (off := 0) rfl, _, (H3.sel 4 [3, 0, 1, 2]).cell (off := 0) rfl, ?_⟩
     have ew2 : IntKind.i64.wrap (((p.length : Nat) : Int) + (((⟨#[47]⟩ : ByteArray).size : Nat) : Int)) = ((p.length + 1 : Nat) : Int) := by rw [show (((⟨#[47]⟩ : ByteArray).size : Nat) : Int) = 1 from rfl, y34 (by omega) (by omega)]; omega
     rw [ew2]
     refine hwp_ssub (lo := some (.int .i64 ((p.length + 1 : Nat) : Int))) (hi := none) y91 trivial trivial (by simp [bnd]; omega) (by show ((p.length + 1 : Nat) : Int) ≤ ((r.size : Nat) : Int); omega) (by simp [bnd]) ⟨_, rfl, ?_⟩
     rw [show (bnd (some (Value.int .i64 ((p.length + 1 : Nat) : Int))) 0).toNat = p.length + 1 from rfl, show (bnd none ((r.size : Nat) : Int)).toNat = r.size from rfl]
     have e5 : sb (r.extract (p.length + 1) r.size) = q.map UInt8.toNat := by
      rw [sb_extract, er, ← List.singleton_append, ← List.append_assoc, List.drop_left' (by simp), List.take_of_length_le (by simp; omega)]
     have e6 : (r.extract (p.length + 1) r.size).size = q.length := by rw [← y116, e5]; simp
     refine (H3.sel 5 [4, 0, 1, 2, 3]).sto (off := 0) (by simp) fun h6 H6 => ?_
     rw [e4] at q2
     refine ih (r.extract (p.length + 1) r.size) (by omega) (by omega) (fun b hb => hp b ?_) (H6.sel 5 [1, 2, 3, 4, 0])
     rw [hparts, List.all_cons, q2, Bool.true_and, ← e5]; exact hb
    ·rw [hparts, List.all_cons, ← e4, q2]; rfl
 exact go s.size s (Nat.le_refl _) (by omega) (fun b e => e) (H5.sel 6 [0, 1, 2, 3, 4, 5])
end Go.Proofs.YtglcanljknjcfaaGreatDoor

set_option maxRecDepth 20000
namespace Go.Proofs.YtglcanljknjcfaaGreatDoor
open Go Go.HW
variable {h : Heap} {L : List Assn} {Q : Value → Heap → Prop}
theorem sort_hs {a : OA} {n c : Nat} {l : List ByteArray} (hl : l.length = n) (hm : n < 2 ^ 40) (H : Hs h (own a n c y29 1 (l.map Value.string) :: L))
  (kk : ∀ h' (l' : List ByteArray), l'.Perm l → l'.Pairwise (fun x y => strLt y x = false) → Hs h' (own a n c y29 1 (l'.map Value.string) :: L) → Q (.tuple #[]) h') : SpecH PP F_slices_Sort_string_string [.slice a n c] h Q := by
 by_cases h0 : n = 0
 ·subst h0
  have : l = [] := List.length_eq_zero_iff.1 hl
  subst this
  intro w hw
  refine (Tryz.slices_Sort_string_none a c w).mono ?_
  rintro e w' ⟨rfl, rfl⟩
  refine ⟨_, rfl, .refl _, ?_⟩
  rw [hw]; exact kk h [] (.refl _) .nil H
 ·have hle := H.own_le
  obtain ⟨b, off, ys, rfl, hc1, hx1, H1⟩ := H.own_pt (by omega)
  rw [Nat.mul_one] at hc1 hx1
  intro w hw
  have hg := H1.get
  let ss : List (List UInt8) := l.map fun s => s.data.toList
  have hss : ss.length = n := by simp [ss, hl]
  have henc : ∀ s : ByteArray, Go.Proofs.encStr s.data.toList = Value.string s := fun s => rfl
  have hmap : ss.map Go.Proofs.encStr = l.map Value.string := by
   simp only [ss, List.map_map]
   exact List.map_congr_left fun s _ => henc s
  have hget : ∀ j (hj : j < n), ys[off + j]? = some (Go.Proofs.encStr (ss[j]'(by omega))) := by
   intro j hj
   have h1 : (l.map Value.string)[j]? = ((ys.drop off).take n)[j]? := by rw [← hx1]
   rw [List.getElem?_take_of_lt hj, List.getElem?_drop, ← hmap, List.getElem?_map, List.getElem?_eq_getElem (by omega)] at h1
   rw [← h1]; rfl
  have hH : Sort.Holds Go.Proofs.encStr w b off ss.toArray := by
   intro j hj
   have hj : j < n := by simpa [hss] using hj
   have e := hget j hj
   constructor
   ·unfold World.cell?
    show (match w.heap[b]? with | some (.cells c _ _) => if (none : Option _).isSome then none else c[off + j]? | _ => none) = _
    rw [hw, hg]
    show ys.toArray[off + j]? = _
    rw [List.getElem?_toArray, e, getElem!_pos _ _ (by simp; omega)]
    simp
   ·unfold World.frozen?
    show (match w.heap[b]? with | some (.cells _ _ (lo, hi)) => decide (lo ≤ off + j) && decide (off + j < hi) | _ => false) = false
    rw [hw, hg]; simp
  have hb : b < w.heap.size := by rw [hw]; exact (Array.getElem?_eq_some_iff.1 hg).1
  have hsort := Tryz.slices_Sort_string b off c ss w hH hb (by omega)
  rw [hss] at hsort
  refine hsort.mono ?_
  rintro e w' ⟨rfl, m, os, rfl⟩
  generalize hts : (ss.mergeSort fun x y => decide (x ≤ y)) = ts
  have hperm : ts.Perm ss := by rw [← hts]; exact List.mergeSort_perm _ _
  have hord : ts.Pairwise fun x y => decide (x ≤ y) = true := by
   rw [← hts]
   refine List.pairwise_mergeSort (fun a b c h1 h2 => ?_) (fun a b => ?_) ss
   ·simp only [decide_eq_true_eq] at *; exact List.le_trans h1 h2
   ·simpa using List.le_total a b
  have htl : ts.length = n := by rw [hperm.length_eq, hss]
  have hmod : (Sort.putRow Go.Proofs.encStr (Sort.ahead w m) b off ts.toArray).heap = h.modify b (Sort.onCells (Sort.putCells Go.Proofs.encStr off ts.toArray)) := by
   rw [← hw]; rfl
  have hnew : (h.modify b (Sort.onCells (Sort.putCells Go.Proofs.encStr off ts.toArray)))[b]? = some (.cells (Sort.putCells Go.Proofs.encStr off ts.toArray ys.toArray) y29 (0, 0)) := by
   rw [Array.getElem?_modify, if_pos rfl, hg]; rfl
  have H2 : Hs (h.modify b (Sort.onCells (Sort.putCells Go.Proofs.encStr off ts.toArray))) (pt b y29 (Sort.putCells Go.Proofs.encStr off ts.toArray ys.toArray).toList :: L) := by
   refine Hs.chg H1 (fun j hj => ?_) hnew
   rw [Array.getElem?_modify, if_neg hj]
  have hx : Ext (h.modify b (Sort.onCells (Sort.putCells Go.Proofs.encStr off ts.toArray))) ((h.modify b (Sort.onCells (Sort.putCells Go.Proofs.encStr off ts.toArray))) ++ os) := fun i o e => by
   rw [Array.getElem?_append_left (Array.getElem?_eq_some_iff.1 e).1]; exact e
  have H3 := H2.ext hx
  have hw' : (Sort.grow (Sort.putRow Go.Proofs.encStr (Sort.ahead w m) b off ts.toArray) os).heap = h.modify b (Sort.onCells (Sort.putCells Go.Proofs.encStr off ts.toArray)) ++ os := by
   rw [← hmod]; rfl
  refine ⟨_, rfl, ⟨rfl, rfl, rfl, ?_, ?_, Nat.le_add_right _ _⟩, ?_⟩
  ·intro i o e d
   rw [hw', Array.getElem?_append_left (by rw [Array.size_modify]; rw [hw] at e; exact (Array.getElem?_eq_some_iff.1 e).1), Array.getElem?_modify]
   rw [hw] at e
   by_cases q : b = i
   ·subst q; rw [hg] at e; cases e; cases d
   ·rw [if_neg q]; exact e
  ·rw [hw', hw]; simp
  ·rw [hw']
   refine kk _ (ts.map fun u => (⟨u.toArray⟩ : ByteArray)) ?_ ?_ (H3.pt_own (n := n) (c := c) off ?_ ?_ hle ?_)
   ·have := hperm.map fun u : List UInt8 => (⟨u.toArray⟩ : ByteArray)
    have e : ss.map (fun u : List UInt8 => (⟨u.toArray⟩ : ByteArray)) = l := by
     simp only [ss, List.map_map]
     exact (List.map_congr_left fun s _ => by rfl).trans (List.map_id l)
    rw [e] at this; exact this
   ·rw [List.pairwise_map]
    refine hord.imp fun {x y} q => ?_
    have q : x ≤ y := of_decide_eq_true q
    rw [slt_eq]
    simpa using q
   ·rw [Nat.mul_one]
    refine List.ext_getElem? fun j => ?_
    by_cases hj : j < n
    ·have e2 : (Sort.putCells Go.Proofs.encStr off ts.toArray ys.toArray).toList[off + j]? = some (Value.string ⟨(ts[j]'(by omega)).toArray⟩) := by
      rw [Array.getElem?_toList]
      unfold Sort.putCells
      rw [Array.getElem?_mapIdx, List.getElem?_toArray, hget j hj, Option.map_some, if_pos ⟨by omega, by simp; omega⟩]
      rw [show off + j - off = j by omega, getElem!_pos _ _ (by simp; omega)]
      simp
     rw [List.getElem?_take_of_lt hj, List.getElem?_drop, e2, List.getElem?_map, List.getElem?_map, List.getElem?_eq_getElem (by omega)]
     rfl
    ·rw [List.getElem?_eq_none (by simp; omega), List.getElem?_eq_none (by simp; omega)]
   ·simp; omega
   ·unfold Sort.putCells; simp; omega
end Go.Proofs.YtglcanljknjcfaaGreatDoor

set_option maxRecDepth 20000
namespace Go.Proofs.YtglcanljknjcfaaGreatDoor
open Go Go.HW
variable {h : Heap} {L : List Assn} {Q : Value → Heap → Prop}
structure OT where
 b : Nat
 s : Nat
 tn : Nm
 vs : VS
def otV (x : OT) : Value := ptrV x.b
def opA (x : OT) : Assn := fun m => Sp [pt x.b y54 [.string x.tn, ptrV x.s], setA x.s x.vs] m
theorem y113 {x : OT} : Hs h (opA x :: L) ↔ Hs h (pt x.b y54 [.string x.tn, ptrV x.s] :: setA x.s x.vs :: L) := by
 unfold opA; exact Hs.app
theorem mget_perm2 {α β : Type} [DecidableEq α] {l l' : List (α × β)} (p : l.Perm l') (hn : (l'.map (·.1)).Nodup) (k : α) : mget l k = mget l' k := by
 cases e : mget l' k with
 | none =>
  have := y145.1 e
  exact y145.2 fun q => this ((p.map _).mem_iff.1 q)
 | some v => exact y105 ((p.map _).nodup_iff.2 hn) (p.mem_iff.2 (y87 e))
theorem mget_ws (l : List Wr) (k : Key) : mget (l.map fun w => (w.k, w)) k = wfind l k := by
 unfold mget wfind
 rw [List.find?_map, Option.map_map]
 show Option.map (fun w => w) (List.find? ((fun x => decide (x.1 = k)) ∘ fun w : Wr => (w.k, w)) l) = _
 rw [Option.map_id']
 rfl
theorem rise_nodup {l : List Wr} (h : Rise l) : ((l.map fun w => (w.k, w)).map (·.1)).Nodup := by
 rw [List.map_map, List.nodup_iff_pairwise_ne, List.pairwise_map]
 exact h.imp fun h e => by
  have e : _ = _ := e
  unfold wlt at h
  simp only [Function.comp] at e
  rw [e, y109] at h; cases h
theorem wput_perm {l : List Wr} (h : Rise l) (w : Wr) : (wput l w).Perm (w :: l.filter fun x => !decide (x.k = w.k)) := by
 induction l with
 | nil => exact .refl _
 | cons y l ih =>
  have h' := List.pairwise_cons.1 h
  unfold wput
  split
  ·rename_i e
   rw [List.filter_cons_of_neg (by simp [e]), List.filter_eq_self.2 fun z hz => ?_]
   have := h'.1 z hz
   unfold wlt at this
   simp only [Bool.not_eq_true', decide_eq_false_iff_not]
   intro q; rw [e, q, y109] at this; cases this
  ·rename_i ne
   rw [List.filter_cons_of_pos (by simpa using ne)]
   split
   ·rename_i lt
    rw [List.filter_eq_self.2 fun z hz => ?_]
    have := h'.1 z hz
    unfold wlt at this
    simp only [Bool.not_eq_true', decide_eq_false_iff_not]
    intro q
    have lt2 := y175 lt this
    rw [q, y109] at lt2; cases lt2
   ·exact ((ih h'.2).cons y).trans (.swap ..)
structure OLink (first : Nat) (t : ATx) (o : OT) : Prop where
 tn : o.tn = t.tn
 at_ : o.vs.at_ = ((first + t.snap : Nat) : Int)
 st : o.vs.st.Perm (t.st.map fun w => (w.k, w))
 rd : ∀ k, (mget o.vs.rd k).isSome = t.rd.any (fun r => decide (r = k))
 ls : ∀ b, (mget o.vs.ls b).isSome = t.ls.any (fun x => decide (x = b))
 vi : VI o.vs
section
variable {first : Nat} {t : ATx} {o : OT}
theorem OLink.get (ol : OLink first t o) (hr : Rise t.st) (k : Key) : mget o.vs.st k = t.own k := by
 rw [mget_perm2 ol.st (rise_nodup hr), mget_ws]; rfl
theorem OLink.own (ol : OLink first t o) (hr : Rise t.st) (k : Key) : o.vs.own k = match t.own k with | some w => (w, true) | none => (noW, false) := by
 unfold VS.own; (rw [ol.get hr]) <;> (cases t.own k <;> rfl)
theorem mem_mset' {α β : Type} [DecidableEq α] {l : List (α × β)} {k : α} {b : β} {x : α × β} (h : x ∈ mset l k b) : x = (k, b) ∨ x ∈ l := mem_mset h
theorem OLink.read (ol : OLink first t o) (k : Key) (hn : (t.own k).isSome = false) : OLink first (t.read k) { o with vs := o.vs.read k } := by
 have e : t.read k = { t with rd := t.rd ++ [k] } := by unfold ATx.read; rw [if_neg (by rw [hn]; simp)]
 rw [e]
 refine ⟨ol.tn, ol.at_, ol.st, fun k' => ?_, ol.ls, ⟨fun x hx => ?_, ol.vi.ls, ol.vi.st⟩⟩
 ·show (mget (mset o.vs.rd k true) k').isSome = (t.rd ++ [k]).any _
  rw [y159, List.any_append, ← ol.rd k']
  by_cases q : k = k'
  ·rw [if_pos q]; simp [q]
  ·rw [if_neg q]; simp [q]
 ·rcases mem_mset' hx with rfl | q
  ·rfl
  ·exact ol.vi.rd x q
theorem OLink.list (ol : OLink first t o) (b : Bx) : OLink first (t.list b) { o with vs := o.vs.list b } := by
 refine ⟨ol.tn, ol.at_, ol.st, ol.rd, fun k' => ?_, ⟨ol.vi.rd, fun x hx => ?_, ol.vi.st⟩⟩
 ·show (mget (mset o.vs.ls b true) k').isSome = (t.ls ++ [b]).any _
  rw [y159, List.any_append, ← ol.ls k']
  by_cases q : b = k'
  ·rw [if_pos q]; simp [q]
  ·rw [if_neg q]; simp [q]
 ·rcases mem_mset' hx with rfl | q
  ·rfl
  ·exact ol.vi.ls x q
theorem OLink.stage (ol : OLink first t o) (hr : Rise t.st) (w : Wr) : OLink first (t.stage w) { o with vs := o.vs.put w } := by
 have hnd : (o.vs.st.map (·.1)).Nodup := ((ol.st.map _).nodup_iff).2 (rise_nodup hr)
 refine ⟨ol.tn, ol.at_, ?_, ol.rd, ol.ls, ⟨ol.vi.rd, ol.vi.ls, fun x hx => ?_⟩⟩
 ·show (mset o.vs.st w.k w).Perm ((wput t.st w).map fun w => (w.k, w))
  refine (mset_mdel_perm hnd).trans (List.Perm.trans ?_ ((wput_perm hr w).map _).symm)
  rw [List.map_cons]
  refine .cons _ ?_
  unfold mdel
  refine (ol.st.filter _).trans ?_
  rw [List.filter_map]
  exact .refl _
 ·rcases mem_mset' hx with rfl | q
  ·rfl
  ·exact ol.vi.st x q
theorem OLink.meets (ol : OLink first t o) (k : Key) : o.vs.meets k = t.meets k := by
 unfold VS.meets ATx.meets
 rw [ol.rd, ol.ls]
 congr 1
 refine congrArg (fun p => t.ls.any p) (funext fun b => ?_)
 unfold inBx
 cases b with
 | mk bt ba => simp only [Bx.mk.injEq, Bool.decide_and]; rw [show decide (bt = k.t) = decide (k.t = bt) from decide_eq_decide.2 ⟨Eq.symm, Eq.symm⟩, show decide (ba = k.a) = decide (k.a = ba) from decide_eq_decide.2 ⟨Eq.symm, Eq.symm⟩]
end
structure Cmo where
 at_ : Int
 a : OA
 c : Nat
 ws : List Wr
def cmoV (x : Cmo) : List Value := [.int .i64 x.at_, .slice x.a x.ws.length x.c]
def cmoA (x : Cmo) : Assn := own x.a x.ws.length x.c y25 5 (x.ws.flatMap wrV)
def Cmo.cm (x : Cmo) : Cm := ⟨x.at_, x.a, x.ws.length, x.c, x.ws⟩
theorem cmoV_len (x : Cmo) : (cmoV x).length = 2 := rfl
theorem cmoV_one (x : Cmo) : ∀ v ∈ cmoV x, oneC v = true := by intro v hv; simp [cmoV] at hv; rcases hv with rfl | rfl <;> rfl
structure MM where
 s : Nat
 cs : CS
 ca : OA
 cc : Nat
 cms : List Cmo
 r : Nat
 l : List (Int × OT)
 last : Nat
abbrev intK : Int → Value := Value.int .i64
def mgV (M : MM) : List Value := [ptrV M.s, .slice M.ca M.cms.length M.cc, .map (some M.r), .int .i64 (M.last : Nat)]
def ofO : Option Nm → Nm × Bool | some d => (d, true) | none => (e0, false)
def cmts (A : AM) (j : Nat) : List (Int × List Wr) := (A.wrs.drop j).mapIdx fun i ws => (((A.first + j + i + 1 : Nat) : Int), ws)
structure LinkM (A : AM) (M : MM) : Prop where
 ai : AI A
 ci : CI M.cs
 now : M.cs.now = ((A.now + 1 : Nat) : Int)
 st : ∃ j, j ≤ A.wrs.length ∧ M.cs.floor ≤ ((A.first + j + 1 : Nat) : Int) ∧ (∀ i, j ≤ i → i < A.sts.length → ∀ k, M.cs.get k ((A.first + i + 1 : Nat) : Int) = ofO (mget (A.sta i) k)) ∧
  M.cms.map (fun x => (x.at_, x.ws)) = cmts A j ∧ ∀ t ∈ A.txs, j ≤ t.snap
 tot : M.cs.total ≤ (A.sta 0).length + (A.wrs.map (·.length)).sum
 last : M.last + 1 = A.next
 ks : (M.l.map (·.1)).Perm (A.txs.map fun t => (t.n : Int))
 tx : ∀ t ∈ A.txs, ∃ o, mget M.l (t.n : Int) = some o ∧ OLink A.first t o
def manA (q : Nat) (A : AM) : Assn := fun m => ∃ M : MM, LinkM A M ∧ Sp [pt q y24 (mgV M), storeA M.s M.cs, own M.ca M.cms.length M.cc y36 2 (M.cms.flatMap cmoV), Sp (M.cms.map cmoA), mp intK otV M.r M.l, fam opA M.l] m
theorem y68 {q : Nat} {A : AM} : Hs h (manA q A :: L) ↔ ∃ M, LinkM A M ∧ Hs h (pt q y24 (mgV M) :: storeA M.s M.cs :: own M.ca M.cms.length M.cc y36 2 (M.cms.flatMap cmoV) :: Sp (M.cms.map cmoA) :: mp intK otV M.r M.l :: fam opA M.l :: L) := by
 unfold manA
 simp only [Hs.ex, Hs.and]
 constructor
 ·rintro ⟨M, e, H⟩; exact ⟨M, e, Hs.app.1 H⟩
 ·rintro ⟨M, e, H⟩; exact ⟨M, e, Hs.app.2 H⟩
section
variable {A : AM} {M : MM} {t : ATx}
theorem LinkM.nd (lk : LinkM A M) : (M.l.map (·.1)).Nodup := by
 rw [lk.ks.nodup_iff]
 have := lk.ai.nd
 rw [List.nodup_iff_pairwise_ne, List.pairwise_map] at this ⊢
 exact this.imp fun h e => h (by omega)
theorem LinkM.fnone (lk : LinkM A M) {n : Int} (e : A.find n = none) : mget M.l n = none := by
 rw [y145, lk.ks.mem_iff]
 intro q
 obtain ⟨t, ht, et⟩ := List.mem_map.1 q
 have := List.find?_eq_none.1 e t ht
 simp [et] at this
theorem LinkM.fsome (lk : LinkM A M) {n : Int} (e : A.find n = some t) : ∃ o, mget M.l n = some o ∧ OLink A.first t o := by
 obtain ⟨ht, en⟩ := y69 e
 have := lk.tx t ht
 rwa [en] at this
theorem LinkM.get (lk : LinkM A M) (ht : t ∈ A.txs) (k : Key) : M.cs.get k ((A.first + t.snap + 1 : Nat) : Int) = ofO (mget (A.sta t.snap) k) := by
 obtain ⟨j, h1, h2, h3, h4, h5⟩ := lk.st
 exact h3 t.snap (h5 t ht) (lk.ai.tx t ht).snap k
theorem LinkM.upd (lk : LinkM A M) (ht : t ∈ A.txs) {t' : ATx} {o o' : OT} (eo : mget M.l (t.n : Int) = some o) (ol : OLink A.first t' o') (hn : t'.n = t.n) (hs : t'.snap = t.snap) (ai : AI (A.upd t')) : LinkM (A.upd t') { M with l := mset M.l (t.n : Int) o' } := by
 obtain ⟨j, h1, h2, h3, h4, h5⟩ := lk.st
 refine ⟨ai, lk.ci, lk.now, ⟨j, h1, h2, h3, h4, fun x hx => ?_⟩, lk.tot, lk.last, ?_, fun x hx => ?_⟩
 ·obtain ⟨y, hy, rfl⟩ := List.mem_map.1 hx
  split
  ·rw [hs]; exact h5 t ht
  ·exact h5 y hy
 ·have e1 : (mset M.l (t.n : Int) o').map (·.1) = M.l.map (·.1) := by
   rw [keys_mset, if_pos (List.mem_map.2 ⟨_, y87 eo, rfl⟩)]
  have e2 : (A.upd t').txs.map (fun t => (t.n : Int)) = A.txs.map fun t => (t.n : Int) := by
   have := congrArg (List.map fun n : Nat => (n : Int)) (upd_ns A t')
   rw [List.map_map, List.map_map] at this
   exact this
  rw [e1, e2]; exact lk.ks
 ·obtain ⟨y, hy, rfl⟩ := List.mem_map.1 hx
  split
  ·exact ⟨o', by rw [y159, hn, if_pos rfl], ol⟩
  ·rename_i ne
   obtain ⟨o2, g1, g2⟩ := lk.tx y hy
   exact ⟨o2, by rw [y159, if_neg (fun q => ne (by omega))]; exact g1, g2⟩
end
theorem mset_sameV {α β : Type} [DecidableEq α] {ν : β → Value} {l : List (α × β)} {k : α} {x y : β} (e : mget l k = some x) (he : ν x = ν y) : (mset l k y).map (fun x => (x.1, ν x.2)) = l.map (fun x => (x.1, ν x.2)) := by
 induction l with
 | nil => cases e
 | cons z l ih =>
  rw [y50] at e
  rw [mset]
  split at e
  ·rename_i hz
   rw [if_pos hz]
   have e := Option.some.inj e
   simp only [List.map_cons, List.cons.injEq, and_true]
   rw [← hz, e, he]
  ·rename_i hz
   rw [if_neg hz]
   simp only [List.map_cons, List.cons.injEq, true_and]
   exact ih e
end Go.Proofs.YtglcanljknjcfaaGreatDoor
