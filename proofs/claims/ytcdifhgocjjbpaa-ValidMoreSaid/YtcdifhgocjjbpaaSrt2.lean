/- The library's sort by a function, at one element, second part: reverse, insertion, heap. Printed by sortgen.py. -/
import Derived.Test.YtcdifhgocjjbpaaSrt1
set_option maxRecDepth 20000
set_option linter.unusedVariables false
set_option linter.unusedSimpArgs false
namespace Go.Proofs.Ytcdifhgocjjbpaa.Srtapi_Write
open Go Go.HW Go.Sort
variable {h : Heap} {L : List Assn} {Q : Value → Heap → Prop} {a : OA} {n c : Nat} {cmp : Value} {lt : Wr → Wr → Bool}
/-! ### reverseRange -/
theorem reverse_hs {d : Array Wr} {x y : Nat} (hn : d.size = n) (hxy : x < y) (hy : y ≤ n) (hmax : n < 2 ^ 60) (H : Hs h (S a n c d :: L)) (k : ∀ h', Hs h' (S a n c (reverseRange d x y) :: L) → Q (.tuple #[]) h') :
    SpecH PP F_slices_reverseRangeCmpFunc_api_Write [.slice a n c, .int .i64 (x : Int), .int .i64 (y : Int), cmp] h Q := by
  refine slices_reverseRangeCmpFunc_api_Write.door ?_
  dsimp only
  rw [p1 (by omega) (by omega)]
  have go : ∀ (r i j : Nat) {h : Heap} {e : Array Wr}, j ≤ i + r → j < n → e.size = n → reverseLoop i j e = reverseRange d x y → Hs h (S a n c e :: L) → slices_reverseRangeCmpFunc_api_Write.L1 a n c (i : Int) (j : Int) (slices_reverseRangeCmpFunc_api_Write.K1 Q) h := by
    intro r
    induction r with
    | zero =>
      intro i j h e hr hj hs he H
      rw [reverseLoop, if_neg (by omega)] at he
      refine slices_reverseRangeCmpFunc_api_Write.L1_of (br_false (decide_eq_false (by omega)) (slices_reverseRangeCmpFunc_api_Write.L1_X0 (k h ?_)))
      rw [← he]; exact H
    | succ r ih =>
      intro i j h e hr hj hs he H
      rw [reverseLoop] at he
      refine slices_reverseRangeCmpFunc_api_Write.L1_of ((br_iff _ _ _).2 ⟨fun e1 => ?_, fun e1 => slices_reverseRangeCmpFunc_api_Write.L1_X0 (k h ?_)⟩)
      · have e1 := of_decide_eq_true e1
        rw [if_pos (by omega)] at he
        refine swap_hs hs (by omega) hj H fun h2 H2 => ?_
        dsimp only
        rw [w1 (by omega), p1 (by omega) (by omega)]
        exact ih (i + 1) (j - 1) (by omega) (by omega) (by rw [swp_size]; exact hs) he H2
      · have e1 := of_decide_eq_false e1
        rw [if_neg (by omega)] at he
        rw [← he]; exact H
  exact go y x (y - 1) (by omega) (by omega) hn rfl H
/-! ### insertionSort -/
theorem insertion_hs (hc : CmpOk cmp lt) {d : Array Wr} {x y : Nat} (hn : d.size = n) (hxy : x ≤ y) (hy : y ≤ n) (hmax : n < 2 ^ 60) (H : Hs h (S a n c d :: L)) (k : ∀ h', Hs h' (S a n c (insertionSort lt d x y) :: L) → Q (.tuple #[]) h') :
    SpecH PP F_slices_insertionSortCmpFunc_api_Write [.slice a n c, .int .i64 (x : Int), .int .i64 (y : Int), cmp] h Q := by
  refine slices_insertionSortCmpFunc_api_Write.door ?_
  dsimp only
  rw [w1 (by omega)]
  have inn : ∀ (j : Nat) {i : Nat} {K : EP} {h : Heap} {e f : Array Wr}, j < n → e.size = n → insInner lt x j e = f → (∀ h', Hs h' (S a n c f :: L) → slices_insertionSortCmpFunc_api_Write.K2 K (.exit 2) (slices_insertionSortCmpFunc_api_Write.X2 a n c (x : Int) (y : Int) cmp (i : Int)) h') →
      Hs h (S a n c e :: L) → slices_insertionSortCmpFunc_api_Write.L2 a n c (x : Int) (y : Int) cmp (i : Int) (j : Int) (slices_insertionSortCmpFunc_api_Write.K2 K) h := by
    intro j
    induction j with
    | zero =>
      intro i K h e f hj hs he kk H
      rw [insInner] at he
      refine slices_insertionSortCmpFunc_api_Write.L2_of (br_false (decide_eq_false (by omega)) (kk h ?_))
      rw [← he]; exact H
    | succ j ih =>
      intro i K h e f hj hs he kk H
      rw [insInner] at he
      refine slices_insertionSortCmpFunc_api_Write.L2_of ((br_iff _ _ _).2 ⟨fun e1 => ?_, fun e1 => kk h ?_⟩)
      · have e1 := of_decide_eq_true e1
        rw [p1 (by omega) (by omega), show j + 1 - 1 = j by omega]
        refine lk hs hj H fun t ht => ⟨_, _, _, _, _, ht, ?_⟩
        refine lk hs (by omega) H fun t ht => ⟨_, _, _, _, _, ht, ?_⟩
        refine hc e[j + 1]! e[j]! _ _ _ H fun h1 r hr H1 => ⟨_, rfl, ?_⟩
        dsimp only
        rw [hr]
        refine (br_iff _ _ _).2 ⟨fun e2 => ?_, fun e2 => kk h1 ?_⟩
        · rw [if_pos (by rw [e2, decide_eq_true (by omega)]; rfl)] at he
          refine swap_hs hs hj (by omega) H1 fun h2 H2 => ?_
          exact ih (by omega) (by rw [swp_size]; exact hs) he kk H2
        · rw [if_neg (by rw [e2]; simp)] at he
          rw [← he]; exact H1
      · have e1 := of_decide_eq_false e1
        rw [if_neg (by rw [decide_eq_false (by omega)]; simp)] at he
        rw [← he]; exact H
  have go : ∀ (r i : Nat) {h : Heap} {e : Array Wr}, y ≤ i + r → i ≤ y + 1 → e.size = n → insOuter lt x y i e = insertionSort lt d x y → Hs h (S a n c e :: L) → slices_insertionSortCmpFunc_api_Write.L1 a n c (x : Int) (y : Int) cmp (i : Int) (slices_insertionSortCmpFunc_api_Write.K1 Q) h := by
    intro r
    induction r with
    | zero =>
      intro i h e hr hi hs he H
      rw [insOuter, if_neg (by omega)] at he
      refine slices_insertionSortCmpFunc_api_Write.L1_of (br_false (decide_eq_false (by omega)) (slices_insertionSortCmpFunc_api_Write.L1_X0 (k h ?_)))
      rw [← he]; exact H
    | succ r ih =>
      intro i h e hr hi hs he H
      rw [insOuter] at he
      refine slices_insertionSortCmpFunc_api_Write.L1_of ((br_iff _ _ _).2 ⟨fun e1 => ?_, fun e1 => slices_insertionSortCmpFunc_api_Write.L1_X0 (k h ?_)⟩)
      · have e1 := of_decide_eq_true e1
        rw [if_pos (by omega)] at he
        have sz : ∀ (j : Nat) (e : Array Wr), (insInner lt x j e).size = e.size := by
          intro j
          induction j with
          | zero => intro e; rfl
          | succ j ih => intro e; rw [insInner]; split
                         · rw [ih, swp_size]
                         · rfl
        refine inn i (i := i) (by omega) hs rfl (fun h2 H2 => slices_insertionSortCmpFunc_api_Write.L2_X2 ?_) H
        dsimp only
        rw [w1 (by omega)]
        exact ih (i + 1) (by omega) (by omega) (by rw [sz]; exact hs) he H2
      · have e1 := of_decide_eq_false e1
        rw [if_neg (by omega)] at he
        rw [← he]; exact H
  exact go y (x + 1) (by omega) (by omega) hn rfl H
/-! ### siftDown, heapSort -/
theorem siftDown_size : ∀ (r : Nat) {hi first root : Nat} {d : Array Wr}, hi ≤ root + r → (siftDown lt hi first root d).size = d.size := by
  intro r
  induction r with
  | zero => intro hi first root d hr; rw [siftDown, dif_pos (by omega)]
  | succ r ih =>
    intro hi first root d hr
    rw [siftDown]
    split
    · rfl
    · split
      · split
        · rfl
        · split
          · rw [ih (by omega), swp_size]
          · rfl
      · split
        · rfl
        · rw [ih (by omega), swp_size]
theorem siftDown_hs (hc : CmpOk cmp lt) {d : Array Wr} {lo hi first : Nat} (hn : d.size = n) (hf : first + hi ≤ n) (hlo : lo ≤ n) (hmax : n < 2 ^ 59) (H : Hs h (S a n c d :: L)) (k : ∀ h', Hs h' (S a n c (siftDown lt hi first lo d) :: L) → Q (.tuple #[]) h') :
    SpecH PP F_slices_siftDownCmpFunc_api_Write [.slice a n c, .int .i64 (lo : Int), .int .i64 (hi : Int), .int .i64 (first : Int), cmp] h Q := by
  refine slices_siftDownCmpFunc_api_Write.door ?_
  have go : ∀ (r root : Nat) {h : Heap} {e : Array Wr}, hi ≤ root + r → root ≤ n → e.size = n → siftDown lt hi first root e = siftDown lt hi first lo d → Hs h (S a n c e :: L) → slices_siftDownCmpFunc_api_Write.L1 a n c (hi : Int) (first : Int) cmp (root : Int) (slices_siftDownCmpFunc_api_Write.K1 Q) h := by
    intro r
    induction r with
    | zero =>
      intro root h e hr hi2 hs he H
      rw [siftDown, dif_pos (by omega)] at he
      refine slices_siftDownCmpFunc_api_Write.L1_of ?_
      dsimp only
      rw [wI (x := 2 * (root : Int)) (by omega) (by omega), wI (x := 2 * (root : Int) + 1) (by omega) (by omega)]
      refine br_true (decide_eq_true (by omega)) (slices_siftDownCmpFunc_api_Write.L1_X0 (k h ?_))
      rw [← he]; exact H
    | succ r ih =>
      intro root h e hr hi2 hs he H
      refine slices_siftDownCmpFunc_api_Write.L1_of ?_
      dsimp only
      rw [wI (x := 2 * (root : Int)) (by omega) (by omega), show IntKind.i64.wrap (2 * (root : Int) + 1) = ((2 * root + 1 : Nat) : Int) by rw [wI (by omega) (by omega)]; omega]
      rw [siftDown] at he
      refine (br_iff _ _ _).2 ⟨fun e1 => slices_siftDownCmpFunc_api_Write.L1_X0 (k h ?_), fun e1 => ?_⟩
      · have e1 := of_decide_eq_true e1
        rw [dif_pos (by omega)] at he
        rw [← he]; exact H
      have e1 := of_decide_eq_false e1
      rw [dif_neg (by omega)] at he
      have J2 : ∀ {h : Heap} {ch : Nat}, root < ch → ch < hi → (if (!lt e[first + root]! e[first + ch]!) = true then e else siftDown lt hi first ch (swp e (first + root) (first + ch))) = siftDown lt hi first lo d → Hs h (S a n c e :: L) →
          slices_siftDownCmpFunc_api_Write.J2 a n c (hi : Int) (first : Int) cmp (root : Int) (ch : Int) (slices_siftDownCmpFunc_api_Write.K1 Q) h := by
        intro h ch hch hch2 he H
        refine slices_siftDownCmpFunc_api_Write.J2_of ?_
        dsimp only
        rw [wA (by omega), wA (by omega)]
        refine lk hs (by omega) H fun t ht => ⟨_, _, _, _, _, ht, ?_⟩
        refine lk hs (by omega) H fun t ht => ⟨_, _, _, _, _, ht, ?_⟩
        refine hc e[first + root]! e[first + ch]! _ _ _ H fun h1 r hr H1 => ⟨_, rfl, ?_⟩
        rw [hr]
        refine (br_iff _ _ _).2 ⟨fun e2 => slices_siftDownCmpFunc_api_Write.L1_Xret (k h1 ?_), fun e2 => ?_⟩
        · rw [if_pos e2] at he
          rw [← he]; exact H1
        · rw [if_neg (by rw [e2]; simp)] at he
          refine swap_hs hs (by omega) (by omega) H1 fun h2 H2 => ?_
          exact ih ch (by omega) (by omega) (by rw [swp_size]; exact hs) he H2
      have J1 : ∀ {h : Heap} (b : Bool), (2 * root + 1 + 1 < hi && lt e[first + (2 * root + 1)]! e[first + (2 * root + 1) + 1]!) = b → Hs h (S a n c e :: L) →
          slices_siftDownCmpFunc_api_Write.J1 a n c (hi : Int) (first : Int) cmp (root : Int) ((2 * root + 1 : Nat) : Int) b (slices_siftDownCmpFunc_api_Write.K1 Q) h := by
        intro h b eb H
        refine slices_siftDownCmpFunc_api_Write.J1_of ((br_iff _ _ _).2 ⟨fun e2 => ?_, fun e2 => ?_⟩)
        · subst e2
          rw [if_pos eb] at he
          have : 2 * root + 2 < hi := by
            have := (Bool.and_eq_true _ _ ▸ eb).1
            have := of_decide_eq_true this; omega
          rw [dif_pos this] at he
          dsimp only
          rw [w1 (by omega)]
          exact J2 (by omega) (by omega) he H
        · subst e2
          rw [if_neg (by rw [eb]; simp)] at he
          exact J2 (by omega) (by omega) he H
      rw [w1 (by omega)]
      refine (br_iff _ _ _).2 ⟨fun e2 => ?_, fun e2 => J1 false ?_ H⟩
      · have e2 := of_decide_eq_true e2
        rw [wA (by omega), w1 (by omega)]
        refine lk hs (by omega) H fun t ht => ⟨_, _, _, _, _, ht, ?_⟩
        refine lk hs (by omega) H fun t ht => ⟨_, _, _, _, _, ht, ?_⟩
        refine hc e[first + (2 * root + 1)]! e[first + (2 * root + 1) + 1]! _ _ _ H fun h1 r hr H1 => ⟨_, rfl, ?_⟩
        refine J1 _ ?_ H1
        rw [hr, decide_eq_true (by omega), Bool.true_and]
      · have e2 := of_decide_eq_false e2
        rw [decide_eq_false (by omega), Bool.false_and]
  exact go hi lo (by omega) hlo hn rfl H
theorem heap_hs (hc : CmpOk cmp lt) {d : Array Wr} {x y : Nat} (hn : d.size = n) (hxy : x < y) (hy : y ≤ n) (hmax : n < 2 ^ 59) (H : Hs h (S a n c d :: L)) (k : ∀ h', Hs h' (S a n c (heapSort lt d x y) :: L) → Q (.tuple #[]) h') :
    SpecH PP F_slices_heapSortCmpFunc_api_Write [.slice a n c, .int .i64 (x : Int), .int .i64 (y : Int), cmp] h Q := by
  refine slices_heapSortCmpFunc_api_Write.door ?_
  dsimp only
  rw [wS (by omega) (by omega), p1 (by omega) (by omega)]
  have t2 : Int.tdiv ((y - x - 1 : Nat) : Int) 2 = (((y - x - 1) / 2 : Nat) : Int) := tdiv_n _ 2
  rw [t2, wI (by omega) (by omega)]
  have pop : ∀ (m : Nat) {h : Heap} {e : Array Wr}, m ≤ y - x → e.size = n → heapPop lt x m e = heapSort lt d x y → Hs h (S a n c e :: L) → slices_heapSortCmpFunc_api_Write.L2 a n c cmp (x : Int) 0 ((m : Int) - 1) (slices_heapSortCmpFunc_api_Write.K2 Q) h := by
    intro m
    induction m with
    | zero =>
      intro h e hm hs he H
      rw [heapPop] at he
      refine slices_heapSortCmpFunc_api_Write.L2_of (br_false (decide_eq_false (by omega)) (slices_heapSortCmpFunc_api_Write.L2_X2 (k h ?_)))
      rw [← he]; exact H
    | succ m ih =>
      intro h e hm hs he H
      rw [heapPop] at he
      refine slices_heapSortCmpFunc_api_Write.L2_of (br_true (decide_eq_true (by omega)) ?_)
      rw [show ((m + 1 : Nat) : Int) - 1 = (m : Int) by omega]
      dsimp only
      rw [wA (by omega)]
      refine swap_hs hs (by omega) (by omega) H fun h2 H2 => ?_
      refine siftDown_hs (lo := 0) hc (by rw [swp_size]; exact hs) (by omega) (by omega) hmax H2 fun h3 H3 => ⟨rfl, ?_⟩
      rw [wI (by omega) (by omega)]
      exact ih (by omega) (by rw [siftDown_size m (by omega), swp_size]; exact hs) he H3
  have build : ∀ (m : Nat) {h : Heap} {e : Array Wr}, m ≤ y - x → e.size = n → heapPop lt x (y - x) (heapBuild lt (y - x) x m e) = heapSort lt d x y → Hs h (S a n c e :: L) →
      slices_heapSortCmpFunc_api_Write.L1 a n c cmp (x : Int) 0 ((y - x : Nat) : Int) ((m : Int) - 1) (slices_heapSortCmpFunc_api_Write.K1 Q) h := by
    intro m
    induction m with
    | zero =>
      intro h e hm hs he H
      rw [heapBuild] at he
      refine slices_heapSortCmpFunc_api_Write.L1_of (br_false (decide_eq_false (by omega)) (slices_heapSortCmpFunc_api_Write.L1_X0 ?_))
      dsimp only
      rw [wI (by omega) (by omega)]
      exact pop (y - x) (Nat.le_refl _) hs he H
    | succ m ih =>
      intro h e hm hs he H
      rw [heapBuild] at he
      refine slices_heapSortCmpFunc_api_Write.L1_of (br_true (decide_eq_true (by omega)) ?_)
      rw [show ((m + 1 : Nat) : Int) - 1 = (m : Int) by omega]
      refine siftDown_hs hc hs (by omega) (by omega) hmax H fun h3 H3 => ⟨rfl, ?_⟩
      dsimp only
      rw [wI (by omega) (by omega)]
      exact ih (by omega) (by rw [siftDown_size (y - x) (by omega)]; exact hs) he H3
  have := build ((y - x - 1) / 2 + 1) (by omega) hn rfl H
  rw [show (((y - x - 1) / 2 + 1 : Nat) : Int) - 1 = (((y - x - 1) / 2 : Nat) : Int) by omega] at this
  exact this
end Go.Proofs.Ytcdifhgocjjbpaa.Srtapi_Write
