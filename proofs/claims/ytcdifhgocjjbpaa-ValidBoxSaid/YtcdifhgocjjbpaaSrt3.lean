/- The library's sort by a function, at one element, third part: partial insertion, partitions. Printed by sortgen.py. -/
import Derived.Test.YtcdifhgocjjbpaaSrt2
set_option maxRecDepth 20000
set_option linter.unusedVariables false
set_option linter.unusedSimpArgs false
namespace Go.Proofs.Ytcdifhgocjjbpaa.Srtapi_Write
open Go Go.HW Go.Sort
variable {h : Heap} {L : List Assn} {Q : Value → Heap → Prop} {a : OA} {n c : Nat} {cmp : Value} {lt : Wr → Wr → Bool}
/-! ### partialInsertionSort -/
theorem scanSorted_le {d : Array Wr} {y : Nat} : ∀ (r i : Nat), y ≤ i + r → i ≤ y → i ≤ scanSorted lt d y i ∧ scanSorted lt d y i ≤ y := by
  intro r
  induction r with
  | zero => intro i h1 h2; rw [scanSorted, if_neg (by rw [decide_eq_false (by omega)]; simp)]; omega
  | succ r ih =>
    intro i h1 h2
    rw [scanSorted]
    split
    · rename_i e
      have := of_decide_eq_true (Bool.and_eq_true _ _ ▸ e).1
      have := ih (i + 1) (by omega) (by omega)
      omega
    · omega
theorem shiftDown_size : ∀ (j : Nat) (d : Array Wr), (shiftDown lt j d).size = d.size
  | 0, d => rfl
  | j + 1, d => by rw [shiftDown]; split
                   · rfl
                   · rw [shiftDown_size j, swp_size]
theorem shiftUp_size {y : Nat} : ∀ (r j : Nat) (d : Array Wr), y ≤ j + r → (shiftUp lt y j d).size = d.size := by
  intro r
  induction r with
  | zero => intro j d h; rw [shiftUp, if_neg (by omega)]
  | succ r ih =>
    intro j d h
    rw [shiftUp]
    split
    · split
      · rfl
      · rw [ih _ _ (by omega), swp_size]
    · rfl
theorem partialIns_hs (hc : CmpOk cmp lt) {d : Array Wr} {x y : Nat} (hn : d.size = n) (hxy : x < y) (hy : y ≤ n) (hmax : n < 2 ^ 59) (H : Hs h (S a n c d :: L))
    (k : ∀ h', Hs h' (S a n c (partialInsertionSort lt d x y).1 :: L) → Q (.bool (partialInsertionSort lt d x y).2) h') :
    SpecH PP F_slices_partialInsertionSortCmpFunc_api_Write [.slice a n c, .int .i64 (x : Int), .int .i64 (y : Int), cmp] h Q := by
  refine slices_partialInsertionSortCmpFunc_api_Write.door ?_
  dsimp only
  rw [w1 (by omega)]
  have go : ∀ (s i : Nat) {h : Heap} {e : Array Wr}, s ≤ 5 → x < i → i ≤ y → e.size = n → partialIns lt x y s i e = partialInsertionSort lt d x y → Hs h (S a n c e :: L) →
      slices_partialInsertionSortCmpFunc_api_Write.L1 a n c (x : Int) (y : Int) cmp (i : Int) ((5 - s : Nat) : Int) (slices_partialInsertionSortCmpFunc_api_Write.K1 Q) h := by
    intro s
    induction s with
    | zero =>
      intro i h e hs5 hxi hi hs he H
      rw [partialIns] at he
      refine slices_partialInsertionSortCmpFunc_api_Write.L1_of (br_false (decide_eq_false (by omega)) (slices_partialInsertionSortCmpFunc_api_Write.L1_X0 ?_))
      rw [← he] at k
      exact k h H
    | succ s ih =>
      intro i h e hs5 hxi hi hs he H
      refine slices_partialInsertionSortCmpFunc_api_Write.L1_of (br_true (decide_eq_true (by omega)) ?_)
      rw [partialIns] at he
      have hsc := scanSorted_le (lt := lt) (d := e) y i (by omega) hi
      have J2 : ∀ {i2 : Nat} {h : Heap} {f : Array Wr}, x < i2 → i2 ≤ y → f.size = n → partialIns lt x y s i2 f = partialInsertionSort lt d x y → Hs h (S a n c f :: L) →
          slices_partialInsertionSortCmpFunc_api_Write.J2 a n c (x : Int) (y : Int) cmp (i2 : Int) ((5 - (s + 1) : Nat) : Int) (slices_partialInsertionSortCmpFunc_api_Write.K1 Q) h := by
        intro i2 h f h1 h2 hs he H
        refine slices_partialInsertionSortCmpFunc_api_Write.J2_of ?_
        dsimp only
        rw [w1 (by omega), show 5 - (s + 1) + 1 = 5 - s by omega]
        exact ih i2 (by omega) h1 h2 hs he H
      have up : ∀ (r j : Nat) {i2 : Nat} {h : Heap} {f g : Array Wr}, y ≤ j + r → 1 ≤ j → x < i2 → i2 ≤ y → f.size = n → shiftUp lt y j f = g → partialIns lt x y s i2 g = partialInsertionSort lt d x y → Hs h (S a n c f :: L) →
          slices_partialInsertionSortCmpFunc_api_Write.L4 a n c (x : Int) (y : Int) cmp (i2 : Int) ((5 - (s + 1) : Nat) : Int) (j : Int) (slices_partialInsertionSortCmpFunc_api_Write.K7 (slices_partialInsertionSortCmpFunc_api_Write.K1 Q)) h := by
        intro r
        induction r with
        | zero =>
          intro j i2 h f g hr hj h1 h2 hs hg he H
          rw [shiftUp, if_neg (by omega)] at hg
          subst hg
          exact slices_partialInsertionSortCmpFunc_api_Write.L4_of (br_false (decide_eq_false (by omega)) (slices_partialInsertionSortCmpFunc_api_Write.L4_X6 (J2 h1 h2 hs he H)))
        | succ r ih4 =>
          intro j i2 h f g hr hj h1 h2 hs hg he H
          have hgs : g.size = n := by rw [← hg, shiftUp_size (r + 1) j f hr, hs]
          rw [shiftUp] at hg
          refine slices_partialInsertionSortCmpFunc_api_Write.L4_of ((br_iff _ _ _).2 ⟨fun e1 => ?_, fun e1 => slices_partialInsertionSortCmpFunc_api_Write.L4_X6 ?_⟩)
          · have e1 := of_decide_eq_true e1
            rw [if_pos (by omega)] at hg
            dsimp only
            rw [p1 hj (by omega)]
            refine lk hs (by omega) H fun t ht => ⟨_, _, _, _, _, ht, ?_⟩
            refine lk hs (by omega) H fun t ht => ⟨_, _, _, _, _, ht, ?_⟩
            refine hc f[j]! f[j - 1]! _ _ _ H fun h3 r hr H3 => ⟨_, rfl, ?_⟩
            rw [hr]
            refine (br_iff _ _ _).2 ⟨fun e2 => slices_partialInsertionSortCmpFunc_api_Write.L4_X6 ?_, fun e2 => ?_⟩
            · rw [if_pos e2] at hg; subst hg
              exact J2 h1 h2 hs he H3
            · rw [if_neg (by rw [e2]; simp)] at hg
              refine swap_hs hs (by omega) (by omega) H3 fun h5 H5 => ?_
              rw [w1 (by omega)]
              exact ih4 (j + 1) (by omega) (by omega) h1 h2 (by rw [swp_size]; exact hs) hg he H5
          · have e1 := of_decide_eq_false e1
            rw [if_neg (by omega)] at hg
            subst hg
            exact J2 h1 h2 hs he H
      have J1 : ∀ {i2 : Nat} {h : Heap} {f : Array Wr}, x < i2 → i2 < y → f.size = n → partialIns lt x y s i2 (if y - i2 ≥ 2 then shiftUp lt y (i2 + 1) f else f) = partialInsertionSort lt d x y → Hs h (S a n c f :: L) →
          slices_partialInsertionSortCmpFunc_api_Write.J1 a n c (x : Int) (y : Int) cmp (i2 : Int) ((5 - (s + 1) : Nat) : Int) (slices_partialInsertionSortCmpFunc_api_Write.K1 Q) h := by
        intro i2 h f h1 h2 hs he H
        refine slices_partialInsertionSortCmpFunc_api_Write.J1_of ?_
        dsimp only
        rw [wS (by omega) (by omega)]
        refine (br_iff _ _ _).2 ⟨fun e1 => ?_, fun e1 => ?_⟩
        · have e1 := of_decide_eq_true e1
          rw [if_pos (by omega)] at he
          rw [w1 (by omega)]
          exact up y (i2 + 1) (by omega) (by omega) h1 (by omega) hs rfl he H
        · have e1 := of_decide_eq_false e1
          rw [if_neg (by omega)] at he
          exact J2 h1 (by omega) hs he H
      have down : ∀ (j : Nat) {i2 : Nat} {h : Heap} {f g : Array Wr}, j < i2 → x < i2 → i2 < y → f.size = n → shiftDown lt j f = g → partialIns lt x y s i2 (if y - i2 ≥ 2 then shiftUp lt y (i2 + 1) g else g) = partialInsertionSort lt d x y → Hs h (S a n c f :: L) →
          slices_partialInsertionSortCmpFunc_api_Write.L3 a n c (x : Int) (y : Int) cmp (i2 : Int) ((5 - (s + 1) : Nat) : Int) (j : Int) (slices_partialInsertionSortCmpFunc_api_Write.K5 (slices_partialInsertionSortCmpFunc_api_Write.K1 Q)) h := by
        intro j
        induction j with
        | zero =>
          intro i2 h f g hj h1 h2 hs hg he H
          rw [shiftDown] at hg
          subst hg
          exact slices_partialInsertionSortCmpFunc_api_Write.L3_of (br_false (decide_eq_false (by omega)) (slices_partialInsertionSortCmpFunc_api_Write.L3_X4 (J1 h1 h2 hs he H)))
        | succ j ih3 =>
          intro i2 h f g hj h1 h2 hs hg he H
          rw [shiftDown] at hg
          refine slices_partialInsertionSortCmpFunc_api_Write.L3_of (br_true (decide_eq_true (by omega)) ?_)
          dsimp only
          rw [p1 (by omega) (by omega), show j + 1 - 1 = j by omega]
          refine lk hs (by omega) H fun t ht => ⟨_, _, _, _, _, ht, ?_⟩
          refine lk hs (by omega) H fun t ht => ⟨_, _, _, _, _, ht, ?_⟩
          refine hc f[j + 1]! f[j]! _ _ _ H fun h3 r hr H3 => ⟨_, rfl, ?_⟩
          rw [hr]
          refine (br_iff _ _ _).2 ⟨fun e2 => slices_partialInsertionSortCmpFunc_api_Write.L3_X4 ?_, fun e2 => ?_⟩
          · rw [if_pos e2] at hg; subst hg
            exact J1 h1 h2 hs he H3
          · rw [if_neg (by rw [e2]; simp)] at hg
            refine swap_hs hs (by omega) (by omega) H3 fun h5 H5 => ?_
            exact ih3 (by omega) h1 h2 (by rw [swp_size]; exact hs) hg he H5
      have scan : ∀ (r i0 : Nat) {h : Heap}, y ≤ i0 + r → x < i0 → i0 ≤ y → scanSorted lt e y i0 = scanSorted lt e y i → Hs h (S a n c e :: L) →
          slices_partialInsertionSortCmpFunc_api_Write.L2 a n c (x : Int) (y : Int) cmp (i0 : Int) ((5 - (s + 1) : Nat) : Int) (slices_partialInsertionSortCmpFunc_api_Write.K2 (slices_partialInsertionSortCmpFunc_api_Write.K1 Q)) h := by
        have stop : ∀ {i0 : Nat} {h : Heap}, i0 = scanSorted lt e y i → Hs h (S a n c e :: L) →
            slices_partialInsertionSortCmpFunc_api_Write.K2 (slices_partialInsertionSortCmpFunc_api_Write.K1 Q) (.exit 2) (slices_partialInsertionSortCmpFunc_api_Write.X2 a n c (x : Int) (y : Int) cmp (i0 : Int) ((5 - (s + 1) : Nat) : Int)) h := by
          intro i0 h ei H
          dsimp only at he
          rw [← ei] at he hsc
          refine slices_partialInsertionSortCmpFunc_api_Write.L2_X2 ?_
          refine (br_iff _ _ _).2 ⟨fun e1 => slices_partialInsertionSortCmpFunc_api_Write.L1_Xret ?_, fun e1 => ?_⟩
          · have e1 := beq_iff_eq.1 e1
            rw [if_pos (by omega)] at he
            rw [← he] at k
            exact k h H
          have e1 := beq_eq_false_iff_ne.1 e1
          rw [if_neg (by omega)] at he
          dsimp only
          rw [wS (by omega) (by omega)]
          refine (br_iff _ _ _).2 ⟨fun e2 => slices_partialInsertionSortCmpFunc_api_Write.L1_Xret ?_, fun e2 => ?_⟩
          · have e2 := of_decide_eq_true e2
            rw [if_pos (by omega)] at he
            rw [← he] at k
            exact k h H
          have e2 := of_decide_eq_false e2
          rw [if_neg (by omega)] at he
          rw [p1 (by omega) (by omega)]
          refine swap_hs hs (by omega) (by omega) H fun h5 H5 => ?_
          rw [wS (by omega) (by omega)]
          refine (br_iff _ _ _).2 ⟨fun e3 => ?_, fun e3 => ?_⟩
          · have e3 := of_decide_eq_true e3
            rw [show (if i0 - x ≥ 2 then shiftDown lt (i0 - 1) (swp e i0 (i0 - 1)) else swp e i0 (i0 - 1)) = shiftDown lt (i0 - 1) (swp e i0 (i0 - 1)) from if_pos (by omega)] at he
            exact down (i0 - 1) (by omega) (by omega) (by omega) (by rw [swp_size]; exact hs) rfl he H5
          · have e3 := of_decide_eq_false e3
            rw [show (if i0 - x ≥ 2 then shiftDown lt (i0 - 1) (swp e i0 (i0 - 1)) else swp e i0 (i0 - 1)) = swp e i0 (i0 - 1) from if_neg (by omega)] at he
            exact J1 (by omega) (by omega) (by rw [swp_size]; exact hs) he H5
        intro r
        induction r with
        | zero =>
          intro i0 h hr h1 h2 he2 H
          rw [scanSorted, if_neg (by rw [decide_eq_false (by omega)]; simp)] at he2
          exact slices_partialInsertionSortCmpFunc_api_Write.L2_of (br_false (decide_eq_false (by omega)) (stop he2 H))
        | succ r ih2 =>
          intro i0 h hr h1 h2 he2 H
          rw [scanSorted] at he2
          refine slices_partialInsertionSortCmpFunc_api_Write.L2_of ((br_iff _ _ _).2 ⟨fun e1 => ?_, fun e1 => stop ?_ H⟩)
          · have e1 := of_decide_eq_true e1
            dsimp only
            rw [p1 (by omega) (by omega)]
            refine lk hs (by omega) H fun t ht => ⟨_, _, _, _, _, ht, ?_⟩
            refine lk hs (by omega) H fun t ht => ⟨_, _, _, _, _, ht, ?_⟩
            refine hc e[i0]! e[i0 - 1]! _ _ _ H fun h3 r hr H3 => ⟨_, rfl, ?_⟩
            rw [hr]
            refine (br_iff _ _ _).2 ⟨fun e2 => ?_, fun e2 => stop ?_ H3⟩
            · rw [if_pos (by rw [e2, decide_eq_true (by omega)]; rfl)] at he2
              rw [w1 (by omega)]
              exact ih2 (i0 + 1) (by omega) (by omega) (by omega) he2 H3
            · rw [if_neg (by rw [e2]; simp)] at he2; exact he2
          · have e1 := of_decide_eq_false e1
            rw [if_neg (by rw [decide_eq_false (by omega)]; simp)] at he2; exact he2
      exact scan y i (by omega) hxi hi rfl H
  exact go 5 (x + 1) (Nat.le_refl _) (by omega) (by omega) hn rfl H
/-! ### the partitions -/
theorem scanUp_le {p : Wr → Bool} {d : Array Wr} {j : Nat} : ∀ (r i : Nat), j + 1 ≤ i + r → i ≤ scanUp p d j i ∧ (scanUp p d j i ≤ j + 1 ∨ scanUp p d j i = i) := by
  intro r
  induction r with
  | zero => intro i h1; rw [scanUp, if_neg (by rw [decide_eq_false (by omega)]; simp)]; omega
  | succ r ih =>
    intro i h1
    rw [scanUp]
    split
    · rename_i e
      have := of_decide_eq_true (Bool.and_eq_true _ _ ▸ e).1
      have := ih (i + 1) (by omega)
      omega
    · omega
theorem scanDown_le {p : Wr → Bool} {d : Array Wr} {i : Nat} : ∀ (j : Nat), scanDown p d i j ≤ j
  | 0 => Nat.le_refl _
  | j + 1 => by
    rw [scanDown]; split
    · have := scanDown_le (p := p) (d := d) (i := i) j; omega
    · exact Nat.le_refl _
theorem partition_hs (hc : CmpOk cmp lt) {d : Array Wr} {x y p : Nat} (hn : d.size = n) (hxp : x ≤ p) (hpy : p < y) (hxy : x + 1 < y) (hy : y ≤ n) (hmax : n < 2 ^ 59) (H : Hs h (S a n c d :: L))
    (k : ∀ h', Hs h' (S a n c (Sort.partition lt d x y p).2.2 :: L) → Q (.tuple #[.int .i64 ((Sort.partition lt d x y p).1 : Nat), .bool (Sort.partition lt d x y p).2.1]) h') :
    SpecH PP F_slices_partitionCmpFunc_api_Write [.slice a n c, .int .i64 (x : Int), .int .i64 (y : Int), .int .i64 (p : Int), cmp] h Q := by
  refine slices_partitionCmpFunc_api_Write.door ?_
  refine swap_hs hn (by omega) (by omega) H fun h1 H1 => ?_
  dsimp only
  rw [w1 (by omega), p1 (by omega) (by omega)]
  unfold Sort.partition at k
  dsimp only at k
  have hs1 : (swp d x p).size = n := by rw [swp_size, hn]
  generalize swp d x p = e at H1 k hs1
  have hi0 := scanUp_le (p := fun z => lt z e[x]!) (d := e) (j := y - 1) y (x + 1) (by omega)
  -- the later rounds
  have later : ∀ (m i j : Nat) {h : Heap} {f : Array Wr}, j + 1 ≤ i + m → x + 1 ≤ i → j < y → f.size = n →
      (∀ h', Hs h' (S a n c (swp (partLoop lt x i j f).2 (partLoop lt x i j f).1 x) :: L) → Q (.tuple #[.int .i64 ((partLoop lt x i j f).1 : Nat), .bool false]) h') → Hs h (S a n c f :: L) →
      slices_partitionCmpFunc_api_Write.L3 a n c (x : Int) cmp (i : Int) (j : Int) (slices_partitionCmpFunc_api_Write.K5 Q) h := by
    intro m
    induction m using Nat.strongRecOn with
    | _ m ihm =>
    intro i j h f hm hxi hj hs kk H
    refine slices_partitionCmpFunc_api_Write.L3_of ?_
    rw [partLoop] at kk
    have hu := scanUp_le (p := fun z => lt z f[x]!) (d := f) (j := j) (j + 1) i (by omega)
    have endK : ∀ {h : Heap} {i2 j2 : Nat}, i2 = scanUp (fun z => lt z f[x]!) f j i → j2 = scanDown (fun z => !lt z f[x]!) f i2 j → Hs h (S a n c f :: L) →
        slices_partitionCmpFunc_api_Write.K9 (slices_partitionCmpFunc_api_Write.K5 Q) (.exit 8) (slices_partitionCmpFunc_api_Write.X8 a n c (x : Int) cmp (i2 : Int) (j2 : Int)) h := by
      intro h i2 j2 ei ej H
      rw [← ei] at kk hu
      have hd := scanDown_le (p := fun z => !lt z f[x]!) (d := f) (i := i2) j
      rw [← ej] at kk hd
      refine slices_partitionCmpFunc_api_Write.L5_X8 ((br_iff _ _ _).2 ⟨fun e1 => slices_partitionCmpFunc_api_Write.L3_X4 ?_, fun e1 => ?_⟩)
      · have e1 := of_decide_eq_true e1
        rw [if_pos (by omega)] at kk
        exact swap_hs hs (by omega) (by omega) H fun h5 H5 => kk h5 H5
      · have e1 := of_decide_eq_false e1
        rw [if_neg (by omega), dif_pos (by omega)] at kk
        refine swap_hs hs (by omega) (by omega) H fun h5 H5 => ?_
        dsimp only
        rw [w1 (by omega), p1 (by omega) (by omega)]
        exact ihm (j2 - 1 + 1 - (i2 + 1)) (by omega) (i2 + 1) (j2 - 1) (by omega) (by omega) (by omega) (by rw [swp_size]; exact hs) kk H5
    have dn : ∀ (j3 : Nat) {h : Heap} {i2 : Nat}, i2 = scanUp (fun z => lt z f[x]!) f j i → j3 ≤ j → scanDown (fun z => !lt z f[x]!) f i2 j3 = scanDown (fun z => !lt z f[x]!) f i2 j → Hs h (S a n c f :: L) →
        slices_partitionCmpFunc_api_Write.L5 a n c (x : Int) cmp (i2 : Int) (j3 : Int) (slices_partitionCmpFunc_api_Write.K9 (slices_partitionCmpFunc_api_Write.K5 Q)) h := by
      intro j3
      induction j3 with
      | zero =>
        intro h i2 ei hj3 he H
        rw [scanDown] at he
        exact slices_partitionCmpFunc_api_Write.L5_of (br_false (decide_eq_false (by omega)) (endK ei he H))
      | succ j3 ihd =>
        intro h i2 ei hj3 he H
        rw [scanDown] at he
        refine slices_partitionCmpFunc_api_Write.L5_of ((br_iff _ _ _).2 ⟨fun e1 => ?_, fun e1 => endK ei ?_ H⟩)
        · have e1 := of_decide_eq_true e1
          refine lk hs (by omega) H fun t ht => ⟨_, _, _, _, _, ht, ?_⟩
          refine lk hs (by omega) H fun t ht => ⟨_, _, _, _, _, ht, ?_⟩
          refine hc f[j3 + 1]! f[x]! _ _ _ H fun h3 r hr H3 => ⟨_, rfl, ?_⟩
          dsimp only
          rw [hr]
          refine (br_iff _ _ _).2 ⟨fun e2 => ?_, fun e2 => endK ei ?_ H3⟩
          · rw [if_pos (by rw [e2, decide_eq_true (by omega)]; rfl)] at he
            rw [p1 (by omega) (by omega)]
            exact ihd ei (by omega) he H3
          · rw [if_neg (by rw [e2]; simp)] at he; exact he
        · have e1 := of_decide_eq_false e1
          rw [if_neg (by rw [decide_eq_false (by omega)]; simp)] at he; exact he
    have upp : ∀ (r i3 : Nat) {h : Heap}, j + 1 ≤ i3 + r → i ≤ i3 → scanUp (fun z => lt z f[x]!) f j i3 = scanUp (fun z => lt z f[x]!) f j i → Hs h (S a n c f :: L) →
        slices_partitionCmpFunc_api_Write.L4 a n c (x : Int) cmp (i3 : Int) (j : Int) (slices_partitionCmpFunc_api_Write.K7 (slices_partitionCmpFunc_api_Write.K5 Q)) h := by
      intro r
      induction r with
      | zero =>
        intro i3 h hr h1 he H
        rw [scanUp, if_neg (by rw [decide_eq_false (by omega)]; simp)] at he
        exact slices_partitionCmpFunc_api_Write.L4_of (br_false (decide_eq_false (by omega)) (slices_partitionCmpFunc_api_Write.L4_X6 (dn j he (Nat.le_refl _) rfl H)))
      | succ r ihu =>
        intro i3 h hr h1 he H
        rw [scanUp] at he
        refine slices_partitionCmpFunc_api_Write.L4_of ((br_iff _ _ _).2 ⟨fun e1 => ?_, fun e1 => slices_partitionCmpFunc_api_Write.L4_X6 (dn j ?_ (Nat.le_refl _) rfl H)⟩)
        · have e1 := of_decide_eq_true e1
          refine lk hs (by omega) H fun t ht => ⟨_, _, _, _, _, ht, ?_⟩
          refine lk hs (by omega) H fun t ht => ⟨_, _, _, _, _, ht, ?_⟩
          refine hc f[i3]! f[x]! _ _ _ H fun h3 r hr H3 => ⟨_, rfl, ?_⟩
          dsimp only
          rw [hr]
          refine (br_iff _ _ _).2 ⟨fun e2 => ?_, fun e2 => slices_partitionCmpFunc_api_Write.L4_X6 (dn j ?_ (Nat.le_refl _) rfl H3)⟩
          · rw [if_pos (by rw [e2, decide_eq_true (by omega)]; rfl)] at he
            rw [w1 (by omega)]
            exact ihu (i3 + 1) (by omega) (by omega) he H3
          · rw [if_neg (by rw [e2]; simp)] at he; exact he
        · have e1 := of_decide_eq_false e1
          rw [if_neg (by rw [decide_eq_false (by omega)]; simp)] at he; exact he
    exact upp (j + 1) i (by omega) (Nat.le_refl _) rfl H
  -- the first round
  have endK : ∀ {h : Heap} {i2 j2 : Nat}, i2 = scanUp (fun z => lt z e[x]!) e (y - 1) (x + 1) → j2 = scanDown (fun z => !lt z e[x]!) e i2 (y - 1) → Hs h (S a n c e :: L) →
      slices_partitionCmpFunc_api_Write.K2 Q (.exit 2) (slices_partitionCmpFunc_api_Write.X2 a n c (x : Int) cmp (i2 : Int) (j2 : Int)) h := by
    intro h i2 j2 ei ej H
    rw [← ei] at k hi0
    have hd := scanDown_le (p := fun z => !lt z e[x]!) (d := e) (i := i2) (y - 1)
    rw [← ej] at k hd
    refine slices_partitionCmpFunc_api_Write.L2_X2 ((br_iff _ _ _).2 ⟨fun e1 => ?_, fun e1 => ?_⟩)
    · have e1 := of_decide_eq_true e1
      rw [if_pos (by omega)] at k
      exact swap_hs hs1 (by omega) (by omega) H fun h5 H5 => k h5 H5
    · have e1 := of_decide_eq_false e1
      rw [if_neg (by omega)] at k
      refine swap_hs hs1 (by omega) (by omega) H fun h5 H5 => ?_
      dsimp only
      rw [w1 (by omega), p1 (by omega) (by omega)]
      exact later y (i2 + 1) (j2 - 1) (by omega) (by omega) (by omega) (by rw [swp_size]; exact hs1) k H5
  have dn : ∀ (j3 : Nat) {h : Heap} {i2 : Nat}, i2 = scanUp (fun z => lt z e[x]!) e (y - 1) (x + 1) → j3 ≤ y - 1 → scanDown (fun z => !lt z e[x]!) e i2 j3 = scanDown (fun z => !lt z e[x]!) e i2 (y - 1) → Hs h (S a n c e :: L) →
      slices_partitionCmpFunc_api_Write.L2 a n c (x : Int) cmp (i2 : Int) (j3 : Int) (slices_partitionCmpFunc_api_Write.K2 Q) h := by
    intro j3
    induction j3 with
    | zero =>
      intro h i2 ei hj3 he H
      rw [← ei] at hi0
      rw [scanDown] at he
      exact slices_partitionCmpFunc_api_Write.L2_of (br_false (decide_eq_false (by omega)) (endK ei he H))
    | succ j3 ihd =>
      intro h i2 ei hj3 he H
      have hi1 := hi0
      rw [← ei] at hi1
      rw [scanDown] at he
      refine slices_partitionCmpFunc_api_Write.L2_of ((br_iff _ _ _).2 ⟨fun e1 => ?_, fun e1 => endK ei ?_ H⟩)
      · have e1 := of_decide_eq_true e1
        refine lk hs1 (by omega) H fun t ht => ⟨_, _, _, _, _, ht, ?_⟩
        refine lk hs1 (by omega) H fun t ht => ⟨_, _, _, _, _, ht, ?_⟩
        refine hc e[j3 + 1]! e[x]! _ _ _ H fun h3 r hr H3 => ⟨_, rfl, ?_⟩
        dsimp only
        rw [hr]
        refine (br_iff _ _ _).2 ⟨fun e2 => ?_, fun e2 => endK ei ?_ H3⟩
        · rw [if_pos (by rw [e2, decide_eq_true (by omega)]; rfl)] at he
          rw [p1 (by omega) (by omega)]
          exact ihd ei (by omega) he H3
        · rw [if_neg (by rw [e2]; simp)] at he; exact he
      · have e1 := of_decide_eq_false e1
        rw [if_neg (by rw [decide_eq_false (by omega)]; simp)] at he; exact he
  have upp : ∀ (r i3 : Nat) {h : Heap}, y ≤ i3 + r → x + 1 ≤ i3 → scanUp (fun z => lt z e[x]!) e (y - 1) i3 = scanUp (fun z => lt z e[x]!) e (y - 1) (x + 1) → Hs h (S a n c e :: L) →
      slices_partitionCmpFunc_api_Write.L1 a n c (x : Int) cmp (i3 : Int) ((y - 1 : Nat) : Int) (slices_partitionCmpFunc_api_Write.K1 Q) h := by
    intro r
    induction r with
    | zero =>
      intro i3 h hr h1 he H
      rw [scanUp, if_neg (by rw [decide_eq_false (by omega)]; simp)] at he
      exact slices_partitionCmpFunc_api_Write.L1_of (br_false (decide_eq_false (by omega)) (slices_partitionCmpFunc_api_Write.L1_X0 (dn (y - 1) he (Nat.le_refl _) rfl H)))
    | succ r ihu =>
      intro i3 h hr h1 he H
      rw [scanUp] at he
      refine slices_partitionCmpFunc_api_Write.L1_of ((br_iff _ _ _).2 ⟨fun e1 => ?_, fun e1 => slices_partitionCmpFunc_api_Write.L1_X0 (dn (y - 1) ?_ (Nat.le_refl _) rfl H)⟩)
      · have e1 := of_decide_eq_true e1
        refine lk hs1 (by omega) H fun t ht => ⟨_, _, _, _, _, ht, ?_⟩
        refine lk hs1 (by omega) H fun t ht => ⟨_, _, _, _, _, ht, ?_⟩
        refine hc e[i3]! e[x]! _ _ _ H fun h3 r hr H3 => ⟨_, rfl, ?_⟩
        dsimp only
        rw [hr]
        refine (br_iff _ _ _).2 ⟨fun e2 => ?_, fun e2 => slices_partitionCmpFunc_api_Write.L1_X0 (dn (y - 1) ?_ (Nat.le_refl _) rfl H3)⟩
        · rw [if_pos (by rw [e2, decide_eq_true (by omega)]; rfl)] at he
          rw [w1 (by omega)]
          exact ihu (i3 + 1) (by omega) (by omega) he H3
        · rw [if_neg (by rw [e2]; simp)] at he; exact he
      · have e1 := of_decide_eq_false e1
        rw [if_neg (by rw [decide_eq_false (by omega)]; simp)] at he; exact he
  exact upp y (x + 1) (by omega) (Nat.le_refl _) rfl H1
theorem partitionEqual_hs (hc : CmpOk cmp lt) {d : Array Wr} {x y p : Nat} (hn : d.size = n) (hxp : x ≤ p) (hpy : p < y) (hxy : x + 1 < y) (hy : y ≤ n) (hmax : n < 2 ^ 59) (H : Hs h (S a n c d :: L))
    (k : ∀ h', Hs h' (S a n c (partitionEqual lt d x y p).2 :: L) → Q (.int .i64 ((partitionEqual lt d x y p).1 : Nat)) h') :
    SpecH PP F_slices_partitionEqualCmpFunc_api_Write [.slice a n c, .int .i64 (x : Int), .int .i64 (y : Int), .int .i64 (p : Int), cmp] h Q := by
  refine slices_partitionEqualCmpFunc_api_Write.door ?_
  refine swap_hs hn (by omega) (by omega) H fun h1 H1 => ?_
  dsimp only
  rw [w1 (by omega), p1 (by omega) (by omega)]
  unfold partitionEqual at k
  have hs1 : (swp d x p).size = n := by rw [swp_size, hn]
  generalize swp d x p = e at H1 k hs1
  have later : ∀ (m i j : Nat) {h : Heap} {f : Array Wr}, j + 1 ≤ i + m → x + 1 ≤ i → j < y → f.size = n →
      (∀ h', Hs h' (S a n c (partEqLoop lt x i j f).2 :: L) → Q (.int .i64 ((partEqLoop lt x i j f).1 : Nat)) h') → Hs h (S a n c f :: L) →
      slices_partitionEqualCmpFunc_api_Write.L1 a n c (x : Int) cmp (i : Int) (j : Int) (slices_partitionEqualCmpFunc_api_Write.K1 Q) h := by
    intro m
    induction m using Nat.strongRecOn with
    | _ m ihm =>
    intro i j h f hm hxi hj hs kk H
    refine slices_partitionEqualCmpFunc_api_Write.L1_of ?_
    rw [partEqLoop] at kk
    have hu := scanUp_le (p := fun z => !lt f[x]! z) (d := f) (j := j) (j + 1) i (by omega)
    have endK : ∀ {h : Heap} {i2 j2 : Nat}, i2 = scanUp (fun z => !lt f[x]! z) f j i → j2 = scanDown (fun z => lt f[x]! z) f i2 j → Hs h (S a n c f :: L) →
        slices_partitionEqualCmpFunc_api_Write.K5 (slices_partitionEqualCmpFunc_api_Write.K1 Q) (.exit 4) (slices_partitionEqualCmpFunc_api_Write.X4 a n c (x : Int) cmp (i2 : Int) (j2 : Int)) h := by
      intro h i2 j2 ei ej H
      rw [← ei] at kk hu
      have hd := scanDown_le (p := fun z => lt f[x]! z) (d := f) (i := i2) j
      rw [← ej] at kk hd
      refine slices_partitionEqualCmpFunc_api_Write.L3_X4 ((br_iff _ _ _).2 ⟨fun e1 => slices_partitionEqualCmpFunc_api_Write.L1_X0 ?_, fun e1 => ?_⟩)
      · have e1 := of_decide_eq_true e1
        rw [if_pos (by omega)] at kk
        exact kk h H
      · have e1 := of_decide_eq_false e1
        rw [if_neg (by omega), dif_pos (by omega)] at kk
        refine swap_hs hs (by omega) (by omega) H fun h5 H5 => ?_
        dsimp only
        rw [w1 (by omega), p1 (by omega) (by omega)]
        exact ihm (j2 - 1 + 1 - (i2 + 1)) (by omega) (i2 + 1) (j2 - 1) (by omega) (by omega) (by omega) (by rw [swp_size]; exact hs) kk H5
    have dn : ∀ (j3 : Nat) {h : Heap} {i2 : Nat}, i2 = scanUp (fun z => !lt f[x]! z) f j i → j3 ≤ j → scanDown (fun z => lt f[x]! z) f i2 j3 = scanDown (fun z => lt f[x]! z) f i2 j → Hs h (S a n c f :: L) →
        slices_partitionEqualCmpFunc_api_Write.L3 a n c (x : Int) cmp (i2 : Int) (j3 : Int) (slices_partitionEqualCmpFunc_api_Write.K5 (slices_partitionEqualCmpFunc_api_Write.K1 Q)) h := by
      intro j3
      induction j3 with
      | zero =>
        intro h i2 ei hj3 he H
        rw [scanDown] at he
        exact slices_partitionEqualCmpFunc_api_Write.L3_of (br_false (decide_eq_false (by omega)) (endK ei he H))
      | succ j3 ihd =>
        intro h i2 ei hj3 he H
        rw [scanDown] at he
        refine slices_partitionEqualCmpFunc_api_Write.L3_of ((br_iff _ _ _).2 ⟨fun e1 => ?_, fun e1 => endK ei ?_ H⟩)
        · have e1 := of_decide_eq_true e1
          refine lk hs (by omega) H fun t ht => ⟨_, _, _, _, _, ht, ?_⟩
          refine lk hs (by omega) H fun t ht => ⟨_, _, _, _, _, ht, ?_⟩
          refine hc f[x]! f[j3 + 1]! _ _ _ H fun h3 r hr H3 => ⟨_, rfl, ?_⟩
          dsimp only
          rw [hr]
          refine (br_iff _ _ _).2 ⟨fun e2 => ?_, fun e2 => endK ei ?_ H3⟩
          · rw [if_pos (by rw [e2, decide_eq_true (by omega)]; rfl)] at he
            rw [p1 (by omega) (by omega)]
            exact ihd ei (by omega) he H3
          · rw [if_neg (by rw [e2]; simp)] at he; exact he
        · have e1 := of_decide_eq_false e1
          rw [if_neg (by rw [decide_eq_false (by omega)]; simp)] at he; exact he
    have upp : ∀ (r i3 : Nat) {h : Heap}, j + 1 ≤ i3 + r → i ≤ i3 → scanUp (fun z => !lt f[x]! z) f j i3 = scanUp (fun z => !lt f[x]! z) f j i → Hs h (S a n c f :: L) →
        slices_partitionEqualCmpFunc_api_Write.L2 a n c (x : Int) cmp (i3 : Int) (j : Int) (slices_partitionEqualCmpFunc_api_Write.K2 (slices_partitionEqualCmpFunc_api_Write.K1 Q)) h := by
      intro r
      induction r with
      | zero =>
        intro i3 h hr h1 he H
        rw [scanUp, if_neg (by rw [decide_eq_false (by omega)]; simp)] at he
        exact slices_partitionEqualCmpFunc_api_Write.L2_of (br_false (decide_eq_false (by omega)) (slices_partitionEqualCmpFunc_api_Write.L2_X2 (dn j he (Nat.le_refl _) rfl H)))
      | succ r ihu =>
        intro i3 h hr h1 he H
        rw [scanUp] at he
        refine slices_partitionEqualCmpFunc_api_Write.L2_of ((br_iff _ _ _).2 ⟨fun e1 => ?_, fun e1 => slices_partitionEqualCmpFunc_api_Write.L2_X2 (dn j ?_ (Nat.le_refl _) rfl H)⟩)
        · have e1 := of_decide_eq_true e1
          refine lk hs (by omega) H fun t ht => ⟨_, _, _, _, _, ht, ?_⟩
          refine lk hs (by omega) H fun t ht => ⟨_, _, _, _, _, ht, ?_⟩
          refine hc f[x]! f[i3]! _ _ _ H fun h3 r hr H3 => ⟨_, rfl, ?_⟩
          dsimp only
          rw [hr]
          refine (br_iff _ _ _).2 ⟨fun e2 => ?_, fun e2 => slices_partitionEqualCmpFunc_api_Write.L2_X2 (dn j ?_ (Nat.le_refl _) rfl H3)⟩
          · rw [if_pos (by rw [e2, decide_eq_true (by omega)]; rfl)] at he
            rw [w1 (by omega)]
            exact ihu (i3 + 1) (by omega) (by omega) he H3
          · rw [if_neg (by rw [e2]; simp)] at he; exact he
        · have e1 := of_decide_eq_false e1
          rw [if_neg (by rw [decide_eq_false (by omega)]; simp)] at he; exact he
    exact upp (j + 1) i (by omega) (Nat.le_refl _) rfl H
  exact later y (x + 1) (y - 1) (by omega) (by omega) (by omega) hs1 k H1
end Go.Proofs.Ytcdifhgocjjbpaa.Srtapi_Write
