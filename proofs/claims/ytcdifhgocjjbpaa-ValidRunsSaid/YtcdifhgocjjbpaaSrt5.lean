/- The library's sort by a function, at one element, last part: pdqsort and SortFunc. Printed by sortgen.py. -/
import Derived.Test.YtcdifhgocjjbpaaSrt4
set_option maxRecDepth 20000
set_option linter.unusedVariables false
set_option linter.unusedSimpArgs false
namespace Go.Proofs.Ytcdifhgocjjbpaa.Srtapi_Write
open Go Go.HW Go.Sort
variable {h : Heap} {L : List Assn} {Q : Value → Heap → Prop} {a : OA} {n c : Nat} {cmp : Value} {lt : Wr → Wr → Bool}
theorem S_size {d : Array Wr} (H : Hs h (S a n c d :: L)) : d.size = n := by
  have := H.own_len
  rw [flat_len phl] at this
  simp only [Array.length_toList] at this
  omega
def st3 (lt : Wr → Wr → Bool) (d3 : Array Wr) (x y lim : Nat) (wb wp : Bool) (pivot : Nat) : Array Wr :=
  if x > 0 && !lt d3[x - 1]! d3[pivot]! then
    if _h : x < (partitionEqual lt d3 x y pivot).1 ∧ (partitionEqual lt d3 x y pivot).1 ≤ y then pdq lt (partitionEqual lt d3 x y pivot).2 (partitionEqual lt d3 x y pivot).1 y lim wb wp else (partitionEqual lt d3 x y pivot).2
  else
    if _h : x ≤ (Sort.partition lt d3 x y pivot).1 ∧ (Sort.partition lt d3 x y pivot).1 < y then
      if (Sort.partition lt d3 x y pivot).1 - x < y - (Sort.partition lt d3 x y pivot).1 then
        pdq lt (pdq lt (Sort.partition lt d3 x y pivot).2.2 x (Sort.partition lt d3 x y pivot).1 lim true true) ((Sort.partition lt d3 x y pivot).1 + 1) y lim (decide ((Sort.partition lt d3 x y pivot).1 - x ≥ (y - x) / 8)) (Sort.partition lt d3 x y pivot).2.1
      else
        pdq lt (pdq lt (Sort.partition lt d3 x y pivot).2.2 ((Sort.partition lt d3 x y pivot).1 + 1) y lim true true) x (Sort.partition lt d3 x y pivot).1 lim (decide (y - (Sort.partition lt d3 x y pivot).1 ≥ (y - x) / 8)) (Sort.partition lt d3 x y pivot).2.1
    else (Sort.partition lt d3 x y pivot).2.2
def st2 (lt : Wr → Wr → Bool) (d2 : Array Wr) (x y lim : Nat) (wb wp : Bool) (pivot : Nat) (hint : Hint) : Array Wr :=
  let pi := if wb && wp && hint = .increasing then partialInsertionSort lt d2 x y else (d2, false)
  if pi.2 then pi.1 else st3 lt pi.1 x y lim wb wp pivot
def st1 (lt : Wr → Wr → Bool) (d1 : Array Wr) (x y lim : Nat) (wb wp : Bool) : Array Wr :=
  st2 lt (if (choosePivot lt d1 x y).2 = .decreasing then reverseRange d1 x y else d1) x y lim wb wp (if (choosePivot lt d1 x y).2 = .decreasing then (y - 1) - ((choosePivot lt d1 x y).1 - x) else (choosePivot lt d1 x y).1)
    (if (choosePivot lt d1 x y).2 = .decreasing then Hint.increasing else (choosePivot lt d1 x y).2)
theorem pdq_st (d : Array Wr) (x y lim : Nat) (wb wp : Bool) : pdq lt d x y lim wb wp = if y - x ≤ 12 then insertionSort lt d x y else if lim = 0 then heapSort lt d x y else
    st1 lt (if !wb then breakPatterns d x y else d) x y (if !wb then lim - 1 else lim) wb wp := by
  rw [pdq]
  rfl
/-- Where a partition ends, whatever the order. -/
theorem scanDown_lo {p : Wr → Bool} {d : Array Wr} {i : Nat} : ∀ (j : Nat), scanDown p d i j = j ∨ i ≤ scanDown p d i j + 1
  | 0 => .inl rfl
  | j + 1 => by
    rw [scanDown]; split
    · rename_i e
      have := of_decide_eq_true (Bool.and_eq_true _ _ ▸ e).1
      rcases scanDown_lo (p := p) (d := d) (i := i) j with e2 | e2
      · rw [e2]; exact .inr (by omega)
      · exact .inr e2
    · exact .inl rfl
theorem partLoop_in {x y : Nat} : ∀ (m i j : Nat) (f : Array Wr), j + 1 ≤ i + m → x + 1 ≤ i → x ≤ j → j < y → x ≤ (partLoop lt x i j f).1 ∧ (partLoop lt x i j f).1 < y := by
  intro m
  induction m using Nat.strongRecOn with
  | _ m ihm =>
  intro i j f hm hi hj hy
  rw [partLoop]
  have hu := scanUp_le (p := fun z => lt z f[x]!) (d := f) (j := j) (j + 1) i (by omega)
  generalize scanUp (fun z => lt z f[x]!) f j i = i2 at hu ⊢
  have hd := scanDown_le (p := fun z => !lt z f[x]!) (d := f) (i := i2) j
  have hd2 := scanDown_lo (p := fun z => !lt z f[x]!) (d := f) (i := i2) j
  generalize scanDown (fun z => !lt z f[x]!) f i2 j = j2 at hd hd2 ⊢
  split
  · omega
  · rw [dif_pos (by omega)]
    exact ihm (j2 - 1 + 1 - (i2 + 1)) (by omega) _ _ _ (by omega) (by omega) (by omega) (by omega)
theorem partEqLoop_in {x y : Nat} : ∀ (m i j : Nat) (f : Array Wr), j + 1 ≤ i + m → x + 1 ≤ i → i ≤ y → j < y → x < (partEqLoop lt x i j f).1 ∧ (partEqLoop lt x i j f).1 ≤ y := by
  intro m
  induction m using Nat.strongRecOn with
  | _ m ihm =>
  intro i j f hm hi hiy hy
  rw [partEqLoop]
  have hu := scanUp_le (p := fun z => !lt f[x]! z) (d := f) (j := j) (j + 1) i (by omega)
  generalize scanUp (fun z => !lt f[x]! z) f j i = i2 at hu ⊢
  have hd := scanDown_le (p := fun z => lt f[x]! z) (d := f) (i := i2) j
  generalize scanDown (fun z => lt f[x]! z) f i2 j = j2 at hd ⊢
  split
  · omega
  · rw [dif_pos (by omega)]
    exact ihm (j2 - 1 + 1 - (i2 + 1)) (by omega) _ _ _ (by omega) (by omega) (by omega) (by omega)
theorem partition_in {d : Array Wr} {x y p : Nat} (h : x + 1 < y) : x ≤ (Sort.partition lt d x y p).1 ∧ (Sort.partition lt d x y p).1 < y := by
  unfold Sort.partition
  dsimp only
  generalize swp d x p = e
  have hu := scanUp_le (p := fun z => lt z e[x]!) (d := e) (j := y - 1) y (x + 1) (by omega)
  generalize scanUp (fun z => lt z e[x]!) e (y - 1) (x + 1) = i2 at hu ⊢
  have hd := scanDown_le (p := fun z => !lt z e[x]!) (d := e) (i := i2) (y - 1)
  have hd2 := scanDown_lo (p := fun z => !lt z e[x]!) (d := e) (i := i2) (y - 1)
  generalize scanDown (fun z => !lt z e[x]!) e i2 (y - 1) = j2 at hd hd2 ⊢
  split
  · dsimp only; omega
  · dsimp only
    exact partLoop_in y _ _ _ (by omega) (by omega) (by omega) (by omega)
theorem partitionEqual_in {d : Array Wr} {x y p : Nat} (h : x + 1 < y) : x < (partitionEqual lt d x y p).1 ∧ (partitionEqual lt d x y p).1 ≤ y := by
  unfold partitionEqual
  exact partEqLoop_in y _ _ _ (by omega) (by omega) (by omega) (by omega)
theorem pdq_loop (hc : CmpOk cmp lt) (hmax : n < 2 ^ 59) : ∀ (m x y lim : Nat) (wb wp : Bool) {h : Heap} {Q : Value → Heap → Prop} {d : Array Wr}, y ≤ x + m → x ≤ y → y ≤ n → lim < 2 ^ 60 → Hs h (S a n c d :: L) → (∀ h', Hs h' (S a n c (pdq lt d x y lim wb wp) :: L) → Q (.tuple #[]) h') →
    slices_pdqsortCmpFunc_api_Write.L1 a n c (x : Int) (y : Int) (lim : Int) cmp wb wp (slices_pdqsortCmpFunc_api_Write.K1 Q) h := by
  intro m
  induction m using Nat.strongRecOn with
  | _ m ihm =>
  intro x y lim wb wp h Q d hm hxy hy hlim H k
  have hn := S_size H
  refine slices_pdqsortCmpFunc_api_Write.L1_of ?_
  dsimp only
  rw [wS hxy (by omega)]
  rw [pdq_st] at k
  refine (br_iff _ _ _).2 ⟨fun e => ?_, fun e => ?_⟩
  · have e := of_decide_eq_true e
    rw [if_pos (by omega)] at k
    exact insertion_hs hc hn hxy hy (by omega) H fun h1 H1 => ⟨rfl, slices_pdqsortCmpFunc_api_Write.L1_Xret (k h1 H1)⟩
  have e := of_decide_eq_false e
  rw [if_neg (by omega)] at k
  refine (br_iff _ _ _).2 ⟨fun e0 => ?_, fun e0 => ?_⟩
  · have e0 := beq_iff_eq.1 e0
    rw [if_pos (by omega)] at k
    exact heap_hs hc hn (by omega) hy hmax H fun h1 H1 => ⟨rfl, slices_pdqsortCmpFunc_api_Write.L1_Xret (k h1 H1)⟩
  have e0 := beq_eq_false_iff_ne.1 e0
  rw [if_neg (by omega)] at k
  -- behind the pivot
  have J5 : ∀ {h : Heap} {d3 : Array Wr} {lim : Nat} {p : Nat} (b : Bool), x ≤ p → p < y → lim < 2 ^ 60 → (decide (x > 0) && !lt d3[x - 1]! d3[p]!) = b → (∀ h', Hs h' (S a n c (st3 lt d3 x y lim wb wp p) :: L) → Q (.tuple #[]) h') → Hs h (S a n c d3 :: L) →
      slices_pdqsortCmpFunc_api_Write.J5 a n c (x : Int) (y : Int) (lim : Int) cmp wb wp ((y - x : Nat) : Int) (p : Int) b (slices_pdqsortCmpFunc_api_Write.K1 Q) h := by
    intro h d3 lim p b hp1 hp2 hlim hb k H
    have hn := S_size H
    unfold st3 at k
    refine slices_pdqsortCmpFunc_api_Write.J5_of ((br_iff _ _ _).2 ⟨fun e1 => ?_, fun e1 => ?_⟩)
    · subst e1
      rw [if_pos hb] at k
      have hin := partitionEqual_in (lt := lt) (d := d3) (x := x) (y := y) (p := p) (by omega)
      rw [dif_pos hin] at k
      refine partitionEqual_hs hc hn hp1 hp2 (by omega) hy hmax H fun h1 H1 => ⟨_, rfl, ?_⟩
      generalize partitionEqual lt d3 x y p = r at hin k H1 ⊢
      exact ihm (y - r.1) (by omega) r.1 y lim wb wp (by omega) hin.2 hy hlim H1 k
    · subst e1
      rw [if_neg (by rw [hb]; simp)] at k
      have hin := partition_in (lt := lt) (d := d3) (x := x) (y := y) (p := p) (by omega)
      rw [dif_pos hin] at k
      refine partition_hs hc hn hp1 hp2 (by omega) hy hmax H fun h1 H1 => ⟨_, _, rfl, ?_⟩
      generalize Sort.partition lt d3 x y p = r at hin k H1 ⊢
      have t8 : Int.tdiv ((y - x : Nat) : Int) 8 = (((y - x) / 8 : Nat) : Int) := tdiv_n _ 8
      dsimp only
      rw [wS hin.1 (by omega), wS (by omega) (by omega), t8, wI (x := (((y - x) / 8 : Nat) : Int)) (by omega) (by omega), w1 (i := r.1) (by omega)]
      refine (br_iff _ _ _).2 ⟨fun e2 => ?_, fun e2 => ?_⟩
      · have e2 := of_decide_eq_true e2
        rw [if_pos (by omega)] at k
        refine slices_pdqsortCmpFunc_api_Write.door (ihm (r.1 - x) (by omega) x r.1 lim true true (by omega) hin.1 (by omega) hlim H1 fun h2 H2 => ⟨rfl, ?_⟩)
        rw [show decide (((r.1 - x : Nat) : Int) ≥ (((y - x) / 8 : Nat) : Int)) = decide (r.1 - x ≥ (y - x) / 8) from decide_eq_decide.2 (by omega)]
        exact ihm (y - (r.1 + 1)) (by omega) (r.1 + 1) y lim _ _ (by omega) (by omega) hy hlim H2 k
      · have e2 := of_decide_eq_false e2
        rw [if_neg (by omega)] at k
        refine slices_pdqsortCmpFunc_api_Write.door (ihm (y - (r.1 + 1)) (by omega) (r.1 + 1) y lim true true (by omega) (by omega) hy hlim H1 fun h2 H2 => ⟨rfl, ?_⟩)
        rw [show decide (((y - r.1 : Nat) : Int) ≥ (((y - x) / 8 : Nat) : Int)) = decide (y - r.1 ≥ (y - x) / 8) from decide_eq_decide.2 (by omega)]
        exact ihm (r.1 - x) (by omega) x r.1 lim _ _ (by omega) hin.1 (by omega) hlim H2 k
  have J4 : ∀ {h : Heap} {d3 : Array Wr} {lim : Nat} {p : Nat}, x ≤ p → p < y → lim < 2 ^ 60 → (∀ h', Hs h' (S a n c (st3 lt d3 x y lim wb wp p) :: L) → Q (.tuple #[]) h') → Hs h (S a n c d3 :: L) →
      slices_pdqsortCmpFunc_api_Write.J4 a n c (x : Int) (y : Int) (lim : Int) cmp wb wp ((y - x : Nat) : Int) (p : Int) (slices_pdqsortCmpFunc_api_Write.K1 Q) h := by
    intro h d3 lim p hp1 hp2 hlim k H
    have hn := S_size H
    refine slices_pdqsortCmpFunc_api_Write.J4_of ((br_iff _ _ _).2 ⟨fun e1 => ?_, fun e1 => ?_⟩)
    · have e1 := of_decide_eq_true e1
      dsimp only
      rw [p1 (by omega) (by omega)]
      refine lk hn (by omega) H fun t ht => ⟨_, _, _, _, _, ht, ?_⟩
      refine lk hn (by omega) H fun t ht => ⟨_, _, _, _, _, ht, ?_⟩
      refine hc d3[x - 1]! d3[p]! _ _ _ H fun h3 r hr H3 => ⟨_, rfl, ?_⟩
      rw [hr]
      exact J5 _ hp1 hp2 hlim (by rw [decide_eq_true (by omega)]; rfl) k H3
    · have e1 := of_decide_eq_false e1
      exact J5 false hp1 hp2 hlim (by rw [decide_eq_false (by omega)]; rfl) k H
  have J3 : ∀ {h : Heap} {d2 : Array Wr} {lim : Nat} {p : Nat} {hint : Hint} (b : Bool), x ≤ p → p < y → lim < 2 ^ 60 → (wb && wp && decide (hint = .increasing)) = b → (∀ h', Hs h' (S a n c (st2 lt d2 x y lim wb wp p hint) :: L) → Q (.tuple #[]) h') → Hs h (S a n c d2 :: L) →
      slices_pdqsortCmpFunc_api_Write.J3 a n c (x : Int) (y : Int) (lim : Int) cmp wb wp ((y - x : Nat) : Int) (p : Int) b (slices_pdqsortCmpFunc_api_Write.K1 Q) h := by
    intro h d2 lim p hint b hp1 hp2 hlim hb k H
    have hn := S_size H
    unfold st2 at k
    dsimp only at k
    refine slices_pdqsortCmpFunc_api_Write.J3_of ((br_iff _ _ _).2 ⟨fun e1 => ?_, fun e1 => ?_⟩)
    · subst e1
      rw [show (if (wb && wp && decide (hint = .increasing)) = true then partialInsertionSort lt d2 x y else (d2, false)) = partialInsertionSort lt d2 x y from if_pos hb] at k
      refine partialIns_hs hc hn (by omega) hy hmax H fun h1 H1 => ⟨_, rfl, ?_⟩
      generalize partialInsertionSort lt d2 x y = r at k H1 ⊢
      refine (br_iff _ _ _).2 ⟨fun e2 => slices_pdqsortCmpFunc_api_Write.L1_Xret (k h1 ?_), fun e2 => ?_⟩
      · rw [if_pos e2]; exact H1
      · rw [if_neg (by rw [e2]; simp)] at k
        exact J4 hp1 hp2 hlim k H1
    · subst e1
      rw [show (if (wb && wp && decide (hint = .increasing)) = true then partialInsertionSort lt d2 x y else (d2, false)) = (d2, false) from if_neg (by rw [hb]; simp)] at k
      exact J4 hp1 hp2 hlim k H
  have J2 : ∀ {h : Heap} {d2 : Array Wr} {lim : Nat} {p : Nat} {hint : Hint}, x ≤ p → p < y → lim < 2 ^ 60 → (∀ h', Hs h' (S a n c (st2 lt d2 x y lim wb wp p hint) :: L) → Q (.tuple #[]) h') → Hs h (S a n c d2 :: L) →
      slices_pdqsortCmpFunc_api_Write.J2 a n c (x : Int) (y : Int) (lim : Int) cmp wb wp ((y - x : Nat) : Int) (p : Int) (hintN hint : Nat) (slices_pdqsortCmpFunc_api_Write.K1 Q) h := by
    intro h d2 lim p hint hp1 hp2 hlim k H
    refine slices_pdqsortCmpFunc_api_Write.J2_of ?_
    refine (br_iff _ _ _).2 ⟨fun e1 => (br_iff _ _ _).2 ⟨fun e2 => J3 (hint := hint) _ hp1 hp2 hlim ?_ k H, fun e2 => J3 (hint := hint) _ hp1 hp2 hlim ?_ k H⟩, fun e1 => J3 (hint := hint) _ hp1 hp2 hlim ?_ k H⟩
    · rw [e1, e2]; cases hint <;> rfl
    · rw [e1, e2]; rfl
    · rw [e1]; rfl
  have J1 : ∀ {h : Heap} {d1 : Array Wr} {lim : Nat}, lim < 2 ^ 60 → (∀ h', Hs h' (S a n c (st1 lt d1 x y lim wb wp) :: L) → Q (.tuple #[]) h') → Hs h (S a n c d1 :: L) →
      slices_pdqsortCmpFunc_api_Write.J1 a n c (x : Int) (y : Int) (lim : Int) cmp wb wp ((y - x : Nat) : Int) (slices_pdqsortCmpFunc_api_Write.K1 Q) h := by
    intro h d1 lim hlim k H
    have hn := S_size H
    refine slices_pdqsortCmpFunc_api_Write.J1_of ?_
    have hin := choosePivot_in (lt := lt) (d := d1) (x := x) (y := y) (by omega)
    refine choosePivot_hs hc hn (by omega) hy (by omega) H fun h1 H1 => ⟨_, _, rfl, ?_⟩
    unfold st1 at k
    generalize choosePivot lt d1 x y = r at hin k ⊢
    obtain ⟨p, hint⟩ := r
    dsimp only at hin k ⊢
    refine (br_iff _ _ _).2 ⟨fun e1 => ?_, fun e1 => ?_⟩
    · have e2 : hint = .decreasing := by cases hint <;> first | rfl | (simp [hintN] at e1)
      rw [if_pos e2, if_pos e2, if_pos e2] at k
      refine reverse_hs hn (by omega) hy (by omega) H1 fun h2 H2 => ⟨rfl, ?_⟩
      rw [p1 (by omega) (by omega), wS hin.1 (by omega), wS (by omega) (by omega)]
      exact J2 (hint := .increasing) (by omega) (by omega) hlim k H2
    · have e2 : hint ≠ .decreasing := by rintro rfl; simp [hintN] at e1
      rw [if_neg e2, if_neg e2, if_neg e2] at k
      exact J2 hin.1 hin.2 hlim k H1
  refine (br_iff _ _ _).2 ⟨fun e1 => ?_, fun e1 => ?_⟩
  · rw [if_pos e1, if_pos e1] at k
    refine break_hs hn hxy hy hmax H fun h1 H1 => ⟨rfl, ?_⟩
    rw [p1 (by omega) (by omega)]
    exact J1 (by omega) k H1
  · rw [if_neg (by rw [e1]; simp), if_neg (by rw [e1]; simp)] at k
    exact J1 hlim k H
/-- SortFunc: a permutation that stands in order. -/
theorem SortFunc_hs (hc : CmpOk cmp lt) (hw : SWO lt) {d : Array Wr} (hmax : n < 2 ^ 59) (H : Hs h (S a n c d :: L)) (k : ∀ h' (e : Array Wr), e.toList.Perm d.toList → (∀ i j, i < j → j < n → lt e[j]! e[i]! = false) → Hs h' (S a n c e :: L) → Q (.tuple #[]) h') :
    SpecH PP F_slices_SortFunc_api_Write_api_Write [.slice a n c, cmp] h Q := by
  have hn := S_size H
  refine slices_SortFunc_api_Write_api_Write.door ?_
  dsimp only
  rw [wrap_u64_id (by omega)]
  refine Len_hs (by omega) H fun h1 H1 => ⟨_, rfl, ?_⟩
  have hb : bitsLen n < 2 ^ 60 := by
    rcases Nat.eq_zero_or_pos n with rfl | hp
    · show 0 < _; decide
    · have := bits_pow hp
      have h2 : bitsLen n < 2 ^ bitsLen n := Nat.lt_two_pow_self
      omega
  refine slices_pdqsortCmpFunc_api_Write.door ?_
  have hp := pdq_sorts lt hw d 0 n (bitsLen n) true true (by omega) (by omega) (.inl rfl)
  refine pdq_loop hc hmax n 0 n (bitsLen n) true true (by omega) (by omega) (Nat.le_refl _) hb H1 fun h2 H2 => ⟨rfl, ?_⟩
  refine k h2 _ ?_ (fun i j hij hj => hp.2 i j (Nat.zero_le _) hij hj) H2
  have := hp.1.2.2
  have ex : ∀ z : Array Wr, z.size = n → z.extract 0 n = z := fun z hz => by rw [← hz]; exact Array.extract_size
  rw [ex _ (hp.1.1.trans hn), ex d hn] at this
  exact this
end Go.Proofs.Ytcdifhgocjjbpaa.Srtapi_Write
