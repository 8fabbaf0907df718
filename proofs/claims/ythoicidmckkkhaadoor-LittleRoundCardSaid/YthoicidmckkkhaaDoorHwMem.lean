/- Contracts of law02's functions: bytes lent, given back, compared, put, got. -/
import Derived.Test.YthoicidmckkkhaaDoorHwMore
import Derived.Test.YthoicidmckkkhaaDoorHwLE
set_option linter.unusedVariables false
set_option linter.unusedSimpArgs false
namespace Go.Proofs.YthoicidmckkkhaaDoor
open Go Go.HW
theorem inc (i : Nat) (hi : i < 2 ^ 62) : IntKind.i64.wrap ((i : Int) + 1) = ((i + 1 : Nat) : Int) := by rw [i64_id (by omega)]; simp
theorem addN (a b : Nat) (h : a + b < 2 ^ 62) : IntKind.i64.wrap ((a : Int) + b) = ((a + b : Nat) : Int) := by rw [i64_id (by omega)]; simp

theorem lent_spec {h : Heap} {a : Option Addr} {n c : Nat} {bs : List (BitVec 8)} {Q : Value → Heap → Prop} (hr : Rd h a (byV bs)) (hn : bs.length = n) (hmax : n < 2 ^ 40)
    (H : ∀ h', ExtB h.size h h' → h'.size = h.size + 1 → Blk h' h.size 5 (byV (bs ++ [99#8])) → Q (.slice (some ⟨h.size, 0, none⟩) n (n + 1)) h') : SpecH Tryd.prog 10 [.slice a n c] h Q := by
  refine f10_door ?_
  unfold f10_main
  simp only [inc n (by omega)]
  refine hwp_make E23 rfl (Nat.le_refl _) (by omega) (by omega) ?_
  refine ⟨_, _, _, rfl, ?_⟩
  have hr1 := hr.keep (ExtB.push (Nat.le_refl h.size) (.cells (List.replicate (n + 1) (Value.int .u8 0)).toArray 5 (0, 0)))
  refine hwp_copy (ys := byV bs) (off := 0) E23 (Blk.new _ _ _) (by rw [byV_len]; omega) hr1 ?_ (by rw [byV_len]; simp; omega) (byV_one _) ?_
  · intro ha; subst ha
    cases bs with
    | nil => exact hn.symm
    | cons b l => obtain ⟨ad, hx, _⟩ := hr 0 _ (by simp [byV]; rfl); cases hx
  intro h2 hk hs hb
  refine ⟨_, rfl, ?_⟩
  have hb' : Blk h2 h.size 5 (byV bs ++ [.int .u8 0]) := by
    simpa [byV_len, hn] using hb
  refine hwp_index E23 (by omega) (by omega) ⟨_, rfl, ?_⟩
  rw [add_mk]
  refine wr_ok hb' (by simp [byV_len]; omega) rfl ?_
  refine hwp_sliceSl E23 (by exact trivial) (by exact trivial) (by simp [bnd]) (by simp [bnd]) (by simp [bnd]; omega) ?_
  simp only [bnd, Int.toNat_natCast, Nat.mul_one]
  rw [if_neg (by omega)]
  refine ⟨_, _, _, rfl, ?_⟩
  simp only [Option.map_some, add_mk]
  have hl : (byV bs).length = n := by rw [byV_len, hn]
  refine H _ ?_ (by simp [hs]) ?_
  · refine ⟨by simp [hs], fun i hi => ?_⟩
    rw [get_set, if_neg (by omega), hk i (by omega), get_push, if_neg (by omega)]
  · have := Blk.set (h := h2) (b := h.size) (by rw [hs]; simp) 5 (byV (bs ++ [99#8]))
    have e : (byV bs ++ [Value.int .u8 0]).set (0 + n) (Value.int .u8 99) = byV (bs ++ [99#8]) := by
      rw [byV_app, Nat.zero_add, ← hl, List.set_append_right _ _ (Nat.le_refl _)]; simp [byV]
    rw [e]; exact this

theorem same_loop {h : Heap} {a b : Option Addr} {n c d : Nat} {xs bs : List (BitVec 8)} (ha : Rd h a (byV xs)) (hb : Rd h b (byV bs)) (hna : xs.length = n) (hnb : bs.length = n) (hmax : n < 2 ^ 62) {K : Ex → Fr → Heap → Prop} :
    ∀ (k i : Nat), i + k = n → xs.take i = bs.take i → (xs = bs → K (.exit 0) f19_X0 h) → (xs ≠ bs → K .ret (f19_Xret false) h) → f19_L11010 (k + 1) a n c b n d i K h := by
  intro k
  induction k with
  | zero =>
    intro i hi ht H1 H2
    rw [f19_L11010_eq]
    refine br_false (by simp; omega) (H1 ?_)
    rwa [List.take_of_length_le (by omega), List.take_of_length_le (by omega)] at ht
  | succ k ih =>
    intro i hi ht H1 H2
    have h1 : i < xs.length := by omega
    have h2 : i < bs.length := by omega
    rw [f19_L11010_eq]
    refine br_true (by simp; omega) ?_
    refine rd_u8 E23 ha (by omega) (by omega) (by simpa using h1) ?_
    refine rd_u8 E23 hb (by omega) (by omega) (by simpa using h2) ?_
    simp only [Int.toNat_natCast, inc i (by omega)]
    refine (br_iff _ _ _).2 ⟨fun hb' => H2 ?_, fun hb' => ih (i + 1) (by omega) ?_ H1 H2⟩
    · rintro rfl; simp at hb'
    · have e : xs[i] = bs[i] := by
        simp only [bne_eq_false_iff_eq] at hb'
        exact BitVec.eq_of_toNat_eq (by omega)
      rw [List.take_succ_eq_append_getElem h1, List.take_succ_eq_append_getElem h2, ht, e]
theorem same_spec {h : Heap} {a b : Option Addr} {n m c d : Nat} {xs bs : List (BitVec 8)} {Q : Value → Heap → Prop} (ha : Rd h a (byV xs)) (hb : Rd h b (byV bs)) (hna : xs.length = n) (hnb : bs.length = m) (hmax : n < 2 ^ 62)
    (H : Q (.bool (decide (xs = bs))) h) : SpecH Tryd.prog 19 [.slice a n c, .slice b m d] h Q := by
  refine f19_door ?_
  unfold f19_main
  refine (br_iff _ _ _).2 ⟨fun hne => ?_, fun heq => ?_⟩
  · have : xs ≠ bs := by rintro rfl; simp at hne; omega
    rw [decide_eq_false this] at H; exact H
  · have e : n = m := by simp at heq; omega
    subst e
    refine ⟨n + 1, ?_⟩
    refine same_loop ha hb hna hnb hmax n 0 (by omega) rfl (fun e => ?_) (fun e => ?_)
    · rw [f19_at11010_X0]; rw [decide_eq_true e] at H; exact H
    · rw [f19_at11010_Xret]; rw [decide_eq_false e] at H; exact H

theorem back_loop {b n c : Nat} {ok : Bool} {K : Ex → Fr → Heap → Prop} {h0 : Heap} (hmax : n < 2 ^ 62) (H : ∀ h', (∀ j, b ≠ j → h'[j]? = h0[j]?) → h'.size = h0.size → K (.exit 0) (f13_X0 ok) h') :
    ∀ (k i : Nat) (h : Heap) (xs : List Value), i + k = n → xs.length = n → Blk h b 5 xs → (∀ j, b ≠ j → h[j]? = h0[j]?) → h.size = h0.size → f13_L111010 (k + 1) (some ⟨b, 0, none⟩) n c ok i K h := by
  intro k
  induction k with
  | zero =>
    intro i h xs hi hl hb hj hs
    rw [f13_L111010_eq]
    exact br_false (by simp; omega) (H h hj hs)
  | succ k ih =>
    intro i h xs hi hl hb hj hs
    rw [f13_L111010_eq]
    refine br_true (by simp; omega) ?_
    refine wr_at E23 hb (by omega) (by omega) (by simp; omega) rfl ?_
    simp only [Int.toNat_natCast, inc i (by omega)]
    refine ih (i + 1) _ _ (by omega) (by simpa using hl) (Blk.set hb.lt _ _) (fun j hne => ?_) (by simpa using hs)
    rw [get_set, if_neg hne, hj j hne]
theorem back_spec {h : Heap} {b n c : Nat} {a : Option Addr} {bs : List (BitVec 8)} {Q : Value → Heap → Prop} (hb : Blk h b 5 (byV (bs ++ [99#8]))) (hr : Rd h a (byV bs)) (hn : bs.length = n) (hmax : n < 2 ^ 40)
    (H : ∀ h', (∀ j, b ≠ j → h'[j]? = h[j]?) → h'.size = h.size → Q (.bool true) h') : SpecH Tryd.prog 13 [.slice (some ⟨b, 0, none⟩) n (n + 1), .slice a n c] h Q := by
  refine f13_door ?_
  unfold f13_main
  simp only [inc n (by omega)]
  refine hwp_sliceSl E23 (by exact trivial) (by exact trivial) (by simp [bnd]) (by simp [bnd]; omega) (by simp [bnd]) ?_
  simp only [bnd, Int.toNat_natCast, Nat.mul_one]
  rw [if_neg (by omega)]
  refine ⟨_, _, _, rfl, ?_⟩
  simp only [Option.map_some, add_mk]
  have hl : (bs ++ [99#8]).length = n + 1 := by simp [hn]
  have hr2 : Rd h (some ⟨b, 0, none⟩) (byV (bs ++ [99#8])) := Rd.of_blk hb (by simp)
  refine rd_u8 E23 hr2 (by omega) (by simp; omega) (by simp; omega) ?_
  have e99 : (bs ++ [99#8])[(n : Int).toNat]'(by simp; omega) = 99#8 := by
    rw [List.getElem_append_right (by simp; omega)]; simp
  rw [e99]
  refine br_true rfl ?_
  have hr1 : Rd h (some ⟨b, 0, none⟩) (byV bs) := Rd.of_blk hb (by rw [byV_app]; simp)
  refine same_spec hr1 hr hn hn (by omega) ⟨_, rfl, ?_⟩
  rw [f13_J111_eq, decide_eq_true rfl]
  refine ⟨(n + 1) + 1, ?_⟩
  refine back_loop (n := n + 1) (h0 := h) (by omega) (fun h' hj hs => ?_) (n + 1) 0 h _ (by omega) (by rw [byV_len]; exact hl) hb (fun _ _ => rfl) rfl
  rw [f13_at111010_X0]
  exact H h' hj hs
end Go.Proofs.YthoicidmckkkhaaDoor
