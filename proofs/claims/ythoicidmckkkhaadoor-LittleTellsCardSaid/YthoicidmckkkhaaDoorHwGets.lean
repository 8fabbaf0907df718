/- Contracts of law02's functions: a number is read, through slices.Backward. -/
import Derived.Test.YthoicidmckkkhaaDoorHwPuts
set_option linter.unusedVariables false
set_option linter.unusedSimpArgs false
namespace Go.Proofs.YthoicidmckkkhaaDoor
open Go Go.HW

theorem backward_loop {yield : Value} {t1 : Addr} {K : Ex → Fr → Heap → Prop} {bs : List (BitVec 8)} {a : Option Addr} {n c : Nat} (hn : bs.length = n) (hmax : n < 2 ^ 40) (I : Nat → Heap → Prop)
    (hI : ∀ (i : Nat) (h : Heap) (hi : i < bs.length), I (i + 1) h → cellH h t1 = some (.slice a n c) ∧ Rd h a (byV bs) ∧ callV Tryd.prog yield [.int .i64 i, .int .u8 (bs[i]).toNat] (fun v h2 => v = .bool true ∧ I i h2) h)
    (hx : ∀ h, I 0 h → K (.exit 0) f28_X0 h) : ∀ (k : Nat) (h : Heap), k ≤ n → I k h → f28_L10 (k + 1) yield t1 ((k : Int) - 1) K h := by
  intro k
  induction k with
  | zero =>
    intro h hk hI0
    rw [f28_L10_eq]
    exact br_false (by simp) (hx h hI0)
  | succ k ih =>
    intro h hk hIk
    have hkl : k < bs.length := by omega
    obtain ⟨h1, h2, h3⟩ := hI k h hkl hIk
    have e : ((k + 1 : Nat) : Int) - 1 = (k : Int) := by omega
    rw [f28_L10_eq, e]
    refine br_true (by simp) ?_
    refine ⟨_, _, _, h1, ?_⟩
    refine rd_u8 E23 h2 (by omega) (by omega) (by simpa using hkl) ?_
    refine callV_mono ?_ h3
    rintro v hh ⟨rfl, hI'⟩
    refine ⟨true, rfl, ?_⟩
    refine br_false rfl ?_
    simp only [show IntKind.i64.wrap ((k : Int) - 1) = (k : Int) - 1 from i64_id (by omega)]
    exact ih hh (by omega) hI'
theorem f27_spec {h : Heap} {a : Option Addr} {n c : Nat} {Q : Value → Heap → Prop} (H : Q (.func (.func 28) #[] #[.pointer (some ⟨h.size, 0, none⟩)]) (h.push (.cells #[.slice a n c] 23 (0, 0)))) : SpecH Tryd.prog 27 [.slice a n c] h Q := f27_door H
theorem call28 : callable Tryd.prog 28 = true := by kernel_rfl

/-- What the ranges' heap is, so far. -/
structure GI (h : Heap) (a : Option Addr) (n c : Nat) (L : Loop) (ys : List (BitVec 8)) (k : Nat) (hh : Heap) : Prop where
  ext : ExtB h.size h hh
  acc : Blk hh h.size 31 [.int .u64 (Num.of (ys.drop k)).toNat]
  sl : Blk hh (h.size + 1) 23 [.slice a n c]
  dfr : hh[h.size + 2]? = some (.deferred (some []))
  lp : hh[h.size + 3]? = some (.loop L)

theorem get_spec {h : Heap} {a : Option Addr} {n c : Nat} {bs : List (BitVec 8)} {at1 : Int} {k : Nat} {Q : Value → Heap → Prop} (hr : Rd h a (byV bs)) (hn : bs.length = n) (hnc : n ≤ c) (hmax : n < 2 ^ 40) (hk : k ≤ 8)
    (H1 : (at1 < 0 ∨ at1 > (n : Int) - k) → ∀ h', ExtB h.size h h' → Q (.tuple #[.int .u64 0, .int .i64 20]) h')
    (H2 : ∀ j : Nat, at1 = j → j + k ≤ n → ∀ h', ExtB h.size h h' → Q (.tuple #[.int .u64 (Num.of ((bs.drop j).take k)).toNat, .int .i64 0]) h') :
    SpecH Tryd.prog 26 [.slice a n c, .int .i64 at1, .int .i64 k] h Q := by
  refine SpecH.keepD (f26_door ?_)
  unfold f26_main
  have bad : (at1 < 0 ∨ at1 > (n : Int) - k) → f26_J101 a n c at1 k 0 0 true (fun v h' => KeepD h h' → Q v h') h := by
    intro hb
    rw [f26_J101_eq]
    refine br_true rfl fun h1 ht hkd => H1 hb h1 (takes_ext (ExtB.refl _ _) ht hkd)
  refine (br_iff _ _ _).2 ⟨fun hb => bad (.inl (by simpa using hb)), fun hb => ?_⟩
  have h0 : 0 ≤ at1 := by simpa using hb
  simp only [show IntKind.i64.wrap ((n : Int) - k) = (n : Int) - k from i64_id (by omega)]
  by_cases hgt : at1 > (n : Int) - k
  · rw [decide_eq_true hgt]; exact bad (.inr hgt)
  rw [decide_eq_false hgt]
  obtain ⟨j, rfl⟩ : ∃ j : Nat, at1 = j := ⟨at1.toNat, by omega⟩
  have hjk : j + k ≤ n := by omega
  rw [f26_J101_eq]
  refine br_false rfl ?_
  simp only [addN j k (by omega)]
  have hp := ExtB.push (Nat.le_refl h.size) (.cells #[Value.int .u64 0] 31 (0, 0))
  refine slice_rd E23 (hr.keep hp) (by rw [byV_len, hn]) hnc (by exact trivial) (by exact trivial) (by simp [bnd]) (by simp [bnd]; omega) (by simp [bnd]; omega) ?_
  intro a' hr' hblk
  simp only [bnd, Int.toNat_natCast] at hr' ⊢
  rw [show j + k - j = k by omega] at hr' ⊢
  rw [byV_drop, byV_take] at hr'
  generalize hys : (bs.drop j).take k = ys at hr'
  have hyl : ys.length = k := by rw [← hys]; simp; omega
  refine ⟨_, _, _, rfl, ?_⟩
  refine f27_spec ⟨_, rfl, ?_⟩
  refine ⟨28, #[], _, rfl, call28, ?_⟩
  intro fn tmps hf
  simp only [Array.size_push]
  show SpecH Tryd.prog 28 [_, _] _ _
  refine f28_door ?_
  generalize hL : (Loop.mk .ready none fn tmps #[28, 29] _ _ _) = L
  have hb' : ∀ ad, a' = some ad → byV ys ≠ [] → ad.block < h.size := by
    intro ad ha hne
    obtain ⟨ad0, h1, h2⟩ := hblk ad ha
    rw [← h2]; subst h1
    refine hr.lt ?_
    intro hb; apply hne
    have : bs = [] := by cases bs with | nil => rfl | cons => simp [byV] at hb
    rw [← hys, this]; simp [byV]
  have rdk : ∀ hh k', GI h a' k (c - j) L ys k' hh → Rd hh a' (byV ys) := fun hh k' G => hr'.keepB (n := h.size) ⟨by have := lt_of_get G.lp; simp; omega, fun i hi => by rw [G.ext.2 i hi, hp.2 i hi]⟩ hb'
  have step : ∀ (i : Nat) (hh : Heap) (hi : i < ys.length), GI h a' k (c - j) L ys (i + 1) hh → cellH hh ⟨h.size + 1, 0, none⟩ = some (.slice a' k (c - j)) ∧ Rd hh a' (byV ys) ∧
      callV Tryd.prog (.func (.yield (h.size + 3)) #[] #[]) [.int .i64 i, .int .u8 (ys[i]).toNat] (fun v h2 => v = .bool true ∧ GI h a' k (c - j) L ys i h2) hh := by
    intro i hh hi G
    refine ⟨cell_of G.sl rfl, rdk hh _ G, ?_⟩
    have R : f26_R111010 0 0 ⟨h.size, 0, none⟩ (.int .i64 i) (ys[i]).toNat (h.size + 3) (fun v h2 => v = .bool true ∧ GI h a' k (c - j) L ys i h2) hh := by
      rw [f26_R111010_eq]
      refine ⟨L, G.lp, by rw [← hL], ?_⟩
      have hacc : Blk (hh.setIfInBounds (h.size + 3) (.loop { L with state := .busy })) h.size 31 [.int .u64 (Num.of (ys.drop (i + 1))).toNat] := by
        unfold Blk; rw [get_set, if_neg (by omega)]; exact G.acc
      refine ⟨_, cell_of hacc rfl, ?_⟩
      simp only [shl64, wrap64b, or64, Int.reduceToNat]
      refine wr_ok hacc (by simp) rfl ?_
      refine ⟨{ L with state := .busy }, ?_, trivial, ?_⟩
      · rw [get_set, if_neg (by omega), get_set, if_pos rfl, if_pos (lt_of_get G.lp)]
      · have eL : endL { L with state := .busy } none = .loop L := by rw [← hL]; rfl
        rw [eL]
        refine ⟨((G.ext.trans (setB _ _ (by omega))).trans (setB _ _ (Nat.le_refl _))).trans (setB _ _ (by omega)), ?_, ?_, ?_, ?_⟩
        · have : Num.of (ys.drop i) = Num.of (ys.drop (i + 1)) <<< 8 ||| (ys[i]).setWidth 64 := by rw [← List.getElem_cons_drop hi]; rfl
          rw [this]
          unfold Blk; rw [get_set, if_neg (by omega), get_set, if_pos rfl, if_pos (by simpa using lt_of_get G.acc)]; rfl
        · unfold Blk; rw [get_set, if_neg (by omega), get_set, if_neg (by omega), get_set, if_neg (by omega)]; exact G.sl
        · rw [get_set, if_neg (by omega), get_set, if_neg (by omega), get_set, if_neg (by omega)]; exact G.dfr
        · rw [get_set, if_pos rfl, if_pos (by simpa using lt_of_get G.lp)]
    exact f26_R111010_yield G.lp (by rw [← hL]) (by rw [← hL]) (by rw [← hL]) (by rw [← hL]; exact hf) R
  refine ⟨a', k, c - j, ?_, ?_⟩
  · exact cell_of (cs := #[.slice a' k (c - j)]) (t := 23) (f := (0, 0)) (by rw [get_push, if_neg (by simp), get_push, if_neg (by simp), get_push, if_pos (by simp)]) rfl
  simp only [show IntKind.i64.wrap ((k : Int) - 1) = (k : Int) - 1 from i64_id (by omega)]
  refine ⟨k + 1, backward_loop hyl (by omega) (GI h a' k (c - j) L ys) step ?_ k _ (Nat.le_refl _) ?_⟩
  · intro hh G
    rw [f28_at10_X0]
    refine ⟨L, G.lp, by rw [← hL]; simp, G.dfr, ?_⟩
    have : L.pending = none := by rw [← hL]
    rw [this]
    show f26_K11101 _ .normal _ _
    rw [f26_R111010_outn0]
    refine ⟨_, cell_of (b := h.size) (off := 0) (cs := #[.int .u64 (Num.of (ys.drop 0)).toNat]) (t := 31) (f := (0, 0)) (by rw [get_set, if_neg (by omega)]; exact G.acc) rfl, ?_⟩
    intro h1 ht hkd
    rw [List.drop_zero, ← hys]
    exact H2 j rfl hjk h1 (takes_ext (G.ext.trans (setB _ _ (by omega))) ht hkd)
  · refine ⟨?_, ?_, ?_, ?_, ?_⟩
    · refine ⟨by simp; omega, fun i hi => ?_⟩
      rw [get_push, if_neg (by simp; omega), get_push, if_neg (by simp; omega), get_push, if_neg (by simp; omega), get_push, if_neg (by omega)]
    · unfold Blk
      rw [get_push, if_neg (by simp; omega), get_push, if_neg (by simp; omega), get_push, if_neg (by simp), get_push, if_pos rfl, List.drop_of_length_le (by omega)]; rfl
    · unfold Blk
      rw [get_push, if_neg (by simp), get_push, if_neg (by simp), get_push, if_pos (by simp)]
    · rw [get_push, if_neg (by simp), get_push, if_pos (by simp)]
    · rw [get_push, if_pos (by simp)]
end Go.Proofs.YthoicidmckkkhaaDoor
