/- Contracts of package haversackkeep: bytes lent and given back. -/
import Derived.Test.YtjliiiejcalglaaDoorG
import Derived.Test.YtjliiiejcalglaaDoorHwDig
import Derived.Test.YtjliiiejcalglaaDoorHwSl
set_option linter.unusedVariables false
set_option linter.unusedSimpArgs false
namespace Go.Proofs.YtjliiiejcalglaaDoor
open Go Go.HW
variable {h : Heap} {L : List Assn} {Q : Value → Heap → Prop}
/-- A lent row: the bytes, and two marks behind them. -/
def lent (b : Nat) (xs : List Nat) : Assn := own (some ⟨b, 0, none⟩) (xs.length + 2) (xs.length + 2) T_uint8 1 (nV (xs ++ [165, 90]))
theorem Gv_lent {b : Nat} {xs : List Nat} : Gv (lent b xs :: L) (some ⟨b, 0, none⟩) (nV xs) := by
  have := (Gv.own (L := L) (a := some ⟨b, 0, none⟩) (n := xs.length + 2) (c := xs.length + 2) (e := T_uint8) (sz := 1) (xs := nV (xs ++ [165, 90]))).take xs.length
  rwa [show (nV (xs ++ [165, 90])).take xs.length = nV xs by rw [nV_app, List.take_append_of_le_length (by rw [nV_len]; exact Nat.le_refl _), List.take_of_length_le (by rw [nV_len]; exact Nat.le_refl _)]] at this
theorem Lend_spec {a : Option Addr} {n c : Nat} {xs : List Nat} (hr : Rd h a (nV xs)) (hn : xs.length = n) (hmax : n < 2 ^ 40) (hn0 : a = none → n = 0) (H : Hs h L)
    (kk : ∀ h' b, Hs h' (lent b xs :: L) → Q (.slice (some ⟨b, 0, none⟩) n (n + 2)) h') (hr2 : Gv L a (nV xs)) : SpecH PP F_keep_Lend [.slice a n c] h Q := by
  refine keep_Lend.door ?_
  have w2 : IntKind.i64.wrap ((n : Int) + 2) = ((n + 2 : Nat) : Int) := by rw [wrap_i64_z (by omega) (by omega)]; simp
  have w1 : IntKind.i64.wrap ((n : Int) + 1) = ((n + 1 : Nat) : Int) := inc (by omega)
  simp only [w1, w2]
  refine H.make E_sl_uint8 rfl rfl (Nat.le_refl _) (by omega) (by omega) fun h1 b H1 => ⟨_, _, _, rfl, ?_⟩
  refine H1.copy (off := 0) (ys := nV xs) E_sl_uint8 (by rw [nV_len]; simp; omega) (hr2 _ H1.tl) hn0 (by rw [nV_len, hn, Nat.min_eq_left (by omega), Nat.mul_one]) (nV_one _) fun h2 H2 => ⟨_, rfl, ?_⟩
  have e1 : (List.replicate (n + 2) (Value.int .u8 0)).take 0 ++ nV xs ++ (List.replicate (n + 2) (Value.int .u8 0)).drop (0 + (nV xs).length) = nV (xs ++ 0 :: [0]) := by
    rw [List.take_zero, List.nil_append, nV_len, hn, List.drop_replicate, nV_app]; congr 1
    rw [show n + 2 - (0 + n) = 2 by omega]; rfl
  rw [e1] at H2
  have hl : ∀ x y : Nat, (nV (xs ++ x :: [y])).length = n + 2 := fun x y => by rw [nV_len, List.length_append, hn]; rfl
  refine (H2.pt_all (n := n + 2) (hl 0 0)).idx_set E_sl_uint8 (by omega) (by omega) rfl fun h3 H3 => ?_
  rw [Int.toNat_natCast, show (Value.int .u8 165) = .int .u8 ((165 : Nat) : Int) from rfl, nV_setat hn] at H3
  refine H3.idx_set E_sl_uint8 (by omega) (by omega) rfl fun h4 H4 => ?_
  have e2 : xs ++ 165 :: [0] = (xs ++ [165]) ++ 0 :: [] := by simp
  rw [Int.toNat_natCast, e2, show (Value.int .u8 90) = .int .u8 ((90 : Nat) : Int) from rfl, nV_setat (by simp [hn])] at H4
  refine slice_pre E_sl_uint8 (by omega) ⟨some ⟨b, 0, none⟩, n, n + 2, rfl, kk h4 b ?_⟩
  · unfold lent; rw [hn]
    have e3 : (xs ++ [165]) ++ 90 :: [] = xs ++ [165, 90] := by simp
    rw [e3] at H4; exact H4
theorem scr_loop {b n : Nat} {ok : Bool} {K : Ex → Fr → Heap → Prop} (hmax : n < 2 ^ 41) (kk : ∀ h', Hs h' L → K (.exit 2) (keep_Back.X2 ok) h') :
    ∀ (k i : Nat) {h : Heap} {l : List Nat}, i + k = n → l.length = n → Hs h (own (some ⟨b, 0, none⟩) n n T_uint8 1 (nV l) :: L) → keep_Back.L2 (some ⟨b, 0, none⟩) n n ok i K h := by
  intro k
  induction k with
  | zero =>
    intro i h l hi hl H
    exact keep_Back.L2_of (br_false (decide_eq_false (by omega)) (kk h H.tl))
  | succ k ih =>
    intro i h l hi hl H
    have hil : i < l.length := by omega
    refine keep_Back.L2_of (br_true (decide_eq_true (by omega)) ?_)
    refine idx E_sl_uint8 H.rd (by omega) (by omega) (v := .int .u8 (l[i] : Nat)) (by rw [Int.toNat_natCast]; exact nV_get hil) fun t ht => ⟨_, ht, ?_⟩
    have w : IntKind.u8.wrap ((l[i] : Int) + 77) = (((l[i] + 77) % 256 : Nat) : Int) := by rw [show (l[i] : Int) + 77 = ((l[i] + 77 : Nat) : Int) by simp, wrap_u8]
    refine H.idx_set E_sl_uint8 (by omega) (by omega) rfl fun h2 H2 => ?_
    rw [Int.toNat_natCast, w] at H2
    have e : (nV l).set i (.int .u8 (((l[i] + 77) % 256 : Nat) : Int)) = nV (l.set i ((l[i] + 77) % 256)) := by simp [nV, List.map_set]
    rw [e] at H2
    simp only [inc (show i < 2 ^ 62 by omega)]
    exact ih (i + 1) (by omega) (by simp [hl]) H2
theorem cmp_loop {b n m d : Nat} {a : Option Addr} {xs : List Nat} {K : Ex → Fr → Heap → Prop} (hr : Rd h (some ⟨b, 0, none⟩) (nV (xs ++ [165, 90]))) (hr2 : Rd h a (nV xs)) (hn : xs.length = n) (hmax : n < 2 ^ 40)
    (kk : K (.exit 0) (keep_Back.X0 (some ⟨b, 0, none⟩) (n + 2) (n + 2) true) h) :
    ∀ (k i : Nat), i + k = n → keep_Back.L1 (some ⟨b, 0, none⟩) n d a n m (some ⟨b, 0, none⟩) (n + 2) (n + 2) true i K h := by
  intro k
  induction k with
  | zero =>
    intro i hi
    exact keep_Back.L1_of (br_false (decide_eq_false (by omega)) kk)
  | succ k ih =>
    intro i hi
    have hil : i < xs.length := by omega
    refine keep_Back.L1_of (br_true (decide_eq_true (by omega)) (br_true rfl ?_))
    refine idx E_sl_uint8 hr (by omega) (by omega) (v := .int .u8 (xs[i] : Nat)) (by rw [Int.toNat_natCast, nV_app, List.getElem?_append_left (by rw [nV_len]; exact hil)]; exact nV_get hil) fun t ht => ⟨_, ht, ?_⟩
    refine idx E_sl_uint8 hr2 (by omega) (by omega) (v := .int .u8 (xs[i] : Nat)) (by rw [Int.toNat_natCast]; exact nV_get hil) fun t ht => ⟨_, ht, keep_Back.J2_of ?_⟩
    rw [beq_self_eq_true]
    simp only [inc (show i < 2 ^ 62 by omega)]
    exact ih (i + 1) (by omega)
theorem Back_spec {b n m : Nat} {a : Option Addr} {xs : List Nat} (hr2 : Gv L a (nV xs)) (hn : xs.length = n) (hmax : n < 2 ^ 40) (H : Hs h (lent b xs :: L)) (kk : ∀ h', Hs h' L → Q (.bool true) h') :
    SpecH PP F_keep_Back [.slice (some ⟨b, 0, none⟩) n (n + 2), .slice a n m] h Q := by
  refine keep_Back.door ?_
  have w2 : IntKind.i64.wrap ((n : Int) + 2) = ((n + 2 : Nat) : Int) := by rw [wrap_i64_z (by omega) (by omega)]; simp
  have w1 : IntKind.i64.wrap ((n : Int) + 1) = ((n + 1 : Nat) : Int) := inc (by omega)
  simp only [w1, w2]
  unfold lent at H; rw [hn] at H
  refine slice_pre E_sl_uint8 (by omega) ⟨some ⟨b, 0, none⟩, n + 2, n + 2, rfl, ?_⟩
  have e1 : (nV (xs ++ [165, 90]))[n]? = some (.int .u8 165) := by rw [← hn]; simp [nV]
  have e2 : (nV (xs ++ [165, 90]))[n + 1]? = some (.int .u8 90) := by rw [← hn]; simp [nV]
  refine idx E_sl_uint8 H.rd (by omega) (by omega) (by rw [Int.toNat_natCast]; exact e1) fun t ht => ⟨_, ht, br_true rfl ?_⟩
  refine idx E_sl_uint8 H.rd (by omega) (by omega) (by rw [Int.toNat_natCast]; exact e2) fun t ht => ⟨_, ht, keep_Back.J1_of ?_⟩
  refine cmp_loop H.rd (hr2 _ H.tl) hn hmax ?_ n 0 (by omega)
  refine keep_Back.L1_X0 ?_
  refine scr_loop (by omega) (fun h2 H2 => ?_) (n + 2) 0 (by omega) (by simp [hn]) H
  refine keep_Back.L2_X2 ?_
  exact kk h2 H2
end Go.Proofs.YtjliiiejcalglaaDoor
