/- Contracts of package haversackkeep: bytes. -/
import Derived.Test.YtdjjchfhccmjgaaDoorG
import Derived.Test.YtdjjchfhccmjgaaDoorHwDig
set_option linter.unusedVariables false
set_option linter.unusedSimpArgs false
namespace Go.Proofs.YtdjjchfhccmjgaaDoor
open Go Go.HW
theorem inc {i : Nat} (hi : i < 2 ^ 62) : IntKind.i64.wrap ((i : Int) + 1) = ((i + 1 : Nat) : Int) := by rw [wrap_i64_z (by omega) (by omega)]; simp
theorem keepBytes_loop {a b : Option Addr} {n c m d : Nat} {xs ys : List Nat} {h : Heap} {K : Ex → Fr → Heap → Prop} (ha : Rd h a (nV xs)) (hb : Rd h b (nV ys)) (hna : xs.length = n) (hnb : ys.length = n) (hm : m = n) (hmax : n < 2 ^ 62)
    (k1 : xs = ys → K (.exit 0) keep_Bytes_X0 h) (k2 : xs ≠ ys → K .ret (keep_Bytes_Xret false) h) : ∀ (k i : Nat), i + k = n → xs.take i = ys.take i → keep_Bytes_L11010 a n c b m d i K h := by
  subst hm
  intro k
  induction k with
  | zero =>
    intro i hi ht
    refine keep_Bytes_L11010_of (br_false (decide_eq_false (by omega)) (k1 ?_))
    rwa [List.take_of_length_le (by omega), List.take_of_length_le (by omega)] at ht
  | succ k ih =>
    intro i hi ht
    have h1 : i < xs.length := by omega
    have h2 : i < ys.length := by omega
    refine keep_Bytes_L11010_of (br_true (decide_eq_true (by omega)) ?_)
    refine idx E_sl_uint8 ha (by omega) (by omega) (v := .int .u8 (xs[i] : Nat)) (by rw [Int.toNat_natCast]; exact nV_get h1) fun t ht1 => ⟨_, ht1, ?_⟩
    refine idx E_sl_uint8 hb (by omega) (by omega) (v := .int .u8 (ys[i] : Nat)) (by rw [Int.toNat_natCast]; exact nV_get h2) fun t ht2 => ⟨_, ht2, ?_⟩
    simp only [inc (show i < 2 ^ 62 by omega)]
    refine (br_iff _ _ _).2 ⟨fun hb' => k2 ?_, fun hb' => ih (i + 1) (by omega) ?_⟩
    · rintro rfl; simp at hb'
    · have e : xs[i] = ys[i] := by simp only [bne_eq_false_iff_eq] at hb'; omega
      rw [List.take_succ_eq_append_getElem h1, List.take_succ_eq_append_getElem h2, ht, e]
theorem keepBytes_spec {a b : Option Addr} {n c m d : Nat} {xs ys : List Nat} {h : Heap} {Q : Value → Heap → Prop} (ha : Rd h a (nV xs)) (hb : Rd h b (nV ys)) (hna : xs.length = n) (hnb : ys.length = m) (hmax : n < 2 ^ 62)
    (kk : Q (.bool (decide (xs = ys))) h) : SpecH PP F_keep_Bytes [.slice a n c, .slice b m d] h Q := by
  refine keep_Bytes_door ?_
  unfold keep_Bytes_main
  refine (br_iff _ _ _).2 ⟨fun hne => ?_, fun heq => ?_⟩
  · rw [decide_eq_false (fun e => by subst e; simp at hne; omega)] at kk; exact kk
  · have e : m = n := by simp at heq; omega
    refine keepBytes_loop ha hb hna (by omega) e hmax (fun e => ?_) (fun e => ?_) n 0 (by omega) rfl
    · rw [keep_Bytes_at11010_X0]; rwa [decide_eq_true e] at kk
    · rw [keep_Bytes_at11010_Xret]; rwa [decide_eq_false e] at kk
end Go.Proofs.YtdjjchfhccmjgaaDoor
