/- haversackkeep.Spoil. -/
import Derived.Test.YtbkbipfcohmpcaaKeep
set_option linter.unusedVariables false
set_option linter.unusedSimpArgs false
namespace Go.Proofs.Ytbkbipfcohmpcaa
open Go Go.HW
theorem spoil_loop {a : Option Addr} {n c : Nat} {L : List Assn} {K : Ex → Fr → Heap → Prop} (hmax : n < 2 ^ 62) (kk : ∀ h' ys, Hs h' (own a n c T_uint8 1 (nV ys) :: L) → K (.exit 0) keep_Spoil_X0 h') :
    ∀ (k i : Nat) (xs : List Nat) (h : Heap), i + k = n → (∀ x ∈ xs, x < 256) → Hs h (own a n c T_uint8 1 (nV xs) :: L) → keep_Spoil_L110 a n c i K h := by
  intro k
  induction k with
  | zero => intro i xs h hi hb H; exact keep_Spoil_L110_of (br_false (decide_eq_false (by omega)) (kk h xs H))
  | succ k ih =>
    intro i xs h hi hb H
    have hl := H.own_len
    rw [nV_len] at hl
    have h1 : i < xs.length := by omega
    have hx := hb _ (List.getElem_mem h1)
    refine keep_Spoil_L110_of (br_true (decide_eq_true (by omega)) ?_)
    refine idx E_sl_uint8 H.rd (by omega) (by omega) (v := .int .u8 (xs[i] : Nat)) (by rw [Int.toNat_natCast]; exact nV_get h1) fun t ht => ⟨_, ht, ?_⟩
    have e : IntKind.u8.wrap ((xs[i] : Int) + 99) = (((xs[i] + 99) % 256 : Nat) : Int) := by rw [← wrap_u8]; congr 1
    simp only [e, inc (show i < 2 ^ 62 by omega)]
    refine H.idx_set E_sl_uint8 (by omega) (by omega) rfl fun h2 H2 => ?_
    refine ih (i + 1) (xs.set i ((xs[i] + 99) % 256)) h2 (by omega) ?_ ?_
    · intro y hy
      rcases List.mem_or_eq_of_mem_set hy with hy | rfl
      · exact hb y hy
      · exact Nat.mod_lt _ (by decide)
    · rw [Int.toNat_natCast] at H2
      simpa only [nV, List.map_set] using H2
theorem spoil_spec {b n : Nat} {L : List Assn} {xs : List Nat} {h : Heap} {Q : Value → Heap → Prop} (H : Hs h (own (some ⟨b, 0, none⟩) n n T_uint8 1 (nV xs) :: L)) (hb : ∀ x ∈ xs, x < 256) (hmax : n < 2 ^ 40)
    (kk : ∀ h', Hs h' L → Q (.tuple #[]) h') : SpecH PP F_keep_Spoil [.slice (some ⟨b, 0, none⟩) n n] h Q := by
  refine keep_Spoil_door ?_
  unfold keep_Spoil_main
  refine hwp_sliceSl E_sl_uint8 (by exact trivial) (by exact trivial) (by simp [bnd]) (by simp [bnd]) (by simp [bnd]) ?_
  refine ⟨_, _, _, rfl, ?_⟩
  have e : (if (n : Int) = bnd none 0 then some (⟨b, 0, none⟩ : Addr) else (some (⟨b, 0, none⟩ : Addr)).map (·.add ((bnd none 0).toNat * 1))) = some ⟨b, 0, none⟩ := by split <;> simp [bnd, Addr.add]
  rw [e]
  simp only [bnd, Int.toNat_natCast, Int.toNat_zero, Nat.sub_zero]
  refine spoil_loop (by omega) (fun h' ys H' => ?_) n 0 xs h (by omega) hb H
  rw [keep_Spoil_at110_X0]; exact kk h' H'.tl
end Go.Proofs.Ytbkbipfcohmpcaa
