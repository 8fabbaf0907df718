/- Plain law: what is encoded is read as the same. -/
import Derived.Test.YtdjjchfhccmjgaaDoorLaws2
set_option linter.unusedVariables false
set_option linter.unusedSimpArgs false
namespace Go.Proofs.YtdjjchfhccmjgaaDoor
open Go Go.HW
theorem get4_le4 {v : Nat} (hv : v < 4294967296) : get4 (le4 v) = v := by
  unfold get4 le4
  have e : nb (bn (Num.le 4 (BitVec.ofNat 64 v))) = Num.le 4 (BitVec.ofNat 64 v) := by
    unfold nb bn; rw [List.map_map]
    conv => rhs; rw [← List.map_id (Num.le 4 (BitVec.ofNat 64 v))]
    exact List.map_congr_left fun b _ => by simp
  rw [e]
  have h4 := Num.of_le4 (BitVec.ofNat 64 v)
  have h5 := Num.of4 (Num.le 4 (BitVec.ofNat 64 v)) (by rw [Num.le_len]; exact Nat.le_refl _)
  rw [← h5, h4]
  rw [BitVec.toNat_setWidth, BitVec.toNat_setWidth, BitVec.toNat_ofNat]
  omega
theorem enc_ok {f : Fm} (e : encE f = 0) : (1 ≤ f.kind ∧ f.kind ≤ 255) ∧ f.body.size ≤ 20000 := by
  unfold encE at e
  split at e
  · cases e
  · split at e
    · cases e
    · omega
theorem nx_enc {f : Fm} (e : encE f = 0) (rest : List Nat) : nx (encB f ++ rest) = .got f (f.body.size + 9) := by
  obtain ⟨hk, hs⟩ := enc_ok e
  have hl := enc_len f
  have e4 : (encB f ++ rest).take 4 = le4 f.body.size := by
    unfold encB
    rw [List.append_assoc, List.append_assoc, List.take_append_of_le_length (by rw [le4_len]; exact Nat.le_refl _), List.take_of_length_le (by rw [le4_len]; exact Nat.le_refl _)]
  rw [nx_eq (by rw [List.length_append]; omega), e4, get4_le4 (by omega), if_neg (by omega)]
  have d4 : (encB f ++ rest).drop 4 = mid f ++ (le4 (crc (mid f)) ++ rest) := by
    unfold encB
    rw [List.append_assoc, List.append_assoc, List.drop_append, List.drop_of_length_le (by rw [le4_len]; exact Nat.le_refl _), le4_len]; simp
  have g4 : (encB f ++ rest).getD 4 0 = f.kind.toNat := by
    have : (encB f ++ rest)[4]? = ((encB f ++ rest).drop 4)[0]? := by rw [List.getElem?_drop]
    rw [List.getD_eq_getElem?_getD, this, d4]; rfl
  have d5 : (encB f ++ rest).drop 5 = sb f.body ++ (le4 (crc (mid f)) ++ rest) := by
    have : (encB f ++ rest).drop 5 = ((encB f ++ rest).drop 4).drop 1 := by rw [List.drop_drop]
    rw [this, d4]; rfl
  have d9 : (encB f ++ rest).drop (5 + f.body.size) = le4 (crc (mid f)) ++ rest := by
    have : (encB f ++ rest).drop (5 + f.body.size) = ((encB f ++ rest).drop 5).drop f.body.size := by rw [List.drop_drop]
    rw [this, d5, List.drop_append, List.drop_of_length_le (by rw [sb_len]; exact Nat.le_refl _), sb_len]; simp
  rw [g4, d4, d5, d9, if_neg (by omega), if_neg (by rw [List.length_append]; omega)]
  have t1 : (le4 (crc (mid f)) ++ rest).take 4 = le4 (crc (mid f)) := by rw [List.take_append_of_le_length (by rw [le4_len]; exact Nat.le_refl _), List.take_of_length_le (by rw [le4_len]; exact Nat.le_refl _)]
  have t2 : (mid f ++ (le4 (crc (mid f)) ++ rest)).take (1 + f.body.size) = mid f := by rw [List.take_append_of_le_length (by rw [mid_len]; omega), List.take_of_length_le (by rw [mid_len]; omega)]
  have t3 : (sb f.body ++ (le4 (crc (mid f)) ++ rest)).take f.body.size = sb f.body := by rw [List.take_append_of_le_length (by rw [sb_len]; exact Nat.le_refl _), List.take_of_length_le (by rw [sb_len]; exact Nat.le_refl _)]
  rw [t1, t2, t3, get4_le4 (crc_lt _), if_neg (by simp), st_sb]
  have ek : ((f.kind.toNat : Nat) : Int) = f.kind := by omega
  rw [ek]
theorem rd_encs : ∀ (l : List Fm), (∀ f ∈ l, encE f = 0) → rd (l.flatMap encB) = (l, 0, []) := by
  intro l
  induction l with
  | nil => intro _; exact rd_wait (by unfold nx; rfl)
  | cons f l ih =>
    intro h
    have hf := nx_enc (h f (by simp)) (l.flatMap encB)
    rw [List.flatMap_cons, rd_got hf]
    have : (encB f ++ l.flatMap encB).drop (f.body.size + 9) = l.flatMap encB := by
      rw [List.drop_append, List.drop_of_length_le (by rw [enc_len]; exact Nat.le_refl _), enc_len]; simp
    rw [this, ih fun g hg => h g (List.mem_cons_of_mem _ hg)]
end Go.Proofs.YtdjjchfhccmjgaaDoor
