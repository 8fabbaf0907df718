/- The laws' helpers: lent, back, and the rows that are the same. -/
import Derived.Test.YtaolpeimlkpkbaaMFind
set_option linter.unusedVariables false
set_option linter.unusedSimpArgs false
namespace Go.Proofs.Ytaolpeimlkpkbaa
open Go Go.HW
variable {h : Heap} {L : List Assn} {Q : Value → Heap → Prop}
/-- Bytes alike. -/
theorem BSame_hs {a b : OA} {n c d : Nat} {l : List Nat} (ha : Gv L a (nV l)) (hb : Gv L b (nV l)) (hn : l.length = n) (hmax : n < 2 ^ 62) (H : Hs h L) (k : Q (.bool true) h) : SpecH PP F_ref02_Same [.slice a n c, .slice b n d] h Q := by
  refine ref02_Same.door (br_false (by simp) ?_)
  have go : ∀ (r i : Nat), r + i = n → ref02_Same.L1 a n c b n d i (ref02_Same.K1 Q) h := by
    intro r
    induction r with
    | zero => intro i hi; exact ref02_Same.L1_of (br_false (decide_eq_false (by omega)) (ref02_Same.L1_X0 k))
    | succ r ih =>
      intro i hi
      refine ref02_Same.L1_of (br_true (decide_eq_true (by omega)) ?_)
      refine idx E_sl_uint8 (ha _ H) (by omega) (by omega) (by rw [Int.toNat_natCast]; exact nVd (by omega)) fun t ht => ⟨_, ht, ?_⟩
      refine idx E_sl_uint8 (hb _ H) (by omega) (by omega) (by rw [Int.toNat_natCast]; exact nVd (by omega)) fun t ht => ⟨_, ht, br_false (by simp) ?_⟩
      dsimp only
      rw [show IntKind.i64.wrap ((i : Int) + 1) = ((i + 1 : Nat) : Int) by rw [wrapI (by omega) (by omega)]; omega]
      exact ih (i + 1) (by omega)
  exact go n 0 (by omega)
/-- Rows of tokens alike. -/
theorem TSame_hs {a b : OA} {n c d : Nat} {l : List Tok} (ha : Gv L a (l.flatMap tokV)) (hb : Gv L b (l.flatMap tokV)) (hn : l.length = n) (hmax : n < 2 ^ 62) (H : Hs h L) (k : Q (.bool true) h) : SpecH PP F_ref06_Same [.slice a n c, .slice b n d] h Q := by
  refine ref06_Same.door (br_false (by simp) ?_)
  have go : ∀ (r i : Nat), r + i = n → ref06_Same.L1 a n c b n d i (ref06_Same.K1 Q) h := by
    intro r
    induction r with
    | zero => intro i hi; exact ref06_Same.L1_of (br_false (decide_eq_false (by omega)) (ref06_Same.L1_X0 k))
    | succ r ih =>
      intro i hi
      refine ref06_Same.L1_of (br_true (decide_eq_true (by omega)) ?_)
      refine idxf E_sl_api_Token (φ := tokV) (l := l) (x := l[i]) (ha _ H) tokV_len (by omega) (by omega) (by omega) (by simp) fun t ht => ⟨_, _, _, ht, ?_⟩
      refine idxf E_sl_api_Token (φ := tokV) (l := l) (x := l[i]) (hb _ H) tokV_len (by omega) (by omega) (by omega) (by simp) fun t ht => ⟨_, _, _, ht, br_false (by simp) ?_⟩
      dsimp only
      rw [show IntKind.i64.wrap ((i : Int) + 1) = ((i + 1 : Nat) : Int) by rw [wrapI (by omega) (by omega)]; omega]
      exact ih (i + 1) (by omega)
  exact go n 0 (by omega)
def mark : Tok := ⟨0, -7, 0⟩
def tl (b : Nat) (l : List Tok) : Assn := pt b T_api_Token ((l ++ [mark]).flatMap tokV)
theorem tl_take (l m : List Tok) : ((l ++ m).flatMap tokV).take (l.length * 3) = l.flatMap tokV := by
  rw [List.flatMap_append, List.take_append_of_le_length (by rw [toksV_len]; exact Nat.le_refl _), List.take_of_length_le (by rw [toksV_len]; exact Nat.le_refl _)]
theorem Gv_tl {b : Nat} {l : List Tok} : Gv (tl b l :: L) (some ⟨b, 0, none⟩) (l.flatMap tokV) := fun h H =>
  H.ptrd (by rw [List.drop_zero, toksV_len, tl_take])
theorem lent_hs {a : OA} {n c : Nat} {l : List Tok} (hr : Gv L a (l.flatMap tokV)) (hn : l.length = n) (hmax : n ≤ 1048576) (hn0 : a = none → n = 0) (H : Hs h L)
    (k : ∀ h' b, Hs h' (tl b l :: L) → Q (.slice (some ⟨b, 0, none⟩) n (n + 1)) h') : SpecH PP F_law06_lent [.slice a n c] h Q := by
  refine law06_lent.door ?_
  dsimp only
  rw [show IntKind.i64.wrap ((n : Int) + 1) = ((n + 1 : Nat) : Int) by rw [wrapI (by omega) (by omega)]; omega]
  refine H.makes tokV (⟨0, 0, 0⟩ : Tok) E_sl_api_Token tokV_len (by omega) rfl rfl (Nat.le_refl _) (by omega) (by omega) fun h1 b H1 => ⟨_, _, _, rfl, ?_⟩
  refine H1.copy (off := 0) (ys := l.flatMap tokV) E_sl_api_Token (by rw [toksV_len, toksV_len, List.length_replicate]; omega) (hr _ H1.tl) hn0 (by rw [toksV_len, hn, Nat.min_eq_left (by omega)]) (toksV_one _) fun h2 H2 => ⟨_, rfl, ?_⟩
  have e1 : ((List.replicate (n + 1) (⟨0, 0, 0⟩ : Tok)).flatMap tokV).take 0 ++ l.flatMap tokV ++ ((List.replicate (n + 1) (⟨0, 0, 0⟩ : Tok)).flatMap tokV).drop (0 + (l.flatMap tokV).length) = l.flatMap tokV ++ tokV ⟨0, 0, 0⟩ := by
    rw [List.take_zero, List.nil_append, toksV_len, hn]
    congr 1
    rw [show n + 1 = n + 1 from rfl, ← List.replicate_append_replicate, List.flatMap_append, List.drop_append, toksV_len, List.length_replicate, List.drop_of_length_le (by rw [toksV_len, List.length_replicate]; omega)]
    rw [show 0 + n * 3 - n * 3 = 0 by omega]; rfl
  rw [e1] at H2
  refine hwp_index E_sl_api_Token (by omega) (by omega) ⟨_, rfl, ?_⟩
  rw [Int.toNat_natCast, add_mk, add_mk]
  refine H2.sto (off := 0 + n * 3 + 1) (by rw [List.length_append, toksV_len]; simp [tokV]; omega) fun h4 H4 => ?_
  have e2 : (l.flatMap tokV ++ tokV ⟨0, 0, 0⟩).set (0 + n * 3 + 1) (.int .i64 (-7)) = (l ++ [mark]).flatMap tokV := by
    rw [List.set_append_right _ _ (by rw [toksV_len]; omega), toksV_len, show 0 + n * 3 + 1 - l.length * 3 = 1 by omega, List.flatMap_append]
    rfl
  rw [e2] at H4
  exact slice_pre E_sl_api_Token (by omega) ⟨_, _, _, rfl, k h4 b H4⟩
theorem back_hs {a : OA} {b n c : Nat} {l : List Tok} (hr : Gv L a (l.flatMap tokV)) (hn : l.length = n) (hmax : n ≤ 1048576) (H : Hs h (tl b l :: L)) (k : ∀ h', Hs h' L → Q (.bool true) h') :
    SpecH PP F_law06_back [.slice (some ⟨b, 0, none⟩) n (n + 1), .slice a n c] h Q := by
  refine law06_back.door ?_
  dsimp only
  rw [show IntKind.i64.wrap ((n : Int) + 1) = ((n + 1 : Nat) : Int) by rw [wrapI (by omega) (by omega)]; omega]
  refine slice_pre E_sl_api_Token (Nat.le_refl _) ⟨_, _, _, rfl, ?_⟩
  have g : Rd h (some ⟨b, 0, none⟩) ((l ++ [mark]).flatMap tokV) := H.ptrd (by rw [List.drop_zero, List.take_length])
  refine idxf E_sl_api_Token (φ := tokV) (l := l ++ [mark]) (x := mark) g tokV_len (by omega) (by omega) (by omega) (by rw [Int.toNat_natCast, List.getElem?_append_right (by omega), hn, Nat.sub_self]; rfl) fun t ht => ⟨_, _, _, ht, br_true (by simp [mark]) ?_⟩
  refine TSame_hs Gv_tl hr.cons hn (by omega) H ⟨_, rfl, law06_back.J1_of ?_⟩
  have go : ∀ (r i : Nat) {h : Heap} {m : List Tok}, r + i = n + 1 → m.length = n + 1 → Hs h (own (some ⟨b, 0, none⟩) (n + 1) (n + 1) T_api_Token 3 (m.flatMap tokV) :: L) → law06_back.L1 (some ⟨b, 0, none⟩) (n + 1) (n + 1) true i (law06_back.K1 Q) h := by
    intro r
    induction r with
    | zero => intro i h m hi hm H; exact law06_back.L1_of (br_false (decide_eq_false (by omega)) (law06_back.L1_X0 (k h H.tl)))
    | succ r ih =>
      intro i h m hi hm H
      refine law06_back.L1_of (br_true (decide_eq_true (by omega)) ?_)
      refine H.idx_wrf (⟨0, 77, 0⟩ : Tok) E_sl_api_Token (by omega) (by omega) tokV_len (by omega) (tokV_one _) fun h2 H2 => ?_
      dsimp only
      rw [show IntKind.i64.wrap ((i : Int) + 1) = ((i + 1 : Nat) : Int) by rw [wrapI (by omega) (by omega)]; omega]
      exact ih (i + 1) (by omega) (by rw [List.length_set]; exact hm) H2
  refine go (n + 1) 0 (m := l ++ [mark]) (by omega) (by simp [hn]) (H.pt_own 0 ?_ ?_ (Nat.le_refl _) ?_)
  · rw [List.drop_zero, List.take_of_length_le (by rw [toksV_len]; simp; omega)]
  · rw [toksV_len]; simp; omega
  · rw [toksV_len]; simp; omega
end Go.Proofs.Ytaolpeimlkpkbaa
