/- Rows of writes that are the same. -/
import Derived.Test.YtcdifhgocjjbpaaLink2
set_option maxRecDepth 20000
set_option linter.unusedVariables false
set_option linter.unusedSimpArgs false
namespace Go.Proofs.Ytcdifhgocjjbpaa
open Go Go.HW
variable {h : Heap} {L : List Assn} {Q : Value → Heap → Prop}
theorem KWrites_hs {a b : OA} {n c d : Nat} {l : List Wr} (ha : Gv L a (l.flatMap wrV)) (hb : Gv L b (l.flatMap wrV)) (hn : l.length = n) (hmax : n < 2 ^ 62) (H : Hs h L) (k : Q (.bool true) h) : SpecH PP F_keep_Writes [.slice a n c, .slice b n d] h Q := by
  refine keep_Writes.door (br_false (by simp) ?_)
  have go : ∀ (r i : Nat), r + i = n → keep_Writes.L1 a n c b n d i (keep_Writes.K1 Q) h := by
    intro r
    induction r with
    | zero => intro i hi; exact keep_Writes.L1_of (br_false (decide_eq_false (by omega)) (keep_Writes.L1_X0 k))
    | succ r ih =>
      intro i hi
      refine keep_Writes.L1_of (br_true (decide_eq_true (by omega)) ?_)
      refine idxf E_sl_api_Write (φ := wrV) (l := l) (x := l[i]) (ha _ H) wrV_len (by decide) (by omega) (by omega) (by simp) fun t ht => ⟨_, _, _, _, _, ht, ?_⟩
      refine idxf E_sl_api_Write (φ := wrV) (l := l) (x := l[i]) (hb _ H) wrV_len (by decide) (by omega) (by omega) (by simp) fun t ht => ⟨_, _, _, _, _, ht, br_false (by simp) ?_⟩
      dsimp only
      rw [i1 (i := i) (by omega)]
      exact ih (i + 1) (by omega)
  exact go n 0 (by omega)
end Go.Proofs.Ytcdifhgocjjbpaa
