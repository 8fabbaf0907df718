/- The ref's comparison of frames. -/
import Derived.Test.YtdjjchfhccmjgaaDoorRead
set_option linter.unusedVariables false
set_option linter.unusedSimpArgs false
namespace Go.Proofs.YtdjjchfhccmjgaaDoor
open Go Go.HW
variable {h : Heap} {L : List Assn} {Q : Value → Heap → Prop}
/-- Alike rows of frames are told to be alike. -/
theorem same_loop {a b : Option Addr} {n c d : Nat} {l : List Fm} {K : Ex → Fr → Heap → Prop} (ha : Rd h a (l.flatMap frV)) (hb : Rd h b (l.flatMap frV)) (hn : l.length = n) (hmax : n < 2 ^ 62) (kk : K (.exit 0) ref18_Same_X0 h) :
    ∀ (k i : Nat), i + k = n → ref18_Same_L11010 a n c b n d i K h := by
  intro k
  induction k with
  | zero => intro i hi; exact ref18_Same_L11010_of (br_false (decide_eq_false (by omega)) kk)
  | succ k ih =>
    intro i hi
    refine ref18_Same_L11010_of (br_true (decide_eq_true (by omega)) ?_)
    refine idxf E_sl_api_Frame (l := l) (φ := frV) (x := l[i]) ha (fun _ => rfl) (by omega) (by omega) (by omega) (by simp) fun t ht => ⟨_, _, ht, ?_⟩
    refine idxf E_sl_api_Frame (l := l) (φ := frV) (x := l[i]) hb (fun _ => rfl) (by omega) (by omega) (by omega) (by simp) fun t ht => ⟨_, _, ht, br_false (by simp) ?_⟩
    simp only [inc (show i < 2 ^ 62 by omega)]
    exact ih (i + 1) (by omega)
theorem Same_spec {a b : Option Addr} {n c d : Nat} {l : List Fm} (ha : Rd h a (l.flatMap frV)) (hb : Rd h b (l.flatMap frV)) (hn : l.length = n) (hmax : n < 2 ^ 62) (kk : Q (.bool true) h) : SpecH PP F_ref18_Same [.slice a n c, .slice b n d] h Q := by
  refine ref18_Same_door ?_
  unfold ref18_Same_main
  refine br_false (by simp) ?_
  refine same_loop ha hb hn hmax ?_ n 0 (by omega)
  rw [ref18_Same_at11010_X0]; exact kk
end Go.Proofs.YtdjjchfhccmjgaaDoor
