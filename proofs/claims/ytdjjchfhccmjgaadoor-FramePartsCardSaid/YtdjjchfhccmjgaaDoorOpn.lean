/- Frames as arguments. -/
import Derived.Test.YtdjjchfhccmjgaaDoorFeeds
import Derived.Test.YtdjjchfhccmjgaaDoorTells
set_option linter.unusedVariables false
set_option linter.unusedSimpArgs false
namespace Go.Proofs.YtdjjchfhccmjgaaDoor
open Go Go.HW
theorem open_fm {W : World} {ecs : List Value} (hl : ecs.length = 2) (g : Dat PP W T_api_Frame ecs) : ∃ x, ecs = frV x ∧ True := by
  match ecs, hl with
  | [a, b], _ =>
    have f := g.fields
    rw [FL_api_Frame] at f
    obtain ⟨k, e1, _⟩ := (f (T_int, 0, 1) (by simp)).i64 U_int
    obtain ⟨v, e2, _⟩ := (f (T_string, 1, 1) (by simp)).str U_string
    simp at e1 e2
    exact ⟨⟨k, v⟩, by rw [e1, e2]; rfl, trivial⟩
end Go.Proofs.YtdjjchfhccmjgaaDoor
