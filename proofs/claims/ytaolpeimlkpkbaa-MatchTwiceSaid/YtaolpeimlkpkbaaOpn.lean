/- Arguments opened to tokens. -/
import Derived.Test.YtaolpeimlkpkbaaLaws4
import Derived.Test.YtaolpeimlkpkbaaHwOpen
set_option linter.unusedVariables false
namespace Go.Proofs.Ytaolpeimlkpkbaa
open Go Go.HW
theorem open_tok {W : World} {ecs : List Value} (hl : ecs.length = 3) (g : Dat PP W T_api_Token ecs) : ∃ x, ecs = tokV x ∧ TokWf x := by
  match ecs, hl with
  | [a, b, c], _ =>
    have f := g.fields
    rw [FL_api_Token] at f
    obtain ⟨n, e1, h1⟩ := (f (T_uint8, 0, 1) (by simp)).u8 U_uint8
    obtain ⟨m, e2, h2⟩ := (f (T_int, 1, 1) (by simp)).i64 U_int
    obtain ⟨k, e3, h3⟩ := (f (T_int, 2, 1) (by simp)).i64 U_int
    cases e1; cases e2; cases e3
    exact ⟨⟨n, m, k⟩, rfl, h1, h2, h3⟩
end Go.Proofs.Ytaolpeimlkpkbaa
