/- Arguments opened: keys, commits, calls. -/
import Derived.Test.YtcdifhgocjjbpaaLaws5
import Derived.Test.YtcdifhgocjjbpaaHwOpen
set_option linter.unusedVariables false
namespace Go.Proofs.Ytcdifhgocjjbpaa
open Go Go.HW
theorem open_key {W : World} {ecs : List Value} (hl : ecs.length = 3) (g : Dat PP W T_api_Key ecs) : ∃ x, ecs = keyV x ∧ True := by
  match ecs, hl with
  | [a, b, c], _ =>
    have f := g.fields
    rw [FL_api_Key] at f
    obtain ⟨s, e1, _⟩ := (f (T_string, 0, 1) (by simp)).str U_string
    obtain ⟨t, e2, _⟩ := (f (T_string, 1, 1) (by simp)).str U_string
    obtain ⟨u, e3, _⟩ := (f (T_string, 2, 1) (by simp)).str U_string
    cases e1; cases e2; cases e3
    exact ⟨⟨s, t, u⟩, rfl, trivial⟩
theorem open_box {W : World} {ecs : List Value} (hl : ecs.length = 2) (g : Dat PP W T_api_Box ecs) : ∃ x, ecs = bxV x ∧ True := by
  match ecs, hl with
  | [a, b], _ =>
    have f := g.fields
    rw [FL_api_Box] at f
    obtain ⟨s, e1, _⟩ := (f (T_string, 0, 1) (by simp)).str U_string
    obtain ⟨t, e2, _⟩ := (f (T_string, 1, 1) (by simp)).str U_string
    cases e1; cases e2
    exact ⟨⟨s, t⟩, rfl, trivial⟩
theorem open_wr {W : World} {ecs : List Value} (hl : ecs.length = 5) (g : Dat PP W T_api_Write ecs) : ∃ x, ecs = wrV x := by
  match ecs, hl with
  | [a, b, c, d, e], _ =>
    have f := g.fields
    rw [FL_api_Write] at f
    obtain ⟨k, e1, _⟩ := open_key (by rfl) (f (T_api_Key, 0, 3) (by simp))
    obtain ⟨t, e2⟩ := (f (T_bool, 3, 1) (by simp)).bool U_bool
    obtain ⟨u, e3, _⟩ := (f (T_string, 4, 1) (by simp)).str U_string
    cases e1; cases e2; cases e3
    exact ⟨⟨k, t, u⟩, rfl⟩
def CmWf (h : Heap) (x : Cm) : Prop := Rd h x.a (x.ws.flatMap wrV) ∧ x.ws.length = x.n ∧ x.n < 2 ^ 60
theorem open_cm {W : World} {ecs : List Value} (hl : ecs.length = 2) (g : Dat PP W T_api_Commit ecs) : ∃ x, ecs = cmV x ∧ CmWf W.heap x := by
  match ecs, hl with
  | [a, b], _ =>
    have f := g.fields
    rw [FL_api_Commit] at f
    obtain ⟨n, e1, _⟩ := (f (T_int, 0, 1) (by simp)).i64 U_int
    obtain ⟨ad, m, c, l, e2, hr, hn, _, _, _, hs, _⟩ := (f (T_sl_api_Write, 1, 1) (by simp)).rows wrV (fun _ => True) (sz := 5) (e := T_api_Write) U_sl_api_Write C_api_Write wrV_len (fun ecs hl g => by obtain ⟨x, e⟩ := open_wr hl g; exact ⟨x, e, trivial⟩)
    rw [show PP.bytesOf T_api_Write = 72 by kernel_rfl] at hs
    cases e1; cases e2
    exact ⟨⟨n, ad, m, c, l⟩, rfl, hr, hn, by show m < 2 ^ 60; omega⟩
theorem open_op {W : World} {ecs : List Value} (hl : ecs.length = 8) (g : Dat PP W T_haversacklaw13_Op ecs) : ∃ x, ecs = opV x ∧ OpWf W.heap x := by
  match ecs, hl with
  | [a, b, c, d, e, f1, f2, f3], _ =>
    have f := g.fields
    rw [FL_haversacklaw13_Op] at f
    obtain ⟨n, e1, _⟩ := (f (T_int, 0, 1) (by simp)).i64 U_int
    obtain ⟨k, e2, _⟩ := open_key (by rfl) (f (T_api_Key, 1, 3) (by simp))
    obtain ⟨bx, e3, _⟩ := open_box (by rfl) (f (T_api_Box, 4, 2) (by simp))
    obtain ⟨u, e4, _⟩ := (f (T_string, 6, 1) (by simp)).str U_string
    obtain ⟨ad, m, c, l, e5, hr, hn, _, _, _, hs, hw⟩ := (f (T_sl_api_Commit, 7, 1) (by simp)).rows cmV (CmWf W.heap) (sz := 2) (e := T_api_Commit) U_sl_api_Commit C_api_Commit cmV_len (fun ecs hl g => open_cm hl g)
    rw [show PP.bytesOf T_api_Commit = 32 by kernel_rfl] at hs
    cases e1; cases e2; cases e3; cases e4; cases e5
    exact ⟨⟨n, k, bx, u, ad, m, c, l⟩, rfl, hr, hn, by show m < 2 ^ 60; omega, hw⟩
end Go.Proofs.Ytcdifhgocjjbpaa
