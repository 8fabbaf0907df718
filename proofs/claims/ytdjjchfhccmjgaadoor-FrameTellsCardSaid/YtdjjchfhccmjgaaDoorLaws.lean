/- The laws of frames: Nil. -/
import Derived.Test.YtdjjchfhccmjgaaDoorAwake
import Derived.Test.YtdjjchfhccmjgaaDoorHwOpen
set_option linter.unusedVariables false
set_option linter.unusedSimpArgs false
namespace Go.Proofs.YtdjjchfhccmjgaaDoor
open Go Go.HW
variable {h : Heap} {L : List Assn} {Q : Value → Heap → Prop}
theorem FrameNil_spec {a : Option Addr} {n c : Nat} (tab : Tab h) (HQ : ∀ h', ExtB h.size h h' → Q (.bool true) h') : SpecH PP F_law18_FrameNil [.slice a n c] h Q := by
  refine law18_FrameNil_door ?_
  unfold law18_FrameNil_main
  have H0 := Hs.start h
  have t : TabL [ro h] := TabL.ro tab
  refine (br_iff _ _ _).2 ⟨fun _ => awake_spec t H0 fun h2 H2 => ⟨_, rfl, HQ _ H2.ro_below⟩, fun _ => ?_⟩
  exact Feed_nil ⟨_, _, _, _, rfl, awake_spec t H0 fun h2 H2 => ⟨_, rfl, br_true rfl (br_true rfl (br_true rfl (Wants_nil ⟨_, rfl, br_true rfl (Wrong_nil ⟨_, rfl, HQ _ H2.ro_below⟩)⟩)))⟩⟩
end Go.Proofs.YtdjjchfhccmjgaaDoor
