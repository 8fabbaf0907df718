/- The book at work on a fixed case. -/
import Derived.Test.YtladdcnfdbmnlaaQStep
set_option linter.unusedVariables false
set_option linter.unusedSimpArgs false
namespace Go.Proofs.Ytladdcnfdbmnlaa
open Go Go.HW
variable {h : Heap} {L : List Assn} {Q : Value → Heap → Prop}
def ts0 : List Ten := [⟨⟨#[97]⟩, ⟨#[]⟩, 10, 2⟩, ⟨⟨#[98]⟩, ⟨#[]⟩, 5, 5⟩]
def s0 : QS := q0 ts0
def s1 : QS := s0.res 0 6 1
def s2 : QS := s1.take 1 ⟨1, 0, 6, 1⟩
theorem awake_spec (H : Hs h L) (kk : ∀ h', Hs h' L → Q (.bool true) h') : SpecH PP F_law17_awake [] h Q := by
  refine law17_awake_door ?_
  unfold law17_awake_main
  have H1 := H.new (t := T_api_Tenant) (cs := #[.string ⟨#[97]⟩, .string ⟨#[]⟩, .int .i64 10, .int .i64 2, .string ⟨#[98]⟩, .string ⟨#[]⟩, .int .i64 5, .int .i64 5]) (xs := [.string ⟨#[97]⟩, .string ⟨#[]⟩, .int .i64 10, .int .i64 2, .string ⟨#[98]⟩, .string ⟨#[]⟩, .int .i64 5, .int .i64 5])
  have e0 : chk ts0 = 0 := by decide +kernel
  have hr : Gv (pt h.size T_api_Tenant [.string ⟨#[97]⟩, .string ⟨#[]⟩, .int .i64 10, .int .i64 2, .string ⟨#[98]⟩, .string ⟨#[]⟩, .int .i64 5, .int .i64 5] :: L) (some ⟨h.size, 0, none⟩) (ts0.flatMap tenV) := fun h' H' => H'.ptrd rfl
  refine New_spec hr rfl (by decide) (by decide +kernel) H1 (fun e => absurd e0 e) fun _ h2 p blks H2 => ⟨_, _, rfl, br_false rfl ?_⟩
  refine law17_awake_J1101_of (br_false rfl ?_)
  have f0 : fnd s0.ts ⟨#[97]⟩ = some 0 := by decide +kernel
  have f1 : fnd s1.ts ⟨#[97]⟩ = some 0 := by decide +kernel
  have f2 : fnd s2.ts ⟨#[97]⟩ = some 0 := by decide +kernel
  have f3 : fnd s2.ts ⟨#[99]⟩ = none := by decide +kernel
  have l0 : pos 6 ≤ (s0.left 0).1 ∧ pos 1 ≤ (s0.left 0).2 := by decide +kernel
  have l1 : ¬ (pos 6 ≤ (s1.left 0).1 ∧ pos 0 ≤ (s1.left 0).2) := by decide +kernel
  have l2 : s1.left 0 = (4, 1) := by decide +kernel
  have u2 : s2.use 0 = (6, 1) := by decide +kernel
  have d1 : fdH s1.hd 1 = some ⟨1, 0, 6, 1⟩ := rfl
  have d2 : fdH s2.hd 1 = none := rfl
  have b0 : (-1000000000 : Int) ≤ 6 ∧ (6 : Int) ≤ 1000000000 ∧ (-1000000000 : Int) ≤ 1 ∧ (1 : Int) ≤ 1000000000 := by decide
  have b1 : (-1000000000 : Int) ≤ 6 ∧ (6 : Int) ≤ 1000000000 ∧ (-1000000000 : Int) ≤ 0 ∧ (0 : Int) ≤ 1000000000 := by decide
  refine Reserve_spec (s := s0) H2 (by decide) (fun _ _ e => by rw [f0] at e; cases e) (fun _ k _ e hb => absurd b0 hb) (fun _ k _ e _ hl => by rw [f0] at e; cases e; exact absurd l0 hl) (fun h3 k H3 e _ _ => ?_)
  rw [f0] at e; cases e
  refine ⟨_, _, rfl, ?_⟩
  refine Reserve_spec (s := s1) H3 (by decide) (fun _ _ e => by rw [f1] at e; cases e) (fun _ k _ e hb => absurd b1 hb) (fun h4 k H4 e _ hl => ?_) (fun h4 k H4 e _ hl => by rw [f1] at e; cases e; exact absurd hl l1)
  refine ⟨_, _, rfl, Left_spec H4 fun h5 H5 => ?_⟩
  rw [f1]
  refine ⟨_, _, _, rfl, ?_⟩
  refine (H5.new (t := T_api_Use) (cs := #[.int .i64 0, .int .i64 0]) (xs := [.int .i64 0, .int .i64 0])).wrs fun h6 H6 => Take_spec H6.m1 (fun _ _ e => by rw [d1] at e; cases e) fun h7 x H7 e => ⟨_, rfl, ?_⟩
  rw [d1] at e; cases e
  refine Use_spec (s := s2) H7 fun h8 H8 => ?_
  rw [f2]
  refine ⟨_, _, _, rfl, ?_⟩
  refine (H8.new (t := T_api_Use) (cs := #[.int .i64 0, .int .i64 0]) (xs := [.int .i64 0, .int .i64 0])).wrs fun h9 H9 => Take_spec (s := s2) H9.m1 (fun h10 H10 _ => ⟨_, rfl, Use_spec (s := s2) H10 fun h11 H11 => ?_⟩) fun _ _ _ e => by rw [d2] at e; cases e
  rw [f3]
  refine ⟨_, _, _, rfl, ?_⟩
  refine (H11.new (t := T_api_Use) (cs := #[.int .i64 0, .int .i64 0]) (xs := [.int .i64 0, .int .i64 0])).wrs fun h12 H12 => ?_
  refine br_true rfl (br_true rfl (br_true rfl (br_true rfl ⟨_, _, (H12.m3).rdc0, br_true ?_ (br_true rfl (br_true rfl ⟨_, _, (H12.m2).rdc0, br_true ?_ (br_true rfl (kk _ ?_))⟩))⟩)))
  · rw [l2]; rfl
  · rw [u2]; rfl
  · exact H12.tl.tl.tl.tl.tl
end Go.Proofs.Ytladdcnfdbmnlaa
