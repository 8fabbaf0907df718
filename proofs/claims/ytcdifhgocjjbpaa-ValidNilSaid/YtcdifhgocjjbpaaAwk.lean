/- The law's key and commit. -/
import Derived.Test.YtcdifhgocjjbpaaKeep
set_option maxRecDepth 20000
set_option linter.unusedVariables false
set_option linter.unusedSimpArgs false
namespace Go.Proofs.Ytcdifhgocjjbpaa
open Go Go.HW
variable {h : Heap} {L : List Assn} {Q : Value → Heap → Prop}
theorem key_hs {a e : ByteArray} (H : Hs h L) (k : ∀ h', Hs h' L → Q (keyA ⟨⟨#[116]⟩, a, e⟩) h') : SpecH PP F_law13_key [.string a, .string e] h Q := by
  refine law13_key.door ?_
  refine Hs.wrs (xs := [.string ⟨#[]⟩, .string ⟨#[]⟩, .string ⟨#[]⟩]) H.new (fun h2 H2 => ⟨_, _, _, H2.rdc0, k h2 H2.tl⟩)
/-- A commit of one write, in a block of its own. -/
theorem commit_hs {a : Int} {k : Key} (H : Hs h L) (kk : ∀ h' b, Hs h' (pt b T_api_Write (wrV ⟨k, true, ⟨#[]⟩⟩) :: L) → Q (.agg (cmV ⟨a, some ⟨b, 0, none⟩, 1, 1, [⟨k, true, ⟨#[]⟩⟩]⟩).toArray) h') : SpecH PP F_law13_commit [.int .i64 a, keyA k] h Q := by
  refine law13_commit.door ?_
  dsimp only
  have H1 := H.new (t := T_api_Key) (cs := (keyV k).toArray) (xs := keyV k)
  have H2 := H1.new (t := T_api_Commit) (cs := #[.int .i64 0, .slice none 0 0]) (xs := [.int .i64 0, .slice none 0 0])
  refine ⟨_, _, _, H2.m1.rdc0, ?_⟩
  have H3 := H2.new (t := T_api_Write) (cs := (wrV ⟨k, true, ⟨#[]⟩⟩).toArray) (xs := wrV ⟨k, true, ⟨#[]⟩⟩)
  refine H3.m1.wrs (fun h4 H4 => ⟨_, _, _, _, H4.rdc0, ?_⟩)
  exact kk h4 _ (H4.tl.m1.tl)
theorem commit_ok {a : Int} {b : Nat} {k : Key} : CmOk (pt b T_api_Write (wrV ⟨k, true, ⟨#[]⟩⟩) :: L) ⟨a, some ⟨b, 0, none⟩, 1, 1, [⟨k, true, ⟨#[]⟩⟩]⟩ := ⟨fun h H => H.ptrd (by simp), rfl, by show 1 < 2 ^ 60; decide⟩
end Go.Proofs.Ytcdifhgocjjbpaa
