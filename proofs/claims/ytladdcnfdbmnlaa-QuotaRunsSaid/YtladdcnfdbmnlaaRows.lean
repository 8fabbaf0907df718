/-
  No cell of these rows narrows 'for every input' (looked for: loops, veiled, ifaces, maps, wideKeys, modest, calm, conditions, laid).
  DERIVED. THE GIVEN ROWS OF THIS SEAT. 5 by the template 'for every input the law returns true; each argument reads behind the call as it read before'; 0 by the template 'total and deterministic' (their statements: YtladdcnfdbmnlaaTotals.lean).
  GIVEN WITH THE SEED: the statements are not yours to turn. If you find one false, say at which input.
  Laid BY PROGRAM, IN A SANDBOX (cutbox-rows.mjs): the forced cells as the released guide's own fill.sh prints them over the translation 55db15e01f2f9f8e… (all of the seat's roots in one cut). By AI agents, Wed Nov 11 2026. No macro, syntax, notation, axiom, sorry.
-/
import Derived.Test.YtladdcnfdbmnlaaChecked
import GoSem.Claim
import GoSem.ClaimJoined
import GoSem.ClaimMapViews
import Derived.JoinedTies
import Derived.KernelRfl
namespace Go.Proofs.Ytladdcnfdbmnlaa
/- THE CELL 'sum', in the pinned program and in every row, IS THE sha256 OF THE DUMP (.gsa) THAT YtladdcnfdbmnlaaProg.lean LOADS. Nothing in Lean hashes anything: it is a label: what it is worth is what the hold of that sum in a sandbox is worth. -/
noncomputable def Try.pinned : Pinned := { name := "ytladdcnfdbmnlaa", sum := "55db15e01f2f9f8ef59a9c6dbd3642bc0493674201f7917fa62d714e7980e73a", checked := Try.checked }
namespace Rows
def none {H : Type} : Left H := { results := [], args := [] }

/-- 'haversacklaw17.QuotaNew': WHATEVER THE INPUT: true; the input reads as it did. -/
def quotaNewSpec : ChangeSpec := { name := "quotaNew", fn := fun _ => fun
  | [d] => { results := [.lit (.bool true)], args := [d] }
  | _ => none }
def quotaNewRow : OpenClaim := { program := "ytladdcnfdbmnlaa", sum := "55db15e01f2f9f8ef59a9c6dbd3642bc0493674201f7917fa62d714e7980e73a", func := "haversack/haversacklaw17.QuotaNew", spec := "quotaNew", apart := false }
def QuotaNewSaid : Prop := quotaNewRow.holds Try.pinned (OpenSpec.ofChange quotaNewSpec)

/-- ITS FALSE NEIGHBOUR: 'it returns false'. Refute it at one input. -/
def quotaNewWrong : ChangeSpec := { name := "quotaNew", fn := fun _ => fun
  | [d] => { results := [.lit (.bool false)], args := [d] }
  | _ => none }
def QuotaNewWrongFalsely : Prop := quotaNewRow.holds Try.pinned (OpenSpec.ofChange quotaNewWrong)

/-- 'haversacklaw17.QuotaWithin': WHATEVER THE INPUT: true; the input reads as it did. -/
def quotaWithinSpec : ChangeSpec := { name := "quotaWithin", fn := fun _ => fun
  | [d1, d2] => { results := [.lit (.bool true)], args := [d1, d2] }
  | _ => none }
def quotaWithinRow : OpenClaim := { program := "ytladdcnfdbmnlaa", sum := "55db15e01f2f9f8ef59a9c6dbd3642bc0493674201f7917fa62d714e7980e73a", func := "haversack/haversacklaw17.QuotaWithin", spec := "quotaWithin", apart := false }
def QuotaWithinSaid : Prop := quotaWithinRow.holds Try.pinned (OpenSpec.ofChange quotaWithinSpec)

/-- ITS FALSE NEIGHBOUR: 'it returns false'. Refute it at one input. -/
def quotaWithinWrong : ChangeSpec := { name := "quotaWithin", fn := fun _ => fun
  | [d1, d2] => { results := [.lit (.bool false)], args := [d1, d2] }
  | _ => none }
def QuotaWithinWrongFalsely : Prop := quotaWithinRow.holds Try.pinned (OpenSpec.ofChange quotaWithinWrong)

/-- 'haversacklaw17.QuotaRuns': WHATEVER THE INPUT: true; the input reads as it did. -/
def quotaRunsSpec : ChangeSpec := { name := "quotaRuns", fn := fun _ => fun
  | [d1, d2] => { results := [.lit (.bool true)], args := [d1, d2] }
  | _ => none }
def quotaRunsRow : OpenClaim := { program := "ytladdcnfdbmnlaa", sum := "55db15e01f2f9f8ef59a9c6dbd3642bc0493674201f7917fa62d714e7980e73a", func := "haversack/haversacklaw17.QuotaRuns", spec := "quotaRuns", apart := false }
def QuotaRunsSaid : Prop := quotaRunsRow.holds Try.pinned (OpenSpec.ofChange quotaRunsSpec)

/-- ITS FALSE NEIGHBOUR: 'it returns false'. Refute it at one input. -/
def quotaRunsWrong : ChangeSpec := { name := "quotaRuns", fn := fun _ => fun
  | [d1, d2] => { results := [.lit (.bool false)], args := [d1, d2] }
  | _ => none }
def QuotaRunsWrongFalsely : Prop := quotaRunsRow.holds Try.pinned (OpenSpec.ofChange quotaRunsWrong)

/-- 'haversacklaw17.QuotaFrees': WHATEVER THE INPUT: true; the input reads as it did. -/
def quotaFreesSpec : ChangeSpec := { name := "quotaFrees", fn := fun _ => fun
  | [d1, d2, d3, d4] => { results := [.lit (.bool true)], args := [d1, d2, d3, d4] }
  | _ => none }
def quotaFreesRow : OpenClaim := { program := "ytladdcnfdbmnlaa", sum := "55db15e01f2f9f8ef59a9c6dbd3642bc0493674201f7917fa62d714e7980e73a", func := "haversack/haversacklaw17.QuotaFrees", spec := "quotaFrees", apart := false }
def QuotaFreesSaid : Prop := quotaFreesRow.holds Try.pinned (OpenSpec.ofChange quotaFreesSpec)

/-- ITS FALSE NEIGHBOUR: 'it returns false'. Refute it at one input. -/
def quotaFreesWrong : ChangeSpec := { name := "quotaFrees", fn := fun _ => fun
  | [d1, d2, d3, d4] => { results := [.lit (.bool false)], args := [d1, d2, d3, d4] }
  | _ => none }
def QuotaFreesWrongFalsely : Prop := quotaFreesRow.holds Try.pinned (OpenSpec.ofChange quotaFreesWrong)

/-- 'haversacklaw17.QuotaNil': WHATEVER THE INPUT: true; the input reads as it did. -/
def quotaNilSpec : ChangeSpec := { name := "quotaNil", fn := fun _ => fun
  | [d1, d2, d3] => { results := [.lit (.bool true)], args := [d1, d2, d3] }
  | _ => none }
def quotaNilRow : OpenClaim := { program := "ytladdcnfdbmnlaa", sum := "55db15e01f2f9f8ef59a9c6dbd3642bc0493674201f7917fa62d714e7980e73a", func := "haversack/haversacklaw17.QuotaNil", spec := "quotaNil", apart := false }
def QuotaNilSaid : Prop := quotaNilRow.holds Try.pinned (OpenSpec.ofChange quotaNilSpec)

/-- ITS FALSE NEIGHBOUR: 'it returns false'. Refute it at one input. -/
def quotaNilWrong : ChangeSpec := { name := "quotaNil", fn := fun _ => fun
  | [d1, d2, d3] => { results := [.lit (.bool false)], args := [d1, d2, d3] }
  | _ => none }
def QuotaNilWrongFalsely : Prop := quotaNilRow.holds Try.pinned (OpenSpec.ofChange quotaNilWrong)

/- THE SECOND FORM. 'bulk': how many values and letters a reading holds, each counted each time it is reached (what is shared counts as often as it is met; a slice's spare places count too). A statement '..UptoSaid' is the law's where the arguments, and the package variables that the reading takes, are together of bulk at most 1048576: NARROWER than '..Said'. Prove '..Said' where nothing that the law and all that it calls make is longer than what came in: it says more and counts as full. Else prove '..UptoSaid'. A law counts once. -/
mutual
def uptoBulk {H : Type} : DataW H → Nat
  | .lit (.string bytes) => bytes.length + 1
  | .lit _ => 1
  | .nil => 1
  | .ptr d => uptoBulk d + 1
  | .slice elems spare => uptoBulkAll elems + uptoBulkAll spare + 1
  | .agg parts => uptoBulkAll parts + 1
  | .iface _ d => uptoBulk d + 1
  | .map entries => uptoBulkEntries entries + 1
  | .held _ => 1
def uptoBulkAll {H : Type} : List (DataW H) → Nat
  | [] => 0
  | d :: r => uptoBulk d + uptoBulkAll r
def uptoBulkEntries {H : Type} : List (Lit × DataW H) → Nat
  | [] => 0
  | x :: r => uptoBulkEntry x + uptoBulkEntries r
def uptoBulkEntry {H : Type} : Lit × DataW H → Nat
  | (.string bytes, d) => bytes.length + uptoBulk d + 1
  | (_, d) => uptoBulk d + 1
 end
def uptoSmall : (H : Type) → List (DataW H) → Bool := fun _ ds => decide (uptoBulkAll ds ≤ 1048576)
def OpenSpec.upto (s : _root_.Go.ChangeSpec) : _root_.Go.OpenSpec := { _root_.Go.OpenSpec.ofChange s with cond := some uptoSmall }

/-- 'haversacklaw17.QuotaNew', WHERE WHAT IT READS IS OF BULK AT MOST 1048576: true; the input reads as it did. -/
def quotaNewUptoRow : OpenClaim := { program := "ytladdcnfdbmnlaa", sum := "55db15e01f2f9f8ef59a9c6dbd3642bc0493674201f7917fa62d714e7980e73a", func := "haversack/haversacklaw17.QuotaNew", spec := "quotaNew", apart := false, narrowed := true }
def QuotaNewUptoSaid : Prop := quotaNewUptoRow.holds Try.pinned (OpenSpec.upto quotaNewSpec)

/-- 'haversacklaw17.QuotaWithin', WHERE WHAT IT READS IS OF BULK AT MOST 1048576: true; the input reads as it did. -/
def quotaWithinUptoRow : OpenClaim := { program := "ytladdcnfdbmnlaa", sum := "55db15e01f2f9f8ef59a9c6dbd3642bc0493674201f7917fa62d714e7980e73a", func := "haversack/haversacklaw17.QuotaWithin", spec := "quotaWithin", apart := false, narrowed := true }
def QuotaWithinUptoSaid : Prop := quotaWithinUptoRow.holds Try.pinned (OpenSpec.upto quotaWithinSpec)

/-- 'haversacklaw17.QuotaRuns', WHERE WHAT IT READS IS OF BULK AT MOST 1048576: true; the input reads as it did. -/
def quotaRunsUptoRow : OpenClaim := { program := "ytladdcnfdbmnlaa", sum := "55db15e01f2f9f8ef59a9c6dbd3642bc0493674201f7917fa62d714e7980e73a", func := "haversack/haversacklaw17.QuotaRuns", spec := "quotaRuns", apart := false, narrowed := true }
def QuotaRunsUptoSaid : Prop := quotaRunsUptoRow.holds Try.pinned (OpenSpec.upto quotaRunsSpec)

/-- 'haversacklaw17.QuotaFrees', WHERE WHAT IT READS IS OF BULK AT MOST 1048576: true; the input reads as it did. -/
def quotaFreesUptoRow : OpenClaim := { program := "ytladdcnfdbmnlaa", sum := "55db15e01f2f9f8ef59a9c6dbd3642bc0493674201f7917fa62d714e7980e73a", func := "haversack/haversacklaw17.QuotaFrees", spec := "quotaFrees", apart := false, narrowed := true }
def QuotaFreesUptoSaid : Prop := quotaFreesUptoRow.holds Try.pinned (OpenSpec.upto quotaFreesSpec)

/-- 'haversacklaw17.QuotaNil', WHERE WHAT IT READS IS OF BULK AT MOST 1048576: true; the input reads as it did. -/
def quotaNilUptoRow : OpenClaim := { program := "ytladdcnfdbmnlaa", sum := "55db15e01f2f9f8ef59a9c6dbd3642bc0493674201f7917fa62d714e7980e73a", func := "haversack/haversacklaw17.QuotaNil", spec := "quotaNil", apart := false, narrowed := true }
def QuotaNilUptoSaid : Prop := quotaNilUptoRow.holds Try.pinned (OpenSpec.upto quotaNilSpec)

end Rows
end Go.Proofs.Ytladdcnfdbmnlaa
