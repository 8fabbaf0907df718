/-
  No cell of these rows narrows 'for every input' (looked for: loops, veiled, ifaces, maps, wideKeys, modest, calm, conditions, laid).
  DERIVED. THE GIVEN ROWS OF THIS SEAT. 5 by the template 'for every input the law returns true; each argument reads behind the call as it read before'; 0 by the template 'total and deterministic' (their statements: YtjkfngolgjbakaaTotals.lean).
  GIVEN WITH THE SEED: the statements are not yours to turn. If you find one false, say at which input.
  Laid BY PROGRAM, IN A SANDBOX (cutbox-rows.mjs): the forced cells as the released guide's own fill.sh prints them over the translation a8df98ebe3c90c56… (all of the seat's roots in one cut). By AI agents, Wed Nov 11 2026. No macro, syntax, notation, axiom, sorry.
-/
import Derived.Test.YtjkfngolgjbakaaChecked
import GoSem.Claim
import GoSem.ClaimJoined
import GoSem.ClaimMapViews
import Derived.JoinedTies
import Derived.KernelRfl
namespace Go.Proofs.Ytjkfngolgjbakaa
/- THE CELL 'sum', in the pinned program and in every row, IS THE sha256 OF THE DUMP (.gsa) THAT YtjkfngolgjbakaaProg.lean LOADS. Nothing in Lean hashes anything: it is a label: what it is worth is what the hold of that sum in a sandbox is worth. -/
noncomputable def Try.pinned : Pinned := { name := "ytjkfngolgjbakaa", sum := "a8df98ebe3c90c560f2343f3f8e3e12854198a6e1ad2b7bc5bd2777a849bc1c8", checked := Try.checked }
namespace Rows
def none {H : Type} : Left H := { results := [], args := [] }

/-- 'haversacklaw12.ChainStays': WHATEVER THE INPUT: true; the input reads as it did. -/
def chainStaysSpec : ChangeSpec := { name := "chainStays", fn := fun _ => fun
  | [d1, d2, d3, d4] => { results := [.lit (.bool true)], args := [d1, d2, d3, d4] }
  | _ => none }
def chainStaysRow : OpenClaim := { program := "ytjkfngolgjbakaa", sum := "a8df98ebe3c90c560f2343f3f8e3e12854198a6e1ad2b7bc5bd2777a849bc1c8", func := "haversack/haversacklaw12.ChainStays", spec := "chainStays", unfollowed := true, recurses := true, plainKeys := false, apart := false }
def ChainStaysSaid : Prop := chainStaysRow.holds Try.pinned (OpenSpec.ofChange chainStaysSpec)

/-- ITS FALSE NEIGHBOUR: 'it returns false'. Refute it at one input. -/
def chainStaysWrong : ChangeSpec := { name := "chainStays", fn := fun _ => fun
  | [d1, d2, d3, d4] => { results := [.lit (.bool false)], args := [d1, d2, d3, d4] }
  | _ => none }
def ChainStaysWrongFalsely : Prop := chainStaysRow.holds Try.pinned (OpenSpec.ofChange chainStaysWrong)

/-- 'haversacklaw12.ChainPrunes': WHATEVER THE INPUT: true; the input reads as it did. -/
def chainPrunesSpec : ChangeSpec := { name := "chainPrunes", fn := fun _ => fun
  | [d1, d2, d3] => { results := [.lit (.bool true)], args := [d1, d2, d3] }
  | _ => none }
def chainPrunesRow : OpenClaim := { program := "ytjkfngolgjbakaa", sum := "a8df98ebe3c90c560f2343f3f8e3e12854198a6e1ad2b7bc5bd2777a849bc1c8", func := "haversack/haversacklaw12.ChainPrunes", spec := "chainPrunes", unfollowed := true, recurses := true, plainKeys := false, apart := false }
def ChainPrunesSaid : Prop := chainPrunesRow.holds Try.pinned (OpenSpec.ofChange chainPrunesSpec)

/-- ITS FALSE NEIGHBOUR: 'it returns false'. Refute it at one input. -/
def chainPrunesWrong : ChangeSpec := { name := "chainPrunes", fn := fun _ => fun
  | [d1, d2, d3] => { results := [.lit (.bool false)], args := [d1, d2, d3] }
  | _ => none }
def ChainPrunesWrongFalsely : Prop := chainPrunesRow.holds Try.pinned (OpenSpec.ofChange chainPrunesWrong)

/-- 'haversacklaw12.ChainRuns': WHATEVER THE INPUT: true; the input reads as it did. -/
def chainRunsSpec : ChangeSpec := { name := "chainRuns", fn := fun _ => fun
  | [d] => { results := [.lit (.bool true)], args := [d] }
  | _ => none }
def chainRunsRow : OpenClaim := { program := "ytjkfngolgjbakaa", sum := "a8df98ebe3c90c560f2343f3f8e3e12854198a6e1ad2b7bc5bd2777a849bc1c8", func := "haversack/haversacklaw12.ChainRuns", spec := "chainRuns", unfollowed := true, recurses := true, plainKeys := false, apart := false }
def ChainRunsSaid : Prop := chainRunsRow.holds Try.pinned (OpenSpec.ofChange chainRunsSpec)

/-- ITS FALSE NEIGHBOUR: 'it returns false'. Refute it at one input. -/
def chainRunsWrong : ChangeSpec := { name := "chainRuns", fn := fun _ => fun
  | [d] => { results := [.lit (.bool false)], args := [d] }
  | _ => none }
def ChainRunsWrongFalsely : Prop := chainRunsRow.holds Try.pinned (OpenSpec.ofChange chainRunsWrong)

/-- 'haversacklaw12.ChainDumps': WHATEVER THE INPUT: true; the input reads as it did. -/
def chainDumpsSpec : ChangeSpec := { name := "chainDumps", fn := fun _ => fun
  | [d1, d2, d3] => { results := [.lit (.bool true)], args := [d1, d2, d3] }
  | _ => none }
def chainDumpsRow : OpenClaim := { program := "ytjkfngolgjbakaa", sum := "a8df98ebe3c90c560f2343f3f8e3e12854198a6e1ad2b7bc5bd2777a849bc1c8", func := "haversack/haversacklaw12.ChainDumps", spec := "chainDumps", unfollowed := true, recurses := true, plainKeys := false, apart := false }
def ChainDumpsSaid : Prop := chainDumpsRow.holds Try.pinned (OpenSpec.ofChange chainDumpsSpec)

/-- ITS FALSE NEIGHBOUR: 'it returns false'. Refute it at one input. -/
def chainDumpsWrong : ChangeSpec := { name := "chainDumps", fn := fun _ => fun
  | [d1, d2, d3] => { results := [.lit (.bool false)], args := [d1, d2, d3] }
  | _ => none }
def ChainDumpsWrongFalsely : Prop := chainDumpsRow.holds Try.pinned (OpenSpec.ofChange chainDumpsWrong)

/-- 'haversacklaw12.ChainNil': WHATEVER THE INPUT: true; the input reads as it did. -/
def chainNilSpec : ChangeSpec := { name := "chainNil", fn := fun _ => fun
  | [d] => { results := [.lit (.bool true)], args := [d] }
  | _ => none }
def chainNilRow : OpenClaim := { program := "ytjkfngolgjbakaa", sum := "a8df98ebe3c90c560f2343f3f8e3e12854198a6e1ad2b7bc5bd2777a849bc1c8", func := "haversack/haversacklaw12.ChainNil", spec := "chainNil", unfollowed := true, recurses := true, plainKeys := false, apart := false }
def ChainNilSaid : Prop := chainNilRow.holds Try.pinned (OpenSpec.ofChange chainNilSpec)

/-- ITS FALSE NEIGHBOUR: 'it returns false'. Refute it at one input. -/
def chainNilWrong : ChangeSpec := { name := "chainNil", fn := fun _ => fun
  | [d] => { results := [.lit (.bool false)], args := [d] }
  | _ => none }
def ChainNilWrongFalsely : Prop := chainNilRow.holds Try.pinned (OpenSpec.ofChange chainNilWrong)

/- THE SECOND FORM. 'bulk': how many values and letters a reading holds, each counted each time it is reached (what is shared counts as often as it is met; a slice's spare places count too). A statement '..UptoSaid' is the law's where the arguments, and the package variables that the reading takes, are together of bulk at most 1048576: NARROWER than '..Said'. Prove '..Said' where nothing that the law and all that it calls make is longer than what came in: it says more and counts as full. Else prove '..UptoSaid'. A law counts once. -/
mutual
def uptoBulk {H : Type} : DataW H → Nat
  | .lit (.string bytes) => bytes.length + 1
  | .lit _ => 1
  | .nil => 1
  | .ptr d => uptoBulk d + 1
  | .slice elems spare => uptoBulkAll elems + uptoBulkAll spare + 1
  | .agg parts => uptoBulkAll parts + 1
  | .iface _ d => uptoBulk d + 1
  | .map entries => uptoBulkEntries entries + 1
  | .held _ => 1
def uptoBulkAll {H : Type} : List (DataW H) → Nat
  | [] => 0
  | d :: r => uptoBulk d + uptoBulkAll r
def uptoBulkEntries {H : Type} : List (Lit × DataW H) → Nat
  | [] => 0
  | x :: r => uptoBulkEntry x + uptoBulkEntries r
def uptoBulkEntry {H : Type} : Lit × DataW H → Nat
  | (.string bytes, d) => bytes.length + uptoBulk d + 1
  | (_, d) => uptoBulk d + 1
 end
def uptoSmall : (H : Type) → List (DataW H) → Bool := fun _ ds => decide (uptoBulkAll ds ≤ 1048576)
def OpenSpec.upto (s : _root_.Go.ChangeSpec) : _root_.Go.OpenSpec := { _root_.Go.OpenSpec.ofChange s with cond := some uptoSmall }

/-- 'haversacklaw12.ChainStays', WHERE WHAT IT READS IS OF BULK AT MOST 1048576: true; the input reads as it did. -/
def chainStaysUptoRow : OpenClaim := { program := "ytjkfngolgjbakaa", sum := "a8df98ebe3c90c560f2343f3f8e3e12854198a6e1ad2b7bc5bd2777a849bc1c8", func := "haversack/haversacklaw12.ChainStays", spec := "chainStays", unfollowed := true, recurses := true, plainKeys := false, apart := false, narrowed := true }
def ChainStaysUptoSaid : Prop := chainStaysUptoRow.holds Try.pinned (OpenSpec.upto chainStaysSpec)

/-- 'haversacklaw12.ChainPrunes', WHERE WHAT IT READS IS OF BULK AT MOST 1048576: true; the input reads as it did. -/
def chainPrunesUptoRow : OpenClaim := { program := "ytjkfngolgjbakaa", sum := "a8df98ebe3c90c560f2343f3f8e3e12854198a6e1ad2b7bc5bd2777a849bc1c8", func := "haversack/haversacklaw12.ChainPrunes", spec := "chainPrunes", unfollowed := true, recurses := true, plainKeys := false, apart := false, narrowed := true }
def ChainPrunesUptoSaid : Prop := chainPrunesUptoRow.holds Try.pinned (OpenSpec.upto chainPrunesSpec)

/-- 'haversacklaw12.ChainRuns', WHERE WHAT IT READS IS OF BULK AT MOST 1048576: true; the input reads as it did. -/
def chainRunsUptoRow : OpenClaim := { program := "ytjkfngolgjbakaa", sum := "a8df98ebe3c90c560f2343f3f8e3e12854198a6e1ad2b7bc5bd2777a849bc1c8", func := "haversack/haversacklaw12.ChainRuns", spec := "chainRuns", unfollowed := true, recurses := true, plainKeys := false, apart := false, narrowed := true }
def ChainRunsUptoSaid : Prop := chainRunsUptoRow.holds Try.pinned (OpenSpec.upto chainRunsSpec)

/-- 'haversacklaw12.ChainDumps', WHERE WHAT IT READS IS OF BULK AT MOST 1048576: true; the input reads as it did. -/
def chainDumpsUptoRow : OpenClaim := { program := "ytjkfngolgjbakaa", sum := "a8df98ebe3c90c560f2343f3f8e3e12854198a6e1ad2b7bc5bd2777a849bc1c8", func := "haversack/haversacklaw12.ChainDumps", spec := "chainDumps", unfollowed := true, recurses := true, plainKeys := false, apart := false, narrowed := true }
def ChainDumpsUptoSaid : Prop := chainDumpsUptoRow.holds Try.pinned (OpenSpec.upto chainDumpsSpec)

/-- 'haversacklaw12.ChainNil', WHERE WHAT IT READS IS OF BULK AT MOST 1048576: true; the input reads as it did. -/
def chainNilUptoRow : OpenClaim := { program := "ytjkfngolgjbakaa", sum := "a8df98ebe3c90c560f2343f3f8e3e12854198a6e1ad2b7bc5bd2777a849bc1c8", func := "haversack/haversacklaw12.ChainNil", spec := "chainNil", unfollowed := true, recurses := true, plainKeys := false, apart := false, narrowed := true }
def ChainNilUptoSaid : Prop := chainNilUptoRow.holds Try.pinned (OpenSpec.upto chainNilSpec)

end Rows
end Go.Proofs.Ytjkfngolgjbakaa
