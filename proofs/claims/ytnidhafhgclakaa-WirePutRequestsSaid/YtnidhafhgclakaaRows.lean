/-
  No cell of these rows narrows 'for every input' (looked for: loops, veiled, ifaces, maps, wideKeys, modest, calm, conditions, laid).
  DERIVED. THE GIVEN ROWS OF THIS SEAT. 6 by the template 'for every input the law returns true; each argument reads behind the call as it read before'; 0 by the template 'total and deterministic' (their statements: YtnidhafhgclakaaTotals.lean).
  GIVEN WITH THE SEED: the statements are not yours to turn. If you find one false, say at which input.
  Laid BY PROGRAM, IN A SANDBOX (cutbox-rows.mjs): the forced cells as the released guide's own fill.sh prints them over the translation 9c1e172676e2dc2a… (all of the seat's roots in one cut). By AI agents, Wed Nov 11 2026. No macro, syntax, notation, axiom, sorry.
-/
import Derived.Test.YtnidhafhgclakaaChecked
import GoSem.Claim
import GoSem.ClaimJoined
import GoSem.ClaimMapViews
import Derived.JoinedTies
import Derived.KernelRfl
namespace Go.Proofs.Ytnidhafhgclakaa
/- THE CELL 'sum', in the pinned program and in every row, IS THE sha256 OF THE DUMP (.gsa) THAT YtnidhafhgclakaaProg.lean LOADS. Nothing in Lean hashes anything: it is a label: what it is worth is what the hold of that sum in a sandbox is worth. -/
noncomputable def Try.pinned : Pinned := { name := "ytnidhafhgclakaa", sum := "9c1e172676e2dc2aa3c424ea0cb4c675d68a9ef10456bb91ea6e95bdaa1366b6", checked := Try.checked }
namespace Rows
def none {H : Type} : Left H := { results := [], args := [] }

/-- 'haversacklaw19.WirePutRequests': WHATEVER THE INPUT: true; the input reads as it did. -/
def wirePutRequestsSpec : ChangeSpec := { name := "wirePutRequests", fn := fun _ => fun
  | [d] => { results := [.lit (.bool true)], args := [d] }
  | _ => none }
def wirePutRequestsRow : OpenClaim := { program := "ytnidhafhgclakaa", sum := "9c1e172676e2dc2aa3c424ea0cb4c675d68a9ef10456bb91ea6e95bdaa1366b6", func := "haversack/haversacklaw19.WirePutRequests", spec := "wirePutRequests", unfollowed := true, recurses := true, apart := false }
def WirePutRequestsSaid : Prop := wirePutRequestsRow.holds Try.pinned (OpenSpec.ofChange wirePutRequestsSpec)

/-- ITS FALSE NEIGHBOUR: 'it returns false'. Refute it at one input. -/
def wirePutRequestsWrong : ChangeSpec := { name := "wirePutRequests", fn := fun _ => fun
  | [d] => { results := [.lit (.bool false)], args := [d] }
  | _ => none }
def WirePutRequestsWrongFalsely : Prop := wirePutRequestsRow.holds Try.pinned (OpenSpec.ofChange wirePutRequestsWrong)

/-- 'haversacklaw19.WireGetRequests': WHATEVER THE INPUT: true; the input reads as it did. -/
def wireGetRequestsSpec : ChangeSpec := { name := "wireGetRequests", fn := fun _ => fun
  | [d] => { results := [.lit (.bool true)], args := [d] }
  | _ => none }
def wireGetRequestsRow : OpenClaim := { program := "ytnidhafhgclakaa", sum := "9c1e172676e2dc2aa3c424ea0cb4c675d68a9ef10456bb91ea6e95bdaa1366b6", func := "haversack/haversacklaw19.WireGetRequests", spec := "wireGetRequests", unfollowed := true, recurses := true, apart := false }
def WireGetRequestsSaid : Prop := wireGetRequestsRow.holds Try.pinned (OpenSpec.ofChange wireGetRequestsSpec)

/-- ITS FALSE NEIGHBOUR: 'it returns false'. Refute it at one input. -/
def wireGetRequestsWrong : ChangeSpec := { name := "wireGetRequests", fn := fun _ => fun
  | [d] => { results := [.lit (.bool false)], args := [d] }
  | _ => none }
def WireGetRequestsWrongFalsely : Prop := wireGetRequestsRow.holds Try.pinned (OpenSpec.ofChange wireGetRequestsWrong)

/-- 'haversacklaw19.WirePutResponses': WHATEVER THE INPUT: true; the input reads as it did. -/
def wirePutResponsesSpec : ChangeSpec := { name := "wirePutResponses", fn := fun _ => fun
  | [d] => { results := [.lit (.bool true)], args := [d] }
  | _ => none }
def wirePutResponsesRow : OpenClaim := { program := "ytnidhafhgclakaa", sum := "9c1e172676e2dc2aa3c424ea0cb4c675d68a9ef10456bb91ea6e95bdaa1366b6", func := "haversack/haversacklaw19.WirePutResponses", spec := "wirePutResponses", unfollowed := true, recurses := true, apart := false }
def WirePutResponsesSaid : Prop := wirePutResponsesRow.holds Try.pinned (OpenSpec.ofChange wirePutResponsesSpec)

/-- ITS FALSE NEIGHBOUR: 'it returns false'. Refute it at one input. -/
def wirePutResponsesWrong : ChangeSpec := { name := "wirePutResponses", fn := fun _ => fun
  | [d] => { results := [.lit (.bool false)], args := [d] }
  | _ => none }
def WirePutResponsesWrongFalsely : Prop := wirePutResponsesRow.holds Try.pinned (OpenSpec.ofChange wirePutResponsesWrong)

/-- 'haversacklaw19.WireGetResponses': WHATEVER THE INPUT: true; the input reads as it did. -/
def wireGetResponsesSpec : ChangeSpec := { name := "wireGetResponses", fn := fun _ => fun
  | [d] => { results := [.lit (.bool true)], args := [d] }
  | _ => none }
def wireGetResponsesRow : OpenClaim := { program := "ytnidhafhgclakaa", sum := "9c1e172676e2dc2aa3c424ea0cb4c675d68a9ef10456bb91ea6e95bdaa1366b6", func := "haversack/haversacklaw19.WireGetResponses", spec := "wireGetResponses", unfollowed := true, recurses := true, apart := false }
def WireGetResponsesSaid : Prop := wireGetResponsesRow.holds Try.pinned (OpenSpec.ofChange wireGetResponsesSpec)

/-- ITS FALSE NEIGHBOUR: 'it returns false'. Refute it at one input. -/
def wireGetResponsesWrong : ChangeSpec := { name := "wireGetResponses", fn := fun _ => fun
  | [d] => { results := [.lit (.bool false)], args := [d] }
  | _ => none }
def WireGetResponsesWrongFalsely : Prop := wireGetResponsesRow.holds Try.pinned (OpenSpec.ofChange wireGetResponsesWrong)

/-- 'haversacklaw19.WireRound': WHATEVER THE INPUT: true; the input reads as it did. -/
def wireRoundSpec : ChangeSpec := { name := "wireRound", fn := fun _ => fun
  | [d1, d2, d3] => { results := [.lit (.bool true)], args := [d1, d2, d3] }
  | _ => none }
def wireRoundRow : OpenClaim := { program := "ytnidhafhgclakaa", sum := "9c1e172676e2dc2aa3c424ea0cb4c675d68a9ef10456bb91ea6e95bdaa1366b6", func := "haversack/haversacklaw19.WireRound", spec := "wireRound", unfollowed := true, recurses := true, apart := false }
def WireRoundSaid : Prop := wireRoundRow.holds Try.pinned (OpenSpec.ofChange wireRoundSpec)

/-- ITS FALSE NEIGHBOUR: 'it returns false'. Refute it at one input. -/
def wireRoundWrong : ChangeSpec := { name := "wireRound", fn := fun _ => fun
  | [d1, d2, d3] => { results := [.lit (.bool false)], args := [d1, d2, d3] }
  | _ => none }
def WireRoundWrongFalsely : Prop := wireRoundRow.holds Try.pinned (OpenSpec.ofChange wireRoundWrong)

/-- 'haversacklaw19.WireOne': WHATEVER THE INPUT: true; the input reads as it did. -/
def wireOneSpec : ChangeSpec := { name := "wireOne", fn := fun _ => fun
  | [d] => { results := [.lit (.bool true)], args := [d] }
  | _ => none }
def wireOneRow : OpenClaim := { program := "ytnidhafhgclakaa", sum := "9c1e172676e2dc2aa3c424ea0cb4c675d68a9ef10456bb91ea6e95bdaa1366b6", func := "haversack/haversacklaw19.WireOne", spec := "wireOne", unfollowed := true, recurses := true, apart := false }
def WireOneSaid : Prop := wireOneRow.holds Try.pinned (OpenSpec.ofChange wireOneSpec)

/-- ITS FALSE NEIGHBOUR: 'it returns false'. Refute it at one input. -/
def wireOneWrong : ChangeSpec := { name := "wireOne", fn := fun _ => fun
  | [d] => { results := [.lit (.bool false)], args := [d] }
  | _ => none }
def WireOneWrongFalsely : Prop := wireOneRow.holds Try.pinned (OpenSpec.ofChange wireOneWrong)

/- THE SECOND FORM. 'bulk': how many values and letters a reading holds, each counted each time it is reached (what is shared counts as often as it is met; a slice's spare places count too). A statement '..UptoSaid' is the law's where the arguments, and the package variables that the reading takes, are together of bulk at most 1048576: NARROWER than '..Said'. Prove '..Said' where nothing that the law and all that it calls make is longer than what came in: it says more and counts as full. Else prove '..UptoSaid'. A law counts once. -/
mutual
def uptoBulk {H : Type} : DataW H → Nat
  | .lit (.string bytes) => bytes.length + 1
  | .lit _ => 1
  | .nil => 1
  | .ptr d => uptoBulk d + 1
  | .slice elems spare => uptoBulkAll elems + uptoBulkAll spare + 1
  | .agg parts => uptoBulkAll parts + 1
  | .iface _ d => uptoBulk d + 1
  | .map entries => uptoBulkEntries entries + 1
  | .held _ => 1
def uptoBulkAll {H : Type} : List (DataW H) → Nat
  | [] => 0
  | d :: r => uptoBulk d + uptoBulkAll r
def uptoBulkEntries {H : Type} : List (Lit × DataW H) → Nat
  | [] => 0
  | x :: r => uptoBulkEntry x + uptoBulkEntries r
def uptoBulkEntry {H : Type} : Lit × DataW H → Nat
  | (.string bytes, d) => bytes.length + uptoBulk d + 1
  | (_, d) => uptoBulk d + 1
 end
def uptoSmall : (H : Type) → List (DataW H) → Bool := fun _ ds => decide (uptoBulkAll ds ≤ 1048576)
def OpenSpec.upto (s : _root_.Go.ChangeSpec) : _root_.Go.OpenSpec := { _root_.Go.OpenSpec.ofChange s with cond := some uptoSmall }

/-- 'haversacklaw19.WirePutRequests', WHERE WHAT IT READS IS OF BULK AT MOST 1048576: true; the input reads as it did. -/
def wirePutRequestsUptoRow : OpenClaim := { program := "ytnidhafhgclakaa", sum := "9c1e172676e2dc2aa3c424ea0cb4c675d68a9ef10456bb91ea6e95bdaa1366b6", func := "haversack/haversacklaw19.WirePutRequests", spec := "wirePutRequests", unfollowed := true, recurses := true, apart := false, narrowed := true }
def WirePutRequestsUptoSaid : Prop := wirePutRequestsUptoRow.holds Try.pinned (OpenSpec.upto wirePutRequestsSpec)

/-- 'haversacklaw19.WireGetRequests', WHERE WHAT IT READS IS OF BULK AT MOST 1048576: true; the input reads as it did. -/
def wireGetRequestsUptoRow : OpenClaim := { program := "ytnidhafhgclakaa", sum := "9c1e172676e2dc2aa3c424ea0cb4c675d68a9ef10456bb91ea6e95bdaa1366b6", func := "haversack/haversacklaw19.WireGetRequests", spec := "wireGetRequests", unfollowed := true, recurses := true, apart := false, narrowed := true }
def WireGetRequestsUptoSaid : Prop := wireGetRequestsUptoRow.holds Try.pinned (OpenSpec.upto wireGetRequestsSpec)

/-- 'haversacklaw19.WirePutResponses', WHERE WHAT IT READS IS OF BULK AT MOST 1048576: true; the input reads as it did. -/
def wirePutResponsesUptoRow : OpenClaim := { program := "ytnidhafhgclakaa", sum := "9c1e172676e2dc2aa3c424ea0cb4c675d68a9ef10456bb91ea6e95bdaa1366b6", func := "haversack/haversacklaw19.WirePutResponses", spec := "wirePutResponses", unfollowed := true, recurses := true, apart := false, narrowed := true }
def WirePutResponsesUptoSaid : Prop := wirePutResponsesUptoRow.holds Try.pinned (OpenSpec.upto wirePutResponsesSpec)

/-- 'haversacklaw19.WireGetResponses', WHERE WHAT IT READS IS OF BULK AT MOST 1048576: true; the input reads as it did. -/
def wireGetResponsesUptoRow : OpenClaim := { program := "ytnidhafhgclakaa", sum := "9c1e172676e2dc2aa3c424ea0cb4c675d68a9ef10456bb91ea6e95bdaa1366b6", func := "haversack/haversacklaw19.WireGetResponses", spec := "wireGetResponses", unfollowed := true, recurses := true, apart := false, narrowed := true }
def WireGetResponsesUptoSaid : Prop := wireGetResponsesUptoRow.holds Try.pinned (OpenSpec.upto wireGetResponsesSpec)

/-- 'haversacklaw19.WireRound', WHERE WHAT IT READS IS OF BULK AT MOST 1048576: true; the input reads as it did. -/
def wireRoundUptoRow : OpenClaim := { program := "ytnidhafhgclakaa", sum := "9c1e172676e2dc2aa3c424ea0cb4c675d68a9ef10456bb91ea6e95bdaa1366b6", func := "haversack/haversacklaw19.WireRound", spec := "wireRound", unfollowed := true, recurses := true, apart := false, narrowed := true }
def WireRoundUptoSaid : Prop := wireRoundUptoRow.holds Try.pinned (OpenSpec.upto wireRoundSpec)

/-- 'haversacklaw19.WireOne', WHERE WHAT IT READS IS OF BULK AT MOST 1048576: true; the input reads as it did. -/
def wireOneUptoRow : OpenClaim := { program := "ytnidhafhgclakaa", sum := "9c1e172676e2dc2aa3c424ea0cb4c675d68a9ef10456bb91ea6e95bdaa1366b6", func := "haversack/haversacklaw19.WireOne", spec := "wireOne", unfollowed := true, recurses := true, apart := false, narrowed := true }
def WireOneUptoSaid : Prop := wireOneUptoRow.holds Try.pinned (OpenSpec.upto wireOneSpec)

end Rows
end Go.Proofs.Ytnidhafhgclakaa
