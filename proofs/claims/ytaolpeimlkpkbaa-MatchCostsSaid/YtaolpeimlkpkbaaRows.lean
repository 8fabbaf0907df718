/-
  No cell of these rows narrows 'for every input' (looked for: loops, veiled, ifaces, maps, wideKeys, modest, calm, conditions, laid).
  DERIVED. THE GIVEN ROWS OF THIS SEAT. 6 by the template 'for every input the law returns true; each argument reads behind the call as it read before'; 0 by the template 'total and deterministic' (their statements: YtaolpeimlkpkbaaTotals.lean).
  GIVEN WITH THE SEED: the statements are not yours to turn. If you find one false, say at which input.
  Laid BY PROGRAM, IN A SANDBOX (cutbox-rows.mjs): the forced cells as the released guide's own fill.sh prints them over the translation 265579632dfa6c30… (all of the seat's roots in one cut). By AI agents, Wed Nov 11 2026. No macro, syntax, notation, axiom, sorry.
-/
import Derived.Test.YtaolpeimlkpkbaaChecked
import GoSem.Claim
import GoSem.ClaimJoined
import GoSem.ClaimMapViews
import Derived.JoinedTies
import Derived.KernelRfl
namespace Go.Proofs.Ytaolpeimlkpkbaa
/- THE CELL 'sum', in the pinned program and in every row, IS THE sha256 OF THE DUMP (.gsa) THAT YtaolpeimlkpkbaaProg.lean LOADS. Nothing in Lean hashes anything: it is a label: what it is worth is what the hold of that sum in a sandbox is worth. -/
noncomputable def Try.pinned : Pinned := { name := "ytaolpeimlkpkbaa", sum := "265579632dfa6c30993bf5c6969035fbdecfdd8d698c81a5af89618e85044d8d", checked := Try.checked }
namespace Rows
def none {H : Type} : Left H := { results := [], args := [] }

/-- 'haversacklaw06.MatchExpands': WHATEVER THE INPUT: true; the input reads as it did. -/
def matchExpandsSpec : ChangeSpec := { name := "matchExpands", fn := fun _ => fun
  | [d1, d2] => { results := [.lit (.bool true)], args := [d1, d2] }
  | _ => none }
def matchExpandsRow : OpenClaim := { program := "ytaolpeimlkpkbaa", sum := "265579632dfa6c30993bf5c6969035fbdecfdd8d698c81a5af89618e85044d8d", func := "haversack/haversacklaw06.MatchExpands", spec := "matchExpands", unfollowed := true, recurses := true, apart := false }
def MatchExpandsSaid : Prop := matchExpandsRow.holds Try.pinned (OpenSpec.ofChange matchExpandsSpec)

/-- ITS FALSE NEIGHBOUR: 'it returns false'. Refute it at one input. -/
def matchExpandsWrong : ChangeSpec := { name := "matchExpands", fn := fun _ => fun
  | [d1, d2] => { results := [.lit (.bool false)], args := [d1, d2] }
  | _ => none }
def MatchExpandsWrongFalsely : Prop := matchExpandsRow.holds Try.pinned (OpenSpec.ofChange matchExpandsWrong)

/-- 'haversacklaw06.MatchFinds': WHATEVER THE INPUT: true; the input reads as it did. -/
def matchFindsSpec : ChangeSpec := { name := "matchFinds", fn := fun _ => fun
  | [d1, d2] => { results := [.lit (.bool true)], args := [d1, d2] }
  | _ => none }
def matchFindsRow : OpenClaim := { program := "ytaolpeimlkpkbaa", sum := "265579632dfa6c30993bf5c6969035fbdecfdd8d698c81a5af89618e85044d8d", func := "haversack/haversacklaw06.MatchFinds", spec := "matchFinds", unfollowed := true, recurses := true, apart := false }
def MatchFindsSaid : Prop := matchFindsRow.holds Try.pinned (OpenSpec.ofChange matchFindsSpec)

/-- ITS FALSE NEIGHBOUR: 'it returns false'. Refute it at one input. -/
def matchFindsWrong : ChangeSpec := { name := "matchFinds", fn := fun _ => fun
  | [d1, d2] => { results := [.lit (.bool false)], args := [d1, d2] }
  | _ => none }
def MatchFindsWrongFalsely : Prop := matchFindsRow.holds Try.pinned (OpenSpec.ofChange matchFindsWrong)

/-- 'haversacklaw06.MatchCosts': WHATEVER THE INPUT: true; the input reads as it did. -/
def matchCostsSpec : ChangeSpec := { name := "matchCosts", fn := fun _ => fun
  | [d] => { results := [.lit (.bool true)], args := [d] }
  | _ => none }
def matchCostsRow : OpenClaim := { program := "ytaolpeimlkpkbaa", sum := "265579632dfa6c30993bf5c6969035fbdecfdd8d698c81a5af89618e85044d8d", func := "haversack/haversacklaw06.MatchCosts", spec := "matchCosts", unfollowed := true, recurses := true, apart := false }
def MatchCostsSaid : Prop := matchCostsRow.holds Try.pinned (OpenSpec.ofChange matchCostsSpec)

/-- ITS FALSE NEIGHBOUR: 'it returns false'. Refute it at one input. -/
def matchCostsWrong : ChangeSpec := { name := "matchCosts", fn := fun _ => fun
  | [d] => { results := [.lit (.bool false)], args := [d] }
  | _ => none }
def MatchCostsWrongFalsely : Prop := matchCostsRow.holds Try.pinned (OpenSpec.ofChange matchCostsWrong)

/-- 'haversacklaw06.MatchRound': WHATEVER THE INPUT: true; the input reads as it did. -/
def matchRoundSpec : ChangeSpec := { name := "matchRound", fn := fun _ => fun
  | [d] => { results := [.lit (.bool true)], args := [d] }
  | _ => none }
def matchRoundRow : OpenClaim := { program := "ytaolpeimlkpkbaa", sum := "265579632dfa6c30993bf5c6969035fbdecfdd8d698c81a5af89618e85044d8d", func := "haversack/haversacklaw06.MatchRound", spec := "matchRound", unfollowed := true, recurses := true, apart := false }
def MatchRoundSaid : Prop := matchRoundRow.holds Try.pinned (OpenSpec.ofChange matchRoundSpec)

/-- ITS FALSE NEIGHBOUR: 'it returns false'. Refute it at one input. -/
def matchRoundWrong : ChangeSpec := { name := "matchRound", fn := fun _ => fun
  | [d] => { results := [.lit (.bool false)], args := [d] }
  | _ => none }
def MatchRoundWrongFalsely : Prop := matchRoundRow.holds Try.pinned (OpenSpec.ofChange matchRoundWrong)

/-- 'haversacklaw06.MatchTwice': WHATEVER THE INPUT: true; the input reads as it did. -/
def matchTwiceSpec : ChangeSpec := { name := "matchTwice", fn := fun _ => fun
  | [d] => { results := [.lit (.bool true)], args := [d] }
  | _ => none }
def matchTwiceRow : OpenClaim := { program := "ytaolpeimlkpkbaa", sum := "265579632dfa6c30993bf5c6969035fbdecfdd8d698c81a5af89618e85044d8d", func := "haversack/haversacklaw06.MatchTwice", spec := "matchTwice", unfollowed := true, recurses := true, apart := false }
def MatchTwiceSaid : Prop := matchTwiceRow.holds Try.pinned (OpenSpec.ofChange matchTwiceSpec)

/-- ITS FALSE NEIGHBOUR: 'it returns false'. Refute it at one input. -/
def matchTwiceWrong : ChangeSpec := { name := "matchTwice", fn := fun _ => fun
  | [d] => { results := [.lit (.bool false)], args := [d] }
  | _ => none }
def MatchTwiceWrongFalsely : Prop := matchTwiceRow.holds Try.pinned (OpenSpec.ofChange matchTwiceWrong)

/-- 'haversacklaw06.MatchJoins': WHATEVER THE INPUT: true; the input reads as it did. -/
def matchJoinsSpec : ChangeSpec := { name := "matchJoins", fn := fun _ => fun
  | [d1, d2] => { results := [.lit (.bool true)], args := [d1, d2] }
  | _ => none }
def matchJoinsRow : OpenClaim := { program := "ytaolpeimlkpkbaa", sum := "265579632dfa6c30993bf5c6969035fbdecfdd8d698c81a5af89618e85044d8d", func := "haversack/haversacklaw06.MatchJoins", spec := "matchJoins", unfollowed := true, recurses := true, apart := false }
def MatchJoinsSaid : Prop := matchJoinsRow.holds Try.pinned (OpenSpec.ofChange matchJoinsSpec)

/-- ITS FALSE NEIGHBOUR: 'it returns false'. Refute it at one input. -/
def matchJoinsWrong : ChangeSpec := { name := "matchJoins", fn := fun _ => fun
  | [d1, d2] => { results := [.lit (.bool false)], args := [d1, d2] }
  | _ => none }
def MatchJoinsWrongFalsely : Prop := matchJoinsRow.holds Try.pinned (OpenSpec.ofChange matchJoinsWrong)

/- THE SECOND FORM. 'bulk': how many values and letters a reading holds, each counted each time it is reached (what is shared counts as often as it is met; a slice's spare places count too). A statement '..UptoSaid' is the law's where the arguments, and the package variables that the reading takes, are together of bulk at most 1048576: NARROWER than '..Said'. Prove '..Said' where nothing that the law and all that it calls make is longer than what came in: it says more and counts as full. Else prove '..UptoSaid'. A law counts once. -/
mutual
def uptoBulk {H : Type} : DataW H → Nat
  | .lit (.string bytes) => bytes.length + 1
  | .lit _ => 1
  | .nil => 1
  | .ptr d => uptoBulk d + 1
  | .slice elems spare => uptoBulkAll elems + uptoBulkAll spare + 1
  | .agg parts => uptoBulkAll parts + 1
  | .iface _ d => uptoBulk d + 1
  | .map entries => uptoBulkEntries entries + 1
  | .held _ => 1
def uptoBulkAll {H : Type} : List (DataW H) → Nat
  | [] => 0
  | d :: r => uptoBulk d + uptoBulkAll r
def uptoBulkEntries {H : Type} : List (Lit × DataW H) → Nat
  | [] => 0
  | x :: r => uptoBulkEntry x + uptoBulkEntries r
def uptoBulkEntry {H : Type} : Lit × DataW H → Nat
  | (.string bytes, d) => bytes.length + uptoBulk d + 1
  | (_, d) => uptoBulk d + 1
 end
def uptoSmall : (H : Type) → List (DataW H) → Bool := fun _ ds => decide (uptoBulkAll ds ≤ 1048576)
def OpenSpec.upto (s : _root_.Go.ChangeSpec) : _root_.Go.OpenSpec := { _root_.Go.OpenSpec.ofChange s with cond := some uptoSmall }

/-- 'haversacklaw06.MatchExpands', WHERE WHAT IT READS IS OF BULK AT MOST 1048576: true; the input reads as it did. -/
def matchExpandsUptoRow : OpenClaim := { program := "ytaolpeimlkpkbaa", sum := "265579632dfa6c30993bf5c6969035fbdecfdd8d698c81a5af89618e85044d8d", func := "haversack/haversacklaw06.MatchExpands", spec := "matchExpands", unfollowed := true, recurses := true, apart := false, narrowed := true }
def MatchExpandsUptoSaid : Prop := matchExpandsUptoRow.holds Try.pinned (OpenSpec.upto matchExpandsSpec)

/-- 'haversacklaw06.MatchFinds', WHERE WHAT IT READS IS OF BULK AT MOST 1048576: true; the input reads as it did. -/
def matchFindsUptoRow : OpenClaim := { program := "ytaolpeimlkpkbaa", sum := "265579632dfa6c30993bf5c6969035fbdecfdd8d698c81a5af89618e85044d8d", func := "haversack/haversacklaw06.MatchFinds", spec := "matchFinds", unfollowed := true, recurses := true, apart := false, narrowed := true }
def MatchFindsUptoSaid : Prop := matchFindsUptoRow.holds Try.pinned (OpenSpec.upto matchFindsSpec)

/-- 'haversacklaw06.MatchCosts', WHERE WHAT IT READS IS OF BULK AT MOST 1048576: true; the input reads as it did. -/
def matchCostsUptoRow : OpenClaim := { program := "ytaolpeimlkpkbaa", sum := "265579632dfa6c30993bf5c6969035fbdecfdd8d698c81a5af89618e85044d8d", func := "haversack/haversacklaw06.MatchCosts", spec := "matchCosts", unfollowed := true, recurses := true, apart := false, narrowed := true }
def MatchCostsUptoSaid : Prop := matchCostsUptoRow.holds Try.pinned (OpenSpec.upto matchCostsSpec)

/-- 'haversacklaw06.MatchRound', WHERE WHAT IT READS IS OF BULK AT MOST 1048576: true; the input reads as it did. -/
def matchRoundUptoRow : OpenClaim := { program := "ytaolpeimlkpkbaa", sum := "265579632dfa6c30993bf5c6969035fbdecfdd8d698c81a5af89618e85044d8d", func := "haversack/haversacklaw06.MatchRound", spec := "matchRound", unfollowed := true, recurses := true, apart := false, narrowed := true }
def MatchRoundUptoSaid : Prop := matchRoundUptoRow.holds Try.pinned (OpenSpec.upto matchRoundSpec)

/-- 'haversacklaw06.MatchTwice', WHERE WHAT IT READS IS OF BULK AT MOST 1048576: true; the input reads as it did. -/
def matchTwiceUptoRow : OpenClaim := { program := "ytaolpeimlkpkbaa", sum := "265579632dfa6c30993bf5c6969035fbdecfdd8d698c81a5af89618e85044d8d", func := "haversack/haversacklaw06.MatchTwice", spec := "matchTwice", unfollowed := true, recurses := true, apart := false, narrowed := true }
def MatchTwiceUptoSaid : Prop := matchTwiceUptoRow.holds Try.pinned (OpenSpec.upto matchTwiceSpec)

/-- 'haversacklaw06.MatchJoins', WHERE WHAT IT READS IS OF BULK AT MOST 1048576: true; the input reads as it did. -/
def matchJoinsUptoRow : OpenClaim := { program := "ytaolpeimlkpkbaa", sum := "265579632dfa6c30993bf5c6969035fbdecfdd8d698c81a5af89618e85044d8d", func := "haversack/haversacklaw06.MatchJoins", spec := "matchJoins", unfollowed := true, recurses := true, apart := false, narrowed := true }
def MatchJoinsUptoSaid : Prop := matchJoinsUptoRow.holds Try.pinned (OpenSpec.upto matchJoinsSpec)

end Rows
end Go.Proofs.Ytaolpeimlkpkbaa
