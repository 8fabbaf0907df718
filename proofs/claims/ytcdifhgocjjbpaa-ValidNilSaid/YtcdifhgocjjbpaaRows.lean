/-
  No cell of these rows narrows 'for every input' (looked for: loops, veiled, ifaces, maps, wideKeys, modest, calm, conditions, laid).
  DERIVED. THE GIVEN ROWS OF THIS SEAT. 4 by the template 'for every input the law returns true; each argument reads behind the call as it read before'; 0 by the template 'total and deterministic' (their statements: YtcdifhgocjjbpaaTotals.lean).
  GIVEN WITH THE SEED: the statements are not yours to turn. If you find one false, say at which input.
  Laid BY PROGRAM, IN A SANDBOX (cutbox-rows.mjs): the forced cells as the released guide's own fill.sh prints them over the translation e91226f64f3fb069… (all of the seat's roots in one cut). By AI agents, Wed Nov 11 2026. No macro, syntax, notation, axiom, sorry.
-/
import Derived.Test.YtcdifhgocjjbpaaChecked
import GoSem.Claim
import GoSem.ClaimJoined
import GoSem.ClaimMapViews
import Derived.JoinedTies
import Derived.KernelRfl
namespace Go.Proofs.Ytcdifhgocjjbpaa
/- THE CELL 'sum', in the pinned program and in every row, IS THE sha256 OF THE DUMP (.gsa) THAT YtcdifhgocjjbpaaProg.lean LOADS. Nothing in Lean hashes anything: it is a label: what it is worth is what the hold of that sum in a sandbox is worth. -/
noncomputable def Try.pinned : Pinned := { name := "ytcdifhgocjjbpaa", sum := "e91226f64f3fb06926c3b76f3129652d9f66990a4a9343022280006d5ebd00d5", checked := Try.checked }
namespace Rows
def none {H : Type} : Left H := { results := [], args := [] }

/-- 'haversacklaw13.ValidMore': WHATEVER THE INPUT: true; the input reads as it did. -/
def validMoreSpec : ChangeSpec := { name := "validMore", fn := fun _ => fun
  | [d1, d2, d3, d4] => { results := [.lit (.bool true)], args := [d1, d2, d3, d4] }
  | _ => none }
def validMoreRow : OpenClaim := { program := "ytcdifhgocjjbpaa", sum := "e91226f64f3fb06926c3b76f3129652d9f66990a4a9343022280006d5ebd00d5", func := "haversack/haversacklaw13.ValidMore", spec := "validMore", unfollowed := true, recurses := true, plainKeys := false, apart := false }
def ValidMoreSaid : Prop := validMoreRow.holds Try.pinned (OpenSpec.ofChange validMoreSpec)

/-- ITS FALSE NEIGHBOUR: 'it returns false'. Refute it at one input. -/
def validMoreWrong : ChangeSpec := { name := "validMore", fn := fun _ => fun
  | [d1, d2, d3, d4] => { results := [.lit (.bool false)], args := [d1, d2, d3, d4] }
  | _ => none }
def ValidMoreWrongFalsely : Prop := validMoreRow.holds Try.pinned (OpenSpec.ofChange validMoreWrong)

/-- 'haversacklaw13.ValidBox': WHATEVER THE INPUT: true; the input reads as it did. -/
def validBoxSpec : ChangeSpec := { name := "validBox", fn := fun _ => fun
  | [d1, d2, d3] => { results := [.lit (.bool true)], args := [d1, d2, d3] }
  | _ => none }
def validBoxRow : OpenClaim := { program := "ytcdifhgocjjbpaa", sum := "e91226f64f3fb06926c3b76f3129652d9f66990a4a9343022280006d5ebd00d5", func := "haversack/haversacklaw13.ValidBox", spec := "validBox", unfollowed := true, recurses := true, plainKeys := false, apart := false }
def ValidBoxSaid : Prop := validBoxRow.holds Try.pinned (OpenSpec.ofChange validBoxSpec)

/-- ITS FALSE NEIGHBOUR: 'it returns false'. Refute it at one input. -/
def validBoxWrong : ChangeSpec := { name := "validBox", fn := fun _ => fun
  | [d1, d2, d3] => { results := [.lit (.bool false)], args := [d1, d2, d3] }
  | _ => none }
def ValidBoxWrongFalsely : Prop := validBoxRow.holds Try.pinned (OpenSpec.ofChange validBoxWrong)

/-- 'haversacklaw13.ValidRuns': WHATEVER THE INPUT: true; the input reads as it did. -/
def validRunsSpec : ChangeSpec := { name := "validRuns", fn := fun _ => fun
  | [d1, d2] => { results := [.lit (.bool true)], args := [d1, d2] }
  | _ => none }
def validRunsRow : OpenClaim := { program := "ytcdifhgocjjbpaa", sum := "e91226f64f3fb06926c3b76f3129652d9f66990a4a9343022280006d5ebd00d5", func := "haversack/haversacklaw13.ValidRuns", spec := "validRuns", unfollowed := true, recurses := true, plainKeys := false, apart := false }
def ValidRunsSaid : Prop := validRunsRow.holds Try.pinned (OpenSpec.ofChange validRunsSpec)

/-- ITS FALSE NEIGHBOUR: 'it returns false'. Refute it at one input. -/
def validRunsWrong : ChangeSpec := { name := "validRuns", fn := fun _ => fun
  | [d1, d2] => { results := [.lit (.bool false)], args := [d1, d2] }
  | _ => none }
def ValidRunsWrongFalsely : Prop := validRunsRow.holds Try.pinned (OpenSpec.ofChange validRunsWrong)

/-- 'haversacklaw13.ValidNil': WHATEVER THE INPUT: true; the input reads as it did. -/
def validNilSpec : ChangeSpec := { name := "validNil", fn := fun _ => fun
  | [d1, d2] => { results := [.lit (.bool true)], args := [d1, d2] }
  | _ => none }
def validNilRow : OpenClaim := { program := "ytcdifhgocjjbpaa", sum := "e91226f64f3fb06926c3b76f3129652d9f66990a4a9343022280006d5ebd00d5", func := "haversack/haversacklaw13.ValidNil", spec := "validNil", unfollowed := true, recurses := true, plainKeys := false, apart := false }
def ValidNilSaid : Prop := validNilRow.holds Try.pinned (OpenSpec.ofChange validNilSpec)

/-- ITS FALSE NEIGHBOUR: 'it returns false'. Refute it at one input. -/
def validNilWrong : ChangeSpec := { name := "validNil", fn := fun _ => fun
  | [d1, d2] => { results := [.lit (.bool false)], args := [d1, d2] }
  | _ => none }
def ValidNilWrongFalsely : Prop := validNilRow.holds Try.pinned (OpenSpec.ofChange validNilWrong)

/- THE SECOND FORM. 'bulk': how many values and letters a reading holds, each counted each time it is reached (what is shared counts as often as it is met; a slice's spare places count too). A statement '..UptoSaid' is the law's where the arguments, and the package variables that the reading takes, are together of bulk at most 1048576: NARROWER than '..Said'. Prove '..Said' where nothing that the law and all that it calls make is longer than what came in: it says more and counts as full. Else prove '..UptoSaid'. A law counts once. -/
mutual
def uptoBulk {H : Type} : DataW H → Nat
  | .lit (.string bytes) => bytes.length + 1
  | .lit _ => 1
  | .nil => 1
  | .ptr d => uptoBulk d + 1
  | .slice elems spare => uptoBulkAll elems + uptoBulkAll spare + 1
  | .agg parts => uptoBulkAll parts + 1
  | .iface _ d => uptoBulk d + 1
  | .map entries => uptoBulkEntries entries + 1
  | .held _ => 1
def uptoBulkAll {H : Type} : List (DataW H) → Nat
  | [] => 0
  | d :: r => uptoBulk d + uptoBulkAll r
def uptoBulkEntries {H : Type} : List (Lit × DataW H) → Nat
  | [] => 0
  | x :: r => uptoBulkEntry x + uptoBulkEntries r
def uptoBulkEntry {H : Type} : Lit × DataW H → Nat
  | (.string bytes, d) => bytes.length + uptoBulk d + 1
  | (_, d) => uptoBulk d + 1
 end
def uptoSmall : (H : Type) → List (DataW H) → Bool := fun _ ds => decide (uptoBulkAll ds ≤ 1048576)
def OpenSpec.upto (s : _root_.Go.ChangeSpec) : _root_.Go.OpenSpec := { _root_.Go.OpenSpec.ofChange s with cond := some uptoSmall }

/-- 'haversacklaw13.ValidMore', WHERE WHAT IT READS IS OF BULK AT MOST 1048576: true; the input reads as it did. -/
def validMoreUptoRow : OpenClaim := { program := "ytcdifhgocjjbpaa", sum := "e91226f64f3fb06926c3b76f3129652d9f66990a4a9343022280006d5ebd00d5", func := "haversack/haversacklaw13.ValidMore", spec := "validMore", unfollowed := true, recurses := true, plainKeys := false, apart := false, narrowed := true }
def ValidMoreUptoSaid : Prop := validMoreUptoRow.holds Try.pinned (OpenSpec.upto validMoreSpec)

/-- 'haversacklaw13.ValidBox', WHERE WHAT IT READS IS OF BULK AT MOST 1048576: true; the input reads as it did. -/
def validBoxUptoRow : OpenClaim := { program := "ytcdifhgocjjbpaa", sum := "e91226f64f3fb06926c3b76f3129652d9f66990a4a9343022280006d5ebd00d5", func := "haversack/haversacklaw13.ValidBox", spec := "validBox", unfollowed := true, recurses := true, plainKeys := false, apart := false, narrowed := true }
def ValidBoxUptoSaid : Prop := validBoxUptoRow.holds Try.pinned (OpenSpec.upto validBoxSpec)

/-- 'haversacklaw13.ValidRuns', WHERE WHAT IT READS IS OF BULK AT MOST 1048576: true; the input reads as it did. -/
def validRunsUptoRow : OpenClaim := { program := "ytcdifhgocjjbpaa", sum := "e91226f64f3fb06926c3b76f3129652d9f66990a4a9343022280006d5ebd00d5", func := "haversack/haversacklaw13.ValidRuns", spec := "validRuns", unfollowed := true, recurses := true, plainKeys := false, apart := false, narrowed := true }
def ValidRunsUptoSaid : Prop := validRunsUptoRow.holds Try.pinned (OpenSpec.upto validRunsSpec)

/-- 'haversacklaw13.ValidNil', WHERE WHAT IT READS IS OF BULK AT MOST 1048576: true; the input reads as it did. -/
def validNilUptoRow : OpenClaim := { program := "ytcdifhgocjjbpaa", sum := "e91226f64f3fb06926c3b76f3129652d9f66990a4a9343022280006d5ebd00d5", func := "haversack/haversacklaw13.ValidNil", spec := "validNil", unfollowed := true, recurses := true, plainKeys := false, apart := false, narrowed := true }
def ValidNilUptoSaid : Prop := validNilUptoRow.holds Try.pinned (OpenSpec.upto validNilSpec)

end Rows
end Go.Proofs.Ytcdifhgocjjbpaa
