/-
  NARROWER THAN 'FOR EVERY INPUT', by the rows' own cells (each row's printed sentence says how): FrameEncodes: laid · FrameFeeds: laid · FrameParts: laid · FrameRound: laid · FrameTells: laid · FrameNil: laid.
  DERIVED. THE GIVEN ROWS OF THIS SEAT. 6 by the template 'for every input the law returns true; each argument reads behind the call as it read before'; 0 by the template 'total and deterministic' (their statements: YtdjjchfhccmjgaaDoorTotals.lean).
  GIVEN WITH THE SEED: the statements are not yours to turn. If you find one false, say at which input.
  Laid BY PROGRAM, IN A SANDBOX (cutbox-rows.mjs): the forced cells as the released guide's own fill.sh prints them over the translation bc8294caf03827a8… (all of the seat's roots in one cut). By AI agents, Wed Nov 11 2026. No macro, syntax, notation, axiom, sorry.
-/
import Derived.Test.YtdjjchfhccmjgaaDoorChecked
import GoSem.Claim
import GoSem.ClaimJoined
import GoSem.ClaimMapViews
import Derived.JoinedTies
import Derived.KernelRfl
namespace Go.Proofs.YtdjjchfhccmjgaaDoor
/- THE CELL 'sum', in the pinned program and in every row, IS THE sha256 OF THE DUMP (.gsa) THAT YtdjjchfhccmjgaaDoorProg.lean LOADS. Nothing in Lean hashes anything: it is a label: what it is worth is what the hold of that sum in a sandbox is worth. -/
noncomputable def Tryd.pinned : Pinned := { name := "ytdjjchfhccmjgaadoor", sum := "bc8294caf03827a8ec47fabe4eaf6c231c606c6430f80b6177149f91e7a7e369", checked := Tryd.checked }
namespace Rows
def none {H : Type} : Left H := { results := [], args := [] }

/- WHAT THE LISTED PACKAGE-LEVEL VARIABLES READ AS WHEN THE CALL BEGINS. Each datum BY PROGRAM (the guide's laid-datum.mjs) off the statement by which the dump's own 'gosem.cut.vars' lays the variable. In a bare row this is a premise. The card (YtdjjchfhccmjgaaDoorCards.lean) ties it to the program's text. -/
def laid_haversack_little_steps {H : Type} : DataW H := .agg [.lit (.int .u32 0), .lit (.int .u32 498536548), .lit (.int .u32 997073096), .lit (.int .u32 651767980), .lit (.int .u32 1994146192), .lit (.int .u32 1802195444), .lit (.int .u32 1303535960), .lit (.int .u32 1342533948), .lit (.int .u32 3988292384), .lit (.int .u32 4027552580), .lit (.int .u32 3604390888), .lit (.int .u32 3412177804), .lit (.int .u32 2607071920), .lit (.int .u32 2262029012), .lit (.int .u32 2685067896), .lit (.int .u32 3183342108)]

/-- 'haversacklaw18.FrameEncodes': WHATEVER THE INPUT: true; the input reads as it did. -/
def frameEncodesSpec : ChangeSpec := { name := "frameEncodes", fn := fun _ => fun
  | [d] => { results := [.lit (.bool true)], args := [d] }
  | _ => none }
def frameEncodesRow : OpenClaim := { program := "ytdjjchfhccmjgaadoor", sum := "bc8294caf03827a8ec47fabe4eaf6c231c606c6430f80b6177149f91e7a7e369", func := "haversack/haversacklaw18.FrameEncodes", spec := "frameEncodes", unfollowed := true, recurses := true, named := ["haversack/little.steps"], apart := false, laid := [("haversack/little.steps", laid_haversack_little_steps)] }
def FrameEncodesSaid : Prop := frameEncodesRow.holds Tryd.pinned (OpenSpec.ofChange frameEncodesSpec)

/-- ITS FALSE NEIGHBOUR: 'it returns false'. Refute it at one input. -/
def frameEncodesWrong : ChangeSpec := { name := "frameEncodes", fn := fun _ => fun
  | [d] => { results := [.lit (.bool false)], args := [d] }
  | _ => none }
def FrameEncodesWrongFalsely : Prop := frameEncodesRow.holds Tryd.pinned (OpenSpec.ofChange frameEncodesWrong)

/-- 'haversacklaw18.FrameFeeds': WHATEVER THE INPUT: true; the input reads as it did. -/
def frameFeedsSpec : ChangeSpec := { name := "frameFeeds", fn := fun _ => fun
  | [d] => { results := [.lit (.bool true)], args := [d] }
  | _ => none }
def frameFeedsRow : OpenClaim := { program := "ytdjjchfhccmjgaadoor", sum := "bc8294caf03827a8ec47fabe4eaf6c231c606c6430f80b6177149f91e7a7e369", func := "haversack/haversacklaw18.FrameFeeds", spec := "frameFeeds", unfollowed := true, recurses := true, named := ["haversack/little.steps"], apart := false, laid := [("haversack/little.steps", laid_haversack_little_steps)] }
def FrameFeedsSaid : Prop := frameFeedsRow.holds Tryd.pinned (OpenSpec.ofChange frameFeedsSpec)

/-- ITS FALSE NEIGHBOUR: 'it returns false'. Refute it at one input. -/
def frameFeedsWrong : ChangeSpec := { name := "frameFeeds", fn := fun _ => fun
  | [d] => { results := [.lit (.bool false)], args := [d] }
  | _ => none }
def FrameFeedsWrongFalsely : Prop := frameFeedsRow.holds Tryd.pinned (OpenSpec.ofChange frameFeedsWrong)

/-- 'haversacklaw18.FrameParts': WHATEVER THE INPUT: true; the input reads as it did. -/
def framePartsSpec : ChangeSpec := { name := "frameParts", fn := fun _ => fun
  | [d1, d2] => { results := [.lit (.bool true)], args := [d1, d2] }
  | _ => none }
def framePartsRow : OpenClaim := { program := "ytdjjchfhccmjgaadoor", sum := "bc8294caf03827a8ec47fabe4eaf6c231c606c6430f80b6177149f91e7a7e369", func := "haversack/haversacklaw18.FrameParts", spec := "frameParts", unfollowed := true, recurses := true, named := ["haversack/little.steps"], apart := false, laid := [("haversack/little.steps", laid_haversack_little_steps)] }
def FramePartsSaid : Prop := framePartsRow.holds Tryd.pinned (OpenSpec.ofChange framePartsSpec)

/-- ITS FALSE NEIGHBOUR: 'it returns false'. Refute it at one input. -/
def framePartsWrong : ChangeSpec := { name := "frameParts", fn := fun _ => fun
  | [d1, d2] => { results := [.lit (.bool false)], args := [d1, d2] }
  | _ => none }
def FramePartsWrongFalsely : Prop := framePartsRow.holds Tryd.pinned (OpenSpec.ofChange framePartsWrong)

/-- 'haversacklaw18.FrameRound': WHATEVER THE INPUT: true; the input reads as it did. -/
def frameRoundSpec : ChangeSpec := { name := "frameRound", fn := fun _ => fun
  | [d] => { results := [.lit (.bool true)], args := [d] }
  | _ => none }
def frameRoundRow : OpenClaim := { program := "ytdjjchfhccmjgaadoor", sum := "bc8294caf03827a8ec47fabe4eaf6c231c606c6430f80b6177149f91e7a7e369", func := "haversack/haversacklaw18.FrameRound", spec := "frameRound", unfollowed := true, recurses := true, named := ["haversack/little.steps"], apart := false, laid := [("haversack/little.steps", laid_haversack_little_steps)] }
def FrameRoundSaid : Prop := frameRoundRow.holds Tryd.pinned (OpenSpec.ofChange frameRoundSpec)

/-- ITS FALSE NEIGHBOUR: 'it returns false'. Refute it at one input. -/
def frameRoundWrong : ChangeSpec := { name := "frameRound", fn := fun _ => fun
  | [d] => { results := [.lit (.bool false)], args := [d] }
  | _ => none }
def FrameRoundWrongFalsely : Prop := frameRoundRow.holds Tryd.pinned (OpenSpec.ofChange frameRoundWrong)

/-- 'haversacklaw18.FrameTells': WHATEVER THE INPUT: true; the input reads as it did. -/
def frameTellsSpec : ChangeSpec := { name := "frameTells", fn := fun _ => fun
  | [d1, d2, d3, d4] => { results := [.lit (.bool true)], args := [d1, d2, d3, d4] }
  | _ => none }
def frameTellsRow : OpenClaim := { program := "ytdjjchfhccmjgaadoor", sum := "bc8294caf03827a8ec47fabe4eaf6c231c606c6430f80b6177149f91e7a7e369", func := "haversack/haversacklaw18.FrameTells", spec := "frameTells", unfollowed := true, recurses := true, named := ["haversack/little.steps"], apart := false, laid := [("haversack/little.steps", laid_haversack_little_steps)] }
def FrameTellsSaid : Prop := frameTellsRow.holds Tryd.pinned (OpenSpec.ofChange frameTellsSpec)

/-- ITS FALSE NEIGHBOUR: 'it returns false'. Refute it at one input. -/
def frameTellsWrong : ChangeSpec := { name := "frameTells", fn := fun _ => fun
  | [d1, d2, d3, d4] => { results := [.lit (.bool false)], args := [d1, d2, d3, d4] }
  | _ => none }
def FrameTellsWrongFalsely : Prop := frameTellsRow.holds Tryd.pinned (OpenSpec.ofChange frameTellsWrong)

/-- 'haversacklaw18.FrameNil': WHATEVER THE INPUT: true; the input reads as it did. -/
def frameNilSpec : ChangeSpec := { name := "frameNil", fn := fun _ => fun
  | [d] => { results := [.lit (.bool true)], args := [d] }
  | _ => none }
def frameNilRow : OpenClaim := { program := "ytdjjchfhccmjgaadoor", sum := "bc8294caf03827a8ec47fabe4eaf6c231c606c6430f80b6177149f91e7a7e369", func := "haversack/haversacklaw18.FrameNil", spec := "frameNil", unfollowed := true, recurses := true, named := ["haversack/little.steps"], apart := false, laid := [("haversack/little.steps", laid_haversack_little_steps)] }
def FrameNilSaid : Prop := frameNilRow.holds Tryd.pinned (OpenSpec.ofChange frameNilSpec)

/-- ITS FALSE NEIGHBOUR: 'it returns false'. Refute it at one input. -/
def frameNilWrong : ChangeSpec := { name := "frameNil", fn := fun _ => fun
  | [d] => { results := [.lit (.bool false)], args := [d] }
  | _ => none }
def FrameNilWrongFalsely : Prop := frameNilRow.holds Tryd.pinned (OpenSpec.ofChange frameNilWrong)

/- THE SECOND FORM. 'bulk': how many values and letters a reading holds, each counted each time it is reached (what is shared counts as often as it is met; a slice's spare places count too). A statement '..UptoSaid' is the law's where the arguments, and the package variables that the reading takes, are together of bulk at most 1048576: NARROWER than '..Said'. Prove '..Said' where nothing that the law and all that it calls make is longer than what came in: it says more and counts as full. Else prove '..UptoSaid'. A law counts once. -/
mutual
def uptoBulk {H : Type} : DataW H → Nat
  | .lit (.string bytes) => bytes.length + 1
  | .lit _ => 1
  | .nil => 1
  | .ptr d => uptoBulk d + 1
  | .slice elems spare => uptoBulkAll elems + uptoBulkAll spare + 1
  | .agg parts => uptoBulkAll parts + 1
  | .iface _ d => uptoBulk d + 1
  | .map entries => uptoBulkEntries entries + 1
  | .held _ => 1
def uptoBulkAll {H : Type} : List (DataW H) → Nat
  | [] => 0
  | d :: r => uptoBulk d + uptoBulkAll r
def uptoBulkEntries {H : Type} : List (Lit × DataW H) → Nat
  | [] => 0
  | x :: r => uptoBulkEntry x + uptoBulkEntries r
def uptoBulkEntry {H : Type} : Lit × DataW H → Nat
  | (.string bytes, d) => bytes.length + uptoBulk d + 1
  | (_, d) => uptoBulk d + 1
 end
def uptoSmall : (H : Type) → List (DataW H) → Bool := fun _ ds => decide (uptoBulkAll ds ≤ 1048576)
def OpenSpec.upto (s : _root_.Go.ChangeSpec) : _root_.Go.OpenSpec := { _root_.Go.OpenSpec.ofChange s with cond := some uptoSmall }

/-- 'haversacklaw18.FrameEncodes', WHERE WHAT IT READS IS OF BULK AT MOST 1048576: true; the input reads as it did. -/
def frameEncodesUptoRow : OpenClaim := { program := "ytdjjchfhccmjgaadoor", sum := "bc8294caf03827a8ec47fabe4eaf6c231c606c6430f80b6177149f91e7a7e369", func := "haversack/haversacklaw18.FrameEncodes", spec := "frameEncodes", unfollowed := true, recurses := true, named := ["haversack/little.steps"], apart := false, laid := [("haversack/little.steps", laid_haversack_little_steps)], narrowed := true }
def FrameEncodesUptoSaid : Prop := frameEncodesUptoRow.holds Tryd.pinned (OpenSpec.upto frameEncodesSpec)

/-- 'haversacklaw18.FrameFeeds', WHERE WHAT IT READS IS OF BULK AT MOST 1048576: true; the input reads as it did. -/
def frameFeedsUptoRow : OpenClaim := { program := "ytdjjchfhccmjgaadoor", sum := "bc8294caf03827a8ec47fabe4eaf6c231c606c6430f80b6177149f91e7a7e369", func := "haversack/haversacklaw18.FrameFeeds", spec := "frameFeeds", unfollowed := true, recurses := true, named := ["haversack/little.steps"], apart := false, laid := [("haversack/little.steps", laid_haversack_little_steps)], narrowed := true }
def FrameFeedsUptoSaid : Prop := frameFeedsUptoRow.holds Tryd.pinned (OpenSpec.upto frameFeedsSpec)

/-- 'haversacklaw18.FrameParts', WHERE WHAT IT READS IS OF BULK AT MOST 1048576: true; the input reads as it did. -/
def framePartsUptoRow : OpenClaim := { program := "ytdjjchfhccmjgaadoor", sum := "bc8294caf03827a8ec47fabe4eaf6c231c606c6430f80b6177149f91e7a7e369", func := "haversack/haversacklaw18.FrameParts", spec := "frameParts", unfollowed := true, recurses := true, named := ["haversack/little.steps"], apart := false, laid := [("haversack/little.steps", laid_haversack_little_steps)], narrowed := true }
def FramePartsUptoSaid : Prop := framePartsUptoRow.holds Tryd.pinned (OpenSpec.upto framePartsSpec)

/-- 'haversacklaw18.FrameRound', WHERE WHAT IT READS IS OF BULK AT MOST 1048576: true; the input reads as it did. -/
def frameRoundUptoRow : OpenClaim := { program := "ytdjjchfhccmjgaadoor", sum := "bc8294caf03827a8ec47fabe4eaf6c231c606c6430f80b6177149f91e7a7e369", func := "haversack/haversacklaw18.FrameRound", spec := "frameRound", unfollowed := true, recurses := true, named := ["haversack/little.steps"], apart := false, laid := [("haversack/little.steps", laid_haversack_little_steps)], narrowed := true }
def FrameRoundUptoSaid : Prop := frameRoundUptoRow.holds Tryd.pinned (OpenSpec.upto frameRoundSpec)

/-- 'haversacklaw18.FrameTells', WHERE WHAT IT READS IS OF BULK AT MOST 1048576: true; the input reads as it did. -/
def frameTellsUptoRow : OpenClaim := { program := "ytdjjchfhccmjgaadoor", sum := "bc8294caf03827a8ec47fabe4eaf6c231c606c6430f80b6177149f91e7a7e369", func := "haversack/haversacklaw18.FrameTells", spec := "frameTells", unfollowed := true, recurses := true, named := ["haversack/little.steps"], apart := false, laid := [("haversack/little.steps", laid_haversack_little_steps)], narrowed := true }
def FrameTellsUptoSaid : Prop := frameTellsUptoRow.holds Tryd.pinned (OpenSpec.upto frameTellsSpec)

/-- 'haversacklaw18.FrameNil', WHERE WHAT IT READS IS OF BULK AT MOST 1048576: true; the input reads as it did. -/
def frameNilUptoRow : OpenClaim := { program := "ytdjjchfhccmjgaadoor", sum := "bc8294caf03827a8ec47fabe4eaf6c231c606c6430f80b6177149f91e7a7e369", func := "haversack/haversacklaw18.FrameNil", spec := "frameNil", unfollowed := true, recurses := true, named := ["haversack/little.steps"], apart := false, laid := [("haversack/little.steps", laid_haversack_little_steps)], narrowed := true }
def FrameNilUptoSaid : Prop := frameNilUptoRow.holds Tryd.pinned (OpenSpec.upto frameNilSpec)

end Rows
end Go.Proofs.YtdjjchfhccmjgaaDoor
