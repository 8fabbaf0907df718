/-
  NARROWER THAN 'FOR EVERY INPUT', by the rows' own cells (each row's printed sentence says how): LittleSums: laid · LittleJoins: laid · LittleTells: laid · LittlePuts: laid · LittleGets: laid · LittleRound: laid.
  DERIVED. THE GIVEN ROWS OF THIS SEAT. 6 by the template 'for every input the law returns true; each argument reads behind the call as it read before'; 0 by the template 'total and deterministic' (their statements: YthoicidmckkkhaaDoorTotals.lean).
  GIVEN WITH THE SEED: the statements are not yours to turn. If you find one false, say at which input.
  Laid BY PROGRAM, IN A SANDBOX (cutbox-rows.mjs): the forced cells as the released guide's own fill.sh prints them over the translation 4ca8347bb7035803… (all of the seat's roots in one cut). By AI agents, Wed Nov 11 2026. No macro, syntax, notation, axiom, sorry.
-/
import Derived.Test.YthoicidmckkkhaaDoorChecked
import GoSem.Claim
import GoSem.ClaimJoined
import GoSem.ClaimMapViews
import Derived.JoinedTies
import Derived.KernelRfl
namespace Go.Proofs.YthoicidmckkkhaaDoor
/- THE CELL 'sum', in the pinned program and in every row, IS THE sha256 OF THE DUMP (.gsa) THAT YthoicidmckkkhaaDoorProg.lean LOADS. Nothing in Lean hashes anything: it is a label: what it is worth is what the hold of that sum in a sandbox is worth. -/
noncomputable def Tryd.pinned : Pinned := { name := "ythoicidmckkkhaadoor", sum := "4ca8347bb70358038e0129b059dd344dfc4718beed6979fd0b87c8439d92b02b", checked := Tryd.checked }
namespace Rows
def none {H : Type} : Left H := { results := [], args := [] }

/- WHAT THE LISTED PACKAGE-LEVEL VARIABLES READ AS WHEN THE CALL BEGINS. Each datum BY PROGRAM (the guide's laid-datum.mjs) off the statement by which the dump's own 'gosem.cut.vars' lays the variable. In a bare row this is a premise. The card (YthoicidmckkkhaaDoorCards.lean) ties it to the program's text. -/
def laid_haversack_little_steps {H : Type} : DataW H := .agg [.lit (.int .u32 0), .lit (.int .u32 498536548), .lit (.int .u32 997073096), .lit (.int .u32 651767980), .lit (.int .u32 1994146192), .lit (.int .u32 1802195444), .lit (.int .u32 1303535960), .lit (.int .u32 1342533948), .lit (.int .u32 3988292384), .lit (.int .u32 4027552580), .lit (.int .u32 3604390888), .lit (.int .u32 3412177804), .lit (.int .u32 2607071920), .lit (.int .u32 2262029012), .lit (.int .u32 2685067896), .lit (.int .u32 3183342108)]

/-- 'haversacklaw02.LittleSums': WHATEVER THE INPUT: true; the input reads as it did. -/
def littleSumsSpec : ChangeSpec := { name := "littleSums", fn := fun _ => fun
  | [d1, d2] => { results := [.lit (.bool true)], args := [d1, d2] }
  | _ => none }
def littleSumsRow : OpenClaim := { program := "ythoicidmckkkhaadoor", sum := "4ca8347bb70358038e0129b059dd344dfc4718beed6979fd0b87c8439d92b02b", func := "haversack/haversacklaw02.LittleSums", spec := "littleSums", unfollowed := true, recurses := true, named := ["haversack/little.steps"], apart := false, laid := [("haversack/little.steps", laid_haversack_little_steps)] }
def LittleSumsSaid : Prop := littleSumsRow.holds Tryd.pinned (OpenSpec.ofChange littleSumsSpec)

/-- ITS FALSE NEIGHBOUR: 'it returns false'. Refute it at one input. -/
def littleSumsWrong : ChangeSpec := { name := "littleSums", fn := fun _ => fun
  | [d1, d2] => { results := [.lit (.bool false)], args := [d1, d2] }
  | _ => none }
def LittleSumsWrongFalsely : Prop := littleSumsRow.holds Tryd.pinned (OpenSpec.ofChange littleSumsWrong)

/-- 'haversacklaw02.LittleJoins': WHATEVER THE INPUT: true; the input reads as it did. -/
def littleJoinsSpec : ChangeSpec := { name := "littleJoins", fn := fun _ => fun
  | [d1, d2] => { results := [.lit (.bool true)], args := [d1, d2] }
  | _ => none }
def littleJoinsRow : OpenClaim := { program := "ythoicidmckkkhaadoor", sum := "4ca8347bb70358038e0129b059dd344dfc4718beed6979fd0b87c8439d92b02b", func := "haversack/haversacklaw02.LittleJoins", spec := "littleJoins", unfollowed := true, recurses := true, named := ["haversack/little.steps"], apart := false, laid := [("haversack/little.steps", laid_haversack_little_steps)] }
def LittleJoinsSaid : Prop := littleJoinsRow.holds Tryd.pinned (OpenSpec.ofChange littleJoinsSpec)

/-- ITS FALSE NEIGHBOUR: 'it returns false'. Refute it at one input. -/
def littleJoinsWrong : ChangeSpec := { name := "littleJoins", fn := fun _ => fun
  | [d1, d2] => { results := [.lit (.bool false)], args := [d1, d2] }
  | _ => none }
def LittleJoinsWrongFalsely : Prop := littleJoinsRow.holds Tryd.pinned (OpenSpec.ofChange littleJoinsWrong)

/-- 'haversacklaw02.LittleTells': WHATEVER THE INPUT: true; the input reads as it did. -/
def littleTellsSpec : ChangeSpec := { name := "littleTells", fn := fun _ => fun
  | [d1, d2, d3] => { results := [.lit (.bool true)], args := [d1, d2, d3] }
  | _ => none }
def littleTellsRow : OpenClaim := { program := "ythoicidmckkkhaadoor", sum := "4ca8347bb70358038e0129b059dd344dfc4718beed6979fd0b87c8439d92b02b", func := "haversack/haversacklaw02.LittleTells", spec := "littleTells", unfollowed := true, recurses := true, named := ["haversack/little.steps"], apart := false, laid := [("haversack/little.steps", laid_haversack_little_steps)] }
def LittleTellsSaid : Prop := littleTellsRow.holds Tryd.pinned (OpenSpec.ofChange littleTellsSpec)

/-- ITS FALSE NEIGHBOUR: 'it returns false'. Refute it at one input. -/
def littleTellsWrong : ChangeSpec := { name := "littleTells", fn := fun _ => fun
  | [d1, d2, d3] => { results := [.lit (.bool false)], args := [d1, d2, d3] }
  | _ => none }
def LittleTellsWrongFalsely : Prop := littleTellsRow.holds Tryd.pinned (OpenSpec.ofChange littleTellsWrong)

/-- 'haversacklaw02.LittlePuts': WHATEVER THE INPUT: true; the input reads as it did. -/
def littlePutsSpec : ChangeSpec := { name := "littlePuts", fn := fun _ => fun
  | [d1, d2] => { results := [.lit (.bool true)], args := [d1, d2] }
  | _ => none }
def littlePutsRow : OpenClaim := { program := "ythoicidmckkkhaadoor", sum := "4ca8347bb70358038e0129b059dd344dfc4718beed6979fd0b87c8439d92b02b", func := "haversack/haversacklaw02.LittlePuts", spec := "littlePuts", unfollowed := true, recurses := true, named := ["haversack/little.steps"], apart := false, laid := [("haversack/little.steps", laid_haversack_little_steps)] }
def LittlePutsSaid : Prop := littlePutsRow.holds Tryd.pinned (OpenSpec.ofChange littlePutsSpec)

/-- ITS FALSE NEIGHBOUR: 'it returns false'. Refute it at one input. -/
def littlePutsWrong : ChangeSpec := { name := "littlePuts", fn := fun _ => fun
  | [d1, d2] => { results := [.lit (.bool false)], args := [d1, d2] }
  | _ => none }
def LittlePutsWrongFalsely : Prop := littlePutsRow.holds Tryd.pinned (OpenSpec.ofChange littlePutsWrong)

/-- 'haversacklaw02.LittleGets': WHATEVER THE INPUT: true; the input reads as it did. -/
def littleGetsSpec : ChangeSpec := { name := "littleGets", fn := fun _ => fun
  | [d1, d2] => { results := [.lit (.bool true)], args := [d1, d2] }
  | _ => none }
def littleGetsRow : OpenClaim := { program := "ythoicidmckkkhaadoor", sum := "4ca8347bb70358038e0129b059dd344dfc4718beed6979fd0b87c8439d92b02b", func := "haversack/haversacklaw02.LittleGets", spec := "littleGets", unfollowed := true, recurses := true, named := ["haversack/little.steps"], apart := false, laid := [("haversack/little.steps", laid_haversack_little_steps)] }
def LittleGetsSaid : Prop := littleGetsRow.holds Tryd.pinned (OpenSpec.ofChange littleGetsSpec)

/-- ITS FALSE NEIGHBOUR: 'it returns false'. Refute it at one input. -/
def littleGetsWrong : ChangeSpec := { name := "littleGets", fn := fun _ => fun
  | [d1, d2] => { results := [.lit (.bool false)], args := [d1, d2] }
  | _ => none }
def LittleGetsWrongFalsely : Prop := littleGetsRow.holds Tryd.pinned (OpenSpec.ofChange littleGetsWrong)

/-- 'haversacklaw02.LittleRound': WHATEVER THE INPUT: true; the input reads as it did. -/
def littleRoundSpec : ChangeSpec := { name := "littleRound", fn := fun _ => fun
  | [d1, d2] => { results := [.lit (.bool true)], args := [d1, d2] }
  | _ => none }
def littleRoundRow : OpenClaim := { program := "ythoicidmckkkhaadoor", sum := "4ca8347bb70358038e0129b059dd344dfc4718beed6979fd0b87c8439d92b02b", func := "haversack/haversacklaw02.LittleRound", spec := "littleRound", unfollowed := true, recurses := true, named := ["haversack/little.steps"], apart := false, laid := [("haversack/little.steps", laid_haversack_little_steps)] }
def LittleRoundSaid : Prop := littleRoundRow.holds Tryd.pinned (OpenSpec.ofChange littleRoundSpec)

/-- ITS FALSE NEIGHBOUR: 'it returns false'. Refute it at one input. -/
def littleRoundWrong : ChangeSpec := { name := "littleRound", fn := fun _ => fun
  | [d1, d2] => { results := [.lit (.bool false)], args := [d1, d2] }
  | _ => none }
def LittleRoundWrongFalsely : Prop := littleRoundRow.holds Tryd.pinned (OpenSpec.ofChange littleRoundWrong)

/- THE SECOND FORM. 'bulk': how many values and letters a reading holds, each counted each time it is reached (what is shared counts as often as it is met; a slice's spare places count too). A statement '..UptoSaid' is the law's where the arguments, and the package variables that the reading takes, are together of bulk at most 1048576: NARROWER than '..Said'. Prove '..Said' where nothing that the law and all that it calls make is longer than what came in: it says more and counts as full. Else prove '..UptoSaid'. A law counts once. -/
mutual
def uptoBulk {H : Type} : DataW H → Nat
  | .lit (.string bytes) => bytes.length + 1
  | .lit _ => 1
  | .nil => 1
  | .ptr d => uptoBulk d + 1
  | .slice elems spare => uptoBulkAll elems + uptoBulkAll spare + 1
  | .agg parts => uptoBulkAll parts + 1
  | .iface _ d => uptoBulk d + 1
  | .map entries => uptoBulkEntries entries + 1
  | .held _ => 1
def uptoBulkAll {H : Type} : List (DataW H) → Nat
  | [] => 0
  | d :: r => uptoBulk d + uptoBulkAll r
def uptoBulkEntries {H : Type} : List (Lit × DataW H) → Nat
  | [] => 0
  | x :: r => uptoBulkEntry x + uptoBulkEntries r
def uptoBulkEntry {H : Type} : Lit × DataW H → Nat
  | (.string bytes, d) => bytes.length + uptoBulk d + 1
  | (_, d) => uptoBulk d + 1
 end
def uptoSmall : (H : Type) → List (DataW H) → Bool := fun _ ds => decide (uptoBulkAll ds ≤ 1048576)
def OpenSpec.upto (s : _root_.Go.ChangeSpec) : _root_.Go.OpenSpec := { _root_.Go.OpenSpec.ofChange s with cond := some uptoSmall }

/-- 'haversacklaw02.LittleSums', WHERE WHAT IT READS IS OF BULK AT MOST 1048576: true; the input reads as it did. -/
def littleSumsUptoRow : OpenClaim := { program := "ythoicidmckkkhaadoor", sum := "4ca8347bb70358038e0129b059dd344dfc4718beed6979fd0b87c8439d92b02b", func := "haversack/haversacklaw02.LittleSums", spec := "littleSums", unfollowed := true, recurses := true, named := ["haversack/little.steps"], apart := false, laid := [("haversack/little.steps", laid_haversack_little_steps)], narrowed := true }
def LittleSumsUptoSaid : Prop := littleSumsUptoRow.holds Tryd.pinned (OpenSpec.upto littleSumsSpec)

/-- 'haversacklaw02.LittleJoins', WHERE WHAT IT READS IS OF BULK AT MOST 1048576: true; the input reads as it did. -/
def littleJoinsUptoRow : OpenClaim := { program := "ythoicidmckkkhaadoor", sum := "4ca8347bb70358038e0129b059dd344dfc4718beed6979fd0b87c8439d92b02b", func := "haversack/haversacklaw02.LittleJoins", spec := "littleJoins", unfollowed := true, recurses := true, named := ["haversack/little.steps"], apart := false, laid := [("haversack/little.steps", laid_haversack_little_steps)], narrowed := true }
def LittleJoinsUptoSaid : Prop := littleJoinsUptoRow.holds Tryd.pinned (OpenSpec.upto littleJoinsSpec)

/-- 'haversacklaw02.LittleTells', WHERE WHAT IT READS IS OF BULK AT MOST 1048576: true; the input reads as it did. -/
def littleTellsUptoRow : OpenClaim := { program := "ythoicidmckkkhaadoor", sum := "4ca8347bb70358038e0129b059dd344dfc4718beed6979fd0b87c8439d92b02b", func := "haversack/haversacklaw02.LittleTells", spec := "littleTells", unfollowed := true, recurses := true, named := ["haversack/little.steps"], apart := false, laid := [("haversack/little.steps", laid_haversack_little_steps)], narrowed := true }
def LittleTellsUptoSaid : Prop := littleTellsUptoRow.holds Tryd.pinned (OpenSpec.upto littleTellsSpec)

/-- 'haversacklaw02.LittlePuts', WHERE WHAT IT READS IS OF BULK AT MOST 1048576: true; the input reads as it did. -/
def littlePutsUptoRow : OpenClaim := { program := "ythoicidmckkkhaadoor", sum := "4ca8347bb70358038e0129b059dd344dfc4718beed6979fd0b87c8439d92b02b", func := "haversack/haversacklaw02.LittlePuts", spec := "littlePuts", unfollowed := true, recurses := true, named := ["haversack/little.steps"], apart := false, laid := [("haversack/little.steps", laid_haversack_little_steps)], narrowed := true }
def LittlePutsUptoSaid : Prop := littlePutsUptoRow.holds Tryd.pinned (OpenSpec.upto littlePutsSpec)

/-- 'haversacklaw02.LittleGets', WHERE WHAT IT READS IS OF BULK AT MOST 1048576: true; the input reads as it did. -/
def littleGetsUptoRow : OpenClaim := { program := "ythoicidmckkkhaadoor", sum := "4ca8347bb70358038e0129b059dd344dfc4718beed6979fd0b87c8439d92b02b", func := "haversack/haversacklaw02.LittleGets", spec := "littleGets", unfollowed := true, recurses := true, named := ["haversack/little.steps"], apart := false, laid := [("haversack/little.steps", laid_haversack_little_steps)], narrowed := true }
def LittleGetsUptoSaid : Prop := littleGetsUptoRow.holds Tryd.pinned (OpenSpec.upto littleGetsSpec)

/-- 'haversacklaw02.LittleRound', WHERE WHAT IT READS IS OF BULK AT MOST 1048576: true; the input reads as it did. -/
def littleRoundUptoRow : OpenClaim := { program := "ythoicidmckkkhaadoor", sum := "4ca8347bb70358038e0129b059dd344dfc4718beed6979fd0b87c8439d92b02b", func := "haversack/haversacklaw02.LittleRound", spec := "littleRound", unfollowed := true, recurses := true, named := ["haversack/little.steps"], apart := false, laid := [("haversack/little.steps", laid_haversack_little_steps)], narrowed := true }
def LittleRoundUptoSaid : Prop := littleRoundUptoRow.holds Tryd.pinned (OpenSpec.upto littleRoundSpec)

end Rows
end Go.Proofs.YthoicidmckkkhaaDoor
