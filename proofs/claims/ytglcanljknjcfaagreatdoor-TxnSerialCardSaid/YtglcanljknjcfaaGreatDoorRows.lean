/-
  NARROWER THAN 'FOR EVERY INPUT', by the rows' own cells (each row's printed sentence says how): TxnAlone: laid · TxnSerial: laid · TxnNew: laid · TxnRuns: laid · TxnNil: laid.
  DERIVED. THE GIVEN ROWS OF THIS SEAT. 5 by the template 'for every input the law returns true; each argument reads behind the call as it read before'; 0 by the template 'total and deterministic' (their statements: YtglcanljknjcfaaGreatDoorTotals.lean).
  GIVEN WITH THE SEED: the statements are not yours to turn. If you find one false, say at which input.
  Laid BY PROGRAM, IN A SANDBOX (cutbox-rows.mjs): the forced cells as the released guide's own fill.sh prints them over the translation 06b7b9f849570c2d… (all of the seat's roots in one cut). By AI agents, Wed Nov 11 2026. No macro, syntax, notation, axiom, sorry.
-/
import Derived.Test.YtglcanljknjcfaaGreatDoorChecked
import GoSem.PinnedTables
import GoSem.Claim
import GoSem.ClaimJoined
import GoSem.ClaimMapViews
import Derived.JoinedTies
import Derived.KernelRfl
namespace Go.Proofs.YtglcanljknjcfaaGreatDoor
/- THE CELL 'sum', in the pinned program and in every row, IS THE sha256 OF THE DUMP (.gsa) THAT YtglcanljknjcfaaGreatDoorProg.lean LOADS. Nothing in Lean hashes anything: it is a label: what it is worth is what the hold of that sum in a sandbox is worth. -/
noncomputable def Tryz.pinned : Pinned := { name := "ytglcanljknjcfaagreatdoor", sum := "06b7b9f849570c2da4235b0e8974348a626fdf5a48574522ffbc8f52ff938ae2", checked := Tryz.checked }
namespace Rows
def none {H : Type} : Left H := { results := [], args := [] }

/- WHAT THE LISTED PACKAGE-LEVEL VARIABLES READ AS WHEN THE CALL BEGINS. Each datum BY PROGRAM (the guide's laid-datum.mjs) off the statement by which the dump's own 'gosem.cut.vars' lays the variable. In a bare row this is a premise. The card (YtglcanljknjcfaaGreatDoorCards.lean) ties it to the program's text. -/
def laid_unicode_utf8_acceptRanges {H : Type} : DataW H := .agg [.agg [.lit (.int .u8 128), .lit (.int .u8 191)], .agg [.lit (.int .u8 160), .lit (.int .u8 191)], .agg [.lit (.int .u8 128), .lit (.int .u8 159)], .agg [.lit (.int .u8 144), .lit (.int .u8 191)], .agg [.lit (.int .u8 128), .lit (.int .u8 143)], .agg [.lit (.int .u8 0), .lit (.int .u8 0)], .agg [.lit (.int .u8 0), .lit (.int .u8 0)], .agg [.lit (.int .u8 0), .lit (.int .u8 0)], .agg [.lit (.int .u8 0), .lit (.int .u8 0)], .agg [.lit (.int .u8 0), .lit (.int .u8 0)], .agg [.lit (.int .u8 0), .lit (.int .u8 0)], .agg [.lit (.int .u8 0), .lit (.int .u8 0)], .agg [.lit (.int .u8 0), .lit (.int .u8 0)], .agg [.lit (.int .u8 0), .lit (.int .u8 0)], .agg [.lit (.int .u8 0), .lit (.int .u8 0)], .agg [.lit (.int .u8 0), .lit (.int .u8 0)]]
/-- One of Go's own tables, pinned by name: the form's constant. -/
def laid_unicode_utf8_first : DataW Unit := Go.Pinned.utf8First

/-- 'haversacklaw14.TxnAlone': WHATEVER THE INPUT: true; the input reads as it did. -/
def txnAloneSpec : ChangeSpec := { name := "txnAlone", fn := fun _ => fun
  | [d1, d2, d3] => { results := [.lit (.bool true)], args := [d1, d2, d3] }
  | _ => none }
def txnAloneRow : OpenClaim := { program := "ytglcanljknjcfaagreatdoor", sum := "06b7b9f849570c2da4235b0e8974348a626fdf5a48574522ffbc8f52ff938ae2", func := "haversack/haversacklaw14.TxnAlone", spec := "txnAlone", inPlace := ["internal/bytealg.IndexByteString", "internal/bytealg.IndexString"], unfollowed := true, recurses := true, named := ["unicode/utf8.first", "unicode/utf8.acceptRanges", "internal/bytealg.MaxLen"], plainKeys := false, apart := false, laid := [("unicode/utf8.acceptRanges", laid_unicode_utf8_acceptRanges), ("unicode/utf8.first", laid_unicode_utf8_first)] }
def TxnAloneSaid : Prop := txnAloneRow.holds Tryz.pinned (OpenSpec.ofChange txnAloneSpec)

/-- ITS FALSE NEIGHBOUR: 'it returns false'. Refute it at one input. -/
def txnAloneWrong : ChangeSpec := { name := "txnAlone", fn := fun _ => fun
  | [d1, d2, d3] => { results := [.lit (.bool false)], args := [d1, d2, d3] }
  | _ => none }
def TxnAloneWrongFalsely : Prop := txnAloneRow.holds Tryz.pinned (OpenSpec.ofChange txnAloneWrong)

/-- 'haversacklaw14.TxnSerial': WHATEVER THE INPUT: true; the input reads as it did. -/
def txnSerialSpec : ChangeSpec := { name := "txnSerial", fn := fun _ => fun
  | [d] => { results := [.lit (.bool true)], args := [d] }
  | _ => none }
def txnSerialRow : OpenClaim := { program := "ytglcanljknjcfaagreatdoor", sum := "06b7b9f849570c2da4235b0e8974348a626fdf5a48574522ffbc8f52ff938ae2", func := "haversack/haversacklaw14.TxnSerial", spec := "txnSerial", inPlace := ["internal/bytealg.IndexByteString", "internal/bytealg.IndexString"], unfollowed := true, recurses := true, named := ["unicode/utf8.first", "unicode/utf8.acceptRanges", "internal/bytealg.MaxLen"], plainKeys := false, apart := false, laid := [("unicode/utf8.acceptRanges", laid_unicode_utf8_acceptRanges), ("unicode/utf8.first", laid_unicode_utf8_first)] }
def TxnSerialSaid : Prop := txnSerialRow.holds Tryz.pinned (OpenSpec.ofChange txnSerialSpec)

/-- ITS FALSE NEIGHBOUR: 'it returns false'. Refute it at one input. -/
def txnSerialWrong : ChangeSpec := { name := "txnSerial", fn := fun _ => fun
  | [d] => { results := [.lit (.bool false)], args := [d] }
  | _ => none }
def TxnSerialWrongFalsely : Prop := txnSerialRow.holds Tryz.pinned (OpenSpec.ofChange txnSerialWrong)

/-- 'haversacklaw14.TxnNew': WHATEVER THE INPUT: true; the input reads as it did. -/
def txnNewSpec : ChangeSpec := { name := "txnNew", fn := fun _ => fun
  | [d1, d2, d3] => { results := [.lit (.bool true)], args := [d1, d2, d3] }
  | _ => none }
def txnNewRow : OpenClaim := { program := "ytglcanljknjcfaagreatdoor", sum := "06b7b9f849570c2da4235b0e8974348a626fdf5a48574522ffbc8f52ff938ae2", func := "haversack/haversacklaw14.TxnNew", spec := "txnNew", inPlace := ["internal/bytealg.IndexByteString", "internal/bytealg.IndexString"], unfollowed := true, recurses := true, named := ["unicode/utf8.first", "unicode/utf8.acceptRanges", "internal/bytealg.MaxLen"], plainKeys := false, apart := false, laid := [("unicode/utf8.acceptRanges", laid_unicode_utf8_acceptRanges), ("unicode/utf8.first", laid_unicode_utf8_first)] }
def TxnNewSaid : Prop := txnNewRow.holds Tryz.pinned (OpenSpec.ofChange txnNewSpec)

/-- ITS FALSE NEIGHBOUR: 'it returns false'. Refute it at one input. -/
def txnNewWrong : ChangeSpec := { name := "txnNew", fn := fun _ => fun
  | [d1, d2, d3] => { results := [.lit (.bool false)], args := [d1, d2, d3] }
  | _ => none }
def TxnNewWrongFalsely : Prop := txnNewRow.holds Tryz.pinned (OpenSpec.ofChange txnNewWrong)

/-- 'haversacklaw14.TxnRuns': WHATEVER THE INPUT: true; the input reads as it did. -/
def txnRunsSpec : ChangeSpec := { name := "txnRuns", fn := fun _ => fun
  | [d1, d2] => { results := [.lit (.bool true)], args := [d1, d2] }
  | _ => none }
def txnRunsRow : OpenClaim := { program := "ytglcanljknjcfaagreatdoor", sum := "06b7b9f849570c2da4235b0e8974348a626fdf5a48574522ffbc8f52ff938ae2", func := "haversack/haversacklaw14.TxnRuns", spec := "txnRuns", inPlace := ["internal/bytealg.IndexByteString", "internal/bytealg.IndexString"], unfollowed := true, recurses := true, named := ["unicode/utf8.first", "unicode/utf8.acceptRanges", "internal/bytealg.MaxLen"], plainKeys := false, apart := false, laid := [("unicode/utf8.acceptRanges", laid_unicode_utf8_acceptRanges), ("unicode/utf8.first", laid_unicode_utf8_first)] }
def TxnRunsSaid : Prop := txnRunsRow.holds Tryz.pinned (OpenSpec.ofChange txnRunsSpec)

/-- ITS FALSE NEIGHBOUR: 'it returns false'. Refute it at one input. -/
def txnRunsWrong : ChangeSpec := { name := "txnRuns", fn := fun _ => fun
  | [d1, d2] => { results := [.lit (.bool false)], args := [d1, d2] }
  | _ => none }
def TxnRunsWrongFalsely : Prop := txnRunsRow.holds Tryz.pinned (OpenSpec.ofChange txnRunsWrong)

/-- 'haversacklaw14.TxnNil': WHATEVER THE INPUT: true; the input reads as it did. -/
def txnNilSpec : ChangeSpec := { name := "txnNil", fn := fun _ => fun
  | [d] => { results := [.lit (.bool true)], args := [d] }
  | _ => none }
def txnNilRow : OpenClaim := { program := "ytglcanljknjcfaagreatdoor", sum := "06b7b9f849570c2da4235b0e8974348a626fdf5a48574522ffbc8f52ff938ae2", func := "haversack/haversacklaw14.TxnNil", spec := "txnNil", inPlace := ["internal/bytealg.IndexByteString", "internal/bytealg.IndexString"], unfollowed := true, recurses := true, named := ["unicode/utf8.first", "unicode/utf8.acceptRanges", "internal/bytealg.MaxLen"], plainKeys := false, apart := false, laid := [("unicode/utf8.acceptRanges", laid_unicode_utf8_acceptRanges), ("unicode/utf8.first", laid_unicode_utf8_first)] }
def TxnNilSaid : Prop := txnNilRow.holds Tryz.pinned (OpenSpec.ofChange txnNilSpec)

/-- ITS FALSE NEIGHBOUR: 'it returns false'. Refute it at one input. -/
def txnNilWrong : ChangeSpec := { name := "txnNil", fn := fun _ => fun
  | [d] => { results := [.lit (.bool false)], args := [d] }
  | _ => none }
def TxnNilWrongFalsely : Prop := txnNilRow.holds Tryz.pinned (OpenSpec.ofChange txnNilWrong)

/- THE SECOND FORM. 'bulk': how many values and letters a reading holds, each counted each time it is reached (what is shared counts as often as it is met; a slice's spare places count too). A statement '..UptoSaid' is the law's where the arguments, and the package variables that the reading takes, are together of bulk at most 1048576: NARROWER than '..Said'. Prove '..Said' where nothing that the law and all that it calls make is longer than what came in: it says more and counts as full. Else prove '..UptoSaid'. A law counts once. -/
mutual
def uptoBulk {H : Type} : DataW H → Nat
  | .lit (.string bytes) => bytes.length + 1
  | .lit _ => 1
  | .nil => 1
  | .ptr d => uptoBulk d + 1
  | .slice elems spare => uptoBulkAll elems + uptoBulkAll spare + 1
  | .agg parts => uptoBulkAll parts + 1
  | .iface _ d => uptoBulk d + 1
  | .map entries => uptoBulkEntries entries + 1
  | .held _ => 1
def uptoBulkAll {H : Type} : List (DataW H) → Nat
  | [] => 0
  | d :: r => uptoBulk d + uptoBulkAll r
def uptoBulkEntries {H : Type} : List (Lit × DataW H) → Nat
  | [] => 0
  | x :: r => uptoBulkEntry x + uptoBulkEntries r
def uptoBulkEntry {H : Type} : Lit × DataW H → Nat
  | (.string bytes, d) => bytes.length + uptoBulk d + 1
  | (_, d) => uptoBulk d + 1
 end
def uptoSmall : (H : Type) → List (DataW H) → Bool := fun _ ds => decide (uptoBulkAll ds ≤ 1048576)
def OpenSpec.upto (s : _root_.Go.ChangeSpec) : _root_.Go.OpenSpec := { _root_.Go.OpenSpec.ofChange s with cond := some uptoSmall }

/-- 'haversacklaw14.TxnAlone', WHERE WHAT IT READS IS OF BULK AT MOST 1048576: true; the input reads as it did. -/
def txnAloneUptoRow : OpenClaim := { program := "ytglcanljknjcfaagreatdoor", sum := "06b7b9f849570c2da4235b0e8974348a626fdf5a48574522ffbc8f52ff938ae2", func := "haversack/haversacklaw14.TxnAlone", spec := "txnAlone", inPlace := ["internal/bytealg.IndexByteString", "internal/bytealg.IndexString"], unfollowed := true, recurses := true, named := ["unicode/utf8.first", "unicode/utf8.acceptRanges", "internal/bytealg.MaxLen"], plainKeys := false, apart := false, laid := [("unicode/utf8.acceptRanges", laid_unicode_utf8_acceptRanges), ("unicode/utf8.first", laid_unicode_utf8_first)], narrowed := true }
def TxnAloneUptoSaid : Prop := txnAloneUptoRow.holds Tryz.pinned (OpenSpec.upto txnAloneSpec)

/-- 'haversacklaw14.TxnSerial', WHERE WHAT IT READS IS OF BULK AT MOST 1048576: true; the input reads as it did. -/
def txnSerialUptoRow : OpenClaim := { program := "ytglcanljknjcfaagreatdoor", sum := "06b7b9f849570c2da4235b0e8974348a626fdf5a48574522ffbc8f52ff938ae2", func := "haversack/haversacklaw14.TxnSerial", spec := "txnSerial", inPlace := ["internal/bytealg.IndexByteString", "internal/bytealg.IndexString"], unfollowed := true, recurses := true, named := ["unicode/utf8.first", "unicode/utf8.acceptRanges", "internal/bytealg.MaxLen"], plainKeys := false, apart := false, laid := [("unicode/utf8.acceptRanges", laid_unicode_utf8_acceptRanges), ("unicode/utf8.first", laid_unicode_utf8_first)], narrowed := true }
def TxnSerialUptoSaid : Prop := txnSerialUptoRow.holds Tryz.pinned (OpenSpec.upto txnSerialSpec)

/-- 'haversacklaw14.TxnNew', WHERE WHAT IT READS IS OF BULK AT MOST 1048576: true; the input reads as it did. -/
def txnNewUptoRow : OpenClaim := { program := "ytglcanljknjcfaagreatdoor", sum := "06b7b9f849570c2da4235b0e8974348a626fdf5a48574522ffbc8f52ff938ae2", func := "haversack/haversacklaw14.TxnNew", spec := "txnNew", inPlace := ["internal/bytealg.IndexByteString", "internal/bytealg.IndexString"], unfollowed := true, recurses := true, named := ["unicode/utf8.first", "unicode/utf8.acceptRanges", "internal/bytealg.MaxLen"], plainKeys := false, apart := false, laid := [("unicode/utf8.acceptRanges", laid_unicode_utf8_acceptRanges), ("unicode/utf8.first", laid_unicode_utf8_first)], narrowed := true }
def TxnNewUptoSaid : Prop := txnNewUptoRow.holds Tryz.pinned (OpenSpec.upto txnNewSpec)

/-- 'haversacklaw14.TxnRuns', WHERE WHAT IT READS IS OF BULK AT MOST 1048576: true; the input reads as it did. -/
def txnRunsUptoRow : OpenClaim := { program := "ytglcanljknjcfaagreatdoor", sum := "06b7b9f849570c2da4235b0e8974348a626fdf5a48574522ffbc8f52ff938ae2", func := "haversack/haversacklaw14.TxnRuns", spec := "txnRuns", inPlace := ["internal/bytealg.IndexByteString", "internal/bytealg.IndexString"], unfollowed := true, recurses := true, named := ["unicode/utf8.first", "unicode/utf8.acceptRanges", "internal/bytealg.MaxLen"], plainKeys := false, apart := false, laid := [("unicode/utf8.acceptRanges", laid_unicode_utf8_acceptRanges), ("unicode/utf8.first", laid_unicode_utf8_first)], narrowed := true }
def TxnRunsUptoSaid : Prop := txnRunsUptoRow.holds Tryz.pinned (OpenSpec.upto txnRunsSpec)

/-- 'haversacklaw14.TxnNil', WHERE WHAT IT READS IS OF BULK AT MOST 1048576: true; the input reads as it did. -/
def txnNilUptoRow : OpenClaim := { program := "ytglcanljknjcfaagreatdoor", sum := "06b7b9f849570c2da4235b0e8974348a626fdf5a48574522ffbc8f52ff938ae2", func := "haversack/haversacklaw14.TxnNil", spec := "txnNil", inPlace := ["internal/bytealg.IndexByteString", "internal/bytealg.IndexString"], unfollowed := true, recurses := true, named := ["unicode/utf8.first", "unicode/utf8.acceptRanges", "internal/bytealg.MaxLen"], plainKeys := false, apart := false, laid := [("unicode/utf8.acceptRanges", laid_unicode_utf8_acceptRanges), ("unicode/utf8.first", laid_unicode_utf8_first)], narrowed := true }
def TxnNilUptoSaid : Prop := txnNilUptoRow.holds Tryz.pinned (OpenSpec.upto txnNilSpec)

end Rows
end Go.Proofs.YtglcanljknjcfaaGreatDoor
