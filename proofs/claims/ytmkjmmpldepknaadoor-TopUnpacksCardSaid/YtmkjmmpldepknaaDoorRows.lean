/-
  NARROWER THAN 'FOR EVERY INPUT', by the rows' own cells (each row's printed sentence says how): TopTokens: laid · TopUnpacks: laid · TopPacks: laid.
  DERIVED. THE GIVEN ROWS OF THIS SEAT. 3 by the template 'for every input the law returns true; each argument reads behind the call as it read before'; 0 by the template 'total and deterministic' (their statements: YtmkjmmpldepknaaDoorTotals.lean).
  GIVEN WITH THE SEED: the statements are not yours to turn. If you find one false, say at which input.
  Laid BY PROGRAM, IN A SANDBOX (cutbox-rows.mjs): the forced cells as the released guide's own fill.sh prints them over the translation 341a9dc6c13860cf… (all of the seat's roots in one cut). By AI agents, Wed Nov 11 2026. No macro, syntax, notation, axiom, sorry.
-/
import Derived.Test.YtmkjmmpldepknaaDoorChecked
import GoSem.Claim
import GoSem.ClaimJoined
import GoSem.ClaimMapViews
import Derived.JoinedTies
import Derived.KernelRfl
namespace Go.Proofs.YtmkjmmpldepknaaDoor
/- THE CELL 'sum', in the pinned program and in every row, IS THE sha256 OF THE DUMP (.gsa) THAT YtmkjmmpldepknaaDoorProg.lean LOADS. Nothing in Lean hashes anything: it is a label: what it is worth is what the hold of that sum in a sandbox is worth. -/
noncomputable def Tryd.pinned : Pinned := { name := "ytmkjmmpldepknaadoor", sum := "341a9dc6c13860cf97cac98b41424bd910706da11ddfa6b47232174cd836b833", checked := Tryd.checked }
namespace Rows
def none {H : Type} : Left H := { results := [], args := [] }

/- WHAT THE LISTED PACKAGE-LEVEL VARIABLES READ AS WHEN THE CALL BEGINS. Each datum BY PROGRAM (the guide's laid-datum.mjs) off the statement by which the dump's own 'gosem.cut.vars' lays the variable. In a bare row this is a premise. The card (YtmkjmmpldepknaaDoorCards.lean) ties it to the program's text. -/
def laid_haversack_lens_order {H : Type} : DataW H := .agg [.lit (.int .i64 16), .lit (.int .i64 17), .lit (.int .i64 18), .lit (.int .i64 0), .lit (.int .i64 8), .lit (.int .i64 7), .lit (.int .i64 9), .lit (.int .i64 6), .lit (.int .i64 10), .lit (.int .i64 5), .lit (.int .i64 11), .lit (.int .i64 4), .lit (.int .i64 12), .lit (.int .i64 3), .lit (.int .i64 13), .lit (.int .i64 2), .lit (.int .i64 14), .lit (.int .i64 1), .lit (.int .i64 15)]
def laid_haversack_lens_wide {H : Type} : DataW H := .agg [.lit (.int .i64 0), .lit (.int .i64 0), .lit (.int .i64 0), .lit (.int .i64 0), .lit (.int .i64 0), .lit (.int .i64 0), .lit (.int .i64 0), .lit (.int .i64 0), .lit (.int .i64 0), .lit (.int .i64 0), .lit (.int .i64 0), .lit (.int .i64 0), .lit (.int .i64 0), .lit (.int .i64 0), .lit (.int .i64 0), .lit (.int .i64 0), .lit (.int .i64 2), .lit (.int .i64 3), .lit (.int .i64 7)]
def laid_haversack_lens_from {H : Type} : DataW H := .agg [.lit (.int .i64 0), .lit (.int .i64 0), .lit (.int .i64 0), .lit (.int .i64 0), .lit (.int .i64 0), .lit (.int .i64 0), .lit (.int .i64 0), .lit (.int .i64 0), .lit (.int .i64 0), .lit (.int .i64 0), .lit (.int .i64 0), .lit (.int .i64 0), .lit (.int .i64 0), .lit (.int .i64 0), .lit (.int .i64 0), .lit (.int .i64 0), .lit (.int .i64 3), .lit (.int .i64 3), .lit (.int .i64 11)]

/-- 'haversacktop.TopTokens': WHATEVER THE INPUT: true; the input reads as it did. -/
def topTokensSpec : ChangeSpec := { name := "topTokens", fn := fun _ => fun
  | [d] => { results := [.lit (.bool true)], args := [d] }
  | _ => none }
def topTokensRow : OpenClaim := { program := "ytmkjmmpldepknaadoor", sum := "341a9dc6c13860cf97cac98b41424bd910706da11ddfa6b47232174cd836b833", func := "haversack/haversacktop.TopTokens", spec := "topTokens", unfollowed := true, recurses := true, named := ["haversack/lens.order", "haversack/lens.wide", "haversack/lens.from"], apart := false, laid := [("haversack/lens.order", laid_haversack_lens_order), ("haversack/lens.wide", laid_haversack_lens_wide), ("haversack/lens.from", laid_haversack_lens_from)] }
def TopTokensSaid : Prop := topTokensRow.holds Tryd.pinned (OpenSpec.ofChange topTokensSpec)

/-- ITS FALSE NEIGHBOUR: 'it returns false'. Refute it at one input. -/
def topTokensWrong : ChangeSpec := { name := "topTokens", fn := fun _ => fun
  | [d] => { results := [.lit (.bool false)], args := [d] }
  | _ => none }
def TopTokensWrongFalsely : Prop := topTokensRow.holds Tryd.pinned (OpenSpec.ofChange topTokensWrong)

/-- 'haversacktop.TopUnpacks': WHATEVER THE INPUT: true; the input reads as it did. -/
def topUnpacksSpec : ChangeSpec := { name := "topUnpacks", fn := fun _ => fun
  | [d1, d2, d3] => { results := [.lit (.bool true)], args := [d1, d2, d3] }
  | _ => none }
def topUnpacksRow : OpenClaim := { program := "ytmkjmmpldepknaadoor", sum := "341a9dc6c13860cf97cac98b41424bd910706da11ddfa6b47232174cd836b833", func := "haversack/haversacktop.TopUnpacks", spec := "topUnpacks", unfollowed := true, recurses := true, named := ["haversack/lens.order", "haversack/lens.wide", "haversack/lens.from"], apart := false, laid := [("haversack/lens.order", laid_haversack_lens_order), ("haversack/lens.wide", laid_haversack_lens_wide), ("haversack/lens.from", laid_haversack_lens_from)] }
def TopUnpacksSaid : Prop := topUnpacksRow.holds Tryd.pinned (OpenSpec.ofChange topUnpacksSpec)

/-- ITS FALSE NEIGHBOUR: 'it returns false'. Refute it at one input. -/
def topUnpacksWrong : ChangeSpec := { name := "topUnpacks", fn := fun _ => fun
  | [d1, d2, d3] => { results := [.lit (.bool false)], args := [d1, d2, d3] }
  | _ => none }
def TopUnpacksWrongFalsely : Prop := topUnpacksRow.holds Tryd.pinned (OpenSpec.ofChange topUnpacksWrong)

/-- 'haversacktop.TopPacks': WHATEVER THE INPUT: true; the input reads as it did. -/
def topPacksSpec : ChangeSpec := { name := "topPacks", fn := fun _ => fun
  | [d1, d2, d3] => { results := [.lit (.bool true)], args := [d1, d2, d3] }
  | _ => none }
def topPacksRow : OpenClaim := { program := "ytmkjmmpldepknaadoor", sum := "341a9dc6c13860cf97cac98b41424bd910706da11ddfa6b47232174cd836b833", func := "haversack/haversacktop.TopPacks", spec := "topPacks", unfollowed := true, recurses := true, named := ["haversack/lens.order", "haversack/lens.wide", "haversack/lens.from"], apart := false, laid := [("haversack/lens.order", laid_haversack_lens_order), ("haversack/lens.wide", laid_haversack_lens_wide), ("haversack/lens.from", laid_haversack_lens_from)] }
def TopPacksSaid : Prop := topPacksRow.holds Tryd.pinned (OpenSpec.ofChange topPacksSpec)

/-- ITS FALSE NEIGHBOUR: 'it returns false'. Refute it at one input. -/
def topPacksWrong : ChangeSpec := { name := "topPacks", fn := fun _ => fun
  | [d1, d2, d3] => { results := [.lit (.bool false)], args := [d1, d2, d3] }
  | _ => none }
def TopPacksWrongFalsely : Prop := topPacksRow.holds Tryd.pinned (OpenSpec.ofChange topPacksWrong)

/- THE SECOND FORM. 'bulk': how many values and letters a reading holds, each counted each time it is reached (what is shared counts as often as it is met; a slice's spare places count too). A statement '..UptoSaid' is the law's where the arguments, and the package variables that the reading takes, are together of bulk at most 1048576: NARROWER than '..Said'. Prove '..Said' where nothing that the law and all that it calls make is longer than what came in: it says more and counts as full. Else prove '..UptoSaid'. A law counts once. -/
mutual
def uptoBulk {H : Type} : DataW H → Nat
  | .lit (.string bytes) => bytes.length + 1
  | .lit _ => 1
  | .nil => 1
  | .ptr d => uptoBulk d + 1
  | .slice elems spare => uptoBulkAll elems + uptoBulkAll spare + 1
  | .agg parts => uptoBulkAll parts + 1
  | .iface _ d => uptoBulk d + 1
  | .map entries => uptoBulkEntries entries + 1
  | .held _ => 1
def uptoBulkAll {H : Type} : List (DataW H) → Nat
  | [] => 0
  | d :: r => uptoBulk d + uptoBulkAll r
def uptoBulkEntries {H : Type} : List (Lit × DataW H) → Nat
  | [] => 0
  | x :: r => uptoBulkEntry x + uptoBulkEntries r
def uptoBulkEntry {H : Type} : Lit × DataW H → Nat
  | (.string bytes, d) => bytes.length + uptoBulk d + 1
  | (_, d) => uptoBulk d + 1
 end
def uptoSmall : (H : Type) → List (DataW H) → Bool := fun _ ds => decide (uptoBulkAll ds ≤ 1048576)
def OpenSpec.upto (s : _root_.Go.ChangeSpec) : _root_.Go.OpenSpec := { _root_.Go.OpenSpec.ofChange s with cond := some uptoSmall }

/-- 'haversacktop.TopTokens', WHERE WHAT IT READS IS OF BULK AT MOST 1048576: true; the input reads as it did. -/
def topTokensUptoRow : OpenClaim := { program := "ytmkjmmpldepknaadoor", sum := "341a9dc6c13860cf97cac98b41424bd910706da11ddfa6b47232174cd836b833", func := "haversack/haversacktop.TopTokens", spec := "topTokens", unfollowed := true, recurses := true, named := ["haversack/lens.order", "haversack/lens.wide", "haversack/lens.from"], apart := false, laid := [("haversack/lens.order", laid_haversack_lens_order), ("haversack/lens.wide", laid_haversack_lens_wide), ("haversack/lens.from", laid_haversack_lens_from)], narrowed := true }
def TopTokensUptoSaid : Prop := topTokensUptoRow.holds Tryd.pinned (OpenSpec.upto topTokensSpec)

/-- 'haversacktop.TopUnpacks', WHERE WHAT IT READS IS OF BULK AT MOST 1048576: true; the input reads as it did. -/
def topUnpacksUptoRow : OpenClaim := { program := "ytmkjmmpldepknaadoor", sum := "341a9dc6c13860cf97cac98b41424bd910706da11ddfa6b47232174cd836b833", func := "haversack/haversacktop.TopUnpacks", spec := "topUnpacks", unfollowed := true, recurses := true, named := ["haversack/lens.order", "haversack/lens.wide", "haversack/lens.from"], apart := false, laid := [("haversack/lens.order", laid_haversack_lens_order), ("haversack/lens.wide", laid_haversack_lens_wide), ("haversack/lens.from", laid_haversack_lens_from)], narrowed := true }
def TopUnpacksUptoSaid : Prop := topUnpacksUptoRow.holds Tryd.pinned (OpenSpec.upto topUnpacksSpec)

/-- 'haversacktop.TopPacks', WHERE WHAT IT READS IS OF BULK AT MOST 1048576: true; the input reads as it did. -/
def topPacksUptoRow : OpenClaim := { program := "ytmkjmmpldepknaadoor", sum := "341a9dc6c13860cf97cac98b41424bd910706da11ddfa6b47232174cd836b833", func := "haversack/haversacktop.TopPacks", spec := "topPacks", unfollowed := true, recurses := true, named := ["haversack/lens.order", "haversack/lens.wide", "haversack/lens.from"], apart := false, laid := [("haversack/lens.order", laid_haversack_lens_order), ("haversack/lens.wide", laid_haversack_lens_wide), ("haversack/lens.from", laid_haversack_lens_from)], narrowed := true }
def TopPacksUptoSaid : Prop := topPacksUptoRow.holds Tryd.pinned (OpenSpec.upto topPacksSpec)

end Rows
end Go.Proofs.YtmkjmmpldepknaaDoor
