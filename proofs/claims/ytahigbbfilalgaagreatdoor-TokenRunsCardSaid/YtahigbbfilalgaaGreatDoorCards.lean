/-
  DERIVED. GIVEN WITH THE SEED: THE CARDS: each row of YtahigbbfilalgaaGreatDoorRows.lean that lists a variable, with what it lists TIED to the program's text (the seventh form; the later family's looks); each row that meets fmt, with fmt's text TOLD by the authors' own Lean function (tested against real Go, not proved from fmt's source: count such statements apart). THE CARD IS WHAT COUNTS. Prove the row's statement (the work); the ties are given (YtahigbbfilalgaaGreatDoorTie.lean); close each card by the builder's one call (the guide's Derived/Test/ToyasCard.lean, 'card_holds'). Laid BY PROGRAM, IN A SANDBOX (cutbox-door.mjs). By AI agents, Wed Nov 11 2026. No macro, syntax, notation, axiom, sorry.
-/
import Derived.Test.YtahigbbfilalgaaGreatDoorRows
import GoSem.ClaimSeven
namespace Go.Proofs.YtahigbbfilalgaaGreatDoor
namespace Rows

/-- THE TIED CARD OF 'haversacklaw16.TokenPrints'. -/
def tokenPrintsCard : Claim7 := { stood := { row := tokenPrintsRow, standIns := [], harness := (true, "9e6567791475d55505bc6ea5cabb6721ea4510127b21898d25036be02a967ac5"), looks := true }, kinds := [], alts := [], laidByText := true, laidKinds := [.data, .data, .data, .data, .data, .sentinel, .sentinel, .pinned], laidTests := true, laidLooks := .later }
def TokenPrintsCardSaid : Prop := Claim7.holds Tryz.pinned (.plain (OpenSpec.ofChange tokenPrintsSpec)) tokenPrintsCard

/-- THE TIED CARD OF 'haversacklaw16.TokenParses'. -/
def tokenParsesCard : Claim7 := { stood := { row := tokenParsesRow, standIns := [], harness := (true, "9e6567791475d55505bc6ea5cabb6721ea4510127b21898d25036be02a967ac5"), looks := true }, kinds := [], alts := [], laidByText := true, laidKinds := [.data, .data, .data, .data, .data, .sentinel, .sentinel, .pinned], laidTests := true, laidLooks := .later }
def TokenParsesCardSaid : Prop := Claim7.holds Tryz.pinned (.plain (OpenSpec.ofChange tokenParsesSpec)) tokenParsesCard

/-- THE TIED CARD OF 'haversacklaw16.TokenRuns'. -/
def tokenRunsCard : Claim7 := { stood := { row := tokenRunsRow, standIns := [], harness := (true, "9e6567791475d55505bc6ea5cabb6721ea4510127b21898d25036be02a967ac5"), looks := true }, kinds := [], alts := [], laidByText := true, laidKinds := [.data, .data, .data, .data, .data, .sentinel, .sentinel, .pinned], laidTests := true, laidLooks := .later }
def TokenRunsCardSaid : Prop := Claim7.holds Tryz.pinned (.plain (OpenSpec.ofChange tokenRunsSpec)) tokenRunsCard

/-- THE SECOND FORM's CARD OF 'haversacklaw16.TokenPrints'. -/
def tokenPrintsUptoCard : Claim7 := { stood := { row := tokenPrintsUptoRow, standIns := [], harness := (true, "9e6567791475d55505bc6ea5cabb6721ea4510127b21898d25036be02a967ac5"), looks := true }, kinds := [], alts := [], laidByText := true, laidKinds := [.data, .data, .data, .data, .data, .sentinel, .sentinel, .pinned], laidTests := true, laidLooks := .later }
def TokenPrintsUptoCardSaid : Prop := Claim7.holds Tryz.pinned (.plain (OpenSpec.upto tokenPrintsSpec)) tokenPrintsUptoCard

/-- THE SECOND FORM's CARD OF 'haversacklaw16.TokenParses'. -/
def tokenParsesUptoCard : Claim7 := { stood := { row := tokenParsesUptoRow, standIns := [], harness := (true, "9e6567791475d55505bc6ea5cabb6721ea4510127b21898d25036be02a967ac5"), looks := true }, kinds := [], alts := [], laidByText := true, laidKinds := [.data, .data, .data, .data, .data, .sentinel, .sentinel, .pinned], laidTests := true, laidLooks := .later }
def TokenParsesUptoCardSaid : Prop := Claim7.holds Tryz.pinned (.plain (OpenSpec.upto tokenParsesSpec)) tokenParsesUptoCard

/-- THE SECOND FORM's CARD OF 'haversacklaw16.TokenRuns'. -/
def tokenRunsUptoCard : Claim7 := { stood := { row := tokenRunsUptoRow, standIns := [], harness := (true, "9e6567791475d55505bc6ea5cabb6721ea4510127b21898d25036be02a967ac5"), looks := true }, kinds := [], alts := [], laidByText := true, laidKinds := [.data, .data, .data, .data, .data, .sentinel, .sentinel, .pinned], laidTests := true, laidLooks := .later }
def TokenRunsUptoCardSaid : Prop := Claim7.holds Tryz.pinned (.plain (OpenSpec.upto tokenRunsSpec)) tokenRunsUptoCard
end Rows
end Go.Proofs.YtahigbbfilalgaaGreatDoor
