/-
  DERIVED. GIVEN WITH THE SEED: THE CARDS: each row of YtahigbbfilalgaaDoorRows.lean that lists a variable, with what it lists TIED to the program's text (the seventh form; the later family's looks); each row that meets fmt, with fmt's text TOLD by the authors' own Lean function (tested against real Go, not proved from fmt's source: count such statements apart). THE CARD IS WHAT COUNTS. Prove the row's statement (the work); the ties are given (YtahigbbfilalgaaDoorTie.lean); close each card by the builder's one call (the guide's Derived/Test/ToyasCard.lean, 'card_holds'). Laid BY PROGRAM, IN A SANDBOX (cutbox-door.mjs). By AI agents, Wed Nov 11 2026. No macro, syntax, notation, axiom, sorry.
-/
import Derived.Test.YtahigbbfilalgaaDoorRows
import GoSem.ClaimSeven
namespace Go.Proofs.YtahigbbfilalgaaDoor
namespace Rows

/-- THE TIED CARD OF 'haversacklaw16.TokenRound'. -/
def tokenRoundCard : Claim7 := { stood := { row := tokenRoundRow, standIns := [], harness := (true, "db28f0a573efe1afa5e97fe4001a881509e533a11d8f4244ae3585ef9230f28c"), looks := true }, kinds := [], alts := [], laidByText := true, laidKinds := [.data, .data, .data, .data, .data, .sentinel, .sentinel, .pinned], laidTests := true, laidLooks := .later }
def TokenRoundCardSaid : Prop := Claim7.holds Tryd.pinned (.plain (OpenSpec.ofChange tokenRoundSpec)) tokenRoundCard

/-- THE TIED CARD OF 'haversacklaw16.TokenHolds'. -/
def tokenHoldsCard : Claim7 := { stood := { row := tokenHoldsRow, standIns := [], harness := (true, "db28f0a573efe1afa5e97fe4001a881509e533a11d8f4244ae3585ef9230f28c"), looks := true }, kinds := [], alts := [], laidByText := true, laidKinds := [.data, .data, .data, .data, .data, .sentinel, .sentinel, .pinned], laidTests := true, laidLooks := .later }
def TokenHoldsCardSaid : Prop := Claim7.holds Tryd.pinned (.plain (OpenSpec.ofChange tokenHoldsSpec)) tokenHoldsCard

/-- THE TIED CARD OF 'haversacklaw16.TokenNil'. -/
def tokenNilCard : Claim7 := { stood := { row := tokenNilRow, standIns := [], harness := (true, "db28f0a573efe1afa5e97fe4001a881509e533a11d8f4244ae3585ef9230f28c"), looks := true }, kinds := [], alts := [], laidByText := true, laidKinds := [.data, .data, .data, .data, .data, .sentinel, .sentinel, .pinned], laidTests := true, laidLooks := .later }
def TokenNilCardSaid : Prop := Claim7.holds Tryd.pinned (.plain (OpenSpec.ofChange tokenNilSpec)) tokenNilCard

/-- THE SECOND FORM's CARD OF 'haversacklaw16.TokenRound'. -/
def tokenRoundUptoCard : Claim7 := { stood := { row := tokenRoundUptoRow, standIns := [], harness := (true, "db28f0a573efe1afa5e97fe4001a881509e533a11d8f4244ae3585ef9230f28c"), looks := true }, kinds := [], alts := [], laidByText := true, laidKinds := [.data, .data, .data, .data, .data, .sentinel, .sentinel, .pinned], laidTests := true, laidLooks := .later }
def TokenRoundUptoCardSaid : Prop := Claim7.holds Tryd.pinned (.plain (OpenSpec.upto tokenRoundSpec)) tokenRoundUptoCard

/-- THE SECOND FORM's CARD OF 'haversacklaw16.TokenHolds'. -/
def tokenHoldsUptoCard : Claim7 := { stood := { row := tokenHoldsUptoRow, standIns := [], harness := (true, "db28f0a573efe1afa5e97fe4001a881509e533a11d8f4244ae3585ef9230f28c"), looks := true }, kinds := [], alts := [], laidByText := true, laidKinds := [.data, .data, .data, .data, .data, .sentinel, .sentinel, .pinned], laidTests := true, laidLooks := .later }
def TokenHoldsUptoCardSaid : Prop := Claim7.holds Tryd.pinned (.plain (OpenSpec.upto tokenHoldsSpec)) tokenHoldsUptoCard

/-- THE SECOND FORM's CARD OF 'haversacklaw16.TokenNil'. -/
def tokenNilUptoCard : Claim7 := { stood := { row := tokenNilUptoRow, standIns := [], harness := (true, "db28f0a573efe1afa5e97fe4001a881509e533a11d8f4244ae3585ef9230f28c"), looks := true }, kinds := [], alts := [], laidByText := true, laidKinds := [.data, .data, .data, .data, .data, .sentinel, .sentinel, .pinned], laidTests := true, laidLooks := .later }
def TokenNilUptoCardSaid : Prop := Claim7.holds Tryd.pinned (.plain (OpenSpec.upto tokenNilSpec)) tokenNilUptoCard
end Rows
end Go.Proofs.YtahigbbfilalgaaDoor
