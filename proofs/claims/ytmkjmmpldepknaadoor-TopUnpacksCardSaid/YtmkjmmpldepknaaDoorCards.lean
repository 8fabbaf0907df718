/-
  DERIVED. GIVEN WITH THE SEED: THE CARDS: each row of YtmkjmmpldepknaaDoorRows.lean that lists a variable, with what it lists TIED to the program's text (the seventh form; the later family's looks); each row that meets fmt, with fmt's text TOLD by the authors' own Lean function (tested against real Go, not proved from fmt's source: count such statements apart). THE CARD IS WHAT COUNTS. Prove the row's statement (the work); the ties are given (YtmkjmmpldepknaaDoorTie.lean); close each card by the builder's one call (the guide's Derived/Test/ToyasCard.lean, 'card_holds'). Laid BY PROGRAM, IN A SANDBOX (cutbox-door.mjs). By AI agents, Wed Nov 11 2026. No macro, syntax, notation, axiom, sorry.
-/
import Derived.Test.YtmkjmmpldepknaaDoorRows
import GoSem.ClaimSeven
namespace Go.Proofs.YtmkjmmpldepknaaDoor
namespace Rows

/-- THE TIED CARD OF 'haversacktop.TopTokens'. -/
def topTokensCard : Claim7 := { stood := { row := topTokensRow, standIns := [], harness := (true, "fdf441999a4152853f6240d6d0e8777d0d2b7820928692872b5692a93bddd2db"), looks := false }, kinds := [], alts := [], laidByText := true, laidKinds := [.widerDeep, .data, .data], laidTests := true, laidLooks := .later }
def TopTokensCardSaid : Prop := Claim7.holds Tryd.pinned (.plain (OpenSpec.ofChange topTokensSpec)) topTokensCard

/-- THE TIED CARD OF 'haversacktop.TopUnpacks'. -/
def topUnpacksCard : Claim7 := { stood := { row := topUnpacksRow, standIns := [], harness := (true, "fdf441999a4152853f6240d6d0e8777d0d2b7820928692872b5692a93bddd2db"), looks := false }, kinds := [], alts := [], laidByText := true, laidKinds := [.widerDeep, .data, .data], laidTests := true, laidLooks := .later }
def TopUnpacksCardSaid : Prop := Claim7.holds Tryd.pinned (.plain (OpenSpec.ofChange topUnpacksSpec)) topUnpacksCard

/-- THE TIED CARD OF 'haversacktop.TopPacks'. -/
def topPacksCard : Claim7 := { stood := { row := topPacksRow, standIns := [], harness := (true, "fdf441999a4152853f6240d6d0e8777d0d2b7820928692872b5692a93bddd2db"), looks := false }, kinds := [], alts := [], laidByText := true, laidKinds := [.widerDeep, .data, .data], laidTests := true, laidLooks := .later }
def TopPacksCardSaid : Prop := Claim7.holds Tryd.pinned (.plain (OpenSpec.ofChange topPacksSpec)) topPacksCard

/-- THE SECOND FORM's CARD OF 'haversacktop.TopTokens'. -/
def topTokensUptoCard : Claim7 := { stood := { row := topTokensUptoRow, standIns := [], harness := (true, "fdf441999a4152853f6240d6d0e8777d0d2b7820928692872b5692a93bddd2db"), looks := false }, kinds := [], alts := [], laidByText := true, laidKinds := [.widerDeep, .data, .data], laidTests := true, laidLooks := .later }
def TopTokensUptoCardSaid : Prop := Claim7.holds Tryd.pinned (.plain (OpenSpec.upto topTokensSpec)) topTokensUptoCard

/-- THE SECOND FORM's CARD OF 'haversacktop.TopUnpacks'. -/
def topUnpacksUptoCard : Claim7 := { stood := { row := topUnpacksUptoRow, standIns := [], harness := (true, "fdf441999a4152853f6240d6d0e8777d0d2b7820928692872b5692a93bddd2db"), looks := false }, kinds := [], alts := [], laidByText := true, laidKinds := [.widerDeep, .data, .data], laidTests := true, laidLooks := .later }
def TopUnpacksUptoCardSaid : Prop := Claim7.holds Tryd.pinned (.plain (OpenSpec.upto topUnpacksSpec)) topUnpacksUptoCard

/-- THE SECOND FORM's CARD OF 'haversacktop.TopPacks'. -/
def topPacksUptoCard : Claim7 := { stood := { row := topPacksUptoRow, standIns := [], harness := (true, "fdf441999a4152853f6240d6d0e8777d0d2b7820928692872b5692a93bddd2db"), looks := false }, kinds := [], alts := [], laidByText := true, laidKinds := [.widerDeep, .data, .data], laidTests := true, laidLooks := .later }
def TopPacksUptoCardSaid : Prop := Claim7.holds Tryd.pinned (.plain (OpenSpec.upto topPacksSpec)) topPacksUptoCard
end Rows
end Go.Proofs.YtmkjmmpldepknaaDoor
