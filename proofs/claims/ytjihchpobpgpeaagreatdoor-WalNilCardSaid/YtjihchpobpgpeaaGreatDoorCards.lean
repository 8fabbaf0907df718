/-
  DERIVED. GIVEN WITH THE SEED: THE CARDS: each row of YtjihchpobpgpeaaGreatDoorRows.lean that lists a variable, with what it lists TIED to the program's text (the seventh form; the later family's looks); each row that meets fmt, with fmt's text TOLD by the authors' own Lean function (tested against real Go, not proved from fmt's source: count such statements apart). THE CARD IS WHAT COUNTS. Prove the row's statement (the work); the ties are given (YtjihchpobpgpeaaGreatDoorTie.lean); close each card by the builder's one call (the guide's Derived/Test/ToyasCard.lean, 'card_holds'). Laid BY PROGRAM, IN A SANDBOX (cutbox-door.mjs). By AI agents, Wed Nov 11 2026. No macro, syntax, notation, axiom, sorry.
-/
import Derived.Test.YtjihchpobpgpeaaGreatDoorRows
import GoSem.ClaimSeven
namespace Go.Proofs.YtjihchpobpgpeaaGreatDoor
namespace Rows

/-- THE TIED CARD OF 'haversacklaw10.WalCuts'. -/
def walCutsCard : Claim7 := { stood := { row := walCutsRow, standIns := [], harness := (true, "c5a184dafd91e7abf421c272b3e0ebbe4d06b1cb1192e33df0f54f8d33668903"), looks := true }, kinds := [], alts := [], laidByText := true, laidKinds := [.data, .data, .data, .sentinel, .sentinel, .data], laidTests := true, laidLooks := .later }
def WalCutsCardSaid : Prop := Claim7.holds Tryz.pinned (.plain (OpenSpec.ofChange walCutsSpec)) walCutsCard

/-- THE TIED CARD OF 'haversacklaw10.WalNil'. -/
def walNilCard : Claim7 := { stood := { row := walNilRow, standIns := [], harness := (true, "c5a184dafd91e7abf421c272b3e0ebbe4d06b1cb1192e33df0f54f8d33668903"), looks := true }, kinds := [], alts := [], laidByText := true, laidKinds := [.data, .data, .data, .sentinel, .sentinel, .data], laidTests := true, laidLooks := .later }
def WalNilCardSaid : Prop := Claim7.holds Tryz.pinned (.plain (OpenSpec.ofChange walNilSpec)) walNilCard

/-- THE SECOND FORM's CARD OF 'haversacklaw10.WalCuts'. -/
def walCutsUptoCard : Claim7 := { stood := { row := walCutsUptoRow, standIns := [], harness := (true, "c5a184dafd91e7abf421c272b3e0ebbe4d06b1cb1192e33df0f54f8d33668903"), looks := true }, kinds := [], alts := [], laidByText := true, laidKinds := [.data, .data, .data, .sentinel, .sentinel, .data], laidTests := true, laidLooks := .later }
def WalCutsUptoCardSaid : Prop := Claim7.holds Tryz.pinned (.plain (OpenSpec.upto walCutsSpec)) walCutsUptoCard

/-- THE SECOND FORM's CARD OF 'haversacklaw10.WalNil'. -/
def walNilUptoCard : Claim7 := { stood := { row := walNilUptoRow, standIns := [], harness := (true, "c5a184dafd91e7abf421c272b3e0ebbe4d06b1cb1192e33df0f54f8d33668903"), looks := true }, kinds := [], alts := [], laidByText := true, laidKinds := [.data, .data, .data, .sentinel, .sentinel, .data], laidTests := true, laidLooks := .later }
def WalNilUptoCardSaid : Prop := Claim7.holds Tryz.pinned (.plain (OpenSpec.upto walNilSpec)) walNilUptoCard
end Rows
end Go.Proofs.YtjihchpobpgpeaaGreatDoor
