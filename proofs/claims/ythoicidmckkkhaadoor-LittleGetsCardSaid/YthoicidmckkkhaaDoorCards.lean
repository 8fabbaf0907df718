/-
  DERIVED. GIVEN WITH THE SEED: THE CARDS: each row of YthoicidmckkkhaaDoorRows.lean that lists a variable, with what it lists TIED to the program's text (the seventh form; the later family's looks); each row that meets fmt, with fmt's text TOLD by the authors' own Lean function (tested against real Go, not proved from fmt's source: count such statements apart). THE CARD IS WHAT COUNTS. Prove the row's statement (the work); the ties are given (YthoicidmckkkhaaDoorTie.lean); close each card by the builder's one call (the guide's Derived/Test/ToyasCard.lean, 'card_holds'). Laid BY PROGRAM, IN A SANDBOX (cutbox-door.mjs). By AI agents, Wed Nov 11 2026. No macro, syntax, notation, axiom, sorry.
-/
import Derived.Test.YthoicidmckkkhaaDoorRows
import GoSem.ClaimSeven
namespace Go.Proofs.YthoicidmckkkhaaDoor
namespace Rows

/-- THE TIED CARD OF 'haversacklaw02.LittleSums'. -/
def littleSumsCard : Claim7 := { stood := { row := littleSumsRow, standIns := [], harness := (true, "fcdad2f8edabf376610a326cfcb4788fe6f6d3f53b112b8abd8452b1de1893b1"), looks := false }, kinds := [], alts := [], laidByText := true, laidKinds := [.data], laidTests := true, laidLooks := .later }
def LittleSumsCardSaid : Prop := Claim7.holds Tryd.pinned (.plain (OpenSpec.ofChange littleSumsSpec)) littleSumsCard

/-- THE TIED CARD OF 'haversacklaw02.LittleJoins'. -/
def littleJoinsCard : Claim7 := { stood := { row := littleJoinsRow, standIns := [], harness := (true, "fcdad2f8edabf376610a326cfcb4788fe6f6d3f53b112b8abd8452b1de1893b1"), looks := false }, kinds := [], alts := [], laidByText := true, laidKinds := [.data], laidTests := true, laidLooks := .later }
def LittleJoinsCardSaid : Prop := Claim7.holds Tryd.pinned (.plain (OpenSpec.ofChange littleJoinsSpec)) littleJoinsCard

/-- THE TIED CARD OF 'haversacklaw02.LittleTells'. -/
def littleTellsCard : Claim7 := { stood := { row := littleTellsRow, standIns := [], harness := (true, "fcdad2f8edabf376610a326cfcb4788fe6f6d3f53b112b8abd8452b1de1893b1"), looks := false }, kinds := [], alts := [], laidByText := true, laidKinds := [.data], laidTests := true, laidLooks := .later }
def LittleTellsCardSaid : Prop := Claim7.holds Tryd.pinned (.plain (OpenSpec.ofChange littleTellsSpec)) littleTellsCard

/-- THE TIED CARD OF 'haversacklaw02.LittlePuts'. -/
def littlePutsCard : Claim7 := { stood := { row := littlePutsRow, standIns := [], harness := (true, "fcdad2f8edabf376610a326cfcb4788fe6f6d3f53b112b8abd8452b1de1893b1"), looks := false }, kinds := [], alts := [], laidByText := true, laidKinds := [.data], laidTests := true, laidLooks := .later }
def LittlePutsCardSaid : Prop := Claim7.holds Tryd.pinned (.plain (OpenSpec.ofChange littlePutsSpec)) littlePutsCard

/-- THE TIED CARD OF 'haversacklaw02.LittleGets'. -/
def littleGetsCard : Claim7 := { stood := { row := littleGetsRow, standIns := [], harness := (true, "fcdad2f8edabf376610a326cfcb4788fe6f6d3f53b112b8abd8452b1de1893b1"), looks := false }, kinds := [], alts := [], laidByText := true, laidKinds := [.data], laidTests := true, laidLooks := .later }
def LittleGetsCardSaid : Prop := Claim7.holds Tryd.pinned (.plain (OpenSpec.ofChange littleGetsSpec)) littleGetsCard

/-- THE TIED CARD OF 'haversacklaw02.LittleRound'. -/
def littleRoundCard : Claim7 := { stood := { row := littleRoundRow, standIns := [], harness := (true, "fcdad2f8edabf376610a326cfcb4788fe6f6d3f53b112b8abd8452b1de1893b1"), looks := false }, kinds := [], alts := [], laidByText := true, laidKinds := [.data], laidTests := true, laidLooks := .later }
def LittleRoundCardSaid : Prop := Claim7.holds Tryd.pinned (.plain (OpenSpec.ofChange littleRoundSpec)) littleRoundCard

/-- THE SECOND FORM's CARD OF 'haversacklaw02.LittleSums'. -/
def littleSumsUptoCard : Claim7 := { stood := { row := littleSumsUptoRow, standIns := [], harness := (true, "fcdad2f8edabf376610a326cfcb4788fe6f6d3f53b112b8abd8452b1de1893b1"), looks := false }, kinds := [], alts := [], laidByText := true, laidKinds := [.data], laidTests := true, laidLooks := .later }
def LittleSumsUptoCardSaid : Prop := Claim7.holds Tryd.pinned (.plain (OpenSpec.upto littleSumsSpec)) littleSumsUptoCard

/-- THE SECOND FORM's CARD OF 'haversacklaw02.LittleJoins'. -/
def littleJoinsUptoCard : Claim7 := { stood := { row := littleJoinsUptoRow, standIns := [], harness := (true, "fcdad2f8edabf376610a326cfcb4788fe6f6d3f53b112b8abd8452b1de1893b1"), looks := false }, kinds := [], alts := [], laidByText := true, laidKinds := [.data], laidTests := true, laidLooks := .later }
def LittleJoinsUptoCardSaid : Prop := Claim7.holds Tryd.pinned (.plain (OpenSpec.upto littleJoinsSpec)) littleJoinsUptoCard

/-- THE SECOND FORM's CARD OF 'haversacklaw02.LittleTells'. -/
def littleTellsUptoCard : Claim7 := { stood := { row := littleTellsUptoRow, standIns := [], harness := (true, "fcdad2f8edabf376610a326cfcb4788fe6f6d3f53b112b8abd8452b1de1893b1"), looks := false }, kinds := [], alts := [], laidByText := true, laidKinds := [.data], laidTests := true, laidLooks := .later }
def LittleTellsUptoCardSaid : Prop := Claim7.holds Tryd.pinned (.plain (OpenSpec.upto littleTellsSpec)) littleTellsUptoCard

/-- THE SECOND FORM's CARD OF 'haversacklaw02.LittlePuts'. -/
def littlePutsUptoCard : Claim7 := { stood := { row := littlePutsUptoRow, standIns := [], harness := (true, "fcdad2f8edabf376610a326cfcb4788fe6f6d3f53b112b8abd8452b1de1893b1"), looks := false }, kinds := [], alts := [], laidByText := true, laidKinds := [.data], laidTests := true, laidLooks := .later }
def LittlePutsUptoCardSaid : Prop := Claim7.holds Tryd.pinned (.plain (OpenSpec.upto littlePutsSpec)) littlePutsUptoCard

/-- THE SECOND FORM's CARD OF 'haversacklaw02.LittleGets'. -/
def littleGetsUptoCard : Claim7 := { stood := { row := littleGetsUptoRow, standIns := [], harness := (true, "fcdad2f8edabf376610a326cfcb4788fe6f6d3f53b112b8abd8452b1de1893b1"), looks := false }, kinds := [], alts := [], laidByText := true, laidKinds := [.data], laidTests := true, laidLooks := .later }
def LittleGetsUptoCardSaid : Prop := Claim7.holds Tryd.pinned (.plain (OpenSpec.upto littleGetsSpec)) littleGetsUptoCard

/-- THE SECOND FORM's CARD OF 'haversacklaw02.LittleRound'. -/
def littleRoundUptoCard : Claim7 := { stood := { row := littleRoundUptoRow, standIns := [], harness := (true, "fcdad2f8edabf376610a326cfcb4788fe6f6d3f53b112b8abd8452b1de1893b1"), looks := false }, kinds := [], alts := [], laidByText := true, laidKinds := [.data], laidTests := true, laidLooks := .later }
def LittleRoundUptoCardSaid : Prop := Claim7.holds Tryd.pinned (.plain (OpenSpec.upto littleRoundSpec)) littleRoundUptoCard
end Rows
end Go.Proofs.YthoicidmckkkhaaDoor
