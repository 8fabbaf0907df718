/-
  DERIVED. GIVEN WITH THE SEED: THE CARDS: each row of YtdjjchfhccmjgaaDoorRows.lean that lists a variable, with what it lists TIED to the program's text (the seventh form; the later family's looks); each row that meets fmt, with fmt's text TOLD by the authors' own Lean function (tested against real Go, not proved from fmt's source: count such statements apart). THE CARD IS WHAT COUNTS. Prove the row's statement (the work); the ties are given (YtdjjchfhccmjgaaDoorTie.lean); close each card by the builder's one call (the guide's Derived/Test/ToyasCard.lean, 'card_holds'). Laid BY PROGRAM, IN A SANDBOX (cutbox-door.mjs). By AI agents, Wed Nov 11 2026. No macro, syntax, notation, axiom, sorry.
-/
import Derived.Test.YtdjjchfhccmjgaaDoorRows
import GoSem.ClaimSeven
namespace Go.Proofs.YtdjjchfhccmjgaaDoor
namespace Rows

/-- THE TIED CARD OF 'haversacklaw18.FrameEncodes'. -/
def frameEncodesCard : Claim7 := { stood := { row := frameEncodesRow, standIns := [], harness := (true, "6b5fee856fc15dd79635e2ce1b3e1a67e58e907773504a313d909e56c9042ebc"), looks := false }, kinds := [], alts := [], laidByText := true, laidKinds := [.data], laidTests := true, laidLooks := .later }
def FrameEncodesCardSaid : Prop := Claim7.holds Tryd.pinned (.plain (OpenSpec.ofChange frameEncodesSpec)) frameEncodesCard

/-- THE TIED CARD OF 'haversacklaw18.FrameFeeds'. -/
def frameFeedsCard : Claim7 := { stood := { row := frameFeedsRow, standIns := [], harness := (true, "6b5fee856fc15dd79635e2ce1b3e1a67e58e907773504a313d909e56c9042ebc"), looks := false }, kinds := [], alts := [], laidByText := true, laidKinds := [.data], laidTests := true, laidLooks := .later }
def FrameFeedsCardSaid : Prop := Claim7.holds Tryd.pinned (.plain (OpenSpec.ofChange frameFeedsSpec)) frameFeedsCard

/-- THE TIED CARD OF 'haversacklaw18.FrameParts'. -/
def framePartsCard : Claim7 := { stood := { row := framePartsRow, standIns := [], harness := (true, "6b5fee856fc15dd79635e2ce1b3e1a67e58e907773504a313d909e56c9042ebc"), looks := false }, kinds := [], alts := [], laidByText := true, laidKinds := [.data], laidTests := true, laidLooks := .later }
def FramePartsCardSaid : Prop := Claim7.holds Tryd.pinned (.plain (OpenSpec.ofChange framePartsSpec)) framePartsCard

/-- THE TIED CARD OF 'haversacklaw18.FrameRound'. -/
def frameRoundCard : Claim7 := { stood := { row := frameRoundRow, standIns := [], harness := (true, "6b5fee856fc15dd79635e2ce1b3e1a67e58e907773504a313d909e56c9042ebc"), looks := false }, kinds := [], alts := [], laidByText := true, laidKinds := [.data], laidTests := true, laidLooks := .later }
def FrameRoundCardSaid : Prop := Claim7.holds Tryd.pinned (.plain (OpenSpec.ofChange frameRoundSpec)) frameRoundCard

/-- THE TIED CARD OF 'haversacklaw18.FrameTells'. -/
def frameTellsCard : Claim7 := { stood := { row := frameTellsRow, standIns := [], harness := (true, "6b5fee856fc15dd79635e2ce1b3e1a67e58e907773504a313d909e56c9042ebc"), looks := false }, kinds := [], alts := [], laidByText := true, laidKinds := [.data], laidTests := true, laidLooks := .later }
def FrameTellsCardSaid : Prop := Claim7.holds Tryd.pinned (.plain (OpenSpec.ofChange frameTellsSpec)) frameTellsCard

/-- THE TIED CARD OF 'haversacklaw18.FrameNil'. -/
def frameNilCard : Claim7 := { stood := { row := frameNilRow, standIns := [], harness := (true, "6b5fee856fc15dd79635e2ce1b3e1a67e58e907773504a313d909e56c9042ebc"), looks := false }, kinds := [], alts := [], laidByText := true, laidKinds := [.data], laidTests := true, laidLooks := .later }
def FrameNilCardSaid : Prop := Claim7.holds Tryd.pinned (.plain (OpenSpec.ofChange frameNilSpec)) frameNilCard

/-- THE SECOND FORM's CARD OF 'haversacklaw18.FrameEncodes'. -/
def frameEncodesUptoCard : Claim7 := { stood := { row := frameEncodesUptoRow, standIns := [], harness := (true, "6b5fee856fc15dd79635e2ce1b3e1a67e58e907773504a313d909e56c9042ebc"), looks := false }, kinds := [], alts := [], laidByText := true, laidKinds := [.data], laidTests := true, laidLooks := .later }
def FrameEncodesUptoCardSaid : Prop := Claim7.holds Tryd.pinned (.plain (OpenSpec.upto frameEncodesSpec)) frameEncodesUptoCard

/-- THE SECOND FORM's CARD OF 'haversacklaw18.FrameFeeds'. -/
def frameFeedsUptoCard : Claim7 := { stood := { row := frameFeedsUptoRow, standIns := [], harness := (true, "6b5fee856fc15dd79635e2ce1b3e1a67e58e907773504a313d909e56c9042ebc"), looks := false }, kinds := [], alts := [], laidByText := true, laidKinds := [.data], laidTests := true, laidLooks := .later }
def FrameFeedsUptoCardSaid : Prop := Claim7.holds Tryd.pinned (.plain (OpenSpec.upto frameFeedsSpec)) frameFeedsUptoCard

/-- THE SECOND FORM's CARD OF 'haversacklaw18.FrameParts'. -/
def framePartsUptoCard : Claim7 := { stood := { row := framePartsUptoRow, standIns := [], harness := (true, "6b5fee856fc15dd79635e2ce1b3e1a67e58e907773504a313d909e56c9042ebc"), looks := false }, kinds := [], alts := [], laidByText := true, laidKinds := [.data], laidTests := true, laidLooks := .later }
def FramePartsUptoCardSaid : Prop := Claim7.holds Tryd.pinned (.plain (OpenSpec.upto framePartsSpec)) framePartsUptoCard

/-- THE SECOND FORM's CARD OF 'haversacklaw18.FrameRound'. -/
def frameRoundUptoCard : Claim7 := { stood := { row := frameRoundUptoRow, standIns := [], harness := (true, "6b5fee856fc15dd79635e2ce1b3e1a67e58e907773504a313d909e56c9042ebc"), looks := false }, kinds := [], alts := [], laidByText := true, laidKinds := [.data], laidTests := true, laidLooks := .later }
def FrameRoundUptoCardSaid : Prop := Claim7.holds Tryd.pinned (.plain (OpenSpec.upto frameRoundSpec)) frameRoundUptoCard

/-- THE SECOND FORM's CARD OF 'haversacklaw18.FrameTells'. -/
def frameTellsUptoCard : Claim7 := { stood := { row := frameTellsUptoRow, standIns := [], harness := (true, "6b5fee856fc15dd79635e2ce1b3e1a67e58e907773504a313d909e56c9042ebc"), looks := false }, kinds := [], alts := [], laidByText := true, laidKinds := [.data], laidTests := true, laidLooks := .later }
def FrameTellsUptoCardSaid : Prop := Claim7.holds Tryd.pinned (.plain (OpenSpec.upto frameTellsSpec)) frameTellsUptoCard

/-- THE SECOND FORM's CARD OF 'haversacklaw18.FrameNil'. -/
def frameNilUptoCard : Claim7 := { stood := { row := frameNilUptoRow, standIns := [], harness := (true, "6b5fee856fc15dd79635e2ce1b3e1a67e58e907773504a313d909e56c9042ebc"), looks := false }, kinds := [], alts := [], laidByText := true, laidKinds := [.data], laidTests := true, laidLooks := .later }
def FrameNilUptoCardSaid : Prop := Claim7.holds Tryd.pinned (.plain (OpenSpec.upto frameNilSpec)) frameNilUptoCard
end Rows
end Go.Proofs.YtdjjchfhccmjgaaDoor
