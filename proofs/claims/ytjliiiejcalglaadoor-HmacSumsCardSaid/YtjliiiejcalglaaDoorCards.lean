/-
  DERIVED. GIVEN WITH THE SEED: THE CARDS: each row of YtjliiiejcalglaaDoorRows.lean that lists a variable, with what it lists TIED to the program's text (the seventh form; the later family's looks); each row that meets fmt, with fmt's text TOLD by the authors' own Lean function (tested against real Go, not proved from fmt's source: count such statements apart). THE CARD IS WHAT COUNTS. Prove the row's statement (the work); the ties are given (YtjliiiejcalglaaDoorTie.lean); close each card by the builder's one call (the guide's Derived/Test/ToyasCard.lean, 'card_holds'). Laid BY PROGRAM, IN A SANDBOX (cutbox-door.mjs). By AI agents, Wed Nov 11 2026. No macro, syntax, notation, axiom, sorry.
-/
import Derived.Test.YtjliiiejcalglaaDoorRows
import GoSem.ClaimSeven
namespace Go.Proofs.YtjliiiejcalglaaDoor
namespace Rows

/-- THE TIED CARD OF 'haversacklaw15.HmacSums'. -/
def hmacSumsCard : Claim7 := { stood := { row := hmacSumsRow, standIns := [], harness := (true, "73290892d03713c2aac798dd733ed9084c0e4684755dcc3a580183b158311992"), looks := false }, kinds := [], alts := [], laidByText := true, laidKinds := [.data], laidTests := true, laidLooks := .later }
def HmacSumsCardSaid : Prop := Claim7.holds Tryd.pinned (.plain (OpenSpec.ofChange hmacSumsSpec)) hmacSumsCard

/-- THE TIED CARD OF 'haversacklaw15.HmacParts'. -/
def hmacPartsCard : Claim7 := { stood := { row := hmacPartsRow, standIns := [], harness := (true, "73290892d03713c2aac798dd733ed9084c0e4684755dcc3a580183b158311992"), looks := false }, kinds := [], alts := [], laidByText := true, laidKinds := [.data], laidTests := true, laidLooks := .later }
def HmacPartsCardSaid : Prop := Claim7.holds Tryd.pinned (.plain (OpenSpec.ofChange hmacPartsSpec)) hmacPartsCard

/-- THE TIED CARD OF 'haversacklaw15.HmacWhole'. -/
def hmacWholeCard : Claim7 := { stood := { row := hmacWholeRow, standIns := [], harness := (true, "73290892d03713c2aac798dd733ed9084c0e4684755dcc3a580183b158311992"), looks := false }, kinds := [], alts := [], laidByText := true, laidKinds := [.data], laidTests := true, laidLooks := .later }
def HmacWholeCardSaid : Prop := Claim7.holds Tryd.pinned (.plain (OpenSpec.ofChange hmacWholeSpec)) hmacWholeCard

/-- THE TIED CARD OF 'haversacklaw15.HmacSame'. -/
def hmacSameCard : Claim7 := { stood := { row := hmacSameRow, standIns := [], harness := (true, "73290892d03713c2aac798dd733ed9084c0e4684755dcc3a580183b158311992"), looks := false }, kinds := [], alts := [], laidByText := true, laidKinds := [.data], laidTests := true, laidLooks := .later }
def HmacSameCardSaid : Prop := Claim7.holds Tryd.pinned (.plain (OpenSpec.ofChange hmacSameSpec)) hmacSameCard

/-- THE SECOND FORM's CARD OF 'haversacklaw15.HmacSums'. -/
def hmacSumsUptoCard : Claim7 := { stood := { row := hmacSumsUptoRow, standIns := [], harness := (true, "73290892d03713c2aac798dd733ed9084c0e4684755dcc3a580183b158311992"), looks := false }, kinds := [], alts := [], laidByText := true, laidKinds := [.data], laidTests := true, laidLooks := .later }
def HmacSumsUptoCardSaid : Prop := Claim7.holds Tryd.pinned (.plain (OpenSpec.upto hmacSumsSpec)) hmacSumsUptoCard

/-- THE SECOND FORM's CARD OF 'haversacklaw15.HmacParts'. -/
def hmacPartsUptoCard : Claim7 := { stood := { row := hmacPartsUptoRow, standIns := [], harness := (true, "73290892d03713c2aac798dd733ed9084c0e4684755dcc3a580183b158311992"), looks := false }, kinds := [], alts := [], laidByText := true, laidKinds := [.data], laidTests := true, laidLooks := .later }
def HmacPartsUptoCardSaid : Prop := Claim7.holds Tryd.pinned (.plain (OpenSpec.upto hmacPartsSpec)) hmacPartsUptoCard

/-- THE SECOND FORM's CARD OF 'haversacklaw15.HmacWhole'. -/
def hmacWholeUptoCard : Claim7 := { stood := { row := hmacWholeUptoRow, standIns := [], harness := (true, "73290892d03713c2aac798dd733ed9084c0e4684755dcc3a580183b158311992"), looks := false }, kinds := [], alts := [], laidByText := true, laidKinds := [.data], laidTests := true, laidLooks := .later }
def HmacWholeUptoCardSaid : Prop := Claim7.holds Tryd.pinned (.plain (OpenSpec.upto hmacWholeSpec)) hmacWholeUptoCard

/-- THE SECOND FORM's CARD OF 'haversacklaw15.HmacSame'. -/
def hmacSameUptoCard : Claim7 := { stood := { row := hmacSameUptoRow, standIns := [], harness := (true, "73290892d03713c2aac798dd733ed9084c0e4684755dcc3a580183b158311992"), looks := false }, kinds := [], alts := [], laidByText := true, laidKinds := [.data], laidTests := true, laidLooks := .later }
def HmacSameUptoCardSaid : Prop := Claim7.holds Tryd.pinned (.plain (OpenSpec.upto hmacSameSpec)) hmacSameUptoCard
end Rows
end Go.Proofs.YtjliiiejcalglaaDoor
