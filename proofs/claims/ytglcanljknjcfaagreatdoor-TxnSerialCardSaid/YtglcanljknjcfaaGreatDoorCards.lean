/-
  DERIVED. GIVEN WITH THE SEED: THE CARDS: each row of YtglcanljknjcfaaGreatDoorRows.lean that lists a variable, with what it lists TIED to the program's text (the seventh form; the later family's looks); each row that meets fmt, with fmt's text TOLD by the authors' own Lean function (tested against real Go, not proved from fmt's source: count such statements apart). THE CARD IS WHAT COUNTS. Prove the row's statement (the work); the ties are given (YtglcanljknjcfaaGreatDoorTie.lean); close each card by the builder's one call (the guide's Derived/Test/ToyasCard.lean, 'card_holds'). Laid BY PROGRAM, IN A SANDBOX (cutbox-door.mjs). By AI agents, Wed Nov 11 2026. No macro, syntax, notation, axiom, sorry.
-/
import Derived.Test.YtglcanljknjcfaaGreatDoorRows
import GoSem.ClaimSeven
namespace Go.Proofs.YtglcanljknjcfaaGreatDoor
namespace Rows

/-- THE TIED CARD OF 'haversacklaw14.TxnAlone'. -/
def txnAloneCard : Claim7 := { stood := { row := txnAloneRow, standIns := [], harness := (true, "edb1a39f4f15beec6198fdf196992bc850330e59f1a58e911c0fa7f6e5866217"), looks := false }, kinds := [], alts := [], laidByText := true, laidKinds := [.data, .pinned], laidTests := true, laidLooks := .later }
def TxnAloneCardSaid : Prop := Claim7.holds Tryz.pinned (.plain (OpenSpec.ofChange txnAloneSpec)) txnAloneCard

/-- THE TIED CARD OF 'haversacklaw14.TxnSerial'. -/
def txnSerialCard : Claim7 := { stood := { row := txnSerialRow, standIns := [], harness := (true, "edb1a39f4f15beec6198fdf196992bc850330e59f1a58e911c0fa7f6e5866217"), looks := false }, kinds := [], alts := [], laidByText := true, laidKinds := [.data, .pinned], laidTests := true, laidLooks := .later }
def TxnSerialCardSaid : Prop := Claim7.holds Tryz.pinned (.plain (OpenSpec.ofChange txnSerialSpec)) txnSerialCard

/-- THE TIED CARD OF 'haversacklaw14.TxnNew'. -/
def txnNewCard : Claim7 := { stood := { row := txnNewRow, standIns := [], harness := (true, "edb1a39f4f15beec6198fdf196992bc850330e59f1a58e911c0fa7f6e5866217"), looks := false }, kinds := [], alts := [], laidByText := true, laidKinds := [.data, .pinned], laidTests := true, laidLooks := .later }
def TxnNewCardSaid : Prop := Claim7.holds Tryz.pinned (.plain (OpenSpec.ofChange txnNewSpec)) txnNewCard

/-- THE TIED CARD OF 'haversacklaw14.TxnRuns'. -/
def txnRunsCard : Claim7 := { stood := { row := txnRunsRow, standIns := [], harness := (true, "edb1a39f4f15beec6198fdf196992bc850330e59f1a58e911c0fa7f6e5866217"), looks := false }, kinds := [], alts := [], laidByText := true, laidKinds := [.data, .pinned], laidTests := true, laidLooks := .later }
def TxnRunsCardSaid : Prop := Claim7.holds Tryz.pinned (.plain (OpenSpec.ofChange txnRunsSpec)) txnRunsCard

/-- THE TIED CARD OF 'haversacklaw14.TxnNil'. -/
def txnNilCard : Claim7 := { stood := { row := txnNilRow, standIns := [], harness := (true, "edb1a39f4f15beec6198fdf196992bc850330e59f1a58e911c0fa7f6e5866217"), looks := false }, kinds := [], alts := [], laidByText := true, laidKinds := [.data, .pinned], laidTests := true, laidLooks := .later }
def TxnNilCardSaid : Prop := Claim7.holds Tryz.pinned (.plain (OpenSpec.ofChange txnNilSpec)) txnNilCard

/-- THE SECOND FORM's CARD OF 'haversacklaw14.TxnAlone'. -/
def txnAloneUptoCard : Claim7 := { stood := { row := txnAloneUptoRow, standIns := [], harness := (true, "edb1a39f4f15beec6198fdf196992bc850330e59f1a58e911c0fa7f6e5866217"), looks := false }, kinds := [], alts := [], laidByText := true, laidKinds := [.data, .pinned], laidTests := true, laidLooks := .later }
def TxnAloneUptoCardSaid : Prop := Claim7.holds Tryz.pinned (.plain (OpenSpec.upto txnAloneSpec)) txnAloneUptoCard

/-- THE SECOND FORM's CARD OF 'haversacklaw14.TxnSerial'. -/
def txnSerialUptoCard : Claim7 := { stood := { row := txnSerialUptoRow, standIns := [], harness := (true, "edb1a39f4f15beec6198fdf196992bc850330e59f1a58e911c0fa7f6e5866217"), looks := false }, kinds := [], alts := [], laidByText := true, laidKinds := [.data, .pinned], laidTests := true, laidLooks := .later }
def TxnSerialUptoCardSaid : Prop := Claim7.holds Tryz.pinned (.plain (OpenSpec.upto txnSerialSpec)) txnSerialUptoCard

/-- THE SECOND FORM's CARD OF 'haversacklaw14.TxnNew'. -/
def txnNewUptoCard : Claim7 := { stood := { row := txnNewUptoRow, standIns := [], harness := (true, "edb1a39f4f15beec6198fdf196992bc850330e59f1a58e911c0fa7f6e5866217"), looks := false }, kinds := [], alts := [], laidByText := true, laidKinds := [.data, .pinned], laidTests := true, laidLooks := .later }
def TxnNewUptoCardSaid : Prop := Claim7.holds Tryz.pinned (.plain (OpenSpec.upto txnNewSpec)) txnNewUptoCard

/-- THE SECOND FORM's CARD OF 'haversacklaw14.TxnRuns'. -/
def txnRunsUptoCard : Claim7 := { stood := { row := txnRunsUptoRow, standIns := [], harness := (true, "edb1a39f4f15beec6198fdf196992bc850330e59f1a58e911c0fa7f6e5866217"), looks := false }, kinds := [], alts := [], laidByText := true, laidKinds := [.data, .pinned], laidTests := true, laidLooks := .later }
def TxnRunsUptoCardSaid : Prop := Claim7.holds Tryz.pinned (.plain (OpenSpec.upto txnRunsSpec)) txnRunsUptoCard

/-- THE SECOND FORM's CARD OF 'haversacklaw14.TxnNil'. -/
def txnNilUptoCard : Claim7 := { stood := { row := txnNilUptoRow, standIns := [], harness := (true, "edb1a39f4f15beec6198fdf196992bc850330e59f1a58e911c0fa7f6e5866217"), looks := false }, kinds := [], alts := [], laidByText := true, laidKinds := [.data, .pinned], laidTests := true, laidLooks := .later }
def TxnNilUptoCardSaid : Prop := Claim7.holds Tryz.pinned (.plain (OpenSpec.upto txnNilSpec)) txnNilUptoCard
end Rows
end Go.Proofs.YtglcanljknjcfaaGreatDoor
