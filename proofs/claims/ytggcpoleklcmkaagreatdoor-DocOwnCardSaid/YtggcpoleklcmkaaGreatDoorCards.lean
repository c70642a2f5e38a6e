/-
  DERIVED. GIVEN WITH THE SEED: THE CARDS: each row of YtggcpoleklcmkaaGreatDoorRows.lean that lists a variable, with what it lists TIED to the program's text (the seventh form; the later family's looks); each row that meets fmt, with fmt's text TOLD by the authors' own Lean function (tested against real Go, not proved from fmt's source: count such statements apart). THE CARD IS WHAT COUNTS. Prove the row's statement (the work); the ties are given (YtggcpoleklcmkaaGreatDoorTie.lean); close each card by the builder's one call (the guide's Derived/Test/ToyasCard.lean, 'card_holds'). Laid BY PROGRAM, IN A SANDBOX (cutbox-door.mjs). By AI agents, Wed Nov 11 2026. No macro, syntax, notation, axiom, sorry.
-/
import Derived.Test.YtggcpoleklcmkaaGreatDoorRows
import GoSem.ClaimSeven
namespace Go.Proofs.YtggcpoleklcmkaaGreatDoor
namespace Rows

/-- THE TIED CARD OF 'limnerlaw18.DocAttrs'. -/
def docAttrsCard : Claim7 := { stood := { row := docAttrsRow, standIns := [], harness := (true, "9343be4a8fd39f42ed4c42b7a4ab207f6c206fec8bc01095d0aba2c19e073df4"), looks := true }, kinds := [], alts := [], laidByText := true, laidKinds := [.data], laidTests := true, laidLooks := .later }
def DocAttrsCardSaid : Prop := Claim7.holds Tryz.pinned (.plain (OpenSpec.ofChange docAttrsSpec)) docAttrsCard

/-- THE TIED CARD OF 'limnerlaw18.DocPlays'. -/
def docPlaysCard : Claim7 := { stood := { row := docPlaysRow, standIns := [], harness := (true, "9343be4a8fd39f42ed4c42b7a4ab207f6c206fec8bc01095d0aba2c19e073df4"), looks := true }, kinds := [], alts := [], laidByText := true, laidKinds := [.data], laidTests := true, laidLooks := .later }
def DocPlaysCardSaid : Prop := Claim7.holds Tryz.pinned (.plain (OpenSpec.ofChange docPlaysSpec)) docPlaysCard

/-- THE TIED CARD OF 'limnerlaw18.DocBacks'. -/
def docBacksCard : Claim7 := { stood := { row := docBacksRow, standIns := [], harness := (true, "9343be4a8fd39f42ed4c42b7a4ab207f6c206fec8bc01095d0aba2c19e073df4"), looks := true }, kinds := [], alts := [], laidByText := true, laidKinds := [.data], laidTests := true, laidLooks := .later }
def DocBacksCardSaid : Prop := Claim7.holds Tryz.pinned (.plain (OpenSpec.ofChange docBacksSpec)) docBacksCard

/-- THE TIED CARD OF 'limnerlaw18.DocCopies'. -/
def docCopiesCard : Claim7 := { stood := { row := docCopiesRow, standIns := [], harness := (true, "9343be4a8fd39f42ed4c42b7a4ab207f6c206fec8bc01095d0aba2c19e073df4"), looks := true }, kinds := [], alts := [], laidByText := true, laidKinds := [.data], laidTests := true, laidLooks := .later }
def DocCopiesCardSaid : Prop := Claim7.holds Tryz.pinned (.plain (OpenSpec.ofChange docCopiesSpec)) docCopiesCard

/-- THE TIED CARD OF 'limnerlaw18.DocOwn'. -/
def docOwnCard : Claim7 := { stood := { row := docOwnRow, standIns := [], harness := (true, "9343be4a8fd39f42ed4c42b7a4ab207f6c206fec8bc01095d0aba2c19e073df4"), looks := true }, kinds := [], alts := [], laidByText := true, laidKinds := [.data], laidTests := true, laidLooks := .later }
def DocOwnCardSaid : Prop := Claim7.holds Tryz.pinned (.plain (OpenSpec.ofChange docOwnSpec)) docOwnCard

/-- THE TIED CARD OF 'limnerlaw18.DocBack'. -/
def docBackCard : Claim7 := { stood := { row := docBackRow, standIns := [], harness := (true, "9343be4a8fd39f42ed4c42b7a4ab207f6c206fec8bc01095d0aba2c19e073df4"), looks := true }, kinds := [], alts := [], laidByText := true, laidKinds := [.data], laidTests := true, laidLooks := .later }
def DocBackCardSaid : Prop := Claim7.holds Tryz.pinned (.plain (OpenSpec.ofChange docBackSpec)) docBackCard

/-- THE TIED CARD OF 'limnerlaw18.DocLoads'. -/
def docLoadsCard : Claim7 := { stood := { row := docLoadsRow, standIns := [], harness := (true, "9343be4a8fd39f42ed4c42b7a4ab207f6c206fec8bc01095d0aba2c19e073df4"), looks := true }, kinds := [], alts := [], laidByText := true, laidKinds := [.data], laidTests := true, laidLooks := .later }
def DocLoadsCardSaid : Prop := Claim7.holds Tryz.pinned (.plain (OpenSpec.ofChange docLoadsSpec)) docLoadsCard

/-- THE TIED CARD OF 'limnerlaw20.HistoryBound'. -/
def historyBoundCard : Claim7 := { stood := { row := historyBoundRow, standIns := [], harness := (true, "9343be4a8fd39f42ed4c42b7a4ab207f6c206fec8bc01095d0aba2c19e073df4"), looks := true }, kinds := [], alts := [], laidByText := true, laidKinds := [.data], laidTests := true, laidLooks := .later }
def HistoryBoundCardSaid : Prop := Claim7.holds Tryz.pinned (.plain (OpenSpec.ofChange historyBoundSpec)) historyBoundCard

/-- THE TIED CARD OF 'limnerlaw20.HistoryPlays'. -/
def historyPlaysCard : Claim7 := { stood := { row := historyPlaysRow, standIns := [], harness := (true, "9343be4a8fd39f42ed4c42b7a4ab207f6c206fec8bc01095d0aba2c19e073df4"), looks := true }, kinds := [], alts := [], laidByText := true, laidKinds := [.data], laidTests := true, laidLooks := .later }
def HistoryPlaysCardSaid : Prop := Claim7.holds Tryz.pinned (.plain (OpenSpec.ofChange historyPlaysSpec)) historyPlaysCard

/-- THE TIED CARD OF 'limnerlaw20.HistoryUndo'. -/
def historyUndoCard : Claim7 := { stood := { row := historyUndoRow, standIns := [], harness := (true, "9343be4a8fd39f42ed4c42b7a4ab207f6c206fec8bc01095d0aba2c19e073df4"), looks := true }, kinds := [], alts := [], laidByText := true, laidKinds := [.data], laidTests := true, laidLooks := .later }
def HistoryUndoCardSaid : Prop := Claim7.holds Tryz.pinned (.plain (OpenSpec.ofChange historyUndoSpec)) historyUndoCard

/-- THE TIED CARD OF 'limnerlaw20.HistoryAll'. -/
def historyAllCard : Claim7 := { stood := { row := historyAllRow, standIns := [], harness := (true, "9343be4a8fd39f42ed4c42b7a4ab207f6c206fec8bc01095d0aba2c19e073df4"), looks := true }, kinds := [], alts := [], laidByText := true, laidKinds := [.data], laidTests := true, laidLooks := .later }
def HistoryAllCardSaid : Prop := Claim7.holds Tryz.pinned (.plain (OpenSpec.ofChange historyAllSpec)) historyAllCard

/-- THE SECOND FORM's CARD OF 'limnerlaw18.DocAttrs'. -/
def docAttrsUptoCard : Claim7 := { stood := { row := docAttrsUptoRow, standIns := [], harness := (true, "9343be4a8fd39f42ed4c42b7a4ab207f6c206fec8bc01095d0aba2c19e073df4"), looks := true }, kinds := [], alts := [], laidByText := true, laidKinds := [.data], laidTests := true, laidLooks := .later }
def DocAttrsUptoCardSaid : Prop := Claim7.holds Tryz.pinned (.plain (OpenSpec.upto docAttrsSpec)) docAttrsUptoCard

/-- THE SECOND FORM's CARD OF 'limnerlaw18.DocPlays'. -/
def docPlaysUptoCard : Claim7 := { stood := { row := docPlaysUptoRow, standIns := [], harness := (true, "9343be4a8fd39f42ed4c42b7a4ab207f6c206fec8bc01095d0aba2c19e073df4"), looks := true }, kinds := [], alts := [], laidByText := true, laidKinds := [.data], laidTests := true, laidLooks := .later }
def DocPlaysUptoCardSaid : Prop := Claim7.holds Tryz.pinned (.plain (OpenSpec.upto docPlaysSpec)) docPlaysUptoCard

/-- THE SECOND FORM's CARD OF 'limnerlaw18.DocBacks'. -/
def docBacksUptoCard : Claim7 := { stood := { row := docBacksUptoRow, standIns := [], harness := (true, "9343be4a8fd39f42ed4c42b7a4ab207f6c206fec8bc01095d0aba2c19e073df4"), looks := true }, kinds := [], alts := [], laidByText := true, laidKinds := [.data], laidTests := true, laidLooks := .later }
def DocBacksUptoCardSaid : Prop := Claim7.holds Tryz.pinned (.plain (OpenSpec.upto docBacksSpec)) docBacksUptoCard

/-- THE SECOND FORM's CARD OF 'limnerlaw18.DocCopies'. -/
def docCopiesUptoCard : Claim7 := { stood := { row := docCopiesUptoRow, standIns := [], harness := (true, "9343be4a8fd39f42ed4c42b7a4ab207f6c206fec8bc01095d0aba2c19e073df4"), looks := true }, kinds := [], alts := [], laidByText := true, laidKinds := [.data], laidTests := true, laidLooks := .later }
def DocCopiesUptoCardSaid : Prop := Claim7.holds Tryz.pinned (.plain (OpenSpec.upto docCopiesSpec)) docCopiesUptoCard

/-- THE SECOND FORM's CARD OF 'limnerlaw18.DocOwn'. -/
def docOwnUptoCard : Claim7 := { stood := { row := docOwnUptoRow, standIns := [], harness := (true, "9343be4a8fd39f42ed4c42b7a4ab207f6c206fec8bc01095d0aba2c19e073df4"), looks := true }, kinds := [], alts := [], laidByText := true, laidKinds := [.data], laidTests := true, laidLooks := .later }
def DocOwnUptoCardSaid : Prop := Claim7.holds Tryz.pinned (.plain (OpenSpec.upto docOwnSpec)) docOwnUptoCard

/-- THE SECOND FORM's CARD OF 'limnerlaw18.DocBack'. -/
def docBackUptoCard : Claim7 := { stood := { row := docBackUptoRow, standIns := [], harness := (true, "9343be4a8fd39f42ed4c42b7a4ab207f6c206fec8bc01095d0aba2c19e073df4"), looks := true }, kinds := [], alts := [], laidByText := true, laidKinds := [.data], laidTests := true, laidLooks := .later }
def DocBackUptoCardSaid : Prop := Claim7.holds Tryz.pinned (.plain (OpenSpec.upto docBackSpec)) docBackUptoCard

/-- THE SECOND FORM's CARD OF 'limnerlaw18.DocLoads'. -/
def docLoadsUptoCard : Claim7 := { stood := { row := docLoadsUptoRow, standIns := [], harness := (true, "9343be4a8fd39f42ed4c42b7a4ab207f6c206fec8bc01095d0aba2c19e073df4"), looks := true }, kinds := [], alts := [], laidByText := true, laidKinds := [.data], laidTests := true, laidLooks := .later }
def DocLoadsUptoCardSaid : Prop := Claim7.holds Tryz.pinned (.plain (OpenSpec.upto docLoadsSpec)) docLoadsUptoCard

/-- THE SECOND FORM's CARD OF 'limnerlaw20.HistoryBound'. -/
def historyBoundUptoCard : Claim7 := { stood := { row := historyBoundUptoRow, standIns := [], harness := (true, "9343be4a8fd39f42ed4c42b7a4ab207f6c206fec8bc01095d0aba2c19e073df4"), looks := true }, kinds := [], alts := [], laidByText := true, laidKinds := [.data], laidTests := true, laidLooks := .later }
def HistoryBoundUptoCardSaid : Prop := Claim7.holds Tryz.pinned (.plain (OpenSpec.upto historyBoundSpec)) historyBoundUptoCard

/-- THE SECOND FORM's CARD OF 'limnerlaw20.HistoryPlays'. -/
def historyPlaysUptoCard : Claim7 := { stood := { row := historyPlaysUptoRow, standIns := [], harness := (true, "9343be4a8fd39f42ed4c42b7a4ab207f6c206fec8bc01095d0aba2c19e073df4"), looks := true }, kinds := [], alts := [], laidByText := true, laidKinds := [.data], laidTests := true, laidLooks := .later }
def HistoryPlaysUptoCardSaid : Prop := Claim7.holds Tryz.pinned (.plain (OpenSpec.upto historyPlaysSpec)) historyPlaysUptoCard

/-- THE SECOND FORM's CARD OF 'limnerlaw20.HistoryUndo'. -/
def historyUndoUptoCard : Claim7 := { stood := { row := historyUndoUptoRow, standIns := [], harness := (true, "9343be4a8fd39f42ed4c42b7a4ab207f6c206fec8bc01095d0aba2c19e073df4"), looks := true }, kinds := [], alts := [], laidByText := true, laidKinds := [.data], laidTests := true, laidLooks := .later }
def HistoryUndoUptoCardSaid : Prop := Claim7.holds Tryz.pinned (.plain (OpenSpec.upto historyUndoSpec)) historyUndoUptoCard

/-- THE SECOND FORM's CARD OF 'limnerlaw20.HistoryAll'. -/
def historyAllUptoCard : Claim7 := { stood := { row := historyAllUptoRow, standIns := [], harness := (true, "9343be4a8fd39f42ed4c42b7a4ab207f6c206fec8bc01095d0aba2c19e073df4"), looks := true }, kinds := [], alts := [], laidByText := true, laidKinds := [.data], laidTests := true, laidLooks := .later }
def HistoryAllUptoCardSaid : Prop := Claim7.holds Tryz.pinned (.plain (OpenSpec.upto historyAllSpec)) historyAllUptoCard
end Rows
end Go.Proofs.YtggcpoleklcmkaaGreatDoor
