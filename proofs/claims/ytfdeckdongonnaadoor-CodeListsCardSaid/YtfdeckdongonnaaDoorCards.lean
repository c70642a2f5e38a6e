/-
  DERIVED. GIVEN WITH THE SEED: THE CARDS: each row of YtfdeckdongonnaaDoorRows.lean that lists a variable, with what it lists TIED to the program's text (the seventh form; the later family's looks); each row that meets fmt, with fmt's text TOLD by the authors' own Lean function (tested against real Go, not proved from fmt's source: count such statements apart). THE CARD IS WHAT COUNTS. Prove the row's statement (the work); the ties are given (YtfdeckdongonnaaDoorTie.lean); close each card by the builder's one call (the guide's Derived/Test/ToyasCard.lean, 'card_holds'). Laid BY PROGRAM, IN A SANDBOX (cutbox-door.mjs). By AI agents, Wed Nov 11 2026. No macro, syntax, notation, axiom, sorry.
-/
import Derived.Test.YtfdeckdongonnaaDoorRows
import GoSem.ClaimSeven
namespace Go.Proofs.YtfdeckdongonnaaDoor
namespace Rows

/-- THE TIED CARD OF 'limnerlaw19.CodeReads'. -/
def codeReadsCard : Claim7 := { stood := { row := codeReadsRow, standIns := [], harness := (true, "9aeeef74d7308f2025332310eab8a4ff6f241893f1db00f0c712b2f476063fb0"), looks := false }, kinds := [], alts := [], laidByText := true, laidKinds := [.data], laidTests := true, laidLooks := .later }
def CodeReadsCardSaid : Prop := Claim7.holds Tryd.pinned (.plain (OpenSpec.ofChange codeReadsSpec)) codeReadsCard

/-- THE TIED CARD OF 'limnerlaw19.CodeCommands'. -/
def codeCommandsCard : Claim7 := { stood := { row := codeCommandsRow, standIns := [], harness := (true, "9aeeef74d7308f2025332310eab8a4ff6f241893f1db00f0c712b2f476063fb0"), looks := false }, kinds := [], alts := [], laidByText := true, laidKinds := [.data], laidTests := true, laidLooks := .later }
def CodeCommandsCardSaid : Prop := Claim7.holds Tryd.pinned (.plain (OpenSpec.ofChange codeCommandsSpec)) codeCommandsCard

/-- THE TIED CARD OF 'limnerlaw19.CodeLists'. -/
def codeListsCard : Claim7 := { stood := { row := codeListsRow, standIns := [], harness := (true, "9aeeef74d7308f2025332310eab8a4ff6f241893f1db00f0c712b2f476063fb0"), looks := false }, kinds := [], alts := [], laidByText := true, laidKinds := [.data], laidTests := true, laidLooks := .later }
def CodeListsCardSaid : Prop := Claim7.holds Tryd.pinned (.plain (OpenSpec.ofChange codeListsSpec)) codeListsCard

/-- THE TIED CARD OF 'limnerlaw19.CodeListsRead'. -/
def codeListsReadCard : Claim7 := { stood := { row := codeListsReadRow, standIns := [], harness := (true, "9aeeef74d7308f2025332310eab8a4ff6f241893f1db00f0c712b2f476063fb0"), looks := false }, kinds := [], alts := [], laidByText := true, laidKinds := [.data], laidTests := true, laidLooks := .later }
def CodeListsReadCardSaid : Prop := Claim7.holds Tryd.pinned (.plain (OpenSpec.ofChange codeListsReadSpec)) codeListsReadCard

/-- THE TIED CARD OF 'limnerlaw19.CodeEntries'. -/
def codeEntriesCard : Claim7 := { stood := { row := codeEntriesRow, standIns := [], harness := (true, "9aeeef74d7308f2025332310eab8a4ff6f241893f1db00f0c712b2f476063fb0"), looks := false }, kinds := [], alts := [], laidByText := true, laidKinds := [.data], laidTests := true, laidLooks := .later }
def CodeEntriesCardSaid : Prop := Claim7.holds Tryd.pinned (.plain (OpenSpec.ofChange codeEntriesSpec)) codeEntriesCard

/-- THE SECOND FORM's CARD OF 'limnerlaw19.CodeReads'. -/
def codeReadsUptoCard : Claim7 := { stood := { row := codeReadsUptoRow, standIns := [], harness := (true, "9aeeef74d7308f2025332310eab8a4ff6f241893f1db00f0c712b2f476063fb0"), looks := false }, kinds := [], alts := [], laidByText := true, laidKinds := [.data], laidTests := true, laidLooks := .later }
def CodeReadsUptoCardSaid : Prop := Claim7.holds Tryd.pinned (.plain (OpenSpec.upto codeReadsSpec)) codeReadsUptoCard

/-- THE SECOND FORM's CARD OF 'limnerlaw19.CodeCommands'. -/
def codeCommandsUptoCard : Claim7 := { stood := { row := codeCommandsUptoRow, standIns := [], harness := (true, "9aeeef74d7308f2025332310eab8a4ff6f241893f1db00f0c712b2f476063fb0"), looks := false }, kinds := [], alts := [], laidByText := true, laidKinds := [.data], laidTests := true, laidLooks := .later }
def CodeCommandsUptoCardSaid : Prop := Claim7.holds Tryd.pinned (.plain (OpenSpec.upto codeCommandsSpec)) codeCommandsUptoCard

/-- THE SECOND FORM's CARD OF 'limnerlaw19.CodeLists'. -/
def codeListsUptoCard : Claim7 := { stood := { row := codeListsUptoRow, standIns := [], harness := (true, "9aeeef74d7308f2025332310eab8a4ff6f241893f1db00f0c712b2f476063fb0"), looks := false }, kinds := [], alts := [], laidByText := true, laidKinds := [.data], laidTests := true, laidLooks := .later }
def CodeListsUptoCardSaid : Prop := Claim7.holds Tryd.pinned (.plain (OpenSpec.upto codeListsSpec)) codeListsUptoCard

/-- THE SECOND FORM's CARD OF 'limnerlaw19.CodeListsRead'. -/
def codeListsReadUptoCard : Claim7 := { stood := { row := codeListsReadUptoRow, standIns := [], harness := (true, "9aeeef74d7308f2025332310eab8a4ff6f241893f1db00f0c712b2f476063fb0"), looks := false }, kinds := [], alts := [], laidByText := true, laidKinds := [.data], laidTests := true, laidLooks := .later }
def CodeListsReadUptoCardSaid : Prop := Claim7.holds Tryd.pinned (.plain (OpenSpec.upto codeListsReadSpec)) codeListsReadUptoCard

/-- THE SECOND FORM's CARD OF 'limnerlaw19.CodeEntries'. -/
def codeEntriesUptoCard : Claim7 := { stood := { row := codeEntriesUptoRow, standIns := [], harness := (true, "9aeeef74d7308f2025332310eab8a4ff6f241893f1db00f0c712b2f476063fb0"), looks := false }, kinds := [], alts := [], laidByText := true, laidKinds := [.data], laidTests := true, laidLooks := .later }
def CodeEntriesUptoCardSaid : Prop := Claim7.holds Tryd.pinned (.plain (OpenSpec.upto codeEntriesSpec)) codeEntriesUptoCard
end Rows
end Go.Proofs.YtfdeckdongonnaaDoor
