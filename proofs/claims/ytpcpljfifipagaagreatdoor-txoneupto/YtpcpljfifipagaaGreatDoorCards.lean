/-
  DERIVED. GIVEN WITH THE SEED: THE CARDS: each row of YtpcpljfifipagaaGreatDoorRows.lean that lists a variable, with what it lists TIED to the program's text (the seventh form; the later family's looks); each row that meets fmt, with fmt's text TOLD by the authors' own Lean function (tested against real Go, not proved from fmt's source: count such statements apart). THE CARD IS WHAT COUNTS. Prove the row's statement (the work); the ties are given (YtpcpljfifipagaaGreatDoorTie.lean); close each card by the builder's one call (the guide's Derived/Test/ToyasCard.lean, 'card_holds'). Laid BY PROGRAM, IN A SANDBOX (cutbox-door.mjs). By AI agents, Wed Nov 11 2026. No macro, syntax, notation, axiom, sorry.
-/
import Derived.Test.YtpcpljfifipagaaGreatDoorRows
import GoSem.ClaimSeven
namespace Go.Proofs.YtpcpljfifipagaaGreatDoor
namespace Rows

/-- THE TIED CARD OF 'trivetlaw11.CoreStays'. -/
def coreStaysCard : Claim7 := { stood := { row := coreStaysRow, standIns := [], harness := (true, "898431b7e75c5779d5d9646abae52024dbe0b9c61b85d5b36a609ab6c0f8cca0"), looks := true }, kinds := [], alts := [], laidByText := true, laidKinds := [.data, .pinned], laidTests := true, laidLooks := .later }
def CoreStaysCardSaid : Prop := Claim7.holds Tryz.pinned (.plain (OpenSpec.ofChange coreStaysSpec)) coreStaysCard

/-- THE TIED CARD OF 'trivetlaw11.CoreRoutes'. -/
def coreRoutesCard : Claim7 := { stood := { row := coreRoutesRow, standIns := [], harness := (true, "898431b7e75c5779d5d9646abae52024dbe0b9c61b85d5b36a609ab6c0f8cca0"), looks := true }, kinds := [], alts := [], laidByText := true, laidKinds := [.data, .pinned], laidTests := true, laidLooks := .later }
def CoreRoutesCardSaid : Prop := Claim7.holds Tryz.pinned (.plain (OpenSpec.ofChange coreRoutesSpec)) coreRoutesCard

/-- THE TIED CARD OF 'trivetlaw11.CorePackets'. -/
def corePacketsCard : Claim7 := { stood := { row := corePacketsRow, standIns := [], harness := (true, "898431b7e75c5779d5d9646abae52024dbe0b9c61b85d5b36a609ab6c0f8cca0"), looks := true }, kinds := [], alts := [], laidByText := true, laidKinds := [.data, .pinned], laidTests := true, laidLooks := .later }
def CorePacketsCardSaid : Prop := Claim7.holds Tryz.pinned (.plain (OpenSpec.ofChange corePacketsSpec)) corePacketsCard

/-- THE TIED CARD OF 'trivetlaw11.CoreUndoes'. -/
def coreUndoesCard : Claim7 := { stood := { row := coreUndoesRow, standIns := [], harness := (true, "898431b7e75c5779d5d9646abae52024dbe0b9c61b85d5b36a609ab6c0f8cca0"), looks := true }, kinds := [], alts := [], laidByText := true, laidKinds := [.data, .pinned], laidTests := true, laidLooks := .later }
def CoreUndoesCardSaid : Prop := Claim7.holds Tryz.pinned (.plain (OpenSpec.ofChange coreUndoesSpec)) coreUndoesCard

/-- THE TIED CARD OF 'trivetlaw11.CoreTicks'. -/
def coreTicksCard : Claim7 := { stood := { row := coreTicksRow, standIns := [], harness := (true, "898431b7e75c5779d5d9646abae52024dbe0b9c61b85d5b36a609ab6c0f8cca0"), looks := true }, kinds := [], alts := [], laidByText := true, laidKinds := [.data, .pinned], laidTests := true, laidLooks := .later }
def CoreTicksCardSaid : Prop := Claim7.holds Tryz.pinned (.plain (OpenSpec.ofChange coreTicksSpec)) coreTicksCard

/-- THE TIED CARD OF 'trivetlaw12.TxWhole'. -/
def txWholeCard : Claim7 := { stood := { row := txWholeRow, standIns := [], harness := (true, "898431b7e75c5779d5d9646abae52024dbe0b9c61b85d5b36a609ab6c0f8cca0"), looks := true }, kinds := [], alts := [], laidByText := true, laidKinds := [.data, .pinned], laidTests := true, laidLooks := .later }
def TxWholeCardSaid : Prop := Claim7.holds Tryz.pinned (.plain (OpenSpec.ofChange txWholeSpec)) txWholeCard

/-- THE TIED CARD OF 'trivetlaw12.TxOne'. -/
def txOneCard : Claim7 := { stood := { row := txOneRow, standIns := [], harness := (true, "898431b7e75c5779d5d9646abae52024dbe0b9c61b85d5b36a609ab6c0f8cca0"), looks := true }, kinds := [], alts := [], laidByText := true, laidKinds := [.data, .pinned], laidTests := true, laidLooks := .later }
def TxOneCardSaid : Prop := Claim7.holds Tryz.pinned (.plain (OpenSpec.ofChange txOneSpec)) txOneCard

/-- THE TIED CARD OF 'trivetlaw11.CoreDoes'. -/
def coreDoesCard : Claim7 := { stood := { row := coreDoesRow, standIns := [], harness := (true, "898431b7e75c5779d5d9646abae52024dbe0b9c61b85d5b36a609ab6c0f8cca0"), looks := true }, kinds := [], alts := [], laidByText := true, laidKinds := [.data, .pinned], laidTests := true, laidLooks := .later }
def CoreDoesCardSaid : Prop := Claim7.holds Tryz.pinned (.plain (OpenSpec.ofChange coreDoesSpec)) coreDoesCard

/-- THE TIED CARD OF 'trivetlaw11.CoreStrips'. -/
def coreStripsCard : Claim7 := { stood := { row := coreStripsRow, standIns := [], harness := (true, "898431b7e75c5779d5d9646abae52024dbe0b9c61b85d5b36a609ab6c0f8cca0"), looks := true }, kinds := [], alts := [], laidByText := true, laidKinds := [.data, .pinned], laidTests := true, laidLooks := .later }
def CoreStripsCardSaid : Prop := Claim7.holds Tryz.pinned (.plain (OpenSpec.ofChange coreStripsSpec)) coreStripsCard

/-- THE TIED CARD OF 'trivetlaw11.CoreKeeps'. -/
def coreKeepsCard : Claim7 := { stood := { row := coreKeepsRow, standIns := [], harness := (true, "898431b7e75c5779d5d9646abae52024dbe0b9c61b85d5b36a609ab6c0f8cca0"), looks := true }, kinds := [], alts := [], laidByText := true, laidKinds := [.data, .pinned], laidTests := true, laidLooks := .later }
def CoreKeepsCardSaid : Prop := Claim7.holds Tryz.pinned (.plain (OpenSpec.ofChange coreKeepsSpec)) coreKeepsCard

/-- THE TIED CARD OF 'trivetlaw12.TxRuns'. -/
def txRunsCard : Claim7 := { stood := { row := txRunsRow, standIns := [], harness := (true, "898431b7e75c5779d5d9646abae52024dbe0b9c61b85d5b36a609ab6c0f8cca0"), looks := true }, kinds := [], alts := [], laidByText := true, laidKinds := [.data, .pinned], laidTests := true, laidLooks := .later }
def TxRunsCardSaid : Prop := Claim7.holds Tryz.pinned (.plain (OpenSpec.ofChange txRunsSpec)) txRunsCard

/-- THE TIED CARD OF 'trivetlaw12.TxKeeps'. -/
def txKeepsCard : Claim7 := { stood := { row := txKeepsRow, standIns := [], harness := (true, "898431b7e75c5779d5d9646abae52024dbe0b9c61b85d5b36a609ab6c0f8cca0"), looks := true }, kinds := [], alts := [], laidByText := true, laidKinds := [.data, .pinned], laidTests := true, laidLooks := .later }
def TxKeepsCardSaid : Prop := Claim7.holds Tryz.pinned (.plain (OpenSpec.ofChange txKeepsSpec)) txKeepsCard

/-- THE SECOND FORM's CARD OF 'trivetlaw11.CoreStays'. -/
def coreStaysUptoCard : Claim7 := { stood := { row := coreStaysUptoRow, standIns := [], harness := (true, "898431b7e75c5779d5d9646abae52024dbe0b9c61b85d5b36a609ab6c0f8cca0"), looks := true }, kinds := [], alts := [], laidByText := true, laidKinds := [.data, .pinned], laidTests := true, laidLooks := .later }
def CoreStaysUptoCardSaid : Prop := Claim7.holds Tryz.pinned (.plain (OpenSpec.upto coreStaysSpec)) coreStaysUptoCard

/-- THE SECOND FORM's CARD OF 'trivetlaw11.CoreRoutes'. -/
def coreRoutesUptoCard : Claim7 := { stood := { row := coreRoutesUptoRow, standIns := [], harness := (true, "898431b7e75c5779d5d9646abae52024dbe0b9c61b85d5b36a609ab6c0f8cca0"), looks := true }, kinds := [], alts := [], laidByText := true, laidKinds := [.data, .pinned], laidTests := true, laidLooks := .later }
def CoreRoutesUptoCardSaid : Prop := Claim7.holds Tryz.pinned (.plain (OpenSpec.upto coreRoutesSpec)) coreRoutesUptoCard

/-- THE SECOND FORM's CARD OF 'trivetlaw11.CorePackets'. -/
def corePacketsUptoCard : Claim7 := { stood := { row := corePacketsUptoRow, standIns := [], harness := (true, "898431b7e75c5779d5d9646abae52024dbe0b9c61b85d5b36a609ab6c0f8cca0"), looks := true }, kinds := [], alts := [], laidByText := true, laidKinds := [.data, .pinned], laidTests := true, laidLooks := .later }
def CorePacketsUptoCardSaid : Prop := Claim7.holds Tryz.pinned (.plain (OpenSpec.upto corePacketsSpec)) corePacketsUptoCard

/-- THE SECOND FORM's CARD OF 'trivetlaw11.CoreUndoes'. -/
def coreUndoesUptoCard : Claim7 := { stood := { row := coreUndoesUptoRow, standIns := [], harness := (true, "898431b7e75c5779d5d9646abae52024dbe0b9c61b85d5b36a609ab6c0f8cca0"), looks := true }, kinds := [], alts := [], laidByText := true, laidKinds := [.data, .pinned], laidTests := true, laidLooks := .later }
def CoreUndoesUptoCardSaid : Prop := Claim7.holds Tryz.pinned (.plain (OpenSpec.upto coreUndoesSpec)) coreUndoesUptoCard

/-- THE SECOND FORM's CARD OF 'trivetlaw11.CoreTicks'. -/
def coreTicksUptoCard : Claim7 := { stood := { row := coreTicksUptoRow, standIns := [], harness := (true, "898431b7e75c5779d5d9646abae52024dbe0b9c61b85d5b36a609ab6c0f8cca0"), looks := true }, kinds := [], alts := [], laidByText := true, laidKinds := [.data, .pinned], laidTests := true, laidLooks := .later }
def CoreTicksUptoCardSaid : Prop := Claim7.holds Tryz.pinned (.plain (OpenSpec.upto coreTicksSpec)) coreTicksUptoCard

/-- THE SECOND FORM's CARD OF 'trivetlaw12.TxWhole'. -/
def txWholeUptoCard : Claim7 := { stood := { row := txWholeUptoRow, standIns := [], harness := (true, "898431b7e75c5779d5d9646abae52024dbe0b9c61b85d5b36a609ab6c0f8cca0"), looks := true }, kinds := [], alts := [], laidByText := true, laidKinds := [.data, .pinned], laidTests := true, laidLooks := .later }
def TxWholeUptoCardSaid : Prop := Claim7.holds Tryz.pinned (.plain (OpenSpec.upto txWholeSpec)) txWholeUptoCard

/-- THE SECOND FORM's CARD OF 'trivetlaw12.TxOne'. -/
def txOneUptoCard : Claim7 := { stood := { row := txOneUptoRow, standIns := [], harness := (true, "898431b7e75c5779d5d9646abae52024dbe0b9c61b85d5b36a609ab6c0f8cca0"), looks := true }, kinds := [], alts := [], laidByText := true, laidKinds := [.data, .pinned], laidTests := true, laidLooks := .later }
def TxOneUptoCardSaid : Prop := Claim7.holds Tryz.pinned (.plain (OpenSpec.upto txOneSpec)) txOneUptoCard

/-- THE SECOND FORM's CARD OF 'trivetlaw11.CoreDoes'. -/
def coreDoesUptoCard : Claim7 := { stood := { row := coreDoesUptoRow, standIns := [], harness := (true, "898431b7e75c5779d5d9646abae52024dbe0b9c61b85d5b36a609ab6c0f8cca0"), looks := true }, kinds := [], alts := [], laidByText := true, laidKinds := [.data, .pinned], laidTests := true, laidLooks := .later }
def CoreDoesUptoCardSaid : Prop := Claim7.holds Tryz.pinned (.plain (OpenSpec.upto coreDoesSpec)) coreDoesUptoCard

/-- THE SECOND FORM's CARD OF 'trivetlaw11.CoreStrips'. -/
def coreStripsUptoCard : Claim7 := { stood := { row := coreStripsUptoRow, standIns := [], harness := (true, "898431b7e75c5779d5d9646abae52024dbe0b9c61b85d5b36a609ab6c0f8cca0"), looks := true }, kinds := [], alts := [], laidByText := true, laidKinds := [.data, .pinned], laidTests := true, laidLooks := .later }
def CoreStripsUptoCardSaid : Prop := Claim7.holds Tryz.pinned (.plain (OpenSpec.upto coreStripsSpec)) coreStripsUptoCard

/-- THE SECOND FORM's CARD OF 'trivetlaw11.CoreKeeps'. -/
def coreKeepsUptoCard : Claim7 := { stood := { row := coreKeepsUptoRow, standIns := [], harness := (true, "898431b7e75c5779d5d9646abae52024dbe0b9c61b85d5b36a609ab6c0f8cca0"), looks := true }, kinds := [], alts := [], laidByText := true, laidKinds := [.data, .pinned], laidTests := true, laidLooks := .later }
def CoreKeepsUptoCardSaid : Prop := Claim7.holds Tryz.pinned (.plain (OpenSpec.upto coreKeepsSpec)) coreKeepsUptoCard

/-- THE SECOND FORM's CARD OF 'trivetlaw12.TxRuns'. -/
def txRunsUptoCard : Claim7 := { stood := { row := txRunsUptoRow, standIns := [], harness := (true, "898431b7e75c5779d5d9646abae52024dbe0b9c61b85d5b36a609ab6c0f8cca0"), looks := true }, kinds := [], alts := [], laidByText := true, laidKinds := [.data, .pinned], laidTests := true, laidLooks := .later }
def TxRunsUptoCardSaid : Prop := Claim7.holds Tryz.pinned (.plain (OpenSpec.upto txRunsSpec)) txRunsUptoCard

/-- THE SECOND FORM's CARD OF 'trivetlaw12.TxKeeps'. -/
def txKeepsUptoCard : Claim7 := { stood := { row := txKeepsUptoRow, standIns := [], harness := (true, "898431b7e75c5779d5d9646abae52024dbe0b9c61b85d5b36a609ab6c0f8cca0"), looks := true }, kinds := [], alts := [], laidByText := true, laidKinds := [.data, .pinned], laidTests := true, laidLooks := .later }
def TxKeepsUptoCardSaid : Prop := Claim7.holds Tryz.pinned (.plain (OpenSpec.upto txKeepsSpec)) txKeepsUptoCard
end Rows
end Go.Proofs.YtpcpljfifipagaaGreatDoor
