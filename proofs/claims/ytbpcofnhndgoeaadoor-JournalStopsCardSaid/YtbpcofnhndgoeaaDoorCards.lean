/-
  DERIVED. GIVEN WITH THE SEED: THE CARDS: each row of YtbpcofnhndgoeaaDoorRows.lean that lists a variable, with what it lists TIED to the program's text (the seventh form; the later family's looks); each row that meets fmt, with fmt's text TOLD by the authors' own Lean function (tested against real Go, not proved from fmt's source: count such statements apart). THE CARD IS WHAT COUNTS. Prove the row's statement (the work); the ties are given (YtbpcofnhndgoeaaDoorTie.lean); close each card by the builder's one call (the guide's Derived/Test/ToyasCard.lean, 'card_holds'). Laid BY PROGRAM, IN A SANDBOX (cutbox-door.mjs). By AI agents, Wed Nov 11 2026. No macro, syntax, notation, axiom, sorry.
-/
import Derived.Test.YtbpcofnhndgoeaaDoorRows
import GoSem.ClaimSeven
namespace Go.Proofs.YtbpcofnhndgoeaaDoor
namespace Rows

/-- THE TIED CARD OF 'hawalalaw05.DiskRename'. -/
def diskRenameCard : Claim7 := { stood := { row := diskRenameRow, standIns := [], harness := (true, "8dd31ca3262a312cbaa2d9630b7c6a07c2f38013383ac2242a406b5cf89ee0da"), looks := true }, kinds := [], alts := [], laidByText := true, laidKinds := [.handle], laidTests := true, laidLooks := .later }
def DiskRenameCardSaid : Prop := Claim7.holds Tryd.pinned (.plain (OpenSpec.ofChange diskRenameSpec)) diskRenameCard

/-- THE TIED CARD OF 'hawalalaw05.DiskCut'. -/
def diskCutCard : Claim7 := { stood := { row := diskCutRow, standIns := [], harness := (true, "8dd31ca3262a312cbaa2d9630b7c6a07c2f38013383ac2242a406b5cf89ee0da"), looks := true }, kinds := [], alts := [], laidByText := true, laidKinds := [.handle], laidTests := true, laidLooks := .later }
def DiskCutCardSaid : Prop := Claim7.holds Tryd.pinned (.plain (OpenSpec.ofChange diskCutSpec)) diskCutCard

/-- THE TIED CARD OF 'hawalalaw05.DiskRoom'. -/
def diskRoomCard : Claim7 := { stood := { row := diskRoomRow, standIns := [], harness := (true, "8dd31ca3262a312cbaa2d9630b7c6a07c2f38013383ac2242a406b5cf89ee0da"), looks := true }, kinds := [], alts := [], laidByText := true, laidKinds := [.handle], laidTests := true, laidLooks := .later }
def DiskRoomCardSaid : Prop := Claim7.holds Tryd.pinned (.plain (OpenSpec.ofChange diskRoomSpec)) diskRoomCard

/-- THE TIED CARD OF 'hawalalaw06.JournalForm'. -/
def journalFormCard : Claim7 := { stood := { row := journalFormRow, standIns := [], harness := (true, "8dd31ca3262a312cbaa2d9630b7c6a07c2f38013383ac2242a406b5cf89ee0da"), looks := true }, kinds := [], alts := [], laidByText := true, laidKinds := [.handle], laidTests := true, laidLooks := .later }
def JournalFormCardSaid : Prop := Claim7.holds Tryd.pinned (.plain (OpenSpec.ofChange journalFormSpec)) journalFormCard

/-- THE TIED CARD OF 'hawalalaw06.JournalFull'. -/
def journalFullCard : Claim7 := { stood := { row := journalFullRow, standIns := [], harness := (true, "8dd31ca3262a312cbaa2d9630b7c6a07c2f38013383ac2242a406b5cf89ee0da"), looks := true }, kinds := [], alts := [], laidByText := true, laidKinds := [.handle], laidTests := true, laidLooks := .later }
def JournalFullCardSaid : Prop := Claim7.holds Tryd.pinned (.plain (OpenSpec.ofChange journalFullSpec)) journalFullCard

/-- THE TIED CARD OF 'hawalalaw06.JournalLong'. -/
def journalLongCard : Claim7 := { stood := { row := journalLongRow, standIns := [], harness := (true, "8dd31ca3262a312cbaa2d9630b7c6a07c2f38013383ac2242a406b5cf89ee0da"), looks := true }, kinds := [], alts := [], laidByText := true, laidKinds := [.handle], laidTests := true, laidLooks := .later }
def JournalLongCardSaid : Prop := Claim7.holds Tryd.pinned (.plain (OpenSpec.ofChange journalLongSpec)) journalLongCard

/-- THE TIED CARD OF 'hawalalaw06.JournalStops'. -/
def journalStopsCard : Claim7 := { stood := { row := journalStopsRow, standIns := [], harness := (true, "8dd31ca3262a312cbaa2d9630b7c6a07c2f38013383ac2242a406b5cf89ee0da"), looks := true }, kinds := [], alts := [], laidByText := true, laidKinds := [.handle], laidTests := true, laidLooks := .later }
def JournalStopsCardSaid : Prop := Claim7.holds Tryd.pinned (.plain (OpenSpec.ofChange journalStopsSpec)) journalStopsCard

/-- THE SECOND FORM's CARD OF 'hawalalaw05.DiskRename'. -/
def diskRenameUptoCard : Claim7 := { stood := { row := diskRenameUptoRow, standIns := [], harness := (true, "8dd31ca3262a312cbaa2d9630b7c6a07c2f38013383ac2242a406b5cf89ee0da"), looks := true }, kinds := [], alts := [], laidByText := true, laidKinds := [.handle], laidTests := true, laidLooks := .later }
def DiskRenameUptoCardSaid : Prop := Claim7.holds Tryd.pinned (.plain (OpenSpec.upto diskRenameSpec)) diskRenameUptoCard

/-- THE SECOND FORM's CARD OF 'hawalalaw05.DiskCut'. -/
def diskCutUptoCard : Claim7 := { stood := { row := diskCutUptoRow, standIns := [], harness := (true, "8dd31ca3262a312cbaa2d9630b7c6a07c2f38013383ac2242a406b5cf89ee0da"), looks := true }, kinds := [], alts := [], laidByText := true, laidKinds := [.handle], laidTests := true, laidLooks := .later }
def DiskCutUptoCardSaid : Prop := Claim7.holds Tryd.pinned (.plain (OpenSpec.upto diskCutSpec)) diskCutUptoCard

/-- THE SECOND FORM's CARD OF 'hawalalaw05.DiskRoom'. -/
def diskRoomUptoCard : Claim7 := { stood := { row := diskRoomUptoRow, standIns := [], harness := (true, "8dd31ca3262a312cbaa2d9630b7c6a07c2f38013383ac2242a406b5cf89ee0da"), looks := true }, kinds := [], alts := [], laidByText := true, laidKinds := [.handle], laidTests := true, laidLooks := .later }
def DiskRoomUptoCardSaid : Prop := Claim7.holds Tryd.pinned (.plain (OpenSpec.upto diskRoomSpec)) diskRoomUptoCard

/-- THE SECOND FORM's CARD OF 'hawalalaw06.JournalForm'. -/
def journalFormUptoCard : Claim7 := { stood := { row := journalFormUptoRow, standIns := [], harness := (true, "8dd31ca3262a312cbaa2d9630b7c6a07c2f38013383ac2242a406b5cf89ee0da"), looks := true }, kinds := [], alts := [], laidByText := true, laidKinds := [.handle], laidTests := true, laidLooks := .later }
def JournalFormUptoCardSaid : Prop := Claim7.holds Tryd.pinned (.plain (OpenSpec.upto journalFormSpec)) journalFormUptoCard

/-- THE SECOND FORM's CARD OF 'hawalalaw06.JournalFull'. -/
def journalFullUptoCard : Claim7 := { stood := { row := journalFullUptoRow, standIns := [], harness := (true, "8dd31ca3262a312cbaa2d9630b7c6a07c2f38013383ac2242a406b5cf89ee0da"), looks := true }, kinds := [], alts := [], laidByText := true, laidKinds := [.handle], laidTests := true, laidLooks := .later }
def JournalFullUptoCardSaid : Prop := Claim7.holds Tryd.pinned (.plain (OpenSpec.upto journalFullSpec)) journalFullUptoCard

/-- THE SECOND FORM's CARD OF 'hawalalaw06.JournalLong'. -/
def journalLongUptoCard : Claim7 := { stood := { row := journalLongUptoRow, standIns := [], harness := (true, "8dd31ca3262a312cbaa2d9630b7c6a07c2f38013383ac2242a406b5cf89ee0da"), looks := true }, kinds := [], alts := [], laidByText := true, laidKinds := [.handle], laidTests := true, laidLooks := .later }
def JournalLongUptoCardSaid : Prop := Claim7.holds Tryd.pinned (.plain (OpenSpec.upto journalLongSpec)) journalLongUptoCard

/-- THE SECOND FORM's CARD OF 'hawalalaw06.JournalStops'. -/
def journalStopsUptoCard : Claim7 := { stood := { row := journalStopsUptoRow, standIns := [], harness := (true, "8dd31ca3262a312cbaa2d9630b7c6a07c2f38013383ac2242a406b5cf89ee0da"), looks := true }, kinds := [], alts := [], laidByText := true, laidKinds := [.handle], laidTests := true, laidLooks := .later }
def JournalStopsUptoCardSaid : Prop := Claim7.holds Tryd.pinned (.plain (OpenSpec.upto journalStopsSpec)) journalStopsUptoCard
end Rows
end Go.Proofs.YtbpcofnhndgoeaaDoor
