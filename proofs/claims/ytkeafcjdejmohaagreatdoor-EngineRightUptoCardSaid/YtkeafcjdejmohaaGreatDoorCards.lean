/-
  DERIVED. GIVEN WITH THE SEED: THE CARDS: each row of YtkeafcjdejmohaaGreatDoorRows.lean that lists a variable, with what it lists TIED to the program's text (the seventh form; the later family's looks); each row that meets fmt, with fmt's text TOLD by the authors' own Lean function (tested against real Go, not proved from fmt's source: count such statements apart). THE CARD IS WHAT COUNTS. Prove the row's statement (the work); the ties are given (YtkeafcjdejmohaaGreatDoorTie.lean); close each card by the builder's one call (the guide's Derived/Test/ToyasCard.lean, 'card_holds'). Laid BY PROGRAM, IN A SANDBOX (cutbox-door.mjs). By AI agents, Wed Nov 11 2026. No macro, syntax, notation, axiom, sorry.
-/
import Derived.Test.YtkeafcjdejmohaaGreatDoorRows
import GoSem.ClaimSeven
namespace Go.Proofs.YtkeafcjdejmohaaGreatDoor
namespace Rows

/-- THE TIED CARD OF 'hawalalaw17.EngineAgain'. -/
def engineAgainCard : Claim7 := { stood := { row := engineAgainRow, standIns := [], harness := (true, "1b5cbb5db1fe63b6cdfec149d55369986ec20d4e1b7b87f431aba02b05aaf186"), looks := true }, kinds := [], alts := [], laidByText := true, laidKinds := [.handle], laidTests := true, laidLooks := .later }
def EngineAgainCardSaid : Prop := Claim7.holds Tryz.pinned (.plain (OpenSpec.ofChange engineAgainSpec)) engineAgainCard

/-- THE TIED CARD OF 'hawalalaw17.EngineRun'. -/
def engineRunCard : Claim7 := { stood := { row := engineRunRow, standIns := [], harness := (true, "1b5cbb5db1fe63b6cdfec149d55369986ec20d4e1b7b87f431aba02b05aaf186"), looks := true }, kinds := [], alts := [], laidByText := true, laidKinds := [.handle], laidTests := true, laidLooks := .later }
def EngineRunCardSaid : Prop := Claim7.holds Tryz.pinned (.plain (OpenSpec.ofChange engineRunSpec)) engineRunCard

/-- THE TIED CARD OF 'hawalalaw17.EngineLimit'. -/
def engineLimitCard : Claim7 := { stood := { row := engineLimitRow, standIns := [], harness := (true, "1b5cbb5db1fe63b6cdfec149d55369986ec20d4e1b7b87f431aba02b05aaf186"), looks := true }, kinds := [], alts := [], laidByText := true, laidKinds := [.handle], laidTests := true, laidLooks := .later }
def EngineLimitCardSaid : Prop := Claim7.holds Tryz.pinned (.plain (OpenSpec.ofChange engineLimitSpec)) engineLimitCard

/-- THE TIED CARD OF 'hawalalaw17.EngineRight'. -/
def engineRightCard : Claim7 := { stood := { row := engineRightRow, standIns := [], harness := (true, "1b5cbb5db1fe63b6cdfec149d55369986ec20d4e1b7b87f431aba02b05aaf186"), looks := true }, kinds := [], alts := [], laidByText := true, laidKinds := [.handle], laidTests := true, laidLooks := .later }
def EngineRightCardSaid : Prop := Claim7.holds Tryz.pinned (.plain (OpenSpec.ofChange engineRightSpec)) engineRightCard

/-- THE SECOND FORM's CARD OF 'hawalalaw17.EngineAgain'. -/
def engineAgainUptoCard : Claim7 := { stood := { row := engineAgainUptoRow, standIns := [], harness := (true, "1b5cbb5db1fe63b6cdfec149d55369986ec20d4e1b7b87f431aba02b05aaf186"), looks := true }, kinds := [], alts := [], laidByText := true, laidKinds := [.handle], laidTests := true, laidLooks := .later }
def EngineAgainUptoCardSaid : Prop := Claim7.holds Tryz.pinned (.plain (OpenSpec.upto engineAgainSpec)) engineAgainUptoCard

/-- THE SECOND FORM's CARD OF 'hawalalaw17.EngineRun'. -/
def engineRunUptoCard : Claim7 := { stood := { row := engineRunUptoRow, standIns := [], harness := (true, "1b5cbb5db1fe63b6cdfec149d55369986ec20d4e1b7b87f431aba02b05aaf186"), looks := true }, kinds := [], alts := [], laidByText := true, laidKinds := [.handle], laidTests := true, laidLooks := .later }
def EngineRunUptoCardSaid : Prop := Claim7.holds Tryz.pinned (.plain (OpenSpec.upto engineRunSpec)) engineRunUptoCard

/-- THE SECOND FORM's CARD OF 'hawalalaw17.EngineLimit'. -/
def engineLimitUptoCard : Claim7 := { stood := { row := engineLimitUptoRow, standIns := [], harness := (true, "1b5cbb5db1fe63b6cdfec149d55369986ec20d4e1b7b87f431aba02b05aaf186"), looks := true }, kinds := [], alts := [], laidByText := true, laidKinds := [.handle], laidTests := true, laidLooks := .later }
def EngineLimitUptoCardSaid : Prop := Claim7.holds Tryz.pinned (.plain (OpenSpec.upto engineLimitSpec)) engineLimitUptoCard

/-- THE SECOND FORM's CARD OF 'hawalalaw17.EngineRight'. -/
def engineRightUptoCard : Claim7 := { stood := { row := engineRightUptoRow, standIns := [], harness := (true, "1b5cbb5db1fe63b6cdfec149d55369986ec20d4e1b7b87f431aba02b05aaf186"), looks := true }, kinds := [], alts := [], laidByText := true, laidKinds := [.handle], laidTests := true, laidLooks := .later }
def EngineRightUptoCardSaid : Prop := Claim7.holds Tryz.pinned (.plain (OpenSpec.upto engineRightSpec)) engineRightUptoCard
end Rows
end Go.Proofs.YtkeafcjdejmohaaGreatDoor
