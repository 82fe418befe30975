/-
  DERIVED. GIVEN WITH THE SEED: THE CARDS: each row of YtjffmldlkofpaaaGreatDoorRows.lean that lists a variable, with what it lists TIED to the program's text (the seventh form; the later family's looks); each row that meets fmt, with fmt's text TOLD by the authors' own Lean function (tested against real Go, not proved from fmt's source: count such statements apart). THE CARD IS WHAT COUNTS. Prove the row's statement (the work); the ties are given (YtjffmldlkofpaaaGreatDoorTie.lean); close each card by the builder's one call (the guide's Derived/Test/ToyasCard.lean, 'card_holds'). Laid BY PROGRAM, IN A SANDBOX (cutbox-door.mjs). By AI agents, Wed Nov 11 2026. No macro, syntax, notation, axiom, sorry.
-/
import Derived.Test.YtjffmldlkofpaaaGreatDoorRows
import GoSem.ClaimSeven
namespace Go.Proofs.YtjffmldlkofpaaaGreatDoor
namespace Rows

/-- THE TIED CARD OF 'hawalalaw21.DrainRun'. -/
def drainRunCard : Claim7 := { stood := { row := drainRunRow, standIns := [], harness := (true, "57e89290ecf90a0a8f4f89eb14fc726e0dd33f6e212b6fe4f90c343d34d52935"), looks := true }, kinds := [], alts := [], laidByText := true, laidKinds := [.handle], laidTests := true, laidLooks := .later }
def DrainRunCardSaid : Prop := Claim7.holds Tryz.pinned (.plain (OpenSpec.ofChange drainRunSpec)) drainRunCard

/-- THE TIED CARD OF 'hawalalaw21.DrainAll'. -/
def drainAllCard : Claim7 := { stood := { row := drainAllRow, standIns := [], harness := (true, "57e89290ecf90a0a8f4f89eb14fc726e0dd33f6e212b6fe4f90c343d34d52935"), looks := true }, kinds := [], alts := [], laidByText := true, laidKinds := [.handle], laidTests := true, laidLooks := .later }
def DrainAllCardSaid : Prop := Claim7.holds Tryz.pinned (.plain (OpenSpec.ofChange drainAllSpec)) drainAllCard

/-- THE TIED CARD OF 'hawalalaw21.DrainLess'. -/
def drainLessCard : Claim7 := { stood := { row := drainLessRow, standIns := [], harness := (true, "57e89290ecf90a0a8f4f89eb14fc726e0dd33f6e212b6fe4f90c343d34d52935"), looks := true }, kinds := [], alts := [], laidByText := true, laidKinds := [.handle], laidTests := true, laidLooks := .later }
def DrainLessCardSaid : Prop := Claim7.holds Tryz.pinned (.plain (OpenSpec.ofChange drainLessSpec)) drainLessCard

/-- THE TIED CARD OF 'hawalalaw21.DrainOrder'. -/
def drainOrderCard : Claim7 := { stood := { row := drainOrderRow, standIns := [], harness := (true, "57e89290ecf90a0a8f4f89eb14fc726e0dd33f6e212b6fe4f90c343d34d52935"), looks := true }, kinds := [], alts := [], laidByText := true, laidKinds := [.handle], laidTests := true, laidLooks := .later }
def DrainOrderCardSaid : Prop := Claim7.holds Tryz.pinned (.plain (OpenSpec.ofChange drainOrderSpec)) drainOrderCard

/-- THE TIED CARD OF 'hawalalaw21.DrainNone'. -/
def drainNoneCard : Claim7 := { stood := { row := drainNoneRow, standIns := [], harness := (true, "57e89290ecf90a0a8f4f89eb14fc726e0dd33f6e212b6fe4f90c343d34d52935"), looks := true }, kinds := [], alts := [], laidByText := true, laidKinds := [.handle], laidTests := true, laidLooks := .later }
def DrainNoneCardSaid : Prop := Claim7.holds Tryz.pinned (.plain (OpenSpec.ofChange drainNoneSpec)) drainNoneCard

/-- THE TIED CARD OF 'hawalalaw17.EngineWhole'. -/
def engineWholeCard : Claim7 := { stood := { row := engineWholeRow, standIns := [], harness := (true, "57e89290ecf90a0a8f4f89eb14fc726e0dd33f6e212b6fe4f90c343d34d52935"), looks := true }, kinds := [], alts := [], laidByText := true, laidKinds := [.handle], laidTests := true, laidLooks := .later }
def EngineWholeCardSaid : Prop := Claim7.holds Tryz.pinned (.plain (OpenSpec.ofChange engineWholeSpec)) engineWholeCard

/-- THE TIED CARD OF 'hawalalaw20.AuditRight'. -/
def auditRightCard : Claim7 := { stood := { row := auditRightRow, standIns := [], harness := (true, "57e89290ecf90a0a8f4f89eb14fc726e0dd33f6e212b6fe4f90c343d34d52935"), looks := true }, kinds := [], alts := [], laidByText := true, laidKinds := [.handle], laidTests := true, laidLooks := .later }
def AuditRightCardSaid : Prop := Claim7.holds Tryz.pinned (.plain (OpenSpec.ofChange auditRightSpec)) auditRightCard

/-- THE TIED CARD OF 'hawalalaw20.AuditSpoilt'. -/
def auditSpoiltCard : Claim7 := { stood := { row := auditSpoiltRow, standIns := [], harness := (true, "57e89290ecf90a0a8f4f89eb14fc726e0dd33f6e212b6fe4f90c343d34d52935"), looks := true }, kinds := [], alts := [], laidByText := true, laidKinds := [.handle], laidTests := true, laidLooks := .later }
def AuditSpoiltCardSaid : Prop := Claim7.holds Tryz.pinned (.plain (OpenSpec.ofChange auditSpoiltSpec)) auditSpoiltCard

/-- THE TIED CARD OF 'hawalalaw20.AuditOne'. -/
def auditOneCard : Claim7 := { stood := { row := auditOneRow, standIns := [], harness := (true, "57e89290ecf90a0a8f4f89eb14fc726e0dd33f6e212b6fe4f90c343d34d52935"), looks := true }, kinds := [], alts := [], laidByText := true, laidKinds := [.handle], laidTests := true, laidLooks := .later }
def AuditOneCardSaid : Prop := Claim7.holds Tryz.pinned (.plain (OpenSpec.ofChange auditOneSpec)) auditOneCard

/-- THE TIED CARD OF 'hawalalaw20.AuditHeld'. -/
def auditHeldCard : Claim7 := { stood := { row := auditHeldRow, standIns := [], harness := (true, "57e89290ecf90a0a8f4f89eb14fc726e0dd33f6e212b6fe4f90c343d34d52935"), looks := true }, kinds := [], alts := [], laidByText := true, laidKinds := [.handle], laidTests := true, laidLooks := .later }
def AuditHeldCardSaid : Prop := Claim7.holds Tryz.pinned (.plain (OpenSpec.ofChange auditHeldSpec)) auditHeldCard

/-- THE TIED CARD OF 'hawalalaw21.DrainEnds'. -/
def drainEndsCard : Claim7 := { stood := { row := drainEndsRow, standIns := [], harness := (true, "57e89290ecf90a0a8f4f89eb14fc726e0dd33f6e212b6fe4f90c343d34d52935"), looks := true }, kinds := [], alts := [], laidByText := true, laidKinds := [.handle], laidTests := true, laidLooks := .later }
def DrainEndsCardSaid : Prop := Claim7.holds Tryz.pinned (.plain (OpenSpec.ofChange drainEndsSpec)) drainEndsCard

/-- THE SECOND FORM's CARD OF 'hawalalaw21.DrainRun'. -/
def drainRunUptoCard : Claim7 := { stood := { row := drainRunUptoRow, standIns := [], harness := (true, "57e89290ecf90a0a8f4f89eb14fc726e0dd33f6e212b6fe4f90c343d34d52935"), looks := true }, kinds := [], alts := [], laidByText := true, laidKinds := [.handle], laidTests := true, laidLooks := .later }
def DrainRunUptoCardSaid : Prop := Claim7.holds Tryz.pinned (.plain (OpenSpec.upto drainRunSpec)) drainRunUptoCard

/-- THE SECOND FORM's CARD OF 'hawalalaw21.DrainAll'. -/
def drainAllUptoCard : Claim7 := { stood := { row := drainAllUptoRow, standIns := [], harness := (true, "57e89290ecf90a0a8f4f89eb14fc726e0dd33f6e212b6fe4f90c343d34d52935"), looks := true }, kinds := [], alts := [], laidByText := true, laidKinds := [.handle], laidTests := true, laidLooks := .later }
def DrainAllUptoCardSaid : Prop := Claim7.holds Tryz.pinned (.plain (OpenSpec.upto drainAllSpec)) drainAllUptoCard

/-- THE SECOND FORM's CARD OF 'hawalalaw21.DrainLess'. -/
def drainLessUptoCard : Claim7 := { stood := { row := drainLessUptoRow, standIns := [], harness := (true, "57e89290ecf90a0a8f4f89eb14fc726e0dd33f6e212b6fe4f90c343d34d52935"), looks := true }, kinds := [], alts := [], laidByText := true, laidKinds := [.handle], laidTests := true, laidLooks := .later }
def DrainLessUptoCardSaid : Prop := Claim7.holds Tryz.pinned (.plain (OpenSpec.upto drainLessSpec)) drainLessUptoCard

/-- THE SECOND FORM's CARD OF 'hawalalaw21.DrainOrder'. -/
def drainOrderUptoCard : Claim7 := { stood := { row := drainOrderUptoRow, standIns := [], harness := (true, "57e89290ecf90a0a8f4f89eb14fc726e0dd33f6e212b6fe4f90c343d34d52935"), looks := true }, kinds := [], alts := [], laidByText := true, laidKinds := [.handle], laidTests := true, laidLooks := .later }
def DrainOrderUptoCardSaid : Prop := Claim7.holds Tryz.pinned (.plain (OpenSpec.upto drainOrderSpec)) drainOrderUptoCard

/-- THE SECOND FORM's CARD OF 'hawalalaw21.DrainNone'. -/
def drainNoneUptoCard : Claim7 := { stood := { row := drainNoneUptoRow, standIns := [], harness := (true, "57e89290ecf90a0a8f4f89eb14fc726e0dd33f6e212b6fe4f90c343d34d52935"), looks := true }, kinds := [], alts := [], laidByText := true, laidKinds := [.handle], laidTests := true, laidLooks := .later }
def DrainNoneUptoCardSaid : Prop := Claim7.holds Tryz.pinned (.plain (OpenSpec.upto drainNoneSpec)) drainNoneUptoCard

/-- THE SECOND FORM's CARD OF 'hawalalaw17.EngineWhole'. -/
def engineWholeUptoCard : Claim7 := { stood := { row := engineWholeUptoRow, standIns := [], harness := (true, "57e89290ecf90a0a8f4f89eb14fc726e0dd33f6e212b6fe4f90c343d34d52935"), looks := true }, kinds := [], alts := [], laidByText := true, laidKinds := [.handle], laidTests := true, laidLooks := .later }
def EngineWholeUptoCardSaid : Prop := Claim7.holds Tryz.pinned (.plain (OpenSpec.upto engineWholeSpec)) engineWholeUptoCard

/-- THE SECOND FORM's CARD OF 'hawalalaw20.AuditRight'. -/
def auditRightUptoCard : Claim7 := { stood := { row := auditRightUptoRow, standIns := [], harness := (true, "57e89290ecf90a0a8f4f89eb14fc726e0dd33f6e212b6fe4f90c343d34d52935"), looks := true }, kinds := [], alts := [], laidByText := true, laidKinds := [.handle], laidTests := true, laidLooks := .later }
def AuditRightUptoCardSaid : Prop := Claim7.holds Tryz.pinned (.plain (OpenSpec.upto auditRightSpec)) auditRightUptoCard

/-- THE SECOND FORM's CARD OF 'hawalalaw20.AuditSpoilt'. -/
def auditSpoiltUptoCard : Claim7 := { stood := { row := auditSpoiltUptoRow, standIns := [], harness := (true, "57e89290ecf90a0a8f4f89eb14fc726e0dd33f6e212b6fe4f90c343d34d52935"), looks := true }, kinds := [], alts := [], laidByText := true, laidKinds := [.handle], laidTests := true, laidLooks := .later }
def AuditSpoiltUptoCardSaid : Prop := Claim7.holds Tryz.pinned (.plain (OpenSpec.upto auditSpoiltSpec)) auditSpoiltUptoCard

/-- THE SECOND FORM's CARD OF 'hawalalaw20.AuditOne'. -/
def auditOneUptoCard : Claim7 := { stood := { row := auditOneUptoRow, standIns := [], harness := (true, "57e89290ecf90a0a8f4f89eb14fc726e0dd33f6e212b6fe4f90c343d34d52935"), looks := true }, kinds := [], alts := [], laidByText := true, laidKinds := [.handle], laidTests := true, laidLooks := .later }
def AuditOneUptoCardSaid : Prop := Claim7.holds Tryz.pinned (.plain (OpenSpec.upto auditOneSpec)) auditOneUptoCard

/-- THE SECOND FORM's CARD OF 'hawalalaw20.AuditHeld'. -/
def auditHeldUptoCard : Claim7 := { stood := { row := auditHeldUptoRow, standIns := [], harness := (true, "57e89290ecf90a0a8f4f89eb14fc726e0dd33f6e212b6fe4f90c343d34d52935"), looks := true }, kinds := [], alts := [], laidByText := true, laidKinds := [.handle], laidTests := true, laidLooks := .later }
def AuditHeldUptoCardSaid : Prop := Claim7.holds Tryz.pinned (.plain (OpenSpec.upto auditHeldSpec)) auditHeldUptoCard

/-- THE SECOND FORM's CARD OF 'hawalalaw21.DrainEnds'. -/
def drainEndsUptoCard : Claim7 := { stood := { row := drainEndsUptoRow, standIns := [], harness := (true, "57e89290ecf90a0a8f4f89eb14fc726e0dd33f6e212b6fe4f90c343d34d52935"), looks := true }, kinds := [], alts := [], laidByText := true, laidKinds := [.handle], laidTests := true, laidLooks := .later }
def DrainEndsUptoCardSaid : Prop := Claim7.holds Tryz.pinned (.plain (OpenSpec.upto drainEndsSpec)) drainEndsUptoCard
end Rows
end Go.Proofs.YtjffmldlkofpaaaGreatDoor
