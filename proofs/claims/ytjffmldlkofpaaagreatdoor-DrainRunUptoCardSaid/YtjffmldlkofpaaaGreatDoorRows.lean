/-
  NARROWER THAN 'FOR EVERY INPUT', by the rows' own cells (each row's printed sentence says how): DrainRun: laid · DrainAll: laid · DrainLess: laid · DrainOrder: laid · DrainNone: laid · EngineWhole: laid · AuditRight: laid · AuditSpoilt: laid · AuditOne: laid · AuditHeld: laid · DrainEnds: laid.
  DERIVED. THE GIVEN ROWS OF THIS SEAT. 11 by the template 'for every input the law returns true; each argument reads behind the call as it read before'; 0 by the template 'total and deterministic' (their statements: YtjffmldlkofpaaaGreatDoorTotals.lean).
  GIVEN WITH THE SEED: the statements are not yours to turn. If you find one false, say at which input.
  Laid BY PROGRAM, IN A SANDBOX (cutbox-rows.mjs): the forced cells as the released guide's own fill.sh prints them over the translation d75054bab69f579f… (all of the seat's roots in one cut). By AI agents, Wed Nov 11 2026. No macro, syntax, notation, axiom, sorry.
-/
import Derived.Test.YtjffmldlkofpaaaGreatDoorChecked
import GoSem.Claim
import GoSem.ClaimJoined
import GoSem.ClaimMapViews
import Derived.JoinedTies
import Derived.KernelRfl
namespace Go.Proofs.YtjffmldlkofpaaaGreatDoor
/- THE CELL 'sum', in the pinned program and in every row, IS THE sha256 OF THE DUMP (.gsa) THAT YtjffmldlkofpaaaGreatDoorProg.lean LOADS. Nothing in Lean hashes anything: it is a label: what it is worth is what the hold of that sum in a sandbox is worth. -/
noncomputable def Tryz.pinned : Pinned := { name := "ytjffmldlkofpaaagreatdoor", sum := "d75054bab69f579f315512b5efe95bd1f23663d16035c5f3e583ce8ac48f8357", checked := Tryz.checked }
namespace Rows
def none {H : Type} : Left H := { results := [], args := [] }

/- WHAT THE LISTED PACKAGE-LEVEL VARIABLES READ AS WHEN THE CALL BEGINS. Each datum BY PROGRAM (the guide's laid-datum.mjs) off the statement by which the dump's own 'gosem.cut.vars' lays the variable. In a bare row this is a premise. The card (YtjffmldlkofpaaaGreatDoorCards.lean) ties it to the program's text. -/
def laid_errors_errorType {H : Type} : DataW H := .iface "internal/reflectlite.rtype" (.agg [.ptr (.lit (.string [101, 114, 114, 111, 114]))])

/-- 'hawalalaw21.DrainRun': WHATEVER THE INPUT: true; the input reads as it did. -/
def drainRunSpec : ChangeSpec := { name := "drainRun", fn := fun _ => fun
  | [d1, d2, d3, d4, d5] => { results := [.lit (.bool true)], args := [d1, d2, d3, d4, d5] }
  | _ => none }
def drainRunRow : OpenClaim := { program := "ytjffmldlkofpaaagreatdoor", sum := "d75054bab69f579f315512b5efe95bd1f23663d16035c5f3e583ce8ac48f8357", func := "hawala/hawalalaw21.DrainRun", spec := "drainRun", inPlace := ["internal/reflectlite.ValueOf", "(internal/reflectlite.Value).Type", "(internal/reflectlite.Value).IsNil", "internal/reflectlite.TypeOf", "(internal/reflectlite.Value).Elem", "(internal/reflectlite.Value).Set"], unfollowed := true, recurses := true, named := ["errors.errorType"], apart := false, laid := [("errors.errorType", laid_errors_errorType)] }
def DrainRunSaid : Prop := drainRunRow.holds Tryz.pinned (OpenSpec.ofChange drainRunSpec)

/-- ITS FALSE NEIGHBOUR: 'it returns false'. Refute it at one input. -/
def drainRunWrong : ChangeSpec := { name := "drainRun", fn := fun _ => fun
  | [d1, d2, d3, d4, d5] => { results := [.lit (.bool false)], args := [d1, d2, d3, d4, d5] }
  | _ => none }
def DrainRunWrongFalsely : Prop := drainRunRow.holds Tryz.pinned (OpenSpec.ofChange drainRunWrong)

/-- 'hawalalaw21.DrainAll': WHATEVER THE INPUT: true; the input reads as it did. -/
def drainAllSpec : ChangeSpec := { name := "drainAll", fn := fun _ => fun
  | [d1, d2] => { results := [.lit (.bool true)], args := [d1, d2] }
  | _ => none }
def drainAllRow : OpenClaim := { program := "ytjffmldlkofpaaagreatdoor", sum := "d75054bab69f579f315512b5efe95bd1f23663d16035c5f3e583ce8ac48f8357", func := "hawala/hawalalaw21.DrainAll", spec := "drainAll", inPlace := ["internal/reflectlite.ValueOf", "(internal/reflectlite.Value).Type", "(internal/reflectlite.Value).IsNil", "internal/reflectlite.TypeOf", "(internal/reflectlite.Value).Elem", "(internal/reflectlite.Value).Set"], unfollowed := true, recurses := true, named := ["errors.errorType"], apart := false, laid := [("errors.errorType", laid_errors_errorType)] }
def DrainAllSaid : Prop := drainAllRow.holds Tryz.pinned (OpenSpec.ofChange drainAllSpec)

/-- ITS FALSE NEIGHBOUR: 'it returns false'. Refute it at one input. -/
def drainAllWrong : ChangeSpec := { name := "drainAll", fn := fun _ => fun
  | [d1, d2] => { results := [.lit (.bool false)], args := [d1, d2] }
  | _ => none }
def DrainAllWrongFalsely : Prop := drainAllRow.holds Tryz.pinned (OpenSpec.ofChange drainAllWrong)

/-- 'hawalalaw21.DrainLess': WHATEVER THE INPUT: true; the input reads as it did. -/
def drainLessSpec : ChangeSpec := { name := "drainLess", fn := fun _ => fun
  | [d1, d2, d3, d4] => { results := [.lit (.bool true)], args := [d1, d2, d3, d4] }
  | _ => none }
def drainLessRow : OpenClaim := { program := "ytjffmldlkofpaaagreatdoor", sum := "d75054bab69f579f315512b5efe95bd1f23663d16035c5f3e583ce8ac48f8357", func := "hawala/hawalalaw21.DrainLess", spec := "drainLess", inPlace := ["internal/reflectlite.ValueOf", "(internal/reflectlite.Value).Type", "(internal/reflectlite.Value).IsNil", "internal/reflectlite.TypeOf", "(internal/reflectlite.Value).Elem", "(internal/reflectlite.Value).Set"], unfollowed := true, recurses := true, named := ["errors.errorType"], apart := false, laid := [("errors.errorType", laid_errors_errorType)] }
def DrainLessSaid : Prop := drainLessRow.holds Tryz.pinned (OpenSpec.ofChange drainLessSpec)

/-- ITS FALSE NEIGHBOUR: 'it returns false'. Refute it at one input. -/
def drainLessWrong : ChangeSpec := { name := "drainLess", fn := fun _ => fun
  | [d1, d2, d3, d4] => { results := [.lit (.bool false)], args := [d1, d2, d3, d4] }
  | _ => none }
def DrainLessWrongFalsely : Prop := drainLessRow.holds Tryz.pinned (OpenSpec.ofChange drainLessWrong)

/-- 'hawalalaw21.DrainOrder': WHATEVER THE INPUT: true; the input reads as it did. -/
def drainOrderSpec : ChangeSpec := { name := "drainOrder", fn := fun _ => fun
  | [d1, d2, d3] => { results := [.lit (.bool true)], args := [d1, d2, d3] }
  | _ => none }
def drainOrderRow : OpenClaim := { program := "ytjffmldlkofpaaagreatdoor", sum := "d75054bab69f579f315512b5efe95bd1f23663d16035c5f3e583ce8ac48f8357", func := "hawala/hawalalaw21.DrainOrder", spec := "drainOrder", inPlace := ["internal/reflectlite.ValueOf", "(internal/reflectlite.Value).Type", "(internal/reflectlite.Value).IsNil", "internal/reflectlite.TypeOf", "(internal/reflectlite.Value).Elem", "(internal/reflectlite.Value).Set"], unfollowed := true, recurses := true, named := ["errors.errorType"], apart := false, laid := [("errors.errorType", laid_errors_errorType)] }
def DrainOrderSaid : Prop := drainOrderRow.holds Tryz.pinned (OpenSpec.ofChange drainOrderSpec)

/-- ITS FALSE NEIGHBOUR: 'it returns false'. Refute it at one input. -/
def drainOrderWrong : ChangeSpec := { name := "drainOrder", fn := fun _ => fun
  | [d1, d2, d3] => { results := [.lit (.bool false)], args := [d1, d2, d3] }
  | _ => none }
def DrainOrderWrongFalsely : Prop := drainOrderRow.holds Tryz.pinned (OpenSpec.ofChange drainOrderWrong)

/-- 'hawalalaw21.DrainNone': WHATEVER THE INPUT: true; the input reads as it did. -/
def drainNoneSpec : ChangeSpec := { name := "drainNone", fn := fun _ => fun
  | [d1, d2, d3, d4] => { results := [.lit (.bool true)], args := [d1, d2, d3, d4] }
  | _ => none }
def drainNoneRow : OpenClaim := { program := "ytjffmldlkofpaaagreatdoor", sum := "d75054bab69f579f315512b5efe95bd1f23663d16035c5f3e583ce8ac48f8357", func := "hawala/hawalalaw21.DrainNone", spec := "drainNone", inPlace := ["internal/reflectlite.ValueOf", "(internal/reflectlite.Value).Type", "(internal/reflectlite.Value).IsNil", "internal/reflectlite.TypeOf", "(internal/reflectlite.Value).Elem", "(internal/reflectlite.Value).Set"], unfollowed := true, recurses := true, named := ["errors.errorType"], apart := false, laid := [("errors.errorType", laid_errors_errorType)] }
def DrainNoneSaid : Prop := drainNoneRow.holds Tryz.pinned (OpenSpec.ofChange drainNoneSpec)

/-- ITS FALSE NEIGHBOUR: 'it returns false'. Refute it at one input. -/
def drainNoneWrong : ChangeSpec := { name := "drainNone", fn := fun _ => fun
  | [d1, d2, d3, d4] => { results := [.lit (.bool false)], args := [d1, d2, d3, d4] }
  | _ => none }
def DrainNoneWrongFalsely : Prop := drainNoneRow.holds Tryz.pinned (OpenSpec.ofChange drainNoneWrong)

/-- 'hawalalaw17.EngineWhole': WHATEVER THE INPUT: true; the input reads as it did. -/
def engineWholeSpec : ChangeSpec := { name := "engineWhole", fn := fun _ => fun
  | [d1, d2, d3, d4] => { results := [.lit (.bool true)], args := [d1, d2, d3, d4] }
  | _ => none }
def engineWholeRow : OpenClaim := { program := "ytjffmldlkofpaaagreatdoor", sum := "d75054bab69f579f315512b5efe95bd1f23663d16035c5f3e583ce8ac48f8357", func := "hawala/hawalalaw17.EngineWhole", spec := "engineWhole", inPlace := ["internal/reflectlite.ValueOf", "(internal/reflectlite.Value).Type", "(internal/reflectlite.Value).IsNil", "internal/reflectlite.TypeOf", "(internal/reflectlite.Value).Elem", "(internal/reflectlite.Value).Set"], unfollowed := true, recurses := true, named := ["errors.errorType"], apart := false, laid := [("errors.errorType", laid_errors_errorType)] }
def EngineWholeSaid : Prop := engineWholeRow.holds Tryz.pinned (OpenSpec.ofChange engineWholeSpec)

/-- ITS FALSE NEIGHBOUR: 'it returns false'. Refute it at one input. -/
def engineWholeWrong : ChangeSpec := { name := "engineWhole", fn := fun _ => fun
  | [d1, d2, d3, d4] => { results := [.lit (.bool false)], args := [d1, d2, d3, d4] }
  | _ => none }
def EngineWholeWrongFalsely : Prop := engineWholeRow.holds Tryz.pinned (OpenSpec.ofChange engineWholeWrong)

/-- 'hawalalaw20.AuditRight': WHATEVER THE INPUT: true; the input reads as it did. -/
def auditRightSpec : ChangeSpec := { name := "auditRight", fn := fun _ => fun
  | [d1, d2, d3] => { results := [.lit (.bool true)], args := [d1, d2, d3] }
  | _ => none }
def auditRightRow : OpenClaim := { program := "ytjffmldlkofpaaagreatdoor", sum := "d75054bab69f579f315512b5efe95bd1f23663d16035c5f3e583ce8ac48f8357", func := "hawala/hawalalaw20.AuditRight", spec := "auditRight", inPlace := ["internal/reflectlite.ValueOf", "(internal/reflectlite.Value).Type", "(internal/reflectlite.Value).IsNil", "internal/reflectlite.TypeOf", "(internal/reflectlite.Value).Elem", "(internal/reflectlite.Value).Set"], unfollowed := true, recurses := true, named := ["errors.errorType"], apart := false, laid := [("errors.errorType", laid_errors_errorType)] }
def AuditRightSaid : Prop := auditRightRow.holds Tryz.pinned (OpenSpec.ofChange auditRightSpec)

/-- ITS FALSE NEIGHBOUR: 'it returns false'. Refute it at one input. -/
def auditRightWrong : ChangeSpec := { name := "auditRight", fn := fun _ => fun
  | [d1, d2, d3] => { results := [.lit (.bool false)], args := [d1, d2, d3] }
  | _ => none }
def AuditRightWrongFalsely : Prop := auditRightRow.holds Tryz.pinned (OpenSpec.ofChange auditRightWrong)

/-- 'hawalalaw20.AuditSpoilt': WHATEVER THE INPUT: true; the input reads as it did. -/
def auditSpoiltSpec : ChangeSpec := { name := "auditSpoilt", fn := fun _ => fun
  | [d1, d2, d3, d4, d5, d6] => { results := [.lit (.bool true)], args := [d1, d2, d3, d4, d5, d6] }
  | _ => none }
def auditSpoiltRow : OpenClaim := { program := "ytjffmldlkofpaaagreatdoor", sum := "d75054bab69f579f315512b5efe95bd1f23663d16035c5f3e583ce8ac48f8357", func := "hawala/hawalalaw20.AuditSpoilt", spec := "auditSpoilt", inPlace := ["internal/reflectlite.ValueOf", "(internal/reflectlite.Value).Type", "(internal/reflectlite.Value).IsNil", "internal/reflectlite.TypeOf", "(internal/reflectlite.Value).Elem", "(internal/reflectlite.Value).Set"], unfollowed := true, recurses := true, named := ["errors.errorType"], apart := false, laid := [("errors.errorType", laid_errors_errorType)] }
def AuditSpoiltSaid : Prop := auditSpoiltRow.holds Tryz.pinned (OpenSpec.ofChange auditSpoiltSpec)

/-- ITS FALSE NEIGHBOUR: 'it returns false'. Refute it at one input. -/
def auditSpoiltWrong : ChangeSpec := { name := "auditSpoilt", fn := fun _ => fun
  | [d1, d2, d3, d4, d5, d6] => { results := [.lit (.bool false)], args := [d1, d2, d3, d4, d5, d6] }
  | _ => none }
def AuditSpoiltWrongFalsely : Prop := auditSpoiltRow.holds Tryz.pinned (OpenSpec.ofChange auditSpoiltWrong)

/-- 'hawalalaw20.AuditOne': WHATEVER THE INPUT: true; the input reads as it did. -/
def auditOneSpec : ChangeSpec := { name := "auditOne", fn := fun _ => fun
  | [d1, d2, d3, d4] => { results := [.lit (.bool true)], args := [d1, d2, d3, d4] }
  | _ => none }
def auditOneRow : OpenClaim := { program := "ytjffmldlkofpaaagreatdoor", sum := "d75054bab69f579f315512b5efe95bd1f23663d16035c5f3e583ce8ac48f8357", func := "hawala/hawalalaw20.AuditOne", spec := "auditOne", inPlace := ["internal/reflectlite.ValueOf", "(internal/reflectlite.Value).Type", "(internal/reflectlite.Value).IsNil", "internal/reflectlite.TypeOf", "(internal/reflectlite.Value).Elem", "(internal/reflectlite.Value).Set"], unfollowed := true, recurses := true, named := ["errors.errorType"], apart := false, laid := [("errors.errorType", laid_errors_errorType)] }
def AuditOneSaid : Prop := auditOneRow.holds Tryz.pinned (OpenSpec.ofChange auditOneSpec)

/-- ITS FALSE NEIGHBOUR: 'it returns false'. Refute it at one input. -/
def auditOneWrong : ChangeSpec := { name := "auditOne", fn := fun _ => fun
  | [d1, d2, d3, d4] => { results := [.lit (.bool false)], args := [d1, d2, d3, d4] }
  | _ => none }
def AuditOneWrongFalsely : Prop := auditOneRow.holds Tryz.pinned (OpenSpec.ofChange auditOneWrong)

/-- 'hawalalaw20.AuditHeld': WHATEVER THE INPUT: true; the input reads as it did. -/
def auditHeldSpec : ChangeSpec := { name := "auditHeld", fn := fun _ => fun
  | [d1, d2, d3] => { results := [.lit (.bool true)], args := [d1, d2, d3] }
  | _ => none }
def auditHeldRow : OpenClaim := { program := "ytjffmldlkofpaaagreatdoor", sum := "d75054bab69f579f315512b5efe95bd1f23663d16035c5f3e583ce8ac48f8357", func := "hawala/hawalalaw20.AuditHeld", spec := "auditHeld", inPlace := ["internal/reflectlite.ValueOf", "(internal/reflectlite.Value).Type", "(internal/reflectlite.Value).IsNil", "internal/reflectlite.TypeOf", "(internal/reflectlite.Value).Elem", "(internal/reflectlite.Value).Set"], unfollowed := true, recurses := true, named := ["errors.errorType"], apart := false, laid := [("errors.errorType", laid_errors_errorType)] }
def AuditHeldSaid : Prop := auditHeldRow.holds Tryz.pinned (OpenSpec.ofChange auditHeldSpec)

/-- ITS FALSE NEIGHBOUR: 'it returns false'. Refute it at one input. -/
def auditHeldWrong : ChangeSpec := { name := "auditHeld", fn := fun _ => fun
  | [d1, d2, d3] => { results := [.lit (.bool false)], args := [d1, d2, d3] }
  | _ => none }
def AuditHeldWrongFalsely : Prop := auditHeldRow.holds Tryz.pinned (OpenSpec.ofChange auditHeldWrong)

/-- 'hawalalaw21.DrainEnds': WHATEVER THE INPUT: true; the input reads as it did. -/
def drainEndsSpec : ChangeSpec := { name := "drainEnds", fn := fun _ => fun
  | [d1, d2, d3, d4, d5] => { results := [.lit (.bool true)], args := [d1, d2, d3, d4, d5] }
  | _ => none }
def drainEndsRow : OpenClaim := { program := "ytjffmldlkofpaaagreatdoor", sum := "d75054bab69f579f315512b5efe95bd1f23663d16035c5f3e583ce8ac48f8357", func := "hawala/hawalalaw21.DrainEnds", spec := "drainEnds", inPlace := ["internal/reflectlite.ValueOf", "(internal/reflectlite.Value).Type", "(internal/reflectlite.Value).IsNil", "internal/reflectlite.TypeOf", "(internal/reflectlite.Value).Elem", "(internal/reflectlite.Value).Set"], unfollowed := true, recurses := true, named := ["errors.errorType"], apart := false, laid := [("errors.errorType", laid_errors_errorType)] }
def DrainEndsSaid : Prop := drainEndsRow.holds Tryz.pinned (OpenSpec.ofChange drainEndsSpec)

/-- ITS FALSE NEIGHBOUR: 'it returns false'. Refute it at one input. -/
def drainEndsWrong : ChangeSpec := { name := "drainEnds", fn := fun _ => fun
  | [d1, d2, d3, d4, d5] => { results := [.lit (.bool false)], args := [d1, d2, d3, d4, d5] }
  | _ => none }
def DrainEndsWrongFalsely : Prop := drainEndsRow.holds Tryz.pinned (OpenSpec.ofChange drainEndsWrong)

/- THE SECOND FORM. 'bulk': how many values and letters a reading holds, each counted each time it is reached (what is shared counts as often as it is met; a slice's spare places count too). A statement '..UptoSaid' is the law's where the arguments, and the package variables that the reading takes, are together of bulk at most 1048576: NARROWER than '..Said'. Prove '..Said' where nothing that the law and all that it calls make is longer than what came in: it says more and counts as full. Else prove '..UptoSaid'. A law counts once. -/
mutual
def uptoBulk {H : Type} : DataW H → Nat
  | .lit (.string bytes) => bytes.length + 1
  | .lit _ => 1
  | .nil => 1
  | .ptr d => uptoBulk d + 1
  | .slice elems spare => uptoBulkAll elems + uptoBulkAll spare + 1
  | .agg parts => uptoBulkAll parts + 1
  | .iface _ d => uptoBulk d + 1
  | .map entries => uptoBulkEntries entries + 1
  | .held _ => 1
def uptoBulkAll {H : Type} : List (DataW H) → Nat
  | [] => 0
  | d :: r => uptoBulk d + uptoBulkAll r
def uptoBulkEntries {H : Type} : List (Lit × DataW H) → Nat
  | [] => 0
  | x :: r => uptoBulkEntry x + uptoBulkEntries r
def uptoBulkEntry {H : Type} : Lit × DataW H → Nat
  | (.string bytes, d) => bytes.length + uptoBulk d + 1
  | (_, d) => uptoBulk d + 1
 end
def uptoSmall : (H : Type) → List (DataW H) → Bool := fun _ ds => decide (uptoBulkAll ds ≤ 1048576)
def OpenSpec.upto (s : _root_.Go.ChangeSpec) : _root_.Go.OpenSpec := { _root_.Go.OpenSpec.ofChange s with cond := some uptoSmall }

/-- 'hawalalaw21.DrainRun', WHERE WHAT IT READS IS OF BULK AT MOST 1048576: true; the input reads as it did. -/
def drainRunUptoRow : OpenClaim := { program := "ytjffmldlkofpaaagreatdoor", sum := "d75054bab69f579f315512b5efe95bd1f23663d16035c5f3e583ce8ac48f8357", func := "hawala/hawalalaw21.DrainRun", spec := "drainRun", inPlace := ["internal/reflectlite.ValueOf", "(internal/reflectlite.Value).Type", "(internal/reflectlite.Value).IsNil", "internal/reflectlite.TypeOf", "(internal/reflectlite.Value).Elem", "(internal/reflectlite.Value).Set"], unfollowed := true, recurses := true, named := ["errors.errorType"], apart := false, laid := [("errors.errorType", laid_errors_errorType)], narrowed := true }
def DrainRunUptoSaid : Prop := drainRunUptoRow.holds Tryz.pinned (OpenSpec.upto drainRunSpec)

/-- 'hawalalaw21.DrainAll', WHERE WHAT IT READS IS OF BULK AT MOST 1048576: true; the input reads as it did. -/
def drainAllUptoRow : OpenClaim := { program := "ytjffmldlkofpaaagreatdoor", sum := "d75054bab69f579f315512b5efe95bd1f23663d16035c5f3e583ce8ac48f8357", func := "hawala/hawalalaw21.DrainAll", spec := "drainAll", inPlace := ["internal/reflectlite.ValueOf", "(internal/reflectlite.Value).Type", "(internal/reflectlite.Value).IsNil", "internal/reflectlite.TypeOf", "(internal/reflectlite.Value).Elem", "(internal/reflectlite.Value).Set"], unfollowed := true, recurses := true, named := ["errors.errorType"], apart := false, laid := [("errors.errorType", laid_errors_errorType)], narrowed := true }
def DrainAllUptoSaid : Prop := drainAllUptoRow.holds Tryz.pinned (OpenSpec.upto drainAllSpec)

/-- 'hawalalaw21.DrainLess', WHERE WHAT IT READS IS OF BULK AT MOST 1048576: true; the input reads as it did. -/
def drainLessUptoRow : OpenClaim := { program := "ytjffmldlkofpaaagreatdoor", sum := "d75054bab69f579f315512b5efe95bd1f23663d16035c5f3e583ce8ac48f8357", func := "hawala/hawalalaw21.DrainLess", spec := "drainLess", inPlace := ["internal/reflectlite.ValueOf", "(internal/reflectlite.Value).Type", "(internal/reflectlite.Value).IsNil", "internal/reflectlite.TypeOf", "(internal/reflectlite.Value).Elem", "(internal/reflectlite.Value).Set"], unfollowed := true, recurses := true, named := ["errors.errorType"], apart := false, laid := [("errors.errorType", laid_errors_errorType)], narrowed := true }
def DrainLessUptoSaid : Prop := drainLessUptoRow.holds Tryz.pinned (OpenSpec.upto drainLessSpec)

/-- 'hawalalaw21.DrainOrder', WHERE WHAT IT READS IS OF BULK AT MOST 1048576: true; the input reads as it did. -/
def drainOrderUptoRow : OpenClaim := { program := "ytjffmldlkofpaaagreatdoor", sum := "d75054bab69f579f315512b5efe95bd1f23663d16035c5f3e583ce8ac48f8357", func := "hawala/hawalalaw21.DrainOrder", spec := "drainOrder", inPlace := ["internal/reflectlite.ValueOf", "(internal/reflectlite.Value).Type", "(internal/reflectlite.Value).IsNil", "internal/reflectlite.TypeOf", "(internal/reflectlite.Value).Elem", "(internal/reflectlite.Value).Set"], unfollowed := true, recurses := true, named := ["errors.errorType"], apart := false, laid := [("errors.errorType", laid_errors_errorType)], narrowed := true }
def DrainOrderUptoSaid : Prop := drainOrderUptoRow.holds Tryz.pinned (OpenSpec.upto drainOrderSpec)

/-- 'hawalalaw21.DrainNone', WHERE WHAT IT READS IS OF BULK AT MOST 1048576: true; the input reads as it did. -/
def drainNoneUptoRow : OpenClaim := { program := "ytjffmldlkofpaaagreatdoor", sum := "d75054bab69f579f315512b5efe95bd1f23663d16035c5f3e583ce8ac48f8357", func := "hawala/hawalalaw21.DrainNone", spec := "drainNone", inPlace := ["internal/reflectlite.ValueOf", "(internal/reflectlite.Value).Type", "(internal/reflectlite.Value).IsNil", "internal/reflectlite.TypeOf", "(internal/reflectlite.Value).Elem", "(internal/reflectlite.Value).Set"], unfollowed := true, recurses := true, named := ["errors.errorType"], apart := false, laid := [("errors.errorType", laid_errors_errorType)], narrowed := true }
def DrainNoneUptoSaid : Prop := drainNoneUptoRow.holds Tryz.pinned (OpenSpec.upto drainNoneSpec)

/-- 'hawalalaw17.EngineWhole', WHERE WHAT IT READS IS OF BULK AT MOST 1048576: true; the input reads as it did. -/
def engineWholeUptoRow : OpenClaim := { program := "ytjffmldlkofpaaagreatdoor", sum := "d75054bab69f579f315512b5efe95bd1f23663d16035c5f3e583ce8ac48f8357", func := "hawala/hawalalaw17.EngineWhole", spec := "engineWhole", inPlace := ["internal/reflectlite.ValueOf", "(internal/reflectlite.Value).Type", "(internal/reflectlite.Value).IsNil", "internal/reflectlite.TypeOf", "(internal/reflectlite.Value).Elem", "(internal/reflectlite.Value).Set"], unfollowed := true, recurses := true, named := ["errors.errorType"], apart := false, laid := [("errors.errorType", laid_errors_errorType)], narrowed := true }
def EngineWholeUptoSaid : Prop := engineWholeUptoRow.holds Tryz.pinned (OpenSpec.upto engineWholeSpec)

/-- 'hawalalaw20.AuditRight', WHERE WHAT IT READS IS OF BULK AT MOST 1048576: true; the input reads as it did. -/
def auditRightUptoRow : OpenClaim := { program := "ytjffmldlkofpaaagreatdoor", sum := "d75054bab69f579f315512b5efe95bd1f23663d16035c5f3e583ce8ac48f8357", func := "hawala/hawalalaw20.AuditRight", spec := "auditRight", inPlace := ["internal/reflectlite.ValueOf", "(internal/reflectlite.Value).Type", "(internal/reflectlite.Value).IsNil", "internal/reflectlite.TypeOf", "(internal/reflectlite.Value).Elem", "(internal/reflectlite.Value).Set"], unfollowed := true, recurses := true, named := ["errors.errorType"], apart := false, laid := [("errors.errorType", laid_errors_errorType)], narrowed := true }
def AuditRightUptoSaid : Prop := auditRightUptoRow.holds Tryz.pinned (OpenSpec.upto auditRightSpec)

/-- 'hawalalaw20.AuditSpoilt', WHERE WHAT IT READS IS OF BULK AT MOST 1048576: true; the input reads as it did. -/
def auditSpoiltUptoRow : OpenClaim := { program := "ytjffmldlkofpaaagreatdoor", sum := "d75054bab69f579f315512b5efe95bd1f23663d16035c5f3e583ce8ac48f8357", func := "hawala/hawalalaw20.AuditSpoilt", spec := "auditSpoilt", inPlace := ["internal/reflectlite.ValueOf", "(internal/reflectlite.Value).Type", "(internal/reflectlite.Value).IsNil", "internal/reflectlite.TypeOf", "(internal/reflectlite.Value).Elem", "(internal/reflectlite.Value).Set"], unfollowed := true, recurses := true, named := ["errors.errorType"], apart := false, laid := [("errors.errorType", laid_errors_errorType)], narrowed := true }
def AuditSpoiltUptoSaid : Prop := auditSpoiltUptoRow.holds Tryz.pinned (OpenSpec.upto auditSpoiltSpec)

/-- 'hawalalaw20.AuditOne', WHERE WHAT IT READS IS OF BULK AT MOST 1048576: true; the input reads as it did. -/
def auditOneUptoRow : OpenClaim := { program := "ytjffmldlkofpaaagreatdoor", sum := "d75054bab69f579f315512b5efe95bd1f23663d16035c5f3e583ce8ac48f8357", func := "hawala/hawalalaw20.AuditOne", spec := "auditOne", inPlace := ["internal/reflectlite.ValueOf", "(internal/reflectlite.Value).Type", "(internal/reflectlite.Value).IsNil", "internal/reflectlite.TypeOf", "(internal/reflectlite.Value).Elem", "(internal/reflectlite.Value).Set"], unfollowed := true, recurses := true, named := ["errors.errorType"], apart := false, laid := [("errors.errorType", laid_errors_errorType)], narrowed := true }
def AuditOneUptoSaid : Prop := auditOneUptoRow.holds Tryz.pinned (OpenSpec.upto auditOneSpec)

/-- 'hawalalaw20.AuditHeld', WHERE WHAT IT READS IS OF BULK AT MOST 1048576: true; the input reads as it did. -/
def auditHeldUptoRow : OpenClaim := { program := "ytjffmldlkofpaaagreatdoor", sum := "d75054bab69f579f315512b5efe95bd1f23663d16035c5f3e583ce8ac48f8357", func := "hawala/hawalalaw20.AuditHeld", spec := "auditHeld", inPlace := ["internal/reflectlite.ValueOf", "(internal/reflectlite.Value).Type", "(internal/reflectlite.Value).IsNil", "internal/reflectlite.TypeOf", "(internal/reflectlite.Value).Elem", "(internal/reflectlite.Value).Set"], unfollowed := true, recurses := true, named := ["errors.errorType"], apart := false, laid := [("errors.errorType", laid_errors_errorType)], narrowed := true }
def AuditHeldUptoSaid : Prop := auditHeldUptoRow.holds Tryz.pinned (OpenSpec.upto auditHeldSpec)

/-- 'hawalalaw21.DrainEnds', WHERE WHAT IT READS IS OF BULK AT MOST 1048576: true; the input reads as it did. -/
def drainEndsUptoRow : OpenClaim := { program := "ytjffmldlkofpaaagreatdoor", sum := "d75054bab69f579f315512b5efe95bd1f23663d16035c5f3e583ce8ac48f8357", func := "hawala/hawalalaw21.DrainEnds", spec := "drainEnds", inPlace := ["internal/reflectlite.ValueOf", "(internal/reflectlite.Value).Type", "(internal/reflectlite.Value).IsNil", "internal/reflectlite.TypeOf", "(internal/reflectlite.Value).Elem", "(internal/reflectlite.Value).Set"], unfollowed := true, recurses := true, named := ["errors.errorType"], apart := false, laid := [("errors.errorType", laid_errors_errorType)], narrowed := true }
def DrainEndsUptoSaid : Prop := drainEndsUptoRow.holds Tryz.pinned (OpenSpec.upto drainEndsSpec)

end Rows
end Go.Proofs.YtjffmldlkofpaaaGreatDoor
