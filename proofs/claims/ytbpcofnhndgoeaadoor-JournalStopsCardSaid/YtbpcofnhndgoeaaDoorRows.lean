/-
  NARROWER THAN 'FOR EVERY INPUT', by the rows' own cells (each row's printed sentence says how): DiskRename: laid · DiskCut: laid · DiskRoom: laid · JournalForm: laid · JournalFull: laid · JournalLong: laid · JournalStops: laid.
  DERIVED. THE GIVEN ROWS OF THIS SEAT. 7 by the template 'for every input the law returns true; each argument reads behind the call as it read before'; 0 by the template 'total and deterministic' (their statements: YtbpcofnhndgoeaaDoorTotals.lean).
  GIVEN WITH THE SEED: the statements are not yours to turn. If you find one false, say at which input.
  Laid BY PROGRAM, IN A SANDBOX (cutbox-rows.mjs): the forced cells as the released guide's own fill.sh prints them over the translation f925d4e9fd142365… (all of the seat's roots in one cut). By AI agents, Wed Nov 11 2026. No macro, syntax, notation, axiom, sorry.
-/
import Derived.Test.YtbpcofnhndgoeaaDoorChecked
import GoSem.Claim
import GoSem.ClaimJoined
import GoSem.ClaimMapViews
import Derived.JoinedTies
import Derived.KernelRfl
namespace Go.Proofs.YtbpcofnhndgoeaaDoor
/- THE CELL 'sum', in the pinned program and in every row, IS THE sha256 OF THE DUMP (.gsa) THAT YtbpcofnhndgoeaaDoorProg.lean LOADS. Nothing in Lean hashes anything: it is a label: what it is worth is what the hold of that sum in a sandbox is worth. -/
noncomputable def Tryd.pinned : Pinned := { name := "ytbpcofnhndgoeaadoor", sum := "f925d4e9fd14236522db08e56c4b833bb8bd180eae4a4e8e97661f77bf453e4e", checked := Tryd.checked }
namespace Rows
def none {H : Type} : Left H := { results := [], args := [] }

/- WHAT THE LISTED PACKAGE-LEVEL VARIABLES READ AS WHEN THE CALL BEGINS. Each datum BY PROGRAM (the guide's laid-datum.mjs) off the statement by which the dump's own 'gosem.cut.vars' lays the variable. In a bare row this is a premise. The card (YtbpcofnhndgoeaaDoorCards.lean) ties it to the program's text. -/
def laid_errors_errorType {H : Type} : DataW H := .iface "internal/reflectlite.rtype" (.agg [.ptr (.lit (.string [101, 114, 114, 111, 114]))])

/-- 'hawalalaw05.DiskRename': WHATEVER THE INPUT: true; the input reads as it did. -/
def diskRenameSpec : ChangeSpec := { name := "diskRename", fn := fun _ => fun
  | [d1, d2, d3, d4] => { results := [.lit (.bool true)], args := [d1, d2, d3, d4] }
  | _ => none }
def diskRenameRow : OpenClaim := { program := "ytbpcofnhndgoeaadoor", sum := "f925d4e9fd14236522db08e56c4b833bb8bd180eae4a4e8e97661f77bf453e4e", func := "hawala/hawalalaw05.DiskRename", spec := "diskRename", inPlace := ["internal/reflectlite.ValueOf", "(internal/reflectlite.Value).Type", "(internal/reflectlite.Value).IsNil", "internal/reflectlite.TypeOf", "(internal/reflectlite.Value).Elem", "(internal/reflectlite.Value).Set"], unfollowed := true, recurses := true, named := ["errors.errorType"], apart := false, laid := [("errors.errorType", laid_errors_errorType)] }
def DiskRenameSaid : Prop := diskRenameRow.holds Tryd.pinned (OpenSpec.ofChange diskRenameSpec)

/-- ITS FALSE NEIGHBOUR: 'it returns false'. Refute it at one input. -/
def diskRenameWrong : ChangeSpec := { name := "diskRename", fn := fun _ => fun
  | [d1, d2, d3, d4] => { results := [.lit (.bool false)], args := [d1, d2, d3, d4] }
  | _ => none }
def DiskRenameWrongFalsely : Prop := diskRenameRow.holds Tryd.pinned (OpenSpec.ofChange diskRenameWrong)

/-- 'hawalalaw05.DiskCut': WHATEVER THE INPUT: true; the input reads as it did. -/
def diskCutSpec : ChangeSpec := { name := "diskCut", fn := fun _ => fun
  | [d1, d2, d3] => { results := [.lit (.bool true)], args := [d1, d2, d3] }
  | _ => none }
def diskCutRow : OpenClaim := { program := "ytbpcofnhndgoeaadoor", sum := "f925d4e9fd14236522db08e56c4b833bb8bd180eae4a4e8e97661f77bf453e4e", func := "hawala/hawalalaw05.DiskCut", spec := "diskCut", inPlace := ["internal/reflectlite.ValueOf", "(internal/reflectlite.Value).Type", "(internal/reflectlite.Value).IsNil", "internal/reflectlite.TypeOf", "(internal/reflectlite.Value).Elem", "(internal/reflectlite.Value).Set"], unfollowed := true, recurses := true, named := ["errors.errorType"], apart := false, laid := [("errors.errorType", laid_errors_errorType)] }
def DiskCutSaid : Prop := diskCutRow.holds Tryd.pinned (OpenSpec.ofChange diskCutSpec)

/-- ITS FALSE NEIGHBOUR: 'it returns false'. Refute it at one input. -/
def diskCutWrong : ChangeSpec := { name := "diskCut", fn := fun _ => fun
  | [d1, d2, d3] => { results := [.lit (.bool false)], args := [d1, d2, d3] }
  | _ => none }
def DiskCutWrongFalsely : Prop := diskCutRow.holds Tryd.pinned (OpenSpec.ofChange diskCutWrong)

/-- 'hawalalaw05.DiskRoom': WHATEVER THE INPUT: true; the input reads as it did. -/
def diskRoomSpec : ChangeSpec := { name := "diskRoom", fn := fun _ => fun
  | [d1, d2, d3] => { results := [.lit (.bool true)], args := [d1, d2, d3] }
  | _ => none }
def diskRoomRow : OpenClaim := { program := "ytbpcofnhndgoeaadoor", sum := "f925d4e9fd14236522db08e56c4b833bb8bd180eae4a4e8e97661f77bf453e4e", func := "hawala/hawalalaw05.DiskRoom", spec := "diskRoom", inPlace := ["internal/reflectlite.ValueOf", "(internal/reflectlite.Value).Type", "(internal/reflectlite.Value).IsNil", "internal/reflectlite.TypeOf", "(internal/reflectlite.Value).Elem", "(internal/reflectlite.Value).Set"], unfollowed := true, recurses := true, named := ["errors.errorType"], apart := false, laid := [("errors.errorType", laid_errors_errorType)] }
def DiskRoomSaid : Prop := diskRoomRow.holds Tryd.pinned (OpenSpec.ofChange diskRoomSpec)

/-- ITS FALSE NEIGHBOUR: 'it returns false'. Refute it at one input. -/
def diskRoomWrong : ChangeSpec := { name := "diskRoom", fn := fun _ => fun
  | [d1, d2, d3] => { results := [.lit (.bool false)], args := [d1, d2, d3] }
  | _ => none }
def DiskRoomWrongFalsely : Prop := diskRoomRow.holds Tryd.pinned (OpenSpec.ofChange diskRoomWrong)

/-- 'hawalalaw06.JournalForm': WHATEVER THE INPUT: true; the input reads as it did. -/
def journalFormSpec : ChangeSpec := { name := "journalForm", fn := fun _ => fun
  | [d1, d2, d3, d4] => { results := [.lit (.bool true)], args := [d1, d2, d3, d4] }
  | _ => none }
def journalFormRow : OpenClaim := { program := "ytbpcofnhndgoeaadoor", sum := "f925d4e9fd14236522db08e56c4b833bb8bd180eae4a4e8e97661f77bf453e4e", func := "hawala/hawalalaw06.JournalForm", spec := "journalForm", inPlace := ["internal/reflectlite.ValueOf", "(internal/reflectlite.Value).Type", "(internal/reflectlite.Value).IsNil", "internal/reflectlite.TypeOf", "(internal/reflectlite.Value).Elem", "(internal/reflectlite.Value).Set"], unfollowed := true, recurses := true, named := ["errors.errorType"], apart := false, laid := [("errors.errorType", laid_errors_errorType)] }
def JournalFormSaid : Prop := journalFormRow.holds Tryd.pinned (OpenSpec.ofChange journalFormSpec)

/-- ITS FALSE NEIGHBOUR: 'it returns false'. Refute it at one input. -/
def journalFormWrong : ChangeSpec := { name := "journalForm", fn := fun _ => fun
  | [d1, d2, d3, d4] => { results := [.lit (.bool false)], args := [d1, d2, d3, d4] }
  | _ => none }
def JournalFormWrongFalsely : Prop := journalFormRow.holds Tryd.pinned (OpenSpec.ofChange journalFormWrong)

/-- 'hawalalaw06.JournalFull': WHATEVER THE INPUT: true; the input reads as it did. -/
def journalFullSpec : ChangeSpec := { name := "journalFull", fn := fun _ => fun
  | [d1, d2, d3] => { results := [.lit (.bool true)], args := [d1, d2, d3] }
  | _ => none }
def journalFullRow : OpenClaim := { program := "ytbpcofnhndgoeaadoor", sum := "f925d4e9fd14236522db08e56c4b833bb8bd180eae4a4e8e97661f77bf453e4e", func := "hawala/hawalalaw06.JournalFull", spec := "journalFull", inPlace := ["internal/reflectlite.ValueOf", "(internal/reflectlite.Value).Type", "(internal/reflectlite.Value).IsNil", "internal/reflectlite.TypeOf", "(internal/reflectlite.Value).Elem", "(internal/reflectlite.Value).Set"], unfollowed := true, recurses := true, named := ["errors.errorType"], apart := false, laid := [("errors.errorType", laid_errors_errorType)] }
def JournalFullSaid : Prop := journalFullRow.holds Tryd.pinned (OpenSpec.ofChange journalFullSpec)

/-- ITS FALSE NEIGHBOUR: 'it returns false'. Refute it at one input. -/
def journalFullWrong : ChangeSpec := { name := "journalFull", fn := fun _ => fun
  | [d1, d2, d3] => { results := [.lit (.bool false)], args := [d1, d2, d3] }
  | _ => none }
def JournalFullWrongFalsely : Prop := journalFullRow.holds Tryd.pinned (OpenSpec.ofChange journalFullWrong)

/-- 'hawalalaw06.JournalLong': WHATEVER THE INPUT: true; the input reads as it did. -/
def journalLongSpec : ChangeSpec := { name := "journalLong", fn := fun _ => fun
  | [d1, d2] => { results := [.lit (.bool true)], args := [d1, d2] }
  | _ => none }
def journalLongRow : OpenClaim := { program := "ytbpcofnhndgoeaadoor", sum := "f925d4e9fd14236522db08e56c4b833bb8bd180eae4a4e8e97661f77bf453e4e", func := "hawala/hawalalaw06.JournalLong", spec := "journalLong", inPlace := ["internal/reflectlite.ValueOf", "(internal/reflectlite.Value).Type", "(internal/reflectlite.Value).IsNil", "internal/reflectlite.TypeOf", "(internal/reflectlite.Value).Elem", "(internal/reflectlite.Value).Set"], unfollowed := true, recurses := true, named := ["errors.errorType"], apart := false, laid := [("errors.errorType", laid_errors_errorType)] }
def JournalLongSaid : Prop := journalLongRow.holds Tryd.pinned (OpenSpec.ofChange journalLongSpec)

/-- ITS FALSE NEIGHBOUR: 'it returns false'. Refute it at one input. -/
def journalLongWrong : ChangeSpec := { name := "journalLong", fn := fun _ => fun
  | [d1, d2] => { results := [.lit (.bool false)], args := [d1, d2] }
  | _ => none }
def JournalLongWrongFalsely : Prop := journalLongRow.holds Tryd.pinned (OpenSpec.ofChange journalLongWrong)

/-- 'hawalalaw06.JournalStops': WHATEVER THE INPUT: true; the input reads as it did. -/
def journalStopsSpec : ChangeSpec := { name := "journalStops", fn := fun _ => fun
  | [d1, d2, d3, d4] => { results := [.lit (.bool true)], args := [d1, d2, d3, d4] }
  | _ => none }
def journalStopsRow : OpenClaim := { program := "ytbpcofnhndgoeaadoor", sum := "f925d4e9fd14236522db08e56c4b833bb8bd180eae4a4e8e97661f77bf453e4e", func := "hawala/hawalalaw06.JournalStops", spec := "journalStops", inPlace := ["internal/reflectlite.ValueOf", "(internal/reflectlite.Value).Type", "(internal/reflectlite.Value).IsNil", "internal/reflectlite.TypeOf", "(internal/reflectlite.Value).Elem", "(internal/reflectlite.Value).Set"], unfollowed := true, recurses := true, named := ["errors.errorType"], apart := false, laid := [("errors.errorType", laid_errors_errorType)] }
def JournalStopsSaid : Prop := journalStopsRow.holds Tryd.pinned (OpenSpec.ofChange journalStopsSpec)

/-- ITS FALSE NEIGHBOUR: 'it returns false'. Refute it at one input. -/
def journalStopsWrong : ChangeSpec := { name := "journalStops", fn := fun _ => fun
  | [d1, d2, d3, d4] => { results := [.lit (.bool false)], args := [d1, d2, d3, d4] }
  | _ => none }
def JournalStopsWrongFalsely : Prop := journalStopsRow.holds Tryd.pinned (OpenSpec.ofChange journalStopsWrong)

/- THE SECOND FORM. 'bulk': how many values and letters a reading holds, each counted each time it is reached (what is shared counts as often as it is met; a slice's spare places count too). A statement '..UptoSaid' is the law's where the arguments, and the package variables that the reading takes, are together of bulk at most 1048576: NARROWER than '..Said'. Prove '..Said' where nothing that the law and all that it calls make is longer than what came in: it says more and counts as full. Else prove '..UptoSaid'. A law counts once. -/
mutual
def uptoBulk {H : Type} : DataW H → Nat
  | .lit (.string bytes) => bytes.length + 1
  | .lit _ => 1
  | .nil => 1
  | .ptr d => uptoBulk d + 1
  | .slice elems spare => uptoBulkAll elems + uptoBulkAll spare + 1
  | .agg parts => uptoBulkAll parts + 1
  | .iface _ d => uptoBulk d + 1
  | .map entries => uptoBulkEntries entries + 1
  | .held _ => 1
def uptoBulkAll {H : Type} : List (DataW H) → Nat
  | [] => 0
  | d :: r => uptoBulk d + uptoBulkAll r
def uptoBulkEntries {H : Type} : List (Lit × DataW H) → Nat
  | [] => 0
  | x :: r => uptoBulkEntry x + uptoBulkEntries r
def uptoBulkEntry {H : Type} : Lit × DataW H → Nat
  | (.string bytes, d) => bytes.length + uptoBulk d + 1
  | (_, d) => uptoBulk d + 1
 end
def uptoSmall : (H : Type) → List (DataW H) → Bool := fun _ ds => decide (uptoBulkAll ds ≤ 1048576)
def OpenSpec.upto (s : _root_.Go.ChangeSpec) : _root_.Go.OpenSpec := { _root_.Go.OpenSpec.ofChange s with cond := some uptoSmall }

/-- 'hawalalaw05.DiskRename', WHERE WHAT IT READS IS OF BULK AT MOST 1048576: true; the input reads as it did. -/
def diskRenameUptoRow : OpenClaim := { program := "ytbpcofnhndgoeaadoor", sum := "f925d4e9fd14236522db08e56c4b833bb8bd180eae4a4e8e97661f77bf453e4e", func := "hawala/hawalalaw05.DiskRename", spec := "diskRename", inPlace := ["internal/reflectlite.ValueOf", "(internal/reflectlite.Value).Type", "(internal/reflectlite.Value).IsNil", "internal/reflectlite.TypeOf", "(internal/reflectlite.Value).Elem", "(internal/reflectlite.Value).Set"], unfollowed := true, recurses := true, named := ["errors.errorType"], apart := false, laid := [("errors.errorType", laid_errors_errorType)], narrowed := true }
def DiskRenameUptoSaid : Prop := diskRenameUptoRow.holds Tryd.pinned (OpenSpec.upto diskRenameSpec)

/-- 'hawalalaw05.DiskCut', WHERE WHAT IT READS IS OF BULK AT MOST 1048576: true; the input reads as it did. -/
def diskCutUptoRow : OpenClaim := { program := "ytbpcofnhndgoeaadoor", sum := "f925d4e9fd14236522db08e56c4b833bb8bd180eae4a4e8e97661f77bf453e4e", func := "hawala/hawalalaw05.DiskCut", spec := "diskCut", inPlace := ["internal/reflectlite.ValueOf", "(internal/reflectlite.Value).Type", "(internal/reflectlite.Value).IsNil", "internal/reflectlite.TypeOf", "(internal/reflectlite.Value).Elem", "(internal/reflectlite.Value).Set"], unfollowed := true, recurses := true, named := ["errors.errorType"], apart := false, laid := [("errors.errorType", laid_errors_errorType)], narrowed := true }
def DiskCutUptoSaid : Prop := diskCutUptoRow.holds Tryd.pinned (OpenSpec.upto diskCutSpec)

/-- 'hawalalaw05.DiskRoom', WHERE WHAT IT READS IS OF BULK AT MOST 1048576: true; the input reads as it did. -/
def diskRoomUptoRow : OpenClaim := { program := "ytbpcofnhndgoeaadoor", sum := "f925d4e9fd14236522db08e56c4b833bb8bd180eae4a4e8e97661f77bf453e4e", func := "hawala/hawalalaw05.DiskRoom", spec := "diskRoom", inPlace := ["internal/reflectlite.ValueOf", "(internal/reflectlite.Value).Type", "(internal/reflectlite.Value).IsNil", "internal/reflectlite.TypeOf", "(internal/reflectlite.Value).Elem", "(internal/reflectlite.Value).Set"], unfollowed := true, recurses := true, named := ["errors.errorType"], apart := false, laid := [("errors.errorType", laid_errors_errorType)], narrowed := true }
def DiskRoomUptoSaid : Prop := diskRoomUptoRow.holds Tryd.pinned (OpenSpec.upto diskRoomSpec)

/-- 'hawalalaw06.JournalForm', WHERE WHAT IT READS IS OF BULK AT MOST 1048576: true; the input reads as it did. -/
def journalFormUptoRow : OpenClaim := { program := "ytbpcofnhndgoeaadoor", sum := "f925d4e9fd14236522db08e56c4b833bb8bd180eae4a4e8e97661f77bf453e4e", func := "hawala/hawalalaw06.JournalForm", spec := "journalForm", inPlace := ["internal/reflectlite.ValueOf", "(internal/reflectlite.Value).Type", "(internal/reflectlite.Value).IsNil", "internal/reflectlite.TypeOf", "(internal/reflectlite.Value).Elem", "(internal/reflectlite.Value).Set"], unfollowed := true, recurses := true, named := ["errors.errorType"], apart := false, laid := [("errors.errorType", laid_errors_errorType)], narrowed := true }
def JournalFormUptoSaid : Prop := journalFormUptoRow.holds Tryd.pinned (OpenSpec.upto journalFormSpec)

/-- 'hawalalaw06.JournalFull', WHERE WHAT IT READS IS OF BULK AT MOST 1048576: true; the input reads as it did. -/
def journalFullUptoRow : OpenClaim := { program := "ytbpcofnhndgoeaadoor", sum := "f925d4e9fd14236522db08e56c4b833bb8bd180eae4a4e8e97661f77bf453e4e", func := "hawala/hawalalaw06.JournalFull", spec := "journalFull", inPlace := ["internal/reflectlite.ValueOf", "(internal/reflectlite.Value).Type", "(internal/reflectlite.Value).IsNil", "internal/reflectlite.TypeOf", "(internal/reflectlite.Value).Elem", "(internal/reflectlite.Value).Set"], unfollowed := true, recurses := true, named := ["errors.errorType"], apart := false, laid := [("errors.errorType", laid_errors_errorType)], narrowed := true }
def JournalFullUptoSaid : Prop := journalFullUptoRow.holds Tryd.pinned (OpenSpec.upto journalFullSpec)

/-- 'hawalalaw06.JournalLong', WHERE WHAT IT READS IS OF BULK AT MOST 1048576: true; the input reads as it did. -/
def journalLongUptoRow : OpenClaim := { program := "ytbpcofnhndgoeaadoor", sum := "f925d4e9fd14236522db08e56c4b833bb8bd180eae4a4e8e97661f77bf453e4e", func := "hawala/hawalalaw06.JournalLong", spec := "journalLong", inPlace := ["internal/reflectlite.ValueOf", "(internal/reflectlite.Value).Type", "(internal/reflectlite.Value).IsNil", "internal/reflectlite.TypeOf", "(internal/reflectlite.Value).Elem", "(internal/reflectlite.Value).Set"], unfollowed := true, recurses := true, named := ["errors.errorType"], apart := false, laid := [("errors.errorType", laid_errors_errorType)], narrowed := true }
def JournalLongUptoSaid : Prop := journalLongUptoRow.holds Tryd.pinned (OpenSpec.upto journalLongSpec)

/-- 'hawalalaw06.JournalStops', WHERE WHAT IT READS IS OF BULK AT MOST 1048576: true; the input reads as it did. -/
def journalStopsUptoRow : OpenClaim := { program := "ytbpcofnhndgoeaadoor", sum := "f925d4e9fd14236522db08e56c4b833bb8bd180eae4a4e8e97661f77bf453e4e", func := "hawala/hawalalaw06.JournalStops", spec := "journalStops", inPlace := ["internal/reflectlite.ValueOf", "(internal/reflectlite.Value).Type", "(internal/reflectlite.Value).IsNil", "internal/reflectlite.TypeOf", "(internal/reflectlite.Value).Elem", "(internal/reflectlite.Value).Set"], unfollowed := true, recurses := true, named := ["errors.errorType"], apart := false, laid := [("errors.errorType", laid_errors_errorType)], narrowed := true }
def JournalStopsUptoSaid : Prop := journalStopsUptoRow.holds Tryd.pinned (OpenSpec.upto journalStopsSpec)

end Rows
end Go.Proofs.YtbpcofnhndgoeaaDoor
