/-
  NARROWER THAN 'FOR EVERY INPUT', by the rows' own cells (each row's printed sentence says how): OpsRaw: laid · OpsTick: laid · OpsRight: laid · BankAgain: laid · BankBad: laid · BankLegs: laid · BankRun: laid · BankFull: laid.
  DERIVED. THE GIVEN ROWS OF THIS SEAT. 8 by the template 'for every input the law returns true; each argument reads behind the call as it read before'; 0 by the template 'total and deterministic' (their statements: YtkeafcjdejmohaaDoorTotals.lean).
  GIVEN WITH THE SEED: the statements are not yours to turn. If you find one false, say at which input.
  Laid BY PROGRAM, IN A SANDBOX (cutbox-rows.mjs): the forced cells as the released guide's own fill.sh prints them over the translation ed485d17752deba6… (all of the seat's roots in one cut). By AI agents, Wed Nov 11 2026. No macro, syntax, notation, axiom, sorry.
-/
import Derived.Test.YtkeafcjdejmohaaDoorChecked
import GoSem.Claim
import GoSem.ClaimJoined
import GoSem.ClaimMapViews
import Derived.JoinedTies
import Derived.KernelRfl
namespace Go.Proofs.YtkeafcjdejmohaaDoor
/- THE CELL 'sum', in the pinned program and in every row, IS THE sha256 OF THE DUMP (.gsa) THAT YtkeafcjdejmohaaDoorProg.lean LOADS. Nothing in Lean hashes anything: it is a label: what it is worth is what the hold of that sum in a sandbox is worth. -/
noncomputable def Tryd.pinned : Pinned := { name := "ytkeafcjdejmohaadoor", sum := "ed485d17752deba6a5b0a57db9d111b3a64733444db048d2ff7fb947d578130c", checked := Tryd.checked }
namespace Rows
def none {H : Type} : Left H := { results := [], args := [] }

/- WHAT THE LISTED PACKAGE-LEVEL VARIABLES READ AS WHEN THE CALL BEGINS. Each datum BY PROGRAM (the guide's laid-datum.mjs) off the statement by which the dump's own 'gosem.cut.vars' lays the variable. In a bare row this is a premise. The card (YtkeafcjdejmohaaDoorCards.lean) ties it to the program's text. -/
def laid_errors_errorType {H : Type} : DataW H := .iface "internal/reflectlite.rtype" (.agg [.ptr (.lit (.string [101, 114, 114, 111, 114]))])

/-- 'hawalalaw15.OpsRaw': WHATEVER THE INPUT: true; the input reads as it did. -/
def opsRawSpec : ChangeSpec := { name := "opsRaw", fn := fun _ => fun
  | [d1, d2, d3] => { results := [.lit (.bool true)], args := [d1, d2, d3] }
  | _ => none }
def opsRawRow : OpenClaim := { program := "ytkeafcjdejmohaadoor", sum := "ed485d17752deba6a5b0a57db9d111b3a64733444db048d2ff7fb947d578130c", func := "hawala/hawalalaw15.OpsRaw", spec := "opsRaw", inPlace := ["internal/reflectlite.ValueOf", "(internal/reflectlite.Value).Type", "(internal/reflectlite.Value).IsNil", "internal/reflectlite.TypeOf", "(internal/reflectlite.Value).Elem", "(internal/reflectlite.Value).Set"], unfollowed := true, recurses := true, named := ["errors.errorType"], apart := false, laid := [("errors.errorType", laid_errors_errorType)] }
def OpsRawSaid : Prop := opsRawRow.holds Tryd.pinned (OpenSpec.ofChange opsRawSpec)

/-- ITS FALSE NEIGHBOUR: 'it returns false'. Refute it at one input. -/
def opsRawWrong : ChangeSpec := { name := "opsRaw", fn := fun _ => fun
  | [d1, d2, d3] => { results := [.lit (.bool false)], args := [d1, d2, d3] }
  | _ => none }
def OpsRawWrongFalsely : Prop := opsRawRow.holds Tryd.pinned (OpenSpec.ofChange opsRawWrong)

/-- 'hawalalaw15.OpsTick': WHATEVER THE INPUT: true; the input reads as it did. -/
def opsTickSpec : ChangeSpec := { name := "opsTick", fn := fun _ => fun
  | [d1, d2, d3, d4] => { results := [.lit (.bool true)], args := [d1, d2, d3, d4] }
  | _ => none }
def opsTickRow : OpenClaim := { program := "ytkeafcjdejmohaadoor", sum := "ed485d17752deba6a5b0a57db9d111b3a64733444db048d2ff7fb947d578130c", func := "hawala/hawalalaw15.OpsTick", spec := "opsTick", inPlace := ["internal/reflectlite.ValueOf", "(internal/reflectlite.Value).Type", "(internal/reflectlite.Value).IsNil", "internal/reflectlite.TypeOf", "(internal/reflectlite.Value).Elem", "(internal/reflectlite.Value).Set"], unfollowed := true, recurses := true, named := ["errors.errorType"], apart := false, laid := [("errors.errorType", laid_errors_errorType)] }
def OpsTickSaid : Prop := opsTickRow.holds Tryd.pinned (OpenSpec.ofChange opsTickSpec)

/-- ITS FALSE NEIGHBOUR: 'it returns false'. Refute it at one input. -/
def opsTickWrong : ChangeSpec := { name := "opsTick", fn := fun _ => fun
  | [d1, d2, d3, d4] => { results := [.lit (.bool false)], args := [d1, d2, d3, d4] }
  | _ => none }
def OpsTickWrongFalsely : Prop := opsTickRow.holds Tryd.pinned (OpenSpec.ofChange opsTickWrong)

/-- 'hawalalaw15.OpsRight': WHATEVER THE INPUT: true; the input reads as it did. -/
def opsRightSpec : ChangeSpec := { name := "opsRight", fn := fun _ => fun
  | [d1, d2, d3, d4, d5] => { results := [.lit (.bool true)], args := [d1, d2, d3, d4, d5] }
  | _ => none }
def opsRightRow : OpenClaim := { program := "ytkeafcjdejmohaadoor", sum := "ed485d17752deba6a5b0a57db9d111b3a64733444db048d2ff7fb947d578130c", func := "hawala/hawalalaw15.OpsRight", spec := "opsRight", inPlace := ["internal/reflectlite.ValueOf", "(internal/reflectlite.Value).Type", "(internal/reflectlite.Value).IsNil", "internal/reflectlite.TypeOf", "(internal/reflectlite.Value).Elem", "(internal/reflectlite.Value).Set"], unfollowed := true, recurses := true, named := ["errors.errorType"], apart := false, laid := [("errors.errorType", laid_errors_errorType)] }
def OpsRightSaid : Prop := opsRightRow.holds Tryd.pinned (OpenSpec.ofChange opsRightSpec)

/-- ITS FALSE NEIGHBOUR: 'it returns false'. Refute it at one input. -/
def opsRightWrong : ChangeSpec := { name := "opsRight", fn := fun _ => fun
  | [d1, d2, d3, d4, d5] => { results := [.lit (.bool false)], args := [d1, d2, d3, d4, d5] }
  | _ => none }
def OpsRightWrongFalsely : Prop := opsRightRow.holds Tryd.pinned (OpenSpec.ofChange opsRightWrong)

/-- 'hawalalaw16.BankAgain': WHATEVER THE INPUT: true; the input reads as it did. -/
def bankAgainSpec : ChangeSpec := { name := "bankAgain", fn := fun _ => fun
  | [d1, d2, d3, d4] => { results := [.lit (.bool true)], args := [d1, d2, d3, d4] }
  | _ => none }
def bankAgainRow : OpenClaim := { program := "ytkeafcjdejmohaadoor", sum := "ed485d17752deba6a5b0a57db9d111b3a64733444db048d2ff7fb947d578130c", func := "hawala/hawalalaw16.BankAgain", spec := "bankAgain", inPlace := ["internal/reflectlite.ValueOf", "(internal/reflectlite.Value).Type", "(internal/reflectlite.Value).IsNil", "internal/reflectlite.TypeOf", "(internal/reflectlite.Value).Elem", "(internal/reflectlite.Value).Set"], unfollowed := true, recurses := true, named := ["errors.errorType"], apart := false, laid := [("errors.errorType", laid_errors_errorType)] }
def BankAgainSaid : Prop := bankAgainRow.holds Tryd.pinned (OpenSpec.ofChange bankAgainSpec)

/-- ITS FALSE NEIGHBOUR: 'it returns false'. Refute it at one input. -/
def bankAgainWrong : ChangeSpec := { name := "bankAgain", fn := fun _ => fun
  | [d1, d2, d3, d4] => { results := [.lit (.bool false)], args := [d1, d2, d3, d4] }
  | _ => none }
def BankAgainWrongFalsely : Prop := bankAgainRow.holds Tryd.pinned (OpenSpec.ofChange bankAgainWrong)

/-- 'hawalalaw16.BankBad': WHATEVER THE INPUT: true; the input reads as it did. -/
def bankBadSpec : ChangeSpec := { name := "bankBad", fn := fun _ => fun
  | [d1, d2, d3] => { results := [.lit (.bool true)], args := [d1, d2, d3] }
  | _ => none }
def bankBadRow : OpenClaim := { program := "ytkeafcjdejmohaadoor", sum := "ed485d17752deba6a5b0a57db9d111b3a64733444db048d2ff7fb947d578130c", func := "hawala/hawalalaw16.BankBad", spec := "bankBad", inPlace := ["internal/reflectlite.ValueOf", "(internal/reflectlite.Value).Type", "(internal/reflectlite.Value).IsNil", "internal/reflectlite.TypeOf", "(internal/reflectlite.Value).Elem", "(internal/reflectlite.Value).Set"], unfollowed := true, recurses := true, named := ["errors.errorType"], apart := false, laid := [("errors.errorType", laid_errors_errorType)] }
def BankBadSaid : Prop := bankBadRow.holds Tryd.pinned (OpenSpec.ofChange bankBadSpec)

/-- ITS FALSE NEIGHBOUR: 'it returns false'. Refute it at one input. -/
def bankBadWrong : ChangeSpec := { name := "bankBad", fn := fun _ => fun
  | [d1, d2, d3] => { results := [.lit (.bool false)], args := [d1, d2, d3] }
  | _ => none }
def BankBadWrongFalsely : Prop := bankBadRow.holds Tryd.pinned (OpenSpec.ofChange bankBadWrong)

/-- 'hawalalaw16.BankLegs': WHATEVER THE INPUT: true; the input reads as it did. -/
def bankLegsSpec : ChangeSpec := { name := "bankLegs", fn := fun _ => fun
  | [d1, d2] => { results := [.lit (.bool true)], args := [d1, d2] }
  | _ => none }
def bankLegsRow : OpenClaim := { program := "ytkeafcjdejmohaadoor", sum := "ed485d17752deba6a5b0a57db9d111b3a64733444db048d2ff7fb947d578130c", func := "hawala/hawalalaw16.BankLegs", spec := "bankLegs", inPlace := ["internal/reflectlite.ValueOf", "(internal/reflectlite.Value).Type", "(internal/reflectlite.Value).IsNil", "internal/reflectlite.TypeOf", "(internal/reflectlite.Value).Elem", "(internal/reflectlite.Value).Set"], unfollowed := true, recurses := true, named := ["errors.errorType"], apart := false, laid := [("errors.errorType", laid_errors_errorType)] }
def BankLegsSaid : Prop := bankLegsRow.holds Tryd.pinned (OpenSpec.ofChange bankLegsSpec)

/-- ITS FALSE NEIGHBOUR: 'it returns false'. Refute it at one input. -/
def bankLegsWrong : ChangeSpec := { name := "bankLegs", fn := fun _ => fun
  | [d1, d2] => { results := [.lit (.bool false)], args := [d1, d2] }
  | _ => none }
def BankLegsWrongFalsely : Prop := bankLegsRow.holds Tryd.pinned (OpenSpec.ofChange bankLegsWrong)

/-- 'hawalalaw16.BankRun': WHATEVER THE INPUT: true; the input reads as it did. -/
def bankRunSpec : ChangeSpec := { name := "bankRun", fn := fun _ => fun
  | [d1, d2, d3, d4] => { results := [.lit (.bool true)], args := [d1, d2, d3, d4] }
  | _ => none }
def bankRunRow : OpenClaim := { program := "ytkeafcjdejmohaadoor", sum := "ed485d17752deba6a5b0a57db9d111b3a64733444db048d2ff7fb947d578130c", func := "hawala/hawalalaw16.BankRun", spec := "bankRun", inPlace := ["internal/reflectlite.ValueOf", "(internal/reflectlite.Value).Type", "(internal/reflectlite.Value).IsNil", "internal/reflectlite.TypeOf", "(internal/reflectlite.Value).Elem", "(internal/reflectlite.Value).Set"], unfollowed := true, recurses := true, named := ["errors.errorType"], apart := false, laid := [("errors.errorType", laid_errors_errorType)] }
def BankRunSaid : Prop := bankRunRow.holds Tryd.pinned (OpenSpec.ofChange bankRunSpec)

/-- ITS FALSE NEIGHBOUR: 'it returns false'. Refute it at one input. -/
def bankRunWrong : ChangeSpec := { name := "bankRun", fn := fun _ => fun
  | [d1, d2, d3, d4] => { results := [.lit (.bool false)], args := [d1, d2, d3, d4] }
  | _ => none }
def BankRunWrongFalsely : Prop := bankRunRow.holds Tryd.pinned (OpenSpec.ofChange bankRunWrong)

/-- 'hawalalaw16.BankFull': WHATEVER THE INPUT: true; the input reads as it did. -/
def bankFullSpec : ChangeSpec := { name := "bankFull", fn := fun _ => fun
  | [d1, d2] => { results := [.lit (.bool true)], args := [d1, d2] }
  | _ => none }
def bankFullRow : OpenClaim := { program := "ytkeafcjdejmohaadoor", sum := "ed485d17752deba6a5b0a57db9d111b3a64733444db048d2ff7fb947d578130c", func := "hawala/hawalalaw16.BankFull", spec := "bankFull", inPlace := ["internal/reflectlite.ValueOf", "(internal/reflectlite.Value).Type", "(internal/reflectlite.Value).IsNil", "internal/reflectlite.TypeOf", "(internal/reflectlite.Value).Elem", "(internal/reflectlite.Value).Set"], unfollowed := true, recurses := true, named := ["errors.errorType"], apart := false, laid := [("errors.errorType", laid_errors_errorType)] }
def BankFullSaid : Prop := bankFullRow.holds Tryd.pinned (OpenSpec.ofChange bankFullSpec)

/-- ITS FALSE NEIGHBOUR: 'it returns false'. Refute it at one input. -/
def bankFullWrong : ChangeSpec := { name := "bankFull", fn := fun _ => fun
  | [d1, d2] => { results := [.lit (.bool false)], args := [d1, d2] }
  | _ => none }
def BankFullWrongFalsely : Prop := bankFullRow.holds Tryd.pinned (OpenSpec.ofChange bankFullWrong)

/- THE SECOND FORM. 'bulk': how many values and letters a reading holds, each counted each time it is reached (what is shared counts as often as it is met; a slice's spare places count too). A statement '..UptoSaid' is the law's where the arguments, and the package variables that the reading takes, are together of bulk at most 1048576: NARROWER than '..Said'. Prove '..Said' where nothing that the law and all that it calls make is longer than what came in: it says more and counts as full. Else prove '..UptoSaid'. A law counts once. -/
mutual
def uptoBulk {H : Type} : DataW H → Nat
  | .lit (.string bytes) => bytes.length + 1
  | .lit _ => 1
  | .nil => 1
  | .ptr d => uptoBulk d + 1
  | .slice elems spare => uptoBulkAll elems + uptoBulkAll spare + 1
  | .agg parts => uptoBulkAll parts + 1
  | .iface _ d => uptoBulk d + 1
  | .map entries => uptoBulkEntries entries + 1
  | .held _ => 1
def uptoBulkAll {H : Type} : List (DataW H) → Nat
  | [] => 0
  | d :: r => uptoBulk d + uptoBulkAll r
def uptoBulkEntries {H : Type} : List (Lit × DataW H) → Nat
  | [] => 0
  | x :: r => uptoBulkEntry x + uptoBulkEntries r
def uptoBulkEntry {H : Type} : Lit × DataW H → Nat
  | (.string bytes, d) => bytes.length + uptoBulk d + 1
  | (_, d) => uptoBulk d + 1
 end
def uptoSmall : (H : Type) → List (DataW H) → Bool := fun _ ds => decide (uptoBulkAll ds ≤ 1048576)
def OpenSpec.upto (s : _root_.Go.ChangeSpec) : _root_.Go.OpenSpec := { _root_.Go.OpenSpec.ofChange s with cond := some uptoSmall }

/-- 'hawalalaw15.OpsRaw', WHERE WHAT IT READS IS OF BULK AT MOST 1048576: true; the input reads as it did. -/
def opsRawUptoRow : OpenClaim := { program := "ytkeafcjdejmohaadoor", sum := "ed485d17752deba6a5b0a57db9d111b3a64733444db048d2ff7fb947d578130c", func := "hawala/hawalalaw15.OpsRaw", spec := "opsRaw", inPlace := ["internal/reflectlite.ValueOf", "(internal/reflectlite.Value).Type", "(internal/reflectlite.Value).IsNil", "internal/reflectlite.TypeOf", "(internal/reflectlite.Value).Elem", "(internal/reflectlite.Value).Set"], unfollowed := true, recurses := true, named := ["errors.errorType"], apart := false, laid := [("errors.errorType", laid_errors_errorType)], narrowed := true }
def OpsRawUptoSaid : Prop := opsRawUptoRow.holds Tryd.pinned (OpenSpec.upto opsRawSpec)

/-- 'hawalalaw15.OpsTick', WHERE WHAT IT READS IS OF BULK AT MOST 1048576: true; the input reads as it did. -/
def opsTickUptoRow : OpenClaim := { program := "ytkeafcjdejmohaadoor", sum := "ed485d17752deba6a5b0a57db9d111b3a64733444db048d2ff7fb947d578130c", func := "hawala/hawalalaw15.OpsTick", spec := "opsTick", inPlace := ["internal/reflectlite.ValueOf", "(internal/reflectlite.Value).Type", "(internal/reflectlite.Value).IsNil", "internal/reflectlite.TypeOf", "(internal/reflectlite.Value).Elem", "(internal/reflectlite.Value).Set"], unfollowed := true, recurses := true, named := ["errors.errorType"], apart := false, laid := [("errors.errorType", laid_errors_errorType)], narrowed := true }
def OpsTickUptoSaid : Prop := opsTickUptoRow.holds Tryd.pinned (OpenSpec.upto opsTickSpec)

/-- 'hawalalaw15.OpsRight', WHERE WHAT IT READS IS OF BULK AT MOST 1048576: true; the input reads as it did. -/
def opsRightUptoRow : OpenClaim := { program := "ytkeafcjdejmohaadoor", sum := "ed485d17752deba6a5b0a57db9d111b3a64733444db048d2ff7fb947d578130c", func := "hawala/hawalalaw15.OpsRight", spec := "opsRight", inPlace := ["internal/reflectlite.ValueOf", "(internal/reflectlite.Value).Type", "(internal/reflectlite.Value).IsNil", "internal/reflectlite.TypeOf", "(internal/reflectlite.Value).Elem", "(internal/reflectlite.Value).Set"], unfollowed := true, recurses := true, named := ["errors.errorType"], apart := false, laid := [("errors.errorType", laid_errors_errorType)], narrowed := true }
def OpsRightUptoSaid : Prop := opsRightUptoRow.holds Tryd.pinned (OpenSpec.upto opsRightSpec)

/-- 'hawalalaw16.BankAgain', WHERE WHAT IT READS IS OF BULK AT MOST 1048576: true; the input reads as it did. -/
def bankAgainUptoRow : OpenClaim := { program := "ytkeafcjdejmohaadoor", sum := "ed485d17752deba6a5b0a57db9d111b3a64733444db048d2ff7fb947d578130c", func := "hawala/hawalalaw16.BankAgain", spec := "bankAgain", inPlace := ["internal/reflectlite.ValueOf", "(internal/reflectlite.Value).Type", "(internal/reflectlite.Value).IsNil", "internal/reflectlite.TypeOf", "(internal/reflectlite.Value).Elem", "(internal/reflectlite.Value).Set"], unfollowed := true, recurses := true, named := ["errors.errorType"], apart := false, laid := [("errors.errorType", laid_errors_errorType)], narrowed := true }
def BankAgainUptoSaid : Prop := bankAgainUptoRow.holds Tryd.pinned (OpenSpec.upto bankAgainSpec)

/-- 'hawalalaw16.BankBad', WHERE WHAT IT READS IS OF BULK AT MOST 1048576: true; the input reads as it did. -/
def bankBadUptoRow : OpenClaim := { program := "ytkeafcjdejmohaadoor", sum := "ed485d17752deba6a5b0a57db9d111b3a64733444db048d2ff7fb947d578130c", func := "hawala/hawalalaw16.BankBad", spec := "bankBad", inPlace := ["internal/reflectlite.ValueOf", "(internal/reflectlite.Value).Type", "(internal/reflectlite.Value).IsNil", "internal/reflectlite.TypeOf", "(internal/reflectlite.Value).Elem", "(internal/reflectlite.Value).Set"], unfollowed := true, recurses := true, named := ["errors.errorType"], apart := false, laid := [("errors.errorType", laid_errors_errorType)], narrowed := true }
def BankBadUptoSaid : Prop := bankBadUptoRow.holds Tryd.pinned (OpenSpec.upto bankBadSpec)

/-- 'hawalalaw16.BankLegs', WHERE WHAT IT READS IS OF BULK AT MOST 1048576: true; the input reads as it did. -/
def bankLegsUptoRow : OpenClaim := { program := "ytkeafcjdejmohaadoor", sum := "ed485d17752deba6a5b0a57db9d111b3a64733444db048d2ff7fb947d578130c", func := "hawala/hawalalaw16.BankLegs", spec := "bankLegs", inPlace := ["internal/reflectlite.ValueOf", "(internal/reflectlite.Value).Type", "(internal/reflectlite.Value).IsNil", "internal/reflectlite.TypeOf", "(internal/reflectlite.Value).Elem", "(internal/reflectlite.Value).Set"], unfollowed := true, recurses := true, named := ["errors.errorType"], apart := false, laid := [("errors.errorType", laid_errors_errorType)], narrowed := true }
def BankLegsUptoSaid : Prop := bankLegsUptoRow.holds Tryd.pinned (OpenSpec.upto bankLegsSpec)

/-- 'hawalalaw16.BankRun', WHERE WHAT IT READS IS OF BULK AT MOST 1048576: true; the input reads as it did. -/
def bankRunUptoRow : OpenClaim := { program := "ytkeafcjdejmohaadoor", sum := "ed485d17752deba6a5b0a57db9d111b3a64733444db048d2ff7fb947d578130c", func := "hawala/hawalalaw16.BankRun", spec := "bankRun", inPlace := ["internal/reflectlite.ValueOf", "(internal/reflectlite.Value).Type", "(internal/reflectlite.Value).IsNil", "internal/reflectlite.TypeOf", "(internal/reflectlite.Value).Elem", "(internal/reflectlite.Value).Set"], unfollowed := true, recurses := true, named := ["errors.errorType"], apart := false, laid := [("errors.errorType", laid_errors_errorType)], narrowed := true }
def BankRunUptoSaid : Prop := bankRunUptoRow.holds Tryd.pinned (OpenSpec.upto bankRunSpec)

/-- 'hawalalaw16.BankFull', WHERE WHAT IT READS IS OF BULK AT MOST 1048576: true; the input reads as it did. -/
def bankFullUptoRow : OpenClaim := { program := "ytkeafcjdejmohaadoor", sum := "ed485d17752deba6a5b0a57db9d111b3a64733444db048d2ff7fb947d578130c", func := "hawala/hawalalaw16.BankFull", spec := "bankFull", inPlace := ["internal/reflectlite.ValueOf", "(internal/reflectlite.Value).Type", "(internal/reflectlite.Value).IsNil", "internal/reflectlite.TypeOf", "(internal/reflectlite.Value).Elem", "(internal/reflectlite.Value).Set"], unfollowed := true, recurses := true, named := ["errors.errorType"], apart := false, laid := [("errors.errorType", laid_errors_errorType)], narrowed := true }
def BankFullUptoSaid : Prop := bankFullUptoRow.holds Tryd.pinned (OpenSpec.upto bankFullSpec)

end Rows
end Go.Proofs.YtkeafcjdejmohaaDoor
