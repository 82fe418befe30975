/-
  No cell of these rows narrows 'for every input' (looked for: loops, veiled, ifaces, maps, wideKeys, modest, calm, conditions, laid).
  DERIVED. THE GIVEN ROWS OF THIS SEAT. 2 by the template 'for every input the law returns true; each argument reads behind the call as it read before'; 0 by the template 'total and deterministic' (their statements: YtladmojeadggiaaTotals.lean).
  GIVEN WITH THE SEED: the statements are not yours to turn. If you find one false, say at which input.
  Laid BY PROGRAM, IN A SANDBOX (cutbox-rows.mjs): the forced cells as the released guide's own fill.sh prints them over the translation 508111fc64b74f6a… (all of the seat's roots in one cut). By AI agents, Wed Nov 11 2026. No macro, syntax, notation, axiom, sorry.
-/
import Derived.Test.YtladmojeadggiaaChecked
import GoSem.Claim
import GoSem.ClaimJoined
import GoSem.ClaimMapViews
import Derived.JoinedTies
import Derived.KernelRfl
namespace Go.Proofs.Ytladmojeadggiaa
/- THE CELL 'sum', in the pinned program and in every row, IS THE sha256 OF THE DUMP (.gsa) THAT YtladmojeadggiaaProg.lean LOADS. Nothing in Lean hashes anything: it is a label: what it is worth is what the hold of that sum in a sandbox is worth. -/
noncomputable def Try.pinned : Pinned := { name := "ytladmojeadggiaa", sum := "508111fc64b74f6a9aa8bfde4a5904819256b53d6445045f216fbf6ce9649c4c", checked := Try.checked }
namespace Rows
def none {H : Type} : Left H := { results := [], args := [] }

/-- 'hawalalaw20.AuditRaw': WHATEVER THE INPUT: true; the input reads as it did. -/
def auditRawSpec : ChangeSpec := { name := "auditRaw", fn := fun _ => fun
  | [d] => { results := [.lit (.bool true)], args := [d] }
  | _ => none }
def auditRawRow : OpenClaim := { program := "ytladmojeadggiaa", sum := "508111fc64b74f6a9aa8bfde4a5904819256b53d6445045f216fbf6ce9649c4c", func := "hawala/hawalalaw20.AuditRaw", spec := "auditRaw", unfollowed := true, recurses := true, apart := false }
def AuditRawSaid : Prop := auditRawRow.holds Try.pinned (OpenSpec.ofChange auditRawSpec)

/-- ITS FALSE NEIGHBOUR: 'it returns false'. Refute it at one input. -/
def auditRawWrong : ChangeSpec := { name := "auditRaw", fn := fun _ => fun
  | [d] => { results := [.lit (.bool false)], args := [d] }
  | _ => none }
def AuditRawWrongFalsely : Prop := auditRawRow.holds Try.pinned (OpenSpec.ofChange auditRawWrong)

/-- 'hawalalaw20.AuditNew': WHATEVER THE INPUT: true; the input reads as it did. -/
def auditNewSpec : ChangeSpec := { name := "auditNew", fn := fun _ => fun
  | [d] => { results := [.lit (.bool true)], args := [d] }
  | _ => none }
def auditNewRow : OpenClaim := { program := "ytladmojeadggiaa", sum := "508111fc64b74f6a9aa8bfde4a5904819256b53d6445045f216fbf6ce9649c4c", func := "hawala/hawalalaw20.AuditNew", spec := "auditNew", unfollowed := true, recurses := true, apart := false }
def AuditNewSaid : Prop := auditNewRow.holds Try.pinned (OpenSpec.ofChange auditNewSpec)

/-- ITS FALSE NEIGHBOUR: 'it returns false'. Refute it at one input. -/
def auditNewWrong : ChangeSpec := { name := "auditNew", fn := fun _ => fun
  | [d] => { results := [.lit (.bool false)], args := [d] }
  | _ => none }
def AuditNewWrongFalsely : Prop := auditNewRow.holds Try.pinned (OpenSpec.ofChange auditNewWrong)

/- THE SECOND FORM. 'bulk': how many values and letters a reading holds, each counted each time it is reached (what is shared counts as often as it is met; a slice's spare places count too). A statement '..UptoSaid' is the law's where the arguments, and the package variables that the reading takes, are together of bulk at most 1048576: NARROWER than '..Said'. Prove '..Said' where nothing that the law and all that it calls make is longer than what came in: it says more and counts as full. Else prove '..UptoSaid'. A law counts once. -/
mutual
def uptoBulk {H : Type} : DataW H → Nat
  | .lit (.string bytes) => bytes.length + 1
  | .lit _ => 1
  | .nil => 1
  | .ptr d => uptoBulk d + 1
  | .slice elems spare => uptoBulkAll elems + uptoBulkAll spare + 1
  | .agg parts => uptoBulkAll parts + 1
  | .iface _ d => uptoBulk d + 1
  | .map entries => uptoBulkEntries entries + 1
  | .held _ => 1
def uptoBulkAll {H : Type} : List (DataW H) → Nat
  | [] => 0
  | d :: r => uptoBulk d + uptoBulkAll r
def uptoBulkEntries {H : Type} : List (Lit × DataW H) → Nat
  | [] => 0
  | x :: r => uptoBulkEntry x + uptoBulkEntries r
def uptoBulkEntry {H : Type} : Lit × DataW H → Nat
  | (.string bytes, d) => bytes.length + uptoBulk d + 1
  | (_, d) => uptoBulk d + 1
 end
def uptoSmall : (H : Type) → List (DataW H) → Bool := fun _ ds => decide (uptoBulkAll ds ≤ 1048576)
def OpenSpec.upto (s : _root_.Go.ChangeSpec) : _root_.Go.OpenSpec := { _root_.Go.OpenSpec.ofChange s with cond := some uptoSmall }

/-- 'hawalalaw20.AuditRaw', WHERE WHAT IT READS IS OF BULK AT MOST 1048576: true; the input reads as it did. -/
def auditRawUptoRow : OpenClaim := { program := "ytladmojeadggiaa", sum := "508111fc64b74f6a9aa8bfde4a5904819256b53d6445045f216fbf6ce9649c4c", func := "hawala/hawalalaw20.AuditRaw", spec := "auditRaw", unfollowed := true, recurses := true, apart := false, narrowed := true }
def AuditRawUptoSaid : Prop := auditRawUptoRow.holds Try.pinned (OpenSpec.upto auditRawSpec)

/-- 'hawalalaw20.AuditNew', WHERE WHAT IT READS IS OF BULK AT MOST 1048576: true; the input reads as it did. -/
def auditNewUptoRow : OpenClaim := { program := "ytladmojeadggiaa", sum := "508111fc64b74f6a9aa8bfde4a5904819256b53d6445045f216fbf6ce9649c4c", func := "hawala/hawalalaw20.AuditNew", spec := "auditNew", unfollowed := true, recurses := true, apart := false, narrowed := true }
def AuditNewUptoSaid : Prop := auditNewUptoRow.holds Try.pinned (OpenSpec.upto auditNewSpec)

end Rows
end Go.Proofs.Ytladmojeadggiaa
