/- hawalalaw20: AuditRaw, walked. -/
import Derived.Test.YtladmojeadggiaaU7
import Derived.Test.YtladmojeadggiaaU11
namespace Go.Proofs.Ytladmojeadggiaa.A
open Go Q
theorem faults_len (s : Sta) : (faults s).length ≤ 6 := by
  unfold faults faultsOf
  rw [List.length_map]
  exact List.Sublist.length_le List.filter_sublist
def auditRawC (args : List AV) (bs : List Box) (K : AV → List Box → Prop) : Prop := bs = [] ∧ ∃ s : Sta, args = [staA s] ∧ Small s ∧ K (.bool true) []
def R12 : Contract
  | 5 => awakeC
  | 7 => checkC
  | 8 => refC
  | 6 => sameC
  | _ => fun _ _ _ => False
theorem R12_ok : CallOk Try.prog tab R12 := by
  intro f args bs K h
  unfold R12 at h
  split at h
  · exact ⟨_, h, awake_ok⟩
  · exact ⟨_, h, check_ok⟩
  · exact ⟨_, h, ref_ok⟩
  · exact ⟨_, h, same_ok⟩
  · exact h.elim
def R12_E (pl : Nat → Plan) : En := ⟨tab, R12, fun _ => none, 0, pl⟩
theorem R12_J (pl : Nat → Plan) : JOk Try.prog (R12_E pl).T (R12_E pl).J := fun _ _ h => by cases h
set_option maxRecDepth 200000 in
set_option maxHeartbeats 1600000 in
theorem auditRaw_ok : FnOk Try.prog tab 3 auditRawC := by
  refine fn_ok (E := R12_E pl3) tab_is R12_ok (R12_J _) Try.func3 rfl rfl (by kernel_rfl) ?_
  rintro args bs K ⟨rfl, s, rfl, hS, hK⟩
  refine ⟨rfl, ?_⟩
  have hl := faults_len s
  refine ⟨rfl, rfl, ?_⟩
  refine ⟨fun h => Bool.noConfusion (show false = true from h), fun _ => ?_⟩
  refine ⟨rfl, s, rfl, hS, ?_⟩
  refine ⟨rfl, s, rfl, hS, ?_⟩
  refine ⟨rfl, faults s, faults s, rfl, by omega, by omega, ?_⟩
  have : decide (faults s = faults s) = true := by simp
  rw [this]
  exact hK
end Go.Proofs.Ytladmojeadggiaa.A
