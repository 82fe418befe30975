/- hawalalaw20: awake, AuditNew. -/
import Derived.Test.YtjffmldlkofpaaaGreatDoorGC
import Derived.Test.YtjffmldlkofpaaaGreatDoorU6
namespace Go.Proofs.YtjffmldlkofpaaaGreatDoor.A
open Go Q
def staN (n : Int) : Sta := ⟨newL, [], [], [], n⟩
def staT : Sta := ⟨newL ++ [⟨0, 5, 1⟩], [], [], [], 0⟩
theorem small_n (n : Int) : Small (staN n) := ⟨(by decide : (9 : Nat) < 1152921504606846976), (by decide : (0 : Nat) < 1152921504606846976), (by decide : (0 : Nat) < 1152921504606846976), (by decide : (0 : Nat) < 1152921504606846976), (by decide : (9 : Nat) * 8 ≤ 140737488355328)⟩
theorem small_t : Small staT := ⟨by decide, by decide, by decide, by decide, by decide⟩
theorem small_0 : Small ⟨[], [], [], [], 0⟩ := ⟨by decide, by decide, by decide, by decide, by decide⟩
theorem faults_n (n : Int) : faults (staN n) = [] := by
  have : faults (staN n) = faults (staN 0) := rfl
  rw [this]; decide +kernel
theorem faults_t : faults staT = [1, 5] := by decide +kernel
theorem faults_0 : faults ⟨[], [], [], [], 0⟩ = [2] := by decide +kernel
theorem quiet_n (n : Int) : quietB (staN n) = true := by
  have : quietB (staN n) = quietB (staN 0) := rfl
  rw [this]; decide +kernel
def R9 : Contract
  | 54 => newC0
  | 28 => nil2C checkC
  | 34 => nil2C quietC
  | 30 => nil2C heldC
  | _ => fun _ _ _ => False
theorem R9_ok : CallOk Tryz.prog tab R9 := by
  intro f args bs K h
  unfold R9 at h
  split at h
  · exact ⟨_, h, new_ok0⟩
  · exact ⟨_, h, check_ok.nil2⟩
  · exact ⟨_, h, quiet_ok.nil2⟩
  · exact ⟨_, h, held_ok.nil2⟩
  · exact h.elim
def R9_E (pl : Nat → Plan) : En := ⟨tab, R9, fun _ => none, 0, pl⟩
theorem R9_J (pl : Nat → Plan) : JOk Tryz.prog (R9_E pl).T (R9_E pl).J := fun _ _ h => by cases h
def awakeC (args : List AV) (bs : List Box) (K : AV → List Box → Prop) : Prop := bs = [] ∧ args = [] ∧ K (.bool true) []
set_option maxRecDepth 200000 in
set_option maxHeartbeats 6400000 in
theorem awake_ok : FnOk Tryz.prog tab 27 awakeC := by
  refine fn_ok (E := R9_E pl27) tab_is R9_ok (R9_J _) Tryz.func27 rfl rfl (by kernel_rfl) ?_
  rintro args bs K ⟨rfl, rfl, hK⟩
  refine ⟨rfl, ?_⟩
  refine ⟨rfl, rfl, ?_⟩
  refine ⟨rfl, rfl, ?_⟩
  refine ⟨(by decide : 10 * 24 ≤ 140737488355328), ?_⟩
  refine ⟨[staA staT], ⟨.inr ⟨_, _, rfl, rfl, .inl rfl, .inr ⟨_, _, rfl, rfl⟩, .inr ⟨_, _, rfl, rfl⟩, .inr ⟨_, _, rfl, rfl⟩, .inl rfl, trivial⟩, trivial⟩, rfl, staT, rfl, small_t, ?_⟩
  rw [faults_t]
  refine ⟨[staA (staN 0)], ⟨.inr ⟨_, _, rfl, rfl, .inl rfl, .inr ⟨_, _, rfl, rfl⟩, .inr ⟨_, _, rfl, rfl⟩, .inr ⟨_, _, rfl, rfl⟩, .inl rfl, trivial⟩, trivial⟩, rfl, staN 0, rfl, small_n 0, ?_⟩
  rw [faults_n]
  refine ⟨fun _ => ?_, fun h => Bool.noConfusion (show true = false from h)⟩
  refine ⟨fun _ => ?_, fun h => Bool.noConfusion (show true = false from h)⟩
  refine ⟨_, Int.le_refl 0, rfl, ?_⟩
  refine ⟨fun _ => ?_, fun h => Bool.noConfusion (show true = false from h)⟩
  refine ⟨_, (by decide : (0 : Int) ≤ 1), rfl, ?_⟩
  refine ⟨fun _ => ?_, fun h => Bool.noConfusion (show true = false from h)⟩
  refine ⟨[staA (staN 0)], ⟨.inr ⟨_, _, rfl, rfl, .inl rfl, .inr ⟨_, _, rfl, rfl⟩, .inr ⟨_, _, rfl, rfl⟩, .inr ⟨_, _, rfl, rfl⟩, .inl rfl, trivial⟩, trivial⟩, rfl, staN 0, rfl, small_n 0, ?_⟩
  rw [quiet_n]
  exact hK
end Go.Proofs.YtjffmldlkofpaaaGreatDoor.A
