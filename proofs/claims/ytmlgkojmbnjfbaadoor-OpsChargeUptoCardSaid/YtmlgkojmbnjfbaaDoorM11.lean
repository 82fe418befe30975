/- ops.New; law15.awake. -/
import Derived.Test.YtmlgkojmbnjfbaaDoorN0
import Derived.Test.YtmlgkojmbnjfbaaDoorM7
import Derived.KernelRfl
namespace Go.Proofs.YtmlgkojmbnjfbaaDoor.A
open Go Q
def sta0 : Sta := ⟨newL, [], [], [], 0⟩
def newSC (args : List AV) (bs : List Box) (K : AV → List Box → Prop) : Prop := bs = [] ∧ args = [] ∧ K (staA sta0) []
def RNw : Contract
  | 37 => newC0
  | _ => fun _ _ _ => False
theorem RNw_ok : CallOk Tryd.prog tab RNw := by
  intro f args bs K h
  unfold RNw at h
  split at h
  · exact ⟨_, h, new_ok0⟩
  · exact h.elim
def RNw_E (pl : Nat → Plan) : En := ⟨tab, RNw, fun _ => none, 0, pl⟩
theorem RNw_J (pl : Nat → Plan) : JOk Tryd.prog (RNw_E pl).T (RNw_E pl).J := fun _ _ h => by cases h
set_option maxRecDepth 200000 in
theorem newS_ok0 : FnOk Tryd.prog tab 15 (fun args bs K => bs = [] ∧ args = [] ∧ K (.agg [.sl (.own 1000) 50 (newL.map accA), .sl .nl 0 [], .sl .nl 0 [], .sl .nl 0 [], .int .i64 0]) []) := by
  refine fn_ok (E := RNw_E pl15) tab_is RNw_ok (RNw_J _) Tryd.func15 rfl rfl (by kernel_rfl) ?_
  rintro args bs K ⟨rfl, rfl, hK⟩
  exact ⟨rfl, rfl, rfl, hK⟩
theorem newS_ok : FnOk Tryd.prog tab 15 newSC := newS_ok0.frz.nilR.mono (by
  rintro args bs K ⟨rfl, rfl, hK⟩
  exact ⟨rfl, rfl, rfl, _, rfl, staA sta0, .inr ⟨_, [accsA newL, paysA [], sagsA [], knsA [], .int .i64 0], rfl, rfl, .inl rfl, .inr ⟨_, _, rfl, rfl⟩, .inr ⟨_, _, rfl, rfl⟩, .inr ⟨_, _, rfl, rfl⟩, .inl rfl, trivial⟩, hK⟩)
theorem szA_of {s : Sta} (h : s.accs.length ≤ 100) (h2 : s.pays.length ≤ 100) : SzA s := ⟨by omega, by omega⟩
def aw1 : Sta := ⟨newL ++ [⟨1, 0, 0⟩], [], [], [], 0⟩
def aw2 : Sta := ⟨[⟨0, 0, 0⟩, ⟨0, 0, 0⟩, ⟨0, 0, 0⟩, ⟨1, -50, 0⟩, ⟨1, 0, 0⟩, ⟨1, 0, 0⟩, ⟨2, 0, 0⟩, ⟨2, 0, 0⟩, ⟨2, 0, 0⟩, ⟨1, 50, 0⟩], [], [], [], 0⟩
theorem aw_1 : doM sta0 ⟨0, 0, 1, 0, 0, 0, 0⟩ = (aw1, 0, 9) := by kernel_rfl
theorem aw_2 : doM aw1 ⟨0, 1, 9, 0, 50, 0, 0⟩ = (aw2, 0, 0) := by kernel_rfl
theorem aw_3 : doM aw2 ⟨0, 2, 9, 9, 60, 0, 0⟩ = (aw2, 1, 0) := by kernel_rfl
def awakeC15 (args : List AV) (bs : List Box) (K : AV → List Box → Prop) : Prop := bs = [] ∧ args = [] ∧ K (.bool true) []
def RAw : Contract
  | 15 => newSC
  | 10 => doC
  | _ => fun _ _ _ => False
theorem RAw_ok : CallOk Tryd.prog tab RAw := by
  intro f args bs K h
  unfold RAw at h
  split at h
  · exact ⟨_, h, newS_ok⟩
  · exact ⟨_, h, do_ok⟩
  · exact h.elim
def RAw_E (pl : Nat → Plan) : En := ⟨tab, RAw, fun _ => none, 0, pl⟩
theorem RAw_J (pl : Nat → Plan) : JOk Tryd.prog (RAw_E pl).T (RAw_E pl).J := fun _ _ h => by cases h
set_option maxRecDepth 200000 in
set_option maxHeartbeats 6400000 in
theorem awake15_ok : FnOk Tryd.prog tab 8 awakeC15 := by
  refine fn_ok (E := RAw_E pl8) tab_is RAw_ok (RAw_J _) Tryd.func8 rfl rfl (by kernel_rfl) ?_
  rintro args bs K ⟨rfl, rfl, hK⟩
  refine ⟨rfl, ?_⟩
  refine ⟨rfl, rfl, ?_⟩
  refine ⟨rfl, sta0, ⟨0, 0, 1, 0, 0, 0, 0⟩, rfl, szA_of (by decide) (by decide), ?_⟩
  rw [aw_1]
  refine ⟨rfl, aw1, ⟨0, 1, 9, 0, 50, 0, 0⟩, rfl, szA_of (by decide) (by decide), ?_⟩
  rw [aw_2]
  refine ⟨rfl, aw2, ⟨0, 2, 9, 9, 60, 0, 0⟩, rfl, szA_of (by decide) (by decide), ?_⟩
  rw [aw_3]
  refine ⟨fun _ => ?_, fun h => Bool.noConfusion (show true = false from h)⟩
  refine ⟨fun _ => ?_, fun h => Bool.noConfusion (show true = false from h)⟩
  refine ⟨fun _ => ?_, fun h => Bool.noConfusion (show true = false from h)⟩
  refine ⟨fun _ => ?_, fun h => Bool.noConfusion (show true = false from h)⟩
  refine ⟨_, by decide, rfl, ?_⟩
  refine ⟨fun _ => ?_, fun h => Bool.noConfusion (show true = false from h)⟩
  refine ⟨_, by decide, rfl, ?_⟩
  refine ⟨fun _ => ?_, fun h => Bool.noConfusion (show true = false from h)⟩
  exact hK
end Go.Proofs.YtmlgkojmbnjfbaaDoor.A
