/- engine: Do, Run. -/
import Derived.Test.YtjffmldlkofpaaaGreatDoorM32
namespace Go.Proofs.YtjffmldlkofpaaaGreatDoor.A
open Go Q
def engM (s : Sta) (e : Evt) : Sta × Rep := if e.what = 0 then submitM s e else if e.what = 1 then stepM s e else if e.what = 2 then tickEM s e else (s, (1, 0))
def engC (args : List AV) (bs : List Box) (K : AV → List Box → Prop) : Prop := bs = [] ∧ ∃ (s : Sta) (e : Evt), args = [staA s, evtA e] ∧ SzE s ∧ (e.what = 1 → TellOk s) ∧ K (.tup [staA (engM s e).1, repA (engM s e).2.1 (engM s e).2.2]) []
noncomputable def JEg : FuncId → Option StSpec
  | 37 => some (ptrJ (machC submitM))
  | 38 => some (ptrJ stepC)
  | 39 => some (ptrJ (machC tickEM))
  | _ => none
theorem JEg_ok : JOk Tryz.prog tab JEg := by
  intro f j h
  unfold JEg at h
  split at h
  · cases h; exact ptr_ok submit_ok
  · cases h; exact ptr_ok step_ok
  · cases h; exact ptr_ok tickE_ok
  · cases h
noncomputable def EEg_E (pl : Nat → Plan) : En := ⟨tab, R0, JEg, 0, pl⟩
set_option maxRecDepth 200000 in
set_option maxHeartbeats 12800000 in
theorem eng_ok : FnOk Tryz.prog tab 19 engC := by
  refine fn_ok (E := EEg_E pl19) tab_is R0_ok JEg_ok Tryz.func19 rfl rfl (by kernel_rfl) ?_
  rintro args bs K ⟨rfl, s, e, rfl, hz, hT, hK⟩
  refine ⟨rfl, ?_⟩
  refine ⟨_, rfl, ?_⟩
  refine ⟨_, rfl, ?_⟩
  refine ⟨_, rfl, ?_⟩
  by_cases h0 : e.what = 0
  · have hE : engM s e = submitM s e := by unfold engM; rw [if_pos h0]
    rw [hE] at hK
    refine ⟨some (.fn (.func 37) [.ptr 11 0] []), ?_, ?_⟩
    · show mfind (.int .i64 e.what) [(.int .i64 0, .fn (.func 37) [.ptr 11 0] []), (.int .i64 1, .fn (.func 38) [.ptr 11 0] []), (.int .i64 2, .fn (.func 39) [.ptr 11 0] [])] = _
      rw [h0]; rfl
    refine ⟨fun h => Bool.noConfusion (show false = true from h), fun _ => ?_⟩
    refine ⟨11, 99, deskL s, _, rfl, rfl, rfl, rfl, s, e, rfl, rfl, hz, ⟨deskL (submitM s e).1, rfl, rfl, rfl, ?_⟩⟩
    repeat' first
      | (exact hK)
      | (refine ⟨fun _ => ?_, fun h => Bool.noConfusion (show true = false from h)⟩)
      | (refine ⟨fun h => Bool.noConfusion (show false = true from h), fun _ => ?_⟩)
      | (refine And.intro ?_ ?_)
  by_cases h1 : e.what = 1
  · have hE : engM s e = stepM s e := by unfold engM; rw [if_neg h0, if_pos h1]
    rw [hE] at hK
    refine ⟨some (.fn (.func 38) [.ptr 11 0] []), ?_, ?_⟩
    · show mfind (.int .i64 e.what) [(.int .i64 0, .fn (.func 37) [.ptr 11 0] []), (.int .i64 1, .fn (.func 38) [.ptr 11 0] []), (.int .i64 2, .fn (.func 39) [.ptr 11 0] [])] = _
      rw [h1]; rfl
    refine ⟨fun h => Bool.noConfusion (show false = true from h), fun _ => ?_⟩
    refine ⟨11, 99, deskL s, _, rfl, rfl, rfl, rfl, s, e, rfl, rfl, hz, hT h1, ⟨deskL (stepM s e).1, rfl, rfl, rfl, ?_⟩⟩
    repeat' first
      | (exact hK)
      | (refine ⟨fun _ => ?_, fun h => Bool.noConfusion (show true = false from h)⟩)
      | (refine ⟨fun h => Bool.noConfusion (show false = true from h), fun _ => ?_⟩)
      | (refine And.intro ?_ ?_)
  by_cases h2 : e.what = 2
  · have hE : engM s e = tickEM s e := by unfold engM; rw [if_neg h0, if_neg h1, if_pos h2]
    rw [hE] at hK
    refine ⟨some (.fn (.func 39) [.ptr 11 0] []), ?_, ?_⟩
    · show mfind (.int .i64 e.what) [(.int .i64 0, .fn (.func 37) [.ptr 11 0] []), (.int .i64 1, .fn (.func 38) [.ptr 11 0] []), (.int .i64 2, .fn (.func 39) [.ptr 11 0] [])] = _
      rw [h2]; rfl
    refine ⟨fun h => Bool.noConfusion (show false = true from h), fun _ => ?_⟩
    refine ⟨11, 99, deskL s, _, rfl, rfl, rfl, rfl, s, e, rfl, rfl, hz, ⟨deskL (tickEM s e).1, rfl, rfl, rfl, ?_⟩⟩
    repeat' first
      | (exact hK)
      | (refine ⟨fun _ => ?_, fun h => Bool.noConfusion (show true = false from h)⟩)
      | (refine ⟨fun h => Bool.noConfusion (show false = true from h), fun _ => ?_⟩)
      | (refine And.intro ?_ ?_)
  have hE : engM s e = (s, (1, 0)) := by unfold engM; rw [if_neg h0, if_neg h1, if_neg h2]
  rw [hE] at hK
  refine ⟨none, ?_, ?_⟩
  · show mfind (.int .i64 e.what) [(.int .i64 0, .fn (.func 37) [.ptr 11 0] []), (.int .i64 1, .fn (.func 38) [.ptr 11 0] []), (.int .i64 2, .fn (.func 39) [.ptr 11 0] [])] = _
    have b0 : (e.what == 0) = false := by simp [h0]
    have b1 : (e.what == 1) = false := by simp [h1]
    have b2 : (e.what == 2) = false := by simp [h2]
    simp only [mfind, keyEq, kindA, b0, b1, b2]
  repeat' first
    | (exact hK)
    | (refine ⟨fun _ => ?_, fun h => Bool.noConfusion (show true = false from h)⟩)
    | (refine ⟨fun h => Bool.noConfusion (show false = true from h), fun _ => ?_⟩)
    | (refine And.intro ?_ ?_)
end Go.Proofs.YtjffmldlkofpaaaGreatDoor.A
