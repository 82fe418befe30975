/- ops: by, Do. -/
import Derived.Test.YtmlgkojmbnjfbaaDoorM6
namespace Go.Proofs.YtmlgkojmbnjfbaaDoor.A
open Go Q
def obyC (args : List AV) (bs : List Box) (K : AV → List Box → Prop) : Prop := bs = [] ∧ ∃ op : Int, args = [.int .i64 op] ∧ (op = 0 → K (.fn (.func 42) [] []) []) ∧ (op = 1 → K (.fn (.func 43) [] []) []) ∧ (op = 2 → K (.fn (.func 44) [] []) []) ∧ (op = 3 → K (.fn (.func 45) [] []) []) ∧
  (op = 4 → K (.fn (.func 46) [] []) []) ∧ (op = 5 → K (.fn (.func 47) [] []) []) ∧ (op = 6 → K (.fn (.func 48) [] []) []) ∧ (op = 7 → K (.fn (.func 49) [] []) []) ∧ ((op < 0 ∨ op ≥ 8) → K .nilfn [])
set_option maxRecDepth 200000 in
set_option maxHeartbeats 3200000 in
theorem oby_ok : FnOk Tryd.prog tab 27 obyC := by
  refine fn_ok (E := R0_E pl27) tab_is R0_ok (R0_J _) Tryd.func27 rfl rfl (by kernel_rfl) ?_
  rintro args bs K ⟨rfl, op, rfl, k0, k1, k2, k3, k4, k5, k6, k7, kn⟩
  refine ⟨rfl, ?_⟩
  by_cases hn : op < 0 ∨ op ≥ 8
  · have hend := kn hn
    refine ⟨fun h => ?_, fun h => ?_⟩
    · exact ⟨fun _ => hend, fun h => Bool.noConfusion (show true = false from h)⟩
    · refine ⟨fun _ => hend, fun h2 => ?_⟩
      have h : ¬ op < 0 := of_decide_eq_false h
      have h2 : ¬ op ≥ 8 := of_decide_eq_false h2
      omega
  · have hop : op = 0 ∨ op = 1 ∨ op = 2 ∨ op = 3 ∨ op = 4 ∨ op = 5 ∨ op = 6 ∨ op = 7 := by omega
    rcases hop with rfl | rfl | rfl | rfl | rfl | rfl | rfl | rfl
    · have hend := k0 rfl
      refine ⟨fun h => Bool.noConfusion (show false = true from h), fun _ => ?_⟩
      refine ⟨fun h => Bool.noConfusion (show false = true from h), fun _ => ?_⟩
      exact ⟨_, (by decide : (0 : Int) ≤ 0), rfl, hend⟩
    · have hend := k1 rfl
      refine ⟨fun h => Bool.noConfusion (show false = true from h), fun _ => ?_⟩
      refine ⟨fun h => Bool.noConfusion (show false = true from h), fun _ => ?_⟩
      exact ⟨_, (by decide : (0 : Int) ≤ 1), rfl, hend⟩
    · have hend := k2 rfl
      refine ⟨fun h => Bool.noConfusion (show false = true from h), fun _ => ?_⟩
      refine ⟨fun h => Bool.noConfusion (show false = true from h), fun _ => ?_⟩
      exact ⟨_, (by decide : (0 : Int) ≤ 2), rfl, hend⟩
    · have hend := k3 rfl
      refine ⟨fun h => Bool.noConfusion (show false = true from h), fun _ => ?_⟩
      refine ⟨fun h => Bool.noConfusion (show false = true from h), fun _ => ?_⟩
      exact ⟨_, (by decide : (0 : Int) ≤ 3), rfl, hend⟩
    · have hend := k4 rfl
      refine ⟨fun h => Bool.noConfusion (show false = true from h), fun _ => ?_⟩
      refine ⟨fun h => Bool.noConfusion (show false = true from h), fun _ => ?_⟩
      exact ⟨_, (by decide : (0 : Int) ≤ 4), rfl, hend⟩
    · have hend := k5 rfl
      refine ⟨fun h => Bool.noConfusion (show false = true from h), fun _ => ?_⟩
      refine ⟨fun h => Bool.noConfusion (show false = true from h), fun _ => ?_⟩
      exact ⟨_, (by decide : (0 : Int) ≤ 5), rfl, hend⟩
    · have hend := k6 rfl
      refine ⟨fun h => Bool.noConfusion (show false = true from h), fun _ => ?_⟩
      refine ⟨fun h => Bool.noConfusion (show false = true from h), fun _ => ?_⟩
      exact ⟨_, (by decide : (0 : Int) ≤ 6), rfl, hend⟩
    · have hend := k7 rfl
      refine ⟨fun h => Bool.noConfusion (show false = true from h), fun _ => ?_⟩
      refine ⟨fun h => Bool.noConfusion (show false = true from h), fun _ => ?_⟩
      exact ⟨_, (by decide : (0 : Int) ≤ 7), rfl, hend⟩
/-- A request, done at once. -/
def doM (s : Sta) (r : Req) : Sta × Rep :=
  if r.op = 0 then openM s r else if r.op = 1 then depositM s r else if r.op = 2 then transferM s r else if r.op = 3 then authM s r
  else if r.op = 4 then captureM s r else if r.op = 5 then voidM s r else if r.op = 6 then refundM s r else if r.op = 7 then chargeM s r else (s, 1, 0)
def doC (args : List AV) (bs : List Box) (K : AV → List Box → Prop) : Prop := bs = [] ∧ ∃ (s : Sta) (r : Req), args = [staA s, reqA r] ∧ SzA s ∧ K (.tup [staA (doM s r).1, repA (doM s r).2.1 (doM s r).2.2]) []
noncomputable def JDo : FuncId → Option StSpec
  | 42 => some (frzJ (ptrJ (deskC openM)))
  | 43 => some (frzJ (ptrJ (deskC depositM)))
  | 44 => some (frzJ (ptrJ (deskC transferM)))
  | 45 => some (frzJ (ptrJ (deskC authM)))
  | 46 => some (frzJ (ptrJ (deskC captureM)))
  | 47 => some (frzJ (ptrJ (deskC voidM)))
  | 48 => some (frzJ (ptrJ (deskC refundM)))
  | 49 => some (frzJ (ptrJ (deskC chargeM)))
  | _ => none
theorem JDo_ok : JOk Tryd.prog tab JDo := by
  intro f j h
  unfold JDo at h
  split at h
  · cases h; exact frz_ok (ptr_ok open_ok)
  · cases h; exact frz_ok (ptr_ok deposit_ok)
  · cases h; exact frz_ok (ptr_ok transfer_ok)
  · cases h; exact frz_ok (ptr_ok auth_ok)
  · cases h; exact frz_ok (ptr_ok capture_ok)
  · cases h; exact frz_ok (ptr_ok void_ok)
  · cases h; exact frz_ok (ptr_ok refund_ok)
  · cases h; exact frz_ok (ptr_ok charge_ok)
  · cases h
def RDo : Contract
  | 27 => obyC
  | _ => fun _ _ _ => False
theorem RDo_ok : CallOk Tryd.prog tab RDo := by
  intro f args bs K h
  unfold RDo at h
  split at h
  · exact ⟨_, h, oby_ok⟩
  · exact h.elim
def RDo_E (pl : Nat → Plan) : En := ⟨tab, RDo, fun _ => none, 0, pl⟩
theorem RDo_J (pl : Nat → Plan) : JOk Tryd.prog (RDo_E pl).T (RDo_E pl).J := fun _ _ h => by cases h
noncomputable def EDo_E (pl : Nat → Plan) : En := ⟨tab, RDo, JDo, 0, pl⟩
set_option maxRecDepth 200000 in
set_option maxHeartbeats 6400000 in
theorem do_ok : FnOk Tryd.prog tab 10 doC := by
  refine fn_ok (E := EDo_E pl10) tab_is RDo_ok JDo_ok Tryd.func10 rfl rfl (by kernel_rfl) ?_
  rintro args bs K ⟨rfl, s, r, rfl, hz, hK⟩
  refine ⟨rfl, ?_⟩
  refine ⟨rfl, r.op, rfl, ?_, ?_, ?_, ?_, ?_, ?_, ?_, ?_, ?_⟩
  · intro ho
    have st : doM s r = openM s r := by unfold doM; simp [ho]
    rw [st] at hK
    refine ⟨fun h => Bool.noConfusion (show false = true from h), fun _ => ?_⟩
    refine ⟨18, 81, deskL s, _, rfl, rfl, rfl, rfl, s, r, rfl, rfl, hz, ⟨deskL (openM s r).1, rfl, rfl, rfl, ?_⟩⟩
    repeat' first
      | exact hK
      | (refine And.intro ?_ ?_)
      | fail
  · intro ho
    have st : doM s r = depositM s r := by unfold doM; simp [ho]
    rw [st] at hK
    refine ⟨fun h => Bool.noConfusion (show false = true from h), fun _ => ?_⟩
    refine ⟨18, 81, deskL s, _, rfl, rfl, rfl, rfl, s, r, rfl, rfl, hz, ⟨deskL (depositM s r).1, rfl, rfl, rfl, ?_⟩⟩
    repeat' first
      | exact hK
      | (refine And.intro ?_ ?_)
      | fail
  · intro ho
    have st : doM s r = transferM s r := by unfold doM; simp [ho]
    rw [st] at hK
    refine ⟨fun h => Bool.noConfusion (show false = true from h), fun _ => ?_⟩
    refine ⟨18, 81, deskL s, _, rfl, rfl, rfl, rfl, s, r, rfl, rfl, hz, ⟨deskL (transferM s r).1, rfl, rfl, rfl, ?_⟩⟩
    repeat' first
      | exact hK
      | (refine And.intro ?_ ?_)
      | fail
  · intro ho
    have st : doM s r = authM s r := by unfold doM; simp [ho]
    rw [st] at hK
    refine ⟨fun h => Bool.noConfusion (show false = true from h), fun _ => ?_⟩
    refine ⟨18, 81, deskL s, _, rfl, rfl, rfl, rfl, s, r, rfl, rfl, hz, ⟨deskL (authM s r).1, rfl, rfl, rfl, ?_⟩⟩
    repeat' first
      | exact hK
      | (refine And.intro ?_ ?_)
      | fail
  · intro ho
    have st : doM s r = captureM s r := by unfold doM; simp [ho]
    rw [st] at hK
    refine ⟨fun h => Bool.noConfusion (show false = true from h), fun _ => ?_⟩
    refine ⟨18, 81, deskL s, _, rfl, rfl, rfl, rfl, s, r, rfl, rfl, hz, ⟨deskL (captureM s r).1, rfl, rfl, rfl, ?_⟩⟩
    repeat' first
      | exact hK
      | (refine And.intro ?_ ?_)
      | fail
  · intro ho
    have st : doM s r = voidM s r := by unfold doM; simp [ho]
    rw [st] at hK
    refine ⟨fun h => Bool.noConfusion (show false = true from h), fun _ => ?_⟩
    refine ⟨18, 81, deskL s, _, rfl, rfl, rfl, rfl, s, r, rfl, rfl, hz, ⟨deskL (voidM s r).1, rfl, rfl, rfl, ?_⟩⟩
    repeat' first
      | exact hK
      | (refine And.intro ?_ ?_)
      | fail
  · intro ho
    have st : doM s r = refundM s r := by unfold doM; simp [ho]
    rw [st] at hK
    refine ⟨fun h => Bool.noConfusion (show false = true from h), fun _ => ?_⟩
    refine ⟨18, 81, deskL s, _, rfl, rfl, rfl, rfl, s, r, rfl, rfl, hz, ⟨deskL (refundM s r).1, rfl, rfl, rfl, ?_⟩⟩
    repeat' first
      | exact hK
      | (refine And.intro ?_ ?_)
      | fail
  · intro ho
    have st : doM s r = chargeM s r := by unfold doM; simp [ho]
    rw [st] at hK
    refine ⟨fun h => Bool.noConfusion (show false = true from h), fun _ => ?_⟩
    refine ⟨18, 81, deskL s, _, rfl, rfl, rfl, rfl, s, r, rfl, rfl, hz, ⟨deskL (chargeM s r).1, rfl, rfl, rfl, ?_⟩⟩
    repeat' first
      | exact hK
      | (refine And.intro ?_ ?_)
      | fail
  · intro ho
    have st : doM s r = (s, 1, 0) := by
      unfold doM
      rw [if_neg (by omega), if_neg (by omega), if_neg (by omega), if_neg (by omega), if_neg (by omega), if_neg (by omega), if_neg (by omega), if_neg (by omega)]
    rw [st] at hK
    exact ⟨fun _ => hK, fun h => Bool.noConfusion (show true = false from h)⟩
end Go.Proofs.YtmlgkojmbnjfbaaDoor.A
