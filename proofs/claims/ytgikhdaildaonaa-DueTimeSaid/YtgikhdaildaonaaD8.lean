/- The law DueTime holds of the given program: by a later time all payments are over that were over by an earlier one. Conditions: none. -/
import Derived.Test.YtgikhdaildaonaaD0
import Derived.Test.YtgikhdaildaonaaC6
namespace Go.Proofs.Ytgikhdaildaonaa.A
open Go P Go.ChangeShapes Go.WideShapes Go.ChangeAt Go.RowKit
set_option maxRecDepth 100000 in
theorem dueTime_lifted (os : Os) (started : os.Started) (H : Type) (enc : TypeId × Value → H) :
    ReturnsInHanded {} Try.checked os 8 .any (Rows.dueTimeSpec.pre6 enc Try.prog Try.f8 Rows.dueTimeRow.domain false) (Rows.dueTimeSpec.post enc Try.prog Try.f8 false true false false) := by
  refine returnsInHanded_of_change_sized (C := Try.checked) own started (by kernel_rfl) Try.func8
    (ChangeSpec.witness6 (enc := enc) (C := Try.checked) false ⟨#[], #[.slice none 0 0, .int .i8 0, .int .i8 0], []⟩ 8 (by kernel_rfl) (by kernel_rfl) (by kernel_rfl) (by kernel_rfl)) ?_
  intro W base args ds gs before hval0 hW hcnd hsz0 _
  have hval : ∀ (j : Nat) t v, Try.f8.params[j]? = some t → args[j]? = some v → Value.okWide Try.prog W .any base t v := hval0
  have hW' := hW
  obtain ⟨p, q, hA0, hV, rfl, hfz, hnd⟩ := hW
  have hA : DataW.TrodAll enc Try.prog W 0 (fun _ => true) true Try.f8.params.toList args.toList ds p := hA0
  rw [Try.params8] at hA hval
  obtain ⟨v0, vs0, d0, ds0, p0, q0, hargs, rfl, rfl, h0, r0⟩ := trodAll_cons hA
  obtain ⟨v1, vs1, d1, ds1, p1, q1, rfl, rfl, rfl, h1, r1⟩ := trodAll_cons r0
  obtain ⟨v2, vs2, d2, ds2, p2, q2, rfl, rfl, rfl, h2, r2⟩ := trodAll_cons r1
  obtain ⟨rfl, rfl, rfl⟩ := trodAll_nil r2
  obtain rfl : args = #[v0, v1, v2] := by cases args; simp_all
  obtain ⟨rfl, rfl⟩ := trodVars_none hV
  obtain ⟨a0, e0, g0⟩ := paids_in (hval 0 22 v0 rfl rfl) h0
  obtain ⟨a1, e1, g1⟩ := i8_in (hval 1 39 v1 rfl rfl) h1
  obtain ⟨a2, e2, g2⟩ := i8_in (hval 2 39 v2 rfl rfl) h2
  refine (law_calls dueTime_ok (args := [.sl .fz 31 (a0.map paidA), .int .i8 a1, .int .i8 a2]) (vs := [v0, v1, v2]) ⟨rfl, a0, a1, a2, rfl, g0, g1, g2, rfl⟩ (VL.cons e0 (VL.cons e1 (VL.cons e2 VL.nil)))).mono fun e W' ⟨he, bel⟩ => ?_
  subst he
  exact ⟨_, rfl, _, _, _, [], _, [], hW', trodAll_mk1 (shut_bool Try.underlying4 _), (trodAll_cons_mk (Below.trod laidOut (by kernel_rfl) (of_decide_eq_true (by kernel_rfl)) h0 bel (trod_lt' h0)) (trodAll_cons_mk (Below.trod laidOut (by kernel_rfl) (of_decide_eq_true (by kernel_rfl)) h1 bel (trod_lt' h1)) (trodAll_cons_mk (Below.trod laidOut (by kernel_rfl) (of_decide_eq_true (by kernel_rfl)) h2 bel (trod_lt' h2)) trodAll_mk0))), rfl, bel.frame _, fun h => by cases h⟩
theorem dueTime_over : Rows.dueTimeRow.holds Try.pinned (OpenSpec.ofChange Rows.dueTimeSpec) :=
  OpenClaim.holds_of_wide 8 Try.f8 rfl rfl rfl rfl rfl rfl rfl ⟨rfl, rfl, rfl, rfl, rfl⟩ rfl rfl rfl rfl rfl (by kernel_rfl) Try.func8 (by kernel_rfl)
    (of_decide_eq_true (by kernel_rfl)) (by unfold Func.isWrapper; first | (rw [if_pos (by decide +kernel)]; kernel_rfl) | (rw [if_neg (by decide +kernel)]; exact ⟨rfl, rfl⟩))
    (fun os started H enc _ => dueTime_lifted os started H enc)
end Go.Proofs.Ytgikhdaildaonaa.A
namespace Go.Proofs.Ytgikhdaildaonaa
/-- DueTime. -/
theorem dueTime_holds : Rows.DueTimeSaid := A.dueTime_over
#print axioms dueTime_holds
end Go.Proofs.Ytgikhdaildaonaa
