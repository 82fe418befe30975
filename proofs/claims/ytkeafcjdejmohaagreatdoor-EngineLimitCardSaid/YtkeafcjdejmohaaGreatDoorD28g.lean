/- The law EngineLimit holds of the given program: there are sixteen sagas at most at one time; who comes too late may ask again. Conditions: none. -/
import Derived.Test.YtkeafcjdejmohaaGreatDoorV3
import Derived.Test.YtkeafcjdejmohaaGreatDoorM37
import Derived.Test.YtkeafcjdejmohaaGreatDoorGV
namespace Go.Proofs.YtkeafcjdejmohaaGreatDoor.A
open Go Go.ChangeShapes Go.WideShapes Go.ChangeAt Go.RowKit
set_option maxRecDepth 100000 in
theorem engineLimit_met (os : Os) : laidMetH Tryz.prog listed ((laidWorld os).forCall (fun _ _ => 0) ⟨#[], #[.int .u8 0, .int .u8 0], []⟩).memory := laidMetH_of_parts (laidMet_nil _ _) (by kernel_rfl)
theorem engineLimit_reads (os : Os) {H : Type} (enc : TypeId × Value → H) : ∃ places, DataW.whole enc Tryz.prog ((laidWorld os).forCall (fun _ _ => 0) ⟨#[], #[.int .u8 0, .int .u8 0], []⟩).memory Tryz.f5.params.toList Rows.engineLimitSpec.vars false (#[.int .u8 0, .int .u8 0] : Array Value).toList 8 = some ([.lit (.int .u8 0), .lit (.int .u8 0)], [], places) := ⟨[], by kernel_rfl⟩
set_option maxRecDepth 100000 in
theorem engineLimit_lifted (os : Os) (started : os.Started) (H : Type) (enc : TypeId × Value → H) (F : Stop.Interp) :
    ReturnsInHanded {} Tryz.checked os 5 .any ((OpenSpec.ofChange Rows.engineLimitSpec).preRow enc Tryz.prog Tryz.f5 Rows.engineLimitRow.domain false Rows.engineLimitRow.laid) (((OpenSpec.ofChange Rows.engineLimitSpec).at F).post enc Tryz.prog Tryz.f5 false true false false) := by
  obtain ⟨places, hx⟩ := engineLimit_reads os enc
  refine returnsInHanded_of_row (C := Tryz.checked) (s := (OpenSpec.ofChange Rows.engineLimitSpec)) own started (by kernel_rfl) Tryz.func5
    (witness_row_at (enc := enc) (C := Tryz.checked) false (laidWorld os) #[.int .u8 0, .int .u8 0] rfl (by kernel_rfl) (by kernel_rfl) (by kernel_rfl)
      (OpenSpec.preRow_of_cond 8 hx (by kernel_rfl) (fun k hk => by cases hk) (by kernel_rfl) (engineLimit_met os))) ?_
  intro W base args ds gs before hval0 hW _ hcond hsz0 hL _ _
  have hsz : (DataW.weightsEach Tryz.prog (Tryz.f5.params.toList ++ Rows.engineLimitSpec.plain.varTypes Tryz.prog) (ds ++ gs)).all (· ≤ reachBytes) = true := hsz0
  have hval : ∀ (j : Nat) t v, Tryz.f5.params[j]? = some t → args[j]? = some v → Value.okWide Tryz.prog W .any base t v := hval0
  have hW' := hW
  obtain ⟨p, q, hA0, hV, rfl, hfz, hnd⟩ := hW
  have hA : DataW.TrodAll enc Tryz.prog W 0 (fun _ => true) true Tryz.f5.params.toList args.toList ds p := hA0
  rw [Tryz.params5] at hA hval hsz
  obtain ⟨v0, vs0, d0, ds0, p0, q0, hargs, rfl, rfl, h0, r0⟩ := trodAll_cons hA
  obtain ⟨v1, vs1, d1, ds1, p1, q1, rfl, rfl, rfl, h1, r1⟩ := trodAll_cons r0
  obtain ⟨rfl, rfl, rfl⟩ := trodAll_nil r1
  obtain rfl : args = #[v0, v1] := by cases args; simp_all
  obtain ⟨rfl, rfl⟩ := trodVars_none hV
  have wt0 : ∀ m ∈ d0.weights Tryz.prog 5, m ≤ reachBytes := fun m hm => by simpa using List.all_eq_true.1 hsz m (DataW.weights_mem_each (j := 0) (t := 5) rfl rfl m hm)
  obtain ⟨a0, hv0, _, _, hw0⟩ := open_int Tryz.underlying5 (hval 0 5 v0 rfl rfl) h0
  have e0 : V tab (cx0 W) (.int .u8 a0) v0 := by rw [hv0]; exact .int _ _
  have u0 := wf_u8 hw0
  have wt1 : ∀ m ∈ d1.weights Tryz.prog 5, m ≤ reachBytes := fun m hm => by simpa using List.all_eq_true.1 hsz m (DataW.weights_mem_each (j := 1) (t := 5) rfl rfl m hm)
  obtain ⟨a1, hv1, _, _, hw1⟩ := open_int Tryz.underlying5 (hval 1 5 v1 rfl rfl) h1
  have e1 : V tab (cx0 W) (.int .u8 a1) v1 := by rw [hv1]; exact .int _ _
  have u1 := wf_u8 hw1
  refine (law_calls elim_ok (gl_of hL) (args := [.int .u8 a0, .int .u8 a1]) (vs := [v0, v1]) ⟨rfl, a0, a1, rfl, u0, u1, rfl⟩ (VL.cons e0 (VL.cons e1 VL.nil))).mono fun e W' ⟨he, bel⟩ => ?_
  subst he
  exact ⟨_, rfl, _, _, _, [], _, [], hW', trodAll_mk1 (shut_bool Tryz.underlying4 _), (trodAll_cons_mk (Below.trod laidOut (by kernel_rfl) (of_decide_eq_true (by kernel_rfl)) h0 bel (trod_lt' h0)) (trodAll_cons_mk (Below.trod laidOut (by kernel_rfl) (of_decide_eq_true (by kernel_rfl)) h1 bel (trod_lt' h1)) trodAll_mk0)), rfl, bel.frame _, fun h => by cases h⟩
theorem engineLimit_said : Rows.EngineLimitSaid :=
  OpenClaim.holds_of_cond 5 Tryz.f5 rfl rfl rfl rfl rfl rfl rfl ⟨rfl, rfl, rfl, rfl, rfl⟩ rfl rfl rfl rfl rfl (by kernel_rfl) Tryz.func5 (by kernel_rfl)
    (of_decide_eq_true (by kernel_rfl)) (by unfold Func.isWrapper; first | (rw [if_pos (by decide +kernel)]; kernel_rfl) | (rw [if_neg (by decide +kernel)]; exact ⟨rfl, rfl⟩))
    (fun os started H enc _ F => by rw [OpenClaim.pre_eq_preRow]; exact engineLimit_lifted os started H enc F)
theorem engineLimit_plain (f : FuncId) (fn : Func) (hf : Tryz.pinned.checked.prog.funcNamed "hawala/hawalalaw17.EngineLimit" = some f) (hfn : Tryz.pinned.checked.prog.funcs[f]? = some fn) :
    true = Tryz.pinned.checked.prog.looks [] ∧ ∀ (j : Nat) t, fn.params[j]? = some t → Tryz.pinned.checked.prog.wantsStandIn t = false := by
  obtain rfl : f = 5 := Option.some.inj ((show Tryz.prog.funcNamed "hawala/hawalalaw17.EngineLimit" = some 5 by kernel_rfl).symm.trans hf) |>.symm
  obtain rfl : fn = Tryz.f5 := (Option.some.inj (Tryz.func5.symm.trans hfn)).symm
  refine ⟨by kernel_rfl, fun j t ht => ?_⟩
  rw [Tryz.params5] at ht
  have hm : t ∈ #[5, 5] := Array.mem_of_getElem? ht
  have hm : t = 5 := by first | (simpa using hm) | (simp at hm; rcases hm with h | h <;> simp [h])
  rcases hm with rfl
  · exact (show Tryz.prog.wantsStandIn 5 = false by kernel_rfl)
end Go.Proofs.YtkeafcjdejmohaaGreatDoor.A
namespace Go.Proofs.YtkeafcjdejmohaaGreatDoor
open Go
/-- The law EngineLimit holds of the given program: there are sixteen sagas at most at one time; who comes too late may ask again. Conditions: none. -/
theorem engineLimit_holds : Rows.EngineLimitCardSaid :=
  Claim7.holds_tied_plain_at .later [] _ _ _ _ A.engineLimit_said (fun _ h => by cases h) (by kernel_rfl) (fun _ h => by cases h) engineLimit_row_tie rfl ⟨rfl, rfl⟩ (by kernel_rfl) rfl A.engineLimit_plain (by kernel_rfl)
#print axioms engineLimit_holds
end Go.Proofs.YtkeafcjdejmohaaGreatDoor
