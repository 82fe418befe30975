/- The law BankFull holds of the given program: a bank that knows 256 keys takes no new one; it has room until then. Conditions: none. -/
import Derived.Test.YtkeafcjdejmohaaDoorGV
import Derived.Test.YtkeafcjdejmohaaDoorM28
namespace Go.Proofs.YtkeafcjdejmohaaDoor.A
open Go Go.ChangeShapes Go.WideShapes Go.ChangeAt Go.RowKit
set_option maxRecDepth 100000 in
theorem bankFull_met (os : Os) : laidMetH Tryd.prog listed ((laidWorld os).forCall (fun _ _ => 0) ⟨#[], #[.int .u16 0, .agg #[.int .u8 0, .int .u8 0, .int .u8 0, .int .u8 0, .int .u16 0, .int .u8 0, .int .u8 0]], []⟩).memory := laidMetH_of_parts (laidMet_nil _ _) (by kernel_rfl)
theorem bankFull_reads (os : Os) {H : Type} (enc : TypeId × Value → H) : ∃ places, DataW.whole enc Tryd.prog ((laidWorld os).forCall (fun _ _ => 0) ⟨#[], #[.int .u16 0, .agg #[.int .u8 0, .int .u8 0, .int .u8 0, .int .u8 0, .int .u16 0, .int .u8 0, .int .u8 0]], []⟩).memory Tryd.f10.params.toList Rows.bankFullSpec.vars false (#[.int .u16 0, .agg #[.int .u8 0, .int .u8 0, .int .u8 0, .int .u8 0, .int .u16 0, .int .u8 0, .int .u8 0]] : Array Value).toList 8 = some ([.lit (.int .u16 0), .agg [.lit (.int .u8 0), .lit (.int .u8 0), .lit (.int .u8 0), .lit (.int .u8 0), .lit (.int .u16 0), .lit (.int .u8 0), .lit (.int .u8 0)]], [], places) := ⟨[], by kernel_rfl⟩
set_option maxRecDepth 100000 in
theorem bankFull_lifted (os : Os) (started : os.Started) (H : Type) (enc : TypeId × Value → H) (F : Stop.Interp) :
    ReturnsInHanded {} Tryd.checked os 10 .any ((OpenSpec.ofChange Rows.bankFullSpec).preRow enc Tryd.prog Tryd.f10 Rows.bankFullRow.domain false Rows.bankFullRow.laid) (((OpenSpec.ofChange Rows.bankFullSpec).at F).post enc Tryd.prog Tryd.f10 false true false false) := by
  obtain ⟨places, hx⟩ := bankFull_reads os enc
  refine returnsInHanded_of_row (C := Tryd.checked) (s := (OpenSpec.ofChange Rows.bankFullSpec)) own started (by kernel_rfl) Tryd.func10
    (witness_row_at (enc := enc) (C := Tryd.checked) false (laidWorld os) #[.int .u16 0, .agg #[.int .u8 0, .int .u8 0, .int .u8 0, .int .u8 0, .int .u16 0, .int .u8 0, .int .u8 0]] rfl (by kernel_rfl) (by kernel_rfl) (by kernel_rfl)
      (OpenSpec.preRow_of_cond 8 hx (by kernel_rfl) (fun k hk => by cases hk) (by kernel_rfl) (bankFull_met os))) ?_
  intro W base args ds gs before hval0 hW _ hcond hsz0 hL _ _
  have hsz : (DataW.weightsEach Tryd.prog (Tryd.f10.params.toList ++ Rows.bankFullSpec.plain.varTypes Tryd.prog) (ds ++ gs)).all (· ≤ reachBytes) = true := hsz0
  have hval : ∀ (j : Nat) t v, Tryd.f10.params[j]? = some t → args[j]? = some v → Value.okWide Tryd.prog W .any base t v := hval0
  have hW' := hW
  obtain ⟨p, q, hA0, hV, rfl, hfz, hnd⟩ := hW
  have hA : DataW.TrodAll enc Tryd.prog W 0 (fun _ => true) true Tryd.f10.params.toList args.toList ds p := hA0
  rw [Tryd.params10] at hA hval hsz
  obtain ⟨v0, vs0, d0, ds0, p0, q0, hargs, rfl, rfl, h0, r0⟩ := trodAll_cons hA
  obtain ⟨v1, vs1, d1, ds1, p1, q1, rfl, rfl, rfl, h1, r1⟩ := trodAll_cons r0
  obtain ⟨rfl, rfl, rfl⟩ := trodAll_nil r1
  obtain rfl : args = #[v0, v1] := by cases args; simp_all
  obtain ⟨rfl, rfl⟩ := trodVars_none hV
  have wt0 : ∀ m ∈ d0.weights Tryd.prog 55, m ≤ reachBytes := fun m hm => by simpa using List.all_eq_true.1 hsz m (DataW.weights_mem_each (j := 0) (t := 55) rfl rfl m hm)
  obtain ⟨a0, hv0, _, _, hw0⟩ := open_int Tryd.underlying55 (hval 0 55 v0 rfl rfl) h0
  have e0 : V tab (cx0 W) (.int .u16 a0) v0 := by rw [hv0]; exact .int _ _
  have u0 := wf_u16 hw0
  have wt1 : ∀ m ∈ d1.weights Tryd.prog 57, m ≤ reachBytes := fun m hm => by simpa using List.all_eq_true.1 hsz m (DataW.weights_mem_each (j := 1) (t := 57) rfl rfl m hm)
  obtain ⟨a1, e1, g1⟩ := askv_in (hval 1 57 v1 rfl rfl) h1
  refine (law_calls full_ok (gl_of hL) (args := [.int .u16 a0, askAV a1]) (vs := [v0, v1]) ⟨rfl, a0, a1, rfl, u0, g1, rfl⟩ (VL.cons e0 (VL.cons e1 VL.nil))).mono fun e W' ⟨he, bel⟩ => ?_
  subst he
  exact ⟨_, rfl, _, _, _, [], _, [], hW', trodAll_mk1 (shut_bool Tryd.underlying4 _), (trodAll_cons_mk (Below.trod laidOut (by kernel_rfl) (of_decide_eq_true (by kernel_rfl)) h0 bel (trod_lt' h0)) (trodAll_cons_mk (Below.trod laidOut (by kernel_rfl) (of_decide_eq_true (by kernel_rfl)) h1 bel (trod_lt' h1)) trodAll_mk0)), rfl, bel.frame _, fun h => by cases h⟩
theorem bankFull_said : Rows.BankFullSaid :=
  OpenClaim.holds_of_cond 10 Tryd.f10 rfl rfl rfl rfl rfl rfl rfl ⟨rfl, rfl, rfl, rfl, rfl⟩ rfl rfl rfl rfl rfl (by kernel_rfl) Tryd.func10 (by kernel_rfl)
    (of_decide_eq_true (by kernel_rfl)) (by unfold Func.isWrapper; first | (rw [if_pos (by decide +kernel)]; kernel_rfl) | (rw [if_neg (by decide +kernel)]; exact ⟨rfl, rfl⟩))
    (fun os started H enc _ F => by rw [OpenClaim.pre_eq_preRow]; exact bankFull_lifted os started H enc F)
theorem bankFull_plain (f : FuncId) (fn : Func) (hf : Tryd.pinned.checked.prog.funcNamed "hawala/hawalalaw16.BankFull" = some f) (hfn : Tryd.pinned.checked.prog.funcs[f]? = some fn) :
    true = Tryd.pinned.checked.prog.looks [] ∧ ∀ (j : Nat) t, fn.params[j]? = some t → Tryd.pinned.checked.prog.wantsStandIn t = false := by
  obtain rfl : f = 10 := Option.some.inj ((show Tryd.prog.funcNamed "hawala/hawalalaw16.BankFull" = some 10 by kernel_rfl).symm.trans hf) |>.symm
  obtain rfl : fn = Tryd.f10 := (Option.some.inj (Tryd.func10.symm.trans hfn)).symm
  refine ⟨by kernel_rfl, fun j t ht => ?_⟩
  rw [Tryd.params10] at ht
  have hm : t ∈ #[55, 57] := Array.mem_of_getElem? ht
  have hm : t = 55 ∨ t = 57 := by first | (simpa using hm) | (simp at hm; rcases hm with h | h <;> simp [h])
  rcases hm with rfl | rfl
  · exact (show Tryd.prog.wantsStandIn 55 = false by kernel_rfl)
  · exact (show Tryd.prog.wantsStandIn 57 = false by kernel_rfl)
end Go.Proofs.YtkeafcjdejmohaaDoor.A
namespace Go.Proofs.YtkeafcjdejmohaaDoor
open Go
/-- The law BankFull holds of the given program: a bank that knows 256 keys takes no new one; it has room until then. Conditions: none. -/
theorem bankFull_holds : Rows.BankFullCardSaid :=
  Claim7.holds_tied_plain_at .later [] _ _ _ _ A.bankFull_said (fun _ h => by cases h) (by kernel_rfl) (fun _ h => by cases h) bankFull_row_tie rfl ⟨rfl, rfl⟩ (by kernel_rfl) rfl A.bankFull_plain (by kernel_rfl)
#print axioms bankFull_holds
end Go.Proofs.YtkeafcjdejmohaaDoor
