/- The law JournalStops holds of the given program: wherever the disk stops, and whatever it keeps, all that told no error is there, and of what did, a beginning of its records, or the snapshot. Conditions: none. -/
import Derived.Test.YtbpcofnhndgoeaaDoorV6
import Derived.Test.YtbpcofnhndgoeaaDoorJL5
import Derived.Test.YtbpcofnhndgoeaaDoorD0
namespace Go.Proofs.YtbpcofnhndgoeaaDoor.A
open Go Go.ChangeShapes Go.WideShapes Go.ChangeAt Go.RowKit
set_option maxRecDepth 100000 in
theorem journalStops_met (os : Os) : laidMetH Tryd.prog listed ((laidWorld os).forCall (fun _ _ => 0) ⟨#[], #[.slice none 0 0, .int .u8 0, .int .i64 0, .int .u8 0], []⟩).memory := laidMetH_of_parts (laidMet_nil _ _) (by kernel_rfl)
theorem journalStops_reads (os : Os) {H : Type} (enc : TypeId × Value → H) : ∃ places, DataW.whole enc Tryd.prog ((laidWorld os).forCall (fun _ _ => 0) ⟨#[], #[.slice none 0 0, .int .u8 0, .int .i64 0, .int .u8 0], []⟩).memory Tryd.f9.params.toList Rows.journalStopsSpec.vars false (#[.slice none 0 0, .int .u8 0, .int .i64 0, .int .u8 0] : Array Value).toList 8 = some ([.nil, .lit (.int .u8 0), .lit (.int .i64 0), .lit (.int .u8 0)], [], places) := ⟨[], by kernel_rfl⟩
set_option maxRecDepth 100000 in
theorem journalStops_lifted (os : Os) (started : os.Started) (H : Type) (enc : TypeId × Value → H) (F : Stop.Interp) :
    ReturnsInHanded {} Tryd.checked os 9 .any ((OpenSpec.ofChange Rows.journalStopsSpec).preRow enc Tryd.prog Tryd.f9 Rows.journalStopsRow.domain false Rows.journalStopsRow.laid) (((OpenSpec.ofChange Rows.journalStopsSpec).at F).post enc Tryd.prog Tryd.f9 false true false false) := by
  obtain ⟨places, hx⟩ := journalStops_reads os enc
  refine returnsInHanded_of_row (C := Tryd.checked) (s := (OpenSpec.ofChange Rows.journalStopsSpec)) own started (by kernel_rfl) Tryd.func9
    (witness_row_at (enc := enc) (C := Tryd.checked) false (laidWorld os) #[.slice none 0 0, .int .u8 0, .int .i64 0, .int .u8 0] rfl (by kernel_rfl) (by kernel_rfl) (by kernel_rfl)
      (OpenSpec.preRow_of_cond 8 hx (by kernel_rfl) (fun k hk => by cases hk) (by kernel_rfl) (journalStops_met os))) ?_
  intro W base args ds gs before hval0 hW _ hcond hsz0 hL _ _
  have hsz : (DataW.weightsEach Tryd.prog (Tryd.f9.params.toList ++ Rows.journalStopsSpec.plain.varTypes Tryd.prog) (ds ++ gs)).all (· ≤ reachBytes) = true := hsz0
  have hval : ∀ (j : Nat) t v, Tryd.f9.params[j]? = some t → args[j]? = some v → Value.okWide Tryd.prog W .any base t v := hval0
  have hW' := hW
  obtain ⟨p, q, hA0, hV, rfl, hfz, hnd⟩ := hW
  have hA : DataW.TrodAll enc Tryd.prog W 0 (fun _ => true) true Tryd.f9.params.toList args.toList ds p := hA0
  rw [Tryd.params9] at hA hval hsz
  obtain ⟨v0, vs0, d0, ds0, p0, q0, hargs, rfl, rfl, h0, r0⟩ := trodAll_cons hA
  obtain ⟨v1, vs1, d1, ds1, p1, q1, rfl, rfl, rfl, h1, r1⟩ := trodAll_cons r0
  obtain ⟨v2, vs2, d2, ds2, p2, q2, rfl, rfl, rfl, h2, r2⟩ := trodAll_cons r1
  obtain ⟨v3, vs3, d3, ds3, p3, q3, rfl, rfl, rfl, h3, r3⟩ := trodAll_cons r2
  obtain ⟨rfl, rfl, rfl⟩ := trodAll_nil r3
  obtain rfl : args = #[v0, v1, v2, v3] := by cases args; simp_all
  obtain ⟨rfl, rfl⟩ := trodVars_none hV
  have wt0 : ∀ m ∈ d0.weights Tryd.prog 62, m ≤ reachBytes := fun m hm => by simpa using List.all_eq_true.1 hsz m (DataW.weights_mem_each (j := 0) (t := 62) rfl rfl m hm)
  obtain ⟨a0, e0, g0⟩ := acts_in (hval 0 62 v0 rfl rfl) h0
  have wt1 : ∀ m ∈ d1.weights Tryd.prog 5, m ≤ reachBytes := fun m hm => by simpa using List.all_eq_true.1 hsz m (DataW.weights_mem_each (j := 1) (t := 5) rfl rfl m hm)
  obtain ⟨a1, hv1, _, _, hw1⟩ := open_int Tryd.underlying5 (hval 1 5 v1 rfl rfl) h1
  have e1 : V tab (cx0 W) (.int .u8 a1) v1 := by rw [hv1]; exact .int _ _
  have u1 := wf_u8 hw1
  have wt2 : ∀ m ∈ d2.weights Tryd.prog 3, m ≤ reachBytes := fun m hm => by simpa using List.all_eq_true.1 hsz m (DataW.weights_mem_each (j := 2) (t := 3) rfl rfl m hm)
  obtain ⟨a2, hv2, _, _, hw2⟩ := open_int Tryd.underlying3 (hval 2 3 v2 rfl rfl) h2
  have e2 : V tab (cx0 W) (.int .i64 a2) v2 := by rw [hv2]; exact .int _ _
  have u2 := wf_i64 hw2
  have wt3 : ∀ m ∈ d3.weights Tryd.prog 5, m ≤ reachBytes := fun m hm => by simpa using List.all_eq_true.1 hsz m (DataW.weights_mem_each (j := 3) (t := 5) rfl rfl m hm)
  obtain ⟨a3, hv3, _, _, hw3⟩ := open_int Tryd.underlying5 (hval 3 5 v3 rfl rfl) h3
  have e3 : V tab (cx0 W) (.int .u8 a3) v3 := by rw [hv3]; exact .int _ _
  have u3 := wf_u8 hw3
  refine (law_calls stops_ok (gl_of hL) (args := [.sl .fz 64 (a0.map actA), .int .u8 a1, .int .i64 a2, .int .u8 a3]) (vs := [v0, v1, v2, v3]) ⟨rfl, a0, a1, a2, a3, rfl, ⟨u1.1, by omega⟩, ⟨u3.1, by omega⟩, g0, rfl⟩ (VL.cons e0 (VL.cons e1 (VL.cons e2 (VL.cons e3 VL.nil))))).mono fun e W' ⟨he, bel⟩ => ?_
  subst he
  exact ⟨_, rfl, _, _, _, [], _, [], hW', trodAll_mk1 (shut_bool Tryd.underlying4 _), (trodAll_cons_mk (Below.trod laidOut (by kernel_rfl) (of_decide_eq_true (by kernel_rfl)) h0 bel (trod_lt' h0)) (trodAll_cons_mk (Below.trod laidOut (by kernel_rfl) (of_decide_eq_true (by kernel_rfl)) h1 bel (trod_lt' h1)) (trodAll_cons_mk (Below.trod laidOut (by kernel_rfl) (of_decide_eq_true (by kernel_rfl)) h2 bel (trod_lt' h2)) (trodAll_cons_mk (Below.trod laidOut (by kernel_rfl) (of_decide_eq_true (by kernel_rfl)) h3 bel (trod_lt' h3)) trodAll_mk0)))), rfl, bel.frame _, fun h => by cases h⟩
theorem journalStops_said : Rows.JournalStopsSaid :=
  OpenClaim.holds_of_cond 9 Tryd.f9 rfl rfl rfl rfl rfl rfl rfl ⟨rfl, rfl, rfl, rfl, rfl⟩ rfl rfl rfl rfl rfl (by kernel_rfl) Tryd.func9 (by kernel_rfl)
    (of_decide_eq_true (by kernel_rfl)) (by unfold Func.isWrapper; first | (rw [if_pos (by decide +kernel)]; kernel_rfl) | (rw [if_neg (by decide +kernel)]; exact ⟨rfl, rfl⟩))
    (fun os started H enc _ F => by rw [OpenClaim.pre_eq_preRow]; exact journalStops_lifted os started H enc F)
theorem journalStops_plain (f : FuncId) (fn : Func) (hf : Tryd.pinned.checked.prog.funcNamed "hawala/hawalalaw06.JournalStops" = some f) (hfn : Tryd.pinned.checked.prog.funcs[f]? = some fn) :
    true = Tryd.pinned.checked.prog.looks [] ∧ ∀ (j : Nat) t, fn.params[j]? = some t → Tryd.pinned.checked.prog.wantsStandIn t = false := by
  obtain rfl : f = 9 := Option.some.inj ((show Tryd.prog.funcNamed "hawala/hawalalaw06.JournalStops" = some 9 by kernel_rfl).symm.trans hf) |>.symm
  obtain rfl : fn = Tryd.f9 := (Option.some.inj (Tryd.func9.symm.trans hfn)).symm
  refine ⟨by kernel_rfl, fun j t ht => ?_⟩
  rw [Tryd.params9] at ht
  have hm : t ∈ #[62, 5, 3, 5] := Array.mem_of_getElem? ht
  have hm : t = 62 ∨ t = 5 ∨ t = 3 := by first | (simpa using hm) | (simp at hm; rcases hm with h | h | h | h <;> simp [h])
  rcases hm with rfl | rfl | rfl
  · exact (show Tryd.prog.wantsStandIn 62 = false by kernel_rfl)
  · exact (show Tryd.prog.wantsStandIn 5 = false by kernel_rfl)
  · exact (show Tryd.prog.wantsStandIn 3 = false by kernel_rfl)
end Go.Proofs.YtbpcofnhndgoeaaDoor.A
namespace Go.Proofs.YtbpcofnhndgoeaaDoor
open Go
/-- The law JournalStops holds of the given program: wherever the disk stops, and whatever it keeps, all that told no error is there, and of what did, a beginning of its records, or the snapshot. Conditions: none. -/
theorem journalStops_holds : Rows.JournalStopsCardSaid :=
  Claim7.holds_tied_plain_at .later [] _ _ _ _ A.journalStops_said (fun _ h => by cases h) (by kernel_rfl) (fun _ h => by cases h) journalStops_row_tie rfl ⟨rfl, rfl⟩ (by kernel_rfl) rfl A.journalStops_plain (by kernel_rfl)
#print axioms journalStops_holds
end Go.Proofs.YtbpcofnhndgoeaaDoor
