/- The law JournalForm holds of the given program: a snapshot that is none is told; one that is has its turn, and its base. Conditions: none. -/
import Derived.Test.YtbpcofnhndgoeaaDoorV5
import Derived.Test.YtbpcofnhndgoeaaDoorJL3
import Derived.Test.YtbpcofnhndgoeaaDoorD0
namespace Go.Proofs.YtbpcofnhndgoeaaDoor.A
open Go Go.ChangeShapes Go.WideShapes Go.ChangeAt Go.RowKit
set_option maxRecDepth 100000 in
theorem journalForm_met (os : Os) : laidMetH Tryd.prog listed ((laidWorld os).forCall (fun _ _ => 0) ⟨#[], #[.slice none 0 0, .int .i64 0, .slice none 0 0, .bool false], []⟩).memory := laidMetH_of_parts (laidMet_nil _ _) (by kernel_rfl)
theorem journalForm_reads (os : Os) {H : Type} (enc : TypeId × Value → H) : ∃ places, DataW.whole enc Tryd.prog ((laidWorld os).forCall (fun _ _ => 0) ⟨#[], #[.slice none 0 0, .int .i64 0, .slice none 0 0, .bool false], []⟩).memory Tryd.f6.params.toList Rows.journalFormSpec.vars false (#[.slice none 0 0, .int .i64 0, .slice none 0 0, .bool false] : Array Value).toList 8 = some ([.nil, .lit (.int .i64 0), .nil, .lit (.bool false)], [], places) := ⟨[], by kernel_rfl⟩
set_option maxRecDepth 100000 in
theorem journalForm_lifted (os : Os) (started : os.Started) (H : Type) (enc : TypeId × Value → H) (F : Stop.Interp) :
    ReturnsInHanded {} Tryd.checked os 6 .any ((OpenSpec.ofChange Rows.journalFormSpec).preRow enc Tryd.prog Tryd.f6 Rows.journalFormRow.domain false Rows.journalFormRow.laid) (((OpenSpec.ofChange Rows.journalFormSpec).at F).post enc Tryd.prog Tryd.f6 false true false false) := by
  obtain ⟨places, hx⟩ := journalForm_reads os enc
  refine returnsInHanded_of_row (C := Tryd.checked) (s := (OpenSpec.ofChange Rows.journalFormSpec)) own started (by kernel_rfl) Tryd.func6
    (witness_row_at (enc := enc) (C := Tryd.checked) false (laidWorld os) #[.slice none 0 0, .int .i64 0, .slice none 0 0, .bool false] rfl (by kernel_rfl) (by kernel_rfl) (by kernel_rfl)
      (OpenSpec.preRow_of_cond 8 hx (by kernel_rfl) (fun k hk => by cases hk) (by kernel_rfl) (journalForm_met os))) ?_
  intro W base args ds gs before hval0 hW _ hcond hsz0 hL _ _
  have hsz : (DataW.weightsEach Tryd.prog (Tryd.f6.params.toList ++ Rows.journalFormSpec.plain.varTypes Tryd.prog) (ds ++ gs)).all (· ≤ reachBytes) = true := hsz0
  have hval : ∀ (j : Nat) t v, Tryd.f6.params[j]? = some t → args[j]? = some v → Value.okWide Tryd.prog W .any base t v := hval0
  have hW' := hW
  obtain ⟨p, q, hA0, hV, rfl, hfz, hnd⟩ := hW
  have hA : DataW.TrodAll enc Tryd.prog W 0 (fun _ => true) true Tryd.f6.params.toList args.toList ds p := hA0
  rw [Tryd.params6] at hA hval hsz
  obtain ⟨v0, vs0, d0, ds0, p0, q0, hargs, rfl, rfl, h0, r0⟩ := trodAll_cons hA
  obtain ⟨v1, vs1, d1, ds1, p1, q1, rfl, rfl, rfl, h1, r1⟩ := trodAll_cons r0
  obtain ⟨v2, vs2, d2, ds2, p2, q2, rfl, rfl, rfl, h2, r2⟩ := trodAll_cons r1
  obtain ⟨v3, vs3, d3, ds3, p3, q3, rfl, rfl, rfl, h3, r3⟩ := trodAll_cons r2
  obtain ⟨rfl, rfl, rfl⟩ := trodAll_nil r3
  obtain rfl : args = #[v0, v1, v2, v3] := by cases args; simp_all
  obtain ⟨rfl, rfl⟩ := trodVars_none hV
  have wt0 : ∀ m ∈ d0.weights Tryd.prog 22, m ≤ reachBytes := fun m hm => by simpa using List.all_eq_true.1 hsz m (DataW.weights_mem_each (j := 0) (t := 22) rfl rfl m hm)
  obtain ⟨a0, e0, g0, z0⟩ := bytes_in (hval 0 22 v0 rfl rfl) h0
  have wt1 : ∀ m ∈ d1.weights Tryd.prog 3, m ≤ reachBytes := fun m hm => by simpa using List.all_eq_true.1 hsz m (DataW.weights_mem_each (j := 1) (t := 3) rfl rfl m hm)
  obtain ⟨a1, hv1, _, _, hw1⟩ := open_int Tryd.underlying3 (hval 1 3 v1 rfl rfl) h1
  have e1 : V tab (cx0 W) (.int .i64 a1) v1 := by rw [hv1]; exact .int _ _
  have u1 := wf_i64 hw1
  have wt2 : ∀ m ∈ d2.weights Tryd.prog 22, m ≤ reachBytes := fun m hm => by simpa using List.all_eq_true.1 hsz m (DataW.weights_mem_each (j := 2) (t := 22) rfl rfl m hm)
  obtain ⟨a2, e2, g2, z2⟩ := bytes_in (hval 2 22 v2 rfl rfl) h2
  have wt3 : ∀ m ∈ d3.weights Tryd.prog 4, m ≤ reachBytes := fun m hm => by simpa using List.all_eq_true.1 hsz m (DataW.weights_mem_each (j := 3) (t := 4) rfl rfl m hm)
  obtain ⟨a3, hv3, _, _⟩ := open_bool Tryd.underlying4 (hval 3 4 v3 rfl rfl) h3
  have e3 : V tab (cx0 W) (.bool a3) v3 := by rw [hv3]; exact .bool _
  refine (law_calls form_ok (gl_of hL) (args := [by8 a0, .int .i64 a1, by8 a2, .bool a3]) (vs := [v0, v1, v2, v3]) ⟨rfl, a0, a1, a2, a3, rfl, (fun p hp => by have := g0 p hp; exact ⟨this.1, by have := this.2; omega⟩), u1, (fun p hp => by have := g2 p hp; exact ⟨this.1, by have := this.2; omega⟩), rfl⟩ (VL.cons e0 (VL.cons e1 (VL.cons e2 (VL.cons e3 VL.nil))))).mono fun e W' ⟨he, bel⟩ => ?_
  subst he
  exact ⟨_, rfl, _, _, _, [], _, [], hW', trodAll_mk1 (shut_bool Tryd.underlying4 _), (trodAll_cons_mk (Below.trod laidOut (by kernel_rfl) (of_decide_eq_true (by kernel_rfl)) h0 bel (trod_lt' h0)) (trodAll_cons_mk (Below.trod laidOut (by kernel_rfl) (of_decide_eq_true (by kernel_rfl)) h1 bel (trod_lt' h1)) (trodAll_cons_mk (Below.trod laidOut (by kernel_rfl) (of_decide_eq_true (by kernel_rfl)) h2 bel (trod_lt' h2)) (trodAll_cons_mk (Below.trod laidOut (by kernel_rfl) (of_decide_eq_true (by kernel_rfl)) h3 bel (trod_lt' h3)) trodAll_mk0)))), rfl, bel.frame _, fun h => by cases h⟩
theorem journalForm_said : Rows.JournalFormSaid :=
  OpenClaim.holds_of_cond 6 Tryd.f6 rfl rfl rfl rfl rfl rfl rfl ⟨rfl, rfl, rfl, rfl, rfl⟩ rfl rfl rfl rfl rfl (by kernel_rfl) Tryd.func6 (by kernel_rfl)
    (of_decide_eq_true (by kernel_rfl)) (by unfold Func.isWrapper; first | (rw [if_pos (by decide +kernel)]; kernel_rfl) | (rw [if_neg (by decide +kernel)]; exact ⟨rfl, rfl⟩))
    (fun os started H enc _ F => by rw [OpenClaim.pre_eq_preRow]; exact journalForm_lifted os started H enc F)
theorem journalForm_plain (f : FuncId) (fn : Func) (hf : Tryd.pinned.checked.prog.funcNamed "hawala/hawalalaw06.JournalForm" = some f) (hfn : Tryd.pinned.checked.prog.funcs[f]? = some fn) :
    true = Tryd.pinned.checked.prog.looks [] ∧ ∀ (j : Nat) t, fn.params[j]? = some t → Tryd.pinned.checked.prog.wantsStandIn t = false := by
  obtain rfl : f = 6 := Option.some.inj ((show Tryd.prog.funcNamed "hawala/hawalalaw06.JournalForm" = some 6 by kernel_rfl).symm.trans hf) |>.symm
  obtain rfl : fn = Tryd.f6 := (Option.some.inj (Tryd.func6.symm.trans hfn)).symm
  refine ⟨by kernel_rfl, fun j t ht => ?_⟩
  rw [Tryd.params6] at ht
  have hm : t ∈ #[22, 3, 22, 4] := Array.mem_of_getElem? ht
  have hm : t = 22 ∨ t = 3 ∨ t = 4 := by first | (simpa using hm) | (simp at hm; rcases hm with h | h | h | h <;> simp [h])
  rcases hm with rfl | rfl | rfl
  · exact (show Tryd.prog.wantsStandIn 22 = false by kernel_rfl)
  · exact (show Tryd.prog.wantsStandIn 3 = false by kernel_rfl)
  · exact (show Tryd.prog.wantsStandIn 4 = false by kernel_rfl)
end Go.Proofs.YtbpcofnhndgoeaaDoor.A
namespace Go.Proofs.YtbpcofnhndgoeaaDoor
open Go
/-- The law JournalForm holds of the given program: a snapshot that is none is told; one that is has its turn, and its base. Conditions: none. -/
theorem journalForm_holds : Rows.JournalFormCardSaid :=
  Claim7.holds_tied_plain_at .later [] _ _ _ _ A.journalForm_said (fun _ h => by cases h) (by kernel_rfl) (fun _ h => by cases h) journalForm_row_tie rfl ⟨rfl, rfl⟩ (by kernel_rfl) rfl A.journalForm_plain (by kernel_rfl)
#print axioms journalForm_holds
end Go.Proofs.YtbpcofnhndgoeaaDoor
