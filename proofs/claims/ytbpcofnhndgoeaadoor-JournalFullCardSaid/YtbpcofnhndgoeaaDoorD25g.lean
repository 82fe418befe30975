/- The law JournalFull holds of the given program: without room nothing is laid, and nothing is lost. Conditions: none. -/
import Derived.Test.YtbpcofnhndgoeaaDoorV5
import Derived.Test.YtbpcofnhndgoeaaDoorJL6
import Derived.Test.YtbpcofnhndgoeaaDoorD0
namespace Go.Proofs.YtbpcofnhndgoeaaDoor.A
open Go Go.ChangeShapes Go.WideShapes Go.ChangeAt Go.RowKit
set_option maxRecDepth 100000 in
theorem journalFull_met (os : Os) : laidMetH Tryd.prog listed ((laidWorld os).forCall (fun _ _ => 0) ⟨#[], #[.int .u8 0, .slice none 0 0, .slice none 0 0], []⟩).memory := laidMetH_of_parts (laidMet_nil _ _) (by kernel_rfl)
theorem journalFull_reads (os : Os) {H : Type} (enc : TypeId × Value → H) : ∃ places, DataW.whole enc Tryd.prog ((laidWorld os).forCall (fun _ _ => 0) ⟨#[], #[.int .u8 0, .slice none 0 0, .slice none 0 0], []⟩).memory Tryd.f7.params.toList Rows.journalFullSpec.vars false (#[.int .u8 0, .slice none 0 0, .slice none 0 0] : Array Value).toList 8 = some ([.lit (.int .u8 0), .nil, .nil], [], places) := ⟨[], by kernel_rfl⟩
set_option maxRecDepth 100000 in
theorem journalFull_lifted (os : Os) (started : os.Started) (H : Type) (enc : TypeId × Value → H) (F : Stop.Interp) :
    ReturnsInHanded {} Tryd.checked os 7 .any ((OpenSpec.ofChange Rows.journalFullSpec).preRow enc Tryd.prog Tryd.f7 Rows.journalFullRow.domain false Rows.journalFullRow.laid) (((OpenSpec.ofChange Rows.journalFullSpec).at F).post enc Tryd.prog Tryd.f7 false true false false) := by
  obtain ⟨places, hx⟩ := journalFull_reads os enc
  refine returnsInHanded_of_row (C := Tryd.checked) (s := (OpenSpec.ofChange Rows.journalFullSpec)) own started (by kernel_rfl) Tryd.func7
    (witness_row_at (enc := enc) (C := Tryd.checked) false (laidWorld os) #[.int .u8 0, .slice none 0 0, .slice none 0 0] rfl (by kernel_rfl) (by kernel_rfl) (by kernel_rfl)
      (OpenSpec.preRow_of_cond 8 hx (by kernel_rfl) (fun k hk => by cases hk) (by kernel_rfl) (journalFull_met os))) ?_
  intro W base args ds gs before hval0 hW _ hcond hsz0 hL _ _
  have hsz : (DataW.weightsEach Tryd.prog (Tryd.f7.params.toList ++ Rows.journalFullSpec.plain.varTypes Tryd.prog) (ds ++ gs)).all (· ≤ reachBytes) = true := hsz0
  have hval : ∀ (j : Nat) t v, Tryd.f7.params[j]? = some t → args[j]? = some v → Value.okWide Tryd.prog W .any base t v := hval0
  have hW' := hW
  obtain ⟨p, q, hA0, hV, rfl, hfz, hnd⟩ := hW
  have hA : DataW.TrodAll enc Tryd.prog W 0 (fun _ => true) true Tryd.f7.params.toList args.toList ds p := hA0
  rw [Tryd.params7] at hA hval hsz
  obtain ⟨v0, vs0, d0, ds0, p0, q0, hargs, rfl, rfl, h0, r0⟩ := trodAll_cons hA
  obtain ⟨v1, vs1, d1, ds1, p1, q1, rfl, rfl, rfl, h1, r1⟩ := trodAll_cons r0
  obtain ⟨v2, vs2, d2, ds2, p2, q2, rfl, rfl, rfl, h2, r2⟩ := trodAll_cons r1
  obtain ⟨rfl, rfl, rfl⟩ := trodAll_nil r2
  obtain rfl : args = #[v0, v1, v2] := by cases args; simp_all
  obtain ⟨rfl, rfl⟩ := trodVars_none hV
  have wt0 : ∀ m ∈ d0.weights Tryd.prog 5, m ≤ reachBytes := fun m hm => by simpa using List.all_eq_true.1 hsz m (DataW.weights_mem_each (j := 0) (t := 5) rfl rfl m hm)
  obtain ⟨a0, hv0, _, _, hw0⟩ := open_int Tryd.underlying5 (hval 0 5 v0 rfl rfl) h0
  have e0 : V tab (cx0 W) (.int .u8 a0) v0 := by rw [hv0]; exact .int _ _
  have u0 := wf_u8 hw0
  have wt1 : ∀ m ∈ d1.weights Tryd.prog 54, m ≤ reachBytes := fun m hm => by simpa using List.all_eq_true.1 hsz m (DataW.weights_mem_each (j := 1) (t := 54) rfl rfl m hm)
  obtain ⟨a1, e1, g1, k1⟩ := bytesb_in (hval 1 54 v1 rfl rfl) h1 wt1
  have wt2 : ∀ m ∈ d2.weights Tryd.prog 22, m ≤ reachBytes := fun m hm => by simpa using List.all_eq_true.1 hsz m (DataW.weights_mem_each (j := 2) (t := 22) rfl rfl m hm)
  obtain ⟨a2, e2, g2, z2⟩ := bytes_in (hval 2 22 v2 rfl rfl) h2
  refine (law_calls full_ok (gl_of hL) (args := [.int .u8 a0, .sl .fz 22 (a1.map by8), by8 a2]) (vs := [v0, v1, v2]) ⟨rfl, a0, a1, a2, rfl, ⟨u0.1, by omega⟩, k1, (fun r hr p hp => by have := g1 r hr p hp; exact ⟨this.1, by have := this.2; omega⟩), (fun p hp => by have := g2 p hp; exact ⟨this.1, by have := this.2; omega⟩), rfl⟩ (VL.cons e0 (VL.cons e1 (VL.cons e2 VL.nil)))).mono fun e W' ⟨he, bel⟩ => ?_
  subst he
  exact ⟨_, rfl, _, _, _, [], _, [], hW', trodAll_mk1 (shut_bool Tryd.underlying4 _), (trodAll_cons_mk (Below.trod laidOut (by kernel_rfl) (of_decide_eq_true (by kernel_rfl)) h0 bel (trod_lt' h0)) (trodAll_cons_mk (Below.trod laidOut (by kernel_rfl) (of_decide_eq_true (by kernel_rfl)) h1 bel (trod_lt' h1)) (trodAll_cons_mk (Below.trod laidOut (by kernel_rfl) (of_decide_eq_true (by kernel_rfl)) h2 bel (trod_lt' h2)) trodAll_mk0))), rfl, bel.frame _, fun h => by cases h⟩
theorem journalFull_said : Rows.JournalFullSaid :=
  OpenClaim.holds_of_cond 7 Tryd.f7 rfl rfl rfl rfl rfl rfl rfl ⟨rfl, rfl, rfl, rfl, rfl⟩ rfl rfl rfl rfl rfl (by kernel_rfl) Tryd.func7 (by kernel_rfl)
    (of_decide_eq_true (by kernel_rfl)) (by unfold Func.isWrapper; first | (rw [if_pos (by decide +kernel)]; kernel_rfl) | (rw [if_neg (by decide +kernel)]; exact ⟨rfl, rfl⟩))
    (fun os started H enc _ F => by rw [OpenClaim.pre_eq_preRow]; exact journalFull_lifted os started H enc F)
theorem journalFull_plain (f : FuncId) (fn : Func) (hf : Tryd.pinned.checked.prog.funcNamed "hawala/hawalalaw06.JournalFull" = some f) (hfn : Tryd.pinned.checked.prog.funcs[f]? = some fn) :
    true = Tryd.pinned.checked.prog.looks [] ∧ ∀ (j : Nat) t, fn.params[j]? = some t → Tryd.pinned.checked.prog.wantsStandIn t = false := by
  obtain rfl : f = 7 := Option.some.inj ((show Tryd.prog.funcNamed "hawala/hawalalaw06.JournalFull" = some 7 by kernel_rfl).symm.trans hf) |>.symm
  obtain rfl : fn = Tryd.f7 := (Option.some.inj (Tryd.func7.symm.trans hfn)).symm
  refine ⟨by kernel_rfl, fun j t ht => ?_⟩
  rw [Tryd.params7] at ht
  have hm : t ∈ #[5, 54, 22] := Array.mem_of_getElem? ht
  have hm : t = 5 ∨ t = 54 ∨ t = 22 := by first | (simpa using hm) | (simp at hm; rcases hm with h | h | h <;> simp [h])
  rcases hm with rfl | rfl | rfl
  · exact (show Tryd.prog.wantsStandIn 5 = false by kernel_rfl)
  · exact (show Tryd.prog.wantsStandIn 54 = false by kernel_rfl)
  · exact (show Tryd.prog.wantsStandIn 22 = false by kernel_rfl)
end Go.Proofs.YtbpcofnhndgoeaaDoor.A
namespace Go.Proofs.YtbpcofnhndgoeaaDoor
open Go
/-- The law JournalFull holds of the given program: without room nothing is laid, and nothing is lost. Conditions: none. -/
theorem journalFull_holds : Rows.JournalFullCardSaid :=
  Claim7.holds_tied_plain_at .later [] _ _ _ _ A.journalFull_said (fun _ h => by cases h) (by kernel_rfl) (fun _ h => by cases h) journalFull_row_tie rfl ⟨rfl, rfl⟩ (by kernel_rfl) rfl A.journalFull_plain (by kernel_rfl)
#print axioms journalFull_holds
end Go.Proofs.YtbpcofnhndgoeaaDoor
