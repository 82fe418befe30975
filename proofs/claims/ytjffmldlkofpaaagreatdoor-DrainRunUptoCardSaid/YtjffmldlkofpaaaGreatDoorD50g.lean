/- The law DrainRun holds of the given program, where what it reads is of bulk at most 1048576: which sagas have steps, and what they come to, is what the document says. -/
import Derived.Test.YtjffmldlkofpaaaGreatDoorV3
import Derived.Test.YtjffmldlkofpaaaGreatDoorV4
import Derived.Test.YtjffmldlkofpaaaGreatDoorM47
import Derived.Test.YtjffmldlkofpaaaGreatDoorGV
namespace Go.Proofs.YtjffmldlkofpaaaGreatDoor.A
open Go Go.ChangeShapes Go.WideShapes Go.ChangeAt Go.RowKit
set_option maxRecDepth 100000 in
theorem drainRun_met (os : Os) : laidMetH Tryz.prog listed ((laidWorld os).forCall (fun _ _ => 0) ⟨#[], #[.agg #[.slice none 0 0, .slice none 0 0, .slice none 0 0], .slice none 0 0, .slice none 0 0, .slice none 0 0, .int .i8 0], []⟩).memory := laidMetH_of_parts (laidMet_nil _ _) (by kernel_rfl)
theorem drainRun_reads (os : Os) {H : Type} (enc : TypeId × Value → H) : ∃ places, DataW.whole enc Tryz.prog ((laidWorld os).forCall (fun _ _ => 0) ⟨#[], #[.agg #[.slice none 0 0, .slice none 0 0, .slice none 0 0], .slice none 0 0, .slice none 0 0, .slice none 0 0, .int .i8 0], []⟩).memory Tryz.f3.params.toList Rows.drainRunSpec.vars false (#[.agg #[.slice none 0 0, .slice none 0 0, .slice none 0 0], .slice none 0 0, .slice none 0 0, .slice none 0 0, .int .i8 0] : Array Value).toList 8 = some ([.agg [.nil, .nil, .nil], .nil, .nil, .nil, .lit (.int .i8 0)], [], places) := ⟨[], by kernel_rfl⟩
set_option maxRecDepth 100000 in
theorem drainRun_lifted (os : Os) (started : os.Started) (H : Type) (enc : TypeId × Value → H) (F : Stop.Interp) :
    ReturnsInHanded {} Tryz.checked os 3 .any ((Rows.OpenSpec.upto Rows.drainRunSpec).preRow enc Tryz.prog Tryz.f3 Rows.drainRunUptoRow.domain false Rows.drainRunUptoRow.laid) (((Rows.OpenSpec.upto Rows.drainRunSpec).at F).post enc Tryz.prog Tryz.f3 false true false false) := by
  obtain ⟨places, hx⟩ := drainRun_reads os enc
  refine returnsInHanded_of_row (C := Tryz.checked) (s := (Rows.OpenSpec.upto Rows.drainRunSpec)) own started (by kernel_rfl) Tryz.func3
    (witness_row_at (enc := enc) (C := Tryz.checked) false (laidWorld os) #[.agg #[.slice none 0 0, .slice none 0 0, .slice none 0 0], .slice none 0 0, .slice none 0 0, .slice none 0 0, .int .i8 0] rfl (by kernel_rfl) (by kernel_rfl) (by kernel_rfl)
      (OpenSpec.preRow_of_cond 8 hx (by kernel_rfl) (fun k hk => by cases hk; kernel_rfl) (by kernel_rfl) (drainRun_met os))) ?_
  intro W base args ds gs before hval0 hW _ hcond hsz0 hL _ _
  have hsz : (DataW.weightsEach Tryz.prog (Tryz.f3.params.toList ++ Rows.drainRunSpec.plain.varTypes Tryz.prog) (ds ++ gs)).all (· ≤ reachBytes) = true := hsz0
  have hval : ∀ (j : Nat) t v, Tryz.f3.params[j]? = some t → args[j]? = some v → Value.okWide Tryz.prog W .any base t v := hval0
  have hsm : Rows.uptoSmall H (ds ++ gs) = true := hcond _ rfl
  have hW' := hW
  obtain ⟨p, q, hA0, hV, rfl, hfz, hnd⟩ := hW
  have hA : DataW.TrodAll enc Tryz.prog W 0 (fun _ => true) true Tryz.f3.params.toList args.toList ds p := hA0
  rw [Tryz.params3] at hA hval hsz
  obtain ⟨v0, vs0, d0, ds0, p0, q0, hargs, rfl, rfl, h0, r0⟩ := trodAll_cons hA
  obtain ⟨v1, vs1, d1, ds1, p1, q1, rfl, rfl, rfl, h1, r1⟩ := trodAll_cons r0
  obtain ⟨v2, vs2, d2, ds2, p2, q2, rfl, rfl, rfl, h2, r2⟩ := trodAll_cons r1
  obtain ⟨v3, vs3, d3, ds3, p3, q3, rfl, rfl, rfl, h3, r3⟩ := trodAll_cons r2
  obtain ⟨v4, vs4, d4, ds4, p4, q4, rfl, rfl, rfl, h4, r4⟩ := trodAll_cons r3
  obtain ⟨rfl, rfl, rfl⟩ := trodAll_nil r4
  obtain rfl : args = #[v0, v1, v2, v3, v4] := by cases args; simp_all
  obtain ⟨rfl, rfl⟩ := trodVars_none hV
  have wt0 : ∀ m ∈ d0.weights Tryz.prog 25, m ≤ reachBytes := fun m hm => by simpa using List.all_eq_true.1 hsz m (DataW.weights_mem_each (j := 0) (t := 25) rfl rfl m hm)
  obtain ⟨a0, e0, g0⟩ := book_in (hval 0 25 v0 rfl rfl) h0 wt0
  have wt1 : ∀ m ∈ d1.weights Tryz.prog 26, m ≤ reachBytes := fun m hm => by simpa using List.all_eq_true.1 hsz m (DataW.weights_mem_each (j := 1) (t := 26) rfl rfl m hm)
  obtain ⟨a1, e1, g1, z1⟩ := acts_in (hval 1 26 v1 rfl rfl) h1
  have k1 : a1.length ≤ 1999900 := by
    rcases z1 with z | ⟨el, re, ed, z⟩
    · omega
    · have := bulk_len hsm (by simp) ed; omega
  have wt2 : ∀ m ∈ d2.weights Tryz.prog 27, m ≤ reachBytes := fun m hm => by simpa using List.all_eq_true.1 hsz m (DataW.weights_mem_each (j := 2) (t := 27) rfl rfl m hm)
  obtain ⟨a2, e2, g2, z2⟩ := ints_in (hval 2 27 v2 rfl rfl) h2
  have wt3 : ∀ m ∈ d3.weights Tryz.prog 28, m ≤ reachBytes := fun m hm => by simpa using List.all_eq_true.1 hsz m (DataW.weights_mem_each (j := 3) (t := 28) rfl rfl m hm)
  obtain ⟨a3, e3, g3, z3⟩ := bools_in (hval 3 28 v3 rfl rfl) h3
  have wt4 : ∀ m ∈ d4.weights Tryz.prog 29, m ≤ reachBytes := fun m hm => by simpa using List.all_eq_true.1 hsz m (DataW.weights_mem_each (j := 4) (t := 29) rfl rfl m hm)
  obtain ⟨a4, hv4, _, _, hw4⟩ := open_int Tryz.underlying29 (hval 4 29 v4 rfl rfl) h4
  have e4 : V tab (cx0 W) (.int .i8 a4) v4 := by rw [hv4]; exact .int _ _
  have u4 := wf_i8 hw4
  refine (law_calls drun_ok (gl_of hL) (args := [bkA a0, actsS a1, .sl .fz 3 (a2.map (AV.int .i64)), boolsS a3, .int .i8 a4]) (vs := [v0, v1, v2, v3, v4]) ⟨rfl, a0, a1, a2, a3, a4, rfl, g0, g1, k1, u4, rfl⟩ (VL.cons e0 (VL.cons e1 (VL.cons e2 (VL.cons e3 (VL.cons e4 VL.nil)))))).mono fun e W' ⟨he, bel⟩ => ?_
  subst he
  exact ⟨_, rfl, _, _, _, [], _, [], hW', trodAll_mk1 (shut_bool Tryz.underlying4 _), (trodAll_cons_mk (Below.trod laidOut (by kernel_rfl) (of_decide_eq_true (by kernel_rfl)) h0 bel (trod_lt' h0)) (trodAll_cons_mk (Below.trod laidOut (by kernel_rfl) (of_decide_eq_true (by kernel_rfl)) h1 bel (trod_lt' h1)) (trodAll_cons_mk (Below.trod laidOut (by kernel_rfl) (of_decide_eq_true (by kernel_rfl)) h2 bel (trod_lt' h2)) (trodAll_cons_mk (Below.trod laidOut (by kernel_rfl) (of_decide_eq_true (by kernel_rfl)) h3 bel (trod_lt' h3)) (trodAll_cons_mk (Below.trod laidOut (by kernel_rfl) (of_decide_eq_true (by kernel_rfl)) h4 bel (trod_lt' h4)) trodAll_mk0))))), rfl, bel.frame _, fun h => by cases h⟩
theorem drainRun_said : Rows.DrainRunUptoSaid :=
  OpenClaim.holds_of_cond 3 Tryz.f3 rfl rfl rfl rfl rfl rfl rfl ⟨rfl, rfl, rfl, rfl, rfl⟩ rfl rfl rfl rfl rfl (by kernel_rfl) Tryz.func3 (by kernel_rfl)
    (of_decide_eq_true (by kernel_rfl)) (by unfold Func.isWrapper; first | (rw [if_pos (by decide +kernel)]; kernel_rfl) | (rw [if_neg (by decide +kernel)]; exact ⟨rfl, rfl⟩))
    (fun os started H enc _ F => by rw [OpenClaim.pre_eq_preRow]; exact drainRun_lifted os started H enc F)
theorem drainRun_plain (f : FuncId) (fn : Func) (hf : Tryz.pinned.checked.prog.funcNamed "hawala/hawalalaw21.DrainRun" = some f) (hfn : Tryz.pinned.checked.prog.funcs[f]? = some fn) :
    true = Tryz.pinned.checked.prog.looks [] ∧ ∀ (j : Nat) t, fn.params[j]? = some t → Tryz.pinned.checked.prog.wantsStandIn t = false := by
  obtain rfl : f = 3 := Option.some.inj ((show Tryz.prog.funcNamed "hawala/hawalalaw21.DrainRun" = some 3 by kernel_rfl).symm.trans hf) |>.symm
  obtain rfl : fn = Tryz.f3 := (Option.some.inj (Tryz.func3.symm.trans hfn)).symm
  refine ⟨by kernel_rfl, fun j t ht => ?_⟩
  rw [Tryz.params3] at ht
  have hm : t ∈ #[25, 26, 27, 28, 29] := Array.mem_of_getElem? ht
  have hm : t = 25 ∨ t = 26 ∨ t = 27 ∨ t = 28 ∨ t = 29 := by first | (simpa using hm) | (simp at hm; rcases hm with h | h | h | h | h <;> simp [h])
  rcases hm with rfl | rfl | rfl | rfl | rfl
  · exact (show Tryz.prog.wantsStandIn 25 = false by kernel_rfl)
  · exact (show Tryz.prog.wantsStandIn 26 = false by kernel_rfl)
  · exact (show Tryz.prog.wantsStandIn 27 = false by kernel_rfl)
  · exact (show Tryz.prog.wantsStandIn 28 = false by kernel_rfl)
  · exact (show Tryz.prog.wantsStandIn 29 = false by kernel_rfl)
end Go.Proofs.YtjffmldlkofpaaaGreatDoor.A
namespace Go.Proofs.YtjffmldlkofpaaaGreatDoor
open Go
/-- The law DrainRun holds of the given program, where what it reads is of bulk at most 1048576: which sagas have steps, and what they come to, is what the document says. -/
theorem drainRunUpto_holds : Rows.DrainRunUptoCardSaid :=
  Claim7.holds_tied_plain_at .later [] _ _ _ _ A.drainRun_said (fun _ h => by cases h) (by kernel_rfl) (fun _ h => by cases h) drainRunUpto_row_tie rfl ⟨rfl, rfl⟩ (by kernel_rfl) rfl A.drainRun_plain (by kernel_rfl)
#print axioms drainRunUpto_holds
end Go.Proofs.YtjffmldlkofpaaaGreatDoor
