/- The law DueAll holds of the given program: what All tells of the payments is what taking the least again and again tells, of those made of numbers and of raw ones. Conditions: none. -/
import Derived.Test.YtgikhdaildaonaaRows
import Derived.Test.YtgikhdaildaonaaC5
import Derived.Test.YtgikhdaildaonaaA14
import Derived.WalkKit
import Derived.ProofKit
import Derived.OpenShut
import Derived.ShutString
import Derived.ChangeOld
import Derived.Below
import Derived.SizedLaws
import Derived.Carry
namespace Go.Proofs.Ytgikhdaildaonaa.A
open Go P Go.ChangeShapes Go.WideShapes Go.ChangeAt Go.RowKit
theorem own : ownKnob Try.prog.godebug = none := by kernel_rfl
theorem laidOut : laidOutB Try.prog = true := by kernel_rfl
theorem all_of {α : Type} {P : AV → Prop} {f : α → AV} {g : α → Prop} (h : ∀ x, P x → ∃ a, x = f a ∧ g a) : ∀ l : List AV, (∀ x ∈ l, P x) → ∃ zs : List α, l = zs.map f ∧ ∀ a ∈ zs, g a
  | [], _ => ⟨[], rfl, fun a h => by simp at h⟩
  | x :: xs, hl => by
    obtain ⟨a, rfl, ha⟩ := h x (hl x (List.mem_cons_self ..))
    obtain ⟨zs, rfl, has⟩ := all_of h xs (fun y hy => hl y (List.mem_cons_of_mem _ hy))
    refine ⟨a :: zs, rfl, fun b hb => ?_⟩
    rcases List.mem_cons.1 hb with rfl | hb
    · exact ha
    · exact has b hb
theorem kinds31 : kindsA tab 4 31 = some [.int .u8, .int .u8, .int .u8, .int .u8, .int .u8, .int .u8, .int .u8, .bool] := by kernel_rfl
theorem kinds34 : kindsA tab 4 34 = some [.int .i64, .int .i64, .int .i64, .int .i64, .int .i64, .int .i64, .int .i64, .int .i64] := by kernel_rfl
theorem u8_bd {n : Int} (h : (Lit.int .u8 n).wf = true) : 0 ≤ n ∧ n < 256 := by
  simp [Lit.wf, IntKind.min, IntKind.max, IntKind.signed, IntKind.bits] at h
  omega
theorem paid_in (r : List AV) (h : FitA [.int .u8, .int .u8, .int .u8, .int .u8, .int .u8, .int .u8, .int .u8, .bool] r) : ∃ q : Paid, wrapT tab 31 r = paidA q ∧ q.Ok := by
  match r, h with
  | [_, _, _, _, _, _, _, _], ⟨⟨a, rfl, ha⟩, ⟨b, rfl, hb⟩, ⟨c, rfl, hc⟩, ⟨d, rfl, hd⟩, ⟨e, rfl, he⟩, ⟨f, rfl, hf⟩, ⟨u, rfl, hu⟩, ⟨k, rfl⟩, _⟩ =>
    exact ⟨⟨a, b, c, d, e, f, u, k⟩, rfl, u8_bd ha, u8_bd hb, u8_bd hc, u8_bd hd, u8_bd he, u8_bd hf, u8_bd hu⟩
theorem fit_i64 {ks : List LK} {v : AV} {vs : List AV} (h : FitA (.int .i64 :: ks) (v :: vs)) : (∃ n, v = .int .i64 n) ∧ FitA ks vs := ⟨by obtain ⟨n, e, _⟩ := h.1; exact ⟨n, e⟩, h.2⟩
theorem pay_in (r : List AV) (h : FitA [.int .i64, .int .i64, .int .i64, .int .i64, .int .i64, .int .i64, .int .i64, .int .i64] r) : ∃ q : Pay, wrapT tab 34 r = payA q ∧ True := by
  have hl := h.len
  match r, hl with
  | [x0, x1, x2, x3, x4, x5, x6, x7], _ =>
    obtain ⟨⟨a, rfl⟩, h1⟩ := fit_i64 h
    obtain ⟨⟨b, rfl⟩, h2⟩ := fit_i64 h1
    obtain ⟨⟨c, rfl⟩, h3⟩ := fit_i64 h2
    obtain ⟨⟨d, rfl⟩, h4⟩ := fit_i64 h3
    obtain ⟨⟨e, rfl⟩, h5⟩ := fit_i64 h4
    obtain ⟨⟨f, rfl⟩, h6⟩ := fit_i64 h5
    obtain ⟨⟨u, rfl⟩, h7⟩ := fit_i64 h6
    obtain ⟨⟨k, rfl⟩, h8⟩ := fit_i64 h7
    exact ⟨⟨a, b, c, d, e, f, u, k⟩, rfl, trivial⟩
theorem rows_of {α : Type} {t : TypeId} {ks : List LK} {f : α → AV} {g : α → Prop} (h : ∀ r, FitA ks r → ∃ a, wrapT tab t r = f a ∧ g a) (rows : List (List AV)) (hr : ∀ r ∈ rows, FitA ks r) : ∃ zs : List α, rows.map (wrapT tab t) = zs.map f ∧ ∀ a ∈ zs, g a :=
  all_of (P := fun x => ∃ r, FitA ks r ∧ wrapT tab t r = x) (fun x ⟨r, h1, h2⟩ => h2 ▸ h r h1) _ (fun x hx => by
    obtain ⟨r, hm, rfl⟩ := List.mem_map.1 hx
    exact ⟨r, hr r hm, rfl⟩)
section
variable {H : Type} {enc : TypeId × Value → H}
/-- The numbers that payments are made of, as they come in. -/
theorem paids_in {W : World} {b0 : Nat} {v : Value} {d : DataW H} {ps : List MemPlace} (hok : Value.okWide Try.prog W .any b0 22 v) (h : DataW.Trod enc Try.prog W 0 (fun _ => true) true 22 v d ps) :
    ∃ qs : List Paid, V tab (cx0 W) (.sl .fz 31 (qs.map paidA)) v ∧ ∀ q ∈ qs, q.Ok := by
  obtain ⟨rows, h1, h2⟩ := slice_in tab_is (e := 31) (by kernel_rfl) kinds31 hok h
  obtain ⟨qs, h3, h4⟩ := rows_of paid_in rows h1
  rw [h3] at h2
  exact ⟨qs, h2, h4⟩
theorem pays_in {W : World} {b0 : Nat} {v : Value} {d : DataW H} {ps : List MemPlace} (hok : Value.okWide Try.prog W .any b0 23 v) (h : DataW.Trod enc Try.prog W 0 (fun _ => true) true 23 v d ps) :
    ∃ qs : List Pay, V tab (cx0 W) (.sl .fz 34 (qs.map payA)) v := by
  obtain ⟨rows, h1, h2⟩ := slice_in tab_is (e := 34) (by kernel_rfl) kinds34 hok h
  obtain ⟨qs, h3, _⟩ := rows_of pay_in rows h1
  rw [h3] at h2
  exact ⟨qs, h2⟩
theorem trod_lt' {W : World} {t : TypeId} {v : Value} {d : DataW H} {ps : List MemPlace} (h : DataW.Trod enc Try.prog W 0 (fun _ => true) true t v d ps) : ∀ x ∈ ps, x.block < W.heap.size := by
  obtain ⟨m, hm⟩ := h
  exact DataW.trod_lt m _ _ _ hm
end
set_option maxRecDepth 100000 in
theorem dueAll_lifted (os : Os) (started : os.Started) (H : Type) (enc : TypeId × Value → H) :
    ReturnsInHanded {} Try.checked os 3 .any (Rows.dueAllSpec.pre6 enc Try.prog Try.f3 Rows.dueAllRow.domain false) (Rows.dueAllSpec.post enc Try.prog Try.f3 false true false false) := by
  refine returnsInHanded_of_change_sized (C := Try.checked) own started (by kernel_rfl) Try.func3
    (ChangeSpec.witness6 (enc := enc) (C := Try.checked) false ⟨#[], #[.slice none 0 0, .slice none 0 0], []⟩ 8 (by kernel_rfl) (by kernel_rfl) (by kernel_rfl) (by kernel_rfl)) ?_
  intro W base args ds gs before hval0 hW hcnd hsz0 _
  have hval : ∀ (j : Nat) t v, Try.f3.params[j]? = some t → args[j]? = some v → Value.okWide Try.prog W .any base t v := hval0
  have hW' := hW
  obtain ⟨p, q, hA0, hV, rfl, hfz, hnd⟩ := hW
  have hA : DataW.TrodAll enc Try.prog W 0 (fun _ => true) true Try.f3.params.toList args.toList ds p := hA0
  rw [Try.params3] at hA hval
  obtain ⟨v0, vs0, d0, ds0, p0, q0, hargs, rfl, rfl, h0, r0⟩ := trodAll_cons hA
  obtain ⟨v1, vs1, d1, ds1, p1, q1, rfl, rfl, rfl, h1, r1⟩ := trodAll_cons r0
  obtain ⟨rfl, rfl, rfl⟩ := trodAll_nil r1
  obtain rfl : args = #[v0, v1] := by cases args; simp_all
  obtain ⟨rfl, rfl⟩ := trodVars_none hV
  obtain ⟨qs, e0, hq⟩ := paids_in (hval 0 22 v0 rfl rfl) h0
  obtain ⟨ps, e1⟩ := pays_in (hval 1 23 v1 rfl rfl) h1
  refine (law_calls dueAll_ok (args := [.sl .fz 31 (qs.map paidA), .sl .fz 34 (ps.map payA)]) (vs := [v0, v1]) ⟨rfl, qs, ps, rfl, hq, rfl⟩ (VL.cons e0 (VL.cons e1 VL.nil))).mono fun e W' ⟨he, bel⟩ => ?_
  subst he
  exact ⟨_, rfl, _, _, _, [], _, [], hW', trodAll_mk1 (shut_bool Try.underlying4 _), trodAll_cons_mk (Below.trod laidOut (by kernel_rfl) (of_decide_eq_true (by kernel_rfl)) h0 bel (trod_lt' h0)) (trodAll_cons_mk (Below.trod laidOut (by kernel_rfl) (of_decide_eq_true (by kernel_rfl)) h1 bel (trod_lt' h1)) trodAll_mk0), rfl, bel.frame _, fun h => by cases h⟩
theorem dueAll_over : Rows.dueAllRow.holds Try.pinned (OpenSpec.ofChange Rows.dueAllSpec) :=
  OpenClaim.holds_of_wide 3 Try.f3 rfl rfl rfl rfl rfl rfl rfl ⟨rfl, rfl, rfl, rfl, rfl⟩ rfl rfl rfl rfl rfl (by kernel_rfl) Try.func3 (by kernel_rfl)
    (of_decide_eq_true (by kernel_rfl)) (by unfold Func.isWrapper; first | (rw [if_pos (by decide +kernel)]; kernel_rfl) | (rw [if_neg (by decide +kernel)]; exact ⟨rfl, rfl⟩))
    (fun os started H enc _ => dueAll_lifted os started H enc)
end Go.Proofs.Ytgikhdaildaonaa.A
namespace Go.Proofs.Ytgikhdaildaonaa
/-- DueAll. -/
theorem dueAll_holds : Rows.DueAllSaid := A.dueAll_over
#print axioms dueAll_holds
end Go.Proofs.Ytgikhdaildaonaa
