/- What the rows of this seat's laws share: arguments as they come in. -/
import Derived.Test.YtgikhdaildaonaaRows
import Derived.Test.YtgikhdaildaonaaC6
import Derived.Test.YtgikhdaildaonaaA14
import Derived.WalkKit
import Derived.ProofKit
import Derived.OpenShut
import Derived.ShutString
import Derived.ChangeOld
import Derived.Below
import Derived.SizedLaws
import Derived.Carry
namespace Go.Proofs.Ytgikhdaildaonaa.A
open Go P Go.ChangeShapes Go.WideShapes Go.ChangeAt Go.RowKit
theorem own : ownKnob Try.prog.godebug = none := by kernel_rfl
theorem laidOut : laidOutB Try.prog = true := by kernel_rfl
theorem all_of {α : Type} {P : AV → Prop} {f : α → AV} {g : α → Prop} (h : ∀ x, P x → ∃ a, x = f a ∧ g a) : ∀ l : List AV, (∀ x ∈ l, P x) → ∃ zs : List α, l = zs.map f ∧ ∀ a ∈ zs, g a
  | [], _ => ⟨[], rfl, fun a h => by simp at h⟩
  | x :: xs, hl => by
    obtain ⟨a, rfl, ha⟩ := h x (hl x (List.mem_cons_self ..))
    obtain ⟨zs, rfl, has⟩ := all_of h xs (fun y hy => hl y (List.mem_cons_of_mem _ hy))
    refine ⟨a :: zs, rfl, fun b hb => ?_⟩
    rcases List.mem_cons.1 hb with rfl | hb
    · exact ha
    · exact has b hb
theorem kinds31 : kindsA tab 4 31 = some [.int .u8, .int .u8, .int .u8, .int .u8, .int .u8, .int .u8, .int .u8, .bool] := by kernel_rfl
theorem kinds34 : kindsA tab 4 34 = some [.int .i64, .int .i64, .int .i64, .int .i64, .int .i64, .int .i64, .int .i64, .int .i64] := by kernel_rfl
theorem u8_bd {n : Int} (h : (Lit.int .u8 n).wf = true) : 0 ≤ n ∧ n < 256 := by
  simp [Lit.wf, IntKind.min, IntKind.max, IntKind.signed, IntKind.bits] at h
  omega
theorem paid_in (r : List AV) (h : FitA [.int .u8, .int .u8, .int .u8, .int .u8, .int .u8, .int .u8, .int .u8, .bool] r) : ∃ q : Paid, wrapT tab 31 r = paidA q ∧ q.Ok := by
  match r, h with
  | [_, _, _, _, _, _, _, _], ⟨⟨a, rfl, ha⟩, ⟨b, rfl, hb⟩, ⟨c, rfl, hc⟩, ⟨d, rfl, hd⟩, ⟨e, rfl, he⟩, ⟨f, rfl, hf⟩, ⟨u, rfl, hu⟩, ⟨k, rfl⟩, _⟩ =>
    exact ⟨⟨a, b, c, d, e, f, u, k⟩, rfl, u8_bd ha, u8_bd hb, u8_bd hc, u8_bd hd, u8_bd he, u8_bd hf, u8_bd hu⟩
theorem fit_i64 {ks : List LK} {v : AV} {vs : List AV} (h : FitA (.int .i64 :: ks) (v :: vs)) : (∃ n, v = .int .i64 n) ∧ FitA ks vs := ⟨by obtain ⟨n, e, _⟩ := h.1; exact ⟨n, e⟩, h.2⟩
theorem pay_in (r : List AV) (h : FitA [.int .i64, .int .i64, .int .i64, .int .i64, .int .i64, .int .i64, .int .i64, .int .i64] r) : ∃ q : Pay, wrapT tab 34 r = payA q ∧ True := by
  have hl := h.len
  match r, hl with
  | [x0, x1, x2, x3, x4, x5, x6, x7], _ =>
    obtain ⟨⟨a, rfl⟩, h1⟩ := fit_i64 h
    obtain ⟨⟨b, rfl⟩, h2⟩ := fit_i64 h1
    obtain ⟨⟨c, rfl⟩, h3⟩ := fit_i64 h2
    obtain ⟨⟨d, rfl⟩, h4⟩ := fit_i64 h3
    obtain ⟨⟨e, rfl⟩, h5⟩ := fit_i64 h4
    obtain ⟨⟨f, rfl⟩, h6⟩ := fit_i64 h5
    obtain ⟨⟨u, rfl⟩, h7⟩ := fit_i64 h6
    obtain ⟨⟨k, rfl⟩, h8⟩ := fit_i64 h7
    exact ⟨⟨a, b, c, d, e, f, u, k⟩, rfl, trivial⟩
theorem rows_of {α : Type} {t : TypeId} {ks : List LK} {f : α → AV} {g : α → Prop} (h : ∀ r, FitA ks r → ∃ a, wrapT tab t r = f a ∧ g a) (rows : List (List AV)) (hr : ∀ r ∈ rows, FitA ks r) : ∃ zs : List α, rows.map (wrapT tab t) = zs.map f ∧ ∀ a ∈ zs, g a :=
  all_of (P := fun x => ∃ r, FitA ks r ∧ wrapT tab t r = x) (fun x ⟨r, h1, h2⟩ => h2 ▸ h r h1) _ (fun x hx => by
    obtain ⟨r, hm, rfl⟩ := List.mem_map.1 hx
    exact ⟨r, hr r hm, rfl⟩)
section
variable {H : Type} {enc : TypeId × Value → H}
/-- The numbers that payments are made of, as they come in. -/
theorem paids_in {W : World} {b0 : Nat} {v : Value} {d : DataW H} {ps : List MemPlace} (hok : Value.okWide Try.prog W .any b0 22 v) (h : DataW.Trod enc Try.prog W 0 (fun _ => true) true 22 v d ps) :
    ∃ qs : List Paid, V tab (cx0 W) (.sl .fz 31 (qs.map paidA)) v ∧ ∀ q ∈ qs, q.Ok := by
  obtain ⟨rows, h1, h2⟩ := slice_in tab_is (e := 31) (by kernel_rfl) kinds31 hok h
  obtain ⟨qs, h3, h4⟩ := rows_of paid_in rows h1
  rw [h3] at h2
  exact ⟨qs, h2, h4⟩
theorem pays_in {W : World} {b0 : Nat} {v : Value} {d : DataW H} {ps : List MemPlace} (hok : Value.okWide Try.prog W .any b0 23 v) (h : DataW.Trod enc Try.prog W 0 (fun _ => true) true 23 v d ps) :
    ∃ qs : List Pay, V tab (cx0 W) (.sl .fz 34 (qs.map payA)) v := by
  obtain ⟨rows, h1, h2⟩ := slice_in tab_is (e := 34) (by kernel_rfl) kinds34 hok h
  obtain ⟨qs, h3, _⟩ := rows_of pay_in rows h1
  rw [h3] at h2
  exact ⟨qs, h2⟩
theorem trod_lt' {W : World} {t : TypeId} {v : Value} {d : DataW H} {ps : List MemPlace} (h : DataW.Trod enc Try.prog W 0 (fun _ => true) true t v d ps) : ∀ x ∈ ps, x.block < W.heap.size := by
  obtain ⟨m, hm⟩ := h
  exact DataW.trod_lt m _ _ _ hm
end
section
variable {H : Type} {enc : TypeId × Value → H}
theorem struct_in {t : TypeId} {fs : List (Nat × TypeId)} {n b0 : Nat} {ks : List LK} {v : Value} {d : DataW H} {ps : List MemPlace} {W : World} (hd : tab.desc t = .struct fs) (hk : kindsA tab n t = some ks) (hok : Value.okWide Try.prog W .any b0 t v)
    (h : DataW.Trod enc Try.prog W 0 (fun _ => true) true t v d ps) : ∃ avs, FitA ks avs ∧ V tab (cx0 W) (.agg avs) v := by
  obtain ⟨fields, hu, _⟩ := tab_is.struct t fs hd
  simp only [Value.okWide, hu] at hok
  obtain ⟨cs, rfl, _⟩ := hok
  obtain ⟨fuel, hf⟩ := h
  obtain ⟨avs, q1, q2, _⟩ := fit_av (T := tab) (c := cx0 W) (fit_trod tab_is hk hf)
  refine ⟨avs, q1, ?_⟩
  have := V.agg avs _ q2.1 q2.2
  simpa [Value.cells] using this
theorem paid_arg {W : World} {b0 : Nat} {v : Value} {d : DataW H} {ps : List MemPlace} (hok : Value.okWide Try.prog W .any b0 31 v) (h : DataW.Trod enc Try.prog W 0 (fun _ => true) true 31 v d ps) :
    ∃ q : Paid, V tab (cx0 W) (paidA q) v ∧ q.Ok := by
  have hd : ∃ fs, tab.desc 31 = .struct fs := ⟨_, rfl⟩
  obtain ⟨fs, hd⟩ := hd
  obtain ⟨avs, q1, q2⟩ := struct_in hd kinds31 hok h
  obtain ⟨q, e, hq⟩ := paid_in avs q1
  have e' : AV.agg avs = paidA q := e
  rw [e'] at q2
  exact ⟨q, q2, hq⟩
theorem i8_in {W : World} {b0 : Nat} {v : Value} {d : DataW H} {ps : List MemPlace} (hok : Value.okWide Try.prog W .any b0 39 v) (h : DataW.Trod enc Try.prog W 0 (fun _ => true) true 39 v d ps) :
    ∃ n : Int, V tab (cx0 W) (.int .i8 n) v ∧ i8r n := by
  obtain ⟨n, rfl, _, _, hw⟩ := open_int Try.underlying39 hok h
  refine ⟨n, .int _ _, ?_⟩
  simp [Lit.wf, IntKind.min, IntKind.max, IntKind.signed, IntKind.bits] at hw
  unfold i8r
  omega
end
end Go.Proofs.Ytgikhdaildaonaa.A
