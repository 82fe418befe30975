/- What the rows of this seat share: the listed variable's cell, a world for the witness. -/
import Derived.Test.YtjffmldlkofpaaaGreatDoorCards
import Derived.Test.YtjffmldlkofpaaaGreatDoorTie
import Derived.Test.YtjffmldlkofpaaaGreatDoorGE
import Derived.WalkKit
import Derived.ProofKit
import Derived.OpenShut
import Derived.ShutString
import Derived.ChangeOld
import Derived.Below
import Derived.SizedLaws
import Derived.Carry
import Derived.Deep.DeepHandedRow
import Derived.Lib.LaidTab
import Derived.LaidHandle
import Derived.LaidLaws
import Derived.Test.YtjffmldlkofpaaaGreatDoorGC
import Derived.Test.YtjffmldlkofpaaaGreatDoorGF
import Derived.Test.YtjffmldlkofpaaaGreatDoorGY
namespace Go.Proofs.YtjffmldlkofpaaaGreatDoor.A
open Go Go.ChangeShapes Go.WideShapes Go.ChangeAt Go.RowKit
theorem own : ownKnob Tryz.prog.godebug = none := by kernel_rfl
theorem laidOut : laidOutB Tryz.prog = true := by kernel_rfl
theorem trod_lt' {H : Type} {enc : TypeId × Value → H} {W : World} {t : TypeId} {v : Value} {d : DataW H} {ps : List MemPlace} (h : DataW.Trod enc Tryz.prog W 0 (fun _ => true) true t v d ps) : ∀ x ∈ ps, x.block < W.heap.size := by
  obtain ⟨m, hm⟩ := h
  exact DataW.trod_lt m _ _ _ hm
abbrev listed : List (String × DataW Unit) := [("errors.errorType", Rows.laid_errors_errorType)]
theorem et : Tryz.prog.globalNamed "errors.errorType" = some 0 := by kernel_rfl
theorem rt : (Tryz.prog.cutTypes.find? (·.1 == "internal/reflectlite.rtype")).map (·.2) = some 192 := by kernel_rfl
theorem oneRow : ((List.range 264).filter fun t => Tryz.prog.rowNamed t [101, 114, 114, 111, 114]) = [110] := by kernel_rfl
theorem tsize : Tryz.prog.types.size = 264 := by kernel_rfl
theorem handle_of_laid {W : World} (h : laidMetH Tryz.prog listed W) : W.cell? ⟨0, 0, Option.none⟩ = some (.iface 192 (.agg #[.pointer (some ⟨1, 110, Option.none⟩)])) := by
  have h' : laidMet Tryz.prog [] W ∧ handlesMet Tryz.prog listed W := h
  obtain ⟨name, u, ty, e1, e2, e3, e4, e5⟩ := h'.2 _ (List.mem_singleton.2 rfl)
  have en : name = [101, 114, 114, 111, 114] := (Option.some.inj e1).symm
  subst en
  obtain rfl := Option.some.inj (rt.symm.trans e2)
  have hm : ty ∈ (List.range 264).filter fun t => Tryz.prog.rowNamed t [101, 114, 114, 111, 114] := List.mem_filter.2 ⟨List.mem_range.2 (by rw [← tsize]; exact e3), e4⟩
  rw [oneRow] at hm
  obtain rfl := List.mem_singleton.1 hm
  have hh : typeHandle Tryz.prog 110 = .pointer (some ⟨1, 110, Option.none⟩) := by kernel_rfl
  rw [hh] at e5
  simpa using World.var?_cell et e5 0
theorem gl_of {W : World} (h : laidMetH Tryz.prog listed W) : (cx0 W).Gl := fun v hv => by
  have hc := handle_of_laid h
  have e : GL = some (.iface 192 (.agg #[.pointer (some ⟨1, 110, Option.none⟩)])) := rfl
  rw [e] at hv
  cases hv
  refine ⟨?_, hc⟩
  show 0 < W.heap.size
  rcases Nat.eq_zero_or_pos W.heap.size with h0 | h0
  · simp [World.cell?, h0] at hc
  · exact h0
/-- A world for the witness: the settled one, the variable's cell laid. -/
noncomputable def laidWorld (os : Os) : World :=
  let w0 := World.holding Tryz.prog os ⟨#[], #[], []⟩
  { w0 with heap := w0.heap.modify 0 fun
      | .cells _ t frozen => .cells #[.iface 192 (.agg #[.pointer (some ⟨1, 110, Option.none⟩)])] t frozen
      | o => o }
theorem wf_u8 {n : Int} (h : (Lit.int .u8 n).wf = true) : 0 ≤ n ∧ n ≤ 255 := by
  simp [Lit.wf, IntKind.min, IntKind.max, IntKind.signed, IntKind.bits] at h
  omega
end Go.Proofs.YtjffmldlkofpaaaGreatDoor.A

/- A book, and payments, that come in as arguments. -/
namespace Go.Proofs.YtjffmldlkofpaaaGreatDoor.A
open Go Q
theorem all_of1 {α β : Type} {f : β → α} {P : α → Prop} {g : β → Prop} (h : ∀ x, P x → ∃ a, x = f a ∧ g a) : ∀ (l : List α), (∀ x ∈ l, P x) → ∃ zs : List β, l = zs.map f ∧ ∀ a ∈ zs, g a
  | [], _ => ⟨[], rfl, fun a h => by simp at h⟩
  | x :: xs, hl => by
    obtain ⟨a, rfl, ha⟩ := h x (hl x (List.mem_cons_self ..))
    obtain ⟨zs, rfl, has⟩ := all_of1 h xs (fun y hy => hl y (List.mem_cons_of_mem _ hy))
    refine ⟨a :: zs, rfl, fun b hb => ?_⟩
    rcases List.mem_cons.1 hb with rfl | hb
    · exact ha
    · exact has b hb
theorem rows_of1 {α : Type} {t : TypeId} {ks : List LK} {f : α → AV} {g : α → Prop} (h : ∀ r, FitA ks r → ∃ a, wrapT tab t r = f a ∧ g a) (rows : List (List AV)) (hr : ∀ r ∈ rows, FitA ks r) : ∃ zs : List α, rows.map (wrapT tab t) = zs.map f ∧ ∀ a ∈ zs, g a :=
  all_of1 (P := fun x => ∃ r, FitA ks r ∧ wrapT tab t r = x) (fun x ⟨r, h1, h2⟩ => h2 ▸ h r h1) _ (fun x hx => by
    obtain ⟨r, hm, rfl⟩ := List.mem_map.1 hx
    exact ⟨r, hr r hm, rfl⟩)
theorem wf_u32 {n : Int} (h : (Lit.int .u32 n).wf = true) : 0 ≤ n := by
  simp [Lit.wf, IntKind.min, IntKind.max, IntKind.signed, IntKind.bits] at h
  omega
theorem fit1 {k : IntKind} {ks : List LK} {r : List AV} (h : FitA (.int k :: ks) r) : ∃ n r', r = .int k n :: r' ∧ (Lit.int k n).wf = true ∧ FitA ks r' := by
  cases r with
  | nil => exact h.elim
  | cons v vs =>
    obtain ⟨⟨n, rfl, hw⟩, h2⟩ := h
    exact ⟨n, vs, rfl, hw, h2⟩
theorem fit0 {r : List AV} (h : FitA [] r) : r = [] := by
  cases r with
  | nil => rfl
  | cons _ _ => exact h.elim
theorem kindsU8 : kindsA tab 6 5 = some [.int .u8] := by kernel_rfl
theorem kindsU32 : kindsA tab 6 93 = some [.int .u32] := by kernel_rfl
theorem kindsPaid : kindsA tab 6 107 = some [.int .u8, .int .u8, .int .u8, .int .u8, .int .u8, .int .u8, .int .u8, .bool] := by kernel_rfl
theorem u8_in (r : List AV) (h : FitA [.int .u8] r) : ∃ n : Int, wrapT tab 5 r = .int .u8 n ∧ u8I n := by
  obtain ⟨n, r', rfl, hw, h2⟩ := fit1 h
  obtain rfl := fit0 h2
  exact ⟨n, rfl, wf_u8 hw⟩
theorem u32_in (r : List AV) (h : FitA [.int .u32] r) : ∃ n : Int, wrapT tab 93 r = .int .u32 n ∧ 0 ≤ n := by
  obtain ⟨n, r', rfl, hw, h2⟩ := fit1 h
  obtain rfl := fit0 h2
  exact ⟨n, rfl, wf_u32 hw⟩
theorem paid_in (r : List AV) (h : FitA [.int .u8, .int .u8, .int .u8, .int .u8, .int .u8, .int .u8, .int .u8, .bool] r) : ∃ p : Paid, wrapT tab 107 r = paidA p ∧ p.In := by
  obtain ⟨n1, r1, rfl, w1, h1⟩ := fit1 h
  obtain ⟨n2, r2, rfl, w2, h2⟩ := fit1 h1
  obtain ⟨n3, r3, rfl, w3, h3⟩ := fit1 h2
  obtain ⟨n4, r4, rfl, w4, h4⟩ := fit1 h3
  obtain ⟨n5, r5, rfl, w5, h5⟩ := fit1 h4
  obtain ⟨n6, r6, rfl, w6, h6⟩ := fit1 h5
  obtain ⟨n7, r7, rfl, w7, h7⟩ := fit1 h6
  cases r7 with
  | nil => exact h7.elim
  | cons v vs =>
    obtain ⟨⟨c, rfl⟩, h8⟩ := h7
    obtain rfl := fit0 h8
    exact ⟨⟨n1, n2, n3, n4, n5, n6, n7, c⟩, rfl, ⟨wf_u8 w1, wf_u8 w2, wf_u8 w3, wf_u8 w4, wf_u8 w5, wf_u8 w6, wf_u8 w7⟩⟩
theorem one_le {H : Type} (d : DataW H) : 1 ≤ Rows.uptoBulk d := by
  cases d with
  | lit l => cases l <;> simp [Rows.uptoBulk]
  | nil => simp [Rows.uptoBulk]
  | ptr d => simp [Rows.uptoBulk]
  | slice e s => simp [Rows.uptoBulk]
  | agg l => simp [Rows.uptoBulk]
  | iface _ d => simp [Rows.uptoBulk]
  | map l => simp [Rows.uptoBulk]
  | held _ => simp [Rows.uptoBulk]
theorem part_le {H : Type} {d : DataW H} {l : List (DataW H)} (h : d ∈ l) : Rows.uptoBulk d ≤ Rows.uptoBulkAll l := by
  induction l with
  | nil => cases h
  | cons x r ih =>
    simp only [Rows.uptoBulkAll]
    rcases List.mem_cons.1 h with rfl | h
    · omega
    · have := ih h; omega
theorem length_le {H : Type} (l : List (DataW H)) : l.length ≤ Rows.uptoBulkAll l := by
  induction l with
  | nil => simp [Rows.uptoBulkAll]
  | cons x r ih => have := one_le x; simp only [Rows.uptoBulkAll, List.length_cons]; omega
theorem bulk_len {H : Type} {d : DataW H} {l : List (DataW H)} (hs : Rows.uptoSmall H l = true) (hd : d ∈ l) {elems rest : List (DataW H)} (he : d = .slice elems rest) : elems.length ≤ 1048576 := by
  have h1 : Rows.uptoBulkAll l ≤ 1048576 := of_decide_eq_true hs
  have h2 := part_le hd
  have h3 := length_le elems
  subst he
  simp only [Rows.uptoBulk] at h2
  omega

set_option maxRecDepth 100000 in
theorem paids_in {H : Type} {enc : TypeId × Value → H} {W : World} {b0 : Nat} {v : Value} {d : DataW H} {ps : List MemPlace} (hok : Value.okWide Tryz.prog W .any b0 67 v) (h : DataW.Trod enc Tryz.prog W 0 (fun _ => true) true 67 v d ps) :
    ∃ l : List Paid, V tab (cx0 W) (padS l) v ∧ (∀ p ∈ l, p.In) ∧ (l.length = 0 ∨ ∃ elems rest, d = .slice elems rest ∧ elems.length = l.length) := by
  have hu : Tryz.prog.underlying 67 = some (.slice 107) := (tab_is.slice 67 107 (by kernel_rfl)).1
  obtain ⟨a, len, cap, rfl⟩ := WideShapes.okWide_slice hu hok
  obtain ⟨fuel, hf⟩ := h
  have hok' : Cell.okWide Tryz.prog W .any b0 67 (.slice a len cap) := by
    simpa only [Value.okWide, hu] using hok
  obtain ⟨r, h1, h2, _, h4⟩ := slice_cell_in2 (x := (d, ps)) tab_is (e := 107) (by kernel_rfl) kindsPaid hok' hf
  obtain ⟨l, e, hl⟩ := rows_of1 paid_in r h1
  have l0 : r.length = l.length := by simpa using congrArg List.length e
  rw [e] at h2
  exact ⟨l, h2, hl, by rw [← l0]; exact h4⟩
theorem array3 {cs : Array Value} (h : cs.size = 3) : ∃ a b c, cs = #[a, b, c] := by
  obtain ⟨l⟩ := cs
  match l, h with
  | [a, b, c], _ => exact ⟨a, b, c, rfl⟩

set_option maxRecDepth 100000 in
theorem book_in {H : Type} {enc : TypeId × Value → H} {W : World} {b0 : Nat} {v : Value} {d : DataW H} {ps : List MemPlace} (hok : Value.okWide Tryz.prog W .any b0 25 v) (h : DataW.Trod enc Tryz.prog W 0 (fun _ => true) true 25 v d ps)
    (hw : ∀ n ∈ d.weights Tryz.prog 25, n ≤ reachBytes) : ∃ b : Book, V tab (cx0 W) (bkA b) v ∧ b.Ok := by
  simp only [Value.okWide, Tryz.underlying25] at hok
  obtain ⟨cs, rfl, hsz, ts, hts, -, hrow⟩ := hok
  have hc : Tryz.prog.cellsOf 25 = 3 := by kernel_rfl
  obtain ⟨v0, v1, v2, rfl⟩ := array3 (hsz.trans hc)
  have hts' : Tryz.prog.cellTypes Tryz.prog.depth 25 = some [22, 23, 22] := by kernel_rfl
  obtain rfl : ts = [22, 23, 22] := Option.some.inj (hts.symm.trans hts')
  obtain ⟨fuel, hf⟩ := h
  obtain ⟨xs, n, _, hx, _, hlen, hall⟩ := DataW.trod_struct Tryz.underlying25 hf
  match xs, hlen with
  | [y0, y1, y2], _ =>
    cases hx
    have c0 : Tryz.prog.cellsOf 22 = 1 := by kernel_rfl
    have c1 : Tryz.prog.cellsOf 23 = 1 := by kernel_rfl
    have f0 : DataW.trod enc Tryz.prog W 0 (fun _ => true) true n 22 [v0] = some y0 := by have this : DataW.trod enc Tryz.prog W 0 (fun _ => true) true n 22 (([v0, v1, v2].drop 0).take (Tryz.prog.cellsOf 22)) = some y0 := hall 0 _ rfl; rw [c0] at this; exact this
    have f1 : DataW.trod enc Tryz.prog W 0 (fun _ => true) true n 23 [v1] = some y1 := by have this : DataW.trod enc Tryz.prog W 0 (fun _ => true) true n 23 (([v0, v1, v2].drop 1).take (Tryz.prog.cellsOf 23)) = some y1 := hall 1 _ rfl; rw [c1] at this; exact this
    have f2 : DataW.trod enc Tryz.prog W 0 (fun _ => true) true n 22 [v2] = some y2 := by have this : DataW.trod enc Tryz.prog W 0 (fun _ => true) true n 22 (([v0, v1, v2].drop 2).take (Tryz.prog.cellsOf 22)) = some y2 := hall 2 _ rfl; rw [c0] at this; exact this
    have k0 : Cell.okWide Tryz.prog W .any b0 22 v0 := by obtain ⟨u, hu, hk⟩ := hrow 0 v0 rfl; cases hu; exact hk
    have k1 : Cell.okWide Tryz.prog W .any b0 23 v1 := by obtain ⟨u, hu, hk⟩ := hrow 1 v1 rfl; cases hu; exact hk
    have k2 : Cell.okWide Tryz.prog W .any b0 22 v2 := by obtain ⟨u, hu, hk⟩ := hrow 2 v2 rfl; cases hu; exact hk
    obtain ⟨r0, a0, b0, w0⟩ := slice_cell_in tab_is (e := 5) (by kernel_rfl) kindsU8 k0 f0
    obtain ⟨r1, a1, b1, w1⟩ := slice_cell_in tab_is (e := 93) (by kernel_rfl) kindsU32 k1 f1
    obtain ⟨r2, a2, b2, w2⟩ := slice_cell_in tab_is (e := 5) (by kernel_rfl) kindsU8 k2 f2
    obtain ⟨cu, e0, g0⟩ := rows_of1 u8_in r0 a0
    obtain ⟨ha, e1, g1⟩ := rows_of1 u32_in r1 a1
    obtain ⟨he, e2, g2⟩ := rows_of1 u8_in r2 a2
    have l0 : r0.length = cu.length := by simpa using congrArg List.length e0
    have l1 : r1.length = ha.length := by simpa using congrArg List.length e1
    rw [e0] at b0; rw [e1] at b1; rw [e2] at b2
    have hw' : ∀ m ∈ (y0.1.weights Tryz.prog 22 ++ (y1.1.weights Tryz.prog 23 ++ (y2.1.weights Tryz.prog 22 ++ []))), m ≤ reachBytes := by
      intro m hm
      apply hw m
      simp only [DataW.weights, Tryz.underlying25]
      exact hm
    have z0 := w0 fun m hm => hw' m (by simp [hm])
    have z1 := w1 fun m hm => hw' m (by simp [hm])
    have s0 : Tryz.prog.bytesOf 5 = 1 := by kernel_rfl
    have s1 : Tryz.prog.bytesOf 93 = 4 := by kernel_rfl
    rw [s0, l0] at z0; rw [s1, l1] at z1
    have hr : reachBytes < 2 ^ 47 := by decide
    refine ⟨⟨cu, ha, he⟩, ?_, ⟨⟨g0, ?_, ?_⟩, g1⟩⟩
    · refine V.agg _ [v0, v1, v2] rfl ?_
      intro i x u hx hu
      match i, hx, hu with
      | 0, hx, hu => cases hx; cases hu; exact b0
      | 1, hx, hu => cases hx; cases hu; exact b1
      | 2, hx, hu => cases hx; cases hu; exact b2
    · simp only at z0 ⊢; omega
    · simp only at z1 ⊢; omega
end Go.Proofs.YtjffmldlkofpaaaGreatDoor.A

/- Requests, asks, truths that come in as arguments. -/
namespace Go.Proofs.YtjffmldlkofpaaaGreatDoor.A
open Go Q
set_option maxRecDepth 200000
theorem wf_i64 {n : Int} (h : (Lit.int .i64 n).wf = true) : -9223372036854775808 ≤ n ∧ n < 9223372036854775808 := by
  simp [Lit.wf, IntKind.min, IntKind.max, IntKind.signed, IntKind.bits] at h
  omega
theorem wf_u16 {n : Int} (h : (Lit.int .u16 n).wf = true) : 0 ≤ n ∧ n ≤ 65535 := by
  simp [Lit.wf, IntKind.min, IntKind.max, IntKind.signed, IntKind.bits] at h
  omega
abbrev i64I (n : Int) : Prop := -9223372036854775808 ≤ n ∧ n < 9223372036854775808
structure Req.In (r : Req) : Prop where
  k : i64I r.key
  o : i64I r.op
  a : i64I r.a
  b : i64I r.b
  n : i64I r.amt
  l : i64I r.legs
  u : i64I r.til
theorem struct_in {H : Type} {enc : TypeId × Value → H} {t : TypeId} {fs : List (Nat × TypeId)} {n b0 : Nat} {ks : List LK} {v : Value} {d : DataW H} {ps : List MemPlace} {W : World} (hd : tab.desc t = .struct fs) (hk : kindsA tab n t = some ks) (hok : Value.okWide Tryz.prog W .any b0 t v)
    (h : DataW.Trod enc Tryz.prog W 0 (fun _ => true) true t v d ps) : ∃ avs, FitA ks avs ∧ V tab (cx0 W) (.agg avs) v := by
  obtain ⟨fields, hu, _⟩ := tab_is.struct t fs hd
  simp only [Value.okWide, hu] at hok
  obtain ⟨cs, rfl, _⟩ := hok
  obtain ⟨fuel, hf⟩ := h
  obtain ⟨avs, q1, q2, _⟩ := fit_av (T := tab) (c := cx0 W) (fit_trod tab_is hk hf)
  refine ⟨avs, q1, ?_⟩
  have := q2.agg
  simpa [Value.cells] using this
theorem rows_in {H : Type} {enc : TypeId × Value → H} {α : Type} {f : α → AV} {g : α → Prop} {W : World} {t e : TypeId} {n b0 : Nat} {ks : List LK} {v : Value} {d : DataW H} {ps : List MemPlace} (hd : tab.desc t = .slice e) (hk : kindsA tab n e = some ks) (hin : ∀ r, FitA ks r → ∃ a, wrapT tab e r = f a ∧ g a)
    (hok : Value.okWide Tryz.prog W .any b0 t v) (h : DataW.Trod enc Tryz.prog W 0 (fun _ => true) true t v d ps) :
    ∃ l : List α, V tab (cx0 W) (.sl .fz e (l.map f)) v ∧ (∀ p ∈ l, g p) ∧ (l.length = 0 ∨ ∃ elems rest, d = .slice elems rest ∧ elems.length = l.length) := by
  have hu : Tryz.prog.underlying t = some (.slice e) := (tab_is.slice t e hd).1
  obtain ⟨a, len, cap, rfl⟩ := WideShapes.okWide_slice hu hok
  obtain ⟨fuel, hf⟩ := h
  have hok' : Cell.okWide Tryz.prog W .any b0 t (.slice a len cap) := by
    simpa only [Value.okWide, hu] using hok
  obtain ⟨r, h1, h2, _, h4⟩ := slice_cell_in2 (x := (d, ps)) tab_is (e := e) hd hk hok' hf
  obtain ⟨l, e, hl⟩ := rows_of1 hin r h1
  have l0 : r.length = l.length := by simpa using congrArg List.length e
  rw [e] at h2
  exact ⟨l, h2, hl, by rw [← l0]; exact h4⟩
theorem kindsReq : kindsA tab 6 43 = some [.int .i64, .int .i64, .int .i64, .int .i64, .int .i64, .int .i64, .int .i64] := by kernel_rfl
theorem req_in {H : Type} {enc : TypeId × Value → H} {W : World} {b0 : Nat} {v : Value} {d : DataW H} {ps : List MemPlace} (hok : Value.okWide Tryz.prog W .any b0 43 v) (h : DataW.Trod enc Tryz.prog W 0 (fun _ => true) true 43 v d ps) : ∃ r : Req, V tab (cx0 W) (reqA r) v ∧ Req.In r := by
  obtain ⟨avs, h1, h2⟩ := struct_in (t := 43) rfl kindsReq hok h
  obtain ⟨n1, r1, rfl, w1, g1⟩ := fit1 h1
  obtain ⟨n2, r2, rfl, w2, g2⟩ := fit1 g1
  obtain ⟨n3, r3, rfl, w3, g3⟩ := fit1 g2
  obtain ⟨n4, r4, rfl, w4, g4⟩ := fit1 g3
  obtain ⟨n5, r5, rfl, w5, g5⟩ := fit1 g4
  obtain ⟨n6, r6, rfl, w6, g6⟩ := fit1 g5
  obtain ⟨n7, r7, rfl, w7, g7⟩ := fit1 g6
  obtain rfl := fit0 g7
  exact ⟨⟨n1, n2, n3, n4, n5, n6, n7⟩, h2, ⟨wf_i64 w1, wf_i64 w2, wf_i64 w3, wf_i64 w4, wf_i64 w5, wf_i64 w6, wf_i64 w7⟩⟩
theorem kindsAsk : kindsA tab 6 73 = some [.int .u8, .int .u8, .int .u8, .int .u8, .int .u16, .int .u8, .int .u8] := by kernel_rfl
theorem ask_in1 {avs : List AV} (h1 : FitA [.int .u8, .int .u8, .int .u8, .int .u8, .int .u16, .int .u8, .int .u8] avs) : ∃ r : Ask, AV.agg avs = askAV r ∧ r.In := by
  obtain ⟨n1, r1, rfl, w1, g1⟩ := fit1 h1
  obtain ⟨n2, r2, rfl, w2, g2⟩ := fit1 g1
  obtain ⟨n3, r3, rfl, w3, g3⟩ := fit1 g2
  obtain ⟨n4, r4, rfl, w4, g4⟩ := fit1 g3
  obtain ⟨n5, r5, rfl, w5, g5⟩ := fit1 g4
  obtain ⟨n6, r6, rfl, w6, g6⟩ := fit1 g5
  obtain ⟨n7, r7, rfl, w7, g7⟩ := fit1 g6
  obtain rfl := fit0 g7
  exact ⟨⟨n1, n2, n3, n4, n5, n6, n7⟩, rfl, ⟨wf_u8 w1, wf_u8 w2, wf_u8 w3, wf_u8 w4, wf_u16 w5, wf_u8 w6, wf_u8 w7⟩⟩
theorem ask_in (r : List AV) (h : FitA [.int .u8, .int .u8, .int .u8, .int .u8, .int .u16, .int .u8, .int .u8] r) : ∃ p : Ask, wrapT tab 73 r = askAV p ∧ p.In := ask_in1 h
theorem askv_in {H : Type} {enc : TypeId × Value → H} {W : World} {b0 : Nat} {v : Value} {d : DataW H} {ps : List MemPlace} (hok : Value.okWide Tryz.prog W .any b0 73 v) (h : DataW.Trod enc Tryz.prog W 0 (fun _ => true) true 73 v d ps) : ∃ r : Ask, V tab (cx0 W) (askAV r) v ∧ r.In := by
  obtain ⟨avs, h1, h2⟩ := struct_in (t := 73) rfl kindsAsk hok h
  obtain ⟨r, e, hr⟩ := ask_in1 h1
  exact ⟨r, e ▸ h2, hr⟩
theorem asks_in {H : Type} {enc : TypeId × Value → H} {W : World} {b0 : Nat} {v : Value} {d : DataW H} {ps : List MemPlace} (hok : Value.okWide Tryz.prog W .any b0 69 v) (h : DataW.Trod enc Tryz.prog W 0 (fun _ => true) true 69 v d ps) :
    ∃ l : List Ask, V tab (cx0 W) (asksS l) v ∧ (∀ p ∈ l, p.In) ∧ (l.length = 0 ∨ ∃ elems rest, d = .slice elems rest ∧ elems.length = l.length) := rows_in (f := askAV) rfl kindsAsk ask_in hok h
theorem kindsBool : kindsA tab 6 4 = some [.bool] := by kernel_rfl
theorem bool_in (r : List AV) (h : FitA [.bool] r) : ∃ p : Bool, wrapT tab 4 r = AV.bool p ∧ True := by
  cases r with
  | nil => exact h.elim
  | cons v vs =>
    obtain ⟨⟨c, rfl⟩, h8⟩ := h
    obtain rfl := fit0 h8
    exact ⟨c, rfl, trivial⟩
abbrev boolsS (l : List Bool) : AV := .sl .fz 4 (l.map AV.bool)
theorem bools_in {H : Type} {enc : TypeId × Value → H} {W : World} {b0 : Nat} {v : Value} {d : DataW H} {ps : List MemPlace} (hok : Value.okWide Tryz.prog W .any b0 28 v) (h : DataW.Trod enc Tryz.prog W 0 (fun _ => true) true 28 v d ps) :
    ∃ l : List Bool, V tab (cx0 W) (boolsS l) v ∧ (∀ p ∈ l, True) ∧ (l.length = 0 ∨ ∃ elems rest, d = .slice elems rest ∧ elems.length = l.length) := rows_in (f := AV.bool) rfl kindsBool bool_in hok h
theorem boolsw_in {H : Type} {enc : TypeId × Value → H} {W : World} {b0 : Nat} {v : Value} {d : DataW H} {ps : List MemPlace} (hok : Value.okWide Tryz.prog W .any b0 28 v) (h : DataW.Trod enc Tryz.prog W 0 (fun _ => true) true 28 v d ps)
    (hw : ∀ n ∈ d.weights Tryz.prog 28, n ≤ reachBytes) : ∃ l : List Bool, V tab (cx0 W) (boolsS l) v ∧ l.length ≤ 4611686018427387904 := by
  have hu : Tryz.prog.underlying 28 = some (.slice 4) := (tab_is.slice 28 4 rfl).1
  obtain ⟨a, len, cap, rfl⟩ := WideShapes.okWide_slice hu hok
  obtain ⟨fuel, hf⟩ := h
  have hok' : Cell.okWide Tryz.prog W .any b0 28 (.slice a len cap) := by
    simpa only [Value.okWide, hu] using hok
  obtain ⟨r, h1, h2, h3, h4⟩ := slice_cell_in2 (x := (d, ps)) tab_is (e := 4) rfl kindsBool hok' hf
  obtain ⟨l, e, hl⟩ := rows_of1 bool_in r h1
  have l0 : r.length = l.length := by simpa using congrArg List.length e
  rw [e] at h2
  have hb := h3 hw
  have sb : Tryz.prog.bytesOf 4 = 1 := by kernel_rfl
  have hr : reachBytes < 2 ^ 47 := by decide
  rw [sb, l0] at hb
  exact ⟨l, h2, by omega⟩
end Go.Proofs.YtjffmldlkofpaaaGreatDoor.A
