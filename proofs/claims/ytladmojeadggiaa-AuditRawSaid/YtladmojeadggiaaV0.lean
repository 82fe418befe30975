/- A State that comes in as an argument. -/
import Derived.Test.YtladmojeadggiaaA16
import Derived.Test.YtladmojeadggiaaQ1
import Derived.Test.YtladmojeadggiaaU4
namespace Go.Proofs.Ytladmojeadggiaa.A
open Go Q
theorem all_of {α β : Type} {f : β → α} {P : α → Prop} {g : β → Prop} (h : ∀ x, P x → ∃ a, x = f a ∧ g a) : ∀ (l : List α), (∀ x ∈ l, P x) → ∃ zs : List β, l = zs.map f ∧ ∀ a ∈ zs, g a
  | [], _ => ⟨[], rfl, fun a h => by simp at h⟩
  | x :: xs, hl => by
    obtain ⟨a, rfl, ha⟩ := h x (hl x (List.mem_cons_self ..))
    obtain ⟨zs, rfl, has⟩ := all_of h xs (fun y hy => hl y (List.mem_cons_of_mem _ hy))
    refine ⟨a :: zs, rfl, fun b hb => ?_⟩
    rcases List.mem_cons.1 hb with rfl | hb
    · exact ha
    · exact has b hb
theorem rows_of {α : Type} {t : TypeId} {ks : List LK} {f : α → AV} {g : α → Prop} (h : ∀ r, FitA ks r → ∃ a, wrapT tab t r = f a ∧ g a) (rows : List (List AV)) (hr : ∀ r ∈ rows, FitA ks r) : ∃ zs : List α, rows.map (wrapT tab t) = zs.map f ∧ ∀ a ∈ zs, g a :=
  all_of (P := fun x => ∃ r, FitA ks r ∧ wrapT tab t r = x) (fun x ⟨r, h1, h2⟩ => h2 ▸ h r h1) _ (fun x hx => by
    obtain ⟨r, hm, rfl⟩ := List.mem_map.1 hx
    exact ⟨r, hr r hm, rfl⟩)
theorem fit_i64 {ks : List LK} {v : AV} {vs : List AV} (h : FitA (.int .i64 :: ks) (v :: vs)) : (∃ n, v = .int .i64 n) ∧ FitA ks vs := ⟨by obtain ⟨n, e, _⟩ := h.1; exact ⟨n, e⟩, h.2⟩
theorem fit_ints : ∀ {n : Nat} {ks : List LK} {r : List AV}, FitA (List.replicate n (.int .i64) ++ ks) r → ∃ (l : List Int) (r' : List AV), l.length = n ∧ r = l.map (AV.int .i64) ++ r' ∧ FitA ks r'
  | 0, ks, r, h => ⟨[], r, rfl, rfl, h⟩
  | n + 1, ks, r, h => by
    cases r with
    | nil => exact h.elim
    | cons v vs =>
      rw [List.replicate_succ, List.cons_append] at h
      obtain ⟨⟨m, rfl⟩, h2⟩ := fit_i64 (ks := List.replicate n (.int .i64) ++ ks) h
      obtain ⟨l, r', h3, rfl, h4⟩ := fit_ints h2
      exact ⟨m :: l, r', by simp [h3], rfl, h4⟩
def ki (n : Nat) : List LK := List.replicate n (.int .i64)
theorem kindsAcc : kindsA tab 6 39 = some (ki 3 ++ []) := by kernel_rfl
theorem kindsPay : kindsA tab 6 58 = some (ki 8 ++ []) := by kernel_rfl
theorem kindsSag : kindsA tab 6 62 = some (ki 11 ++ []) := by kernel_rfl
theorem kindsKno : kindsA tab 6 53 = some (ki 9 ++ [.bool]) := by kernel_rfl
theorem acc_in (r : List AV) (h : FitA (ki 3 ++ []) r) : ∃ q : Acc, wrapT tab 39 r = accA q ∧ True := by
  obtain ⟨l, r', h1, rfl, h2⟩ := fit_ints h
  match l, r', h1, h2 with
  | [a, b, c], [], _, _ => exact ⟨⟨a, b, c⟩, rfl, trivial⟩
theorem pay_in (r : List AV) (h : FitA (ki 8 ++ []) r) : ∃ q : Pay, wrapT tab 58 r = payA q ∧ True := by
  obtain ⟨l, r', h1, rfl, h2⟩ := fit_ints h
  match l, r', h1, h2 with
  | [a, b, c, d, e, f, g, h], [], _, _ => exact ⟨⟨a, b, c, d, e, f, g, h⟩, rfl, trivial⟩
theorem sag_in (r : List AV) (h : FitA (ki 11 ++ []) r) : ∃ q : Sag, wrapT tab 62 r = sagA q ∧ True := by
  obtain ⟨l, r', h1, rfl, h2⟩ := fit_ints h
  match l, r', h1, h2 with
  | [a, b, c, d, e, f, g, h, i, j, k], [], _, _ => exact ⟨⟨⟨a, b, c, d, e, f, g⟩, h, i, j, k⟩, rfl, trivial⟩
theorem kno_in (r : List AV) (h : FitA (ki 9 ++ [.bool]) r) : ∃ q : Kno, wrapT tab 53 r = knoA q ∧ True := by
  obtain ⟨l, r', h1, rfl, h2⟩ := fit_ints h
  match l, r', h1, h2 with
  | [a, b, c, d, e, f, g, h, i], [_], _, ⟨⟨j, rfl⟩, _⟩ => exact ⟨⟨⟨a, b, c, d, e, f, g⟩, h, i, j⟩, rfl, trivial⟩
theorem array5 {cs : Array Value} (h : cs.size = 5) : ∃ a b c d e, cs = #[a, b, c, d, e] := by
  obtain ⟨l⟩ := cs
  match l, h with
  | [a, b, c, d, e], _ => exact ⟨a, b, c, d, e, rfl⟩
theorem state_in {H : Type} {enc : TypeId × Value → H} {W : World} {b0 : Nat} {v : Value} {d : DataW H} {ps : List MemPlace} (hok : Value.okWide Try.prog W .any b0 27 v) (h : DataW.Trod enc Try.prog W 0 (fun _ => true) true 27 v d ps)
    (hw : ∀ n ∈ d.weights Try.prog 27, n ≤ reachBytes) : ∃ s : Sta, V tab (cx0 W) (staA s) v ∧ Small s := by
  simp only [Value.okWide, Try.underlying27] at hok
  obtain ⟨cs, rfl, hsz, ts, hts, -, hrow⟩ := hok
  have hc : Try.prog.cellsOf 27 = 5 := by kernel_rfl
  obtain ⟨v0, v1, v2, v3, v4, rfl⟩ := array5 (hsz.trans hc)
  have hts' : Try.prog.cellTypes Try.prog.depth 27 = some [22, 23, 24, 25, 3] := by kernel_rfl
  obtain rfl : ts = [22, 23, 24, 25, 3] := Option.some.inj (hts.symm.trans hts')
  obtain ⟨fuel, hf⟩ := h
  obtain ⟨xs, n, _, hx, _, hlen, hall⟩ := DataW.trod_struct Try.underlying27 hf
  match xs, hlen with
  | [y0, y1, y2, y3, y4], _ =>
    cases hx
    have c0 : Try.prog.cellsOf 22 = 1 := by kernel_rfl
    have c1 : Try.prog.cellsOf 23 = 1 := by kernel_rfl
    have c2 : Try.prog.cellsOf 24 = 1 := by kernel_rfl
    have c3 : Try.prog.cellsOf 25 = 1 := by kernel_rfl
    have c4 : Try.prog.cellsOf 3 = 1 := by kernel_rfl
    have f0 : DataW.trod enc Try.prog W 0 (fun _ => true) true n 22 [v0] = some y0 := by have this : DataW.trod enc Try.prog W 0 (fun _ => true) true n 22 (([v0, v1, v2, v3, v4].drop 0).take (Try.prog.cellsOf 22)) = some y0 := hall 0 _ rfl; rw [c0] at this; exact this
    have f1 : DataW.trod enc Try.prog W 0 (fun _ => true) true n 23 [v1] = some y1 := by have this : DataW.trod enc Try.prog W 0 (fun _ => true) true n 23 (([v0, v1, v2, v3, v4].drop 1).take (Try.prog.cellsOf 23)) = some y1 := hall 1 _ rfl; rw [c1] at this; exact this
    have f2 : DataW.trod enc Try.prog W 0 (fun _ => true) true n 24 [v2] = some y2 := by have this : DataW.trod enc Try.prog W 0 (fun _ => true) true n 24 (([v0, v1, v2, v3, v4].drop 2).take (Try.prog.cellsOf 24)) = some y2 := hall 2 _ rfl; rw [c2] at this; exact this
    have f3 : DataW.trod enc Try.prog W 0 (fun _ => true) true n 25 [v3] = some y3 := by have this : DataW.trod enc Try.prog W 0 (fun _ => true) true n 25 (([v0, v1, v2, v3, v4].drop 3).take (Try.prog.cellsOf 25)) = some y3 := hall 3 _ rfl; rw [c3] at this; exact this
    have f4 : DataW.trod enc Try.prog W 0 (fun _ => true) true n 3 [v4] = some y4 := by have this : DataW.trod enc Try.prog W 0 (fun _ => true) true n 3 (([v0, v1, v2, v3, v4].drop 4).take (Try.prog.cellsOf 3)) = some y4 := hall 4 _ rfl; rw [c4] at this; exact this
    have k0 : Cell.okWide Try.prog W .any b0 22 v0 := by obtain ⟨u, hu, hk⟩ := hrow 0 v0 rfl; cases hu; exact hk
    have k1 : Cell.okWide Try.prog W .any b0 23 v1 := by obtain ⟨u, hu, hk⟩ := hrow 1 v1 rfl; cases hu; exact hk
    have k2 : Cell.okWide Try.prog W .any b0 24 v2 := by obtain ⟨u, hu, hk⟩ := hrow 2 v2 rfl; cases hu; exact hk
    have k3 : Cell.okWide Try.prog W .any b0 25 v3 := by obtain ⟨u, hu, hk⟩ := hrow 3 v3 rfl; cases hu; exact hk
    obtain ⟨r0, a0, b0, w0⟩ := slice_cell_in tab_is (e := 39) (by kernel_rfl) kindsAcc k0 f0
    obtain ⟨r1, a1, b1, w1⟩ := slice_cell_in tab_is (e := 58) (by kernel_rfl) kindsPay k1 f1
    obtain ⟨r2, a2, b2, w2⟩ := slice_cell_in tab_is (e := 62) (by kernel_rfl) kindsSag k2 f2
    obtain ⟨r3, a3, b3, w3⟩ := slice_cell_in tab_is (e := 53) (by kernel_rfl) kindsKno k3 f3
    obtain ⟨now, h4, _, _⟩ := DataW.trod_int (tab_is.int 3 .i64 rfl) f4
    obtain rfl : v4 = .int .i64 now := by simpa using h4
    obtain ⟨accs, e0, _⟩ := rows_of acc_in r0 a0
    obtain ⟨pays, e1, _⟩ := rows_of pay_in r1 a1
    obtain ⟨sags, e2, _⟩ := rows_of sag_in r2 a2
    obtain ⟨kns, e3, _⟩ := rows_of kno_in r3 a3
    have l0 : r0.length = accs.length := by simpa using congrArg List.length e0
    have l1 : r1.length = pays.length := by simpa using congrArg List.length e1
    have l2 : r2.length = sags.length := by simpa using congrArg List.length e2
    have l3 : r3.length = kns.length := by simpa using congrArg List.length e3
    rw [e0] at b0; rw [e1] at b1; rw [e2] at b2; rw [e3] at b3
    have hw' : ∀ m ∈ (y0.1.weights Try.prog 22 ++ (y1.1.weights Try.prog 23 ++ (y2.1.weights Try.prog 24 ++ (y3.1.weights Try.prog 25 ++ (y4.1.weights Try.prog 3 ++ []))))), m ≤ reachBytes := by
      intro m hm
      apply hw m
      simp only [DataW.weights, Try.underlying27]
      exact hm
    have z0 := w0 fun m hm => hw' m (by simp [hm])
    have z1 := w1 fun m hm => hw' m (by simp [hm])
    have z2 := w2 fun m hm => hw' m (by simp [hm])
    have z3 := w3 fun m hm => hw' m (by simp [hm])
    have s0 : Try.prog.bytesOf 39 = 24 := by kernel_rfl
    have s1 : Try.prog.bytesOf 58 = 64 := by kernel_rfl
    have s2 : Try.prog.bytesOf 62 = 88 := by kernel_rfl
    have s3 : Try.prog.bytesOf 53 = 80 := by kernel_rfl
    rw [s0, l0] at z0; rw [s1, l1] at z1; rw [s2, l2] at z2; rw [s3, l3] at z3
    have hr : reachBytes < 2 ^ 47 := reachBytes_lt
    refine ⟨⟨accs, pays, sags, kns, now⟩, ?_, ⟨by simp; omega, by simp; omega, by simp; omega, by simp; omega, by simp; omega⟩⟩
    refine V.agg _ [v0, v1, v2, v3, .int .i64 now] rfl ?_
    intro i x u hx hu
    match i, hx, hu with
    | 0, hx, hu => cases hx; cases hu; exact b0
    | 1, hx, hu => cases hx; cases hu; exact b1
    | 2, hx, hu => cases hx; cases hu; exact b2
    | 3, hx, hu => cases hx; cases hu; exact b3
    | 4, hx, hu => cases hx; cases hu; exact .int _ _
end Go.Proofs.Ytladmojeadggiaa.A
