/- A slice that came in, as a cell. -/
import Derived.Test.YtmlgkojmbnjfbaaDoorA14
import Derived.SizedLaws
namespace Go.Proofs.YtmlgkojmbnjfbaaDoor.A
open Go
variable {P : Program}
/-- A slice in a cell. -/
theorem slice_cell_in2 {T : Tab} (hT : TabOk P T) {H : Type} {enc : TypeId × Value → H} {W : World} {t e : TypeId} {n b0 fuel : Nat} {ks : List LK} {v : Value} {x : DataW H × List MemPlace} (hd : T.desc t = .slice e) (hk : kindsA T n e = some ks)
    (hok : Cell.okWide P W .any b0 t v) (hf : DataW.trod enc P W 0 (fun _ => true) true fuel t [v] = some x) : ∃ rows : List (List AV), (∀ r ∈ rows, FitA ks r) ∧ V T (cx0 W) (.sl .fz e (rows.map (wrapT T e))) v ∧ ((∀ m ∈ x.1.weights P t, m ≤ reachBytes) → rows.length * P.bytesOf e ≤ reachBytes) ∧ (rows.length = 0 ∨ ∃ elems rest, x.1 = .slice elems rest ∧ elems.length = rows.length) := by
  have hu := (hT.slice t e hd).1
  obtain ⟨a, len, cap, rfl⟩ : ∃ a len cap, v = .slice a len cap := by
    simp only [Cell.okWide, hu] at hok
    cases v <;> simp_all [Cell.ok]
  have hkn := kinds_known hk
  have hce : P.cellsOf e = ks.length := (cells_size hT hkn.1).trans hkn.2
  rcases DataW.trod_slice hu hf with ⟨h0, _⟩ | ⟨a', len', cap', elems, rest, m, _, h0, hx, _, hl, hm, hlen, hel, _⟩
  · simp at h0
    obtain ⟨rfl, rfl, rfl⟩ := h0
    exact ⟨[], fun r h => by simp at h, .nilsl _ _, fun _ => by simp, .inl rfl⟩
  · simp at h0
    obtain ⟨rfl, rfl, rfl⟩ := h0
    have hhas : a'.spot = none ∧ ∃ row cells, W.shape? a'.block = some (row, cells) := by
      simp only [hu, Cell.okWide, Cell.ok] at hok
      exact ⟨hok.2.2.2.1, by obtain ⟨row, cells, h, _⟩ := hok.2.2.2.2; exact ⟨row, cells, h⟩⟩
    obtain ⟨hs, row, cells, hsh⟩ := hhas
    obtain ⟨g, o, spot⟩ := a'
    obtain rfl : spot = none := hs
    have hg : g < W.heap.size := by
      unfold World.shape? at hsh
      split at hsh
      · rename_i c el _ hh
        exact (Array.getElem?_eq_some_iff.1 hh).1
      · cases hsh
    have each : ∀ i, i < len → ∃ us avs, us.length = ks.length ∧ (∀ j u, us[j]? = some u → W.cell? ⟨g, o + (i * ks.length + j), none⟩ = some u) ∧ FitA ks avs ∧ VL T (cx0 W) avs us ∧ (∀ u ∈ us, u.oneCell' = true) ∧ ∀ a ∈ avs, a.flat = true ∧ a.isCell = true ∧ a.cells = [a] := by
      intro i hi
      have h1 := hel i hi
      have hei : elems[i]? = some (elems[i]'(by omega)) := List.getElem?_eq_getElem _
      rw [hei, Option.bind_eq_some_iff] at h1
      obtain ⟨cs, hcs, htr⟩ := h1
      obtain ⟨_, hcl, hcc⟩ := World.cells?_some hcs
      obtain ⟨avs, q1, q2, q3, q4⟩ := fit_av (T := T) (c := cx0 W) (fit_trod hT hk htr)
      refine ⟨cs, avs, by rw [hcl, hce], fun j u hj => ?_, q1, q2, q3, q4⟩
      have hjl : j < P.cellsOf e := by rw [← hcl]; exact (List.getElem?_eq_some_iff.1 hj).1
      have := hcc j hjl
      rw [hj, hce] at this
      have e1 : ∀ (x y : Nat), (⟨g, x, none⟩ : Addr).add y = ⟨g, x + y, none⟩ := fun x y => by unfold Addr.add; split <;> simp_all
      rw [e1, e1, Nat.add_assoc] at this
      exact this
    have build : ∀ m, m ≤ len → ∃ (us : List Value) (rows : List (List AV)), us.length = m * ks.length ∧ rows.length = m ∧ (∀ r ∈ rows, FitA ks r ∧ ∀ a ∈ r, a.flat = true ∧ a.isCell = true ∧ a.cells = [a]) ∧ (∀ j u, us[j]? = some u → W.cell? ⟨g, o + j, none⟩ = some u) ∧ (∀ u ∈ us, u.oneCell' = true) ∧
        ∀ (i : Nat) (r : List AV) (j : Nat) (y : AV) (u : Value), rows[i]? = some r → r[j]? = some y → us[i * ks.length + j]? = some u → V T (cx0 W) y u := by
      intro m
      induction m with
      | zero => intro _; exact ⟨[], [], by simp, rfl, fun r h => by simp at h, fun j u h => by simp at h, fun u h => by simp at h, fun i r j y u h => by simp at h⟩
      | succ m ih =>
        intro hm
        obtain ⟨us, rows, i1, i2, i3, i4, i5, i6⟩ := ih (by omega)
        obtain ⟨vs, avs, e1, e2, e3, e4, e5, e6⟩ := each m (by omega)
        refine ⟨us ++ vs, rows ++ [avs], ?_, by simp [i2], ?_, ?_, ?_, ?_⟩
        · rw [List.length_append, i1, e1, Nat.succ_mul]
        · intro r hr
          rcases List.mem_append.1 hr with hr | hr
          · exact i3 r hr
          · rcases List.mem_singleton.1 hr with rfl
            exact ⟨e3, e6⟩
        · intro j u hj
          by_cases hjl : j < us.length
          · rw [List.getElem?_append_left hjl] at hj; exact i4 j u hj
          · rw [List.getElem?_append_right (by omega)] at hj
            have := e2 _ u hj
            rw [i1] at this
            rwa [show m * ks.length + (j - m * ks.length) = j by omega] at this
        · intro u hu
          rcases List.mem_append.1 hu with hu | hu
          · exact i5 u hu
          · exact e5 u hu
        · intro i r j y u hr hy hu
          by_cases hi : i < rows.length
          · rw [List.getElem?_append_left hi] at hr
            have hrk := (i3 r (List.mem_of_getElem? hr)).1.len
            have hj : j < ks.length := by rw [← hrk]; exact (List.getElem?_eq_some_iff.1 hy).1
            have : i * ks.length + j < us.length := by
              rw [i1]
              calc i * ks.length + j < i * ks.length + ks.length := by omega
                _ = (i + 1) * ks.length := by rw [Nat.succ_mul]
                _ ≤ m * ks.length := Nat.mul_le_mul_right _ (by omega)
            rw [List.getElem?_append_left this] at hu
            exact i6 i r j y u hr hy hu
          · rw [List.getElem?_append_right (by omega)] at hr
            have hi0 : i - rows.length = 0 := by
              have := (List.getElem?_eq_some_iff.1 hr).1
              simp at this; omega
            have him : i = m := by omega
            rw [hi0] at hr
            cases hr
            subst him
            rw [List.getElem?_append_right (by rw [i1]; omega), i1, show i * ks.length + j - i * ks.length = j by omega] at hu
            exact e4.2 j y u hy hu
    obtain ⟨us, rows, b1, b2, b3, b4, b5, b6⟩ := build len (Nat.le_refl _)
    refine ⟨rows, fun r hr => (b3 r hr).1, ?_, fun hw => ?_, .inr ⟨elems.map (·.1), rest.map (·.1), by rw [hx], by rw [List.length_map, b2]; omega⟩⟩
    rotate_left
    · subst hx
      have := hw ((elems.length + rest.length) * P.bytesOf e) (by simp [DataW.weights, hu])
      rw [b2, ← hlen]
      exact Nat.le_trans (Nat.mul_le_mul_right _ (Nat.le_add_right _ _)) this
    have hcell : ∀ r ∈ rows, (wrapT T e r).cells = r := fun r hr => wrap_cells hk (b3 r hr).1 (fun a ha => ((b3 r hr).2 a ha).2.2)
    have hlen' : (rows.map (wrapT T e)).length = len := by simp [b2]
    have key : ∀ (i : Nat) (x : AV), (rows.map (wrapT T e))[i]? = some x → ∃ r, rows[i]? = some r ∧ r ∈ rows ∧ x.cells = r := by
      intro i x hx
      rw [List.getElem?_map] at hx
      cases hr : rows[i]? with
      | none => rw [hr] at hx; cases hx
      | some r => rw [hr] at hx; cases hx; exact ⟨r, rfl, List.mem_of_getElem? hr, hcell r (List.mem_of_getElem? hr)⟩
    have := V.slf (T := T) (c := cx0 W) e (rows.map (wrapT T e)) g o cap us hg (by rw [hlen']; exact hl) hm (by rw [hlen', b1, hkn.2]) (fun j u hj => b4 j u hj) b5
      (fun i x hx => by obtain ⟨r, _, hr, hc⟩ := key i x hx; rw [hc, (b3 r hr).1.len, hkn.2])
      (fun i x hx j y hy => by obtain ⟨r, _, hr, hc⟩ := key i x hx; rw [hc] at hy; exact ((b3 r hr).2 y (List.mem_of_getElem? hy)).1)
      (fun i x j y u hx hy hu => by obtain ⟨r, hri, hr, hc⟩ := key i x hx; rw [hc] at hy; rw [hkn.2] at hu; exact b6 i r j y u hri hy hu)
    rwa [hlen'] at this
theorem slice_cell_in {T : Tab} (hT : TabOk P T) {H : Type} {enc : TypeId × Value → H} {W : World} {t e : TypeId} {n b0 fuel : Nat} {ks : List LK} {v : Value} {x : DataW H × List MemPlace} (hd : T.desc t = .slice e) (hk : kindsA T n e = some ks)
    (hok : Cell.okWide P W .any b0 t v) (hf : DataW.trod enc P W 0 (fun _ => true) true fuel t [v] = some x) : ∃ rows : List (List AV), (∀ r ∈ rows, FitA ks r) ∧ V T (cx0 W) (.sl .fz e (rows.map (wrapT T e))) v ∧ ((∀ m ∈ x.1.weights P t, m ≤ reachBytes) → rows.length * P.bytesOf e ≤ reachBytes) := by
  obtain ⟨rows, h1, h2, h3, _⟩ := slice_cell_in2 hT hd hk hok hf
  exact ⟨rows, h1, h2, h3⟩
end Go.Proofs.YtmlgkojmbnjfbaaDoor.A
