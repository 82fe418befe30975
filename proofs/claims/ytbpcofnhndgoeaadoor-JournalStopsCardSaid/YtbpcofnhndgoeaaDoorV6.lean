/- Journals' acts as arguments. -/
import Derived.Test.YtbpcofnhndgoeaaDoorV5
import Derived.Test.YtbpcofnhndgoeaaDoorJL4
namespace Go.Proofs.YtbpcofnhndgoeaaDoor.A
open Go Q
variable {H : Type} {enc : TypeId × Value → H} {W : World}
theorem u8_el : ∀ (m : Nat) (cs : List Value) (y : DataW H × List MemPlace), DataW.trod enc Tryd.prog W 0 (fun _ => true) true m 5 cs = some y → cs.length = tab.size 5 → ∃ r : AV, (∃ n, r = AV.int .u8 n ∧ u8I n) ∧ VL tab (cx0 W) r.cells cs ∧ (∀ u ∈ cs, u.oneCell' = true) ∧ ∀ a ∈ r.cells, a.flat = true :=
  plain_el (T := tab) (P := Tryd.prog) tab_is kindsU8 fun r hr => by
    obtain ⟨n, h, h'⟩ := u8_in r hr
    exact ⟨n, h, h'⟩
theorem by8_el : ∀ (m : Nat) (cs : List Value) (y : DataW H × List MemPlace), DataW.trod enc Tryd.prog W 0 (fun _ => true) true m 22 cs = some y → cs.length = tab.size 22 → ∃ r : AV, (∃ l, r = by8 l ∧ byteL l) ∧ VL tab (cx0 W) r.cells cs ∧ (∀ u ∈ cs, u.oneCell' = true) ∧ ∀ a ∈ r.cells, a.flat = true := by
  intro m cs y h hl
  obtain ⟨r, ⟨rows, hr, ha⟩, h2⟩ := slices_el (T := tab) (P := Tryd.prog) (enc := enc) (W := W) (t := 22) (e := 5) tab_is (by kernel_rfl) (Nat.le_of_eq (show tab.size 5 = 1 by kernel_rfl).symm) (by kernel_rfl) u8_el m cs y h hl
  obtain ⟨l, rfl, hb⟩ := all_of1 (f := AV.int .u8) (g := fun c => 0 ≤ c ∧ c < 256) (P := fun r => ∃ n, r = AV.int .u8 n ∧ u8I n) (fun r ⟨n, hn, hu⟩ => ⟨n, hn, hu.1, by have := hu.2; omega⟩) rows ha
  exact ⟨r, ⟨l, hr, hb⟩, h2⟩
theorem bss_el : ∀ (m : Nat) (cs : List Value) (y : DataW H × List MemPlace), DataW.trod enc Tryd.prog W 0 (fun _ => true) true m 54 cs = some y → cs.length = tab.size 54 → ∃ r : AV, (∃ l, r = bss .fz l ∧ ∀ r ∈ l, byteL r) ∧ VL tab (cx0 W) r.cells cs ∧ (∀ u ∈ cs, u.oneCell' = true) ∧ ∀ a ∈ r.cells, a.flat = true := by
  intro m cs y h hl
  obtain ⟨r, ⟨rows, hr, ha⟩, h2⟩ := slices_el (T := tab) (P := Tryd.prog) (enc := enc) (W := W) (t := 54) (e := 22) tab_is (by kernel_rfl) (Nat.le_of_eq (show tab.size 22 = 1 by kernel_rfl).symm) (by kernel_rfl) by8_el m cs y h hl
  obtain ⟨l, rfl, hb⟩ := all_of1 (f := by8) (g := byteL) (P := fun r => ∃ l, r = by8 l ∧ byteL l) (fun r ⟨n, hn, hu⟩ => ⟨n, hn, hu⟩) rows ha
  exact ⟨r, ⟨l, hr, hb⟩, h2⟩
set_option maxRecDepth 100000 in
theorem act_el : ∀ (m : Nat) (cs : List Value) (y : DataW H × List MemPlace), DataW.trod enc Tryd.prog W 0 (fun _ => true) true m 64 cs = some y → cs.length = tab.size 64 → ∃ r : AV, (∃ a : ActM, r = actA a ∧ a.In) ∧ VL tab (cx0 W) r.cells cs ∧ (∀ u ∈ cs, u.oneCell' = true) ∧ ∀ a ∈ r.cells, a.flat = true := by
  intro m cs y h hl
  have hs : tab.size 64 = 3 := by kernel_rfl
  rw [hs] at hl
  match cs, hl with
  | [v0, v1, v2], _ =>
    obtain ⟨xs, n, _, hx, _, hlen, hall⟩ := DataW.trod_struct Tryd.underlying64 h
    match xs, hlen with
    | [y0, y1, y2], _ =>
      have c0 : Tryd.prog.cellsOf 5 = 1 := by kernel_rfl
      have c1 : Tryd.prog.cellsOf 54 = 1 := by kernel_rfl
      have c2 : Tryd.prog.cellsOf 22 = 1 := by kernel_rfl
      have f0 : DataW.trod enc Tryd.prog W 0 (fun _ => true) true n 5 [v0] = some y0 := by have this : DataW.trod enc Tryd.prog W 0 (fun _ => true) true n 5 (([v0, v1, v2].drop 0).take (Tryd.prog.cellsOf 5)) = some y0 := hall 0 _ rfl; rw [c0] at this; exact this
      have f1 : DataW.trod enc Tryd.prog W 0 (fun _ => true) true n 54 [v1] = some y1 := by have this : DataW.trod enc Tryd.prog W 0 (fun _ => true) true n 54 (([v0, v1, v2].drop 1).take (Tryd.prog.cellsOf 54)) = some y1 := hall 1 _ rfl; rw [c1] at this; exact this
      have f2 : DataW.trod enc Tryd.prog W 0 (fun _ => true) true n 22 [v2] = some y2 := by have this : DataW.trod enc Tryd.prog W 0 (fun _ => true) true n 22 (([v0, v1, v2].drop 2).take (Tryd.prog.cellsOf 22)) = some y2 := hall 2 _ rfl; rw [c2] at this; exact this
      obtain ⟨r0, ⟨op, e0, u0⟩, a0, o0, l0⟩ := u8_el n _ _ f0 (show 1 = tab.size 5 by kernel_rfl)
      obtain ⟨r1, ⟨recs, e1, u1⟩, a1, o1, l1⟩ := bss_el n _ _ f1 (show 1 = tab.size 54 by kernel_rfl)
      obtain ⟨r2, ⟨bytes, e2, u2⟩, a2, o2, l2⟩ := by8_el n _ _ f2 (show 1 = tab.size 22 by kernel_rfl)
      subst e0 e1 e2
      refine ⟨actA ⟨op, recs, bytes⟩, ⟨_, rfl, ⟨u0.1, by have := u0.2; simp only; omega⟩, u1, u2⟩, VL.cons (a0.2 0 _ _ rfl rfl) (VL.cons (a1.2 0 _ _ rfl rfl) (VL.cons (a2.2 0 _ _ rfl rfl) VL.nil)), fun u hu => ?_, fun a ha => ?_⟩
      · simp only [List.mem_cons, List.not_mem_nil, or_false] at hu
        rcases hu with rfl | rfl | rfl
        · exact o0 _ (.head _)
        · exact o1 _ (.head _)
        · exact o2 _ (.head _)
      · have ha : a ∈ [AV.int .u8 op, bss .fz recs, by8 bytes] := ha
        simp only [List.mem_cons, List.not_mem_nil, or_false] at ha
        rcases ha with rfl | rfl | rfl <;> rfl
set_option maxRecDepth 100000 in
theorem acts_in {b0 : Nat} {v : Value} {d : DataW H} {ps : List MemPlace} (hok : Value.okWide Tryd.prog W .any b0 62 v) (h : DataW.Trod enc Tryd.prog W 0 (fun _ => true) true 62 v d ps) :
    ∃ l : List ActM, V tab (cx0 W) (.sl .fz 64 (l.map actA)) v ∧ ∀ a ∈ l, a.In := by
  have hu : Tryd.prog.underlying 62 = some (.slice 64) := (tab_is.slice 62 64 (by kernel_rfl)).1
  obtain ⟨a, len, cap, rfl⟩ := WideShapes.okWide_slice hu hok
  obtain ⟨fuel, hf⟩ := h
  obtain ⟨rows, h1, h2, _⟩ := slice_gen (T := tab) (P := Tryd.prog) (t := 62) (e := 64) tab_is (by kernel_rfl) (by rw [show tab.size 64 = 3 by kernel_rfl]; decide) act_el hf
  obtain ⟨l, rfl, hb⟩ := all_of1 (f := actA) (g := ActM.In) (P := fun r => ∃ a : ActM, r = actA a ∧ a.In) (fun r ⟨n, hn, hu⟩ => ⟨n, hn, hu⟩) rows h1
  exact ⟨l, h2, hb⟩
end Go.Proofs.YtbpcofnhndgoeaaDoor.A
