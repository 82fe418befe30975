/- Seat 13: Pop as it changes the row. -/
import Derived.Test.YtgikhdaildaonaaB6
namespace Go.Proofs.Ytgikhdaildaonaa.A
open Go P
def jPopS : StSpec := fun args s K => ∃ (l : List P2) (x : P2), args = [.ptr 8 0] ∧ l.length < 100000 ∧ s.h 8 = rowB (l ++ [x]) ∧
  ∀ s', Fr s s' → s'.h 8 = rowB l → K (.ifc 50 (itemA x)) s'
theorem wrap_of {n : Int} (h0 : -9223372036854775808 ≤ n) (h1 : n < 9223372036854775808) : IntKind.i64.wrap n = n := by
  simp [IntKind.wrap, IntKind.signed, IntKind.bits]; omega
set_option maxRecDepth 20000 in
theorem pop_okS : SOk Try.prog tab 39 jPopS := by
  refine SOk.mono pop_ok ?_
  rintro args ⟨t, hp⟩ K ⟨l, x, rfl, hl, h8, hK⟩
  have h8 : hp 8 = rowB (l ++ [x]) := h8
  refine inl_go rfl (wp_told [] [(8, rowB (l ++ [x]))] trivial ⟨h8, trivial⟩ ?_)
  have w : IntKind.i64.wrap ((((l ++ [x]).map itemA).length : Int) - 1) = (l.length : Int) := by
    rw [wrap_of] <;> simp <;> omega
  have w0 : 0 ≤ IntKind.i64.wrap ((((l ++ [x]).map itemA).length : Int) - 1) := by rw [w]; omega
  have w1 : ((l ++ [x]).map itemA)[(IntKind.i64.wrap ((((l ++ [x]).map itemA).length : Int) - 1)).toNat]? = some (item x.1 x.2) := by rw [w]; simp [itemA]
  have w2 : 0 ≤ (IntKind.i64.wrap ((((l ++ [x]).map itemA).length : Int) - 1)).toNat := Nat.zero_le _
  have w3 : (IntKind.i64.wrap ((((l ++ [x]).map itemA).length : Int) - 1)).toNat ≤ ((l ++ [x]).map itemA).length := by rw [w]; simp
  have fin : ∀ s', Un ⟨t, hp⟩ s' → (popS s').h 8 = some (.cells 47 [.sl (.own 7000) 50 (((l ++ [x]).map itemA).take (IntKind.i64.wrap ((((l ++ [x]).map itemA).length : Int) - 1)).toNat)]) → K (.ifc 50 (item x.1 x.2)) (popS s') := by
    intro s' hu hh
    refine hK _ hu ?_
    rw [hh, w]
    simp [rowB]
  refine ⟨_, w0, w1, ?_⟩
  refine ⟨w0, w2, w3, ?_⟩
  refine ⟨_, rfl, ?_⟩
  refine fin _ ?_ ?_
  rotate_left
  · rfl
  refine un_box8 (un_boxN rfl (un_boxN rfl ?_))
  iterate 11 refine un_put rfl ?_
  refine un_map (gd_fgt (b := 39004) rfl) ?_
  iterate 13 refine un_put rfl ?_
  exact un_told trivial ⟨h8, trivial⟩ (un_push _ _)
end Go.Proofs.Ytgikhdaildaonaa.A
