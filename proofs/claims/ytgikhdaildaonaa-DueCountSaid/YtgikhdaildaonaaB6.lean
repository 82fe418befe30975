/- Seat 13: Push, Pop as they change the row. -/
import Derived.Test.YtgikhdaildaonaaB5
namespace Go.Proofs.Ytgikhdaildaonaa.A
open Go P
def jPushS : StSpec := fun args s K => ∃ (l : List P2) (u k : Int), args = [.ptr 8 0, .ifc 50 (item u k)] ∧ l.length < 100000 ∧ s.h 8 = rowB l ∧
  ∀ s', Fr s s' → s'.h 8 = rowB (l ++ [(u, k)]) → K (.tup []) s'
set_option maxRecDepth 20000 in
theorem push_okS : SOk Try.prog tab 40 jPushS := by
  refine SOk.mono push_ok ?_
  rintro args ⟨t, hp⟩ K ⟨l, u, k, rfl, hl, h8, hK⟩
  have h8 : hp 8 = rowB l := h8
  refine inl_go rfl (wp_told [] [(8, rowB l)] trivial ⟨h8, trivial⟩ ?_)
  have fin : ∀ s', Un ⟨t, hp⟩ s' → (popS s').h 8 = some (.cells 47 [.sl (.own 7000) 50 (l.map itemA ++ [item u k])]) → K (.tup []) (popS s') := by
    intro s' hu hh
    refine hK _ hu ?_
    rw [hh]
    simp [rowB, itemA]
  have hb : ((l.map itemA).length + 1) * 16 ≤ 140737488355328 := by simp; omega
  refine ⟨rfl, ?_⟩
  constructor
  · refine ⟨hb, ?_⟩
    refine ⟨_, rfl, ?_⟩
    refine fin _ ?_ ?_
    rotate_left
    · rfl
    refine un_box8 (un_put rfl (un_put rfl (un_map (gd_drp rfl) (un_put rfl (un_map (gd_drp (F := 40010000) rfl) ?_)))))
    iterate 6 refine un_put rfl ?_
    exact un_told trivial ⟨h8, trivial⟩ (un_push _ _)
  · refine ⟨hb, ?_⟩
    refine ⟨_, rfl, ?_⟩
    refine fin _ ?_ ?_
    rotate_left
    · rfl
    refine un_box8 (un_put rfl (un_put rfl (un_map (gd_drp rfl) (un_put rfl (un_put rfl (un_map (gd_drp (F := 40010000) rfl) ?_))))))
    iterate 5 refine un_put rfl ?_
    exact un_told trivial ⟨h8, trivial⟩ (un_push _ _)
end Go.Proofs.Ytgikhdaildaonaa.A
