/- Seat 13: Swap, Push, Pop as they change the row. -/
import Derived.Test.YtgikhdaildaonaaB4
namespace Go.Proofs.Ytgikhdaildaonaa.A
open Go P
def jSwapS : StSpec := fun args s K => ∃ (l : List P2) (i k : Nat), args = [.sl (.own 7000) 50 (l.map itemA), .int .i64 i, .int .i64 k] ∧ i < l.length ∧ k < l.length ∧ s.h 8 = rowB l ∧
  ∀ s', Fr s s' → s'.h 8 = rowB (swp l i k) → K (.tup []) s'
theorem map_get {l : List P2} {i : Nat} (h : i < l.length) : (l.map itemA)[i]? = some (item (at' l i).1 (at' l i).2) := by
  rw [List.getElem?_map, List.getElem?_eq_getElem h, at_eq h]; rfl
theorem row_put (l : List P2) (i : Nat) (p : P2) : (l.map itemA).modify i (fun x => x.ofCells (putCells x.cells 0 [.int .i64 p.1, .int .i64 p.2])) = (l.set i p).map itemA := by
  apply List.ext_getElem?
  intro j
  rw [List.getElem?_modify, List.getElem?_map, List.getElem?_map, List.getElem?_set]
  by_cases h : i = j
  · subst h
    by_cases hl : i < l.length
    · simp [hl, itemA, item, AV.cells, AV.ofCells, putCells]
    · simp [hl]
  · simp [h]
theorem swap_okS : SOk Try.prog tab 41 jSwapS := by
  refine SOk.mono swap_ok ?_
  rintro args ⟨t, hp⟩ K ⟨l, i, k, rfl, hi, hk, h8, hK⟩
  have h8 : hp 8 = rowB l := h8
  refine inl_go rfl (wp_told [] [(8, rowB l)] trivial ⟨h8, trivial⟩ ?_)
  have hk' : k < (l.set i (at' l k)).length := by simp [hk]
  have g2 : (List.modify (l.map itemA) i fun x => x.ofCells (putCells x.cells 0 [.int .i64 (at' l k).1, .int .i64 (at' l k).2]))[k]? = some (item (at' (l.set i (at' l k)) k).1 (at' (l.set i (at' l k)) k).2) := by
    rw [row_put]; exact map_get hk'
  have fin : ∀ s', Un ⟨t, hp⟩ s' → (popS s').h 8 = some (.cells 47 [.sl (.own 7000) 50 (List.modify (List.modify (l.map itemA) i fun x => x.ofCells (putCells x.cells 0 [.int .i64 (at' l k).1, .int .i64 (at' l k).2])) k fun x => x.ofCells (putCells x.cells 0 [.int .i64 (at' l i).1, .int .i64 (at' l i).2]))]) → K (.tup []) (popS s') := by
    intro s' hu hh
    refine hK _ hu ?_
    rw [hh, row_put, row_put]
    rfl
  refine ⟨_, Int.natCast_nonneg k, map_get hk, ?_⟩
  refine ⟨_, Int.natCast_nonneg i, map_get hi, ?_⟩
  constructor
  · refine ⟨_, Int.natCast_nonneg i, map_get hi, ?_⟩
    refine ⟨_, Int.natCast_nonneg k, g2, ?_⟩
    refine ⟨_, rfl, ?_⟩
    refine fin _ ?_ ?_
    rotate_left
    · rfl
    refine un_map gd_wrt (un_put rfl (un_map gd_wrt (un_put rfl ?_)))
    iterate 12 refine un_put rfl ?_
    exact un_told trivial ⟨h8, trivial⟩ (un_push _ _)
  · refine ⟨_, Int.natCast_nonneg i, map_get hi, ?_⟩
    refine ⟨_, Int.natCast_nonneg k, g2, ?_⟩
    refine ⟨_, rfl, ?_⟩
    refine fin _ ?_ ?_
    rotate_left
    · rfl
    refine un_map gd_wrt (un_put rfl (un_map gd_wrt (un_put rfl ?_)))
    iterate 12 refine un_put rfl ?_
    exact un_told trivial ⟨h8, trivial⟩ (un_push _ _)
end Go.Proofs.Ytgikhdaildaonaa.A
