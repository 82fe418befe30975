/- Seat 13: heap.Push, heap.Pop. -/
import Derived.Test.YtgikhdaildaonaaB9
namespace Go.Proofs.Ytgikhdaildaonaa.A
open Go P
noncomputable def J2 : FuncId → Option StSpec
  | 20 => some jUpS
  | 21 => some jDownS
  | n => J1 n
theorem J2_ok : JOk Try.prog tab J2 := by
  intro f j h
  unfold J2 at h
  split at h
  · cases h; exact up_okS
  · cases h; exact down_okS
  · exact J1_ok _ _ h
def jHPushS : StSpec := fun args s K => ∃ (l : List P2) (u k : Int), args = [.ifc 45 (.ptr 8 0), .ifc 50 (item u k)] ∧ l.length < 90000 ∧ Hp l l.length ∧ s.h 8 = rowB l ∧
  ∀ s' l', Fr s s' → s'.h 8 = rowB l' → l'.Perm (l ++ [(u, k)]) → Hp l' l'.length → K (.tup []) s'
set_option maxRecDepth 20000 in
theorem hpush_okS : SOk Try.prog tab 17 jHPushS := by
  refine SOk.mono (inl_ok (E := E1 J2 17000 pl17) tab_is (E1_C _ _ _) J2_ok Try.func17 (by kernel_rfl) rfl (by kernel_rfl)) ?_
  rintro args ⟨t, hp⟩ K ⟨l, u, k, rfl, hN, hH, h8, hK⟩
  have h8 : hp 8 = rowB l := h8
  refine inl_go rfl (wp_told [] [(8, rowB l)] trivial ⟨h8, trivial⟩ ?_)
  refine ⟨l, u, k, rfl, by omega, rfl, ?_⟩
  rintro ⟨t2, h2⟩ hF h8'
  have h8' : h2 8 = rowB (l ++ [(u, k)]) := h8'
  have f0 : t2 0 = .ifc 45 (.ptr 8 0) := hF.1 0 rfl
  have hU2 : Un ⟨t, hp⟩ ⟨t2, h2⟩ := un_fr (s := ⟨_, _⟩) (by
    iterate 2 refine un_put rfl ?_
    exact un_told (l := []) trivial ⟨h8, trivial⟩ (un_push _ _)) hF
  rw [← updL_has t2 [(0, .ifc 45 (.ptr 8 0))] ⟨f0, trivial⟩, ← updL_has h2 [(8, rowB (l ++ [(u, k)]))] ⟨h8', trivial⟩]
  have hU2 : Un ⟨t, hp⟩ ⟨t2, updL h2 [(8, rowB (l ++ [(u, k)]))]⟩ := un_told (l := []) trivial ⟨h8', trivial⟩ hU2
  have w : IntKind.i64.wrap ((((l ++ [(u, k)]).map itemA).length : Int) - 1) = (l.length : Int) := by
    rw [wrap_of] <;> simp <;> omega
  refine ⟨l ++ [(u, k)], l.length, congrArg (fun n => [AV.ifc 45 (.ptr 8 0), AV.int .i64 n]) w, by simp; omega, by simp, ?_, rfl, ?_⟩
  · have := hup_push (u, k) hH
    simpa using this
  rintro ⟨t3, h3⟩ l' hF3 h8'' hP hH'
  have h8'' : h3 8 = rowB l' := h8''
  refine ⟨_, rfl, ?_⟩
  refine hK _ l' ?_ ?_ hP hH'
  · refine un_put rfl ?_
    refine un_fr (s := ⟨_, _⟩) ?_ hF3
    repeat refine un_put rfl ?_
    exact hU2
  · exact h8''
def jHPopS : StSpec := fun args s K => ∃ (l : List P2), args = [.ifc 45 (.ptr 8 0)] ∧ l.length < 90000 ∧ 0 < l.length ∧ Hp l l.length ∧ s.h 8 = rowB l ∧
  ∀ s' l' x, Fr s s' → s'.h 8 = rowB l' → l.Perm (x :: l') → Hp l' l'.length → (∀ y ∈ l', ¬ lt y x) → K (.ifc 50 (itemA x)) s'
set_option maxRecDepth 20000 in
theorem hpop_okS : SOk Try.prog tab 19 jHPopS := by
  refine SOk.mono (inl_ok (E := E1 J2 19000 pl19) tab_is (E1_C _ _ _) J2_ok Try.func19 (by kernel_rfl) rfl (by kernel_rfl)) ?_
  rintro args ⟨t, hp⟩ K ⟨l, rfl, hN, h0, hH, h8, hK⟩
  have h8 : hp 8 = rowB l := h8
  obtain ⟨m, hm⟩ : ∃ m, l.length = m + 1 := ⟨l.length - 1, by omega⟩
  refine inl_go rfl (wp_told [] [(8, rowB l)] trivial ⟨h8, trivial⟩ ?_)
  have w : IntKind.i64.wrap (((l.map itemA).length : Int) - 1) = (m : Int) := by
    rw [wrap_of] <;> simp <;> omega
  refine ⟨l, 0, m, congrArg (fun n => [AV.sl (.own 7000) 50 (l.map itemA), AV.int .i64 0, AV.int .i64 n]) w, h0, by omega, rfl, ?_⟩
  rintro ⟨t2, h2⟩ hF h8'
  have h8' : h2 8 = rowB (swp l 0 m) := h8'
  have f0 : t2 0 = .ifc 45 (.ptr 8 0) := hF.1 0 rfl
  have f3 : t2 3 = .int .i64 (IntKind.i64.wrap (((l.map itemA).length : Int) - 1)) := hF.1 3 rfl
  rw [w] at f3
  have hU2 : Un ⟨t, hp⟩ ⟨t2, h2⟩ := un_fr (s := ⟨_, _⟩) (by
    iterate 7 refine un_put rfl ?_
    exact un_told (l := []) trivial ⟨h8, trivial⟩ (un_push _ _)) hF
  rw [← updL_has t2 [(0, .ifc 45 (.ptr 8 0)), (3, .int .i64 m)] ⟨f0, f3, trivial⟩, ← updL_has h2 [(8, rowB (swp l 0 m))] ⟨h8', trivial⟩]
  have hU2 : Un ⟨t, hp⟩ ⟨t2, updL h2 [(8, rowB (swp l 0 m))]⟩ := un_told (l := []) trivial ⟨h8', trivial⟩ hU2
  refine ⟨swp l 0 m, m, rfl, by rw [swp_len]; omega, by rw [swp_len]; omega, hdn_pop hm (hm ▸ hH), rfl, ?_⟩
  rintro ⟨t3, h3⟩ l3 b hF3 h83 hP3 hA3 hH3
  have h83 : h3 8 = rowB l3 := h83
  have g0 : t3 0 = .ifc 45 (.ptr 8 0) := hF3.1 0 rfl
  have hU3 : Un ⟨t, hp⟩ ⟨t3, h3⟩ := un_fr (s := ⟨_, _⟩) (by
    repeat refine un_put rfl ?_
    exact hU2) hF3
  have hL3 : l3.length = m + 1 := by rw [hP3.length_eq, swp_len, hm]
  have hx : at' l3 m = at' l 0 := by
    rw [hA3 m (Nat.le_refl _), at_swp h0 (by omega), if_pos rfl]
  have hs : l3 = l3.take m ++ [at' l 0] := by
    have e1 : l3.drop m = [l3[m]'(by omega)] := by
      rw [List.drop_eq_getElem_cons (by omega), List.drop_of_length_le (by omega)]
    calc l3 = l3.take m ++ l3.drop m := (List.take_append_drop m l3).symm
      _ = _ := by rw [e1, ← at_eq, hx]
  have hp4 : h3 8 = rowB (l3.take m ++ [at' l 0]) := by rw [← hs]; exact h83
  rw [← updL_has t3 [(0, .ifc 45 (.ptr 8 0))] ⟨g0, trivial⟩, ← updL_has h3 [(8, rowB (l3.take m ++ [at' l 0]))] ⟨hp4, trivial⟩]
  have hU3 : Un ⟨t, hp⟩ ⟨t3, updL h3 [(8, rowB (l3.take m ++ [at' l 0]))]⟩ := un_told (l := []) trivial ⟨hp4, trivial⟩ hU3
  refine ⟨l3.take m, at' l 0, rfl, by simp; omega, rfl, ?_⟩
  rintro ⟨t4, h4⟩ hF4 h84
  have h84 : h4 8 = rowB (l3.take m) := h84
  refine ⟨_, rfl, ?_⟩
  have hPl : l.Perm (at' l 0 :: l3.take m) := by
    refine (swp_perm (i := 0) (k := m) h0 (by omega)).symm.trans (hP3.symm.trans ?_)
    exact (List.Perm.of_eq hs).trans (List.perm_append_singleton _ _)
  refine hK _ (l3.take m) (at' l 0) ?_ h84 hPl ?_ ?_
  · repeat refine un_put rfl ?_
    refine un_fr (s := ⟨_, _⟩) ?_ hF4
    repeat refine un_put rfl ?_
    exact hU3
  · have e : (l3.take m).length = m := by simp; omega
    rw [e]
    exact hp_take hH3 (fun j hj => by simp [at', hj])
  · intro y hy
    have : y ∈ l := hPl.mem_iff.2 (List.mem_cons_of_mem _ hy)
    obtain ⟨i, hi, rfl⟩ := List.getElem_of_mem this
    rw [← at_eq hi]
    exact root hH i hi
end Go.Proofs.Ytgikhdaildaonaa.A
