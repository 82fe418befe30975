/- Seat 13: down. -/
import Derived.Test.YtgikhdaildaonaaB8
namespace Go.Proofs.Ytgikhdaildaonaa.A
open Go P
def jDownS : StSpec := fun args s K => ∃ (l : List P2) (n : Nat), args = [.ifc 45 (.ptr 8 0), .int .i64 0, .int .i64 n] ∧ l.length < 100000 ∧ n ≤ l.length ∧ HDn l n 0 ∧ s.h 8 = rowB l ∧
  ∀ s' l' b, Fr s s' → s'.h 8 = rowB l' → l'.Perm l → (∀ j, n ≤ j → at' l' j = at' l j) → Hp l' n → K (.bool b) s'
set_option maxRecDepth 20000 in
theorem down_okS : SOk Try.prog tab 21 jDownS := by
  refine SOk.mono (inl_ok (E := E1 J1 21000 pl21) tab_is (E1_C _ _ _) J1_ok Try.func21 (by kernel_rfl) rfl (by kernel_rfl)) ?_
  rintro args ⟨t, hp⟩ K ⟨l0, n, rfl, hN, hn, hH, h8, hK⟩
  have h8 : hp 8 = rowB l0 := h8
  refine inl_go rfl ?_
  refine ⟨fun m s => ∃ (l : List P2) (i : Nat), (HDn l n i ∧ i ≤ n ∧ l.length = l0.length ∧ l.Perm l0 ∧ ∀ j, n ≤ j → at' l j = at' l0 j) ∧ n - i = m ∧ Un ⟨t, hp⟩ s ∧ s.t 0 = .ifc 45 (.ptr 8 0) ∧ s.t 1 = .int .i64 0 ∧ s.t 2 = .int .i64 n ∧ s.t 7 = .int .i64 i ∧ s.h 8 = rowB l,
    ⟨_, l0, 0, ⟨hH, Nat.zero_le _, rfl, .refl _, fun _ _ => rfl⟩, rfl, (un_put rfl (un_put rfl (un_put rfl (un_push _ _)))), rfl, rfl, rfl, rfl, h8⟩, ?_⟩
  rintro _ ⟨t1, h1⟩ ⟨l, i, ⟨hH, hi, hL, hP, hA⟩, rfl, hU, e0, e1, e2, e7, h8⟩
  have e0 : t1 0 = .ifc 45 (.ptr 8 0) := e0
  have e1 : t1 1 = .int .i64 0 := e1
  have e2 : t1 2 = .int .i64 n := e2
  have e7 : t1 7 = .int .i64 i := e7
  have h8 : h1 8 = rowB l := h8
  have w0 : IntKind.i64.wrap (2 * (i : Int)) = 2 * i := wrap_of (by omega) (by omega)
  have w1 : IntKind.i64.wrap (IntKind.i64.wrap (2 * (i : Int)) + 1) = ((2 * i + 1 : Nat) : Int) := by rw [w0, wrap_of] <;> omega
  have w2 : IntKind.i64.wrap (IntKind.i64.wrap (IntKind.i64.wrap (2 * (i : Int)) + 1) + 1) = ((2 * i + 2 : Nat) : Int) := by rw [w1, wrap_of] <;> omega
  have n1 : 0 ≤ IntKind.i64.wrap (IntKind.i64.wrap (2 * (i : Int)) + 1) := by rw [w1]; omega
  have n2 : 0 ≤ IntKind.i64.wrap (IntKind.i64.wrap (IntKind.i64.wrap (2 * (i : Int)) + 1) + 1) := by rw [w2]; omega
  have m1 : 2 * i + 1 < n → (l.map itemA)[(IntKind.i64.wrap (IntKind.i64.wrap (2 * (i : Int)) + 1)).toNat]? = some (item (at' l (2 * i + 1)).1 (at' l (2 * i + 1)).2) := fun h => by rw [w1]; exact map_get (by omega)
  have m2 : 2 * i + 2 < n → (l.map itemA)[(IntKind.i64.wrap (IntKind.i64.wrap (IntKind.i64.wrap (2 * (i : Int)) + 1) + 1)).toNat]? = some (item (at' l (2 * i + 2)).1 (at' l (2 * i + 2)).2) := fun h => by rw [w2]; exact map_get (by omega)
  have m0 : i < n → (l.map itemA)[((i : Int)).toNat]? = some (item (at' l i).1 (at' l i).2) := fun h => map_get (by omega)
  rw [← updL_has t1 [(0, .ifc 45 (.ptr 8 0)), (1, .int .i64 0), (2, .int .i64 n), (7, .int .i64 i)] ⟨e0, e1, e2, e7, trivial⟩, ← updL_has h1 [(8, rowB l)] ⟨h8, trivial⟩]
  have hU : Un ⟨t, hp⟩ ⟨t1, updL h1 [(8, rowB l)]⟩ := un_told (l := []) trivial ⟨h8, trivial⟩ hU
  have fin : ∀ s', Un ⟨t, hp⟩ s' → (popS s').h 8 = rowB l → Hp l n → K (.bool (decide ((i : Int) > 0))) (popS s') := fun s' hu hh hp => hK _ l _ hu hh hP hA hp
  constructor
  · intro hb
    have hz : n ≤ 2 * i + 1 := by
      have : IntKind.i64.wrap (IntKind.i64.wrap (2 * (i : Int)) + 1) ≥ (n : Int) := by simpa using hb
      rw [w1] at this; omega
    refine ⟨fun _ => ?_, fun h => by cases h⟩
    refine ⟨_, rfl, ?_⟩
    refine fin _ ?_ ?_ (down_end hH (fun c h0 hc hp => by omega))
    rotate_left
    · rfl
    repeat refine un_put rfl ?_
    exact hU
  · intro hb
    have hz : 2 * i + 1 < n := by
      have : ¬ IntKind.i64.wrap (IntKind.i64.wrap (2 * (i : Int)) + 1) ≥ (n : Int) := by simpa using hb
      rw [w1] at this; omega
    constructor
    · intro hc
      exfalso
      have : IntKind.i64.wrap (IntKind.i64.wrap (2 * (i : Int)) + 1) < 0 := by simpa using hc
      omega
    · intro _
      constructor
      · intro hd
        have hz2 : 2 * i + 2 < n := by
          have : IntKind.i64.wrap (IntKind.i64.wrap (IntKind.i64.wrap (2 * (i : Int)) + 1) + 1) < (n : Int) := by simpa using hd
          rw [w2] at this; omega
        refine ⟨_, _, _, _, n2, n1, m2 hz2, m1 hz, ?_⟩
        constructor
        · intro hl
          have hl : lt (at' l (2 * i + 2)) (at' l (2 * i + 1)) := (less_iff _ _).1 (by simpa using hl)
          have hmin : ∀ c, 0 < c → c < n → (c - 1) / 2 = i → ¬ lt (at' l c) (at' l (2 * i + 2)) := by
            intro c h0 hc hp
            rcases (by omega : c = 2 * i + 1 ∨ c = 2 * i + 2) with rfl | rfl
            · exact lt_asym hl
            · exact lt_irr
          refine ⟨_, _, _, _, n2, Int.natCast_nonneg i, m2 hz2, m0 (by omega), ?_⟩
          constructor
          · intro hq
            have hq : ¬ lt (at' l (2 * i + 2)) (at' l i) := less_false (by simpa using hq)
            refine ⟨_, rfl, ?_⟩
            refine fin _ ?_ ?_ (down_end hH (fun c h0 hc hp => le_tr (fun h => hq h) (hmin c h0 hc hp)))
            rotate_left
            · rfl
            repeat refine un_put rfl ?_
            exact hU
          · intro hq
            have hq : lt (at' l (2 * i + 2)) (at' l i) := (less_iff _ _).1 (by simpa using hq)
            refine ⟨l, i, 2 * i + 2, congrArg (fun n => [AV.sl (.own 7000) 50 (l.map itemA), AV.int .i64 (i : Int), AV.int .i64 n]) w2, by omega, by omega, rfl, ?_⟩
            rintro ⟨t2, h2⟩ hF h8'
            have h8' : h2 8 = rowB (swp l i (2 * i + 2)) := h8'
            have f0 : t2 0 = .ifc 45 (.ptr 8 0) := hF.1 0 rfl
            have f1 : t2 1 = .int .i64 0 := hF.1 1 rfl
            have f2 : t2 2 = .int .i64 n := hF.1 2 rfl
            have f9 : t2 9 = .int .i64 (IntKind.i64.wrap (IntKind.i64.wrap (IntKind.i64.wrap (2 * (i : Int)) + 1) + 1)) := hF.1 9 rfl
            rw [w2] at f9
            have hU2 : Un ⟨t, hp⟩ ⟨t2, h2⟩ := un_fr (s := ⟨_, _⟩) (by
              repeat refine un_put rfl ?_
              exact hU) hF
            rw [← updL_has t2 [(0, .ifc 45 (.ptr 8 0)), (1, .int .i64 0), (2, .int .i64 n), (9, .int .i64 (2 * i + 2 : Nat))] ⟨f0, f1, f2, f9, trivial⟩, ← updL_has h2 [(8, rowB (swp l i (2 * i + 2)))] ⟨h8', trivial⟩]
            have hU2 : Un ⟨t, hp⟩ ⟨t2, updL h2 [(8, rowB (swp l i (2 * i + 2)))]⟩ := un_told (l := []) trivial ⟨h8', trivial⟩ hU2
            refine ⟨_, (by omega : n - (2 * i + 2) < n - i), swp l i (2 * i + 2), 2 * i + 2, ⟨?_, ?_, ?_, ?_, ?_⟩, rfl, ?_, rfl, rfl, rfl, rfl, rfl⟩
            · exact down_step (by omega) hH (by omega) (by omega) (by omega) hq hmin
            · omega
            · rw [swp_len]; exact hL
            · exact (swp_perm (by omega) (by omega)).trans hP
            · intro c hc
              rw [at_swp (by omega) (by omega), if_neg (by omega), if_neg (by omega)]
              exact hA c hc
            · repeat refine un_put rfl ?_
              exact hU2
        · intro hl
          have hl : ¬ lt (at' l (2 * i + 2)) (at' l (2 * i + 1)) := less_false (by simpa using hl)
          have hmin : ∀ c, 0 < c → c < n → (c - 1) / 2 = i → ¬ lt (at' l c) (at' l (2 * i + 1)) := by
            intro c h0 hc hp
            rcases (by omega : c = 2 * i + 1 ∨ c = 2 * i + 2) with rfl | rfl
            · exact lt_irr
            · exact hl
          refine ⟨_, _, _, _, n1, Int.natCast_nonneg i, m1 hz, m0 (by omega), ?_⟩
          constructor
          · intro hq
            have hq : ¬ lt (at' l (2 * i + 1)) (at' l i) := less_false (by simpa using hq)
            refine ⟨_, rfl, ?_⟩
            refine fin _ ?_ ?_ (down_end hH (fun c h0 hc hp => le_tr (fun h => hq h) (hmin c h0 hc hp)))
            rotate_left
            · rfl
            repeat refine un_put rfl ?_
            exact hU
          · intro hq
            have hq : lt (at' l (2 * i + 1)) (at' l i) := (less_iff _ _).1 (by simpa using hq)
            refine ⟨l, i, 2 * i + 1, congrArg (fun n => [AV.sl (.own 7000) 50 (l.map itemA), AV.int .i64 (i : Int), AV.int .i64 n]) w1, by omega, by omega, rfl, ?_⟩
            rintro ⟨t2, h2⟩ hF h8'
            have h8' : h2 8 = rowB (swp l i (2 * i + 1)) := h8'
            have f0 : t2 0 = .ifc 45 (.ptr 8 0) := hF.1 0 rfl
            have f1 : t2 1 = .int .i64 0 := hF.1 1 rfl
            have f2 : t2 2 = .int .i64 n := hF.1 2 rfl
            have f9 : t2 9 = .int .i64 (IntKind.i64.wrap (IntKind.i64.wrap (2 * (i : Int)) + 1)) := hF.1 9 rfl
            rw [w1] at f9
            have hU2 : Un ⟨t, hp⟩ ⟨t2, h2⟩ := un_fr (s := ⟨_, _⟩) (by
              repeat refine un_put rfl ?_
              exact hU) hF
            rw [← updL_has t2 [(0, .ifc 45 (.ptr 8 0)), (1, .int .i64 0), (2, .int .i64 n), (9, .int .i64 (2 * i + 1 : Nat))] ⟨f0, f1, f2, f9, trivial⟩, ← updL_has h2 [(8, rowB (swp l i (2 * i + 1)))] ⟨h8', trivial⟩]
            have hU2 : Un ⟨t, hp⟩ ⟨t2, updL h2 [(8, rowB (swp l i (2 * i + 1)))]⟩ := un_told (l := []) trivial ⟨h8', trivial⟩ hU2
            refine ⟨_, (by omega : n - (2 * i + 1) < n - i), swp l i (2 * i + 1), 2 * i + 1, ⟨?_, ?_, ?_, ?_, ?_⟩, rfl, ?_, rfl, rfl, rfl, rfl, rfl⟩
            · exact down_step (by omega) hH (by omega) (by omega) (by omega) hq hmin
            · omega
            · rw [swp_len]; exact hL
            · exact (swp_perm (by omega) (by omega)).trans hP
            · intro c hc
              rw [at_swp (by omega) (by omega), if_neg (by omega), if_neg (by omega)]
              exact hA c hc
            · repeat refine un_put rfl ?_
              exact hU2
      · intro hd
        have hz2 : n ≤ 2 * i + 2 := by
          have : ¬ IntKind.i64.wrap (IntKind.i64.wrap (IntKind.i64.wrap (2 * (i : Int)) + 1) + 1) < (n : Int) := by simpa using hd
          rw [w2] at this; omega
        refine ⟨fun h => (by cases h), fun _ => ?_⟩
        · have hmin : ∀ c, 0 < c → c < n → (c - 1) / 2 = i → ¬ lt (at' l c) (at' l (2 * i + 1)) := by
            intro c h0 hc hp
            rcases (by omega : c = 2 * i + 1) with rfl
            exact lt_irr
          refine ⟨_, _, _, _, n1, Int.natCast_nonneg i, m1 hz, m0 (by omega), ?_⟩
          constructor
          · intro hq
            have hq : ¬ lt (at' l (2 * i + 1)) (at' l i) := less_false (by simpa using hq)
            refine ⟨_, rfl, ?_⟩
            refine fin _ ?_ ?_ (down_end hH (fun c h0 hc hp => le_tr (fun h => hq h) (hmin c h0 hc hp)))
            rotate_left
            · rfl
            repeat refine un_put rfl ?_
            exact hU
          · intro hq
            have hq : lt (at' l (2 * i + 1)) (at' l i) := (less_iff _ _).1 (by simpa using hq)
            refine ⟨l, i, 2 * i + 1, congrArg (fun n => [AV.sl (.own 7000) 50 (l.map itemA), AV.int .i64 (i : Int), AV.int .i64 n]) w1, by omega, by omega, rfl, ?_⟩
            rintro ⟨t2, h2⟩ hF h8'
            have h8' : h2 8 = rowB (swp l i (2 * i + 1)) := h8'
            have f0 : t2 0 = .ifc 45 (.ptr 8 0) := hF.1 0 rfl
            have f1 : t2 1 = .int .i64 0 := hF.1 1 rfl
            have f2 : t2 2 = .int .i64 n := hF.1 2 rfl
            have f9 : t2 9 = .int .i64 (IntKind.i64.wrap (IntKind.i64.wrap (2 * (i : Int)) + 1)) := hF.1 9 rfl
            rw [w1] at f9
            have hU2 : Un ⟨t, hp⟩ ⟨t2, h2⟩ := un_fr (s := ⟨_, _⟩) (by
              repeat refine un_put rfl ?_
              exact hU) hF
            rw [← updL_has t2 [(0, .ifc 45 (.ptr 8 0)), (1, .int .i64 0), (2, .int .i64 n), (9, .int .i64 (2 * i + 1 : Nat))] ⟨f0, f1, f2, f9, trivial⟩, ← updL_has h2 [(8, rowB (swp l i (2 * i + 1)))] ⟨h8', trivial⟩]
            have hU2 : Un ⟨t, hp⟩ ⟨t2, updL h2 [(8, rowB (swp l i (2 * i + 1)))]⟩ := un_told (l := []) trivial ⟨h8', trivial⟩ hU2
            refine ⟨_, (by omega : n - (2 * i + 1) < n - i), swp l i (2 * i + 1), 2 * i + 1, ⟨?_, ?_, ?_, ?_, ?_⟩, rfl, ?_, rfl, rfl, rfl, rfl, rfl⟩
            · exact down_step (by omega) hH (by omega) (by omega) (by omega) hq hmin
            · omega
            · rw [swp_len]; exact hL
            · exact (swp_perm (by omega) (by omega)).trans hP
            · intro c hc
              rw [at_swp (by omega) (by omega), if_neg (by omega), if_neg (by omega)]
              exact hA c hc
            · repeat refine un_put rfl ?_
              exact hU2
end Go.Proofs.Ytgikhdaildaonaa.A
