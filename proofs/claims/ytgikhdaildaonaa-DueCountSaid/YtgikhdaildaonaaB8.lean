/- Seat 13: up. -/
import Derived.Test.YtgikhdaildaonaaB7
namespace Go.Proofs.Ytgikhdaildaonaa.A
open Go P
noncomputable def J1 : FuncId → Option StSpec
  | 18 => some jLen
  | 38 => some jLess
  | 41 => some jSwapS
  | 40 => some jPushS
  | 39 => some jPopS
  | _ => none
theorem J1_ok : JOk Try.prog tab J1 := by
  intro f j h
  unfold J1 at h
  split at h <;> first | (cases h; done) | (cases h; assumption) | skip
  · cases h; exact len_ok
  · cases h; exact less_ok
  · cases h; exact swap_okS
  · cases h; exact push_okS
  · cases h; exact pop_okS
noncomputable def E1 (J : FuncId → Option StSpec) (D : Nat) (pl : Nat → Plan) : En := ⟨tab, fun _ _ _ _ => False, J, D, pl⟩
theorem E1_C (J : FuncId → Option StSpec) (D : Nat) (pl : Nat → Plan) : CallOk Try.prog (E1 J D pl).T (E1 J D pl).R := fun _ _ _ _ h => h.elim
def jUpS : StSpec := fun args s K => ∃ (l : List P2) (j : Nat), args = [.ifc 45 (.ptr 8 0), .int .i64 j] ∧ l.length < 100000 ∧ j < l.length ∧ HUp l l.length j ∧ s.h 8 = rowB l ∧
  ∀ s' l', Fr s s' → s'.h 8 = rowB l' → l'.Perm l → Hp l' l'.length → K (.tup []) s'
theorem less_iff (p q : P2) : less p.1 p.2 q.1 q.2 = true ↔ lt p q := by
  unfold less lt; simp
theorem less_false {p q : P2} (h : less p.1 p.2 q.1 q.2 = false) : ¬ lt p q := by
  rw [← less_iff, h]; simp
theorem half (j : Nat) (hj : j < 100000) : IntKind.i64.wrap ((IntKind.i64.wrap ((j : Int) - 1)).tdiv 2) = (((j - 1) / 2 : Nat) : Int) := by
  cases j with
  | zero => decide
  | succ k =>
    have e : ((k + 1 : Nat) : Int) - 1 = (k : Int) := by omega
    rw [e, wrap_of (n := (k : Int)) (by omega) (by omega), Int.tdiv_eq_ediv_of_nonneg (by omega), wrap_of] <;> omega
set_option maxRecDepth 20000 in
theorem up_okS : SOk Try.prog tab 20 jUpS := by
  refine SOk.mono (inl_ok (E := E1 J1 20000 pl20) tab_is (E1_C _ _ _) J1_ok Try.func20 (by kernel_rfl) rfl (by kernel_rfl)) ?_
  rintro args ⟨t, hp⟩ K ⟨l0, j0, rfl, hN, hj0, hH, h8, hK⟩
  have h8 : hp 8 = rowB l0 := h8
  refine inl_go rfl ?_
  refine ⟨fun n s => ∃ (l : List P2) (j : Nat), (HUp l l.length j ∧ j < l.length ∧ l.length < 100000 ∧ l.Perm l0) ∧ j = n ∧ Un ⟨t, hp⟩ s ∧ s.t 0 = .ifc 45 (.ptr 8 0) ∧ s.t 1 = .int .i64 j ∧ s.h 8 = rowB l,
    ⟨_, l0, j0, ⟨hH, hj0, hN, .refl _⟩, rfl, un_push _ _, rfl, rfl, h8⟩, ?_⟩
  rintro _ ⟨t1, h1⟩ ⟨l, j, ⟨hH, hj, hN, hP⟩, rfl, hU, e0, e1, h8⟩
  have e0 : t1 0 = .ifc 45 (.ptr 8 0) := e0
  have e1 : t1 1 = .int .i64 j := e1
  have h8 : h1 8 = rowB l := h8
  have wi : IntKind.i64.wrap ((IntKind.i64.wrap ((j : Int) - 1)).tdiv 2) = (((j - 1) / 2 : Nat) : Int) := by
    exact half j (by omega)
  have hi : (j - 1) / 2 < l.length := by omega
  rw [← updL_has t1 [(0, .ifc 45 (.ptr 8 0)), (1, .int .i64 j)] ⟨e0, e1, trivial⟩, ← updL_has h1 [(8, rowB l)] ⟨h8, trivial⟩]
  have hU : Un ⟨t, hp⟩ ⟨updL t1 [(0, .ifc 45 (.ptr 8 0)), (1, .int .i64 j)], updL h1 [(8, rowB l)]⟩ := un_told ⟨e0, e1, trivial⟩ ⟨h8, trivial⟩ hU
  have g2 : 0 ≤ IntKind.i64.wrap ((IntKind.i64.wrap ((j : Int) - 1)).tdiv 2) := by rw [wi]; omega
  have g3 : (l.map itemA)[(IntKind.i64.wrap ((IntKind.i64.wrap ((j : Int) - 1)).tdiv 2)).toNat]? = some (item (at' l ((j - 1) / 2)).1 (at' l ((j - 1) / 2)).2) := by rw [wi]; exact map_get hi
  refine ⟨by decide, ?_⟩
  have fin : ∀ s', Un ⟨t, hp⟩ s' → (popS s').h 8 = rowB l → Hp l l.length → K (.tup []) (popS s') := fun s' hu hh hp => hK _ l hu hh hP hp
  constructor
  · intro hb
    have hz : j = 0 := by
      have : IntKind.i64.wrap ((IntKind.i64.wrap ((j : Int) - 1)).tdiv 2) = (j : Int) := by simpa using hb
      rw [wi] at this; omega
    refine ⟨fun _ => ?_, fun h => by cases h⟩
    refine ⟨_, rfl, ?_⟩
    refine fin _ ?_ ?_ (up_end hH (.inl hz))
    rotate_left
    · rfl
    iterate 15 refine un_put rfl ?_
    exact hU
  · intro hb
    have hz : 0 < j := by
      have : ¬ IntKind.i64.wrap ((IntKind.i64.wrap ((j : Int) - 1)).tdiv 2) = (j : Int) := by simpa using hb
      rw [wi] at this; omega
    refine ⟨_, _, _, _, Int.natCast_nonneg j, g2, map_get hj, g3, ?_⟩
    constructor
    · intro hc
      have hlt : ¬ lt (at' l j) (at' l ((j - 1) / 2)) := less_false (by simpa using hc)
      refine ⟨_, rfl, ?_⟩
      refine fin _ ?_ ?_ (up_end hH (.inr hlt))
      rotate_left
      · rfl
      iterate 15 refine un_put rfl ?_
      exact hU
    · intro hc
      have hlt : lt (at' l j) (at' l ((j - 1) / 2)) := (less_iff _ _).1 (by simpa using hc)
      refine ⟨l, (j - 1) / 2, j, congrArg (fun n => [AV.sl (.own 7000) 50 (l.map itemA), AV.int .i64 n, AV.int .i64 (j : Int)]) wi, hi, hj, rfl, ?_⟩
      rintro ⟨t2, h2⟩ hF h8'
      have h8' : h2 8 = rowB (swp l ((j - 1) / 2) j) := h8'
      have f0 : t2 0 = .ifc 45 (.ptr 8 0) := hF.1 0 rfl
      have f4 : t2 4 = .int .i64 (IntKind.i64.wrap ((IntKind.i64.wrap ((j : Int) - 1)).tdiv 2)) := hF.1 4 rfl
      rw [wi] at f4
      have hU2 : Un ⟨t, hp⟩ ⟨t2, h2⟩ := un_fr (s := ⟨_, _⟩) (by
        iterate 18 refine un_put rfl ?_
        exact hU) hF
      rw [← updL_has t2 [(0, .ifc 45 (.ptr 8 0)), (4, .int .i64 ((j - 1) / 2 : Nat))] ⟨f0, f4, trivial⟩, ← updL_has h2 [(8, rowB (swp l ((j - 1) / 2) j))] ⟨h8', trivial⟩]
      have hU2 : Un ⟨t, hp⟩ ⟨updL t2 [(0, .ifc 45 (.ptr 8 0)), (4, .int .i64 ((j - 1) / 2 : Nat))], updL h2 [(8, rowB (swp l ((j - 1) / 2) j))]⟩ := un_told ⟨f0, f4, trivial⟩ ⟨h8', trivial⟩ hU2
      refine ⟨_, (by omega : (j - 1) / 2 < j), swp l ((j - 1) / 2) j, (j - 1) / 2, ⟨?_, ?_, ?_, ?_⟩, rfl, ?_, rfl, rfl, rfl⟩
      · rw [swp_len]; exact up_step rfl hH hz hj hlt
      · rw [swp_len]; exact hi
      · rw [swp_len]; exact hN
      · exact (swp_perm hi hj).trans hP
      · refine un_put rfl (un_put rfl (un_put rfl ?_))
        exact hU2
end Go.Proofs.Ytgikhdaildaonaa.A
