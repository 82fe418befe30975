/- Seat 13: a heap's methods. -/
import Derived.Test.YtgikhdaildaonaaB0
namespace Go.Proofs.Ytgikhdaildaonaa.A
open Go
def E0 (D : Nat) (pl : Nat → Plan) : En := ⟨tab, fun _ _ _ _ => False, fun _ => none, D, pl⟩
theorem E0_C (D : Nat) (pl : Nat → Plan) : CallOk Try.prog (E0 D pl).T (E0 D pl).R := fun _ _ _ _ h => h.elim
theorem E0_J (D : Nat) (pl : Nat → Plan) : JOk Try.prog (E0 D pl).T (E0 D pl).J := fun _ _ h => by cases h
def jLen : StSpec := fun args s K => match args with
  | [.sl _ _ xs] => K (.int .i64 xs.length) s
  | _ => False
theorem len_ok : SOk Try.prog tab 18 jLen := by
  refine SOk.mono (inl_ok (E := E0 18000 pl18) tab_is (E0_C _ _) (E0_J _ _) Try.func18 (by kernel_rfl) rfl (by kernel_rfl)) ?_
  intro args s K h
  obtain ⟨t, hp⟩ := s
  unfold jLen at h
  split at h
  · rename_i g e xs
    refine ⟨⟨t, hp⟩, pop_eq (fun j => ?_), h⟩
    rw [upd_over, upd_over, upd_over, upd_over]
    · exact push_at j
    all_goals rfl
  · exact h.elim

/-- An item is a time and a place. -/
def item (u k : Int) : AV := .agg [.int .i64 u, .int .i64 k]
def less (u k u' k' : Int) : Bool := decide (u < u') || (u == u' && decide (k < k'))
def jLess : StSpec := fun args s K => match args with
  | [.sl _ 50 xs, .int .i64 i, .int .i64 k] => ∃ u a u' a', 0 ≤ i ∧ 0 ≤ k ∧ xs[i.toNat]? = some (item u a) ∧ xs[k.toNat]? = some (item u' a') ∧ K (.bool (less u a u' a')) s
  | _ => False
theorem less_ok : SOk Try.prog tab 38 jLess := by
  refine SOk.mono (inl_ok (E := E0 38000 pl38) tab_is (E0_C _ _) (E0_J _ _) Try.func38 (by kernel_rfl) rfl (by kernel_rfl)) ?_
  intro args s K h
  obtain ⟨t, hp⟩ := s
  unfold jLess at h
  split at h
  · rename_i g xs i k
    obtain ⟨u, a, u', a', h1, h2, h3, h4, hK⟩ := h
    have fin : ∀ b, b = less u a u' a' → K (.bool b) ⟨t, hp⟩ := fun b e => e ▸ hK
    cases g
    all_goals
      refine ⟨_, h1, h3, _, h2, h4, ?_⟩
      constructor
      · intro hb
        refine ⟨⟨t, hp⟩, pop_eq (fun j => ?_), fin _ ?_⟩
        · (repeat rw [upd_over]); exact push_at j; all_goals rfl
        · simp [less, hb]
      · intro hb
        refine ⟨_, h1, h3, _, h2, h4, ?_⟩
        constructor
        · intro hc
          refine ⟨_, h1, h3, _, h2, h4, ⟨t, hp⟩, pop_eq (fun j => ?_), fin _ ?_⟩
          · (repeat rw [upd_over]); exact push_at j; all_goals rfl
          · simp [less, hb, hc]
        · intro hc
          refine ⟨⟨t, hp⟩, pop_eq (fun j => ?_), fin _ ?_⟩
          · (repeat rw [upd_over]); exact push_at j; all_goals rfl
          · simp [less, hb, hc]
  · exact h.elim
end Go.Proofs.Ytgikhdaildaonaa.A
