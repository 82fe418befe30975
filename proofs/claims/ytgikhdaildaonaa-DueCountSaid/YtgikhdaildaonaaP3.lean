/- Seat 13: by taking the least one again and again. Plain. -/
import Derived.Test.YtgikhdaildaonaaP2
namespace Go.Proofs.Ytgikhdaildaonaa.P
def rst : Nat → List Pay → List Bool → List P2
  | k, p :: ps, b :: bs => if p.g = 0 ∧ b = false then (p.u, (k : Int)) :: rst (k + 1) ps bs else rst (k + 1) ps bs
  | _, _, _ => []
theorem rst_nil (k : Nat) (bs : List Bool) : rst k [] bs = [] := by cases bs <;> rfl
theorem rst_init : ∀ (k0 : Nat) (ps : List Pay), rst k0 ps (List.replicate ps.length false) = opens k0 ps
  | _, [] => rfl
  | k0, p :: ps => by
    simp only [List.length_cons, List.replicate_succ, rst, opens, and_true]
    rw [rst_init (k0 + 1) ps]
theorem rst_take {ps : List Pay} : ∀ {k k0 : Nat} {p : Pay} {bs : List Bool} {b : Bool}, ps[k]? = some p → bs[k]? = some b → rst k0 (ps.take (k + 1)) bs = rst k0 (ps.take k) bs ++ (if p.g = 0 ∧ b = false then [(p.u, ((k0 + k : Nat) : Int))] else []) := by
  induction ps with
  | nil => intro k k0 p bs b h; simp at h
  | cons q qs ih =>
    intro k k0 p bs b h hb
    cases bs with
    | nil => simp at hb
    | cons c bs =>
      cases k with
      | zero =>
        simp at h hb; subst h; subst hb
        simp only [List.take_succ_cons, List.take_zero, rst, rst_nil]
        split <;> simp
      | succ k =>
        simp at h hb
        have := ih (k0 := k0 + 1) h hb
        rw [show k0 + 1 + k = k0 + (k + 1) by omega] at this
        simp only [List.take_succ_cons, rst]
        rw [this]
        split <;> simp
theorem rst_set {ps : List Pay} : ∀ {j k0 : Nat} {p : Pay} {bs : List Bool}, ps[j]? = some p → bs[j]? = some false → p.g = 0 → (rst k0 ps bs).Perm ((p.u, ((k0 + j : Nat) : Int)) :: rst k0 ps (bs.set j true)) := by
  induction ps with
  | nil => intro j k0 p bs h; simp at h
  | cons q qs ih =>
    intro j k0 p bs h hb hg
    cases bs with
    | nil => simp at hb
    | cons c bs =>
      cases j with
      | zero =>
        simp at h hb; subst h; subst hb
        simp only [List.set_cons_zero, rst, hg]
        simp
      | succ j =>
        simp at h hb
        have := ih (k0 := k0 + 1) h hb hg
        rw [show k0 + 1 + j = k0 + (j + 1) by omega] at this
        simp only [List.set_cons_succ, rst]
        split
        · exact (this.cons _).trans (.swap _ _ _)
        · exact this
/-- The least so far, of the first k. -/
def Best (ps : List Pay) (tk : List Bool) (k : Nat) (best : Int) : Prop := (best = -1 ∧ rst 0 (ps.take k) tk = []) ∨ ∃ (j : Nat) (p : Pay), best = (j : Int) ∧ ps[j]? = some p ∧ p.g = 0 ∧ tk[j]? = some false ∧ j < k ∧ ∀ y ∈ rst 0 (ps.take k) tk, ¬ lt y (p.u, (j : Int))
theorem best_no {ps : List Pay} {tk : List Bool} {k : Nat} {best : Int} {p : Pay} {b : Bool} (h : Best ps tk k best) (hp : ps[k]? = some p) (hb : tk[k]? = some b) (hn : ¬ (p.g = 0 ∧ b = false)) : Best ps tk (k + 1) best := by
  have e := rst_take (k0 := 0) hp hb
  rw [if_neg hn, List.append_nil] at e
  rcases h with ⟨h1, h2⟩ | ⟨j, q, h1, h2, h3, h4, h5, h6⟩
  · exact .inl ⟨h1, e.trans h2⟩
  · exact .inr ⟨j, q, h1, h2, h3, h4, by omega, by rw [e]; exact h6⟩
theorem best_new {ps : List Pay} {tk : List Bool} {k : Nat} {best : Int} {p : Pay} (h : Best ps tk k best) (hp : ps[k]? = some p) (hb : tk[k]? = some false) (hg : p.g = 0)
    (hn : best < 0 ∨ ∃ q, ps[best.toNat]? = some q ∧ p.u < q.u) : Best ps tk (k + 1) k := by
  have e := rst_take (k0 := 0) hp hb
  rw [if_pos ⟨hg, rfl⟩, Nat.zero_add] at e
  refine .inr ⟨k, p, rfl, hp, hg, hb, by omega, ?_⟩
  intro y hy
  rw [e] at hy
  rcases List.mem_append.1 hy with hy | hy
  · rcases h with ⟨h1, h2⟩ | ⟨j, q, h1, h2, h3, h4, h5, h6⟩
    · rw [h2] at hy; simp at hy
    · have := h6 y hy
      rcases hn with hn | ⟨q', hq', hlt⟩
      · omega
      · rw [h1] at hq'
        have : q' = q := by simpa [h2] using hq'.symm
        subst this
        unfold lt at *
        simp only at *
        omega
  · rcases List.mem_singleton.1 hy with rfl
    exact lt_irr
theorem best_old {ps : List Pay} {tk : List Bool} {k : Nat} {best : Int} {p : Pay} (h : Best ps tk k best) (hp : ps[k]? = some p) (hb : tk[k]? = some false) (hg : p.g = 0)
    (h0 : ¬ best < 0) (hn : ∀ q, ps[best.toNat]? = some q → ¬ p.u < q.u) : Best ps tk (k + 1) best := by
  have e := rst_take (k0 := 0) hp hb
  rw [if_pos ⟨hg, rfl⟩, Nat.zero_add] at e
  rcases h with ⟨h1, h2⟩ | ⟨j, q, h1, h2, h3, h4, h5, h6⟩
  · omega
  · refine .inr ⟨j, q, h1, h2, h3, h4, by omega, ?_⟩
    intro y hy
    rw [e] at hy
    rcases List.mem_append.1 hy with hy | hy
    · exact h6 y hy
    · rcases List.mem_singleton.1 hy with rfl
      have := hn q (by rw [h1]; simpa using h2)
      unfold lt
      simp only
      omega
end Go.Proofs.Ytgikhdaildaonaa.P
