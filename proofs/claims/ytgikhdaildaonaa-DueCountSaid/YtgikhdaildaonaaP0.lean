/- Seat 13: heaps as lists of pairs. Plain. -/
import Init
namespace Go.Proofs.Ytgikhdaildaonaa.P
abbrev P2 := Int × Int
def lt (p q : P2) : Prop := p.1 < q.1 ∨ (p.1 = q.1 ∧ p.2 < q.2)
theorem lt_asym {p q : P2} (h : lt p q) : ¬ lt q p := by unfold lt at *; omega
theorem lt_tr {p q r : P2} (h : lt p q) (g : lt q r) : lt p r := by unfold lt at *; omega
theorem le_tr {p q r : P2} (h : ¬ lt q p) (g : ¬ lt r q) : ¬ lt r p := by unfold lt at *; omega
theorem lt_irr {p : P2} : ¬ lt p p := by unfold lt; omega
def at' (l : List P2) (i : Nat) : P2 := l.getD i (0, 0)
def swp (l : List P2) (i k : Nat) : List P2 := (l.set i (at' l k)).set k (at' l i)
theorem at_eq {l : List P2} {i : Nat} (h : i < l.length) : at' l i = l[i] := by simp [at', h]
theorem swp_len (l : List P2) (i k : Nat) : (swp l i k).length = l.length := by simp [swp]
theorem swp_perm {l : List P2} {i k : Nat} (hi : i < l.length) (hk : k < l.length) : (swp l i k).Perm l := by
  unfold swp
  rw [at_eq hi, at_eq hk]
  exact List.set_set_perm hi hk
theorem at_swp {l : List P2} {i k : Nat} (hi : i < l.length) (hk : k < l.length) (c : Nat) : at' (swp l i k) c = if c = k then at' l i else if c = i then at' l k else at' l c := by
  unfold swp at'
  simp only [List.getD_eq_getElem?_getD, List.getElem?_set, List.length_set]
  by_cases h1 : c = k
  · subst h1; simp [hk]
  · by_cases h2 : c = i
    · subst h2; simp [h1, hi, Ne.symm h1]
    · simp [h1, h2, Ne.symm h1, Ne.symm h2]
/-- A heap, of the first n. -/
def Hp (l : List P2) (n : Nat) : Prop := ∀ j, 0 < j → j < n → ¬ lt (at' l j) (at' l ((j - 1) / 2))
/-- A heap but for j0 being too small. -/
def HUp (l : List P2) (n j0 : Nat) : Prop := (∀ j, 0 < j → j < n → j ≠ j0 → ¬ lt (at' l j) (at' l ((j - 1) / 2))) ∧ ∀ c, 0 < j0 → 0 < c → c < n → (c - 1) / 2 = j0 → ¬ lt (at' l c) (at' l ((j0 - 1) / 2))
/-- A heap but for i0 being too great. -/
def HDn (l : List P2) (n i0 : Nat) : Prop := (∀ j, 0 < j → j < n → (j - 1) / 2 ≠ i0 → ¬ lt (at' l j) (at' l ((j - 1) / 2))) ∧ ∀ c, 0 < i0 → 0 < c → c < n → (c - 1) / 2 = i0 → ¬ lt (at' l c) (at' l ((i0 - 1) / 2))
theorem up_end {l : List P2} {n j : Nat} (h : HUp l n j) (hb : j = 0 ∨ ¬ lt (at' l j) (at' l ((j - 1) / 2))) : Hp l n := by
  intro c h0 hc
  by_cases e : c = j
  · subst e
    rcases hb with hb | hb
    · omega
    · exact hb
  · exact h.1 c h0 hc e
theorem up_step {l : List P2} {n j : Nat} (hn : n = l.length) (h : HUp l n j) (h0 : 0 < j) (hj : j < n) (hlt : lt (at' l j) (at' l ((j - 1) / 2))) : HUp (swp l ((j - 1) / 2) j) n ((j - 1) / 2) := by
  have hj' : j < l.length := by omega
  have hi : (j - 1) / 2 < l.length := by omega
  have hij : (j - 1) / 2 < j := by omega
  constructor
  · intro c hc0 hcn hci
    rw [at_swp hi hj', at_swp hi hj']
    by_cases e : c = j
    · subst e
      have e2 : ¬ (c - 1) / 2 = c := by omega
      simp only [if_true, e2, if_false]
      exact lt_asym hlt
    · simp only [e, if_false, hci]
      by_cases e3 : (c - 1) / 2 = j
      · simp only [e3, if_true]
        exact h.2 c h0 hc0 hcn e3
      · simp only [e3, if_false]
        by_cases e4 : (c - 1) / 2 = (j - 1) / 2
        · simp only [e4, if_true]
          intro hh
          have := h.1 c hc0 hcn e
          rw [e4] at this
          exact this (lt_tr hh hlt)
        · simp only [e4, if_false]
          exact h.1 c hc0 hcn e
  · intro c hi0 hc0 hcn hcp
    rw [at_swp hi hj', at_swp hi hj']
    have e1 : ¬ ((j - 1) / 2 - 1) / 2 = j := by omega
    have e2 : ¬ ((j - 1) / 2 - 1) / 2 = (j - 1) / 2 := by omega
    have hp : ¬ lt (at' l ((j - 1) / 2)) (at' l (((j - 1) / 2 - 1) / 2)) := h.1 _ hi0 (by omega) (by omega)
    have e3 : ¬ c = (j - 1) / 2 := by omega
    simp only [e1, e2, e3, if_false]
    by_cases e : c = j
    · simp only [e, if_true]; exact hp
    · simp only [e, if_false]
      have := h.1 c hc0 hcn e
      rw [hcp] at this
      exact le_tr hp this
theorem down_end {l : List P2} {n i : Nat} (h : HDn l n i) (hb : ∀ c, 0 < c → c < n → (c - 1) / 2 = i → ¬ lt (at' l c) (at' l i)) : Hp l n := by
  intro c h0 hc
  by_cases e : (c - 1) / 2 = i
  · rw [e]; exact hb c h0 hc e
  · exact h.1 c h0 hc e
theorem down_step {l : List P2} {n i j : Nat} (hn : n ≤ l.length) (h : HDn l n i) (h0 : 0 < j) (hj : j < n) (hp : (j - 1) / 2 = i) (hlt : lt (at' l j) (at' l i))
    (hmin : ∀ c, 0 < c → c < n → (c - 1) / 2 = i → ¬ lt (at' l c) (at' l j)) : HDn (swp l i j) n j := by
  have hj' : j < l.length := by omega
  have hi : i < l.length := by omega
  constructor
  · intro c hc0 hcn hci
    rw [at_swp hi hj', at_swp hi hj']
    by_cases e : c = j
    · subst e
      have e2 : ¬ i = c := by omega
      simp only [hp, if_true, e2, if_false]
      exact lt_asym hlt
    · by_cases e3 : (c - 1) / 2 = i
      · have e4 : ¬ c = i := by omega
        have e5 : ¬ i = j := by omega
        simp only [e, e4, e3, e5, if_false, if_true]
        exact hmin c hc0 hcn e3
      · simp only [e, e3, hci, if_false]
        by_cases e4 : c = i
        · subst e4
          simp only [if_true]
          exact h.2 j hc0 h0 hj hp
        · simp only [e4, if_false]
          exact h.1 c hc0 hcn e3
  · intro c hi0 hc0 hcn hcp
    rw [at_swp hi hj', at_swp hi hj']
    have e1 : ¬ c = j := by omega
    have e2 : ¬ c = i := by omega
    have e3 : ¬ i = j := by omega
    simp only [hp, e1, e2, e3, if_false, if_true]
    have := h.1 c hc0 hcn (by omega)
    rwa [hcp] at this
theorem root {l : List P2} {n : Nat} (h : Hp l n) : ∀ j, j < n → ¬ lt (at' l j) (at' l 0) := by
  intro j
  induction j using Nat.strongRecOn with
  | _ j ih =>
    intro hj
    by_cases e : j = 0
    · subst e; exact lt_irr
    · exact le_tr (ih ((j - 1) / 2) (by omega) (by omega)) (h j (by omega) hj)
theorem hp_take {l l' : List P2} {n : Nat} (h : Hp l n) (e : ∀ j, j < n → at' l' j = at' l j) : Hp l' n := by
  intro j h0 hj
  rw [e j hj, e _ (by omega)]
  exact h j h0 hj
theorem hup_push {l : List P2} (x : P2) (h : Hp l l.length) : HUp (l ++ [x]) (l.length + 1) l.length := by
  have hat : ∀ j, j < l.length → at' (l ++ [x]) j = at' l j := fun j hj => by simp [at', List.getElem?_append, hj]
  constructor
  · intro j h0 hj hne
    rw [hat j (by omega), hat _ (by omega)]
    exact h j h0 (by omega)
  · intro c _ h0 hc hp; omega
theorem hdn_pop {l : List P2} {m : Nat} (hm : l.length = m + 1) (h : Hp l (m + 1)) : HDn (swp l 0 m) m 0 := by
  constructor
  · intro j h0 hj hp
    rw [at_swp (by omega) (by omega), at_swp (by omega) (by omega)]
    have e1 : ¬ j = m := by omega
    have e2 : ¬ j = 0 := by omega
    have e3 : ¬ (j - 1) / 2 = m := by omega
    simp only [e1, e2, e3, hp, if_false]
    exact h j h0 (by omega)
  · intro c h0; omega
end Go.Proofs.Ytgikhdaildaonaa.P
