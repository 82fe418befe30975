/- Plain: what a move consists of, and that it fits. -/
import Derived.Test.YtjffmldlkofpaaaGreatDoorGS
import Derived.Test.YtjffmldlkofpaaaGreatDoorGF
namespace Go.Proofs.YtjffmldlkofpaaaGreatDoor.A
open Go Q
/-! ### what is held does not matter to a move -/
theorem move_held {al : List Acc} {k : Nat} {a : Acc} (ha : al[k]? = some a) (x : Int) (f t n : Int) : moveM (al.set k ⟨a.cur, a.bal, x⟩) f t n = moveM al f t n := by
  have hc : ∀ j : Nat, ((al.set k ⟨a.cur, a.bal, x⟩)[j]?).map (·.cur) = (al[j]?).map (·.cur) := fun j => by
    rw [List.getElem?_set]
    split
    · rename_i hj
      subst hj
      rw [if_pos (List.getElem?_eq_some_iff.1 ha).1, ha]; rfl
    · rfl
  unfold moveM
  rw [List.length_set]
  split
  · rfl
  split
  · rfl
  have h1 := hc f.toNat
  have h2 := hc t.toNat
  cases e1 : al[f.toNat]? with
  | none =>
    rw [e1] at h1
    cases e3 : (al.set k ⟨a.cur, a.bal, x⟩)[f.toNat]? with
    | none => rfl
    | some q => rw [e3] at h1; cases h1
  | some p =>
    rw [e1] at h1
    cases e3 : (al.set k ⟨a.cur, a.bal, x⟩)[f.toNat]? with
    | none => rw [e3] at h1; cases h1
    | some p' =>
      rw [e3] at h1
      cases e2 : al[t.toNat]? with
      | none =>
        rw [e2] at h2
        cases e4 : (al.set k ⟨a.cur, a.bal, x⟩)[t.toNat]? with
        | none => rfl
        | some q => rw [e4] at h2; cases h2
      | some q =>
        rw [e2] at h2
        cases e4 : (al.set k ⟨a.cur, a.bal, x⟩)[t.toNat]? with
        | none => rw [e4] at h2; cases h2
        | some q' =>
          rw [e4] at h2
          have h1 : p'.cur = p.cur := by simpa using h1
          have h2 : q'.cur = q.cur := by simpa using h2
          simp only [h1, h2]
/-! ### what a move consists of -/
theorem move_form {al : List Acc} {x y n : Int} {es : List Ent} (hA : Acs al) (h : moveM al x y n = .ok es) : ∃ a b, al[x.toNat]? = some a ∧ al[y.toNat]? = some b ∧ (0 ≤ x ∧ x < al.length) ∧ (0 ≤ y ∧ y < al.length) ∧ x ≠ y ∧ (1 ≤ n ∧ n ≤ 1099511627776) ∧
    ((a.cur = b.cur ∧ es = [⟨x, -n⟩, ⟨y, n⟩]) ∨ (a.cur ≠ b.cur ∧ ∃ g, 0 < g ∧ g ≤ 160 * n ∧ es = [⟨x, -n⟩, ⟨3 * a.cur + 1, n⟩, ⟨3 * b.cur + 1, -g⟩, ⟨y, g⟩])) := by
  obtain ⟨hx, hy⟩ := move_in h
  obtain ⟨-, -, -, -, n1, n2, hne⟩ := move_head h
  have ha := List.getElem?_eq_getElem (show x.toNat < al.length by omega)
  have hb := List.getElem?_eq_getElem (show y.toNat < al.length by omega)
  refine ⟨_, _, ha, hb, hx, hy, hne, ⟨n1, n2⟩, ?_⟩
  have c1 := (hA.ok _ _ ha).c
  have c2 := (hA.ok _ _ hb).c
  generalize al[x.toNat]'(by omega) = a at *
  generalize al[y.toNat]'(by omega) = b at *
  unfold moveM at h
  split at h
  · cases h
  split at h
  · cases h
  rw [ha, hb] at h
  simp only at h
  rw [numK_of (k := 1) (by decide) c1, numK_of (k := 1) (by decide) c2] at h
  by_cases hc : a.cur = b.cur
  · rw [if_pos hc] at h
    cases h; exact .inl ⟨hc, rfl⟩
  · rw [if_neg hc, if_neg (by omega)] at h
    split at h
    · cases h
    · rename_i g hg
      have hbd := conv_bd (N := n) ⟨n1, Int.le_refl n⟩ hg
      split at h
      · cases h
      · rename_i h0
        cases h
        exact .inr ⟨hc, g.1, by omega, hbd.2, rfl⟩
theorem house_at {al : List Acc} (hA : Acs al) {c : Int} (hc : 0 ≤ c ∧ c ≤ 2) : (accAt al (3 * c + 1)).cur = c := by
  have hn := hA.n
  have ha := List.getElem?_eq_getElem (show (3 * c + 1).toNat < al.length by omega)
  rw [accAt_of ha, ((hA.ok _ _ ha).h (by omega)).1]
  omega
theorem move_sum {al : List Acc} {x y n : Int} {es : List Ent} (hA : Acs al) (h : moveM al x y n = .ok es) (c : Int) : curSum al es c = 0 := by
  obtain ⟨a, b, ha, hb, -, -, -, -, ⟨hc, rfl⟩ | ⟨hc, g, -, -, rfl⟩⟩ := move_form hA h
  · simp only [curSum, accAt_of ha, accAt_of hb, hc]
    split <;> omega
  · have c1 := (hA.ok _ _ ha).c
    have c2 := (hA.ok _ _ hb).c
    simp only [curSum, accAt_of ha, accAt_of hb, house_at hA c1, house_at hA c2]
    repeat' split
    all_goals omega
theorem move_at_x {al : List Acc} {x y n : Int} {es : List Ent} (hA : Acs al) (hx9 : 9 ≤ x) (h : moveM al x y n = .ok es) : sumAt es x = -n := by
  obtain ⟨a, b, ha, hb, -, -, hne, -, ⟨hc, rfl⟩ | ⟨hc, g, -, -, rfl⟩⟩ := move_form hA h
  · simp only [sumAt, if_true]
    rw [if_neg (fun h => hne h.symm)]; omega
  · have c1 := (hA.ok _ _ ha).c
    have c2 := (hA.ok _ _ hb).c
    simp only [sumAt, if_true]
    rw [if_neg (show ¬ 3 * a.cur + 1 = x by omega), if_neg (show ¬ 3 * b.cur + 1 = x by omega), if_neg (fun h => hne h.symm)]; omega
theorem move_at_o {al : List Acc} {x y n : Int} {es : List Ent} {i : Nat} (hA : Acs al) (h9 : 9 ≤ i) (hi : (i : Int) ≠ x) (h : moveM al x y n = .ok es) : 0 ≤ sumAt es i ∧ sumAt es i ≤ 160 * n := by
  obtain ⟨a, b, ha, hb, -, -, hne, ⟨n1, -⟩, ⟨hc, rfl⟩ | ⟨hc, g, g0, g1, rfl⟩⟩ := move_form hA h
  · simp only [sumAt]
    rw [if_neg (fun h => hi h.symm)]
    split <;> omega
  · have c1 := (hA.ok _ _ ha).c
    have c2 := (hA.ok _ _ hb).c
    simp only [sumAt]
    rw [if_neg (fun h => hi h.symm), if_neg (show ¬ 3 * a.cur + 1 = (i : Int) by omega), if_neg (show ¬ 3 * b.cur + 1 = (i : Int) by omega)]
    split <;> omega
theorem move_fit {al : List Acc} {x y n X : Int} {es : List Ent} (hA : Acs al) (hX : BalX X al) (hX0 : 0 ≤ X) (hXb : X ≤ 1000000000000000) (h : moveM al x y n = .ok es) (hn : n ≤ 2000) :
    ∃ l, postGo al es = .ok l ∧ l.length = al.length ∧ (∀ (i : Nat) (a : Acc), al[i]? = some a → l[i]? = some ⟨a.cur, a.bal + sumAt es i, a.held⟩) ∧ balM al es = true := by
  have hes : ∀ e ∈ es, (0 ≤ e.acct ∧ e.acct < al.length) ∧ -320000 ≤ e.amt ∧ e.amt ≤ 320000 := by
    obtain ⟨a, b, ha, hb, hx, hy, -, ⟨n1, n2⟩, ⟨hc, rfl⟩ | ⟨hc, g, g1, g2, rfl⟩⟩ := move_form hA h
    · intro e he
      simp only [List.mem_cons, List.not_mem_nil, or_false] at he
      rcases he with rfl | rfl <;> simp only <;> omega
    · have c1 := (hA.ok _ _ ha).c
      have c2 := (hA.ok _ _ hb).c
      have := hA.n
      intro e he
      simp only [List.mem_cons, List.not_mem_nil, or_false] at he
      rcases he with rfl | rfl | rfl | rfl <;> simp only <;> omega
  have hlen := move_len h
  have hb : X + es.length * 320000 ≤ 1125899906842624 := by omega
  obtain ⟨l, k1, k2, k3⟩ := postGo_fit (Y := 320000) (by decide) hX0 hX hes hb
  refine ⟨l, k1, k2, k3, ?_⟩
  unfold balM
  rw [balGo_fit (Y := 320000) ⟨by decide, by decide⟩ (t := (0, 0, 0)) hX0 (by simp only; omega) (by simp only; omega) (by simp only; omega) (fun e he => by
    obtain ⟨q1, q2⟩ := hes e he
    have ha := List.getElem?_eq_getElem (show e.acct.toNat < al.length by omega)
    rw [accAt_of ha]
    exact ⟨q1, q2, (hA.ok _ _ ha).c⟩) hb]
  simp [move_sum hA h]
end Go.Proofs.YtjffmldlkofpaaaGreatDoor.A
