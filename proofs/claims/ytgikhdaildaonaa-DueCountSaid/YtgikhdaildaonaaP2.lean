/- Seat 13: those whose time is over. Plain. -/
import Derived.Test.YtgikhdaildaonaaP1
namespace Go.Proofs.Ytgikhdaildaonaa.P
theorem opens_mem {ps : List Pay} : ∀ {k0 : Nat} {x : P2}, x ∈ opens k0 ps → ∃ (i : Nat) (p : Pay), x.2 = ((k0 + i : Nat) : Int) ∧ ps[i]? = some p ∧ p.u = x.1 ∧ p.g = 0 := by
  induction ps with
  | nil => intro k0 x h; simp [opens] at h
  | cons q qs ih =>
    intro k0 x h
    have rec' : x ∈ opens (k0 + 1) qs → ∃ (i : Nat) (p : Pay), x.2 = ((k0 + i : Nat) : Int) ∧ (q :: qs)[i]? = some p ∧ p.u = x.1 ∧ p.g = 0 := by
      intro h
      obtain ⟨i, p, h1, h2, h3⟩ := ih h
      exact ⟨i + 1, p, by rw [h1]; omega, by simpa using h2, h3⟩
    unfold opens at h
    split at h
    · rename_i hg
      rcases List.mem_cons.1 h with rfl | h
      · exact ⟨0, q, by simp, rfl, rfl, hg⟩
      · exact rec' h
    · exact rec' h
theorem mem_opens {ps : List Pay} : ∀ {k0 i : Nat} {p : Pay}, ps[i]? = some p → p.g = 0 → (p.u, ((k0 + i : Nat) : Int)) ∈ opens k0 ps := by
  induction ps with
  | nil => intro k0 i p h; simp at h
  | cons q qs ih =>
    intro k0 i p h hg
    unfold opens
    cases i with
    | zero =>
      simp at h; subst h
      rw [if_pos hg]; exact List.mem_cons_self ..
    | succ i =>
      have := ih (k0 := k0 + 1) (by simpa using h) hg
      rw [show k0 + 1 + i = k0 + (i + 1) by omega] at this
      split
      · exact List.mem_cons_of_mem _ this
      · exact this
def L (ps : List Pay) : List P2 := srt (opens 0 ps)
theorem places_eq (ps : List Pay) : places ps = (L ps).map (·.2) := rfl
theorem L_mem {ps : List Pay} {x : P2} (h : x ∈ L ps) : ∃ (i : Nat) (p : Pay), x.2 = (i : Int) ∧ ps[i]? = some p ∧ p.u = x.1 ∧ p.g = 0 := by
  have := opens_mem ((srt_perm _).mem_iff.1 h)
  simpa using this
theorem L_len (ps : List Pay) : (L ps).length ≤ ps.length := by
  unfold L
  rw [(srt_perm _).length_eq]
  exact opens_len 0 ps
/-- What By comes to. -/
def by' (ps : List Pay) (now : Int) : List P2 := (L ps).takeWhile fun p => decide (p.1 ≤ now)
theorem tw_end {l : List P2} {i : Nat} {now : Int} (h : ∀ p ∈ l.take i, p.1 ≤ now) (he : l[i]? = none ∨ ∃ p, l[i]? = some p ∧ ¬ p.1 ≤ now) : l.takeWhile (fun p => decide (p.1 ≤ now)) = l.take i := by
  induction l generalizing i with
  | nil => simp
  | cons a l ih =>
    cases i with
    | zero =>
      rcases he with he | ⟨p, hp, hn⟩
      · simp at he
      · simp at hp; subst hp
        simp [hn]
    | succ i =>
      simp only [List.take_succ_cons, List.mem_cons] at h
      have ha := h a (.inl rfl)
      simp only [List.takeWhile_cons, ha, decide_true, if_true, List.take_succ_cons]
      rw [ih (fun p hp => h p (.inr hp)) (by simpa using he)]
end Go.Proofs.Ytgikhdaildaonaa.P
