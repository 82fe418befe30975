/- Seat 13: the laws' own facts. Plain. -/
import Derived.Test.YtgikhdaildaonaaP3
namespace Go.Proofs.Ytgikhdaildaonaa.P
theorem tw_le {l : List P2} {a b : Int} (h : a ≤ b) : (l.takeWhile fun p => decide (p.1 ≤ a)).length ≤ (l.takeWhile fun p => decide (p.1 ≤ b)).length ∧ (l.takeWhile fun p => decide (p.1 ≤ b)).take (l.takeWhile fun p => decide (p.1 ≤ a)).length = l.takeWhile fun p => decide (p.1 ≤ a) := by
  induction l with
  | nil => simp
  | cons x l ih =>
    by_cases hx : x.1 ≤ a
    · have hx' : x.1 ≤ b := by omega
      simp only [List.takeWhile_cons, hx, hx', decide_true, if_true, List.length_cons, List.take_succ_cons, ih.2, and_true]
      omega
    · simp [List.takeWhile_cons, hx]
theorem by_le (ps : List Pay) {a b : Int} (h : a ≤ b) : (by' ps a).length ≤ (by' ps b).length ∧ (by' ps b).take (by' ps a).length = by' ps a := tw_le h
theorem by_len (ps : List Pay) (a : Int) : (by' ps a).length ≤ ps.length := Nat.le_trans (List.Sublist.length_le (List.takeWhile_sublist _)) (L_len ps)
theorem by_nil {ps : List Pay} (h : L ps = []) (a : Int) : by' ps a = [] := by unfold by'; rw [h]; rfl
theorem by_less {ps : List Pay} {x : P2} {xs : List P2} (h : L ps = x :: xs) {a : Int} (ha : a < x.1) : by' ps a = [] := by
  unfold by'; rw [h, List.takeWhile_cons]
  have : ¬ x.1 ≤ a := by omega
  simp [this]
theorem by_more {ps : List Pay} {x : P2} {xs : List P2} (h : L ps = x :: xs) : 0 < (by' ps x.1).length := by
  unfold by'; rw [h, List.takeWhile_cons]
  simp
/-- Of a list in order those by a time are the first ones. -/
theorem tw_filter {l : List P2} (h : Sor l) (a : Int) : l.filter (fun p => decide (p.1 ≤ a)) = l.takeWhile fun p => decide (p.1 ≤ a) := by
  induction l with
  | nil => rfl
  | cons x l ih =>
    have h' := List.pairwise_cons.1 h
    by_cases hx : x.1 ≤ a
    · simp only [List.filter_cons, List.takeWhile_cons, hx, decide_true, if_true]
      rw [ih h'.2]
    · simp only [List.filter_cons, List.takeWhile_cons, hx, decide_false, if_false]
      rw [List.filter_eq_nil_iff.2]
      · simp
      · intro y hy
        have := h'.1 y hy
        unfold lt at this
        simp; omega
theorem by_filter (ps : List Pay) (a : Int) : (L ps).filter (fun p => decide (p.1 ≤ a)) = by' ps a := tw_filter (srt_sor _) a
theorem opens_append (ps : List Pay) (m : Pay) : ∀ k0, opens k0 (ps ++ [m]) = opens k0 ps ++ (if m.g = 0 then [(m.u, ((k0 + ps.length : Nat) : Int))] else []) := by
  induction ps with
  | nil => intro k0; simp only [List.nil_append, opens]; split <;> simp
  | cons p ps ih =>
    intro k0
    simp only [List.cons_append, opens, ih (k0 + 1), List.length_cons]
    rw [show k0 + 1 + ps.length = k0 + (ps.length + 1) by omega]
    split <;> simp
theorem more_filter (ps : List Pay) (m : Pay) : (L (ps ++ [m])).filter (fun p => decide (p.2 < (ps.length : Int))) = L ps := by
  unfold L
  refine srt_uniq ?_ ((srt_sor _).sublist List.filter_sublist)
  refine ((srt_perm _).filter _).trans ?_
  rw [opens_append, List.filter_append, Nat.zero_add]
  have h1 : (opens 0 ps).filter (fun p => decide (p.2 < (ps.length : Int))) = opens 0 ps := by
    refine List.filter_eq_self.2 fun x hx => ?_
    obtain ⟨i, p, h1, h2, _⟩ := opens_mem hx
    have := (List.getElem?_eq_some_iff.1 h2).1
    simp [h1, this]
  rw [h1]
  split <;> simp
theorem more_len (ps : List Pay) (m : Pay) : (L (ps ++ [m])).length = (L ps).length + (if m.g = 0 then 1 else 0) := by
  unfold L
  rw [(srt_perm _).length_eq, (srt_perm _).length_eq, opens_append, List.length_append]
  split <;> simp
end Go.Proofs.Ytgikhdaildaonaa.P
