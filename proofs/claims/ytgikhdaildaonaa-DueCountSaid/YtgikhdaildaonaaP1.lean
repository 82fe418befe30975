/- Seat 13: payments that are open, by their time. Plain. -/
import Derived.Test.YtgikhdaildaonaaP0
namespace Go.Proofs.Ytgikhdaildaonaa.P
structure Pay where
  (a b c d e f u g : Int)
instance (p q : P2) : Decidable (lt p q) := by unfold lt; exact inferInstance
/-- Those that are open, with their places. -/
def opens : Nat → List Pay → List P2
  | _, [] => []
  | k, p :: ps => if p.g = 0 then (p.u, (k : Int)) :: opens (k + 1) ps else opens (k + 1) ps
def ins (x : P2) : List P2 → List P2
  | [] => [x]
  | y :: ys => if lt y x then y :: ins x ys else x :: y :: ys
def srt : List P2 → List P2
  | [] => []
  | x :: xs => ins x (srt xs)
def Sor (l : List P2) : Prop := l.Pairwise fun a b => ¬ lt b a
theorem ins_perm (x : P2) : ∀ l, (ins x l).Perm (x :: l)
  | [] => .refl _
  | y :: ys => by
    unfold ins
    split
    · exact ((ins_perm x ys).cons y).trans (.swap x y ys)
    · exact .refl _
theorem srt_perm : ∀ l, (srt l).Perm l
  | [] => .refl _
  | x :: xs => (ins_perm x _).trans ((srt_perm xs).cons x)
theorem ins_sor (x : P2) : ∀ l, Sor l → Sor (ins x l)
  | [], _ => List.pairwise_singleton _ _
  | y :: ys, h => by
    unfold ins
    have h' := List.pairwise_cons.1 h
    split
    · rename_i hl
      refine List.pairwise_cons.2 ⟨fun b hb => ?_, ins_sor x ys h'.2⟩
      rcases List.mem_cons.1 ((ins_perm x ys).mem_iff.1 hb) with rfl | hb
      · exact lt_asym hl
      · exact h'.1 b hb
    · rename_i hl
      refine List.pairwise_cons.2 ⟨fun b hb => ?_, h⟩
      rcases List.mem_cons.1 hb with rfl | hb
      · exact hl
      · exact le_tr hl (h'.1 b hb)
theorem srt_sor : ∀ l, Sor (srt l)
  | [] => List.Pairwise.nil
  | x :: xs => ins_sor x _ (srt_sor xs)
theorem anti {a b : P2} (h : ¬ lt a b) (g : ¬ lt b a) : a = b := by
  obtain ⟨a1, a2⟩ := a
  obtain ⟨b1, b2⟩ := b
  unfold lt at h g
  simp only at h g
  have : a1 = b1 := by omega
  have : a2 = b2 := by omega
  simp [*]
theorem sor_eq : ∀ {l m : List P2}, l.Perm m → Sor l → Sor m → l = m
  | [], m, h, _, _ => h.nil_eq
  | a :: l, [], h, _, _ => absurd h (by simp)
  | a :: l, b :: m, h, hl, hm => by
    have e : a = b := by
      have h1 := h.mem_iff (a := a)
      have h2 := h.mem_iff (a := b)
      by_cases e : a = b
      · exact e
      · have a1 : a ∈ m := by
          rcases List.mem_cons.1 (h1.1 (List.mem_cons_self ..)) with e' | e'
          · exact absurd e' e
          · exact e'
        have b1 : b ∈ l := by
          rcases List.mem_cons.1 (h2.2 (List.mem_cons_self ..)) with e' | e'
          · exact absurd e'.symm e
          · exact e'
        exact anti ((List.pairwise_cons.1 hm).1 a a1) ((List.pairwise_cons.1 hl).1 b b1)
    subst e
    rw [sor_eq (List.Perm.cons_inv h) (List.pairwise_cons.1 hl).2 (List.pairwise_cons.1 hm).2]
theorem srt_uniq {l m : List P2} (h : l.Perm m) (hl : Sor l) : l = srt m := sor_eq (h.trans (srt_perm m).symm) hl (srt_sor m)
theorem opens_take {k : Nat} {ps : List Pay} {p : Pay} (h : ps[k]? = some p) (k0 : Nat) : opens k0 (ps.take (k + 1)) = opens k0 (ps.take k) ++ (if p.g = 0 then [(p.u, ((k0 + k : Nat) : Int))] else []) := by
  induction ps generalizing k k0 with
  | nil => simp at h
  | cons q qs ih =>
    cases k with
    | zero =>
      simp at h; subst h
      simp only [List.take_succ_cons, List.take_zero, opens]
      split <;> simp
    | succ k =>
      simp at h
      have := ih h (k0 + 1)
      rw [show k0 + 1 + k = k0 + (k + 1) by omega] at this
      simp only [List.take_succ_cons, opens]
      split <;> simp [this]
theorem opens_len (k0 : Nat) (ps : List Pay) : (opens k0 ps).length ≤ ps.length := by
  induction ps generalizing k0 with
  | nil => simp [opens]
  | cons q qs ih =>
    have := ih (k0 + 1)
    simp only [opens]
    split <;> simp <;> omega
/-- What All comes to: places. -/
def places (ps : List Pay) : List Int := (srt (opens 0 ps)).map (·.2)
end Go.Proofs.Ytgikhdaildaonaa.P
