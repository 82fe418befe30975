/- heaps as lists of pairs. Plain. -/
import Init
import Derived.Test.YtjffmldlkofpaaaGreatDoorGD
import Derived.Test.YtjffmldlkofpaaaGreatDoorB0
import Derived.Test.YtjffmldlkofpaaaGreatDoorGC
namespace Go.Proofs.YtjffmldlkofpaaaGreatDoor.P
abbrev P2 := Int × Int
def lt (p q : P2) : Prop := p.1 < q.1 ∨ (p.1 = q.1 ∧ p.2 < q.2)
theorem lt_asym {p q : P2} (h : lt p q) : ¬ lt q p := by unfold lt at *; omega
theorem lt_tr {p q r : P2} (h : lt p q) (g : lt q r) : lt p r := by unfold lt at *; omega
theorem le_tr {p q r : P2} (h : ¬ lt q p) (g : ¬ lt r q) : ¬ lt r p := by unfold lt at *; omega
theorem lt_irr {p : P2} : ¬ lt p p := by unfold lt; omega
def at' (l : List P2) (i : Nat) : P2 := l.getD i (0, 0)
def swp (l : List P2) (i k : Nat) : List P2 := (l.set i (at' l k)).set k (at' l i)
theorem at_eq {l : List P2} {i : Nat} (h : i < l.length) : at' l i = l[i] := by simp [at', h]
theorem swp_len (l : List P2) (i k : Nat) : (swp l i k).length = l.length := by simp [swp]
theorem swp_perm {l : List P2} {i k : Nat} (hi : i < l.length) (hk : k < l.length) : (swp l i k).Perm l := by
  unfold swp
  rw [at_eq hi, at_eq hk]
  exact List.set_set_perm hi hk
theorem at_swp {l : List P2} {i k : Nat} (hi : i < l.length) (hk : k < l.length) (c : Nat) : at' (swp l i k) c = if c = k then at' l i else if c = i then at' l k else at' l c := by
  unfold swp at'
  simp only [List.getD_eq_getElem?_getD, List.getElem?_set, List.length_set]
  by_cases h1 : c = k
  · subst h1; simp [hk]
  · by_cases h2 : c = i
    · subst h2; simp [h1, hi, Ne.symm h1]
    · simp [h1, h2, Ne.symm h1, Ne.symm h2]
/-- A heap, of the first n. -/
def Hp (l : List P2) (n : Nat) : Prop := ∀ j, 0 < j → j < n → ¬ lt (at' l j) (at' l ((j - 1) / 2))
/-- A heap but for j0 being too small. -/
def HUp (l : List P2) (n j0 : Nat) : Prop := (∀ j, 0 < j → j < n → j ≠ j0 → ¬ lt (at' l j) (at' l ((j - 1) / 2))) ∧ ∀ c, 0 < j0 → 0 < c → c < n → (c - 1) / 2 = j0 → ¬ lt (at' l c) (at' l ((j0 - 1) / 2))
/-- A heap but for i0 being too great. -/
def HDn (l : List P2) (n i0 : Nat) : Prop := (∀ j, 0 < j → j < n → (j - 1) / 2 ≠ i0 → ¬ lt (at' l j) (at' l ((j - 1) / 2))) ∧ ∀ c, 0 < i0 → 0 < c → c < n → (c - 1) / 2 = i0 → ¬ lt (at' l c) (at' l ((i0 - 1) / 2))
theorem up_end {l : List P2} {n j : Nat} (h : HUp l n j) (hb : j = 0 ∨ ¬ lt (at' l j) (at' l ((j - 1) / 2))) : Hp l n := by
  intro c h0 hc
  by_cases e : c = j
  · subst e
    rcases hb with hb | hb
    · omega
    · exact hb
  · exact h.1 c h0 hc e
theorem up_step {l : List P2} {n j : Nat} (hn : n = l.length) (h : HUp l n j) (h0 : 0 < j) (hj : j < n) (hlt : lt (at' l j) (at' l ((j - 1) / 2))) : HUp (swp l ((j - 1) / 2) j) n ((j - 1) / 2) := by
  have hj' : j < l.length := by omega
  have hi : (j - 1) / 2 < l.length := by omega
  have hij : (j - 1) / 2 < j := by omega
  constructor
  · intro c hc0 hcn hci
    rw [at_swp hi hj', at_swp hi hj']
    by_cases e : c = j
    · subst e
      have e2 : ¬ (c - 1) / 2 = c := by omega
      simp only [if_true, e2, if_false]
      exact lt_asym hlt
    · simp only [e, if_false, hci]
      by_cases e3 : (c - 1) / 2 = j
      · simp only [e3, if_true]
        exact h.2 c h0 hc0 hcn e3
      · simp only [e3, if_false]
        by_cases e4 : (c - 1) / 2 = (j - 1) / 2
        · simp only [e4, if_true]
          intro hh
          have := h.1 c hc0 hcn e
          rw [e4] at this
          exact this (lt_tr hh hlt)
        · simp only [e4, if_false]
          exact h.1 c hc0 hcn e
  · intro c hi0 hc0 hcn hcp
    rw [at_swp hi hj', at_swp hi hj']
    have e1 : ¬ ((j - 1) / 2 - 1) / 2 = j := by omega
    have e2 : ¬ ((j - 1) / 2 - 1) / 2 = (j - 1) / 2 := by omega
    have hp : ¬ lt (at' l ((j - 1) / 2)) (at' l (((j - 1) / 2 - 1) / 2)) := h.1 _ hi0 (by omega) (by omega)
    have e3 : ¬ c = (j - 1) / 2 := by omega
    simp only [e1, e2, e3, if_false]
    by_cases e : c = j
    · simp only [e, if_true]; exact hp
    · simp only [e, if_false]
      have := h.1 c hc0 hcn e
      rw [hcp] at this
      exact le_tr hp this
theorem down_end {l : List P2} {n i : Nat} (h : HDn l n i) (hb : ∀ c, 0 < c → c < n → (c - 1) / 2 = i → ¬ lt (at' l c) (at' l i)) : Hp l n := by
  intro c h0 hc
  by_cases e : (c - 1) / 2 = i
  · rw [e]; exact hb c h0 hc e
  · exact h.1 c h0 hc e
theorem down_step {l : List P2} {n i j : Nat} (hn : n ≤ l.length) (h : HDn l n i) (h0 : 0 < j) (hj : j < n) (hp : (j - 1) / 2 = i) (hlt : lt (at' l j) (at' l i))
    (hmin : ∀ c, 0 < c → c < n → (c - 1) / 2 = i → ¬ lt (at' l c) (at' l j)) : HDn (swp l i j) n j := by
  have hj' : j < l.length := by omega
  have hi : i < l.length := by omega
  constructor
  · intro c hc0 hcn hci
    rw [at_swp hi hj', at_swp hi hj']
    by_cases e : c = j
    · subst e
      have e2 : ¬ i = c := by omega
      simp only [hp, if_true, e2, if_false]
      exact lt_asym hlt
    · by_cases e3 : (c - 1) / 2 = i
      · have e4 : ¬ c = i := by omega
        have e5 : ¬ i = j := by omega
        simp only [e, e4, e3, e5, if_false, if_true]
        exact hmin c hc0 hcn e3
      · simp only [e, e3, hci, if_false]
        by_cases e4 : c = i
        · subst e4
          simp only [if_true]
          exact h.2 j hc0 h0 hj hp
        · simp only [e4, if_false]
          exact h.1 c hc0 hcn e3
  · intro c hi0 hc0 hcn hcp
    rw [at_swp hi hj', at_swp hi hj']
    have e1 : ¬ c = j := by omega
    have e2 : ¬ c = i := by omega
    have e3 : ¬ i = j := by omega
    simp only [hp, e1, e2, e3, if_false, if_true]
    have := h.1 c hc0 hcn (by omega)
    rwa [hcp] at this
theorem root {l : List P2} {n : Nat} (h : Hp l n) : ∀ j, j < n → ¬ lt (at' l j) (at' l 0) := by
  intro j
  induction j using Nat.strongRecOn with
  | _ j ih =>
    intro hj
    by_cases e : j = 0
    · subst e; exact lt_irr
    · exact le_tr (ih ((j - 1) / 2) (by omega) (by omega)) (h j (by omega) hj)
theorem hp_take {l l' : List P2} {n : Nat} (h : Hp l n) (e : ∀ j, j < n → at' l' j = at' l j) : Hp l' n := by
  intro j h0 hj
  rw [e j hj, e _ (by omega)]
  exact h j h0 hj
theorem hup_push {l : List P2} (x : P2) (h : Hp l l.length) : HUp (l ++ [x]) (l.length + 1) l.length := by
  have hat : ∀ j, j < l.length → at' (l ++ [x]) j = at' l j := fun j hj => by simp [at', List.getElem?_append, hj]
  constructor
  · intro j h0 hj hne
    rw [hat j (by omega), hat _ (by omega)]
    exact h j h0 (by omega)
  · intro c _ h0 hc hp; omega
theorem hdn_pop {l : List P2} {m : Nat} (hm : l.length = m + 1) (h : Hp l (m + 1)) : HDn (swp l 0 m) m 0 := by
  constructor
  · intro j h0 hj hp
    rw [at_swp (by omega) (by omega), at_swp (by omega) (by omega)]
    have e1 : ¬ j = m := by omega
    have e2 : ¬ j = 0 := by omega
    have e3 : ¬ (j - 1) / 2 = m := by omega
    simp only [e1, e2, e3, hp, if_false]
    exact h j h0 (by omega)
  · intro c h0; omega
end Go.Proofs.YtjffmldlkofpaaaGreatDoor.P

/- payments that are open, by their time. Plain. -/
namespace Go.Proofs.YtjffmldlkofpaaaGreatDoor.P
open Q
instance (p q : P2) : Decidable (lt p q) := by unfold lt; exact inferInstance
/-- Those that are open, with their places. -/
def opens : Nat → List Pay → List P2
  | _, [] => []
  | k, p :: ps => if p.stage = 0 then (p.til, (k : Int)) :: opens (k + 1) ps else opens (k + 1) ps
def ins (x : P2) : List P2 → List P2
  | [] => [x]
  | y :: ys => if lt y x then y :: ins x ys else x :: y :: ys
def srt : List P2 → List P2
  | [] => []
  | x :: xs => ins x (srt xs)
def Sor (l : List P2) : Prop := l.Pairwise fun a b => ¬ lt b a
theorem ins_perm (x : P2) : ∀ l, (ins x l).Perm (x :: l)
  | [] => .refl _
  | y :: ys => by
    unfold ins
    split
    · exact ((ins_perm x ys).cons y).trans (.swap x y ys)
    · exact .refl _
theorem srt_perm : ∀ l, (srt l).Perm l
  | [] => .refl _
  | x :: xs => (ins_perm x _).trans ((srt_perm xs).cons x)
theorem ins_sor (x : P2) : ∀ l, Sor l → Sor (ins x l)
  | [], _ => List.pairwise_singleton _ _
  | y :: ys, h => by
    unfold ins
    have h' := List.pairwise_cons.1 h
    split
    · rename_i hl
      refine List.pairwise_cons.2 ⟨fun b hb => ?_, ins_sor x ys h'.2⟩
      rcases List.mem_cons.1 ((ins_perm x ys).mem_iff.1 hb) with rfl | hb
      · exact lt_asym hl
      · exact h'.1 b hb
    · rename_i hl
      refine List.pairwise_cons.2 ⟨fun b hb => ?_, h⟩
      rcases List.mem_cons.1 hb with rfl | hb
      · exact hl
      · exact le_tr hl (h'.1 b hb)
theorem srt_sor : ∀ l, Sor (srt l)
  | [] => List.Pairwise.nil
  | x :: xs => ins_sor x _ (srt_sor xs)
theorem anti {a b : P2} (h : ¬ lt a b) (g : ¬ lt b a) : a = b := by
  obtain ⟨a1, a2⟩ := a
  obtain ⟨b1, b2⟩ := b
  unfold lt at h g
  simp only at h g
  have : a1 = b1 := by omega
  have : a2 = b2 := by omega
  simp [*]
theorem sor_eq : ∀ {l m : List P2}, l.Perm m → Sor l → Sor m → l = m
  | [], m, h, _, _ => h.nil_eq
  | a :: l, [], h, _, _ => absurd h (by simp)
  | a :: l, b :: m, h, hl, hm => by
    have e : a = b := by
      have h1 := h.mem_iff (a := a)
      have h2 := h.mem_iff (a := b)
      by_cases e : a = b
      · exact e
      · have a1 : a ∈ m := by
          rcases List.mem_cons.1 (h1.1 (List.mem_cons_self ..)) with e' | e'
          · exact absurd e' e
          · exact e'
        have b1 : b ∈ l := by
          rcases List.mem_cons.1 (h2.2 (List.mem_cons_self ..)) with e' | e'
          · exact absurd e'.symm e
          · exact e'
        exact anti ((List.pairwise_cons.1 hm).1 a a1) ((List.pairwise_cons.1 hl).1 b b1)
    subst e
    rw [sor_eq (List.Perm.cons_inv h) (List.pairwise_cons.1 hl).2 (List.pairwise_cons.1 hm).2]
theorem srt_uniq {l m : List P2} (h : l.Perm m) (hl : Sor l) : l = srt m := sor_eq (h.trans (srt_perm m).symm) hl (srt_sor m)
theorem opens_take {k : Nat} {ps : List Pay} {p : Pay} (h : ps[k]? = some p) (k0 : Nat) : opens k0 (ps.take (k + 1)) = opens k0 (ps.take k) ++ (if p.stage = 0 then [(p.til, ((k0 + k : Nat) : Int))] else []) := by
  induction ps generalizing k k0 with
  | nil => simp at h
  | cons q qs ih =>
    cases k with
    | zero =>
      simp at h; subst h
      simp only [List.take_succ_cons, List.take_zero, opens]
      split <;> simp
    | succ k =>
      simp at h
      have := ih h (k0 + 1)
      rw [show k0 + 1 + k = k0 + (k + 1) by omega] at this
      simp only [List.take_succ_cons, opens]
      split <;> simp [this]
theorem opens_len (k0 : Nat) (ps : List Pay) : (opens k0 ps).length ≤ ps.length := by
  induction ps generalizing k0 with
  | nil => simp [opens]
  | cons q qs ih =>
    have := ih (k0 + 1)
    simp only [opens]
    split <;> simp <;> omega
/-- What All comes to: places. -/
def places (ps : List Pay) : List Int := (srt (opens 0 ps)).map (·.2)
end Go.Proofs.YtjffmldlkofpaaaGreatDoor.P

/- those whose time is over. Plain. -/
namespace Go.Proofs.YtjffmldlkofpaaaGreatDoor.P
open Q
theorem opens_mem {ps : List Pay} : ∀ {k0 : Nat} {x : P2}, x ∈ opens k0 ps → ∃ (i : Nat) (p : Pay), x.2 = ((k0 + i : Nat) : Int) ∧ ps[i]? = some p ∧ p.til = x.1 ∧ p.stage = 0 := by
  induction ps with
  | nil => intro k0 x h; simp [opens] at h
  | cons q qs ih =>
    intro k0 x h
    have rec' : x ∈ opens (k0 + 1) qs → ∃ (i : Nat) (p : Pay), x.2 = ((k0 + i : Nat) : Int) ∧ (q :: qs)[i]? = some p ∧ p.til = x.1 ∧ p.stage = 0 := by
      intro h
      obtain ⟨i, p, h1, h2, h3⟩ := ih h
      exact ⟨i + 1, p, by rw [h1]; omega, by simpa using h2, h3⟩
    unfold opens at h
    split at h
    · rename_i hg
      rcases List.mem_cons.1 h with rfl | h
      · exact ⟨0, q, by simp, rfl, rfl, hg⟩
      · exact rec' h
    · exact rec' h
theorem mem_opens {ps : List Pay} : ∀ {k0 i : Nat} {p : Pay}, ps[i]? = some p → p.stage = 0 → (p.til, ((k0 + i : Nat) : Int)) ∈ opens k0 ps := by
  induction ps with
  | nil => intro k0 i p h; simp at h
  | cons q qs ih =>
    intro k0 i p h hg
    unfold opens
    cases i with
    | zero =>
      simp at h; subst h
      rw [if_pos hg]; exact List.mem_cons_self ..
    | succ i =>
      have := ih (k0 := k0 + 1) (by simpa using h) hg
      rw [show k0 + 1 + i = k0 + (i + 1) by omega] at this
      split
      · exact List.mem_cons_of_mem _ this
      · exact this
def L (ps : List Pay) : List P2 := srt (opens 0 ps)
theorem places_eq (ps : List Pay) : places ps = (L ps).map (·.2) := rfl
theorem L_mem {ps : List Pay} {x : P2} (h : x ∈ L ps) : ∃ (i : Nat) (p : Pay), x.2 = (i : Int) ∧ ps[i]? = some p ∧ p.til = x.1 ∧ p.stage = 0 := by
  have := opens_mem ((srt_perm _).mem_iff.1 h)
  simpa using this
theorem L_len (ps : List Pay) : (L ps).length ≤ ps.length := by
  unfold L
  rw [(srt_perm _).length_eq]
  exact opens_len 0 ps
/-- What By comes to. -/
def by' (ps : List Pay) (now : Int) : List P2 := (L ps).takeWhile fun p => decide (p.1 ≤ now)
theorem tw_end {l : List P2} {i : Nat} {now : Int} (h : ∀ p ∈ l.take i, p.1 ≤ now) (he : l[i]? = none ∨ ∃ p, l[i]? = some p ∧ ¬ p.1 ≤ now) : l.takeWhile (fun p => decide (p.1 ≤ now)) = l.take i := by
  induction l generalizing i with
  | nil => simp
  | cons a l ih =>
    cases i with
    | zero =>
      rcases he with he | ⟨p, hp, hn⟩
      · simp at he
      · simp at hp; subst hp
        simp [hn]
    | succ i =>
      simp only [List.take_succ_cons, List.mem_cons] at h
      have ha := h a (.inl rfl)
      simp only [List.takeWhile_cons, ha, decide_true, if_true, List.take_succ_cons]
      rw [ih (fun p hp => h p (.inr hp)) (by simpa using he)]
end Go.Proofs.YtjffmldlkofpaaaGreatDoor.P

/- by taking the least one again and again. Plain. -/
namespace Go.Proofs.YtjffmldlkofpaaaGreatDoor.P
open Q
def rst : Nat → List Pay → List Bool → List P2
  | k, p :: ps, b :: bs => if p.stage = 0 ∧ b = false then (p.til, (k : Int)) :: rst (k + 1) ps bs else rst (k + 1) ps bs
  | _, _, _ => []
theorem rst_nil (k : Nat) (bs : List Bool) : rst k [] bs = [] := by cases bs <;> rfl
theorem rst_init : ∀ (k0 : Nat) (ps : List Pay), rst k0 ps (List.replicate ps.length false) = opens k0 ps
  | _, [] => rfl
  | k0, p :: ps => by
    simp only [List.length_cons, List.replicate_succ, rst, opens, and_true]
    rw [rst_init (k0 + 1) ps]
theorem rst_take {ps : List Pay} : ∀ {k k0 : Nat} {p : Pay} {bs : List Bool} {b : Bool}, ps[k]? = some p → bs[k]? = some b → rst k0 (ps.take (k + 1)) bs = rst k0 (ps.take k) bs ++ (if p.stage = 0 ∧ b = false then [(p.til, ((k0 + k : Nat) : Int))] else []) := by
  induction ps with
  | nil => intro k k0 p bs b h; simp at h
  | cons q qs ih =>
    intro k k0 p bs b h hb
    cases bs with
    | nil => simp at hb
    | cons c bs =>
      cases k with
      | zero =>
        simp at h hb; subst h; subst hb
        simp only [List.take_succ_cons, List.take_zero, rst, rst_nil]
        split <;> simp
      | succ k =>
        simp at h hb
        have := ih (k0 := k0 + 1) h hb
        rw [show k0 + 1 + k = k0 + (k + 1) by omega] at this
        simp only [List.take_succ_cons, rst]
        rw [this]
        split <;> simp
theorem rst_set {ps : List Pay} : ∀ {j k0 : Nat} {p : Pay} {bs : List Bool}, ps[j]? = some p → bs[j]? = some false → p.stage = 0 → (rst k0 ps bs).Perm ((p.til, ((k0 + j : Nat) : Int)) :: rst k0 ps (bs.set j true)) := by
  induction ps with
  | nil => intro j k0 p bs h; simp at h
  | cons q qs ih =>
    intro j k0 p bs h hb hg
    cases bs with
    | nil => simp at hb
    | cons c bs =>
      cases j with
      | zero =>
        simp at h hb; subst h; subst hb
        simp only [List.set_cons_zero, rst, hg]
        simp
      | succ j =>
        simp at h hb
        have := ih (k0 := k0 + 1) h hb hg
        rw [show k0 + 1 + j = k0 + (j + 1) by omega] at this
        simp only [List.set_cons_succ, rst]
        split
        · exact (this.cons _).trans (.swap _ _ _)
        · exact this
/-- The least so far, of the first k. -/
def Best (ps : List Pay) (tk : List Bool) (k : Nat) (best : Int) : Prop := (best = -1 ∧ rst 0 (ps.take k) tk = []) ∨ ∃ (j : Nat) (p : Pay), best = (j : Int) ∧ ps[j]? = some p ∧ p.stage = 0 ∧ tk[j]? = some false ∧ j < k ∧ ∀ y ∈ rst 0 (ps.take k) tk, ¬ lt y (p.til, (j : Int))
theorem best_no {ps : List Pay} {tk : List Bool} {k : Nat} {best : Int} {p : Pay} {b : Bool} (h : Best ps tk k best) (hp : ps[k]? = some p) (hb : tk[k]? = some b) (hn : ¬ (p.stage = 0 ∧ b = false)) : Best ps tk (k + 1) best := by
  have e := rst_take (k0 := 0) hp hb
  rw [if_neg hn, List.append_nil] at e
  rcases h with ⟨h1, h2⟩ | ⟨j, q, h1, h2, h3, h4, h5, h6⟩
  · exact .inl ⟨h1, e.trans h2⟩
  · exact .inr ⟨j, q, h1, h2, h3, h4, by omega, by rw [e]; exact h6⟩
theorem best_new {ps : List Pay} {tk : List Bool} {k : Nat} {best : Int} {p : Pay} (h : Best ps tk k best) (hp : ps[k]? = some p) (hb : tk[k]? = some false) (hg : p.stage = 0)
    (hn : best < 0 ∨ ∃ q, ps[best.toNat]? = some q ∧ p.til < q.til) : Best ps tk (k + 1) k := by
  have e := rst_take (k0 := 0) hp hb
  rw [if_pos ⟨hg, rfl⟩, Nat.zero_add] at e
  refine .inr ⟨k, p, rfl, hp, hg, hb, by omega, ?_⟩
  intro y hy
  rw [e] at hy
  rcases List.mem_append.1 hy with hy | hy
  · rcases h with ⟨h1, h2⟩ | ⟨j, q, h1, h2, h3, h4, h5, h6⟩
    · rw [h2] at hy; simp at hy
    · have := h6 y hy
      rcases hn with hn | ⟨q', hq', hlt⟩
      · omega
      · rw [h1] at hq'
        have : q' = q := by simpa [h2] using hq'.symm
        subst this
        unfold lt at *
        simp only at *
        omega
  · rcases List.mem_singleton.1 hy with rfl
    exact lt_irr
theorem best_old {ps : List Pay} {tk : List Bool} {k : Nat} {best : Int} {p : Pay} (h : Best ps tk k best) (hp : ps[k]? = some p) (hb : tk[k]? = some false) (hg : p.stage = 0)
    (h0 : ¬ best < 0) (hn : ∀ q, ps[best.toNat]? = some q → ¬ p.til < q.til) : Best ps tk (k + 1) best := by
  have e := rst_take (k0 := 0) hp hb
  rw [if_pos ⟨hg, rfl⟩, Nat.zero_add] at e
  rcases h with ⟨h1, h2⟩ | ⟨j, q, h1, h2, h3, h4, h5, h6⟩
  · omega
  · refine .inr ⟨j, q, h1, h2, h3, h4, by omega, ?_⟩
    intro y hy
    rw [e] at hy
    rcases List.mem_append.1 hy with hy | hy
    · exact h6 y hy
    · rcases List.mem_singleton.1 hy with rfl
      have := hn q (by rw [h1]; simpa using h2)
      unfold lt
      simp only
      omega
end Go.Proofs.YtjffmldlkofpaaaGreatDoor.P

/- the laws' own facts. Plain. -/
namespace Go.Proofs.YtjffmldlkofpaaaGreatDoor.P
open Q
theorem tw_le {l : List P2} {a b : Int} (h : a ≤ b) : (l.takeWhile fun p => decide (p.1 ≤ a)).length ≤ (l.takeWhile fun p => decide (p.1 ≤ b)).length ∧ (l.takeWhile fun p => decide (p.1 ≤ b)).take (l.takeWhile fun p => decide (p.1 ≤ a)).length = l.takeWhile fun p => decide (p.1 ≤ a) := by
  induction l with
  | nil => simp
  | cons x l ih =>
    by_cases hx : x.1 ≤ a
    · have hx' : x.1 ≤ b := by omega
      simp only [List.takeWhile_cons, hx, hx', decide_true, if_true, List.length_cons, List.take_succ_cons, ih.2, and_true]
      omega
    · simp [List.takeWhile_cons, hx]
theorem by_le (ps : List Pay) {a b : Int} (h : a ≤ b) : (by' ps a).length ≤ (by' ps b).length ∧ (by' ps b).take (by' ps a).length = by' ps a := tw_le h
theorem by_len (ps : List Pay) (a : Int) : (by' ps a).length ≤ ps.length := Nat.le_trans (List.Sublist.length_le (List.takeWhile_sublist _)) (L_len ps)
theorem by_nil {ps : List Pay} (h : L ps = []) (a : Int) : by' ps a = [] := by unfold by'; rw [h]; rfl
theorem by_less {ps : List Pay} {x : P2} {xs : List P2} (h : L ps = x :: xs) {a : Int} (ha : a < x.1) : by' ps a = [] := by
  unfold by'; rw [h, List.takeWhile_cons]
  have : ¬ x.1 ≤ a := by omega
  simp [this]
theorem by_more {ps : List Pay} {x : P2} {xs : List P2} (h : L ps = x :: xs) : 0 < (by' ps x.1).length := by
  unfold by'; rw [h, List.takeWhile_cons]
  simp
/-- Of a list in order those by a time are the first ones. -/
theorem tw_filter {l : List P2} (h : Sor l) (a : Int) : l.filter (fun p => decide (p.1 ≤ a)) = l.takeWhile fun p => decide (p.1 ≤ a) := by
  induction l with
  | nil => rfl
  | cons x l ih =>
    have h' := List.pairwise_cons.1 h
    by_cases hx : x.1 ≤ a
    · simp only [List.filter_cons, List.takeWhile_cons, hx, decide_true, if_true]
      rw [ih h'.2]
    · simp only [List.filter_cons, List.takeWhile_cons, hx, decide_false]
      rw [List.filter_eq_nil_iff.2]
      · simp
      · intro y hy
        have := h'.1 y hy
        unfold lt at this
        simp; omega
theorem by_filter (ps : List Pay) (a : Int) : (L ps).filter (fun p => decide (p.1 ≤ a)) = by' ps a := tw_filter (srt_sor _) a
theorem opens_append (ps : List Pay) (m : Pay) : ∀ k0, opens k0 (ps ++ [m]) = opens k0 ps ++ (if m.stage = 0 then [(m.til, ((k0 + ps.length : Nat) : Int))] else []) := by
  induction ps with
  | nil => intro k0; simp only [List.nil_append, opens]; split <;> simp
  | cons p ps ih =>
    intro k0
    simp only [List.cons_append, opens, ih (k0 + 1), List.length_cons]
    rw [show k0 + 1 + ps.length = k0 + (ps.length + 1) by omega]
    split <;> simp
theorem more_filter (ps : List Pay) (m : Pay) : (L (ps ++ [m])).filter (fun p => decide (p.2 < (ps.length : Int))) = L ps := by
  unfold L
  refine srt_uniq ?_ ((srt_sor _).sublist List.filter_sublist)
  refine ((srt_perm _).filter _).trans ?_
  rw [opens_append, List.filter_append, Nat.zero_add]
  have h1 : (opens 0 ps).filter (fun p => decide (p.2 < (ps.length : Int))) = opens 0 ps := by
    refine List.filter_eq_self.2 fun x hx => ?_
    obtain ⟨i, p, h1, h2, _⟩ := opens_mem hx
    have := (List.getElem?_eq_some_iff.1 h2).1
    simp [h1, this]
  rw [h1]
  split <;> simp
theorem more_len (ps : List Pay) (m : Pay) : (L (ps ++ [m])).length = (L ps).length + (if m.stage = 0 then 1 else 0) := by
  unfold L
  rw [(srt_perm _).length_eq, (srt_perm _).length_eq, opens_append, List.length_append]
  split <;> simp
end Go.Proofs.YtjffmldlkofpaaaGreatDoor.P

/- a heap's methods. -/
namespace Go.Proofs.YtjffmldlkofpaaaGreatDoor.A.Due
open Go
set_option maxRecDepth 400000
def E0 (D : Nat) (pl : Nat → Plan) : En := ⟨tab, fun _ _ _ _ => False, fun _ => none, D, pl⟩
theorem E0_C (D : Nat) (pl : Nat → Plan) : CallOk Tryz.prog (E0 D pl).T (E0 D pl).R := fun _ _ _ _ h => h.elim
theorem E0_J (D : Nat) (pl : Nat → Plan) : JOk Tryz.prog (E0 D pl).T (E0 D pl).J := fun _ _ h => by cases h
def jLen : StSpec := fun args s K => match args with
  | [.sl _ _ xs] => K (.int .i64 xs.length) s
  | _ => False
theorem len_ok : SOk Tryz.prog tab 124 jLen := by
  refine SOk.mono (inl_ok (E := E0 18000 pl124) tab_is (E0_C _ _) (E0_J _ _) Tryz.func124 (by kernel_rfl) rfl (by kernel_rfl)) ?_
  intro args s K h
  obtain ⟨t, hp⟩ := s
  unfold jLen at h
  split at h
  · rename_i g e xs
    refine ⟨⟨t, hp⟩, pop_eq (fun j => ?_), h⟩
    rw [upd_over, upd_over, upd_over, upd_over]
    · exact push_at j
    all_goals rfl
  · exact h.elim

/-- An item is a time and a place. -/
def item (u k : Int) : AV := .agg [.int .i64 u, .int .i64 k]
def less (u k u' k' : Int) : Bool := decide (u < u') || (u == u' && decide (k < k'))
def jLess : StSpec := fun args s K => match args with
  | [.sl _ 220 xs, .int .i64 i, .int .i64 k] => ∃ u a u' a', 0 ≤ i ∧ 0 ≤ k ∧ xs[i.toNat]? = some (item u a) ∧ xs[k.toNat]? = some (item u' a') ∧ K (.bool (less u a u' a')) s
  | _ => False
theorem less_ok : SOk Tryz.prog tab 171 jLess := by
  refine SOk.mono (inl_ok (E := E0 38000 pl171) tab_is (E0_C _ _) (E0_J _ _) Tryz.func171 (by kernel_rfl) rfl (by kernel_rfl)) ?_
  intro args s K h
  obtain ⟨t, hp⟩ := s
  unfold jLess at h
  split at h
  · rename_i g xs i k
    obtain ⟨u, a, u', a', h1, h2, h3, h4, hK⟩ := h
    have fin : ∀ b, b = less u a u' a' → K (.bool b) ⟨t, hp⟩ := fun b e => e ▸ hK
    cases g
    all_goals
      refine ⟨_, h1, h3, _, h2, h4, ?_⟩
      constructor
      · intro hb
        refine ⟨⟨t, hp⟩, pop_eq (fun j => ?_), fin _ ?_⟩
        · (repeat rw [upd_over]); exact push_at j; all_goals rfl
        · simp [less, hb]
      · intro hb
        refine ⟨_, h1, h3, _, h2, h4, ?_⟩
        constructor
        · intro hc
          refine ⟨_, h1, h3, _, h2, h4, ⟨t, hp⟩, pop_eq (fun j => ?_), fin _ ?_⟩
          · (repeat rw [upd_over]); exact push_at j; all_goals rfl
          · simp [less, hb, hc]
        · intro hc
          refine ⟨⟨t, hp⟩, pop_eq (fun j => ?_), fin _ ?_⟩
          · (repeat rw [upd_over]); exact push_at j; all_goals rfl
          · simp [less, hb, hc]
  · exact h.elim
end Go.Proofs.YtjffmldlkofpaaaGreatDoor.A.Due

/- what calls do to a state, for a heap. -/
namespace Go.Proofs.YtjffmldlkofpaaaGreatDoor.A.Due
open Go
set_option maxRecDepth 400000
def plSwap : Nat → Plan
  | 0 => (.take 0 (.take 1 (.take 2 (.take 3 (.take 4 (.take 5 (.take 6 (.take 8 (.take 9 (.take 10 (.alt 7 (.last 11 (.take 12 (.last 13 (.take 14 (.last 15 .done))))) (.last 11 (.last 7 (.take 12 (.last 13 (.take 14 (.last 15 .done)))))))))))))))))
  | _ => .done
def plPush : Nat → Plan
  | 0 => (.take 0 (.take 1 (.take 2 (.take 4 (.take 5 (.alt 3 (.last 6 (.last 7 (.take 8 (.last 9 .done)))) (.last 6 (.last 3 (.last 7 (.take 8 (.last 9 .done)))))))))))
  | _ => .done
noncomputable def jSwap : StSpec := inlJ (E0 41000 plSwap) Tryz.f174 (bodyOf Tryz.f174)
theorem swap_ok : SOk Tryz.prog tab 174 jSwap := inl_ok (E := E0 41000 plSwap) tab_is (E0_C _ _) (E0_J _ _) Tryz.func174 (by kernel_rfl) rfl (by kernel_rfl)
noncomputable def jPush : StSpec := inlJ (E0 40000 plPush) Tryz.f173 (bodyOf Tryz.f173)
theorem push_ok : SOk Tryz.prog tab 173 jPush := inl_ok (E := E0 40000 plPush) tab_is (E0_C _ _) (E0_J _ _) Tryz.func173 (by kernel_rfl) rfl (by kernel_rfl)
noncomputable def jPop : StSpec := inlJ (E0 39000 pl172) Tryz.f172 (bodyOf Tryz.f172)
theorem pop_ok : SOk Tryz.prog tab 172 jPop := inl_ok (E := E0 39000 pl172) tab_is (E0_C _ _) (E0_J _ _) Tryz.func172 (by kernel_rfl) rfl (by kernel_rfl)
end Go.Proofs.YtjffmldlkofpaaaGreatDoor.A.Due

/- what a heap's functions leave as it was. -/
namespace Go.Proofs.YtjffmldlkofpaaaGreatDoor.A.Due
open Go Q P
set_option maxRecDepth 400000
def itemA (p : P2) : AV := item p.1 p.2
def rowB (l : List P2) : Option Box := some (.cells 217 [.sl (.own 7000) 220 (l.map itemA)])
/-- The row's slice, and what lower frames make, are forgotten. -/
def kil : AV → AV
  | .sl (.own G) e xs => bif Nat.beq G 7000 || Nat.ble 17000000 G then .bad else .sl (.own G) e xs
  | .pe (.own G) e i o cs => bif Nat.beq G 7000 || Nat.ble 17000000 G then .bad else .pe (.own G) e i o cs
  | .ptr b o => bif Nat.ble 17000 b then .bad else .ptr b o
  | .mp b => bif Nat.ble 17000 b then .bad else .mp b
  | v => v
def Cl (v : AV) : Prop := v.tr kil = v
def ClO (o : Option Box) : Prop := ∀ x, o = some x → x.mapA (AV.tr kil) = x
/-- It leaves alone what is not the row's. -/
def Gd (φ : AV → AV) : Prop := ∀ v, kil v = v → φ v = v
mutual
theorem tr_fix {φ : AV → AV} (h : Gd φ) : ∀ v : AV, v.tr kil = v → v.tr φ = v
  | .agg cs, e => by unfold AV.tr at e ⊢; rw [trL_fix h cs (AV.agg.inj e)]
  | .tup cs, e => by unfold AV.tr at e ⊢; rw [trL_fix h cs (AV.tup.inj e)]
  | .ifc t v, e => by unfold AV.tr at e ⊢; rw [tr_fix h v (AV.ifc.inj e).2]
  | .fn f a c, e => by unfold AV.tr at e ⊢; rw [trL_fix h a (AV.fn.inj e).2.1, trL_fix h c (AV.fn.inj e).2.2]
  | .int k n, e => h _ e
  | .bool b, e => h _ e
  | .str s, e => h _ e
  | .ptr b o, e => h _ e
  | .nilptr, e => h _ e
  | .sl g e' xs, e => h _ e
  | .pe g e' i o cs, e => h _ e
  | .nilfn, e => h _ e
  | .nilifc, e => h _ e
  | .mp b, e => h _ e
  | .nilmp, e => h _ e
  | .bad, e => h _ e
theorem trL_fix {φ : AV → AV} (h : Gd φ) : ∀ l : List AV, AV.trL kil l = l → AV.trL φ l = l
  | [], _ => by unfold AV.trL; rfl
  | v :: vs, e => by unfold AV.trL at e ⊢; rw [tr_fix h v (List.cons.inj e).1, trL_fix h vs (List.cons.inj e).2]
end
theorem map_fix {α : Type} {f g : α → α} (h : ∀ x, f x = x → g x = x) : ∀ l : List α, l.map f = l → l.map g = l
  | [], _ => rfl
  | x :: xs, e => by rw [List.map_cons] at e ⊢; rw [h x (List.cons.inj e).1, map_fix h xs (List.cons.inj e).2]
theorem box_fix {φ : AV → AV} (h : Gd φ) (x : Box) (e : x.mapA (AV.tr kil) = x) : x.mapA (AV.tr φ) = x := by
  cases x with
  | cells t cs => exact congrArg (Box.cells t) (map_fix (tr_fix h) cs (Box.cells.inj e).2)
  | mapo es =>
    exact congrArg Box.mapo (map_fix (f := fun p : AV × AV => (p.1, p.2.tr kil)) (g := fun p => (p.1, p.2.tr φ)) (fun p hp => by
      have := (Prod.ext_iff.1 hp).2
      exact Prod.ext_iff.2 ⟨rfl, tr_fix h _ this⟩) es (Box.mapo.inj e))
/-- What is not the row's is as it was. -/
def Fr (s s' : St) : Prop := (∀ j, Cl (s.t j) → s'.t j = s.t j) ∧ ∀ b, b ≠ 8 → b < 17000 → ClO (s.h b) → s'.h b = s.h b
theorem Fr.refl (s : St) : Fr s s := ⟨fun _ _ => rfl, fun _ _ _ _ => rfl⟩
theorem Fr.trans {a b c : St} (h : Fr a b) (g : Fr b c) : Fr a c :=
  ⟨fun j hc => by rw [g.1 j (by rw [h.1 j hc]; exact hc), h.1 j hc], fun b h8 h1 hc => by rw [g.2 b h8 h1 (by rw [h.2 b h8 h1 hc]; exact hc), h.2 b h8 h1 hc]⟩
theorem Fr.map (s : St) {φ : AV → AV} (h : Gd φ) : Fr s (s.mapA φ) := by
  obtain ⟨t, hp⟩ := s
  refine ⟨fun j hc => tr_fix h _ hc, fun b _ _ hc => ?_⟩
  show (match hp b with | some x => some (x.mapA (AV.tr φ)) | none => none) = hp b
  cases e : hp b with
  | none => rfl
  | some x => exact congrArg some (box_fix h x (hc x e))
theorem Fr.box8 (s : St) (x : Box) : Fr s (s.box 8 x) := by
  obtain ⟨t, hp⟩ := s
  exact ⟨fun _ _ => rfl, fun b h8 _ _ => upd_ne hp _ h8⟩
theorem Fr.boxN (s : St) (d : Nat) (hd : 17000 ≤ d) (x : Box) : Fr s (s.box d x) := by
  obtain ⟨t, hp⟩ := s
  exact ⟨fun _ _ => rfl, fun b _ h1 _ => upd_ne hp _ (by omega)⟩
theorem Fr.pop {s s' : St} (h : Fr s s') : Fr (popS s) (popS s') := by
  obtain ⟨t, hp⟩ := s
  obtain ⟨t', hp'⟩ := s'
  exact ⟨fun j hc => h.1 (j + 1000000) hc, h.2⟩
/-- A frame upon s0. -/
def Un (s0 s : St) : Prop := Fr s0 (popS s)
theorem un_push (args : List AV) (s : St) : Un s (pushS args s) := by unfold Un; rw [pop_push]; exact .refl s
theorem un_fr {s0 s s' : St} (h : Un s0 s) (g : Fr s s') : Un s0 s' := Fr.trans h g.pop
theorem un_put {s0 : St} {t : Nat → AV} {h : Nat → Option Box} {d : Nat} {v : AV} (hd : Nat.blt d 1000000 = true) (hu : Un s0 ⟨t, h⟩) : Un s0 ⟨upd t d v, h⟩ := by
  have := pop_put (s := ⟨t, h⟩) (d := d) (v := v) hd
  unfold Un at *
  exact this.symm ▸ hu
theorem un_map {s0 : St} {t : Nat → AV} {h : Nat → Option Box} {φ : AV → AV} (g : Gd φ) (hu : Un s0 ⟨t, h⟩) : Un s0 (St.mapQ ⟨t, h⟩ φ) := by rw [mapQ_eq]; exact un_fr hu (.map _ g)
theorem un_box8 {s0 : St} {t : Nat → AV} {h : Nat → Option Box} {x : Box} (hu : Un s0 ⟨t, h⟩) : Un s0 ⟨t, upd h 8 (some x)⟩ := un_fr hu (.box8 _ x)
theorem un_boxN {s0 : St} {t : Nat → AV} {h : Nat → Option Box} {d : Nat} {x : Box} (hd : Nat.ble 17000 d = true) (hu : Un s0 ⟨t, h⟩) : Un s0 ⟨t, upd h d (some x)⟩ := un_fr hu (.boxN _ d (Nat.le_of_ble_eq_true hd) x)
theorem gd_drp {F : Nat} (hF : (Nat.beq F 7000 || Nat.ble 17000000 F) = true) : Gd (drpFq F) := by
  rw [drpFq_eq]
  intro v hv
  have key : ∀ G x, (bif Nat.beq G 7000 || Nat.ble 17000000 G then AV.bad else x) = x → x ≠ .bad → (bif Nat.beq G F then AV.bad else x) = x := by
    intro G x h1 h2
    cases e : Nat.beq G F with
    | false => rfl
    | true => rw [Nat.eq_of_beq_eq_true e, hF] at h1; exact absurd h1.symm h2
  cases v with
  | sl g e xs => cases g with
    | own G => exact key G _ hv (by intro h; cases h)
    | _ => rfl
  | pe g e i o cs => cases g with
    | own G => exact key G _ hv (by intro h; cases h)
    | _ => rfl
  | _ => rfl
theorem gd_wrt {i o : Nat} {us : List AV} : Gd (wrtFq 7000 i o us) := by
  rw [wrtFq_eq]
  intro v hv
  have key : ∀ G x y, (bif Nat.beq G 7000 || Nat.ble 17000000 G then AV.bad else x) = x → x ≠ .bad → (bif Nat.beq G 7000 then y else x) = x := by
    intro G x y h1 h2
    cases e : Nat.beq G 7000 with
    | false => rfl
    | true => rw [e] at h1; exact absurd h1.symm h2
  cases v with
  | sl g e xs => cases g with
    | own G => exact key G _ _ hv (by intro h; cases h)
    | _ => rfl
  | pe g e i o cs => cases g with
    | own G => exact key G _ _ hv (by intro h; cases h)
    | _ => rfl
  | _ => rfl
theorem gd_fgt {b : Nat} (hb : Nat.ble 17000 b = true) : Gd (fgtBq b) := by
  rw [fgtBq_eq]
  intro v hv
  have key : ∀ c x, (bif Nat.ble 17000 c then AV.bad else x) = x → x ≠ .bad → (bif Nat.beq c b then AV.bad else x) = x := by
    intro c x h1 h2
    cases e : Nat.beq c b with
    | false => rfl
    | true => rw [Nat.eq_of_beq_eq_true e, hb] at h1; exact absurd h1.symm h2
  cases v with
  | ptr c o => exact key c _ hv (by intro h; cases h)
  | mp c => exact key c _ hv (by intro h; cases h)
  | _ => rfl
/-- Some places and boxes told of a state. -/
theorem told {Q : St → Prop} {t : Nat → AV} {h : Nat → Option Box} (l : List (Nat × AV)) (lb : List (Nat × Option Box)) (ht : Has t l) (hh : Has h lb) (g : Q ⟨updL t l, updL h lb⟩) : Q ⟨t, h⟩ := by
  rw [updL_has t l ht, updL_has h lb hh] at g
  exact g
theorem inl_go {E : En} {fn : Func} {code : Code} {args : List AV} {s : St} {K : AV → St → Prop} (hl : Nat.ble args.length fn.ntmps = true) (h : wpA E code (bodyJ E.T fn K) (pushS args s)) : inlJ E fn code args s K := by
  unfold inlJ
  rw [hl]
  exact h
theorem un_told {s0 : St} {t : Nat → AV} {h : Nat → Option Box} {l : List (Nat × AV)} {lb : List (Nat × Option Box)} (ht : Has t l) (hh : Has h lb) (g : Un s0 ⟨t, h⟩) : Un s0 ⟨updL t l, updL h lb⟩ := by
  rw [updL_has t l ht, updL_has h lb hh]
  exact g
theorem wp_told {E : En} {c : Code} {Q : Ex → St → Prop} {t : Nat → AV} {h : Nat → Option Box} (l : List (Nat × AV)) (lb : List (Nat × Option Box)) (ht : Has t l) (hh : Has h lb) (g : wpA E c Q ⟨updL t l, updL h lb⟩) : wpA E c Q ⟨t, h⟩ := by
  rw [updL_has t l ht, updL_has h lb hh] at g
  exact g
end Go.Proofs.YtjffmldlkofpaaaGreatDoor.A.Due

/- Swap, Push, Pop as they change the row. -/
namespace Go.Proofs.YtjffmldlkofpaaaGreatDoor.A.Due
open Go Q P
set_option maxRecDepth 400000
def jSwapS : StSpec := fun args s K => ∃ (l : List P2) (i k : Nat), args = [.sl (.own 7000) 220 (l.map itemA), .int .i64 i, .int .i64 k] ∧ i < l.length ∧ k < l.length ∧ s.h 8 = rowB l ∧
  ∀ s', Fr s s' → s'.h 8 = rowB (swp l i k) → K (.tup []) s'
theorem map_get {l : List P2} {i : Nat} (h : i < l.length) : (l.map itemA)[i]? = some (item (at' l i).1 (at' l i).2) := by
  rw [List.getElem?_map, List.getElem?_eq_getElem h, at_eq h]; rfl
theorem row_put (l : List P2) (i : Nat) (p : P2) : (l.map itemA).modify i (fun x => x.ofCells (putCells x.cells 0 [.int .i64 p.1, .int .i64 p.2])) = (l.set i p).map itemA := by
  apply List.ext_getElem?
  intro j
  rw [List.getElem?_modify, List.getElem?_map, List.getElem?_map, List.getElem?_set]
  by_cases h : i = j
  · subst h
    by_cases hl : i < l.length
    · simp [hl, itemA, item, AV.cells, AV.ofCells, putCells]
    · simp [hl]
  · simp [h]
theorem swap_okS : SOk Tryz.prog tab 174 jSwapS := by
  refine SOk.mono swap_ok ?_
  rintro args ⟨t, hp⟩ K ⟨l, i, k, rfl, hi, hk, h8, hK⟩
  have h8 : hp 8 = rowB l := h8
  refine inl_go rfl (wp_told [] [(8, rowB l)] trivial ⟨h8, trivial⟩ ?_)
  have hk' : k < (l.set i (at' l k)).length := by simp [hk]
  have g2 : (List.modify (l.map itemA) i fun x => x.ofCells (putCells x.cells 0 [.int .i64 (at' l k).1, .int .i64 (at' l k).2]))[k]? = some (item (at' (l.set i (at' l k)) k).1 (at' (l.set i (at' l k)) k).2) := by
    rw [row_put]; exact map_get hk'
  have fin : ∀ s', Un ⟨t, hp⟩ s' → (popS s').h 8 = some (.cells 217 [.sl (.own 7000) 220 (List.modify (List.modify (l.map itemA) i fun x => x.ofCells (putCells x.cells 0 [.int .i64 (at' l k).1, .int .i64 (at' l k).2])) k fun x => x.ofCells (putCells x.cells 0 [.int .i64 (at' l i).1, .int .i64 (at' l i).2]))]) → K (.tup []) (popS s') := by
    intro s' hu hh
    refine hK _ hu ?_
    rw [hh, row_put, row_put]
    rfl
  refine ⟨_, Int.natCast_nonneg k, map_get hk, ?_⟩
  refine ⟨_, Int.natCast_nonneg i, map_get hi, ?_⟩
  constructor
  · refine ⟨_, Int.natCast_nonneg i, map_get hi, ?_⟩
    refine ⟨_, Int.natCast_nonneg k, g2, ?_⟩
    refine ⟨_, rfl, ?_⟩
    refine fin _ ?_ ?_
    rotate_left
    · rfl
    refine un_map gd_wrt (un_put rfl (un_map gd_wrt (un_put rfl ?_)))
    iterate 12 refine un_put rfl ?_
    exact un_told trivial ⟨h8, trivial⟩ (un_push _ _)
  · refine ⟨_, Int.natCast_nonneg i, map_get hi, ?_⟩
    refine ⟨_, Int.natCast_nonneg k, g2, ?_⟩
    refine ⟨_, rfl, ?_⟩
    refine fin _ ?_ ?_
    rotate_left
    · rfl
    refine un_map gd_wrt (un_put rfl (un_map gd_wrt (un_put rfl ?_)))
    iterate 12 refine un_put rfl ?_
    exact un_told trivial ⟨h8, trivial⟩ (un_push _ _)
end Go.Proofs.YtjffmldlkofpaaaGreatDoor.A.Due

/- Push, Pop as they change the row. -/
namespace Go.Proofs.YtjffmldlkofpaaaGreatDoor.A.Due
open Go Q P
set_option maxRecDepth 400000
def jPushS : StSpec := fun args s K => ∃ (l : List P2) (u k : Int), args = [.ptr 8 0, .ifc 220 (item u k)] ∧ l.length < 4100000 ∧ s.h 8 = rowB l ∧
  ∀ s', Fr s s' → s'.h 8 = rowB (l ++ [(u, k)]) → K (.tup []) s'
theorem push_okS : SOk Tryz.prog tab 173 jPushS := by
  refine SOk.mono push_ok ?_
  rintro args ⟨t, hp⟩ K ⟨l, u, k, rfl, hl, h8, hK⟩
  have h8 : hp 8 = rowB l := h8
  refine inl_go rfl (wp_told [] [(8, rowB l)] trivial ⟨h8, trivial⟩ ?_)
  have fin : ∀ s', Un ⟨t, hp⟩ s' → (popS s').h 8 = some (.cells 217 [.sl (.own 7000) 220 (l.map itemA ++ [item u k])]) → K (.tup []) (popS s') := by
    intro s' hu hh
    refine hK _ hu ?_
    rw [hh]
    simp [rowB, itemA]
  have hb : ((l.map itemA).length + 1) * 16 ≤ 140737488355328 := by simp; omega
  refine ⟨rfl, ?_⟩
  constructor
  · refine ⟨hb, ?_⟩
    refine ⟨_, rfl, ?_⟩
    refine fin _ ?_ ?_
    rotate_left
    · rfl
    refine un_box8 (un_put rfl (un_put rfl (un_map (gd_drp rfl) (un_put rfl (un_map (gd_drp (F := 40010000) rfl) ?_)))))
    iterate 6 refine un_put rfl ?_
    exact un_told trivial ⟨h8, trivial⟩ (un_push _ _)
  · refine ⟨hb, ?_⟩
    refine ⟨_, rfl, ?_⟩
    refine fin _ ?_ ?_
    rotate_left
    · rfl
    refine un_box8 (un_put rfl (un_put rfl (un_map (gd_drp rfl) (un_put rfl (un_put rfl (un_map (gd_drp (F := 40010000) rfl) ?_))))))
    iterate 5 refine un_put rfl ?_
    exact un_told trivial ⟨h8, trivial⟩ (un_push _ _)
end Go.Proofs.YtjffmldlkofpaaaGreatDoor.A.Due

/- Pop as it changes the row. -/
namespace Go.Proofs.YtjffmldlkofpaaaGreatDoor.A.Due
open Go Q P
set_option maxRecDepth 400000
def jPopS : StSpec := fun args s K => ∃ (l : List P2) (x : P2), args = [.ptr 8 0] ∧ l.length < 4100000 ∧ s.h 8 = rowB (l ++ [x]) ∧
  ∀ s', Fr s s' → s'.h 8 = rowB l → K (.ifc 220 (itemA x)) s'
theorem pop_okS : SOk Tryz.prog tab 172 jPopS := by
  refine SOk.mono pop_ok ?_
  rintro args ⟨t, hp⟩ K ⟨l, x, rfl, hl, h8, hK⟩
  have h8 : hp 8 = rowB (l ++ [x]) := h8
  refine inl_go rfl (wp_told [] [(8, rowB (l ++ [x]))] trivial ⟨h8, trivial⟩ ?_)
  have w : IntKind.i64.wrap ((((l ++ [x]).map itemA).length : Int) - 1) = (l.length : Int) := by
    rw [wrap_of] <;> simp <;> omega
  have w0 : 0 ≤ IntKind.i64.wrap ((((l ++ [x]).map itemA).length : Int) - 1) := by rw [w]; omega
  have w1 : ((l ++ [x]).map itemA)[(IntKind.i64.wrap ((((l ++ [x]).map itemA).length : Int) - 1)).toNat]? = some (item x.1 x.2) := by rw [w]; simp [itemA]
  have w2 : 0 ≤ (IntKind.i64.wrap ((((l ++ [x]).map itemA).length : Int) - 1)).toNat := Nat.zero_le _
  have w3 : (IntKind.i64.wrap ((((l ++ [x]).map itemA).length : Int) - 1)).toNat ≤ ((l ++ [x]).map itemA).length := by rw [w]; simp
  have fin : ∀ s', Un ⟨t, hp⟩ s' → (popS s').h 8 = some (.cells 217 [.sl (.own 7000) 220 (((l ++ [x]).map itemA).take (IntKind.i64.wrap ((((l ++ [x]).map itemA).length : Int) - 1)).toNat)]) → K (.ifc 220 (item x.1 x.2)) (popS s') := by
    intro s' hu hh
    refine hK _ hu ?_
    rw [hh, w]
    simp [rowB]
  refine ⟨_, w0, w1, ?_⟩
  refine ⟨w0, w2, w3, ?_⟩
  refine ⟨_, rfl, ?_⟩
  refine fin _ ?_ ?_
  rotate_left
  · rfl
  refine un_box8 (un_boxN rfl (un_boxN rfl ?_))
  iterate 11 refine un_put rfl ?_
  refine un_map (gd_fgt (b := 39004) rfl) ?_
  iterate 13 refine un_put rfl ?_
  exact un_told trivial ⟨h8, trivial⟩ (un_push _ _)
end Go.Proofs.YtjffmldlkofpaaaGreatDoor.A.Due

/- up. -/
namespace Go.Proofs.YtjffmldlkofpaaaGreatDoor.A.Due
open Go Q P
set_option maxRecDepth 400000
noncomputable def J1 : FuncId → Option StSpec
  | 124 => some jLen
  | 171 => some jLess
  | 174 => some jSwapS
  | 173 => some jPushS
  | 172 => some jPopS
  | _ => none
theorem J1_ok : JOk Tryz.prog tab J1 := by
  intro f j h
  unfold J1 at h
  split at h <;> first | (cases h; done) | (cases h; assumption) | skip
  · cases h; exact len_ok
  · cases h; exact less_ok
  · cases h; exact swap_okS
  · cases h; exact push_okS
  · cases h; exact pop_okS
noncomputable def E1 (J : FuncId → Option StSpec) (D : Nat) (pl : Nat → Plan) : En := ⟨tab, fun _ _ _ _ => False, J, D, pl⟩
theorem E1_C (J : FuncId → Option StSpec) (D : Nat) (pl : Nat → Plan) : CallOk Tryz.prog (E1 J D pl).T (E1 J D pl).R := fun _ _ _ _ h => h.elim
def jUpS : StSpec := fun args s K => ∃ (l : List P2) (j : Nat), args = [.ifc 215 (.ptr 8 0), .int .i64 j] ∧ l.length < 4100000 ∧ j < l.length ∧ HUp l l.length j ∧ s.h 8 = rowB l ∧
  ∀ s' l', Fr s s' → s'.h 8 = rowB l' → l'.Perm l → Hp l' l'.length → K (.tup []) s'
theorem less_iff (p q : P2) : less p.1 p.2 q.1 q.2 = true ↔ lt p q := by
  unfold less lt; simp
theorem less_false {p q : P2} (h : less p.1 p.2 q.1 q.2 = false) : ¬ lt p q := by
  rw [← less_iff, h]; simp
theorem half (j : Nat) (hj : j < 4100000) : IntKind.i64.wrap ((IntKind.i64.wrap ((j : Int) - 1)).tdiv 2) = (((j - 1) / 2 : Nat) : Int) := by
  cases j with
  | zero => decide
  | succ k =>
    have e : ((k + 1 : Nat) : Int) - 1 = (k : Int) := by omega
    rw [e, wrap_of (n := (k : Int)) (by omega) (by omega), Int.tdiv_eq_ediv_of_nonneg (by omega), wrap_of] <;> omega
theorem up_okS : SOk Tryz.prog tab 129 jUpS := by
  refine SOk.mono (inl_ok (E := E1 J1 20000 pl129) tab_is (E1_C _ _ _) J1_ok Tryz.func129 (by kernel_rfl) rfl (by kernel_rfl)) ?_
  rintro args ⟨t, hp⟩ K ⟨l0, j0, rfl, hN, hj0, hH, h8, hK⟩
  have h8 : hp 8 = rowB l0 := h8
  refine inl_go rfl ?_
  refine ⟨fun n s => ∃ (l : List P2) (j : Nat), (HUp l l.length j ∧ j < l.length ∧ l.length < 4100000 ∧ l.Perm l0) ∧ j = n ∧ Un ⟨t, hp⟩ s ∧ s.t 0 = .ifc 215 (.ptr 8 0) ∧ s.t 1 = .int .i64 j ∧ s.h 8 = rowB l,
    ⟨_, l0, j0, ⟨hH, hj0, hN, .refl _⟩, rfl, un_push _ _, rfl, rfl, h8⟩, ?_⟩
  rintro _ ⟨t1, h1⟩ ⟨l, j, ⟨hH, hj, hN, hP⟩, rfl, hU, e0, e1, h8⟩
  have e0 : t1 0 = .ifc 215 (.ptr 8 0) := e0
  have e1 : t1 1 = .int .i64 j := e1
  have h8 : h1 8 = rowB l := h8
  have wi : IntKind.i64.wrap ((IntKind.i64.wrap ((j : Int) - 1)).tdiv 2) = (((j - 1) / 2 : Nat) : Int) := by
    exact half j (by omega)
  have hi : (j - 1) / 2 < l.length := by omega
  rw [← updL_has t1 [(0, .ifc 215 (.ptr 8 0)), (1, .int .i64 j)] ⟨e0, e1, trivial⟩, ← updL_has h1 [(8, rowB l)] ⟨h8, trivial⟩]
  have hU : Un ⟨t, hp⟩ ⟨updL t1 [(0, .ifc 215 (.ptr 8 0)), (1, .int .i64 j)], updL h1 [(8, rowB l)]⟩ := un_told ⟨e0, e1, trivial⟩ ⟨h8, trivial⟩ hU
  have g2 : 0 ≤ IntKind.i64.wrap ((IntKind.i64.wrap ((j : Int) - 1)).tdiv 2) := by rw [wi]; omega
  have g3 : (l.map itemA)[(IntKind.i64.wrap ((IntKind.i64.wrap ((j : Int) - 1)).tdiv 2)).toNat]? = some (item (at' l ((j - 1) / 2)).1 (at' l ((j - 1) / 2)).2) := by rw [wi]; exact map_get hi
  refine ⟨by decide, ?_⟩
  have fin : ∀ s', Un ⟨t, hp⟩ s' → (popS s').h 8 = rowB l → Hp l l.length → K (.tup []) (popS s') := fun s' hu hh hp => hK _ l hu hh hP hp
  constructor
  · intro hb
    have hz : j = 0 := by
      have : IntKind.i64.wrap ((IntKind.i64.wrap ((j : Int) - 1)).tdiv 2) = (j : Int) := by simpa using hb
      rw [wi] at this; omega
    refine ⟨fun _ => ?_, fun h => by cases h⟩
    refine ⟨_, rfl, ?_⟩
    refine fin _ ?_ ?_ (up_end hH (.inl hz))
    rotate_left
    · rfl
    iterate 15 refine un_put rfl ?_
    exact hU
  · intro hb
    have hz : 0 < j := by
      have : ¬ IntKind.i64.wrap ((IntKind.i64.wrap ((j : Int) - 1)).tdiv 2) = (j : Int) := by simpa using hb
      rw [wi] at this; omega
    refine ⟨_, _, _, _, Int.natCast_nonneg j, g2, map_get hj, g3, ?_⟩
    constructor
    · intro hc
      have hlt : ¬ lt (at' l j) (at' l ((j - 1) / 2)) := less_false (by simpa using hc)
      refine ⟨_, rfl, ?_⟩
      refine fin _ ?_ ?_ (up_end hH (.inr hlt))
      rotate_left
      · rfl
      iterate 15 refine un_put rfl ?_
      exact hU
    · intro hc
      have hlt : lt (at' l j) (at' l ((j - 1) / 2)) := (less_iff _ _).1 (by simpa using hc)
      refine ⟨l, (j - 1) / 2, j, congrArg (fun n => [AV.sl (.own 7000) 220 (l.map itemA), AV.int .i64 n, AV.int .i64 (j : Int)]) wi, hi, hj, rfl, ?_⟩
      rintro ⟨t2, h2⟩ hF h8'
      have h8' : h2 8 = rowB (swp l ((j - 1) / 2) j) := h8'
      have f0 : t2 0 = .ifc 215 (.ptr 8 0) := hF.1 0 rfl
      have f4 : t2 4 = .int .i64 (IntKind.i64.wrap ((IntKind.i64.wrap ((j : Int) - 1)).tdiv 2)) := hF.1 4 rfl
      rw [wi] at f4
      have hU2 : Un ⟨t, hp⟩ ⟨t2, h2⟩ := un_fr (s := ⟨_, _⟩) (by
        iterate 18 refine un_put rfl ?_
        exact hU) hF
      rw [← updL_has t2 [(0, .ifc 215 (.ptr 8 0)), (4, .int .i64 ((j - 1) / 2 : Nat))] ⟨f0, f4, trivial⟩, ← updL_has h2 [(8, rowB (swp l ((j - 1) / 2) j))] ⟨h8', trivial⟩]
      have hU2 : Un ⟨t, hp⟩ ⟨updL t2 [(0, .ifc 215 (.ptr 8 0)), (4, .int .i64 ((j - 1) / 2 : Nat))], updL h2 [(8, rowB (swp l ((j - 1) / 2) j))]⟩ := un_told ⟨f0, f4, trivial⟩ ⟨h8', trivial⟩ hU2
      refine ⟨_, (by omega : (j - 1) / 2 < j), swp l ((j - 1) / 2) j, (j - 1) / 2, ⟨?_, ?_, ?_, ?_⟩, rfl, ?_, rfl, rfl, rfl⟩
      · rw [swp_len]; exact up_step rfl hH hz hj hlt
      · rw [swp_len]; exact hi
      · rw [swp_len]; exact hN
      · exact (swp_perm hi hj).trans hP
      · refine un_put rfl (un_put rfl (un_put rfl ?_))
        exact hU2
end Go.Proofs.YtjffmldlkofpaaaGreatDoor.A.Due

/- down. -/
namespace Go.Proofs.YtjffmldlkofpaaaGreatDoor.A.Due
open Go Q P
set_option maxRecDepth 400000
def jDownS : StSpec := fun args s K => ∃ (l : List P2) (n : Nat), args = [.ifc 215 (.ptr 8 0), .int .i64 0, .int .i64 n] ∧ l.length < 4100000 ∧ n ≤ l.length ∧ HDn l n 0 ∧ s.h 8 = rowB l ∧
  ∀ s' l' b, Fr s s' → s'.h 8 = rowB l' → l'.Perm l → (∀ j, n ≤ j → at' l' j = at' l j) → Hp l' n → K (.bool b) s'
theorem down_okS : SOk Tryz.prog tab 130 jDownS := by
  refine SOk.mono (inl_ok (E := E1 J1 21000 pl130) tab_is (E1_C _ _ _) J1_ok Tryz.func130 (by kernel_rfl) rfl (by kernel_rfl)) ?_
  rintro args ⟨t, hp⟩ K ⟨l0, n, rfl, hN, hn, hH, h8, hK⟩
  have h8 : hp 8 = rowB l0 := h8
  refine inl_go rfl ?_
  refine ⟨fun m s => ∃ (l : List P2) (i : Nat), (HDn l n i ∧ i ≤ n ∧ l.length = l0.length ∧ l.Perm l0 ∧ ∀ j, n ≤ j → at' l j = at' l0 j) ∧ n - i = m ∧ Un ⟨t, hp⟩ s ∧ s.t 0 = .ifc 215 (.ptr 8 0) ∧ s.t 1 = .int .i64 0 ∧ s.t 2 = .int .i64 n ∧ s.t 7 = .int .i64 i ∧ s.h 8 = rowB l,
    ⟨_, l0, 0, ⟨hH, Nat.zero_le _, rfl, .refl _, fun _ _ => rfl⟩, rfl, (un_put rfl (un_put rfl (un_put rfl (un_push _ _)))), rfl, rfl, rfl, rfl, h8⟩, ?_⟩
  rintro _ ⟨t1, h1⟩ ⟨l, i, ⟨hH, hi, hL, hP, hA⟩, rfl, hU, e0, e1, e2, e7, h8⟩
  have e0 : t1 0 = .ifc 215 (.ptr 8 0) := e0
  have e1 : t1 1 = .int .i64 0 := e1
  have e2 : t1 2 = .int .i64 n := e2
  have e7 : t1 7 = .int .i64 i := e7
  have h8 : h1 8 = rowB l := h8
  have w0 : IntKind.i64.wrap (2 * (i : Int)) = 2 * i := wrap_of (by omega) (by omega)
  have w1 : IntKind.i64.wrap (IntKind.i64.wrap (2 * (i : Int)) + 1) = ((2 * i + 1 : Nat) : Int) := by rw [w0, wrap_of] <;> omega
  have w2 : IntKind.i64.wrap (IntKind.i64.wrap (IntKind.i64.wrap (2 * (i : Int)) + 1) + 1) = ((2 * i + 2 : Nat) : Int) := by rw [w1, wrap_of] <;> omega
  have n1 : 0 ≤ IntKind.i64.wrap (IntKind.i64.wrap (2 * (i : Int)) + 1) := by rw [w1]; omega
  have n2 : 0 ≤ IntKind.i64.wrap (IntKind.i64.wrap (IntKind.i64.wrap (2 * (i : Int)) + 1) + 1) := by rw [w2]; omega
  have m1 : 2 * i + 1 < n → (l.map itemA)[(IntKind.i64.wrap (IntKind.i64.wrap (2 * (i : Int)) + 1)).toNat]? = some (item (at' l (2 * i + 1)).1 (at' l (2 * i + 1)).2) := fun h => by rw [w1]; exact map_get (by omega)
  have m2 : 2 * i + 2 < n → (l.map itemA)[(IntKind.i64.wrap (IntKind.i64.wrap (IntKind.i64.wrap (2 * (i : Int)) + 1) + 1)).toNat]? = some (item (at' l (2 * i + 2)).1 (at' l (2 * i + 2)).2) := fun h => by rw [w2]; exact map_get (by omega)
  have m0 : i < n → (l.map itemA)[((i : Int)).toNat]? = some (item (at' l i).1 (at' l i).2) := fun h => map_get (by omega)
  rw [← updL_has t1 [(0, .ifc 215 (.ptr 8 0)), (1, .int .i64 0), (2, .int .i64 n), (7, .int .i64 i)] ⟨e0, e1, e2, e7, trivial⟩, ← updL_has h1 [(8, rowB l)] ⟨h8, trivial⟩]
  have hU : Un ⟨t, hp⟩ ⟨t1, updL h1 [(8, rowB l)]⟩ := un_told (l := []) trivial ⟨h8, trivial⟩ hU
  have fin : ∀ s', Un ⟨t, hp⟩ s' → (popS s').h 8 = rowB l → Hp l n → K (.bool (decide ((i : Int) > 0))) (popS s') := fun s' hu hh hp => hK _ l _ hu hh hP hA hp
  constructor
  · intro hb
    have hz : n ≤ 2 * i + 1 := by
      have : IntKind.i64.wrap (IntKind.i64.wrap (2 * (i : Int)) + 1) ≥ (n : Int) := by simpa using hb
      rw [w1] at this; omega
    refine ⟨fun _ => ?_, fun h => by cases h⟩
    refine ⟨_, rfl, ?_⟩
    refine fin _ ?_ ?_ (down_end hH (fun c h0 hc hp => by omega))
    rotate_left
    · rfl
    repeat refine un_put rfl ?_
    exact hU
  · intro hb
    have hz : 2 * i + 1 < n := by
      have : ¬ IntKind.i64.wrap (IntKind.i64.wrap (2 * (i : Int)) + 1) ≥ (n : Int) := by simpa using hb
      rw [w1] at this; omega
    constructor
    · intro hc
      exfalso
      have : IntKind.i64.wrap (IntKind.i64.wrap (2 * (i : Int)) + 1) < 0 := by simpa using hc
      omega
    · intro _
      constructor
      · intro hd
        have hz2 : 2 * i + 2 < n := by
          have : IntKind.i64.wrap (IntKind.i64.wrap (IntKind.i64.wrap (2 * (i : Int)) + 1) + 1) < (n : Int) := by simpa using hd
          rw [w2] at this; omega
        refine ⟨_, _, _, _, n2, n1, m2 hz2, m1 hz, ?_⟩
        constructor
        · intro hl
          have hl : lt (at' l (2 * i + 2)) (at' l (2 * i + 1)) := (less_iff _ _).1 (by simpa using hl)
          have hmin : ∀ c, 0 < c → c < n → (c - 1) / 2 = i → ¬ lt (at' l c) (at' l (2 * i + 2)) := by
            intro c h0 hc hp
            rcases (by omega : c = 2 * i + 1 ∨ c = 2 * i + 2) with rfl | rfl
            · exact lt_asym hl
            · exact lt_irr
          refine ⟨_, _, _, _, n2, Int.natCast_nonneg i, m2 hz2, m0 (by omega), ?_⟩
          constructor
          · intro hq
            have hq : ¬ lt (at' l (2 * i + 2)) (at' l i) := less_false (by simpa using hq)
            refine ⟨_, rfl, ?_⟩
            refine fin _ ?_ ?_ (down_end hH (fun c h0 hc hp => le_tr (fun h => hq h) (hmin c h0 hc hp)))
            rotate_left
            · rfl
            repeat refine un_put rfl ?_
            exact hU
          · intro hq
            have hq : lt (at' l (2 * i + 2)) (at' l i) := (less_iff _ _).1 (by simpa using hq)
            refine ⟨l, i, 2 * i + 2, congrArg (fun n => [AV.sl (.own 7000) 220 (l.map itemA), AV.int .i64 (i : Int), AV.int .i64 n]) w2, by omega, by omega, rfl, ?_⟩
            rintro ⟨t2, h2⟩ hF h8'
            have h8' : h2 8 = rowB (swp l i (2 * i + 2)) := h8'
            have f0 : t2 0 = .ifc 215 (.ptr 8 0) := hF.1 0 rfl
            have f1 : t2 1 = .int .i64 0 := hF.1 1 rfl
            have f2 : t2 2 = .int .i64 n := hF.1 2 rfl
            have f9 : t2 9 = .int .i64 (IntKind.i64.wrap (IntKind.i64.wrap (IntKind.i64.wrap (2 * (i : Int)) + 1) + 1)) := hF.1 9 rfl
            rw [w2] at f9
            have hU2 : Un ⟨t, hp⟩ ⟨t2, h2⟩ := un_fr (s := ⟨_, _⟩) (by
              repeat refine un_put rfl ?_
              exact hU) hF
            rw [← updL_has t2 [(0, .ifc 215 (.ptr 8 0)), (1, .int .i64 0), (2, .int .i64 n), (9, .int .i64 (2 * i + 2 : Nat))] ⟨f0, f1, f2, f9, trivial⟩, ← updL_has h2 [(8, rowB (swp l i (2 * i + 2)))] ⟨h8', trivial⟩]
            have hU2 : Un ⟨t, hp⟩ ⟨t2, updL h2 [(8, rowB (swp l i (2 * i + 2)))]⟩ := un_told (l := []) trivial ⟨h8', trivial⟩ hU2
            refine ⟨_, (by omega : n - (2 * i + 2) < n - i), swp l i (2 * i + 2), 2 * i + 2, ⟨?_, ?_, ?_, ?_, ?_⟩, rfl, ?_, rfl, rfl, rfl, rfl, rfl⟩
            · exact down_step (by omega) hH (by omega) (by omega) (by omega) hq hmin
            · omega
            · rw [swp_len]; exact hL
            · exact (swp_perm (by omega) (by omega)).trans hP
            · intro c hc
              rw [at_swp (by omega) (by omega), if_neg (by omega), if_neg (by omega)]
              exact hA c hc
            · repeat refine un_put rfl ?_
              exact hU2
        · intro hl
          have hl : ¬ lt (at' l (2 * i + 2)) (at' l (2 * i + 1)) := less_false (by simpa using hl)
          have hmin : ∀ c, 0 < c → c < n → (c - 1) / 2 = i → ¬ lt (at' l c) (at' l (2 * i + 1)) := by
            intro c h0 hc hp
            rcases (by omega : c = 2 * i + 1 ∨ c = 2 * i + 2) with rfl | rfl
            · exact lt_irr
            · exact hl
          refine ⟨_, _, _, _, n1, Int.natCast_nonneg i, m1 hz, m0 (by omega), ?_⟩
          constructor
          · intro hq
            have hq : ¬ lt (at' l (2 * i + 1)) (at' l i) := less_false (by simpa using hq)
            refine ⟨_, rfl, ?_⟩
            refine fin _ ?_ ?_ (down_end hH (fun c h0 hc hp => le_tr (fun h => hq h) (hmin c h0 hc hp)))
            rotate_left
            · rfl
            repeat refine un_put rfl ?_
            exact hU
          · intro hq
            have hq : lt (at' l (2 * i + 1)) (at' l i) := (less_iff _ _).1 (by simpa using hq)
            refine ⟨l, i, 2 * i + 1, congrArg (fun n => [AV.sl (.own 7000) 220 (l.map itemA), AV.int .i64 (i : Int), AV.int .i64 n]) w1, by omega, by omega, rfl, ?_⟩
            rintro ⟨t2, h2⟩ hF h8'
            have h8' : h2 8 = rowB (swp l i (2 * i + 1)) := h8'
            have f0 : t2 0 = .ifc 215 (.ptr 8 0) := hF.1 0 rfl
            have f1 : t2 1 = .int .i64 0 := hF.1 1 rfl
            have f2 : t2 2 = .int .i64 n := hF.1 2 rfl
            have f9 : t2 9 = .int .i64 (IntKind.i64.wrap (IntKind.i64.wrap (2 * (i : Int)) + 1)) := hF.1 9 rfl
            rw [w1] at f9
            have hU2 : Un ⟨t, hp⟩ ⟨t2, h2⟩ := un_fr (s := ⟨_, _⟩) (by
              repeat refine un_put rfl ?_
              exact hU) hF
            rw [← updL_has t2 [(0, .ifc 215 (.ptr 8 0)), (1, .int .i64 0), (2, .int .i64 n), (9, .int .i64 (2 * i + 1 : Nat))] ⟨f0, f1, f2, f9, trivial⟩, ← updL_has h2 [(8, rowB (swp l i (2 * i + 1)))] ⟨h8', trivial⟩]
            have hU2 : Un ⟨t, hp⟩ ⟨t2, updL h2 [(8, rowB (swp l i (2 * i + 1)))]⟩ := un_told (l := []) trivial ⟨h8', trivial⟩ hU2
            refine ⟨_, (by omega : n - (2 * i + 1) < n - i), swp l i (2 * i + 1), 2 * i + 1, ⟨?_, ?_, ?_, ?_, ?_⟩, rfl, ?_, rfl, rfl, rfl, rfl, rfl⟩
            · exact down_step (by omega) hH (by omega) (by omega) (by omega) hq hmin
            · omega
            · rw [swp_len]; exact hL
            · exact (swp_perm (by omega) (by omega)).trans hP
            · intro c hc
              rw [at_swp (by omega) (by omega), if_neg (by omega), if_neg (by omega)]
              exact hA c hc
            · repeat refine un_put rfl ?_
              exact hU2
      · intro hd
        have hz2 : n ≤ 2 * i + 2 := by
          have : ¬ IntKind.i64.wrap (IntKind.i64.wrap (IntKind.i64.wrap (2 * (i : Int)) + 1) + 1) < (n : Int) := by simpa using hd
          rw [w2] at this; omega
        refine ⟨fun h => (by cases h), fun _ => ?_⟩
        · have hmin : ∀ c, 0 < c → c < n → (c - 1) / 2 = i → ¬ lt (at' l c) (at' l (2 * i + 1)) := by
            intro c h0 hc hp
            rcases (by omega : c = 2 * i + 1) with rfl
            exact lt_irr
          refine ⟨_, _, _, _, n1, Int.natCast_nonneg i, m1 hz, m0 (by omega), ?_⟩
          constructor
          · intro hq
            have hq : ¬ lt (at' l (2 * i + 1)) (at' l i) := less_false (by simpa using hq)
            refine ⟨_, rfl, ?_⟩
            refine fin _ ?_ ?_ (down_end hH (fun c h0 hc hp => le_tr (fun h => hq h) (hmin c h0 hc hp)))
            rotate_left
            · rfl
            repeat refine un_put rfl ?_
            exact hU
          · intro hq
            have hq : lt (at' l (2 * i + 1)) (at' l i) := (less_iff _ _).1 (by simpa using hq)
            refine ⟨l, i, 2 * i + 1, congrArg (fun n => [AV.sl (.own 7000) 220 (l.map itemA), AV.int .i64 (i : Int), AV.int .i64 n]) w1, by omega, by omega, rfl, ?_⟩
            rintro ⟨t2, h2⟩ hF h8'
            have h8' : h2 8 = rowB (swp l i (2 * i + 1)) := h8'
            have f0 : t2 0 = .ifc 215 (.ptr 8 0) := hF.1 0 rfl
            have f1 : t2 1 = .int .i64 0 := hF.1 1 rfl
            have f2 : t2 2 = .int .i64 n := hF.1 2 rfl
            have f9 : t2 9 = .int .i64 (IntKind.i64.wrap (IntKind.i64.wrap (2 * (i : Int)) + 1)) := hF.1 9 rfl
            rw [w1] at f9
            have hU2 : Un ⟨t, hp⟩ ⟨t2, h2⟩ := un_fr (s := ⟨_, _⟩) (by
              repeat refine un_put rfl ?_
              exact hU) hF
            rw [← updL_has t2 [(0, .ifc 215 (.ptr 8 0)), (1, .int .i64 0), (2, .int .i64 n), (9, .int .i64 (2 * i + 1 : Nat))] ⟨f0, f1, f2, f9, trivial⟩, ← updL_has h2 [(8, rowB (swp l i (2 * i + 1)))] ⟨h8', trivial⟩]
            have hU2 : Un ⟨t, hp⟩ ⟨t2, updL h2 [(8, rowB (swp l i (2 * i + 1)))]⟩ := un_told (l := []) trivial ⟨h8', trivial⟩ hU2
            refine ⟨_, (by omega : n - (2 * i + 1) < n - i), swp l i (2 * i + 1), 2 * i + 1, ⟨?_, ?_, ?_, ?_, ?_⟩, rfl, ?_, rfl, rfl, rfl, rfl, rfl⟩
            · exact down_step (by omega) hH (by omega) (by omega) (by omega) hq hmin
            · omega
            · rw [swp_len]; exact hL
            · exact (swp_perm (by omega) (by omega)).trans hP
            · intro c hc
              rw [at_swp (by omega) (by omega), if_neg (by omega), if_neg (by omega)]
              exact hA c hc
            · repeat refine un_put rfl ?_
              exact hU2
end Go.Proofs.YtjffmldlkofpaaaGreatDoor.A.Due

/- heap.Push, heap.Pop. -/
namespace Go.Proofs.YtjffmldlkofpaaaGreatDoor.A.Due
open Go Q P
set_option maxRecDepth 400000
noncomputable def J2 : FuncId → Option StSpec
  | 129 => some jUpS
  | 130 => some jDownS
  | n => J1 n
theorem J2_ok : JOk Tryz.prog tab J2 := by
  intro f j h
  unfold J2 at h
  split at h
  · cases h; exact up_okS
  · cases h; exact down_okS
  · exact J1_ok _ _ h
def jHPushS : StSpec := fun args s K => ∃ (l : List P2) (u k : Int), args = [.ifc 215 (.ptr 8 0), .ifc 220 (item u k)] ∧ l.length < 4000000 ∧ Hp l l.length ∧ s.h 8 = rowB l ∧
  ∀ s' l', Fr s s' → s'.h 8 = rowB l' → l'.Perm (l ++ [(u, k)]) → Hp l' l'.length → K (.tup []) s'
theorem hpush_okS : SOk Tryz.prog tab 123 jHPushS := by
  refine SOk.mono (inl_ok (E := E1 J2 17000 pl123) tab_is (E1_C _ _ _) J2_ok Tryz.func123 (by kernel_rfl) rfl (by kernel_rfl)) ?_
  rintro args ⟨t, hp⟩ K ⟨l, u, k, rfl, hN, hH, h8, hK⟩
  have h8 : hp 8 = rowB l := h8
  refine inl_go rfl (wp_told [] [(8, rowB l)] trivial ⟨h8, trivial⟩ ?_)
  refine ⟨l, u, k, rfl, by omega, rfl, ?_⟩
  rintro ⟨t2, h2⟩ hF h8'
  have h8' : h2 8 = rowB (l ++ [(u, k)]) := h8'
  have f0 : t2 0 = .ifc 215 (.ptr 8 0) := hF.1 0 rfl
  have hU2 : Un ⟨t, hp⟩ ⟨t2, h2⟩ := un_fr (s := ⟨_, _⟩) (by
    iterate 2 refine un_put rfl ?_
    exact un_told (l := []) trivial ⟨h8, trivial⟩ (un_push _ _)) hF
  rw [← updL_has t2 [(0, .ifc 215 (.ptr 8 0))] ⟨f0, trivial⟩, ← updL_has h2 [(8, rowB (l ++ [(u, k)]))] ⟨h8', trivial⟩]
  have hU2 : Un ⟨t, hp⟩ ⟨t2, updL h2 [(8, rowB (l ++ [(u, k)]))]⟩ := un_told (l := []) trivial ⟨h8', trivial⟩ hU2
  have w : IntKind.i64.wrap ((((l ++ [(u, k)]).map itemA).length : Int) - 1) = (l.length : Int) := by
    rw [wrap_of] <;> simp <;> omega
  refine ⟨l ++ [(u, k)], l.length, congrArg (fun n => [AV.ifc 215 (.ptr 8 0), AV.int .i64 n]) w, by simp; omega, by simp, ?_, rfl, ?_⟩
  · have := hup_push (u, k) hH
    simpa using this
  rintro ⟨t3, h3⟩ l' hF3 h8'' hP hH'
  have h8'' : h3 8 = rowB l' := h8''
  refine ⟨_, rfl, ?_⟩
  refine hK _ l' ?_ ?_ hP hH'
  · refine un_put rfl ?_
    refine un_fr (s := ⟨_, _⟩) ?_ hF3
    repeat refine un_put rfl ?_
    exact hU2
  · exact h8''
def jHPopS : StSpec := fun args s K => ∃ (l : List P2), args = [.ifc 215 (.ptr 8 0)] ∧ l.length < 4000000 ∧ 0 < l.length ∧ Hp l l.length ∧ s.h 8 = rowB l ∧
  ∀ s' l' x, Fr s s' → s'.h 8 = rowB l' → l.Perm (x :: l') → Hp l' l'.length → (∀ y ∈ l', ¬ lt y x) → K (.ifc 220 (itemA x)) s'
theorem hpop_okS : SOk Tryz.prog tab 125 jHPopS := by
  refine SOk.mono (inl_ok (E := E1 J2 19000 pl125) tab_is (E1_C _ _ _) J2_ok Tryz.func125 (by kernel_rfl) rfl (by kernel_rfl)) ?_
  rintro args ⟨t, hp⟩ K ⟨l, rfl, hN, h0, hH, h8, hK⟩
  have h8 : hp 8 = rowB l := h8
  obtain ⟨m, hm⟩ : ∃ m, l.length = m + 1 := ⟨l.length - 1, by omega⟩
  refine inl_go rfl (wp_told [] [(8, rowB l)] trivial ⟨h8, trivial⟩ ?_)
  have w : IntKind.i64.wrap (((l.map itemA).length : Int) - 1) = (m : Int) := by
    rw [wrap_of] <;> simp <;> omega
  refine ⟨l, 0, m, congrArg (fun n => [AV.sl (.own 7000) 220 (l.map itemA), AV.int .i64 0, AV.int .i64 n]) w, h0, by omega, rfl, ?_⟩
  rintro ⟨t2, h2⟩ hF h8'
  have h8' : h2 8 = rowB (swp l 0 m) := h8'
  have f0 : t2 0 = .ifc 215 (.ptr 8 0) := hF.1 0 rfl
  have f3 : t2 3 = .int .i64 (IntKind.i64.wrap (((l.map itemA).length : Int) - 1)) := hF.1 3 rfl
  rw [w] at f3
  have hU2 : Un ⟨t, hp⟩ ⟨t2, h2⟩ := un_fr (s := ⟨_, _⟩) (by
    iterate 7 refine un_put rfl ?_
    exact un_told (l := []) trivial ⟨h8, trivial⟩ (un_push _ _)) hF
  rw [← updL_has t2 [(0, .ifc 215 (.ptr 8 0)), (3, .int .i64 m)] ⟨f0, f3, trivial⟩, ← updL_has h2 [(8, rowB (swp l 0 m))] ⟨h8', trivial⟩]
  have hU2 : Un ⟨t, hp⟩ ⟨t2, updL h2 [(8, rowB (swp l 0 m))]⟩ := un_told (l := []) trivial ⟨h8', trivial⟩ hU2
  refine ⟨swp l 0 m, m, rfl, by rw [swp_len]; omega, by rw [swp_len]; omega, hdn_pop hm (hm ▸ hH), rfl, ?_⟩
  rintro ⟨t3, h3⟩ l3 b hF3 h83 hP3 hA3 hH3
  have h83 : h3 8 = rowB l3 := h83
  have g0 : t3 0 = .ifc 215 (.ptr 8 0) := hF3.1 0 rfl
  have hU3 : Un ⟨t, hp⟩ ⟨t3, h3⟩ := un_fr (s := ⟨_, _⟩) (by
    repeat refine un_put rfl ?_
    exact hU2) hF3
  have hL3 : l3.length = m + 1 := by rw [hP3.length_eq, swp_len, hm]
  have hx : at' l3 m = at' l 0 := by
    rw [hA3 m (Nat.le_refl _), at_swp h0 (by omega), if_pos rfl]
  have hs : l3 = l3.take m ++ [at' l 0] := by
    have e1 : l3.drop m = [l3[m]'(by omega)] := by
      rw [List.drop_eq_getElem_cons (by omega), List.drop_of_length_le (by omega)]
    calc l3 = l3.take m ++ l3.drop m := (List.take_append_drop m l3).symm
      _ = _ := by rw [e1, ← at_eq, hx]
  have hp4 : h3 8 = rowB (l3.take m ++ [at' l 0]) := by rw [← hs]; exact h83
  rw [← updL_has t3 [(0, .ifc 215 (.ptr 8 0))] ⟨g0, trivial⟩, ← updL_has h3 [(8, rowB (l3.take m ++ [at' l 0]))] ⟨hp4, trivial⟩]
  have hU3 : Un ⟨t, hp⟩ ⟨t3, updL h3 [(8, rowB (l3.take m ++ [at' l 0]))]⟩ := un_told (l := []) trivial ⟨hp4, trivial⟩ hU3
  refine ⟨l3.take m, at' l 0, rfl, by simp; omega, rfl, ?_⟩
  rintro ⟨t4, h4⟩ hF4 h84
  have h84 : h4 8 = rowB (l3.take m) := h84
  refine ⟨_, rfl, ?_⟩
  have hPl : l.Perm (at' l 0 :: l3.take m) := by
    refine (swp_perm (i := 0) (k := m) h0 (by omega)).symm.trans (hP3.symm.trans ?_)
    exact (List.Perm.of_eq hs).trans (List.perm_append_singleton _ _)
  refine hK _ (l3.take m) (at' l 0) ?_ h84 hPl ?_ ?_
  · repeat refine un_put rfl ?_
    refine un_fr (s := ⟨_, _⟩) ?_ hF4
    repeat refine un_put rfl ?_
    exact hU3
  · have e : (l3.take m).length = m := by simp; omega
    rw [e]
    exact hp_take hH3 (fun j hj => by simp [at', hj])
  · intro y hy
    have : y ∈ l := hPl.mem_iff.2 (List.mem_cons_of_mem _ hy)
    obtain ⟨i, hi, rfl⟩ := List.getElem_of_mem this
    rw [← at_eq hi]
    exact root hH i hi
end Go.Proofs.YtjffmldlkofpaaaGreatDoor.A.Due

/- due.All. -/
namespace Go.Proofs.YtjffmldlkofpaaaGreatDoor.A.Due
open Go Q P
set_option maxRecDepth 400000
noncomputable def J3 : FuncId → Option StSpec
  | 123 => some jHPushS
  | 125 => some jHPopS
  | n => J1 n
theorem J3_ok : JOk Tryz.prog tab J3 := by
  intro f j h
  unfold J3 at h
  split at h
  · cases h; exact hpush_okS
  · cases h; exact hpop_okS
  · exact J1_ok _ _ h
def intsA (F : Nat) (l : List Int) : AV := match l with
  | [] => .sl .nl 0 []
  | n :: l => .sl (.own F) 3 (.int .i64 n :: l.map (AV.int .i64))
def outsA (F : Nat) (l : List P2) : AV := match l with
  | [] => .sl .nl 0 []
  | n :: l => .sl (.own F) 3 (.int .i64 n.2 :: l.map fun p => AV.int .i64 p.2)
theorem outs_ints (F : Nat) (l : List P2) : outsA F l = intsA F (l.map (·.2)) := by
  cases l with
  | nil => rfl
  | cons x l => simp [outsA, intsA]
/-- A slice that is only read. -/
def rdA (v : AV) (e : TypeId) (xs : List AV) : Prop := v = .sl .fz e xs ∨ v = .sl .nl e xs
def allS (args : List AV) (bs : List Box) (K : AV → List Box → Prop) : Prop := ∃ v ps, args = [v] ∧ bs = [] ∧ rdA v 90 (ps.map payA) ∧ ps.length < 4000000 ∧ K (intsA 40000 (places ps)) []
theorem pay_get {ps : List Pay} {k : Nat} (h : k < ps.length) : (ps.map payA)[k]? = some (payA ps[k]) := by
  rw [List.getElem?_map, List.getElem?_eq_getElem h]; rfl
theorem all_ok : FnOk Tryz.prog tab 110 allS := by
  refine fn_ok (E := E1 J3 0 pl110) tab_is (E1_C _ _ _) J3_ok Tryz.func110 rfl rfl (by kernel_rfl) ?_
  rintro args bs K ⟨v, ps, ha, rfl, hv, hN, hK⟩
  rcases hv with rfl | rfl
  all_goals
    subst ha
    refine ⟨rfl, ?_⟩
  · refine ⟨fun m s => ∃ (k : Nat) (l : List P2), (k ≤ ps.length ∧ l.Perm (opens 0 (ps.take k)) ∧ Hp l l.length) ∧ ps.length - k = m ∧ s.t 3 = .ptr 8 0 ∧ s.t 9 = .sl .fz 90 (ps.map payA) ∧ s.t 10 = .int .i64 ((ps.map payA).length : Nat) ∧ s.t 11 = .int .i64 k ∧ s.h 8 = rowB l,
      ⟨_, 0, [], ⟨Nat.zero_le _, .refl _, fun j _ h => absurd h (Nat.not_lt_zero _)⟩, rfl, rfl, rfl, rfl, rfl, rfl⟩, ?_⟩
    rintro _ ⟨t1, h1⟩ ⟨k, l, ⟨hk, hP, hH⟩, rfl, e3, e9, e10, e11, h8⟩
    have e3 : t1 3 = .ptr 8 0 := e3
    have e9 : t1 9 = .sl .fz 90 (ps.map payA) := e9
    have e10 : t1 10 = .int .i64 ((ps.map payA).length : Nat) := e10
    have e11 : t1 11 = .int .i64 k := e11
    have h8 : h1 8 = rowB l := h8
    have hl : l.length ≤ k := by
      have := hP.length_eq
      have := opens_len 0 (ps.take k)
      simp at this; omega
    rw [← updL_has t1 [(3, .ptr 8 0), (9, .sl .fz 90 (ps.map payA)), (10, .int .i64 ((ps.map payA).length : Nat)), (11, .int .i64 k)] ⟨e3, e9, e10, e11, trivial⟩, ← updL_has h1 [(8, rowB l)] ⟨h8, trivial⟩]
    have wk : k < ps.length → IntKind.i64.wrap ((k : Int) + 1) = ((k + 1 : Nat) : Int) := fun h => by rw [wrap_of] <;> omega
    constructor
    · intro hb
      have hk' : k < ps.length := by
        have : (k : Int) < ((ps.map payA).length : Nat) := by simpa using hb
        simp at this; omega
      have hpg : ps[k]? = some ps[k] := List.getElem?_eq_getElem hk'
      have ht := opens_take hpg 0
      rw [Nat.zero_add] at ht
      refine ⟨_, Int.natCast_nonneg k, pay_get hk', ?_⟩
      constructor
      · intro hg
        have hg : ps[k].stage = 0 := by simpa using hg
        rw [if_pos hg] at ht
        refine ⟨l, ps[k].til, k, rfl, by omega, hH, rfl, ?_⟩
        rintro ⟨t2, h2⟩ l' hF h8' hP' hH'
        have h8' : h2 8 = rowB l' := h8'
        have f3 : t2 3 = .ptr 8 0 := hF.1 3 rfl
        have f9 : t2 9 = .sl .fz 90 (ps.map payA) := hF.1 9 rfl
        have f10 : t2 10 = .int .i64 ((ps.map payA).length : Nat) := hF.1 10 rfl
        have f11 : t2 11 = .int .i64 k := hF.1 11 rfl
        rw [← updL_has t2 [(3, .ptr 8 0), (9, .sl .fz 90 (ps.map payA)), (10, .int .i64 ((ps.map payA).length : Nat)), (11, .int .i64 k)] ⟨f3, f9, f10, f11, trivial⟩, ← updL_has h2 [(8, rowB l')] ⟨h8', trivial⟩]
        refine ⟨_, (by omega : ps.length - (k + 1) < ps.length - k), k + 1, l', ⟨hk', ?_, hH'⟩, rfl, rfl, rfl, rfl, congrArg (AV.int .i64) (wk hk'), rfl⟩
        rw [ht]
        exact hP'.trans (hP.append_right _)
      · intro hg
        have hg : ¬ ps[k].stage = 0 := by simpa using hg
        rw [if_neg hg, List.append_nil] at ht
        refine ⟨_, (by omega : ps.length - (k + 1) < ps.length - k), k + 1, l, ⟨hk', ?_, hH⟩, rfl, rfl, rfl, rfl, congrArg (AV.int .i64) (wk hk'), rfl⟩
        rw [ht]
        exact hP
    · intro hb
      have hk' : k = ps.length := by
        have : ¬ (k : Int) < ((ps.map payA).length : Nat) := by simpa using hb
        simp at this; omega
      subst hk'
      rw [List.take_length] at hP
      refine ⟨fun m s => ∃ (out l : List P2), ((out ++ l).Perm (opens 0 ps) ∧ Hp l l.length ∧ Sor out ∧ ∀ a ∈ out, ∀ b ∈ l, ¬ lt b a) ∧ l.length = m ∧ s.t 3 = .ptr 8 0 ∧ s.t 6 = outsA 40000 out ∧ s.h 8 = rowB l,
        ⟨_, [], l, ⟨hP, hH, .nil, fun a h => absurd h List.not_mem_nil⟩, rfl, rfl, rfl, rfl⟩, ?_⟩
      rintro _ ⟨t1, h1⟩ ⟨out, l, ⟨hP, hH, hS, hX⟩, rfl, e3, e6, h8⟩
      have e3 : t1 3 = .ptr 8 0 := e3
      have h8 : h1 8 = rowB l := h8
      have hl : out.length + l.length ≤ ps.length := by
        have := hP.length_eq
        have := opens_len 0 ps
        simp at *; omega
      cases out with
      | nil =>
        have e6 : t1 6 = .sl .nl 0 [] := e6
        rw [← updL_has t1 [(3, .ptr 8 0), (6, .sl .nl 0 [])] ⟨e3, e6, trivial⟩, ← updL_has h1 [(8, rowB l)] ⟨h8, trivial⟩]
        constructor
        · intro hb
          have hb : 0 < l.length := by
            have : ((l.map itemA).length : Int) > 0 := by simpa using hb
            simpa using this
          refine ⟨l, rfl, by omega, hb, hH, rfl, ?_⟩
          rintro ⟨t2, h2⟩ l' x hF h8' hP' hH' hX'
          have h8' : h2 8 = rowB l' := h8'
          have f3 : t2 3 = .ptr 8 0 := hF.1 3 rfl
          have f33 : t2 33 = .sl .nl 0 [] := hF.1 33 rfl
          rw [← updL_has t2 [(3, .ptr 8 0), (33, .sl .nl 0 [])] ⟨f3, f33, trivial⟩, ← updL_has h2 [(8, rowB l')] ⟨h8', trivial⟩]
          refine ⟨rfl, (by decide : 1 * 8 ≤ 140737488355328), ?_⟩
          have hl' := hP'.length_eq
          refine ⟨_, (by simp at hl'; omega : l'.length < l.length), [] ++ [x], l', ⟨?_, hH', ?_, ?_⟩, rfl, rfl, rfl, rfl⟩
          · rw [List.append_assoc]
            exact (hP'.symm.append_left _).trans hP
          · refine List.pairwise_append.2 ⟨hS, List.pairwise_singleton _ _, fun a ha b hb => ?_⟩
            rcases List.mem_singleton.1 hb with rfl
            exact hX a ha b (hP'.mem_iff.2 (List.mem_cons_self ..))
          · intro a ha b hb
            rcases List.mem_append.1 ha with ha | ha
            · exact hX a ha b (hP'.mem_iff.2 (List.mem_cons_of_mem _ hb))
            · rcases List.mem_singleton.1 ha with rfl
              exact hX' b hb
        · intro hb
          have hb : l = [] := by
            have : ¬ ((l.map itemA).length : Int) > 0 := by simpa using hb
            have : l.length = 0 := by simp at this; simp [this]
            exact List.length_eq_zero_iff.1 this
          subst hb
          rw [List.append_nil] at hP
          have e : intsA 40000 (places ps) = .sl .nl 0 [] := by
            unfold places
            rw [← srt_uniq hP hS, ← outs_ints]
            rfl
          rw [e] at hK
          exact hK
      | cons o os =>
        have e6 : t1 6 = .sl (.own 40000) 3 (.int .i64 o.2 :: os.map fun p => AV.int .i64 p.2) := e6
        rw [← updL_has t1 [(3, .ptr 8 0), (6, .sl (.own 40000) 3 (.int .i64 o.2 :: os.map fun p => AV.int .i64 p.2))] ⟨e3, e6, trivial⟩, ← updL_has h1 [(8, rowB l)] ⟨h8, trivial⟩]
        constructor
        · intro hb
          have hb : 0 < l.length := by
            have : ((l.map itemA).length : Int) > 0 := by simpa using hb
            simpa using this
          refine ⟨l, rfl, by omega, hb, hH, rfl, ?_⟩
          rintro ⟨t2, h2⟩ l' x hF h8' hP' hH' hX'
          have h8' : h2 8 = rowB l' := h8'
          have f3 : t2 3 = .ptr 8 0 := hF.1 3 rfl
          have f33 : t2 33 = .sl (.own 40000) 3 (.int .i64 o.2 :: os.map fun p => AV.int .i64 p.2) := hF.1 33 rfl
          rw [← updL_has t2 [(3, .ptr 8 0), (33, .sl (.own 40000) 3 (.int .i64 o.2 :: os.map fun p => AV.int .i64 p.2))] ⟨f3, f33, trivial⟩, ← updL_has h2 [(8, rowB l')] ⟨h8', trivial⟩]
          have hb2 : ((AV.int .i64 o.2 :: os.map fun p => AV.int .i64 p.2).length + 1) * 8 ≤ 140737488355328 := by simp at hl ⊢; omega
          have heq : AV.sl (.own 40000) 3 ((.int .i64 o.2 :: os.map fun p => AV.int .i64 p.2) ++ [.int .i64 x.2]) = outsA 40000 ((o :: os) ++ [x]) := by simp [outsA]
          refine ⟨rfl, hb2, ?_⟩
          have hl' := hP'.length_eq
          refine ⟨_, (by simp at hl'; omega : l'.length < l.length), (o :: os) ++ [x], l', ⟨?_, hH', ?_, ?_⟩, rfl, rfl, heq, rfl⟩
          · rw [List.append_assoc]
            exact (hP'.symm.append_left _).trans hP
          · refine List.pairwise_append.2 ⟨hS, List.pairwise_singleton _ _, fun a ha b hb => ?_⟩
            rcases List.mem_singleton.1 hb with rfl
            exact hX a ha b (hP'.mem_iff.2 (List.mem_cons_self ..))
          · intro a ha b hb
            rcases List.mem_append.1 ha with ha | ha
            · exact hX a ha b (hP'.mem_iff.2 (List.mem_cons_of_mem _ hb))
            · rcases List.mem_singleton.1 ha with rfl
              exact hX' b hb
        · intro hb
          have hb : l = [] := by
            have : ¬ ((l.map itemA).length : Int) > 0 := by simpa using hb
            have : l.length = 0 := by simp at this; simp [this]
            exact List.length_eq_zero_iff.1 this
          subst hb
          rw [List.append_nil] at hP
          have e : intsA 40000 (places ps) = .sl (.own 40000) 3 (.int .i64 o.2 :: os.map fun p => AV.int .i64 p.2) := by
            unfold places
            rw [← srt_uniq hP hS, ← outs_ints]
            rfl
          rw [e] at hK
          exact hK
  · refine ⟨fun m s => ∃ (k : Nat) (l : List P2), (k ≤ ps.length ∧ l.Perm (opens 0 (ps.take k)) ∧ Hp l l.length) ∧ ps.length - k = m ∧ s.t 3 = .ptr 8 0 ∧ s.t 9 = .sl .nl 90 (ps.map payA) ∧ s.t 10 = .int .i64 ((ps.map payA).length : Nat) ∧ s.t 11 = .int .i64 k ∧ s.h 8 = rowB l,
      ⟨_, 0, [], ⟨Nat.zero_le _, .refl _, fun j _ h => absurd h (Nat.not_lt_zero _)⟩, rfl, rfl, rfl, rfl, rfl, rfl⟩, ?_⟩
    rintro _ ⟨t1, h1⟩ ⟨k, l, ⟨hk, hP, hH⟩, rfl, e3, e9, e10, e11, h8⟩
    have e3 : t1 3 = .ptr 8 0 := e3
    have e9 : t1 9 = .sl .nl 90 (ps.map payA) := e9
    have e10 : t1 10 = .int .i64 ((ps.map payA).length : Nat) := e10
    have e11 : t1 11 = .int .i64 k := e11
    have h8 : h1 8 = rowB l := h8
    have hl : l.length ≤ k := by
      have := hP.length_eq
      have := opens_len 0 (ps.take k)
      simp at this; omega
    rw [← updL_has t1 [(3, .ptr 8 0), (9, .sl .nl 90 (ps.map payA)), (10, .int .i64 ((ps.map payA).length : Nat)), (11, .int .i64 k)] ⟨e3, e9, e10, e11, trivial⟩, ← updL_has h1 [(8, rowB l)] ⟨h8, trivial⟩]
    have wk : k < ps.length → IntKind.i64.wrap ((k : Int) + 1) = ((k + 1 : Nat) : Int) := fun h => by rw [wrap_of] <;> omega
    constructor
    · intro hb
      have hk' : k < ps.length := by
        have : (k : Int) < ((ps.map payA).length : Nat) := by simpa using hb
        simp at this; omega
      have hpg : ps[k]? = some ps[k] := List.getElem?_eq_getElem hk'
      have ht := opens_take hpg 0
      rw [Nat.zero_add] at ht
      refine ⟨_, Int.natCast_nonneg k, pay_get hk', ?_⟩
      constructor
      · intro hg
        have hg : ps[k].stage = 0 := by simpa using hg
        rw [if_pos hg] at ht
        refine ⟨l, ps[k].til, k, rfl, by omega, hH, rfl, ?_⟩
        rintro ⟨t2, h2⟩ l' hF h8' hP' hH'
        have h8' : h2 8 = rowB l' := h8'
        have f3 : t2 3 = .ptr 8 0 := hF.1 3 rfl
        have f9 : t2 9 = .sl .nl 90 (ps.map payA) := hF.1 9 rfl
        have f10 : t2 10 = .int .i64 ((ps.map payA).length : Nat) := hF.1 10 rfl
        have f11 : t2 11 = .int .i64 k := hF.1 11 rfl
        rw [← updL_has t2 [(3, .ptr 8 0), (9, .sl .nl 90 (ps.map payA)), (10, .int .i64 ((ps.map payA).length : Nat)), (11, .int .i64 k)] ⟨f3, f9, f10, f11, trivial⟩, ← updL_has h2 [(8, rowB l')] ⟨h8', trivial⟩]
        refine ⟨_, (by omega : ps.length - (k + 1) < ps.length - k), k + 1, l', ⟨hk', ?_, hH'⟩, rfl, rfl, rfl, rfl, congrArg (AV.int .i64) (wk hk'), rfl⟩
        rw [ht]
        exact hP'.trans (hP.append_right _)
      · intro hg
        have hg : ¬ ps[k].stage = 0 := by simpa using hg
        rw [if_neg hg, List.append_nil] at ht
        refine ⟨_, (by omega : ps.length - (k + 1) < ps.length - k), k + 1, l, ⟨hk', ?_, hH⟩, rfl, rfl, rfl, rfl, congrArg (AV.int .i64) (wk hk'), rfl⟩
        rw [ht]
        exact hP
    · intro hb
      have hk' : k = ps.length := by
        have : ¬ (k : Int) < ((ps.map payA).length : Nat) := by simpa using hb
        simp at this; omega
      subst hk'
      rw [List.take_length] at hP
      refine ⟨fun m s => ∃ (out l : List P2), ((out ++ l).Perm (opens 0 ps) ∧ Hp l l.length ∧ Sor out ∧ ∀ a ∈ out, ∀ b ∈ l, ¬ lt b a) ∧ l.length = m ∧ s.t 3 = .ptr 8 0 ∧ s.t 6 = outsA 40000 out ∧ s.h 8 = rowB l,
        ⟨_, [], l, ⟨hP, hH, .nil, fun a h => absurd h List.not_mem_nil⟩, rfl, rfl, rfl, rfl⟩, ?_⟩
      rintro _ ⟨t1, h1⟩ ⟨out, l, ⟨hP, hH, hS, hX⟩, rfl, e3, e6, h8⟩
      have e3 : t1 3 = .ptr 8 0 := e3
      have h8 : h1 8 = rowB l := h8
      have hl : out.length + l.length ≤ ps.length := by
        have := hP.length_eq
        have := opens_len 0 ps
        simp at *; omega
      cases out with
      | nil =>
        have e6 : t1 6 = .sl .nl 0 [] := e6
        rw [← updL_has t1 [(3, .ptr 8 0), (6, .sl .nl 0 [])] ⟨e3, e6, trivial⟩, ← updL_has h1 [(8, rowB l)] ⟨h8, trivial⟩]
        constructor
        · intro hb
          have hb : 0 < l.length := by
            have : ((l.map itemA).length : Int) > 0 := by simpa using hb
            simpa using this
          refine ⟨l, rfl, by omega, hb, hH, rfl, ?_⟩
          rintro ⟨t2, h2⟩ l' x hF h8' hP' hH' hX'
          have h8' : h2 8 = rowB l' := h8'
          have f3 : t2 3 = .ptr 8 0 := hF.1 3 rfl
          have f33 : t2 33 = .sl .nl 0 [] := hF.1 33 rfl
          rw [← updL_has t2 [(3, .ptr 8 0), (33, .sl .nl 0 [])] ⟨f3, f33, trivial⟩, ← updL_has h2 [(8, rowB l')] ⟨h8', trivial⟩]
          refine ⟨rfl, (by decide : 1 * 8 ≤ 140737488355328), ?_⟩
          have hl' := hP'.length_eq
          refine ⟨_, (by simp at hl'; omega : l'.length < l.length), [] ++ [x], l', ⟨?_, hH', ?_, ?_⟩, rfl, rfl, rfl, rfl⟩
          · rw [List.append_assoc]
            exact (hP'.symm.append_left _).trans hP
          · refine List.pairwise_append.2 ⟨hS, List.pairwise_singleton _ _, fun a ha b hb => ?_⟩
            rcases List.mem_singleton.1 hb with rfl
            exact hX a ha b (hP'.mem_iff.2 (List.mem_cons_self ..))
          · intro a ha b hb
            rcases List.mem_append.1 ha with ha | ha
            · exact hX a ha b (hP'.mem_iff.2 (List.mem_cons_of_mem _ hb))
            · rcases List.mem_singleton.1 ha with rfl
              exact hX' b hb
        · intro hb
          have hb : l = [] := by
            have : ¬ ((l.map itemA).length : Int) > 0 := by simpa using hb
            have : l.length = 0 := by simp at this; simp [this]
            exact List.length_eq_zero_iff.1 this
          subst hb
          rw [List.append_nil] at hP
          have e : intsA 40000 (places ps) = .sl .nl 0 [] := by
            unfold places
            rw [← srt_uniq hP hS, ← outs_ints]
            rfl
          rw [e] at hK
          exact hK
      | cons o os =>
        have e6 : t1 6 = .sl (.own 40000) 3 (.int .i64 o.2 :: os.map fun p => AV.int .i64 p.2) := e6
        rw [← updL_has t1 [(3, .ptr 8 0), (6, .sl (.own 40000) 3 (.int .i64 o.2 :: os.map fun p => AV.int .i64 p.2))] ⟨e3, e6, trivial⟩, ← updL_has h1 [(8, rowB l)] ⟨h8, trivial⟩]
        constructor
        · intro hb
          have hb : 0 < l.length := by
            have : ((l.map itemA).length : Int) > 0 := by simpa using hb
            simpa using this
          refine ⟨l, rfl, by omega, hb, hH, rfl, ?_⟩
          rintro ⟨t2, h2⟩ l' x hF h8' hP' hH' hX'
          have h8' : h2 8 = rowB l' := h8'
          have f3 : t2 3 = .ptr 8 0 := hF.1 3 rfl
          have f33 : t2 33 = .sl (.own 40000) 3 (.int .i64 o.2 :: os.map fun p => AV.int .i64 p.2) := hF.1 33 rfl
          rw [← updL_has t2 [(3, .ptr 8 0), (33, .sl (.own 40000) 3 (.int .i64 o.2 :: os.map fun p => AV.int .i64 p.2))] ⟨f3, f33, trivial⟩, ← updL_has h2 [(8, rowB l')] ⟨h8', trivial⟩]
          have hb2 : ((AV.int .i64 o.2 :: os.map fun p => AV.int .i64 p.2).length + 1) * 8 ≤ 140737488355328 := by simp at hl ⊢; omega
          have heq : AV.sl (.own 40000) 3 ((.int .i64 o.2 :: os.map fun p => AV.int .i64 p.2) ++ [.int .i64 x.2]) = outsA 40000 ((o :: os) ++ [x]) := by simp [outsA]
          refine ⟨rfl, hb2, ?_⟩
          have hl' := hP'.length_eq
          refine ⟨_, (by simp at hl'; omega : l'.length < l.length), (o :: os) ++ [x], l', ⟨?_, hH', ?_, ?_⟩, rfl, rfl, heq, rfl⟩
          · rw [List.append_assoc]
            exact (hP'.symm.append_left _).trans hP
          · refine List.pairwise_append.2 ⟨hS, List.pairwise_singleton _ _, fun a ha b hb => ?_⟩
            rcases List.mem_singleton.1 hb with rfl
            exact hX a ha b (hP'.mem_iff.2 (List.mem_cons_self ..))
          · intro a ha b hb
            rcases List.mem_append.1 ha with ha | ha
            · exact hX a ha b (hP'.mem_iff.2 (List.mem_cons_of_mem _ hb))
            · rcases List.mem_singleton.1 ha with rfl
              exact hX' b hb
        · intro hb
          have hb : l = [] := by
            have : ¬ ((l.map itemA).length : Int) > 0 := by simpa using hb
            have : l.length = 0 := by simp at this; simp [this]
            exact List.length_eq_zero_iff.1 this
          subst hb
          rw [List.append_nil] at hP
          have e : intsA 40000 (places ps) = .sl (.own 40000) 3 (.int .i64 o.2 :: os.map fun p => AV.int .i64 p.2) := by
            unfold places
            rw [← srt_uniq hP hS, ← outs_ints]
            rfl
          rw [e] at hK
          exact hK
end Go.Proofs.YtjffmldlkofpaaaGreatDoor.A.Due

/- same, By, Next. -/
namespace Go.Proofs.YtjffmldlkofpaaaGreatDoor.A.Due
open Go Q P
set_option maxRecDepth 400000
def iA (l : List Int) : List AV := l.map (AV.int .i64)
theorem fz_ints (F : Nat) (l : List Int) : Fz (intsA F l) (.sl .fz 3 (iA l)) := by
  cases l with
  | nil => exact .inr ⟨_, _, rfl, rfl⟩
  | cons n l => exact .inl ⟨_, _, _, rfl, rfl⟩
def allC (args : List AV) (bs : List Box) (K : AV → List Box → Prop) : Prop := bs = [] ∧ ∃ ps, args = [.sl .fz 90 (ps.map payA)] ∧ ps.length < 4000000 ∧ K (.sl .fz 3 (iA (places ps))) []
theorem all_okC : FnOk Tryz.prog tab 110 allC := all_ok.fz.mono (by
  rintro args bs K ⟨rfl, ps, rfl, hN, hK⟩
  exact ⟨rfl, _, ps, rfl, rfl, .inl rfl, hN, _, fz_ints _ _, hK⟩)
def R1 : Contract
  | 110 => nilC allC
  | _ => fun _ _ _ => False
theorem R1_ok : CallOk Tryz.prog tab R1 := by
  intro f args bs K h
  unfold R1 at h
  split at h
  · exact ⟨_, h, all_okC.nil⟩
  · exact h.elim
def F1 (D : Nat) (pl : Nat → Plan) : En := ⟨tab, R1, fun _ => none, D, pl⟩
theorem F1_J (D : Nat) (pl : Nat → Plan) : JOk Tryz.prog (F1 D pl).T (F1 D pl).J := fun _ _ h => by cases h
theorem iA_get {l : List Int} {i : Nat} (h : i < l.length) : (iA l)[i]? = some (.int .i64 l[i]) := by
  unfold iA
  rw [List.getElem?_map, List.getElem?_eq_getElem h]; rfl
theorem iA_len (l : List Int) : (iA l).length = l.length := by simp [iA]
theorem payA_of {ps : List Pay} {i : Nat} {p : Pay} (h : ps[i]? = some p) : (ps.map payA)[i]? = some (payA p) := by
  rw [List.getElem?_map, h]; rfl
def byC (args : List AV) (bs : List Box) (K : AV → List Box → Prop) : Prop := bs = [] ∧ ∃ ps now, args = [.sl .fz 90 (ps.map payA), .int .i64 now] ∧ ps.length < 4000000 ∧ K (intsA 25000 ((by' ps now).map (·.2))) []
theorem by_ok : FnOk Tryz.prog tab 92 byC := by
  refine fn_ok (E := F1 0 pl92) tab_is R1_ok (F1_J _ _) Tryz.func92 rfl rfl (by kernel_rfl) ?_
  rintro args bs K ⟨rfl, ps, now, rfl, hN, hK⟩
  refine ⟨rfl, ?_⟩
  refine ⟨[.sl .fz 90 (ps.map payA)], ⟨.inl rfl, trivial⟩, rfl, ps, rfl, hN, ?_⟩
  refine ⟨fun m s => ∃ (i : Nat) (out : List P2), (i ≤ (L ps).length ∧ out = (L ps).take i ∧ ∀ p ∈ (L ps).take i, p.1 ≤ now) ∧ (L ps).length - i = m ∧ s.t 0 = .sl .fz 90 (ps.map payA) ∧ s.t 1 = .int .i64 now ∧ s.t 9 = .sl .fz 3 (iA (places ps)) ∧ s.t 10 = .int .i64 ((iA (places ps)).length : Nat) ∧ s.t 11 = .int .i64 i ∧ s.t 5 = outsA 25000 out,
      ⟨_, 0, [], ⟨Nat.zero_le _, rfl, fun p h => absurd h List.not_mem_nil⟩, rfl, rfl, rfl, rfl, rfl, rfl, rfl⟩, ?_⟩
  rintro _ ⟨t1, h1⟩ ⟨i, out, ⟨hi, hO, hX⟩, rfl, e0, e1, e9, e10, e11, e5⟩
  have e0 : t1 0 = .sl .fz 90 (ps.map payA) := e0
  have e1 : t1 1 = .int .i64 now := e1
  have e9 : t1 9 = .sl .fz 3 (iA (places ps)) := e9
  have e10 : t1 10 = .int .i64 ((iA (places ps)).length : Nat) := e10
  have e11 : t1 11 = .int .i64 i := e11
  have hpl : (places ps).length = (L ps).length := by rw [places_eq]; simp
  have hLl := L_len ps
  have fin : ∀ v, v = outsA 25000 out → (by' ps now = (L ps).take i) → K v [] := by
    intro v hv he
    rw [hv, hO, outs_ints, ← he]
    exact hK
  have w : IntKind.i64.wrap ((i : Int) + 1) = ((i + 1 : Nat) : Int) := by rw [wrap_of] <;> omega
  have hol : out.length ≤ ps.length := by
    have := congrArg List.length hO
    simp at this; omega
  cases out with
  | nil =>
    have e5 : t1 5 = .sl .nl 0 [] := e5
    rw [← updL_has t1 [(0, .sl .fz 90 (ps.map payA)), (1, .int .i64 now), (9, .sl .fz 3 (iA (places ps))), (10, .int .i64 ((iA (places ps)).length : Nat)), (11, .int .i64 i), (5, .sl .nl 0 [])] ⟨e0, e1, e9, e10, e11, e5, trivial⟩]
    constructor
    · intro hb
      have hi' : i < (L ps).length := by
        have : (i : Int) < ((iA (places ps)).length : Nat) := by simpa using hb
        rw [iA_len, hpl] at this; omega
      have hgi : (iA (places ps))[i]? = some (.int .i64 (L ps)[i].2) := by
        rw [iA_get (by omega)]
        simp [places_eq]
      obtain ⟨k, p, k1, k2, k3, k4⟩ := L_mem (List.getElem_mem hi')
      have hx0 : 0 ≤ (L ps)[i].2 := by rw [k1]; omega
      have hx : (ps.map payA)[(L ps)[i].2.toNat]? = some (payA p) := by rw [k1]; exact payA_of k2
      refine ⟨_, Int.natCast_nonneg i, hgi, _, hx0, hx, ?_⟩
      constructor
      · intro hgt
        have hgt : ¬ p.til ≤ now := by
          have : p.til > now := by simpa using hgt
          omega
        refine fin _ rfl ?_
        exact tw_end hX (.inr ⟨_, List.getElem?_eq_getElem hi', by rw [← k3]; exact hgt⟩)
      · intro hgt
        have hgt : p.til ≤ now := by
          have : ¬ p.til > now := by simpa using hgt
          omega
        refine ⟨(by decide : 1 * 8 ≤ 140737488355328), ?_⟩
        refine ⟨_, (by omega : (L ps).length - (i + 1) < (L ps).length - i), i + 1, [] ++ [(L ps)[i]], ⟨hi', ?_, ?_⟩, rfl, rfl, rfl, rfl, rfl, congrArg (AV.int .i64) w, rfl⟩
        · rw [List.take_succ_eq_append_getElem hi', ← hO]
        · intro q hq
          rw [List.take_succ_eq_append_getElem hi'] at hq
          rcases List.mem_append.1 hq with hq | hq
          · exact hX q hq
          · rcases List.mem_singleton.1 hq with rfl
            rw [← k3]; exact hgt
    · intro hb
      have hi' : i = (L ps).length := by
        have : ¬ (i : Int) < ((iA (places ps)).length : Nat) := by simpa using hb
        rw [iA_len, hpl] at this; omega
      refine fin _ rfl ?_
      exact tw_end hX (.inl (List.getElem?_eq_none (by omega)))
  | cons o os =>
    have e5 : t1 5 = .sl (.own 25000) 3 (.int .i64 o.2 :: os.map fun p => AV.int .i64 p.2) := e5
    rw [← updL_has t1 [(0, .sl .fz 90 (ps.map payA)), (1, .int .i64 now), (9, .sl .fz 3 (iA (places ps))), (10, .int .i64 ((iA (places ps)).length : Nat)), (11, .int .i64 i), (5, .sl (.own 25000) 3 (.int .i64 o.2 :: os.map fun p => AV.int .i64 p.2))] ⟨e0, e1, e9, e10, e11, e5, trivial⟩]
    constructor
    · intro hb
      have hi' : i < (L ps).length := by
        have : (i : Int) < ((iA (places ps)).length : Nat) := by simpa using hb
        rw [iA_len, hpl] at this; omega
      have hgi : (iA (places ps))[i]? = some (.int .i64 (L ps)[i].2) := by
        rw [iA_get (by omega)]
        simp [places_eq]
      obtain ⟨k, p, k1, k2, k3, k4⟩ := L_mem (List.getElem_mem hi')
      have hx0 : 0 ≤ (L ps)[i].2 := by rw [k1]; omega
      have hx : (ps.map payA)[(L ps)[i].2.toNat]? = some (payA p) := by rw [k1]; exact payA_of k2
      refine ⟨_, Int.natCast_nonneg i, hgi, _, hx0, hx, ?_⟩
      constructor
      · intro hgt
        have hgt : ¬ p.til ≤ now := by
          have : p.til > now := by simpa using hgt
          omega
        refine fin _ rfl ?_
        exact tw_end hX (.inr ⟨_, List.getElem?_eq_getElem hi', by rw [← k3]; exact hgt⟩)
      · intro hgt
        have hgt : p.til ≤ now := by
          have : ¬ p.til > now := by simpa using hgt
          omega
        have hb2 : ((AV.int .i64 o.2 :: os.map fun p => AV.int .i64 p.2).length + 1) * 8 ≤ 140737488355328 := by simp at hol ⊢; omega
        have heq : AV.sl (.own 25000) 3 ((.int .i64 o.2 :: os.map fun p => AV.int .i64 p.2) ++ [.int .i64 (L ps)[i].2]) = outsA 25000 ((o :: os) ++ [(L ps)[i]]) := by simp [outsA]
        refine ⟨hb2, ?_⟩
        refine ⟨_, (by omega : (L ps).length - (i + 1) < (L ps).length - i), i + 1, (o :: os) ++ [(L ps)[i]], ⟨hi', ?_, ?_⟩, rfl, rfl, rfl, rfl, rfl, congrArg (AV.int .i64) w, heq⟩
        · rw [List.take_succ_eq_append_getElem hi', ← hO]
        · intro q hq
          rw [List.take_succ_eq_append_getElem hi'] at hq
          rcases List.mem_append.1 hq with hq | hq
          · exact hX q hq
          · rcases List.mem_singleton.1 hq with rfl
            rw [← k3]; exact hgt
    · intro hb
      have hi' : i = (L ps).length := by
        have : ¬ (i : Int) < ((iA (places ps)).length : Nat) := by simpa using hb
        rw [iA_len, hpl] at this; omega
      refine fin _ rfl ?_
      exact tw_end hX (.inl (List.getElem?_eq_none (by omega)))
theorem by_okC : FnOk Tryz.prog tab 92 (fun args bs K => bs = [] ∧ ∃ ps now, args = [.sl .fz 90 (ps.map payA), .int .i64 now] ∧ ps.length < 4000000 ∧ K (.sl .fz 3 (iA ((by' ps now).map (·.2)))) []) := by_ok.fz.mono (by
  rintro args bs K ⟨rfl, ps, now, rfl, hN, hK⟩
  exact ⟨rfl, rfl, ps, now, rfl, hN, _, fz_ints _ _, hK⟩)
end Go.Proofs.YtjffmldlkofpaaaGreatDoor.A.Due
