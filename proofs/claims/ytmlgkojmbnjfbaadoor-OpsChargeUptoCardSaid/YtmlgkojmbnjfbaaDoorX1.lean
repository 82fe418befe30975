/- Plain: entries that are balanced and fit are done; what is charged back. -/
import Derived.Test.YtmlgkojmbnjfbaaDoorX0
namespace Go.Proofs.YtmlgkojmbnjfbaaDoor.A
open Go Q
def sumAt : List Ent → Int → Int
  | [], _ => 0
  | e :: es, i => (if e.acct = i then e.amt else 0) + sumAt es i
def curSum (al : List Acc) : List Ent → Int → Int
  | [], _ => 0
  | e :: es, c => (if (accAt al e.acct).cur = c then e.amt else 0) + curSum al es c
theorem addM_fit {a b : Int} (ha : -1125899906842624 ≤ a ∧ a ≤ 1125899906842624) (hb : -1125899906842624 ≤ b ∧ b ≤ 1125899906842624) (hc : -1125899906842624 ≤ a + b ∧ a + b ≤ 1125899906842624) : addM a b = .ok (a + b) := by
  unfold addM
  rw [if_pos ⟨mayB_iff.2 ha, mayB_iff.2 hb, mayB_iff.2 hc⟩]
theorem postGo_fit {Y : Int} (hY : 0 ≤ Y) : ∀ {es : List Ent} {al : List Acc} {X : Int}, 0 ≤ X → (∀ (i : Nat) (a : Acc), al[i]? = some a → -X ≤ a.bal ∧ a.bal ≤ X) → (∀ e ∈ es, (0 ≤ e.acct ∧ e.acct < al.length) ∧ -Y ≤ e.amt ∧ e.amt ≤ Y) → X + es.length * Y ≤ 1125899906842624 →
    ∃ l, postGo al es = .ok l ∧ l.length = al.length ∧ ∀ (i : Nat) (a : Acc), al[i]? = some a → l[i]? = some ⟨a.cur, a.bal + sumAt es i, a.held⟩
  | [], al, X, _, _, _, _ => ⟨al, rfl, rfl, fun i a h => by rw [h]; simp [sumAt]⟩
  | e :: es, al, X, hX, hal, hes, hb => by
    obtain ⟨⟨e0, e1⟩, e2, e3⟩ := hes e (List.mem_cons_self ..)
    rw [List.length_cons] at hb
    have hbb : X + Y + (es.length : Int) * Y ≤ 1125899906842624 := by
      have e : ((es.length + 1 : Nat) : Int) * Y = (es.length : Int) * Y + Y := by
        rw [Int.natCast_add, Int.add_mul]; simp
      rw [e] at hb; omega
    have hnn : 0 ≤ (es.length : Int) * Y := Int.mul_nonneg (by omega) hY
    have hk : e.acct.toNat < al.length := by omega
    have ha := List.getElem?_eq_getElem hk
    obtain ⟨a1, a2⟩ := hal _ _ ha
    have hadd := addM_fit (a := (al[e.acct.toNat]).bal) (b := e.amt) (by omega) (by omega) (by omega)
    obtain ⟨l, h1, h2, h3⟩ := postGo_fit hY (es := es) (al := al.set e.acct.toNat ⟨(al[e.acct.toNat]).cur, (al[e.acct.toNat]).bal + e.amt, (al[e.acct.toNat]).held⟩) (X := X + Y) (by omega) (fun i a h => by
      rw [List.getElem?_set] at h
      split at h
      · cases h; show -(X + Y) ≤ (al[e.acct.toNat]).bal + e.amt ∧ (al[e.acct.toNat]).bal + e.amt ≤ X + Y; omega
      · have := hal i a h; omega) (fun x hx => by
      rw [List.length_set]
      exact hes x (List.mem_cons_of_mem _ hx)) hbb
    refine ⟨l, ?_, h2.trans (List.length_set ..), fun i a h => ?_⟩
    · rw [postGo_cons, ha]
      simp only [hadd]
      exact h1
    · by_cases hi : e.acct.toNat = i
      · subst hi
        obtain rfl : al[e.acct.toNat] = a := Option.some.inj (ha.symm.trans h)
        have := h3 e.acct.toNat _ (by rw [List.getElem?_set, if_pos rfl, if_pos hk])
        rw [this]
        have ee : e.acct = ((e.acct.toNat : Nat) : Int) := by omega
        simp only [sumAt]
        rw [if_pos ee]
        simp only [Option.some.injEq, Acc.mk.injEq, and_true, true_and]
        omega
      · have := h3 i a (by rw [List.getElem?_set, if_neg hi]; exact h)
        rw [this]
        simp only [sumAt]
        rw [if_neg (by omega)]
        simp
theorem balGo_fit {Y : Int} (hY : 0 ≤ Y ∧ Y ≤ 1125899906842624) {al : List Acc} : ∀ {es : List Ent} {t : Tri} {X : Int}, 0 ≤ X → (-X ≤ t.1 ∧ t.1 ≤ X) → (-X ≤ t.2.1 ∧ t.2.1 ≤ X) → (-X ≤ t.2.2 ∧ t.2.2 ≤ X) → (∀ e ∈ es, (0 ≤ e.acct ∧ e.acct < al.length) ∧ (-Y ≤ e.amt ∧ e.amt ≤ Y) ∧ 0 ≤ (accAt al e.acct).cur ∧ (accAt al e.acct).cur ≤ 2) → X + es.length * Y ≤ 1125899906842624 →
    balGo al t es = some (t.1 + curSum al es 0, t.2.1 + curSum al es 1, t.2.2 + curSum al es 2)
  | [], t, X, _, _, _, _, _, _ => by simp [balGo, curSum]
  | e :: es, t, X, hX, h1, h2, h3, hes, hb => by
    obtain ⟨⟨e0, e1⟩, ⟨e2, e3⟩, e4, e5⟩ := hes e (List.mem_cons_self ..)
    rw [List.length_cons] at hb
    have hbb : X + Y + (es.length : Int) * Y ≤ 1125899906842624 := by
      have e : ((es.length + 1 : Nat) : Int) * Y = (es.length : Int) * Y + Y := by
        rw [Int.natCast_add, Int.add_mul]; simp
      rw [e] at hb; omega
    have hnn : 0 ≤ (es.length : Int) * Y := Int.mul_nonneg (by omega) hY.1
    have hk : e.acct.toNat < al.length := by omega
    have ha := List.getElem?_eq_getElem hk
    rw [accAt_of ha] at e4 e5
    have hof : (ofN al.length e.acct).2 = true := by
      unfold ofN
      rw [if_neg (by omega)]
      split <;> rfl
    have hmy : mayB e.amt = true := mayB_iff.2 (by omega)
    have hes' : ∀ x ∈ es, (0 ≤ x.acct ∧ x.acct < al.length) ∧ (-Y ≤ x.amt ∧ x.amt ≤ Y) ∧ 0 ≤ (accAt al x.acct).cur ∧ (accAt al x.acct).cur ≤ 2 := fun x hx => hes x (List.mem_cons_of_mem _ hx)
    rw [balGo_cons]
    unfold balStep
    rw [if_neg (by simp [hof, hmy]), ha]
    have hcc : (al[e.acct.toNat]).cur = 0 ∨ (al[e.acct.toNat]).cur = 1 ∨ (al[e.acct.toNat]).cur = 2 := by omega
    simp only [curSum, accAt_of ha]
    rcases hcc with hc | hc | hc
    · rw [if_pos hc, addM_fit (by omega) (by omega) (by omega)]
      simp only
      rw [balGo_fit hY (t := (t.1 + e.amt, t.2.1, t.2.2)) (X := X + Y) (by omega) (by simp only; omega) (by simp only; omega) (by simp only; omega) hes' hbb]
      simp only [hc]
      simp
      omega
    · rw [if_neg (by omega), if_pos hc, addM_fit (by omega) (by omega) (by omega)]
      simp only
      rw [balGo_fit hY (t := (t.1, t.2.1 + e.amt, t.2.2)) (X := X + Y) (by omega) (by simp only; omega) (by simp only; omega) (by simp only; omega) hes' hbb]
      simp only [hc]
      simp
      omega
    · rw [if_neg (by omega), if_neg (by omega), if_pos hc, addM_fit (by omega) (by omega) (by omega)]
      simp only
      rw [balGo_fit hY (t := (t.1, t.2.1, t.2.2 + e.amt)) (X := X + Y) (by omega) (by simp only; omega) (by simp only; omega) (by simp only; omega) hes' hbb]
      simp only [hc]
      simp
      omega
/-- Entries that are balanced, that fit, and that leave no client with less than what is held, are done. -/
theorem postM_fit {X Y : Int} (hX : 0 ≤ X) (hY : 0 ≤ Y) {al : List Acc} {es : List Ent} (hal : ∀ (i : Nat) (a : Acc), al[i]? = some a → (-X ≤ a.bal ∧ a.bal ≤ X) ∧ 0 ≤ a.cur ∧ a.cur ≤ 2) (hes : ∀ e ∈ es, (0 ≤ e.acct ∧ e.acct < al.length) ∧ -Y ≤ e.amt ∧ e.amt ≤ Y) (hb : X + es.length * Y ≤ 1125899906842624) (hY2 : Y ≤ 1125899906842624)
    (h0 : curSum al es 0 = 0) (h1 : curSum al es 1 = 0) (h2 : curSum al es 2 = 0) (hf : ∀ (i : Nat) (a : Acc), al[i]? = some a → 9 ≤ i → ¬ freeN ⟨a.cur, a.bal + sumAt es i, a.held⟩ < 0) :
    ∃ l, postM al es = .ok l ∧ l.length = al.length ∧ ∀ (i : Nat) (a : Acc), al[i]? = some a → l[i]? = some ⟨a.cur, a.bal + sumAt es i, a.held⟩ := by
  obtain ⟨l, k1, k2, k3⟩ := postGo_fit hY hX (fun i a h => (hal i a h).1) hes hb
  have hbal : balM al es = true := by
    unfold balM
    rw [balGo_fit ⟨hY, hY2⟩ (t := (0, 0, 0)) hX (by simp only; omega) (by simp only; omega) (by simp only; omega) (fun e he => by
      obtain ⟨q1, q2⟩ := hes e he
      have ha := List.getElem?_eq_getElem (show e.acct.toNat < al.length by omega)
      rw [accAt_of ha]
      exact ⟨q1, q2, (hal _ _ ha).2⟩) hb]
    simp [h0, h1, h2]
  refine ⟨l, ?_, k2, k3⟩
  unfold postM
  rw [if_neg (by simp [hbal]), k1]
  simp only
  have hlk : lacks l = false := lacks_not fun i b hb h9 => by
    have hi : i < al.length := by rw [← k2]; exact (List.getElem?_eq_some_iff.1 hb).1
    have ha := List.getElem?_eq_getElem hi
    have := k3 i _ ha
    rw [hb] at this
    cases this
    exact hf i _ ha h9
  rw [if_neg (by simp [hlk])]
end Go.Proofs.YtmlgkojmbnjfbaaDoor.A
