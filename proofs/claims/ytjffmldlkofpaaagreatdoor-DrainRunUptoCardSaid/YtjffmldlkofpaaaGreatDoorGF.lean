/- Plain: what a state by numbers is like; entries that are done. -/
import Derived.Test.YtjffmldlkofpaaaGreatDoorGE
namespace Go.Proofs.YtjffmldlkofpaaaGreatDoor.A
open Go Q
/-- An account by its place: the house's first, each of its currency. m: how much less than nothing the house may have. -/
def AccI (m : Int) (i : Nat) (a : Acc) : Prop := (0 ≤ a.cur ∧ a.cur ≤ 2) ∧ (i < 9 → a.cur = (i / 3 : Nat) ∧ a.held = 0 ∧ -m ≤ a.bal ∧ a.bal ≤ 0) ∧ (9 ≤ i → 0 ≤ a.held ∧ a.held ≤ a.bal ∧ a.bal ≤ 99999)
def AllI (m : Int) (l : List Acc) : Prop := ∀ (i : Nat) (a : Acc), l[i]? = some a → AccI m i a
theorem allI_base : AllI 0 base9 := by
  intro i a h
  have hi : i < 9 := (List.getElem?_eq_some_iff.1 h).1
  have hc : i = 0 ∨ i = 1 ∨ i = 2 ∨ i = 3 ∨ i = 4 ∨ i = 5 ∨ i = 6 ∨ i = 7 ∨ i = 8 := by omega
  rcases hc with rfl | rfl | rfl | rfl | rfl | rfl | rfl | rfl | rfl <;> (cases h; exact ⟨⟨by decide, by decide⟩, fun _ => ⟨rfl, rfl, by decide, by decide⟩, fun h => absurd h (by decide)⟩)
theorem bal_in {has : List Int} (h : ∀ n ∈ has, 0 ≤ n) (k : Nat) : 0 ≤ balOf has k ∧ balOf has k ≤ 99999 := by
  unfold balOf
  split
  · rename_i v hv
    obtain ⟨a, b⟩ := tmod_in (h v (List.mem_of_getElem? hv)) (show (0 : Int) < 100000 by decide)
    rw [w64_of (by omega) (by omega)]
    omega
  · omega
theorem allI_step {has : List Int} (hh : ∀ n ∈ has, 0 ≤ n) {m : Int} (hm : 0 ≤ m ∧ m ≤ 1000000000) {al : List Acc} {k : Nat} {c : Int} (hc : u8I c) (hl : 9 ≤ al.length) (h : AllI m al) : AllI (m + 99999) (bookStep has al k c) := by
  obtain ⟨h0, h1, h2⟩ := cur_in hc
  obtain ⟨b0, b1⟩ := bal_in hh k
  unfold bookStep
  have hj : (w64 (3 * curOf c)).toNat < al.length := by rw [h2]; omega
  have hj9 : (w64 (3 * curOf c)).toNat < 9 := by rw [h2]; omega
  rw [List.getElem?_eq_getElem hj]
  intro i a ha
  simp only at ha
  by_cases hi : i < al.length
  · rw [List.getElem?_append_left (by rw [List.length_set]; exact hi), List.getElem?_set] at ha
    split at ha
    · rename_i hij
      subst hij
      first | rw [if_pos hj] at ha | skip
      cases ha
      obtain ⟨q1, q2, q3⟩ := h _ _ (List.getElem?_eq_getElem hj)
      obtain ⟨r1, r2, r3, r4⟩ := q2 hj9
      refine ⟨q1, fun _ => ⟨r1, r2, ?_, ?_⟩, fun h => absurd h (by omega)⟩
      · show -(m + 99999) ≤ w64 _
        rw [w64_of (by omega) (by omega)]; omega
      · show w64 _ ≤ 0
        rw [w64_of (by omega) (by omega)]; omega
    · obtain ⟨q1, q2, q3⟩ := h i a ha
      exact ⟨q1, fun h => ⟨(q2 h).1, (q2 h).2.1, by have := (q2 h).2.2; omega, (q2 h).2.2.2⟩, q3⟩
  · rw [List.getElem?_append_right (by rw [List.length_set]; omega), List.length_set] at ha
    have hi0 : i - al.length = 0 := by
      have := (List.getElem?_eq_some_iff.1 ha).1
      simp at this; omega
    rw [hi0] at ha
    cases ha
    exact ⟨⟨h0, h1⟩, fun h => absurd h (by omega), fun _ => ⟨Int.le_refl 0, b0, b1⟩⟩
theorem allI_go {has : List Int} (hh : ∀ n ∈ has, 0 ≤ n) : ∀ {cs : List Int} {al : List Acc} {k : Nat} {m : Int}, (∀ c ∈ cs, u8I c) → 0 ≤ m → m + 99999 * cs.length ≤ 1000000000 → 9 ≤ al.length → AllI m al → AllI (m + 99999 * cs.length) (bookGo has al k cs)
  | [], al, _, m, _, _, _, _, h => by
    have e : m + 99999 * (([] : List Int).length : Int) = m := by simp
    rw [e]; exact h
  | c :: cs, al, k, m, hc, h0, hm, hl, h => by
    rw [List.length_cons] at hm ⊢
    have hcs := hc c (List.mem_cons_self ..)
    have h1 := allI_step hh (k := k) ⟨h0, by omega⟩ hcs hl h
    have h2 := bookStep_len (has := has) (k := k) hcs hl
    have := allI_go hh (cs := cs) (k := k + 1) (fun x hx => hc x (List.mem_cons_of_mem _ hx)) (show 0 ≤ m + 99999 by omega) (by omega) (by omega) h1
    rw [bookGo_cons]
    have e : m + 99999 + 99999 * (cs.length : Int) = m + 99999 * ((cs.length + 1 : Nat) : Int) := by omega
    rw [← e]
    exact this
structure Book.Ok (b : Book) : Prop extends b.In where
  h : ∀ n ∈ b.has, 0 ≤ n
theorem allI_book {b : Book} (h : b.Ok) : AllI 600000 (bookL (curs6 b) b.has) := by
  have := allI_go h.h (cs := curs6 b) (al := base9) (k := 0) (m := 0) (curs6_in h.toIn) (Int.le_refl 0) (by rw [curs6_len]; decide) (by decide) allI_base
  rw [curs6_len] at this
  intro i a ha
  obtain ⟨q1, q2, q3⟩ := this i a ha
  exact ⟨q1, fun h => ⟨(q2 h).1, (q2 h).2.1, by have := (q2 h).2.2; omega, (q2 h).2.2.2⟩, q3⟩
/-- A payment of a state by numbers. -/
structure PayI (p : Pay) : Prop where
  s : 9 ≤ p.src ∧ p.src ≤ 14
  d : 9 ≤ p.dst ∧ p.dst ≤ 14
  ne : p.src ≠ p.dst
  a : 1 ≤ p.auth ∧ p.auth ≤ 256
  c : 0 ≤ p.capt ∧ p.capt ≤ p.auth
  r : 0 ≤ p.refu ∧ p.refu ≤ p.capt
  h : 0 ≤ p.chrg ∧ p.chrg ≤ p.capt - p.refu
  u : 0 ≤ p.til ∧ p.til ≤ 19
  t : p.stage = 0 ∨ p.stage = 1
  o : p.stage = 0 → p.capt < p.auth
theorem pay_paid {p : Paid} (hp : p.In) (hne : (paidP p).src ≠ (paidP p).dst) : PayI (paidP p) := by
  have ea := pdA_eq hp
  have h3 := hp.i3
  have hc := pdC_in hp
  have hr := pdR_in hp
  have hh := pdH_in hp
  obtain ⟨a1, a2⟩ := tmod_in hp.i1.1 (show (0 : Int) < 6 by decide)
  obtain ⟨b1, b2⟩ := tmod_in hp.i2.1 (show (0 : Int) < 6 by decide)
  obtain ⟨c1, c2⟩ := tmod_in hp.i7.1 (show (0 : Int) < 20 by decide)
  have es : (paidP p).src = 9 + p.src.tmod 6 := by
    show w64 (9 + w64 (p.src.tmod 6)) = _
    rw [w64_of (n := p.src.tmod 6) (by omega) (by omega), w64_of (by omega) (by omega)]
  have ed : (paidP p).dst = 9 + p.dst.tmod 6 := by
    show w64 (9 + w64 (p.dst.tmod 6)) = _
    rw [w64_of (n := p.dst.tmod 6) (by omega) (by omega), w64_of (by omega) (by omega)]
  have eu : (paidP p).til = p.til.tmod 20 := w64_of (by omega) (by omega)
  have et : (paidP p).stage = if p.closed = true ∨ pdC p = pdA p then 1 else 0 := rfl
  refine ⟨by omega, by omega, hne, ?_, hc, hr, hh, by omega, ?_, ?_⟩
  · show 1 ≤ pdA p ∧ pdA p ≤ 256
    omega
  · rw [et]; split <;> simp
  · intro h0
    rw [et] at h0
    split at h0
    · cases h0
    · rename_i hn
      show pdC p < pdA p
      have : ¬ pdC p = pdA p := fun e => hn (.inr e)
      omega
theorem free_of {m : Int} {i : Nat} {a : Acc} (h : AccI m i a) (h9 : 9 ≤ i) : freeN a = a.bal - a.held := by
  obtain ⟨-, -, h3⟩ := h
  obtain ⟨a1, a2, a3⟩ := h3 h9
  exact w64_of (by omega) (by omega)
theorem hold_allI {m : Int} {al l : List Acc} {k n : Int} (h : AllI m al) (hh : holdM al k n = .ok l) : AllI m l := by
  unfold holdM at hh
  split at hh
  · cases hh
  · rename_i hc
    split at hh
    · cases hh
    · rename_i hn
      split at hh
      · rename_i a ha
        split at hh
        · cases hh
        · rename_i hf
          cases hh
          obtain ⟨k9, -⟩ := is_of (by simpa using hc)
          obtain ⟨n1, n2⟩ := amountB_iff.1 (by simpa using hn)
          have hI := h _ _ ha
          have hk9 : 9 ≤ k.toNat := by omega
          rw [free_of hI hk9] at hf
          obtain ⟨q1, q2, q3⟩ := hI
          obtain ⟨a1, a2, a3⟩ := q3 hk9
          intro i b hb
          rw [List.getElem?_set] at hb
          split at hb
          · rename_i hij
            subst hij
            split at hb
            · cases hb
              refine ⟨q1, fun h => absurd h (by omega), fun _ => ?_⟩
              have hw : w64 (a.held + n) = a.held + n := w64_of (by omega) (by omega)
              show 0 ≤ w64 (a.held + n) ∧ w64 (a.held + n) ≤ a.bal ∧ a.bal ≤ 99999
              rw [hw]
              omega
            · cases hb
          · exact h i b hb
      · cases hh
/-- A state by numbers is right. -/
structure StaI (s : Sta) : Prop where
  l : s.accs.length = 15
  a : AllI 600000 s.accs
  p : ∀ p ∈ s.pays, PayI p
theorem put_I {t : List Acc × List Pay} {k : Nat} {p : Paid} (hp : p.In) (hl : t.1.length = 15) (ha : AllI 600000 t.1) (hP : ∀ p ∈ t.2, PayI p) : (putP t k p).1.length = 15 ∧ AllI 600000 (putP t k p).1 ∧ ∀ q ∈ (putP t k p).2, PayI q := by
  unfold putP
  split
  · exact ⟨hl, ha, hP⟩
  · rename_i hn
    have hI := pay_paid hp (fun e => hn (.inr e))
    have hmem : ∀ q ∈ t.2 ++ [paidP p], PayI q := fun q hq => by
      rcases List.mem_append.1 hq with hq | hq
      · exact hP q hq
      · rw [List.mem_singleton.1 hq]; exact hI
    split
    · cases hh : holdM t.1 (paidP p).src (left (paidP p)) with
      | ok l => exact ⟨(hold_len hh).trans hl, hold_allI ha hh, hmem⟩
      | error e => exact ⟨hl, ha, hP⟩
    · exact ⟨hl, ha, hmem⟩
theorem go_I : ∀ {ps : List Paid} {t : List Acc × List Pay} {k : Nat}, (∀ p ∈ ps, p.In) → t.1.length = 15 → AllI 600000 t.1 → (∀ p ∈ t.2, PayI p) → (putGo t k ps).1.length = 15 ∧ AllI 600000 (putGo t k ps).1 ∧ ∀ q ∈ (putGo t k ps).2, PayI q
  | [], _, _, _, hl, ha, hP => ⟨hl, ha, hP⟩
  | p :: ps, t, k, hp, hl, ha, hP => by
    obtain ⟨h1, h2, h3⟩ := put_I (k := k) (hp p (List.mem_cons_self ..)) hl ha hP
    rw [putGo_cons]
    exact go_I (fun q hq => hp q (List.mem_cons_of_mem _ hq)) h1 h2 h3
theorem state_I {b : Book} {ps : List Paid} (now : Int) (hb : b.Ok) (hp : ∀ p ∈ ps, p.In) : StaI (stateM b ps now) := by
  obtain ⟨h1, h2, h3⟩ := go_I (ps := ps) (t := (bookL (curs6 b) b.has, [])) (k := 0) hp (book15 hb.toIn) (allI_book hb) (fun p hp => by cases hp)
  exact ⟨h1, h2, h3⟩
theorem putGo_len : ∀ {ps : List Paid} {t : List Acc × List Pay} {k : Nat}, (putGo t k ps).2.length ≤ t.2.length + ps.length
  | [], _, _ => Nat.le_refl _
  | p :: ps, t, k => by
    rw [putGo_cons]
    have h := putGo_len (ps := ps) (t := putP t k p) (k := k + 1)
    have h2 : (putP t k p).2.length ≤ t.2.length + 1 := by
      unfold putP
      split
      · omega
      · split
        · split <;> simp
        · simp
    rw [List.length_cons]
    omega
theorem state_sz {b : Book} {ps : List Paid} (now : Int) (hb : b.Ok) (hp : ∀ p ∈ ps, p.In) (hl : ps.length ≤ 1999900) : SzA (stateM b ps now) := by
  have h := state_I now hb hp
  refine ⟨by rw [h.l]; decide, ?_⟩
  have := putGo_len (ps := ps) (t := (bookL (curs6 b) b.has, [])) (k := 0)
  have e : (stateM b ps now).pays.length = (putGo (bookL (curs6 b) b.has, []) 0 ps).2.length := rfl
  rw [e]
  simp at this
  omega
end Go.Proofs.YtjffmldlkofpaaaGreatDoor.A

/- Plain: entries that are balanced and fit are done; what is charged back. -/
namespace Go.Proofs.YtjffmldlkofpaaaGreatDoor.A
open Go Q
def sumAt : List Ent → Int → Int
  | [], _ => 0
  | e :: es, i => (if e.acct = i then e.amt else 0) + sumAt es i
def curSum (al : List Acc) : List Ent → Int → Int
  | [], _ => 0
  | e :: es, c => (if (accAt al e.acct).cur = c then e.amt else 0) + curSum al es c
theorem addM_fit {a b : Int} (ha : -1125899906842624 ≤ a ∧ a ≤ 1125899906842624) (hb : -1125899906842624 ≤ b ∧ b ≤ 1125899906842624) (hc : -1125899906842624 ≤ a + b ∧ a + b ≤ 1125899906842624) : addM a b = .ok (a + b) := by
  unfold addM
  rw [if_pos ⟨mayB_iff.2 ha, mayB_iff.2 hb, mayB_iff.2 hc⟩]
theorem postGo_fit {Y : Int} (hY : 0 ≤ Y) : ∀ {es : List Ent} {al : List Acc} {X : Int}, 0 ≤ X → (∀ (i : Nat) (a : Acc), al[i]? = some a → -X ≤ a.bal ∧ a.bal ≤ X) → (∀ e ∈ es, (0 ≤ e.acct ∧ e.acct < al.length) ∧ -Y ≤ e.amt ∧ e.amt ≤ Y) → X + es.length * Y ≤ 1125899906842624 →
    ∃ l, postGo al es = .ok l ∧ l.length = al.length ∧ ∀ (i : Nat) (a : Acc), al[i]? = some a → l[i]? = some ⟨a.cur, a.bal + sumAt es i, a.held⟩
  | [], al, X, _, _, _, _ => ⟨al, rfl, rfl, fun i a h => by rw [h]; simp [sumAt]⟩
  | e :: es, al, X, hX, hal, hes, hb => by
    obtain ⟨⟨e0, e1⟩, e2, e3⟩ := hes e (List.mem_cons_self ..)
    rw [List.length_cons] at hb
    have hbb : X + Y + (es.length : Int) * Y ≤ 1125899906842624 := by
      have e : ((es.length + 1 : Nat) : Int) * Y = (es.length : Int) * Y + Y := by
        rw [Int.natCast_add, Int.add_mul]; simp
      rw [e] at hb; omega
    have hnn : 0 ≤ (es.length : Int) * Y := Int.mul_nonneg (by omega) hY
    have hk : e.acct.toNat < al.length := by omega
    have ha := List.getElem?_eq_getElem hk
    obtain ⟨a1, a2⟩ := hal _ _ ha
    have hadd := addM_fit (a := (al[e.acct.toNat]).bal) (b := e.amt) (by omega) (by omega) (by omega)
    obtain ⟨l, h1, h2, h3⟩ := postGo_fit hY (es := es) (al := al.set e.acct.toNat ⟨(al[e.acct.toNat]).cur, (al[e.acct.toNat]).bal + e.amt, (al[e.acct.toNat]).held⟩) (X := X + Y) (by omega) (fun i a h => by
      rw [List.getElem?_set] at h
      split at h
      · cases h; show -(X + Y) ≤ (al[e.acct.toNat]).bal + e.amt ∧ (al[e.acct.toNat]).bal + e.amt ≤ X + Y; omega
      · have := hal i a h; omega) (fun x hx => by
      rw [List.length_set]
      exact hes x (List.mem_cons_of_mem _ hx)) hbb
    refine ⟨l, ?_, h2.trans (List.length_set ..), fun i a h => ?_⟩
    · rw [postGo_cons, ha]
      simp only [hadd]
      exact h1
    · by_cases hi : e.acct.toNat = i
      · subst hi
        obtain rfl : al[e.acct.toNat] = a := Option.some.inj (ha.symm.trans h)
        have := h3 e.acct.toNat _ (by rw [List.getElem?_set, if_pos rfl, if_pos hk])
        rw [this]
        have ee : e.acct = ((e.acct.toNat : Nat) : Int) := by omega
        simp only [sumAt]
        rw [if_pos ee]
        simp only [Option.some.injEq, Acc.mk.injEq, and_true, true_and]
        omega
      · have := h3 i a (by rw [List.getElem?_set, if_neg hi]; exact h)
        rw [this]
        simp only [sumAt]
        rw [if_neg (by omega)]
        simp
theorem balGo_fit {Y : Int} (hY : 0 ≤ Y ∧ Y ≤ 1125899906842624) {al : List Acc} : ∀ {es : List Ent} {t : Tri} {X : Int}, 0 ≤ X → (-X ≤ t.1 ∧ t.1 ≤ X) → (-X ≤ t.2.1 ∧ t.2.1 ≤ X) → (-X ≤ t.2.2 ∧ t.2.2 ≤ X) → (∀ e ∈ es, (0 ≤ e.acct ∧ e.acct < al.length) ∧ (-Y ≤ e.amt ∧ e.amt ≤ Y) ∧ 0 ≤ (accAt al e.acct).cur ∧ (accAt al e.acct).cur ≤ 2) → X + es.length * Y ≤ 1125899906842624 →
    balGo al t es = some (t.1 + curSum al es 0, t.2.1 + curSum al es 1, t.2.2 + curSum al es 2)
  | [], t, X, _, _, _, _, _, _ => by simp [balGo, curSum]
  | e :: es, t, X, hX, h1, h2, h3, hes, hb => by
    obtain ⟨⟨e0, e1⟩, ⟨e2, e3⟩, e4, e5⟩ := hes e (List.mem_cons_self ..)
    rw [List.length_cons] at hb
    have hbb : X + Y + (es.length : Int) * Y ≤ 1125899906842624 := by
      have e : ((es.length + 1 : Nat) : Int) * Y = (es.length : Int) * Y + Y := by
        rw [Int.natCast_add, Int.add_mul]; simp
      rw [e] at hb; omega
    have hnn : 0 ≤ (es.length : Int) * Y := Int.mul_nonneg (by omega) hY.1
    have hk : e.acct.toNat < al.length := by omega
    have ha := List.getElem?_eq_getElem hk
    rw [accAt_of ha] at e4 e5
    have hof : (ofN al.length e.acct).2 = true := by
      unfold ofN
      rw [if_neg (by omega)]
      split <;> rfl
    have hmy : mayB e.amt = true := mayB_iff.2 (by omega)
    have hes' : ∀ x ∈ es, (0 ≤ x.acct ∧ x.acct < al.length) ∧ (-Y ≤ x.amt ∧ x.amt ≤ Y) ∧ 0 ≤ (accAt al x.acct).cur ∧ (accAt al x.acct).cur ≤ 2 := fun x hx => hes x (List.mem_cons_of_mem _ hx)
    rw [balGo_cons]
    unfold balStep
    rw [if_neg (by simp [hof, hmy]), ha]
    have hcc : (al[e.acct.toNat]).cur = 0 ∨ (al[e.acct.toNat]).cur = 1 ∨ (al[e.acct.toNat]).cur = 2 := by omega
    simp only [curSum, accAt_of ha]
    rcases hcc with hc | hc | hc
    · rw [if_pos hc, addM_fit (by omega) (by omega) (by omega)]
      simp only
      rw [balGo_fit hY (t := (t.1 + e.amt, t.2.1, t.2.2)) (X := X + Y) (by omega) (by simp only; omega) (by simp only; omega) (by simp only; omega) hes' hbb]
      simp only [hc]
      simp
      omega
    · rw [if_neg (by omega), if_pos hc, addM_fit (by omega) (by omega) (by omega)]
      simp only
      rw [balGo_fit hY (t := (t.1, t.2.1 + e.amt, t.2.2)) (X := X + Y) (by omega) (by simp only; omega) (by simp only; omega) (by simp only; omega) hes' hbb]
      simp only [hc]
      simp
      omega
    · rw [if_neg (by omega), if_neg (by omega), if_pos hc, addM_fit (by omega) (by omega) (by omega)]
      simp only
      rw [balGo_fit hY (t := (t.1, t.2.1, t.2.2 + e.amt)) (X := X + Y) (by omega) (by simp only; omega) (by simp only; omega) (by simp only; omega) hes' hbb]
      simp only [hc]
      simp
      omega
/-- Entries that are balanced, that fit, and that leave no client with less than what is held, are done. -/
theorem postM_fit {X Y : Int} (hX : 0 ≤ X) (hY : 0 ≤ Y) {al : List Acc} {es : List Ent} (hal : ∀ (i : Nat) (a : Acc), al[i]? = some a → (-X ≤ a.bal ∧ a.bal ≤ X) ∧ 0 ≤ a.cur ∧ a.cur ≤ 2) (hes : ∀ e ∈ es, (0 ≤ e.acct ∧ e.acct < al.length) ∧ -Y ≤ e.amt ∧ e.amt ≤ Y) (hb : X + es.length * Y ≤ 1125899906842624) (hY2 : Y ≤ 1125899906842624)
    (h0 : curSum al es 0 = 0) (h1 : curSum al es 1 = 0) (h2 : curSum al es 2 = 0) (hf : ∀ (i : Nat) (a : Acc), al[i]? = some a → 9 ≤ i → ¬ freeN ⟨a.cur, a.bal + sumAt es i, a.held⟩ < 0) :
    ∃ l, postM al es = .ok l ∧ l.length = al.length ∧ ∀ (i : Nat) (a : Acc), al[i]? = some a → l[i]? = some ⟨a.cur, a.bal + sumAt es i, a.held⟩ := by
  obtain ⟨l, k1, k2, k3⟩ := postGo_fit hY hX (fun i a h => (hal i a h).1) hes hb
  have hbal : balM al es = true := by
    unfold balM
    rw [balGo_fit ⟨hY, hY2⟩ (t := (0, 0, 0)) hX (by simp only; omega) (by simp only; omega) (by simp only; omega) (fun e he => by
      obtain ⟨q1, q2⟩ := hes e he
      have ha := List.getElem?_eq_getElem (show e.acct.toNat < al.length by omega)
      rw [accAt_of ha]
      exact ⟨q1, q2, (hal _ _ ha).2⟩) hb]
    simp [h0, h1, h2]
  refine ⟨l, ?_, k2, k3⟩
  unfold postM
  rw [if_neg (by simp [hbal]), k1]
  simp only
  have hlk : lacks l = false := lacks_not fun i b hb h9 => by
    have hi : i < al.length := by rw [← k2]; exact (List.getElem?_eq_some_iff.1 hb).1
    have ha := List.getElem?_eq_getElem hi
    have := k3 i _ ha
    rw [hb] at this
    cases this
    exact hf i _ ha h9
  rw [if_neg (by simp [hlk])]
end Go.Proofs.YtjffmldlkofpaaaGreatDoor.A

/- Plain: what is charged back. -/
namespace Go.Proofs.YtjffmldlkofpaaaGreatDoor.A
open Go Q
theorem free_lt {s : Sta} (h : StaI s) {k : Int} (h9 : 9 ≤ k ∧ k ≤ 14) : ∃ a, s.accs[k.toNat]? = some a ∧ (0 ≤ a.cur ∧ a.cur ≤ 2) ∧ 0 ≤ a.held ∧ a.held ≤ a.bal ∧ a.bal ≤ 99999 ∧ freeN a = a.bal - a.held := by
  have hk : k.toNat < s.accs.length := by rw [h.l]; omega
  have ha := List.getElem?_eq_getElem hk
  have hI := h.a _ _ ha
  obtain ⟨q1, q2, q3⟩ := hI
  obtain ⟨a1, a2, a3⟩ := q3 (by omega)
  exact ⟨_, ha, q1, a1, a2, a3, free_of (h.a _ _ ha) (by omega)⟩
theorem house_cur {s : Sta} (h : StaI s) {k : Int} (h9 : 0 ≤ k ∧ k < 9) : (accAt s.accs k).cur = (k.toNat / 3 : Nat) := by
  have hk : k.toNat < s.accs.length := by rw [h.l]; omega
  have ha := List.getElem?_eq_getElem hk
  obtain ⟨-, q2, -⟩ := h.a _ _ ha
  rw [accAt_of ha]
  exact (q2 (by omega)).1
theorem accs_bound {s : Sta} (h : StaI s) : ∀ (i : Nat) (a : Acc), s.accs[i]? = some a → (-600000 ≤ a.bal ∧ a.bal ≤ 600000) ∧ 0 ≤ a.cur ∧ a.cur ≤ 2 := fun i a ha => by
  obtain ⟨q1, q2, q3⟩ := h.a i a ha
  refine ⟨?_, q1⟩
  by_cases h9 : i < 9
  · have := q2 h9; omega
  · have := q3 (by omega); omega
theorem numK_of {k c : Int} (hk : 0 ≤ k ∧ k ≤ 2) (hc : 0 ≤ c ∧ c ≤ 2) : numK k c = 3 * c + k := by
  unfold numK
  rw [if_neg (by omega)]
/-- What Move makes of two clients. -/
theorem move_cases {s : Sta} (h : StaI s) {x y n : Int} (hx : 9 ≤ x ∧ x ≤ 14) (hy : 9 ≤ y ∧ y ≤ 14) (hne : x ≠ y) (hn : 1 ≤ n ∧ n ≤ 1099511627776) :
    ((accAt s.accs x).cur = (accAt s.accs y).cur ∧ moveM s.accs x y n = .ok [⟨x, -n⟩, ⟨y, n⟩]) ∨
    ((accAt s.accs x).cur ≠ (accAt s.accs y).cur ∧ ((∃ e, e ≠ 0 ∧ moveM s.accs x y n = .error e) ∨ ∃ g, 0 < g ∧ g ≤ 1099511627776 ∧ moveM s.accs x y n = .ok [⟨x, -n⟩, ⟨3 * (accAt s.accs x).cur + 1, n⟩, ⟨3 * (accAt s.accs y).cur + 1, -g⟩, ⟨y, g⟩])) := by
  obtain ⟨a, ha, ca, -⟩ := free_lt h hx
  obtain ⟨b, hb, cb, -⟩ := free_lt h hy
  have hl := h.l
  have o1 : (ofN s.accs.length x).2 = true := by unfold ofN; rw [hl, if_neg (by omega)]; split <;> rfl
  have o2 : (ofN s.accs.length y).2 = true := by unfold ofN; rw [hl, if_neg (by omega)]; split <;> rfl
  have hna : amountB n = true := amountB_iff.2 hn
  rw [accAt_of ha, accAt_of hb]
  unfold moveM
  rw [if_neg (by simp [o1, o2]), if_neg (by simp [hne, hna]), ha, hb]
  simp only
  by_cases hc : a.cur = b.cur
  · exact .inl ⟨hc, by rw [if_pos hc]⟩
  · refine .inr ⟨hc, ?_⟩
    rw [if_neg hc, numK_of (by decide) ca, numK_of (by decide) cb, if_neg (by omega)]
    cases hcv : convM n (rateN a.cur b.cur).1 (rateN a.cur b.cur).2 with
    | error e =>
      refine .inl ⟨e, ?_, rfl⟩
      unfold convM at hcv
      split at hcv
      · split at hcv
        · cases hcv; decide
        · cases hcv
      · cases hcv; decide
    | ok g =>
      obtain ⟨l1, l2⟩ := conv_le (x := g.1) (y := g.2) hcv
      simp only
      by_cases hg : g.1 = 0
      · rw [if_pos hg]; exact .inl ⟨1, by decide, rfl⟩
      · rw [if_neg hg]; exact .inr ⟨g.1, by omega, l2, rfl⟩
/-- What was paid goes back to the payer, whatever the seller has. -/
theorem back_post {s : Sta} (h : StaI s) {p : Pay} (hp : PayI p) {n g : Int} (hn : 1 ≤ n ∧ n ≤ 1099511627776) (hg : 0 < g ∧ g ≤ 1099511627776) {mid : List Ent}
    (hmid : (mid = [] ∧ g = n ∧ (accAt s.accs p.src).cur = (accAt s.accs p.dst).cur) ∨ mid = [⟨3 * (accAt s.accs p.dst).cur + 1, g⟩, ⟨3 * (accAt s.accs p.src).cur + 1, -n⟩]) :
    ∃ l, postM s.accs (lackE s p (⟨p.dst, -g⟩ :: (mid ++ [⟨p.src, n⟩]))) = .ok l ∧ l.length = 15 ∧ (accAt l p.src).bal = (accAt s.accs p.src).bal + n ∧ freeN (accAt l p.dst) ≥ 0 := by
  obtain ⟨a, ha, ca, a1, a2, a3, fa⟩ := free_lt h hp.s
  obtain ⟨b, hb, cb, b1, b2, b3, fb⟩ := free_lt h hp.d
  have hl := h.l
  have hs := hp.s
  have hd := hp.d
  have hne := hp.ne
  rw [accAt_of ha, accAt_of hb] at hmid
  have wg : w64 (0 - -g) = g := by rw [w64_of (by omega) (by omega)]; omega
  have wl : w64 (g - (b.bal - b.held)) = g - (b.bal - b.held) := w64_of (by omega) (by omega)
  have ca1 : (accAt s.accs (3 * a.cur + 1)).cur = a.cur := by rw [house_cur h (by omega)]; omega
  have cb1 : (accAt s.accs (3 * b.cur + 1)).cur = b.cur := by rw [house_cur h (by omega)]; omega
  have cb2 : (accAt s.accs (3 * b.cur + 2)).cur = b.cur := by rw [house_cur h (by omega)]; omega
  have cs : (accAt s.accs p.src).cur = a.cur := by rw [accAt_of ha]
  have cd : (accAt s.accs p.dst).cur = b.cur := by rw [accAt_of hb]
  rw [lackE_cons, accAt_of hb, fb, wg, wl, numK_of (by decide) cb]
  -- what is asked of either list
  have fin : ∀ es : List Ent, es.length ≤ 5 → (∀ e ∈ es, (0 ≤ e.acct ∧ e.acct < 15) ∧ -1099511627776 ≤ e.amt ∧ e.amt ≤ 1099511627776) → curSum s.accs es 0 = 0 → curSum s.accs es 1 = 0 → curSum s.accs es 2 = 0 → sumAt es p.src = n → (0 ≤ b.bal + sumAt es p.dst - b.held ∧ b.bal + sumAt es p.dst ≤ 99999) → (∀ i : Int, 9 ≤ i → i ≠ p.src → i ≠ p.dst → sumAt es i = 0) →
      ∃ l, postM s.accs es = .ok l ∧ l.length = 15 ∧ (accAt l p.src).bal = (accAt s.accs p.src).bal + n ∧ freeN (accAt l p.dst) ≥ 0 := fun es hlen hes c0 c1 c2 e1 e2 e3 => by
    have key : ∀ (i : Nat) (q : Acc), s.accs[i]? = some q → 9 ≤ i → 0 ≤ q.bal + sumAt es i - q.held ∧ q.bal + sumAt es i ≤ 1099511727775 ∧ freeN ⟨q.cur, q.bal + sumAt es i, q.held⟩ = q.bal + sumAt es i - q.held := fun i q hq h9 => by
      obtain ⟨-, -, q3⟩ := h.a i q hq
      obtain ⟨z1, z2, z3⟩ := q3 h9
      have bd : 0 ≤ q.bal + sumAt es i - q.held ∧ q.bal + sumAt es i ≤ 1099511727775 := by
        by_cases i1 : (i : Int) = p.src
        · rw [i1, e1]; omega
        · by_cases i2 : (i : Int) = p.dst
          · have : i = p.dst.toNat := by omega
            subst this
            obtain rfl : q = b := Option.some.inj (hq.symm.trans hb)
            rw [i2]; omega
          · rw [e3 i (by omega) i1 i2]; omega
      exact ⟨bd.1, bd.2, w64_of (by simp only; omega) (by simp only; omega)⟩
    obtain ⟨l, k1, k2, k3⟩ := postM_fit (X := 600000) (Y := 1099511627776) (by decide) (by decide) (accs_bound h) (fun e he => by rw [hl]; exact hes e he) (by omega) (by decide) c0 c1 c2 (fun i q hq h9 => by rw [(key i q hq h9).2.2]; have := (key i q hq h9).1; omega)
    refine ⟨l, k1, k2.trans hl, ?_, ?_⟩
    · rw [accAt_of (k3 _ _ ha), accAt_of ha]
      show a.bal + sumAt es ((p.src.toNat : Nat) : Int) = _
      rw [show ((p.src.toNat : Nat) : Int) = p.src by omega, e1]
    · rw [accAt_of (k3 _ _ hb), (key _ _ hb (by omega)).2.2]
      exact (key _ _ hb (by omega)).1
  have n1 : ¬ p.dst = p.src := fun e => hne e.symm
  have n2 : ¬ p.src = p.dst := hne
  split
  · rename_i hlk
    have wa : w64 (-g + (g - (b.bal - b.held))) = -(b.bal - b.held) := by rw [w64_of (by omega) (by omega)]; omega
    have wz : w64 (0 - (g - (b.bal - b.held))) = (b.bal - b.held) - g := by rw [w64_of (by omega) (by omega)]; omega
    rw [wa, wz]
    rcases hmid with ⟨rfl, rfl, hc⟩ | rfl
    · refine fin _ (by simp) ?_ ?_ ?_ ?_ ?_ ?_ ?_
      · intro e he
        simp only [List.nil_append, List.cons_append, List.mem_cons, List.not_mem_nil, or_false] at he
        rcases he with rfl | rfl | rfl <;> simp only <;> omega
      · simp only [curSum, List.nil_append, List.cons_append, cs, cd, cb2, hc]; split <;> omega
      · simp only [curSum, List.nil_append, List.cons_append, cs, cd, cb2, hc]; split <;> omega
      · simp only [curSum, List.nil_append, List.cons_append, cs, cd, cb2, hc]; split <;> omega
      · simp only [sumAt, List.nil_append, List.cons_append, if_neg n1, if_true]; rw [if_neg (by omega)]; omega
      · simp only [sumAt, List.nil_append, List.cons_append, if_neg n2, if_true]; rw [if_neg (by omega)]; omega
      · intro i h9 i1 i2
        simp only [sumAt, List.nil_append, List.cons_append]
        rw [if_neg (fun e => i2 e.symm), if_neg (fun e => i1 e.symm), if_neg (by omega)]; omega
    · refine fin _ (by simp) ?_ ?_ ?_ ?_ ?_ ?_ ?_
      · intro e he
        simp only [List.nil_append, List.cons_append, List.mem_cons, List.not_mem_nil, or_false] at he
        rcases he with rfl | rfl | rfl | rfl | rfl <;> simp only <;> omega
      · simp only [curSum, List.nil_append, List.cons_append, cs, cd, ca1, cb1, cb2]; split <;> split <;> omega
      · simp only [curSum, List.nil_append, List.cons_append, cs, cd, ca1, cb1, cb2]; split <;> split <;> omega
      · simp only [curSum, List.nil_append, List.cons_append, cs, cd, ca1, cb1, cb2]; split <;> split <;> omega
      · simp only [sumAt, List.nil_append, List.cons_append, if_neg n1, if_true]; rw [if_neg (by omega), if_neg (by omega), if_neg (by omega)]; omega
      · simp only [sumAt, List.nil_append, List.cons_append, if_neg n2, if_true]; rw [if_neg (by omega), if_neg (by omega), if_neg (by omega)]; omega
      · intro i h9 i1 i2
        simp only [sumAt, List.nil_append, List.cons_append]
        rw [if_neg (fun e => i2 e.symm), if_neg (by omega), if_neg (by omega), if_neg (fun e => i1 e.symm), if_neg (by omega)]; omega
  · rename_i hlk
    rcases hmid with ⟨rfl, rfl, hc⟩ | rfl
    · refine fin _ (by simp) ?_ ?_ ?_ ?_ ?_ ?_ ?_
      · intro e he
        simp only [List.nil_append, List.mem_cons, List.not_mem_nil, or_false] at he
        rcases he with rfl | rfl <;> simp only <;> omega
      · simp only [curSum, List.nil_append, cs, cd, hc]; split <;> omega
      · simp only [curSum, List.nil_append, cs, cd, hc]; split <;> omega
      · simp only [curSum, List.nil_append, cs, cd, hc]; split <;> omega
      · simp only [sumAt, List.nil_append, if_neg n1, if_true]; omega
      · simp only [sumAt, List.nil_append, if_neg n2, if_true]; omega
      · intro i h9 i1 i2
        simp only [sumAt, List.nil_append]
        rw [if_neg (fun e => i2 e.symm), if_neg (fun e => i1 e.symm)]; omega
    · refine fin _ (by simp) ?_ ?_ ?_ ?_ ?_ ?_ ?_
      · intro e he
        simp only [List.cons_append, List.nil_append, List.mem_cons, List.not_mem_nil, or_false] at he
        rcases he with rfl | rfl | rfl | rfl <;> simp only <;> omega
      · simp only [curSum, List.cons_append, List.nil_append, cs, cd, ca1, cb1]; split <;> split <;> omega
      · simp only [curSum, List.cons_append, List.nil_append, cs, cd, ca1, cb1]; split <;> split <;> omega
      · simp only [curSum, List.cons_append, List.nil_append, cs, cd, ca1, cb1]; split <;> split <;> omega
      · simp only [sumAt, List.cons_append, List.nil_append, if_neg n1, if_true]; rw [if_neg (by omega), if_neg (by omega)]; omega
      · simp only [sumAt, List.cons_append, List.nil_append, if_neg n2, if_true]; rw [if_neg (by omega), if_neg (by omega)]; omega
      · intro i h9 i1 i2
        simp only [sumAt, List.cons_append, List.nil_append]
        rw [if_neg (fun e => i2 e.symm), if_neg (by omega), if_neg (by omega), if_neg (fun e => i1 e.symm)]; omega
/-- A payment is charged back, or told why not. -/
theorem charge_law {s : Sta} (h : StaI s) {i : Nat} {p : Pay} (hp : s.pays[i]? = some p) {n : Int} (hn : 1 ≤ n ∧ n ≤ 256) :
    (∃ e, e ≠ 0 ∧ doM s ⟨0, 7, i, 0, n, 0, 0⟩ = (s, e, 0) ∧ (n > gave p ∨ (accAt s.accs p.src).cur ≠ (accAt s.accs p.dst).cur)) ∨
    ∃ l, doM s ⟨0, 7, i, 0, n, 0, 0⟩ = (⟨l, s.pays.set i (chaP p n), s.sags, s.kns, s.now⟩, 0, 0) ∧ l.length = 15 ∧ (accAt l p.src).bal = (accAt s.accs p.src).bal + n ∧ freeN (accAt l p.dst) ≥ 0 := by
  have hI := h.p p (List.mem_of_getElem? hp)
  have hil := (List.getElem?_eq_some_iff.1 hp).1
  have st : doM s ⟨0, 7, i, 0, n, 0, 0⟩ = chargeM s ⟨0, 7, i, 0, n, 0, 0⟩ := rfl
  rw [st]
  have hd : doP p 7 n = (if n < 1 then .error 1 else if n ≤ gave p then .ok (chaP p n) else .error 6) := rfl
  rw [if_neg (by omega)] at hd
  have hb : bothM s ⟨0, 7, i, 0, n, 0, 0⟩ = (match doP p 7 n with
      | .ok q => .ok (p, q)
      | .error e => .error e) := by
    unfold bothM
    rw [if_neg (by simp only; omega)]
    have e : ((i : Nat) : Int).toNat = i := by omega
    simp only [e, hp]
    cases doP p 7 n <;> rfl
  by_cases hg : n ≤ gave p
  · rw [if_pos hg] at hd
    simp only [hd] at hb
    unfold chargeM
    simp only [hb]
    have fin : ∀ es, backD s p n = .ok es → (∃ l, postM s.accs (lackE s p es) = .ok l ∧ l.length = 15 ∧ (accAt l p.src).bal = (accAt s.accs p.src).bal + n ∧ freeN (accAt l p.dst) ≥ 0) → ∃ l, (match backD s p n with
        | .error e => (s, e, 0)
        | .ok es => payD s i (chaP p n) (postM s.accs (lackE s p es))) = (⟨l, s.pays.set i (chaP p n), s.sags, s.kns, s.now⟩, 0, 0) ∧ l.length = 15 ∧ (accAt l p.src).bal = (accAt s.accs p.src).bal + n ∧ freeN (accAt l p.dst) ≥ 0 := fun es he ⟨l, k1, kl, k2, k3⟩ => by
      refine ⟨l, ?_, kl, k2, k3⟩
      simp only [he, k1, payD]
      have e : ((i : Nat) : Int).toNat = i := by omega
      rw [e]
    rcases move_cases h hI.s hI.d hI.ne (n := n) (by omega) with ⟨hc, hm⟩ | ⟨hc, ⟨e, e0, hm⟩ | ⟨g, g0, g1, hm⟩⟩
    · right
      have hbk : backD s p n = .ok (⟨p.dst, -n⟩ :: ([] ++ [⟨p.src, n⟩])) := by
        unfold backD
        simp only [hm, backM, negE, List.reverse_cons, List.reverse_nil, List.nil_append, List.cons_append, List.map_cons, List.map_nil]
        rw [w64_of (n := 0 - n) (by omega) (by omega), w64_of (n := 0 - -n) (by omega) (by omega)]
        simp
      exact fin _ hbk (back_post h hI (by omega) (by omega) (.inl ⟨rfl, rfl, hc⟩))
    · left
      refine ⟨e, e0, ?_, .inr hc⟩
      have hbk : backD s p n = .error e := by unfold backD; simp only [hm]
      simp only [hbk]
    · right
      have hbk : backD s p n = .ok (⟨p.dst, -g⟩ :: ([⟨3 * (accAt s.accs p.dst).cur + 1, g⟩, ⟨3 * (accAt s.accs p.src).cur + 1, -n⟩] ++ [⟨p.src, n⟩])) := by
        unfold backD
        simp only [hm, backM, negE, List.reverse_cons, List.reverse_nil, List.nil_append, List.cons_append, List.map_cons, List.map_nil]
        rw [w64_of (n := 0 - n) (by omega) (by omega), w64_of (n := 0 - -n) (by omega) (by omega), w64_of (n := 0 - g) (by omega) (by omega), w64_of (n := 0 - -g) (by omega) (by omega)]
        simp
      exact fin _ hbk (back_post h hI (by omega) ⟨g0, g1⟩ (.inr rfl))
  · rw [if_neg hg] at hd
    simp only [hd] at hb
    left
    refine ⟨6, by decide, ?_, .inl (by omega)⟩
    unfold chargeM
    simp only [hb]
end Go.Proofs.YtjffmldlkofpaaaGreatDoor.A

/- Plain: what a request leaves alone, and how long lists are behind it. -/
namespace Go.Proofs.YtjffmldlkofpaaaGreatDoor.A
open Go Q
theorem postGo_len : ∀ {es : List Ent} {al l : List Acc}, postGo al es = .ok l → l.length = al.length
  | [], al, l, h => by cases h; rfl
  | e :: es, al, l, h => by
    rw [postGo_cons] at h
    split at h
    · split at h
      · exact (postGo_len h).trans (List.length_set ..)
      · cases h
    · cases h
theorem postM_len {al l : List Acc} {es : List Ent} (h : postM al es = .ok l) : l.length = al.length := by
  unfold postM at h
  split at h
  · cases h
  · split at h
    · rename_i l' hl
      split at h
      · cases h
      · cases h; exact postGo_len hl
    · cases h
theorem spendM_len {al l : List Acc} {n : Int} {es : List Ent} (h : spendM al n es = .ok l) : l.length = al.length := by
  cases es with
  | nil => cases h
  | cons e es =>
    simp only [spendM] at h
    split at h
    · rename_i l' hl
      exact (postM_len h).trans (rel_len hl)
    · cases h
theorem holdM_len {al l : List Acc} {k n : Int} (h : holdM al k n = .ok l) : l.length = al.length := by
  unfold holdM at h
  repeat' split at h
  all_goals first | (cases h; done) | (cases h; simp)
/-- What every request keeps. -/
structure StepOk (s : Sta) (o : Sta × Rep) : Prop where
  err : o.2.1 ≠ 0 → o.1 = s
  la : s.accs.length ≤ o.1.accs.length ∧ o.1.accs.length ≤ s.accs.length + 1
  la64 : s.accs.length ≤ 64 → o.1.accs.length ≤ 64
  lp : s.pays.length ≤ o.1.pays.length ∧ o.1.pays.length ≤ s.pays.length + 1
  sags : o.1.sags = s.sags
  kns : o.1.kns = s.kns
  now : o.1.now = s.now
theorem step_same (s : Sta) (r : Rep) : StepOk s (s, r) := ⟨fun _ => rfl, ⟨Nat.le_refl _, Nat.le_succ _⟩, id, ⟨Nat.le_refl _, Nat.le_succ _⟩, rfl, rfl, rfl⟩
theorem step_took {s : Sta} {x : Except Int (List Acc)} (h : ∀ l, x = .ok l → l.length = s.accs.length) : StepOk s (tookM s x) := by
  cases x with
  | error e => exact step_same s _
  | ok l =>
    have hl := h l rfl
    exact ⟨fun h => absurd rfl h, by show s.accs.length ≤ l.length ∧ l.length ≤ _; omega, fun h => by show l.length ≤ 64; omega, ⟨Nat.le_refl _, Nat.le_succ _⟩, rfl, rfl, rfl⟩
theorem step_pay {s : Sta} {k : Int} {p : Pay} {x : Except Int (List Acc)} (h : ∀ l, x = .ok l → l.length = s.accs.length) : StepOk s (payD s k p x) := by
  cases x with
  | error e => exact step_same s _
  | ok l =>
    have hl := h l rfl
    refine ⟨fun h => absurd rfl h, by show s.accs.length ≤ l.length ∧ l.length ≤ _; omega, fun h => by show l.length ≤ 64; omega, ?_, rfl, rfl, rfl⟩
    show s.pays.length ≤ (s.pays.set k.toNat p).length ∧ (s.pays.set k.toNat p).length ≤ _
    rw [List.length_set]; omega
theorem step_post (s : Sta) (x y n : Int) : StepOk s (postD s x y n) := by
  unfold postD
  split
  · exact step_took fun l h => postM_len h
  · exact step_same s _
theorem doM_step (s : Sta) (r : Req) : StepOk s (doM s r) := by
  unfold doM
  split
  · unfold openM
    split
    · exact step_same s _
    · refine ⟨fun h => absurd rfl h, ?_, fun h => ?_, ⟨Nat.le_refl _, Nat.le_succ _⟩, rfl, rfl, rfl⟩
      · show s.accs.length ≤ (s.accs ++ [_]).length ∧ (s.accs ++ [_]).length ≤ _
        simp
      · show (s.accs ++ [_]).length ≤ 64
        simp; omega
  split
  · unfold depositM
    split
    · exact step_same s _
    · exact step_post ..
  split
  · unfold transferM
    split
    · exact step_same s _
    · exact step_post ..
  split
  · unfold authM
    split
    · exact step_same s _
    split
    · exact step_same s _
    split
    · exact step_same s _
    split
    · rename_i l hl
      have hl := holdM_len hl
      refine ⟨fun h => absurd rfl h, by show s.accs.length ≤ l.length ∧ l.length ≤ _; omega, fun h => by show l.length ≤ 64; omega, ?_, rfl, rfl, rfl⟩
      show s.pays.length ≤ (s.pays ++ [_]).length ∧ (s.pays ++ [_]).length ≤ _
      simp
    · exact step_same s _
  split
  · unfold captureM
    split
    · exact step_same s _
    split
    · exact step_same s _
    · exact step_pay fun l h => spendM_len h
  split
  · unfold voidM
    split
    · exact step_same s _
    · exact step_pay fun l h => rel_len h
  split
  · unfold refundM
    split
    · exact step_same s _
    split
    · exact step_same s _
    · exact step_pay fun l h => postM_len h
  split
  · unfold chargeM
    split
    · exact step_same s _
    split
    · exact step_same s _
    · exact step_pay fun l h => postM_len h
  · exact step_same s _
end Go.Proofs.YtjffmldlkofpaaaGreatDoor.A
