/- Plain: what a state by numbers is like; entries that are done. -/
import Derived.Test.YtmlgkojmbnjfbaaDoorM10
import Derived.Test.YtmlgkojmbnjfbaaDoorM7
namespace Go.Proofs.YtmlgkojmbnjfbaaDoor.A
open Go Q
/-- An account by its place: the house's first, each of its currency. m: how much less than nothing the house may have. -/
def AccI (m : Int) (i : Nat) (a : Acc) : Prop := (0 ≤ a.cur ∧ a.cur ≤ 2) ∧ (i < 9 → a.cur = (i / 3 : Nat) ∧ a.held = 0 ∧ -m ≤ a.bal ∧ a.bal ≤ 0) ∧ (9 ≤ i → 0 ≤ a.held ∧ a.held ≤ a.bal ∧ a.bal ≤ 99999)
def AllI (m : Int) (l : List Acc) : Prop := ∀ (i : Nat) (a : Acc), l[i]? = some a → AccI m i a
theorem allI_base : AllI 0 base9 := by
  intro i a h
  have hi : i < 9 := (List.getElem?_eq_some_iff.1 h).1
  have hc : i = 0 ∨ i = 1 ∨ i = 2 ∨ i = 3 ∨ i = 4 ∨ i = 5 ∨ i = 6 ∨ i = 7 ∨ i = 8 := by omega
  rcases hc with rfl | rfl | rfl | rfl | rfl | rfl | rfl | rfl | rfl <;> (cases h; exact ⟨⟨by decide, by decide⟩, fun _ => ⟨rfl, rfl, by decide, by decide⟩, fun h => absurd h (by decide)⟩)
theorem bal_in {has : List Int} (h : ∀ n ∈ has, 0 ≤ n) (k : Nat) : 0 ≤ balOf has k ∧ balOf has k ≤ 99999 := by
  unfold balOf
  split
  · rename_i v hv
    obtain ⟨a, b⟩ := tmod_in (h v (List.mem_of_getElem? hv)) (show (0 : Int) < 100000 by decide)
    rw [w64_of (by omega) (by omega)]
    omega
  · omega
theorem allI_step {has : List Int} (hh : ∀ n ∈ has, 0 ≤ n) {m : Int} (hm : 0 ≤ m ∧ m ≤ 1000000000) {al : List Acc} {k : Nat} {c : Int} (hc : u8I c) (hl : 9 ≤ al.length) (h : AllI m al) : AllI (m + 99999) (bookStep has al k c) := by
  obtain ⟨h0, h1, h2⟩ := cur_in hc
  obtain ⟨b0, b1⟩ := bal_in hh k
  unfold bookStep
  have hj : (w64 (3 * curOf c)).toNat < al.length := by rw [h2]; omega
  have hj9 : (w64 (3 * curOf c)).toNat < 9 := by rw [h2]; omega
  rw [List.getElem?_eq_getElem hj]
  intro i a ha
  simp only at ha
  by_cases hi : i < al.length
  · rw [List.getElem?_append_left (by rw [List.length_set]; exact hi), List.getElem?_set] at ha
    split at ha
    · rename_i hij
      subst hij
      first | rw [if_pos hj] at ha | skip
      cases ha
      obtain ⟨q1, q2, q3⟩ := h _ _ (List.getElem?_eq_getElem hj)
      obtain ⟨r1, r2, r3, r4⟩ := q2 hj9
      refine ⟨q1, fun _ => ⟨r1, r2, ?_, ?_⟩, fun h => absurd h (by omega)⟩
      · show -(m + 99999) ≤ w64 _
        rw [w64_of (by omega) (by omega)]; omega
      · show w64 _ ≤ 0
        rw [w64_of (by omega) (by omega)]; omega
    · obtain ⟨q1, q2, q3⟩ := h i a ha
      exact ⟨q1, fun h => ⟨(q2 h).1, (q2 h).2.1, by have := (q2 h).2.2; omega, (q2 h).2.2.2⟩, q3⟩
  · rw [List.getElem?_append_right (by rw [List.length_set]; omega), List.length_set] at ha
    have hi0 : i - al.length = 0 := by
      have := (List.getElem?_eq_some_iff.1 ha).1
      simp at this; omega
    rw [hi0] at ha
    cases ha
    exact ⟨⟨h0, h1⟩, fun h => absurd h (by omega), fun _ => ⟨Int.le_refl 0, b0, b1⟩⟩
theorem allI_go {has : List Int} (hh : ∀ n ∈ has, 0 ≤ n) : ∀ {cs : List Int} {al : List Acc} {k : Nat} {m : Int}, (∀ c ∈ cs, u8I c) → 0 ≤ m → m + 99999 * cs.length ≤ 1000000000 → 9 ≤ al.length → AllI m al → AllI (m + 99999 * cs.length) (bookGo has al k cs)
  | [], al, _, m, _, _, _, _, h => by
    have e : m + 99999 * (([] : List Int).length : Int) = m := by simp
    rw [e]; exact h
  | c :: cs, al, k, m, hc, h0, hm, hl, h => by
    rw [List.length_cons] at hm ⊢
    have hcs := hc c (List.mem_cons_self ..)
    have h1 := allI_step hh (k := k) ⟨h0, by omega⟩ hcs hl h
    have h2 := bookStep_len (has := has) (k := k) hcs hl
    have := allI_go hh (cs := cs) (k := k + 1) (fun x hx => hc x (List.mem_cons_of_mem _ hx)) (show 0 ≤ m + 99999 by omega) (by omega) (by omega) h1
    rw [bookGo_cons]
    have e : m + 99999 + 99999 * (cs.length : Int) = m + 99999 * ((cs.length + 1 : Nat) : Int) := by omega
    rw [← e]
    exact this
structure Book.Ok (b : Book) : Prop extends b.In where
  h : ∀ n ∈ b.has, 0 ≤ n
theorem allI_book {b : Book} (h : b.Ok) : AllI 600000 (bookL (curs6 b) b.has) := by
  have := allI_go h.h (cs := curs6 b) (al := base9) (k := 0) (m := 0) (curs6_in h.toIn) (Int.le_refl 0) (by rw [curs6_len]; decide) (by decide) allI_base
  rw [curs6_len] at this
  intro i a ha
  obtain ⟨q1, q2, q3⟩ := this i a ha
  exact ⟨q1, fun h => ⟨(q2 h).1, (q2 h).2.1, by have := (q2 h).2.2; omega, (q2 h).2.2.2⟩, q3⟩
/-- A payment of a state by numbers. -/
structure PayI (p : Pay) : Prop where
  s : 9 ≤ p.src ∧ p.src ≤ 14
  d : 9 ≤ p.dst ∧ p.dst ≤ 14
  ne : p.src ≠ p.dst
  a : 1 ≤ p.auth ∧ p.auth ≤ 256
  c : 0 ≤ p.capt ∧ p.capt ≤ p.auth
  r : 0 ≤ p.refu ∧ p.refu ≤ p.capt
  h : 0 ≤ p.chrg ∧ p.chrg ≤ p.capt - p.refu
  u : 0 ≤ p.til ∧ p.til ≤ 19
  t : p.stage = 0 ∨ p.stage = 1
  o : p.stage = 0 → p.capt < p.auth
theorem pay_paid {p : Paid} (hp : p.In) (hne : (paidP p).src ≠ (paidP p).dst) : PayI (paidP p) := by
  have ea := pdA_eq hp
  have h3 := hp.i3
  have hc := pdC_in hp
  have hr := pdR_in hp
  have hh := pdH_in hp
  obtain ⟨a1, a2⟩ := tmod_in hp.i1.1 (show (0 : Int) < 6 by decide)
  obtain ⟨b1, b2⟩ := tmod_in hp.i2.1 (show (0 : Int) < 6 by decide)
  obtain ⟨c1, c2⟩ := tmod_in hp.i7.1 (show (0 : Int) < 20 by decide)
  have es : (paidP p).src = 9 + p.src.tmod 6 := by
    show w64 (9 + w64 (p.src.tmod 6)) = _
    rw [w64_of (n := p.src.tmod 6) (by omega) (by omega), w64_of (by omega) (by omega)]
  have ed : (paidP p).dst = 9 + p.dst.tmod 6 := by
    show w64 (9 + w64 (p.dst.tmod 6)) = _
    rw [w64_of (n := p.dst.tmod 6) (by omega) (by omega), w64_of (by omega) (by omega)]
  have eu : (paidP p).til = p.til.tmod 20 := w64_of (by omega) (by omega)
  have et : (paidP p).stage = if p.closed = true ∨ pdC p = pdA p then 1 else 0 := rfl
  refine ⟨by omega, by omega, hne, ?_, hc, hr, hh, by omega, ?_, ?_⟩
  · show 1 ≤ pdA p ∧ pdA p ≤ 256
    omega
  · rw [et]; split <;> simp
  · intro h0
    rw [et] at h0
    split at h0
    · cases h0
    · rename_i hn
      show pdC p < pdA p
      have : ¬ pdC p = pdA p := fun e => hn (.inr e)
      omega
theorem free_of {m : Int} {i : Nat} {a : Acc} (h : AccI m i a) (h9 : 9 ≤ i) : freeN a = a.bal - a.held := by
  obtain ⟨-, -, h3⟩ := h
  obtain ⟨a1, a2, a3⟩ := h3 h9
  exact w64_of (by omega) (by omega)
theorem hold_allI {m : Int} {al l : List Acc} {k n : Int} (h : AllI m al) (hh : holdM al k n = .ok l) : AllI m l := by
  unfold holdM at hh
  split at hh
  · cases hh
  · rename_i hc
    split at hh
    · cases hh
    · rename_i hn
      split at hh
      · rename_i a ha
        split at hh
        · cases hh
        · rename_i hf
          cases hh
          obtain ⟨k9, -⟩ := is_of (by simpa using hc)
          obtain ⟨n1, n2⟩ := amountB_iff.1 (by simpa using hn)
          have hI := h _ _ ha
          have hk9 : 9 ≤ k.toNat := by omega
          rw [free_of hI hk9] at hf
          obtain ⟨q1, q2, q3⟩ := hI
          obtain ⟨a1, a2, a3⟩ := q3 hk9
          intro i b hb
          rw [List.getElem?_set] at hb
          split at hb
          · rename_i hij
            subst hij
            split at hb
            · cases hb
              refine ⟨q1, fun h => absurd h (by omega), fun _ => ?_⟩
              have hw : w64 (a.held + n) = a.held + n := w64_of (by omega) (by omega)
              show 0 ≤ w64 (a.held + n) ∧ w64 (a.held + n) ≤ a.bal ∧ a.bal ≤ 99999
              rw [hw]
              omega
            · cases hb
          · exact h i b hb
      · cases hh
/-- A state by numbers is right. -/
structure StaI (s : Sta) : Prop where
  l : s.accs.length = 15
  a : AllI 600000 s.accs
  p : ∀ p ∈ s.pays, PayI p
theorem put_I {t : List Acc × List Pay} {k : Nat} {p : Paid} (hp : p.In) (hl : t.1.length = 15) (ha : AllI 600000 t.1) (hP : ∀ p ∈ t.2, PayI p) : (putP t k p).1.length = 15 ∧ AllI 600000 (putP t k p).1 ∧ ∀ q ∈ (putP t k p).2, PayI q := by
  unfold putP
  split
  · exact ⟨hl, ha, hP⟩
  · rename_i hn
    have hI := pay_paid hp (fun e => hn (.inr e))
    have hmem : ∀ q ∈ t.2 ++ [paidP p], PayI q := fun q hq => by
      rcases List.mem_append.1 hq with hq | hq
      · exact hP q hq
      · rw [List.mem_singleton.1 hq]; exact hI
    split
    · cases hh : holdM t.1 (paidP p).src (left (paidP p)) with
      | ok l => exact ⟨(hold_len hh).trans hl, hold_allI ha hh, hmem⟩
      | error e => exact ⟨hl, ha, hP⟩
    · exact ⟨hl, ha, hmem⟩
theorem go_I : ∀ {ps : List Paid} {t : List Acc × List Pay} {k : Nat}, (∀ p ∈ ps, p.In) → t.1.length = 15 → AllI 600000 t.1 → (∀ p ∈ t.2, PayI p) → (putGo t k ps).1.length = 15 ∧ AllI 600000 (putGo t k ps).1 ∧ ∀ q ∈ (putGo t k ps).2, PayI q
  | [], _, _, _, hl, ha, hP => ⟨hl, ha, hP⟩
  | p :: ps, t, k, hp, hl, ha, hP => by
    obtain ⟨h1, h2, h3⟩ := put_I (k := k) (hp p (List.mem_cons_self ..)) hl ha hP
    rw [putGo_cons]
    exact go_I (fun q hq => hp q (List.mem_cons_of_mem _ hq)) h1 h2 h3
theorem state_I {b : Book} {ps : List Paid} (now : Int) (hb : b.Ok) (hp : ∀ p ∈ ps, p.In) : StaI (stateM b ps now) := by
  obtain ⟨h1, h2, h3⟩ := go_I (ps := ps) (t := (bookL (curs6 b) b.has, [])) (k := 0) hp (book15 hb.toIn) (allI_book hb) (fun p hp => by cases hp)
  exact ⟨h1, h2, h3⟩
theorem putGo_len : ∀ {ps : List Paid} {t : List Acc × List Pay} {k : Nat}, (putGo t k ps).2.length ≤ t.2.length + ps.length
  | [], _, _ => Nat.le_refl _
  | p :: ps, t, k => by
    rw [putGo_cons]
    have h := putGo_len (ps := ps) (t := putP t k p) (k := k + 1)
    have h2 : (putP t k p).2.length ≤ t.2.length + 1 := by
      unfold putP
      split
      · omega
      · split
        · split <;> simp
        · simp
    rw [List.length_cons]
    omega
theorem state_sz {b : Book} {ps : List Paid} (now : Int) (hb : b.Ok) (hp : ∀ p ∈ ps, p.In) (hl : ps.length ≤ 1999900) : SzA (stateM b ps now) := by
  have h := state_I now hb hp
  refine ⟨by rw [h.l]; decide, ?_⟩
  have := putGo_len (ps := ps) (t := (bookL (curs6 b) b.has, [])) (k := 0)
  have e : (stateM b ps now).pays.length = (putGo (bookL (curs6 b) b.has, []) 0 ps).2.length := rfl
  rw [e]
  simp at this
  omega
end Go.Proofs.YtmlgkojmbnjfbaaDoor.A
