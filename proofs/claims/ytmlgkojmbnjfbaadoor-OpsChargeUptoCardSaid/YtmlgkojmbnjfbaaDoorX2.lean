/- Plain: what is charged back. -/
import Derived.Test.YtmlgkojmbnjfbaaDoorX1
namespace Go.Proofs.YtmlgkojmbnjfbaaDoor.A
open Go Q
theorem free_lt {s : Sta} (h : StaI s) {k : Int} (h9 : 9 ≤ k ∧ k ≤ 14) : ∃ a, s.accs[k.toNat]? = some a ∧ (0 ≤ a.cur ∧ a.cur ≤ 2) ∧ 0 ≤ a.held ∧ a.held ≤ a.bal ∧ a.bal ≤ 99999 ∧ freeN a = a.bal - a.held := by
  have hk : k.toNat < s.accs.length := by rw [h.l]; omega
  have ha := List.getElem?_eq_getElem hk
  have hI := h.a _ _ ha
  obtain ⟨q1, q2, q3⟩ := hI
  obtain ⟨a1, a2, a3⟩ := q3 (by omega)
  exact ⟨_, ha, q1, a1, a2, a3, free_of (h.a _ _ ha) (by omega)⟩
theorem house_cur {s : Sta} (h : StaI s) {k : Int} (h9 : 0 ≤ k ∧ k < 9) : (accAt s.accs k).cur = (k.toNat / 3 : Nat) := by
  have hk : k.toNat < s.accs.length := by rw [h.l]; omega
  have ha := List.getElem?_eq_getElem hk
  obtain ⟨-, q2, -⟩ := h.a _ _ ha
  rw [accAt_of ha]
  exact (q2 (by omega)).1
theorem accs_bound {s : Sta} (h : StaI s) : ∀ (i : Nat) (a : Acc), s.accs[i]? = some a → (-600000 ≤ a.bal ∧ a.bal ≤ 600000) ∧ 0 ≤ a.cur ∧ a.cur ≤ 2 := fun i a ha => by
  obtain ⟨q1, q2, q3⟩ := h.a i a ha
  refine ⟨?_, q1⟩
  by_cases h9 : i < 9
  · have := q2 h9; omega
  · have := q3 (by omega); omega
theorem numK_of {k c : Int} (hk : 0 ≤ k ∧ k ≤ 2) (hc : 0 ≤ c ∧ c ≤ 2) : numK k c = 3 * c + k := by
  unfold numK
  rw [if_neg (by omega)]
/-- What Move makes of two clients. -/
theorem move_cases {s : Sta} (h : StaI s) {x y n : Int} (hx : 9 ≤ x ∧ x ≤ 14) (hy : 9 ≤ y ∧ y ≤ 14) (hne : x ≠ y) (hn : 1 ≤ n ∧ n ≤ 1099511627776) :
    ((accAt s.accs x).cur = (accAt s.accs y).cur ∧ moveM s.accs x y n = .ok [⟨x, -n⟩, ⟨y, n⟩]) ∨
    ((accAt s.accs x).cur ≠ (accAt s.accs y).cur ∧ ((∃ e, e ≠ 0 ∧ moveM s.accs x y n = .error e) ∨ ∃ g, 0 < g ∧ g ≤ 1099511627776 ∧ moveM s.accs x y n = .ok [⟨x, -n⟩, ⟨3 * (accAt s.accs x).cur + 1, n⟩, ⟨3 * (accAt s.accs y).cur + 1, -g⟩, ⟨y, g⟩])) := by
  obtain ⟨a, ha, ca, -⟩ := free_lt h hx
  obtain ⟨b, hb, cb, -⟩ := free_lt h hy
  have hl := h.l
  have o1 : (ofN s.accs.length x).2 = true := by unfold ofN; rw [hl, if_neg (by omega)]; split <;> rfl
  have o2 : (ofN s.accs.length y).2 = true := by unfold ofN; rw [hl, if_neg (by omega)]; split <;> rfl
  have hna : amountB n = true := amountB_iff.2 hn
  rw [accAt_of ha, accAt_of hb]
  unfold moveM
  rw [if_neg (by simp [o1, o2]), if_neg (by simp [hne, hna]), ha, hb]
  simp only
  by_cases hc : a.cur = b.cur
  · exact .inl ⟨hc, by rw [if_pos hc]⟩
  · refine .inr ⟨hc, ?_⟩
    rw [if_neg hc, numK_of (by decide) ca, numK_of (by decide) cb, if_neg (by omega)]
    cases hcv : convM n (rateN a.cur b.cur).1 (rateN a.cur b.cur).2 with
    | error e =>
      refine .inl ⟨e, ?_, rfl⟩
      unfold convM at hcv
      split at hcv
      · split at hcv
        · cases hcv; decide
        · cases hcv
      · cases hcv; decide
    | ok g =>
      obtain ⟨l1, l2⟩ := conv_le (x := g.1) (y := g.2) hcv
      simp only
      by_cases hg : g.1 = 0
      · rw [if_pos hg]; exact .inl ⟨1, by decide, rfl⟩
      · rw [if_neg hg]; exact .inr ⟨g.1, by omega, l2, rfl⟩
/-- What was paid goes back to the payer, whatever the seller has. -/
theorem back_post {s : Sta} (h : StaI s) {p : Pay} (hp : PayI p) {n g : Int} (hn : 1 ≤ n ∧ n ≤ 1099511627776) (hg : 0 < g ∧ g ≤ 1099511627776) {mid : List Ent}
    (hmid : (mid = [] ∧ g = n ∧ (accAt s.accs p.src).cur = (accAt s.accs p.dst).cur) ∨ mid = [⟨3 * (accAt s.accs p.dst).cur + 1, g⟩, ⟨3 * (accAt s.accs p.src).cur + 1, -n⟩]) :
    ∃ l, postM s.accs (lackE s p (⟨p.dst, -g⟩ :: (mid ++ [⟨p.src, n⟩]))) = .ok l ∧ l.length = 15 ∧ (accAt l p.src).bal = (accAt s.accs p.src).bal + n ∧ freeN (accAt l p.dst) ≥ 0 := by
  obtain ⟨a, ha, ca, a1, a2, a3, fa⟩ := free_lt h hp.s
  obtain ⟨b, hb, cb, b1, b2, b3, fb⟩ := free_lt h hp.d
  have hl := h.l
  have hs := hp.s
  have hd := hp.d
  have hne := hp.ne
  rw [accAt_of ha, accAt_of hb] at hmid
  have wg : w64 (0 - -g) = g := by rw [w64_of (by omega) (by omega)]; omega
  have wl : w64 (g - (b.bal - b.held)) = g - (b.bal - b.held) := w64_of (by omega) (by omega)
  have ca1 : (accAt s.accs (3 * a.cur + 1)).cur = a.cur := by rw [house_cur h (by omega)]; omega
  have cb1 : (accAt s.accs (3 * b.cur + 1)).cur = b.cur := by rw [house_cur h (by omega)]; omega
  have cb2 : (accAt s.accs (3 * b.cur + 2)).cur = b.cur := by rw [house_cur h (by omega)]; omega
  have cs : (accAt s.accs p.src).cur = a.cur := by rw [accAt_of ha]
  have cd : (accAt s.accs p.dst).cur = b.cur := by rw [accAt_of hb]
  rw [lackE_cons, accAt_of hb, fb, wg, wl, numK_of (by decide) cb]
  -- what is asked of either list
  have fin : ∀ es : List Ent, es.length ≤ 5 → (∀ e ∈ es, (0 ≤ e.acct ∧ e.acct < 15) ∧ -1099511627776 ≤ e.amt ∧ e.amt ≤ 1099511627776) → curSum s.accs es 0 = 0 → curSum s.accs es 1 = 0 → curSum s.accs es 2 = 0 → sumAt es p.src = n → (0 ≤ b.bal + sumAt es p.dst - b.held ∧ b.bal + sumAt es p.dst ≤ 99999) → (∀ i : Int, 9 ≤ i → i ≠ p.src → i ≠ p.dst → sumAt es i = 0) →
      ∃ l, postM s.accs es = .ok l ∧ l.length = 15 ∧ (accAt l p.src).bal = (accAt s.accs p.src).bal + n ∧ freeN (accAt l p.dst) ≥ 0 := fun es hlen hes c0 c1 c2 e1 e2 e3 => by
    have key : ∀ (i : Nat) (q : Acc), s.accs[i]? = some q → 9 ≤ i → 0 ≤ q.bal + sumAt es i - q.held ∧ q.bal + sumAt es i ≤ 1099511727775 ∧ freeN ⟨q.cur, q.bal + sumAt es i, q.held⟩ = q.bal + sumAt es i - q.held := fun i q hq h9 => by
      obtain ⟨-, -, q3⟩ := h.a i q hq
      obtain ⟨z1, z2, z3⟩ := q3 h9
      have bd : 0 ≤ q.bal + sumAt es i - q.held ∧ q.bal + sumAt es i ≤ 1099511727775 := by
        by_cases i1 : (i : Int) = p.src
        · rw [i1, e1]; omega
        · by_cases i2 : (i : Int) = p.dst
          · have : i = p.dst.toNat := by omega
            subst this
            obtain rfl : q = b := Option.some.inj (hq.symm.trans hb)
            rw [i2]; omega
          · rw [e3 i (by omega) i1 i2]; omega
      exact ⟨bd.1, bd.2, w64_of (by simp only; omega) (by simp only; omega)⟩
    obtain ⟨l, k1, k2, k3⟩ := postM_fit (X := 600000) (Y := 1099511627776) (by decide) (by decide) (accs_bound h) (fun e he => by rw [hl]; exact hes e he) (by omega) (by decide) c0 c1 c2 (fun i q hq h9 => by rw [(key i q hq h9).2.2]; have := (key i q hq h9).1; omega)
    refine ⟨l, k1, k2.trans hl, ?_, ?_⟩
    · rw [accAt_of (k3 _ _ ha), accAt_of ha]
      show a.bal + sumAt es ((p.src.toNat : Nat) : Int) = _
      rw [show ((p.src.toNat : Nat) : Int) = p.src by omega, e1]
    · rw [accAt_of (k3 _ _ hb), (key _ _ hb (by omega)).2.2]
      exact (key _ _ hb (by omega)).1
  have n1 : ¬ p.dst = p.src := fun e => hne e.symm
  have n2 : ¬ p.src = p.dst := hne
  split
  · rename_i hlk
    have wa : w64 (-g + (g - (b.bal - b.held))) = -(b.bal - b.held) := by rw [w64_of (by omega) (by omega)]; omega
    have wz : w64 (0 - (g - (b.bal - b.held))) = (b.bal - b.held) - g := by rw [w64_of (by omega) (by omega)]; omega
    rw [wa, wz]
    rcases hmid with ⟨rfl, rfl, hc⟩ | rfl
    · refine fin _ (by simp) ?_ ?_ ?_ ?_ ?_ ?_ ?_
      · intro e he
        simp only [List.nil_append, List.cons_append, List.mem_cons, List.not_mem_nil, or_false] at he
        rcases he with rfl | rfl | rfl <;> simp only <;> omega
      · simp only [curSum, List.nil_append, List.cons_append, cs, cd, cb2, hc]; split <;> omega
      · simp only [curSum, List.nil_append, List.cons_append, cs, cd, cb2, hc]; split <;> omega
      · simp only [curSum, List.nil_append, List.cons_append, cs, cd, cb2, hc]; split <;> omega
      · simp only [sumAt, List.nil_append, List.cons_append, if_neg n1, if_true]; rw [if_neg (by omega)]; omega
      · simp only [sumAt, List.nil_append, List.cons_append, if_neg n2, if_true]; rw [if_neg (by omega)]; omega
      · intro i h9 i1 i2
        simp only [sumAt, List.nil_append, List.cons_append]
        rw [if_neg (fun e => i2 e.symm), if_neg (fun e => i1 e.symm), if_neg (by omega)]; omega
    · refine fin _ (by simp) ?_ ?_ ?_ ?_ ?_ ?_ ?_
      · intro e he
        simp only [List.nil_append, List.cons_append, List.mem_cons, List.not_mem_nil, or_false] at he
        rcases he with rfl | rfl | rfl | rfl | rfl <;> simp only <;> omega
      · simp only [curSum, List.nil_append, List.cons_append, cs, cd, ca1, cb1, cb2]; split <;> split <;> omega
      · simp only [curSum, List.nil_append, List.cons_append, cs, cd, ca1, cb1, cb2]; split <;> split <;> omega
      · simp only [curSum, List.nil_append, List.cons_append, cs, cd, ca1, cb1, cb2]; split <;> split <;> omega
      · simp only [sumAt, List.nil_append, List.cons_append, if_neg n1, if_true]; rw [if_neg (by omega), if_neg (by omega), if_neg (by omega)]; omega
      · simp only [sumAt, List.nil_append, List.cons_append, if_neg n2, if_true]; rw [if_neg (by omega), if_neg (by omega), if_neg (by omega)]; omega
      · intro i h9 i1 i2
        simp only [sumAt, List.nil_append, List.cons_append]
        rw [if_neg (fun e => i2 e.symm), if_neg (by omega), if_neg (by omega), if_neg (fun e => i1 e.symm), if_neg (by omega)]; omega
  · rename_i hlk
    rcases hmid with ⟨rfl, rfl, hc⟩ | rfl
    · refine fin _ (by simp) ?_ ?_ ?_ ?_ ?_ ?_ ?_
      · intro e he
        simp only [List.nil_append, List.mem_cons, List.not_mem_nil, or_false] at he
        rcases he with rfl | rfl <;> simp only <;> omega
      · simp only [curSum, List.nil_append, cs, cd, hc]; split <;> omega
      · simp only [curSum, List.nil_append, cs, cd, hc]; split <;> omega
      · simp only [curSum, List.nil_append, cs, cd, hc]; split <;> omega
      · simp only [sumAt, List.nil_append, if_neg n1, if_true]; omega
      · simp only [sumAt, List.nil_append, if_neg n2, if_true]; omega
      · intro i h9 i1 i2
        simp only [sumAt, List.nil_append]
        rw [if_neg (fun e => i2 e.symm), if_neg (fun e => i1 e.symm)]; omega
    · refine fin _ (by simp) ?_ ?_ ?_ ?_ ?_ ?_ ?_
      · intro e he
        simp only [List.cons_append, List.nil_append, List.mem_cons, List.not_mem_nil, or_false] at he
        rcases he with rfl | rfl | rfl | rfl <;> simp only <;> omega
      · simp only [curSum, List.cons_append, List.nil_append, cs, cd, ca1, cb1]; split <;> split <;> omega
      · simp only [curSum, List.cons_append, List.nil_append, cs, cd, ca1, cb1]; split <;> split <;> omega
      · simp only [curSum, List.cons_append, List.nil_append, cs, cd, ca1, cb1]; split <;> split <;> omega
      · simp only [sumAt, List.cons_append, List.nil_append, if_neg n1, if_true]; rw [if_neg (by omega), if_neg (by omega)]; omega
      · simp only [sumAt, List.cons_append, List.nil_append, if_neg n2, if_true]; rw [if_neg (by omega), if_neg (by omega)]; omega
      · intro i h9 i1 i2
        simp only [sumAt, List.cons_append, List.nil_append]
        rw [if_neg (fun e => i2 e.symm), if_neg (by omega), if_neg (by omega), if_neg (fun e => i1 e.symm)]; omega
/-- A payment is charged back, or told why not. -/
theorem charge_law {s : Sta} (h : StaI s) {i : Nat} {p : Pay} (hp : s.pays[i]? = some p) {n : Int} (hn : 1 ≤ n ∧ n ≤ 256) :
    (∃ e, e ≠ 0 ∧ doM s ⟨0, 7, i, 0, n, 0, 0⟩ = (s, e, 0) ∧ (n > gave p ∨ (accAt s.accs p.src).cur ≠ (accAt s.accs p.dst).cur)) ∨
    ∃ l, doM s ⟨0, 7, i, 0, n, 0, 0⟩ = (⟨l, s.pays.set i (chaP p n), s.sags, s.kns, s.now⟩, 0, 0) ∧ l.length = 15 ∧ (accAt l p.src).bal = (accAt s.accs p.src).bal + n ∧ freeN (accAt l p.dst) ≥ 0 := by
  have hI := h.p p (List.mem_of_getElem? hp)
  have hil := (List.getElem?_eq_some_iff.1 hp).1
  have st : doM s ⟨0, 7, i, 0, n, 0, 0⟩ = chargeM s ⟨0, 7, i, 0, n, 0, 0⟩ := rfl
  rw [st]
  have hd : doP p 7 n = (if n < 1 then .error 1 else if n ≤ gave p then .ok (chaP p n) else .error 6) := rfl
  rw [if_neg (by omega)] at hd
  have hb : bothM s ⟨0, 7, i, 0, n, 0, 0⟩ = (match doP p 7 n with
      | .ok q => .ok (p, q)
      | .error e => .error e) := by
    unfold bothM
    rw [if_neg (by simp only; omega)]
    have e : ((i : Nat) : Int).toNat = i := by omega
    simp only [e, hp]
    cases doP p 7 n <;> rfl
  by_cases hg : n ≤ gave p
  · rw [if_pos hg] at hd
    simp only [hd] at hb
    unfold chargeM
    simp only [hb]
    have fin : ∀ es, backD s p n = .ok es → (∃ l, postM s.accs (lackE s p es) = .ok l ∧ l.length = 15 ∧ (accAt l p.src).bal = (accAt s.accs p.src).bal + n ∧ freeN (accAt l p.dst) ≥ 0) → ∃ l, (match backD s p n with
        | .error e => (s, e, 0)
        | .ok es => payD s i (chaP p n) (postM s.accs (lackE s p es))) = (⟨l, s.pays.set i (chaP p n), s.sags, s.kns, s.now⟩, 0, 0) ∧ l.length = 15 ∧ (accAt l p.src).bal = (accAt s.accs p.src).bal + n ∧ freeN (accAt l p.dst) ≥ 0 := fun es he ⟨l, k1, kl, k2, k3⟩ => by
      refine ⟨l, ?_, kl, k2, k3⟩
      simp only [he, k1, payD]
      have e : ((i : Nat) : Int).toNat = i := by omega
      rw [e]
    rcases move_cases h hI.s hI.d hI.ne (n := n) (by omega) with ⟨hc, hm⟩ | ⟨hc, ⟨e, e0, hm⟩ | ⟨g, g0, g1, hm⟩⟩
    · right
      have hbk : backD s p n = .ok (⟨p.dst, -n⟩ :: ([] ++ [⟨p.src, n⟩])) := by
        unfold backD
        simp only [hm, backM, negE, List.reverse_cons, List.reverse_nil, List.nil_append, List.cons_append, List.map_cons, List.map_nil]
        rw [w64_of (n := 0 - n) (by omega) (by omega), w64_of (n := 0 - -n) (by omega) (by omega)]
        simp
      exact fin _ hbk (back_post h hI (by omega) (by omega) (.inl ⟨rfl, rfl, hc⟩))
    · left
      refine ⟨e, e0, ?_, .inr hc⟩
      have hbk : backD s p n = .error e := by unfold backD; simp only [hm]
      simp only [hbk]
    · right
      have hbk : backD s p n = .ok (⟨p.dst, -g⟩ :: ([⟨3 * (accAt s.accs p.dst).cur + 1, g⟩, ⟨3 * (accAt s.accs p.src).cur + 1, -n⟩] ++ [⟨p.src, n⟩])) := by
        unfold backD
        simp only [hm, backM, negE, List.reverse_cons, List.reverse_nil, List.nil_append, List.cons_append, List.map_cons, List.map_nil]
        rw [w64_of (n := 0 - n) (by omega) (by omega), w64_of (n := 0 - -n) (by omega) (by omega), w64_of (n := 0 - g) (by omega) (by omega), w64_of (n := 0 - -g) (by omega) (by omega)]
        simp
      exact fin _ hbk (back_post h hI (by omega) ⟨g0, g1⟩ (.inr rfl))
  · rw [if_neg hg] at hd
    simp only [hd] at hb
    left
    refine ⟨6, by decide, ?_, .inl (by omega)⟩
    unfold chargeM
    simp only [hb]
end Go.Proofs.YtmlgkojmbnjfbaaDoor.A
