/- Plain: accounts that are right stay right: entries, holds. -/
import Derived.Test.YtjffmldlkofpaaaGreatDoorGF
import Derived.Test.YtjffmldlkofpaaaGreatDoorGH
import Derived.Test.YtjffmldlkofpaaaGreatDoorGE
namespace Go.Proofs.YtjffmldlkofpaaaGreatDoor.A
open Go Q
theorem beqT {a b : Int} (h : (a == b) = true) : a = b := by simpa using h
theorem beqF {a b : Int} (h : (a == b) = false) : ¬ a = b := by simpa using h
theorem bneT {a b : Int} (h : (a != b) = true) : ¬ a = b := by simpa using h
theorem bneF {a b : Int} (h : (a != b) = false) : a = b := by simpa using h
theorem decT {p : Prop} {d : Decidable p} (h : @decide p d = true) : p := of_decide_eq_true h
theorem decF {p : Prop} {d : Decidable p} (h : @decide p d = false) : ¬ p := of_decide_eq_false h
/-! ### sums of lists -/
def sumI : List Int → Int
  | [] => 0
  | x :: xs => x + sumI xs
theorem sumI_append : ∀ (l m : List Int), sumI (l ++ m) = sumI l + sumI m
  | [], m => by simp [sumI]
  | x :: xs, m => by rw [List.cons_append, sumI, sumI, sumI_append xs m]; omega
theorem sumI_set {α : Type} (f : α → Int) : ∀ {l : List α} {k : Nat} {x : α} (y : α), l[k]? = some x → sumI ((l.set k y).map f) = sumI (l.map f) - f x + f y
  | [], _, _, _, h => by simp at h
  | z :: l, 0, x, y, h => by
    obtain rfl : z = x := by simpa using h
    simp only [List.set_cons_zero, List.map_cons, sumI]; omega
  | z :: l, k + 1, x, y, h => by
    have := sumI_set f (l := l) (k := k) y (by simpa using h)
    simp only [List.set_cons_succ, List.map_cons, sumI]; omega
theorem sumI_nonneg {α : Type} (f : α → Int) : ∀ {l : List α}, (∀ x ∈ l, 0 ≤ f x) → 0 ≤ sumI (l.map f)
  | [], _ => by simp [sumI]
  | x :: l, h => by
    have h1 := h x (List.mem_cons_self ..)
    have h2 := sumI_nonneg f (l := l) fun y hy => h y (List.mem_cons_of_mem _ hy)
    simp only [List.map_cons, sumI]; omega
theorem sumI_mem {α : Type} (f : α → Int) : ∀ {l : List α} {x : α}, (∀ x ∈ l, 0 ≤ f x) → x ∈ l → f x ≤ sumI (l.map f)
  | [], _, _, h => by cases h
  | y :: l, x, h, hx => by
    have h2 := sumI_nonneg f (l := l) fun y hy => h y (List.mem_cons_of_mem _ hy)
    have h1 := h y (List.mem_cons_self ..)
    simp only [List.map_cons, sumI]
    rcases List.mem_cons.1 hx with rfl | hx
    · omega
    · have := sumI_mem f (fun y hy => h y (List.mem_cons_of_mem _ hy)) hx; omega
theorem sumI_take {α : Type} (f : α → Int) {l : List α} (h : ∀ x ∈ l, 0 ≤ f x) (j : Nat) : sumI ((l.take j).map f) ≤ sumI (l.map f) := by
  have e : sumI (l.map f) = sumI ((l.take j).map f) + sumI ((l.drop j).map f) := by
    rw [← sumI_append, ← List.map_append, List.take_append_drop]
  have := sumI_nonneg f (l := l.drop j) fun x hx => h x (List.mem_of_mem_drop hx)
  omega
theorem sumI_congr {α : Type} {f g : α → Int} {l : List α} (h : ∀ x ∈ l, f x = g x) : sumI (l.map f) = sumI (l.map g) := by
  rw [List.map_congr_left h]
/-! ### accounts -/
def balIn (c : Int) (a : Acc) : Int := if a.cur = c then a.bal else 0
def curBal (l : List Acc) (c : Int) : Int := sumI (l.map (balIn c))
abbrev BalB (n : Int) : Prop := -1125899906842624 ≤ n ∧ n ≤ 1125899906842624
structure AccR (i : Nat) (a : Acc) : Prop where
  c : 0 ≤ a.cur ∧ a.cur ≤ 2
  b : BalB a.bal
  h : i < 9 → a.cur = (i / 3 : Nat) ∧ a.held = 0
  g : 9 ≤ i → 0 ≤ a.held ∧ a.held ≤ a.bal
structure Acs (l : List Acc) : Prop where
  n : 9 ≤ l.length
  ok : ∀ (i : Nat) (a : Acc), l[i]? = some a → AccR i a
  sum : ∀ c, 0 ≤ c → c ≤ 2 → curBal l c = 0
theorem AccR.held {i : Nat} {a : Acc} (h : AccR i a) : 0 ≤ a.held ∧ a.held ≤ 1125899906842624 := by
  by_cases h9 : i < 9
  · have := (h.h h9).2; omega
  · have := h.g (by omega); have := h.b; omega
theorem AccR.free {i : Nat} {a : Acc} (h : AccR i a) : freeN a = a.bal - a.held := by
  have h1 := h.held
  have h2 := h.b
  exact w64_of (by omega) (by omega)
theorem addM_val {a b s : Int} (h : addM a b = .ok s) : s = a + b ∧ BalB a ∧ BalB b ∧ BalB s := by
  unfold addM at h
  split at h
  · rename_i hh
    cases h
    exact ⟨rfl, mayB_iff.1 hh.1, mayB_iff.1 hh.2.1, mayB_iff.1 hh.2.2⟩
  · cases h
theorem curSum_set {al : List Acc} {k : Nat} {a a' : Acc} (ha : al[k]? = some a) (hc : a'.cur = a.cur) : ∀ (es : List Ent) (c : Int), curSum (al.set k a') es c = curSum al es c
  | [], _ => rfl
  | e :: es, c => by
    simp only [curSum]
    rw [curSum_set ha hc es c]
    have : (accAt (al.set k a') e.acct).cur = (accAt al e.acct).cur := by
      unfold accAt
      by_cases hk : k = e.acct.toNat
      · rw [List.getElem?_set, if_pos hk, if_pos (List.getElem?_eq_some_iff.1 ha).1, ← hk, ha]
        exact hc
      · rw [List.getElem?_set, if_neg hk]
    rw [this]
theorem postGo_spec : ∀ {es : List Ent} {al l : List Acc}, postGo al es = .ok l → (∀ (i : Nat) (a : Acc), al[i]? = some a → ∃ b, l[i]? = some ⟨a.cur, b, a.held⟩ ∧ (BalB a.bal → BalB b)) ∧ ∀ c, curBal l c = curBal al c + curSum al es c
  | [], al, l, h => by
    cases h
    exact ⟨fun i a h => ⟨a.bal, h, id⟩, fun c => by simp [curSum]⟩
  | e :: es, al, l, h => by
    rw [postGo_cons] at h
    split at h
    · rename_i a ha
      split at h
      · rename_i n hn
        obtain ⟨rfl, h1, h2, h3⟩ := addM_val hn
        obtain ⟨q1, q2⟩ := postGo_spec h
        refine ⟨fun i x hx => ?_, fun c => ?_⟩
        · by_cases hi : e.acct.toNat = i
          · subst hi
            obtain rfl : a = x := Option.some.inj (ha.symm.trans hx)
            obtain ⟨b, hb, hB⟩ := q1 e.acct.toNat ⟨a.cur, a.bal + e.amt, a.held⟩ (by rw [List.getElem?_set, if_pos rfl, if_pos (List.getElem?_eq_some_iff.1 ha).1])
            exact ⟨b, hb, fun _ => hB h3⟩
          · exact q1 i x (by rw [List.getElem?_set, if_neg hi]; exact hx)
        · rw [q2 c, curSum_set ha (by rfl)]
          unfold curBal
          rw [sumI_set (balIn c) _ ha]
          simp only [curSum, accAt_of ha, balIn]
          split <;> omega
      · cases h
    · cases h
theorem balGo_sum {al : List Acc} : ∀ {es : List Ent} {t t' : Tri}, balGo al t es = some t' → t'.1 = t.1 + curSum al es 0 ∧ t'.2.1 = t.2.1 + curSum al es 1 ∧ t'.2.2 = t.2.2 + curSum al es 2
  | [], t, t', h => by cases h; simp [curSum]
  | e :: es, t, t', h => by
    rw [balGo_cons] at h
    split at h
    · rename_i t1 ht
      obtain ⟨q0, q1, q2⟩ := balGo_sum h
      unfold balStep at ht
      split at ht
      · cases ht
      · split at ht
        · cases ht
        · rename_i a ha
          rw [q0, q1, q2]
          simp only [curSum, accAt_of ha]
          split at ht
          · rename_i hc
            split at ht
            · rename_i s hs
              obtain ⟨rfl, -⟩ := addM_val hs
              cases ht
              simp [hc]; omega
            · cases ht
          · split at ht
            · rename_i hc
              split at ht
              · rename_i s hs
                obtain ⟨rfl, -⟩ := addM_val hs
                cases ht
                simp [hc]; omega
              · cases ht
            · split at ht
              · rename_i hc
                split at ht
                · rename_i s hs
                  obtain ⟨rfl, -⟩ := addM_val hs
                  cases ht
                  simp [hc]; omega
                · cases ht
              · cases ht
    · cases h
theorem balM_sum {al : List Acc} {es : List Ent} (h : balM al es = true) : ∀ c, 0 ≤ c → c ≤ 2 → curSum al es c = 0 := by
  unfold balM at h
  split at h
  · rename_i t ht
    obtain ⟨q0, q1, q2⟩ := balGo_sum ht
    simp at h
    intro c h0 h2
    have hc : c = 0 ∨ c = 1 ∨ c = 2 := by omega
    rcases hc with rfl | rfl | rfl <;> simp at q0 q1 q2 <;> omega
  · cases h
/-- Entries that are done leave accounts right; currencies and holds are as they were. -/
theorem postM_acs {al l : List Acc} {es : List Ent} (hA : Acs al) (h : postM al es = .ok l) : Acs l ∧ l.length = al.length ∧ ∀ (i : Nat) (a : Acc), al[i]? = some a → ∃ b, l[i]? = some ⟨a.cur, b, a.held⟩ := by
  have hlen := postM_len h
  unfold postM at h
  split at h
  · cases h
  · rename_i hb
    split at h
    · rename_i l' hl
      split at h
      · cases h
      · rename_i hlk
        cases h
        obtain ⟨q1, q2⟩ := postGo_spec hl
        have back : ∀ (i : Nat) (x : Acc), l[i]? = some x → ∃ a, al[i]? = some a ∧ x.cur = a.cur ∧ x.held = a.held ∧ (BalB a.bal → BalB x.bal) := fun i x hx => by
          have hi : i < al.length := by rw [← hlen]; exact (List.getElem?_eq_some_iff.1 hx).1
          obtain ⟨b, h1, h2⟩ := q1 i _ (List.getElem?_eq_getElem hi)
          obtain rfl := Option.some.inj (h1.symm.trans hx)
          exact ⟨_, List.getElem?_eq_getElem hi, rfl, rfl, h2⟩
        refine ⟨⟨by rw [hlen]; exact hA.n, fun i x hx => ?_, fun c h0 h2 => ?_⟩, hlen, fun i a ha => ?_⟩
        · obtain ⟨a, ha, e1, e2, e3⟩ := back i x hx
          have hr := hA.ok i a ha
          have hB := e3 hr.b
          refine ⟨by rw [e1]; exact hr.c, hB, fun h => by rw [e1, e2]; exact hr.h h, fun h9 => ?_⟩
          have hh := hr.held
          have hf : ¬ freeN x < 0 := fun hf => by rw [lacks_at hx h9 hf] at hlk; exact hlk rfl
          have e : freeN x = x.bal - x.held := w64_of (by omega) (by omega)
          rw [e] at hf
          omega
        · rw [q2 c, hA.sum c h0 h2, balM_sum (by simpa using hb) c h0 h2]; rfl
        · obtain ⟨b, h1, -⟩ := q1 i a ha
          exact ⟨b, h1⟩
    · cases h
/-- An account whose hold is another one. -/
theorem hold_acs {al : List Acc} {k : Nat} {a : Acc} {h' : Int} (hA : Acs al) (ha : al[k]? = some a) (h9 : 9 ≤ k) (h0 : 0 ≤ h' ∧ h' ≤ a.bal) : Acs (al.set k ⟨a.cur, a.bal, h'⟩) := by
  have hr := hA.ok k a ha
  refine ⟨by rw [List.length_set]; exact hA.n, fun i x hx => ?_, fun c c0 c2 => ?_⟩
  · rw [List.getElem?_set] at hx
    split at hx
    · rename_i hk
      split at hx
      · cases hx
        exact ⟨hr.c, hr.b, fun h => absurd h (by omega), fun _ => h0⟩
      · cases hx
    · exact hA.ok i x hx
  · unfold curBal
    rw [sumI_set (balIn c) _ ha]
    have := hA.sum c c0 c2
    unfold curBal at this
    simp only [balIn]
    rw [this]; omega
theorem holdM_spec {al l : List Acc} {k n : Int} (hA : Acs al) (h : holdM al k n = .ok l) : (9 ≤ k ∧ k < al.length) ∧ (1 ≤ n ∧ n ≤ 1099511627776) ∧ ∃ a, al[k.toNat]? = some a ∧ a.held + n ≤ a.bal ∧ l = al.set k.toNat ⟨a.cur, a.bal, a.held + n⟩ ∧ Acs l := by
  unfold holdM at h
  split at h
  · cases h
  · rename_i hc
    obtain ⟨k9, kl⟩ := is_of (by simpa using hc)
    split at h
    · cases h
    · rename_i hn
      obtain ⟨n1, n2⟩ := amountB_iff.1 (by simpa using hn)
      split at h
      · rename_i a ha
        have hr := hA.ok _ a ha
        rw [hr.free] at h
        have hg := hr.g (by omega)
        have hb := hr.b
        split at h
        · cases h
        · rename_i hf
          have e : w64 (a.held + n) = a.held + n := w64_of (by omega) (by omega)
          rw [e] at h
          cases h
          exact ⟨⟨k9, kl⟩, ⟨n1, n2⟩, a, ha, by omega, rfl, hold_acs hA ha (by omega) (by omega)⟩
      · cases h
theorem relM_spec {al l : List Acc} {k n : Int} (hA : Acs al) (h : relM al k n = .ok l) : (9 ≤ k ∧ k < al.length) ∧ (1 ≤ n ∧ n ≤ 1099511627776) ∧ ∃ a, al[k.toNat]? = some a ∧ n ≤ a.held ∧ l = al.set k.toNat ⟨a.cur, a.bal, a.held - n⟩ ∧ Acs l := by
  unfold relM at h
  split at h
  · cases h
  · rename_i hc
    obtain ⟨k9, kl⟩ := is_of (by simpa using hc)
    split at h
    · cases h
    · rename_i hn
      obtain ⟨n1, n2⟩ := amountB_iff.1 (by simpa using hn)
      split at h
      · rename_i a ha
        have hr := hA.ok _ a ha
        have hg := hr.g (by omega)
        have hb := hr.b
        split at h
        · cases h
        · rename_i hf
          have e : w64 (a.held - n) = a.held - n := w64_of (by omega) (by omega)
          rw [e] at h
          cases h
          exact ⟨⟨k9, kl⟩, ⟨n1, n2⟩, a, ha, by omega, rfl, hold_acs hA ha (by omega) (by omega)⟩
      · cases h
theorem isCl_of {n k : Int} (h : 9 ≤ k ∧ k < n) : isCl n k = true := by simp [isCl, h.1, h.2]
theorem relM_go {al : List Acc} {k n : Int} {a : Acc} (hA : Acs al) (h9 : 9 ≤ k) (hn : 1 ≤ n ∧ n ≤ 1099511627776) (ha : al[k.toNat]? = some a) (hh : n ≤ a.held) : relM al k n = .ok (al.set k.toNat ⟨a.cur, a.bal, a.held - n⟩) := by
  have hl := (List.getElem?_eq_some_iff.1 ha).1
  have hr := hA.ok _ a ha
  have hg := hr.g (by omega)
  have hb := hr.b
  unfold relM
  rw [if_neg (by rw [isCl_of (by omega)]; decide), if_neg (by rw [amountB_iff.2 hn]; decide), ha]
  simp only
  rw [if_neg (by omega), w64_of (by omega) (by omega)]
theorem rightL_of {l : List Acc} (hA : Acs l) (h : l.length ≤ 64) : rightL l = true := by
  have hn := hA.n
  unfold rightL
  have : allI 0 l = true := allI_yes fun i a ha => by
    have hr := hA.ok i a ha
    obtain ⟨c0, c2⟩ := hr.c
    obtain ⟨b0, b2⟩ := hr.b
    unfold accOk
    simp
    refine ⟨⟨⟨⟨by omega, by omega⟩, by omega⟩, by omega⟩, ?_⟩
    by_cases h9 : i < 9
    · obtain ⟨h1, h2⟩ := hr.h h9
      refine ⟨.inr ⟨?_, h2⟩, .inl (by omega)⟩
      rw [w64_of (by omega) (by omega)]; omega
    · have := hr.g (by omega)
      exact ⟨.inl (by omega), .inr (by omega)⟩
  rw [this]
  simp; omega
end Go.Proofs.YtjffmldlkofpaaaGreatDoor.A

/- Plain: whatever is asked for, accounts stay right, payments too, and what is held is held for payments (and sagas). -/
namespace Go.Proofs.YtjffmldlkofpaaaGreatDoor.A
open Go Q
def leftN (p : Pay) : Int := if p.stage = 0 then p.auth - p.capt else 0
def leftAt (i : Int) (p : Pay) : Int := if p.src = i then leftN p else 0
def heldP (ps : List Pay) (i : Int) : Int := sumI (ps.map (leftAt i))
def amtAt (i : Int) (g : Sag) : Int := if g.req.a = i then g.req.amt else 0
def heldG (gs : List Sag) (i : Int) : Int := sumI (gs.map (amtAt i))
structure PayR (n : Nat) (p : Pay) : Prop where
  s : 9 ≤ p.src ∧ p.src < n
  d : 9 ≤ p.dst ∧ p.dst < n
  ne : p.src ≠ p.dst
  a : 1 ≤ p.auth ∧ p.auth ≤ 1099511627776
  c : 0 ≤ p.capt ∧ p.capt ≤ p.auth
  r : 0 ≤ p.refu
  h : 0 ≤ p.chrg ∧ p.refu + p.chrg ≤ p.capt
  u : 0 ≤ p.til ∧ p.til ≤ 1073741824
  t : p.stage = 0 ∨ p.stage = 1
  o : p.stage = 0 → p.capt < p.auth
structure GoodA (s : Sta) : Prop where
  acs : Acs s.accs
  pay : ∀ p ∈ s.pays, PayR s.accs.length p
  sga : ∀ g ∈ s.sags, (9 ≤ g.req.a ∧ g.req.a < s.accs.length) ∧ 1 ≤ g.req.amt ∧ g.req.amt ≤ 1099511627776
  hold : ∀ (i : Nat) (a : Acc), s.accs[i]? = some a → 9 ≤ i → a.held = heldP s.pays i + heldG s.sags i
  now : 0 ≤ s.now ∧ s.now ≤ 1073741824
structure ReqR (r : Req) : Prop where
  o : r.op = 0 → 0 ≤ r.a ∧ r.a ≤ 2
  u : r.til ≤ 1073741824
theorem PayR.leftE {n : Nat} {p : Pay} (h : PayR n p) : left p = leftN p ∧ 0 ≤ leftN p ∧ leftN p ≤ 1099511627776 := by
  have h1 := h.a
  have h2 := h.c
  unfold left leftN
  split
  · exact ⟨w64_of (by omega) (by omega), by omega, by omega⟩
  · exact ⟨rfl, by omega, by omega⟩
theorem PayR.gave {n : Nat} {p : Pay} (h : PayR n p) : gave p = p.capt - p.refu - p.chrg := by
  have h1 := h.a
  have h2 := h.c
  have h3 := h.r
  have h4 := h.h
  unfold A.gave
  rw [w64_of (n := p.capt - p.refu) (by omega) (by omega), w64_of (by omega) (by omega)]
theorem PayR.more {n m : Nat} {p : Pay} (h : PayR n p) (hm : n ≤ m) : PayR m p := ⟨⟨h.s.1, by have := h.s; omega⟩, ⟨h.d.1, by have := h.d; omega⟩, h.ne, h.a, h.c, h.r, h.h, h.u, h.t, h.o⟩
theorem PayR.right {n : Nat} {p : Pay} (h : PayR n p) : rightP p = true := by
  have g := h.gave
  obtain ⟨a1, a2⟩ := h.a
  obtain ⟨c1, c2⟩ := h.c
  have r1 := h.r
  obtain ⟨h1, h2⟩ := h.h
  obtain ⟨u1, u2⟩ := h.u
  unfold rightP
  rw [g]
  rcases h.t with t | t <;> simp [t] <;> omega
theorem leftAt_nonneg {n : Nat} {p : Pay} (h : PayR n p) (i : Int) : 0 ≤ leftAt i p := by
  unfold leftAt
  split
  · exact h.leftE.2.1
  · omega
theorem heldP_set {ps : List Pay} {k : Nat} {p : Pay} (q : Pay) (h : ps[k]? = some p) (i : Int) : heldP (ps.set k q) i = heldP ps i - leftAt i p + leftAt i q := sumI_set (leftAt i) q h
theorem heldP_snoc (ps : List Pay) (q : Pay) (i : Int) : heldP (ps ++ [q]) i = heldP ps i + leftAt i q := by
  unfold heldP
  rw [List.map_append, sumI_append]
  simp [sumI]
theorem heldP_zero {n : Nat} {ps : List Pay} (h : ∀ p ∈ ps, PayR n p) {i : Int} (hi : (n : Int) ≤ i ∨ i < 9) : heldP ps i = 0 := by
  unfold heldP
  rw [sumI_congr (g := fun _ => 0)]
  · clear h
    induction ps with
    | nil => rfl
    | cons x l ih => simp [sumI, ih]
  · intro p hp
    have := (h p hp).s
    unfold leftAt
    rw [if_neg (by omega)]
theorem heldG_zero {n : Nat} {gs : List Sag} (h : ∀ g ∈ gs, (9 ≤ g.req.a ∧ g.req.a < n)) {i : Int} (hi : (n : Int) ≤ i ∨ i < 9) : heldG gs i = 0 := by
  unfold heldG
  rw [sumI_congr (g := fun _ => 0)]
  · clear h
    induction gs with
    | nil => rfl
    | cons x l ih => simp [sumI, ih]
  · intro g hg
    have := h g hg
    unfold amtAt
    rw [if_neg (by omega)]
theorem GoodA.heldG0 {s : Sta} (h : GoodA s) (i : Int) : 0 ≤ heldG s.sags i := by
  refine sumI_nonneg _ fun g hg => ?_
  have := h.sga g hg
  unfold amtAt
  split <;> omega
theorem GoodA.heldP0 {s : Sta} (h : GoodA s) (i : Int) : 0 ≤ heldP s.pays i := sumI_nonneg _ fun p hp => leftAt_nonneg (h.pay p hp) i
/-- What is held of an account is no less than what one payment holds. -/
theorem GoodA.left_le {s : Sta} (h : GoodA s) {p : Pay} (hp : p ∈ s.pays) {a : Acc} (ha : s.accs[p.src.toNat]? = some a) : leftN p ≤ a.held := by
  have hs := (h.pay p hp).s
  have h1 := h.hold _ a ha (by omega)
  have e : ((p.src.toNat : Nat) : Int) = p.src := by omega
  rw [e] at h1
  have h2 := sumI_mem (leftAt p.src) (fun q hq => leftAt_nonneg (h.pay q hq) p.src) hp
  have h3 : leftAt p.src p = leftN p := by unfold leftAt; rw [if_pos rfl]
  have h4 := h.heldG0 p.src
  unfold heldP at h1
  omega
theorem GoodA.amt_le {s : Sta} (h : GoodA s) {g : Sag} (hg : g ∈ s.sags) {a : Acc} (ha : s.accs[g.req.a.toNat]? = some a) : g.req.amt ≤ a.held := by
  have hs := h.sga g hg
  have h1 := h.hold _ a ha (by omega)
  have e : ((g.req.a.toNat : Nat) : Int) = g.req.a := by omega
  rw [e] at h1
  have h2 := sumI_mem (amtAt g.req.a) (fun q hq => by have := h.sga q hq; unfold amtAt; split <;> omega) hg
  have h3 : amtAt g.req.a g = g.req.amt := by unfold amtAt; rw [if_pos rfl]
  have h4 := h.heldP0 g.req.a
  unfold heldG at h1
  omega
/-- Accounts that differ in balances alone. -/
theorem good_accs {s : Sta} (h : GoodA s) {l : List Acc} (hl : l.length = s.accs.length) (hA : Acs l) (hh : ∀ (i : Nat) (a : Acc), s.accs[i]? = some a → ∃ b, l[i]? = some ⟨a.cur, b, a.held⟩) : GoodA (withA s l) := by
  refine ⟨hA, fun p hp => ?_, fun g hg => ?_, fun i a ha h9 => ?_, h.now⟩
  · show PayR l.length p
    rw [hl]; exact h.pay p hp
  · show (9 ≤ g.req.a ∧ g.req.a < l.length) ∧ _
    rw [hl]; exact h.sga g hg
  · have ha : l[i]? = some a := ha
    have hi : i < s.accs.length := by rw [← hl]; exact (List.getElem?_eq_some_iff.1 ha).1
    obtain ⟨b, hb⟩ := hh i _ (List.getElem?_eq_getElem hi)
    obtain rfl := Option.some.inj (hb.symm.trans ha)
    have := h.hold i _ (List.getElem?_eq_getElem hi) h9
    exact this
/-- A payment that becomes another one, with what is held for it. -/
theorem good_pay {s : Sta} (h : GoodA s) {k : Nat} {p q : Pay} (hp : s.pays[k]? = some p) (hq : PayR s.accs.length q) {l : List Acc} (hl : l.length = s.accs.length) (hA : Acs l)
    (hh : ∀ (i : Nat) (a : Acc), s.accs[i]? = some a → 9 ≤ i → ∃ x, l[i]? = some x ∧ x.held = a.held - leftAt i p + leftAt i q) : GoodA (withP (withA s l) (s.pays.set k q)) := by
  refine ⟨hA, fun x hx => ?_, fun g hg => ?_, fun i a ha h9 => ?_, h.now⟩
  · show PayR l.length x
    rw [hl]
    rcases List.mem_or_eq_of_mem_set hx with hx | rfl
    · exact h.pay x hx
    · exact hq
  · show (9 ≤ g.req.a ∧ g.req.a < l.length) ∧ _
    rw [hl]; exact h.sga g hg
  · have ha : l[i]? = some a := ha
    have hi : i < s.accs.length := by rw [← hl]; exact (List.getElem?_eq_some_iff.1 ha).1
    obtain ⟨x, hx, e⟩ := hh i _ (List.getElem?_eq_getElem hi) h9
    obtain rfl := Option.some.inj (hx.symm.trans ha)
    have := h.hold i _ (List.getElem?_eq_getElem hi) h9
    show x.held = heldP (s.pays.set k q) i + heldG s.sags i
    rw [heldP_set q hp, e, this]; omega
theorem good_post {s : Sta} (h : GoodA s) (x y n : Int) : GoodA (postD s x y n).1 := by
  unfold postD
  split
  · rename_i es _
    cases hp : postM s.accs es with
    | error e => exact h
    | ok l =>
      obtain ⟨h1, h2, h3⟩ := postM_acs h.acs hp
      exact good_accs h h2 h1 h3
  · exact h
theorem move_head {al : List Acc} {x y n : Int} {es : List Ent} (h : moveM al x y n = .ok es) : ∃ e l, es = e :: l ∧ e.acct = x ∧ 1 ≤ n ∧ n ≤ 1099511627776 ∧ x ≠ y := by
  unfold moveM at h
  split at h
  · cases h
  · split at h
    · cases h
    · rename_i hn
      have hne : x ≠ y := fun e => hn (.inl e)
      obtain ⟨n1, n2⟩ := amountB_iff.1 (show amountB n = true by simpa using fun e => hn (.inr e))
      repeat' split at h
      all_goals first | (cases h; done) | (cases h; exact ⟨_, _, rfl, rfl, n1, n2, hne⟩)
theorem heldAt_of {a : Acc} {p q : Pay} {i : Nat} {d : Int} (h : ((i : Int) = p.src → d = leftN q - leftN p) ∧ (¬ (i : Int) = p.src → d = 0)) (hs : q.src = p.src) : a.held + d = a.held - leftAt i p + leftAt i q := by
  unfold leftAt
  rw [hs]
  by_cases hi : p.src = (i : Int)
  · rw [if_pos hi, if_pos hi, h.1 hi.symm]; omega
  · rw [if_neg hi, if_neg hi, h.2 (fun e => hi e.symm)]; omega
theorem good_do {s : Sta} (h : GoodA s) {r : Req} (hr : ReqR r) : GoodA (doM s r).1 := by
  unfold doM
  split
  · rename_i ho
    obtain ⟨a0, a2⟩ := hr.o ho
    unfold openM
    split
    · exact h
    · have hlen : (s.accs ++ [(⟨r.a, 0, 0⟩ : Acc)]).length = s.accs.length + 1 := by simp
      refine ⟨⟨by show 9 ≤ (s.accs ++ [(⟨r.a, 0, 0⟩ : Acc)]).length; have := h.acs.n; omega, fun i a ha => ?_, fun c c0 c2 => ?_⟩, fun p hp => ?_, fun g hg => ?_, fun i a ha h9 => ?_, h.now⟩
      · have ha : (s.accs ++ [(⟨r.a, 0, 0⟩ : Acc)])[i]? = some a := ha
        rw [List.getElem?_append] at ha
        split at ha
        · exact h.acs.ok i a ha
        · have := h.acs.n
          have hi : i - s.accs.length = 0 := by
            have := (List.getElem?_eq_some_iff.1 ha).1
            simp at this; omega
          rw [hi] at ha
          cases ha
          exact ⟨⟨a0, a2⟩, ⟨show (-1125899906842624 : Int) ≤ 0 by decide, show (0 : Int) ≤ 1125899906842624 by decide⟩, fun h => absurd h (by omega), fun _ => ⟨Int.le_refl 0, Int.le_refl 0⟩⟩
      · show curBal (s.accs ++ [(⟨r.a, 0, 0⟩ : Acc)]) c = 0
        have := h.acs.sum c c0 c2
        unfold curBal at this ⊢
        rw [List.map_append, sumI_append, this]
        simp [sumI, balIn]
      · show PayR (s.accs ++ [(⟨r.a, 0, 0⟩ : Acc)]).length p
        rw [hlen]; exact (h.pay p hp).more (by omega)
      · show (9 ≤ g.req.a ∧ g.req.a < (s.accs ++ [(⟨r.a, 0, 0⟩ : Acc)]).length) ∧ _
        rw [hlen]
        have := h.sga g hg
        exact ⟨⟨this.1.1, by omega⟩, this.2⟩
      · have ha : (s.accs ++ [(⟨r.a, 0, 0⟩ : Acc)])[i]? = some a := ha
        rw [List.getElem?_append] at ha
        split at ha
        · exact h.hold i a ha h9
        · rename_i hi
          have hi0 : i - s.accs.length = 0 := by
            have := (List.getElem?_eq_some_iff.1 ha).1
            simp at this; omega
          rw [hi0] at ha
          cases ha
          show 0 = heldP s.pays i + heldG s.sags i
          rw [heldP_zero h.pay (.inl (by omega)), heldG_zero (fun g hg => (h.sga g hg).1) (.inl (by omega))]; rfl
  split
  · unfold depositM
    split
    · exact h
    · exact good_post h ..
  split
  · unfold transferM
    split
    · exact h
    · exact good_post h ..
  split
  · unfold authM
    split
    · exact h
    · rename_i hcl
      have hcl : isCl s.accs.length r.a = true ∧ isCl s.accs.length r.b = true := by simpa using hcl
      split
      · exact h
      · rename_i hn
        split
        · exact h
        split
        · rename_i l hl
          obtain ⟨⟨k9, kl⟩, ⟨n1, n2⟩, a, ha, hle, rfl, hA⟩ := holdM_spec h.acs hl
          obtain ⟨b9, bl⟩ := is_of hcl.2
          have hnw := h.now
          have hu := hr.u
          have hq : PayR s.accs.length ⟨r.a, r.b, r.amt, 0, 0, 0, r.til, 0⟩ := ⟨⟨k9, kl⟩, ⟨b9, bl⟩, fun e => hn (.inl e), ⟨n1, n2⟩, ⟨Int.le_refl 0, by show 0 ≤ r.amt; omega⟩, Int.le_refl 0, ⟨Int.le_refl 0, Int.le_refl 0⟩, ⟨by show 0 ≤ r.til; omega, hu⟩, .inl rfl, fun _ => by show 0 < r.amt; omega⟩
          refine ⟨hA, fun p hp => ?_, fun g hg => ?_, fun i x hx h9 => ?_, h.now⟩
          · show PayR (s.accs.set _ _).length p
            rw [List.length_set]
            rcases List.mem_append.1 hp with hp | hp
            · exact h.pay p hp
            · rw [List.mem_singleton.1 hp]; exact hq
          · show (9 ≤ g.req.a ∧ g.req.a < (s.accs.set _ _).length) ∧ _
            rw [List.length_set]; exact h.sga g hg
          · have hx : (s.accs.set r.a.toNat ⟨a.cur, a.bal, a.held + r.amt⟩)[i]? = some x := hx
            show x.held = heldP (s.pays ++ [⟨r.a, r.b, r.amt, 0, 0, 0, r.til, 0⟩]) i + heldG s.sags i
            rw [heldP_snoc]
            rw [List.getElem?_set] at hx
            split at hx
            · rename_i hi
              split at hx
              · cases hx
                have := h.hold _ a ha (by omega)
                subst hi
                have e : ((r.a.toNat : Nat) : Int) = r.a := by omega
                rw [e] at this ⊢
                have e2 : leftAt r.a ⟨r.a, r.b, r.amt, 0, 0, 0, r.til, 0⟩ = r.amt := by simp [leftAt, leftN]
                rw [e2]
                show a.held + r.amt = _
                rw [this]; omega
              · cases hx
            · rename_i hi
              have := h.hold i x hx h9
              have e2 : leftAt (i : Int) ⟨r.a, r.b, r.amt, 0, 0, 0, r.til, 0⟩ = 0 := by
                unfold leftAt
                rw [if_neg (show ¬ r.a = (i : Int) by omega)]
              rw [e2, this]; omega
        · exact h
  split
  · rename_i ho
    unfold captureM
    split
    · exact h
    · rename_i pq hb
      obtain ⟨p, q⟩ := pq
      obtain ⟨a0, a1, hp, hd⟩ := both_in hb
      have hP := h.pay p (List.mem_of_getElem? hp)
      split
      · exact h
      · rename_i es hm
        obtain ⟨e, el, rfl, he, n1, n2, hne⟩ := move_head hm
        simp only at he hne
        rw [ho] at hd
        unfold doP at hd
        rw [if_pos rfl, if_neg (by omega)] at hd
        split at hd
        · rename_i hlt
          cases hd
          rw [hP.leftE.1] at hlt
          have hst : p.stage = 0 := by
            rcases hP.t with t | t
            · exact t
            · unfold leftN at hlt; rw [if_neg (by omega)] at hlt; omega
          have hlN : leftN p = p.auth - p.capt := by unfold leftN; rw [if_pos hst]
          have hc := hP.c
          have ha := hP.a
          have ew : w64 (p.capt + r.amt) = p.capt + r.amt := w64_of (by omega) (by omega)
          have hq : PayR s.accs.length (capP p r.amt) := by
            unfold capP
            rw [ew]
            have := hP.h
            have := hP.r
            refine ⟨hP.s, hP.d, hP.ne, hP.a, ⟨by show 0 ≤ p.capt + r.amt; omega, by show p.capt + r.amt ≤ p.auth; omega⟩, hP.r, ⟨hP.h.1, by show p.refu + p.chrg ≤ p.capt + r.amt; omega⟩, hP.u, ?_, ?_⟩
            · show (if _ then _ else _) = (0 : Int) ∨ (if _ then _ else _) = (1 : Int)
              split
              · exact .inr rfl
              · exact .inl hst
            · intro h0
              show p.capt + r.amt < p.auth
              by_cases hE : p.capt + r.amt = p.auth
              · rw [if_pos hE] at h0; cases h0
              · omega
          have hlq : leftN (capP p r.amt) = leftN p - r.amt := by
            unfold capP leftN
            simp only
            rw [ew, hst]
            by_cases hE : p.capt + r.amt = p.auth
            · rw [if_pos hE, if_neg (by decide), if_pos rfl]; omega
            · rw [if_neg hE, if_pos rfl]; simp; omega
          cases hsp : spendM s.accs r.amt (e :: el) with
          | error x => exact h
          | ok l =>
            simp only [spendM] at hsp
            split at hsp
            · rename_i l1 hr1
              obtain ⟨⟨k9, kl⟩, -, x, hx, hle, rfl, hA1⟩ := relM_spec h.acs hr1
              obtain ⟨hA2, hlen, hh⟩ := postM_acs hA1 hsp
              rw [List.length_set] at hlen
              refine good_pay h hp hq hlen hA2 fun i a ha9 h9 => ?_
              by_cases hi : e.acct.toNat = i
              · obtain ⟨b, hb2⟩ := hh i ⟨x.cur, x.bal, x.held - r.amt⟩ (by rw [List.getElem?_set, if_pos hi, if_pos (by omega)])
                refine ⟨_, hb2, ?_⟩
                have hxa : x = a := by rw [hi] at hx; exact Option.some.inj (hx.symm.trans ha9)
                subst hxa
                have := heldAt_of (a := x) (p := p) (q := capP p r.amt) (i := i) (d := - r.amt) ⟨fun _ => by rw [hlq]; omega, fun hne => absurd (by omega) hne⟩ rfl
                show x.held - r.amt = _
                omega
              · obtain ⟨b, hb2⟩ := hh i a (by rw [List.getElem?_set, if_neg hi]; exact ha9)
                refine ⟨_, hb2, ?_⟩
                have := heldAt_of (a := a) (p := p) (q := capP p r.amt) (i := i) (d := 0) ⟨fun hE => absurd (by omega) hi, fun _ => rfl⟩ rfl
                show a.held = _
                omega
            · cases hsp
        · cases hd
  split
  · rename_i ho
    unfold voidM
    split
    · exact h
    · rename_i pq hb
      obtain ⟨p, q⟩ := pq
      obtain ⟨a0, a1, hp, hd⟩ := both_in hb
      have hP := h.pay p (List.mem_of_getElem? hp)
      rw [ho] at hd
      unfold doP at hd
      rw [if_neg (by decide), if_neg (by decide), if_neg (by decide), if_pos rfl] at hd
      split at hd
      · rename_i hst
        cases hd
        have hq : PayR s.accs.length (shuP p) := ⟨hP.s, hP.d, hP.ne, hP.a, hP.c, hP.r, hP.h, hP.u, .inr rfl, fun h0 => by cases h0⟩
        have hlq : leftN (shuP p) = 0 := by unfold leftN shuP; exact if_neg (show ¬ (1 : Int) = 0 by decide)
        simp only
        rw [hP.leftE.1]
        cases hrl : relM s.accs p.src (leftN p) with
        | error x => exact h
        | ok l =>
          obtain ⟨⟨k9, kl⟩, -, x, hx, hle, rfl, hA1⟩ := relM_spec h.acs hrl
          refine good_pay h hp hq (List.length_set ..) hA1 fun i a ha9 h9 => ?_
          by_cases hi : p.src.toNat = i
          · refine ⟨_, by rw [List.getElem?_set, if_pos hi, if_pos (by omega)], ?_⟩
            have hxa : x = a := by rw [hi] at hx; exact Option.some.inj (hx.symm.trans ha9)
            subst hxa
            have := heldAt_of (a := x) (p := p) (q := shuP p) (i := i) (d := - leftN p) ⟨fun _ => by rw [hlq]; omega, fun hne => absurd (by omega) hne⟩ rfl
            show x.held - leftN p = _
            omega
          · refine ⟨a, by rw [List.getElem?_set, if_neg hi]; exact ha9, ?_⟩
            have := heldAt_of (a := a) (p := p) (q := shuP p) (i := i) (d := 0) ⟨fun hE => absurd (by omega) hi, fun _ => rfl⟩ rfl
            omega
      · cases hd
  have back : ∀ {p q : Pay} {es : List Ent}, bothM s r = .ok (p, q) → PayR s.accs.length q → q.src = p.src → leftN q = leftN p → GoodA (payD s r.a q (postM s.accs es)).1 := by
    intro p q es hb hq hs hl
    obtain ⟨a0, a1, hp, hd⟩ := both_in hb
    cases hpo : postM s.accs es with
    | error x => exact h
    | ok l =>
      obtain ⟨h1, h2, h3⟩ := postM_acs h.acs hpo
      refine good_pay h hp hq h2 h1 fun i a ha9 h9 => ?_
      obtain ⟨b, hb2⟩ := h3 i a ha9
      refine ⟨_, hb2, ?_⟩
      have := heldAt_of (a := a) (p := p) (q := q) (i := i) (d := 0) ⟨fun hE => by omega, fun _ => rfl⟩ hs
      show a.held = _
      omega
  split
  · rename_i ho
    unfold refundM
    split
    · exact h
    · rename_i pq hb
      obtain ⟨p, q⟩ := pq
      obtain ⟨a0, a1, hp, hd⟩ := both_in hb
      have hP := h.pay p (List.mem_of_getElem? hp)
      split
      · exact h
      · rename_i es hm
        rw [ho] at hd
        unfold doP at hd
        rw [if_neg (by decide), if_pos rfl] at hd
        split at hd
        · cases hd
        · split at hd
          · rename_i hn hg
            cases hd
            rw [hP.gave] at hg
            have hh := hP.h
            have hc := hP.c
            have ha := hP.a
            have hr0 := hP.r
            have ew : w64 (p.refu + r.amt) = p.refu + r.amt := w64_of (by omega) (by omega)
            refine back hb ?_ rfl rfl
            unfold refP
            rw [ew]
            exact ⟨hP.s, hP.d, hP.ne, hP.a, hP.c, by show 0 ≤ p.refu + r.amt; omega, ⟨hh.1, by show p.refu + r.amt + p.chrg ≤ p.capt; omega⟩, hP.u, hP.t, hP.o⟩
          · cases hd
  split
  · rename_i ho
    unfold chargeM
    split
    · exact h
    · rename_i pq hb
      obtain ⟨p, q⟩ := pq
      obtain ⟨a0, a1, hp, hd⟩ := both_in hb
      have hP := h.pay p (List.mem_of_getElem? hp)
      split
      · exact h
      · rename_i es hm
        rw [ho] at hd
        unfold doP at hd
        rw [if_neg (by decide), if_neg (by decide), if_pos rfl] at hd
        split at hd
        · cases hd
        · split at hd
          · rename_i hn hg
            cases hd
            rw [hP.gave] at hg
            have hh := hP.h
            have hc := hP.c
            have ha := hP.a
            have hr0 := hP.r
            have ew : w64 (p.chrg + r.amt) = p.chrg + r.amt := w64_of (by omega) (by omega)
            refine back hb ?_ rfl rfl
            unfold chaP
            rw [ew]
            exact ⟨hP.s, hP.d, hP.ne, hP.a, hP.c, hP.r, ⟨by show 0 ≤ p.chrg + r.amt; omega, by show p.refu + (p.chrg + r.amt) ≤ p.capt; omega⟩, hP.u, hP.t, hP.o⟩
          · cases hd
  · exact h
end Go.Proofs.YtjffmldlkofpaaaGreatDoor.A

/- Plain: a state by numbers is good. -/
namespace Go.Proofs.YtjffmldlkofpaaaGreatDoor.A
open Go Q
theorem allI_R {m : Int} {i : Nat} {a : Acc} (h : AccI m i a) (hm : m ≤ 1000000000) : AccR i a := by
  obtain ⟨h1, h2, h3⟩ := h
  refine ⟨h1, ?_, fun h => ⟨(h2 h).1, (h2 h).2.1⟩, fun h => ⟨(h3 h).1, (h3 h).2.1⟩⟩
  by_cases h9 : i < 9
  · have := h2 h9; constructor <;> omega
  · have := h3 (by omega); constructor <;> omega
theorem bookStep_sum {has : List Int} (hh : ∀ n ∈ has, 0 ≤ n) {m : Int} (hm : 0 ≤ m ∧ m ≤ 1000000000) {al : List Acc} {k : Nat} {c : Int} (hc : u8I c) (hl : 9 ≤ al.length) (h : AllI m al) (hz : ∀ a ∈ al, a.held = 0) :
    (∀ x, curBal (bookStep has al k c) x = curBal al x) ∧ ∀ a ∈ bookStep has al k c, a.held = 0 := by
  obtain ⟨h0, h1, h2⟩ := cur_in hc
  obtain ⟨b0, b1⟩ := bal_in hh k
  unfold bookStep
  have hj : (w64 (3 * curOf c)).toNat < al.length := by rw [h2]; omega
  have hj9 : (w64 (3 * curOf c)).toNat < 9 := by rw [h2]; omega
  obtain ⟨a, ha⟩ : ∃ a, al[(w64 (3 * curOf c)).toNat]? = some a := ⟨_, List.getElem?_eq_getElem hj⟩
  rw [ha]
  obtain ⟨q1, q2, -⟩ := h _ _ ha
  obtain ⟨r1, r2, r3, r4⟩ := q2 hj9
  have ec : a.cur = curOf c := by rw [r1, h2]; omega
  refine ⟨fun x => ?_, fun y hm => ?_⟩
  · simp only [curBal, List.map_append, sumI_append]
    rw [sumI_set (balIn x) _ ha]
    simp only [List.map_cons, List.map_nil, sumI, balIn]
    rw [ec, w64_of (by omega) (by omega)]
    split <;> omega
  · rcases List.mem_append.1 hm with hm | hm
    · rcases List.mem_or_eq_of_mem_set hm with hm | rfl
      · exact hz y hm
      · exact r2
    · rw [List.mem_singleton.1 hm]
theorem bookGo_sum {has : List Int} (hh : ∀ n ∈ has, 0 ≤ n) : ∀ {cs : List Int} {al : List Acc} {k : Nat} {m : Int}, (∀ c ∈ cs, u8I c) → 0 ≤ m → m + 99999 * cs.length ≤ 1000000000 → 9 ≤ al.length → AllI m al → (∀ a ∈ al, a.held = 0) → (∀ x, curBal (bookGo has al k cs) x = curBal al x) ∧ ∀ a ∈ bookGo has al k cs, a.held = 0
  | [], al, _, m, _, _, _, _, _, hz => ⟨fun _ => rfl, hz⟩
  | c :: cs, al, k, m, hc, h0, hm, hl, h, hz => by
    rw [List.length_cons] at hm
    have hcs := hc c (List.mem_cons_self ..)
    have h1 := allI_step hh (k := k) ⟨h0, by omega⟩ hcs hl h
    have h2 := bookStep_len (has := has) (k := k) hcs hl
    obtain ⟨s1, s2⟩ := bookStep_sum hh (k := k) ⟨h0, by omega⟩ hcs hl h hz
    obtain ⟨t1, t2⟩ := bookGo_sum hh (cs := cs) (k := k + 1) (fun x hx => hc x (List.mem_cons_of_mem _ hx)) (show 0 ≤ m + 99999 by omega) (by omega) (by omega) h1 s2
    rw [bookGo_cons]
    exact ⟨fun x => (t1 x).trans (s1 x), t2⟩
theorem book_acs {b : Book} (h : b.Ok) : Acs (bookL (curs6 b) b.has) ∧ ∀ a ∈ bookL (curs6 b) b.has, a.held = 0 := by
  have hA := allI_book h
  have h15 := book15 h.toIn
  obtain ⟨s1, s2⟩ := bookGo_sum h.h (cs := curs6 b) (al := base9) (k := 0) (m := 0) (curs6_in h.toIn) (Int.le_refl 0) (by rw [curs6_len]; decide) (by decide) allI_base (by decide)
  exact ⟨⟨by rw [h15]; decide, fun i a ha => allI_R (hA i a ha) (by decide), fun c c0 c2 => by
    have hc : c = 0 ∨ c = 1 ∨ c = 2 := by omega
    have := s1 c
    rw [bookL, this]
    rcases hc with rfl | rfl | rfl <;> decide⟩, s2⟩
theorem payI_R {p : Pay} (h : PayI p) : PayR 15 p := ⟨⟨h.s.1, by have := h.s; omega⟩, ⟨h.d.1, by have := h.d; omega⟩, h.ne, ⟨h.a.1, by have := h.a; omega⟩, h.c, h.r.1, ⟨h.h.1, by have := h.h; omega⟩, ⟨h.u.1, by have := h.u; omega⟩, h.t, h.o⟩
/-- One payment more, with what is held for it. -/
theorem good_snoc {s : Sta} (h : GoodA s) {q : Pay} (hq : PayR s.accs.length q) {l : List Acc} (hl : l.length = s.accs.length) (hA : Acs l)
    (hh : ∀ (i : Nat) (a : Acc), s.accs[i]? = some a → 9 ≤ i → ∃ x, l[i]? = some x ∧ x.held = a.held + leftAt i q) : GoodA (withP (withA s l) (s.pays ++ [q])) := by
  refine ⟨hA, fun x hx => ?_, fun g hg => ?_, fun i a ha h9 => ?_, h.now⟩
  · show PayR l.length x
    rw [hl]
    rcases List.mem_append.1 hx with hx | hx
    · exact h.pay x hx
    · rw [List.mem_singleton.1 hx]; exact hq
  · show (9 ≤ g.req.a ∧ g.req.a < l.length) ∧ _
    rw [hl]; exact h.sga g hg
  · have ha : l[i]? = some a := ha
    have hi : i < s.accs.length := by rw [← hl]; exact (List.getElem?_eq_some_iff.1 ha).1
    obtain ⟨x, hx, e⟩ := hh i _ (List.getElem?_eq_getElem hi) h9
    obtain rfl := Option.some.inj (hx.symm.trans ha)
    have := h.hold i _ (List.getElem?_eq_getElem hi) h9
    show x.held = heldP (s.pays ++ [q]) i + heldG s.sags i
    rw [heldP_snoc, e, this]; omega
theorem put_good {t : List Acc × List Pay} {k : Nat} {p : Paid} {now : Int} (hp : p.In) (h15 : t.1.length = 15) (h : GoodA ⟨t.1, t.2, [], [], now⟩) : (putP t k p).1.length = 15 ∧ GoodA ⟨(putP t k p).1, (putP t k p).2, [], [], now⟩ := by
  unfold putP
  split
  · exact ⟨h15, h⟩
  · rename_i hn
    have hP := payI_R (pay_paid hp (fun e => hn (.inr e)))
    have hP' : PayR t.1.length (paidP p) := by rw [h15]; exact hP
    split
    · rename_i hl
      split
      · rename_i l hh
        rw [hP.leftE.1] at hh
        obtain ⟨⟨k9, kl⟩, -, a, ha, hle, rfl, hA⟩ := holdM_spec h.acs hh
        refine ⟨(List.length_set ..).trans h15, ?_⟩
        refine good_snoc h hP' (List.length_set ..) hA fun i x hx h9 => ?_
        by_cases hi : (paidP p).src.toNat = i
        · refine ⟨_, by rw [List.getElem?_set, if_pos hi, if_pos (by show _ < t.1.length; have := hP'.s; omega)], ?_⟩
          have hxa : a = x := by rw [hi] at ha; exact Option.some.inj (ha.symm.trans hx)
          subst hxa
          unfold leftAt
          rw [if_pos (by omega)]
        · refine ⟨x, by rw [List.getElem?_set, if_neg hi]; exact hx, ?_⟩
          unfold leftAt
          rw [if_neg (by omega)]; omega
      · exact ⟨h15, h⟩
    · rename_i hl
      rw [hP.leftE.1] at hl
      refine ⟨h15, good_snoc h hP' rfl h.acs fun i x hx h9 => ⟨x, hx, ?_⟩⟩
      have := hP.leftE.2.1
      unfold leftAt
      split <;> omega
theorem go_good {now : Int} : ∀ {ps : List Paid} {t : List Acc × List Pay} {k : Nat}, (∀ p ∈ ps, p.In) → t.1.length = 15 → GoodA ⟨t.1, t.2, [], [], now⟩ → GoodA ⟨(putGo t k ps).1, (putGo t k ps).2, [], [], now⟩
  | [], _, _, _, _, h => h
  | p :: ps, t, k, hp, h15, h => by
    obtain ⟨h1, h2⟩ := put_good (k := k) (hp p (List.mem_cons_self ..)) h15 h
    rw [putGo_cons]
    exact go_good (fun q hq => hp q (List.mem_cons_of_mem _ hq)) h1 h2
theorem state_good {b : Book} {ps : List Paid} {now : Int} (hb : b.Ok) (hp : ∀ p ∈ ps, p.In) (hn : 0 ≤ now) : GoodA (stateM b ps now) := by
  obtain ⟨hA, hz⟩ := book_acs hb
  obtain ⟨n0, n1⟩ := tmod_in hn (show (0 : Int) < 12 by decide)
  have hw : w64 (now.tmod 12) = now.tmod 12 := w64_of (by omega) (by omega)
  refine go_good hp (book15 hb.toIn) ⟨hA, (fun _ h => by cases h), (fun _ h => by cases h), fun i a ha _ => ?_, ?_⟩
  · rw [hz a (List.mem_of_getElem? ha)]; rfl
  · show 0 ≤ w64 (now.tmod 12) ∧ w64 (now.tmod 12) ≤ _
    rw [hw]; omega
end Go.Proofs.YtjffmldlkofpaaaGreatDoor.A

/- Plain: a tick: payments whose time is over are closed, and what was held for them goes. -/
namespace Go.Proofs.YtjffmldlkofpaaaGreatDoor.A
open Go Q
def voidR (k : Int) : Req := ⟨0, 5, k, 0, 0, 0, 0⟩
def voidK (s : Sta) (k : Int) : Sta := (doM s (voidR k)).1
def dueL (ps : List Pay) (now : Int) : List Int := (P.by' ps now).map (·.2)
def tickS (s : Sta) : Sta := ⟨s.accs, s.pays, s.sags, s.kns, w64 (s.now + 1)⟩
def tickM (s : Sta) : Sta := if s.now ≥ 1073741824 then s else (dueL s.pays (w64 (s.now + 1))).foldl voidK (tickS s)
/-! ### which are due -/
theorem due_mem {ps : List Pay} {now : Int} {k : Int} : k ∈ dueL ps now ↔ ∃ (i : Nat) (p : Pay), k = (i : Int) ∧ ps[i]? = some p ∧ p.stage = 0 ∧ p.til ≤ now := by
  unfold dueL
  rw [← P.by_filter]
  constructor
  · intro h
    obtain ⟨x, hx, rfl⟩ := List.mem_map.1 h
    obtain ⟨hx, hn⟩ := List.mem_filter.1 hx
    obtain ⟨i, p, h1, h2, h3, h4⟩ := P.L_mem hx
    exact ⟨i, p, h1, h2, h4, by rw [h3]; simpa using hn⟩
  · rintro ⟨i, p, rfl, hp, h0, hn⟩
    refine List.mem_map.2 ⟨(p.til, (i : Int)), List.mem_filter.2 ⟨?_, by simpa using hn⟩, rfl⟩
    have := P.mem_opens (k0 := 0) hp h0
    rw [Nat.zero_add] at this
    exact (P.srt_perm _).mem_iff.2 this
theorem opens_nodup : ∀ (ps : List Pay) (k0 : Nat), ((P.opens k0 ps).map (·.2)).Nodup
  | [], _ => List.nodup_nil
  | p :: ps, k0 => by
    unfold P.opens
    have ih := opens_nodup ps (k0 + 1)
    split
    · rw [List.map_cons, List.nodup_cons]
      refine ⟨fun h => ?_, ih⟩
      obtain ⟨x, hx, he⟩ := List.mem_map.1 h
      obtain ⟨i, q, h1, -⟩ := P.opens_mem hx
      rw [h1] at he
      simp only at he
      omega
    · exact ih
theorem due_nodup (ps : List Pay) (now : Int) : (dueL ps now).Nodup := by
  unfold dueL
  rw [← P.by_filter]
  have h1 : ((P.L ps).map (·.2)).Nodup := (((P.srt_perm (P.opens 0 ps)).map _).nodup_iff).2 (opens_nodup ps 0)
  exact h1.sublist (List.Sublist.map _ List.filter_sublist)
theorem due_len (ps : List Pay) (now : Int) : (dueL ps now).length ≤ ps.length := by
  unfold dueL
  rw [List.length_map]
  exact P.by_len ps now
/-! ### one of them -/
theorem void_step (s : Sta) (k : Int) : (voidK s k).accs.length = s.accs.length ∧ (voidK s k).pays.length = s.pays.length ∧ (voidK s k).sags = s.sags ∧ (voidK s k).kns = s.kns ∧ (voidK s k).now = s.now := by
  have h : doM s (voidR k) = voidM s (voidR k) := rfl
  unfold voidK
  rw [h]
  unfold voidM
  split
  · exact ⟨rfl, rfl, rfl, rfl, rfl⟩
  · rename_i pq _
    cases hr : relM s.accs pq.1.src (left pq.1) with
    | error e => exact ⟨rfl, rfl, rfl, rfl, rfl⟩
    | ok l => exact ⟨rel_len hr, List.length_set .., rfl, rfl, rfl⟩
theorem void_sz {s : Sta} (h : SzA s) (k : Int) : SzA (voidK s k) := by
  obtain ⟨h1, h2, -⟩ := void_step s k
  exact ⟨by rw [h1]; exact h.la, by rw [h2]; exact h.lp⟩
theorem void_good {s : Sta} (h : GoodA s) (k : Int) : GoodA (voidK s k) := good_do h ⟨fun h => (absurd h (show ¬ (5 : Int) = 0 by decide)), (show (0 : Int) ≤ 1073741824 by decide)⟩
theorem void_open {s : Sta} (h : GoodA s) {n : Nat} {p : Pay} (hp : s.pays[n]? = some p) (h0 : p.stage = 0) : (voidK s n).pays = s.pays.set n (shuP p) ∧ ∀ (i : Nat) (a : Acc), s.accs[i]? = some a → ∃ x, (voidK s n).accs[i]? = some ⟨a.cur, a.bal, x⟩ := by
  have hP := h.pay p (List.mem_of_getElem? hp)
  have hn : n < s.pays.length := (List.getElem?_eq_some_iff.1 hp).1
  have hb : bothM s (voidR n) = .ok (p, shuP p) := by
    have hd : doP p 5 0 = .ok (shuP p) := by
      unfold doP
      rw [if_neg (by decide), if_neg (by decide), if_neg (by decide), if_pos rfl, if_pos h0]
    unfold bothM
    rw [if_neg (show ¬ ((voidR n).a < 0 ∨ (voidR n).a ≥ s.pays.length) by show ¬ ((n : Int) < 0 ∨ (n : Int) ≥ s.pays.length); omega), show (voidR n).a.toNat = n by show ((n : Int)).toNat = n; omega, hp]
    simp only [voidR, hd]
  have hs := hP.s
  obtain ⟨a, ha⟩ : ∃ a, s.accs[p.src.toNat]? = some a := ⟨_, List.getElem?_eq_getElem (by omega)⟩
  have hle := h.left_le (List.mem_of_getElem? hp) ha
  have ho := hP.o h0
  have hlN : leftN p = p.auth - p.capt := by unfold leftN; rw [if_pos h0]
  have hl2 := hP.leftE.2.2
  have hrel := relM_go (n := leftN p) h.acs hs.1 ⟨by omega, hl2⟩ ha hle
  have hv : voidK s n = withP (withA s (s.accs.set p.src.toNat ⟨a.cur, a.bal, a.held - leftN p⟩)) (s.pays.set n (shuP p)) := by
    show (voidM s (voidR n)).1 = _
    unfold voidM
    rw [hb]
    simp only
    rw [hP.leftE.1, hrel]
    show withP _ (s.pays.set ((n : Int)).toNat (shuP p)) = _
    rw [show ((n : Int)).toNat = n by omega]
  rw [hv]
  refine ⟨rfl, fun i x hx => ?_⟩
  show ∃ y, (s.accs.set p.src.toNat _)[i]? = some ⟨x.cur, x.bal, y⟩
  rw [List.getElem?_set]
  split
  · rename_i hi
    subst hi
    obtain rfl : a = x := Option.some.inj (ha.symm.trans hx)
    exact ⟨_, by rw [if_pos (by omega)]⟩
  · exact ⟨x.held, hx⟩
/-! ### all of them -/
theorem void_all : ∀ {ks : List Int} {s : Sta}, GoodA s → ks.Nodup → (∀ k ∈ ks, ∃ (n : Nat) (p : Pay), k = (n : Int) ∧ s.pays[n]? = some p ∧ p.stage = 0) →
    GoodA (ks.foldl voidK s) ∧ (ks.foldl voidK s).pays.length = s.pays.length ∧ (ks.foldl voidK s).accs.length = s.accs.length ∧ ((ks.foldl voidK s).sags = s.sags ∧ (ks.foldl voidK s).kns = s.kns ∧ (ks.foldl voidK s).now = s.now) ∧
    (∀ (i : Nat) (p : Pay), s.pays[i]? = some p → (ks.foldl voidK s).pays[i]? = some (if (i : Int) ∈ ks then shuP p else p)) ∧ ∀ (i : Nat) (a : Acc), s.accs[i]? = some a → ∃ x, (ks.foldl voidK s).accs[i]? = some ⟨a.cur, a.bal, x⟩
  | [], s, h, _, _ => ⟨h, rfl, rfl, ⟨rfl, rfl, rfl⟩, fun i p hp => by simpa using hp, fun i a ha => ⟨a.held, ha⟩⟩
  | k :: ks, s, h, hnd, hk => by
    rw [List.nodup_cons] at hnd
    obtain ⟨n, p, rfl, hp, h0⟩ := hk k (List.mem_cons_self ..)
    obtain ⟨v1, v2⟩ := void_open h hp h0
    obtain ⟨l1, l2, l3, l4, l5⟩ := void_step s (n : Int)
    have hn : n < s.pays.length := (List.getElem?_eq_some_iff.1 hp).1
    obtain ⟨q1, q2, q3, q4, q5, q6⟩ := void_all (ks := ks) (s := voidK s (n : Int)) (void_good h _) hnd.2 (fun k' hk' => by
      obtain ⟨m, q, rfl, hq, hq0⟩ := hk k' (List.mem_cons_of_mem _ hk')
      refine ⟨m, q, rfl, ?_, hq0⟩
      have hne : n ≠ m := fun e => by subst e; exact hnd.1 hk'
      rw [v1, List.getElem?_set, if_neg hne]; exact hq)
    simp only [List.foldl_cons]
    refine ⟨q1, q2.trans l2, q3.trans l1, ⟨q4.1.trans l3, q4.2.1.trans l4, q4.2.2.trans l5⟩, fun i q hq => ?_, fun i a ha => ?_⟩
    · by_cases hi : n = i
      · subst hi
        obtain rfl : p = q := Option.some.inj (hp.symm.trans hq)
        rw [q5 n (shuP p) (by rw [v1, List.getElem?_set, if_pos rfl, if_pos hn]), if_neg hnd.1, if_pos (List.mem_cons_self ..)]
      · rw [q5 i q (by rw [v1, List.getElem?_set, if_neg hi]; exact hq)]
        have : ((i : Int) ∈ (n : Int) :: ks) ↔ (i : Int) ∈ ks := by
          rw [List.mem_cons]
          exact ⟨fun h => h.resolve_left (by omega), .inr⟩
        by_cases hm : (i : Int) ∈ ks
        · rw [if_pos hm, if_pos (this.2 hm)]
        · rw [if_neg hm, if_neg (fun h => hm (this.1 h))]
    · obtain ⟨x, hx⟩ := v2 i a ha
      obtain ⟨y, hy⟩ := q6 i _ hx
      exact ⟨y, hy⟩
def exp? (now : Int) (p : Pay) : Prop := p.stage = 0 ∧ p.til ≤ now
instance (now : Int) (p : Pay) : Decidable (exp? now p) := by unfold exp?; exact inferInstance
def closeM (now : Int) (p : Pay) : Pay := if exp? now p then shuP p else p
def expAt (now i : Int) (p : Pay) : Int := if exp? now p then leftAt i p else 0
theorem tick_spec {s : Sta} (h : GoodA s) (hn : s.now < 1073741824) : GoodA (tickM s) ∧ (tickM s).pays = s.pays.map (closeM (s.now + 1)) ∧ (tickM s).accs.length = s.accs.length ∧ ((tickM s).sags = s.sags ∧ (tickM s).kns = s.kns ∧ (tickM s).now = s.now + 1) ∧
    ∀ (i : Nat) (a : Acc), s.accs[i]? = some a → ∃ x, (tickM s).accs[i]? = some ⟨a.cur, a.bal, x⟩ := by
  have hw : w64 (s.now + 1) = s.now + 1 := w64_of (by have := h.now; omega) (by omega)
  unfold tickM tickS
  rw [if_neg (by omega), hw]
  have h' : GoodA ⟨s.accs, s.pays, s.sags, s.kns, s.now + 1⟩ := ⟨h.acs, h.pay, h.sga, h.hold, by show 0 ≤ s.now + 1 ∧ s.now + 1 ≤ _; have := h.now; omega⟩
  obtain ⟨q1, q2, q3, q4, q5, q6⟩ := void_all h' (due_nodup s.pays (s.now + 1)) (fun k hk => by
    obtain ⟨i, p, h1, h2, h3, -⟩ := due_mem.1 hk
    exact ⟨i, p, h1, h2, h3⟩)
  refine ⟨q1, ?_, q3, q4, q6⟩
  refine list_eq_of (by rw [List.length_map]; exact q2) fun j a b ha hb => ?_
  have hj : j < s.pays.length := by have := (List.getElem?_eq_some_iff.1 ha).1; rw [q2] at this; exact this
  have h5 := q5 j _ (List.getElem?_eq_getElem hj)
  rw [ha] at h5
  obtain rfl := Option.some.inj h5
  rw [List.getElem?_map, List.getElem?_eq_getElem hj] at hb
  obtain rfl := Option.some.inj hb
  unfold closeM
  by_cases hm : ((j : Nat) : Int) ∈ dueL s.pays (s.now + 1)
  · rw [if_pos hm]
    obtain ⟨i, p, h1, h2, h3, h4⟩ := due_mem.1 hm
    obtain rfl : j = i := by omega
    obtain rfl := Option.some.inj ((List.getElem?_eq_getElem hj).symm.trans h2)
    rw [if_pos ⟨h3, h4⟩]
  · rw [if_neg hm, if_neg]
    exact fun he => hm (due_mem.2 ⟨j, _, rfl, List.getElem?_eq_getElem hj, he.1, he.2⟩)
theorem tick_good {s : Sta} (h : GoodA s) : GoodA (tickM s) := by
  by_cases hn : s.now < 1073741824
  · exact (tick_spec h hn).1
  · unfold tickM; rw [if_pos (by omega)]; exact h
theorem tick_sz {s : Sta} (h : SzA s) : SzA (tickM s) := by
  unfold tickM
  split
  · exact h
  · generalize dueL s.pays (w64 (s.now + 1)) = ks
    have h1 : SzA (tickS s) := ⟨h.la, h.lp⟩
    generalize tickS s = t at h1 ⊢
    induction ks generalizing t with
    | nil => exact h1
    | cons k ks ih => exact ih _ (void_sz h1 k)
theorem tick_keep (s : Sta) : (tickM s).accs.length = s.accs.length ∧ (tickM s).pays.length = s.pays.length ∧ (tickM s).sags = s.sags ∧ (tickM s).kns = s.kns := by
  unfold tickM
  split
  · exact ⟨rfl, rfl, rfl, rfl⟩
  · generalize dueL s.pays (w64 (s.now + 1)) = ks
    have key : ∀ (ks : List Int) (t : Sta), (ks.foldl voidK t).accs.length = t.accs.length ∧ (ks.foldl voidK t).pays.length = t.pays.length ∧ (ks.foldl voidK t).sags = t.sags ∧ (ks.foldl voidK t).kns = t.kns := by
      intro ks
      induction ks with
      | nil => exact fun t => ⟨rfl, rfl, rfl, rfl⟩
      | cons k ks ih =>
        intro t
        obtain ⟨a1, a2, a3, a4, -⟩ := void_step t k
        obtain ⟨b1, b2, b3, b4⟩ := ih (voidK t k)
        exact ⟨b1.trans a1, b2.trans a2, b3.trans a3, b4.trans a4⟩
    exact key ks (tickS s)
/-- Behind a tick nothing is due. -/
theorem tick_due {s : Sta} (h : GoodA s) (hn : s.now < 1073741824) : dueL (tickM s).pays (tickM s).now = [] := by
  obtain ⟨-, hp, -, ⟨-, -, hnow⟩, -⟩ := tick_spec h hn
  rw [hp, hnow]
  refine List.eq_nil_iff_forall_not_mem.2 fun k hk => ?_
  obtain ⟨i, p, -, h2, h3, h4⟩ := due_mem.1 hk
  rw [List.getElem?_map] at h2
  cases hq : s.pays[i]? with
  | none => rw [hq] at h2; cases h2
  | some q =>
    rw [hq] at h2
    obtain rfl := Option.some.inj h2
    unfold closeM at h3 h4
    split at h3
    · cases h3
    · rename_i hne
      rw [if_neg hne] at h4
      exact hne ⟨h3, h4⟩
/-! ### what the law wants -/
def wantStep (now : Int) (l : List Acc) (p : Pay) : List Acc := if exp? now p then (match l[p.src.toNat]? with
  | some a => l.set p.src.toNat ⟨a.cur, a.bal, w64 (a.held - w64 (p.auth - p.capt))⟩
  | none => l) else l
def wantM (s : Sta) : Sta := ⟨s.pays.foldl (wantStep (w64 (s.now + 1))) s.accs, s.pays.map (closeM (w64 (s.now + 1))), s.sags, s.kns, w64 (s.now + 1)⟩
theorem expAt_nonneg {n : Nat} {p : Pay} (h : PayR n p) (now i : Int) : 0 ≤ expAt now i p := by
  unfold expAt
  split
  · exact leftAt_nonneg h i
  · omega
theorem want_fold {now : Int} {n : Nat} : ∀ {qs : List Pay} {l : List Acc}, l.length = n → (∀ p ∈ qs, PayR n p) → (∀ (i : Nat) (a : Acc), l[i]? = some a → 9 ≤ i → sumI (qs.map (expAt now i)) ≤ a.held ∧ a.held ≤ 1125899906842624) →
    (qs.foldl (wantStep now) l).length = n ∧ ∀ (i : Nat) (a : Acc), l[i]? = some a → (qs.foldl (wantStep now) l)[i]? = some ⟨a.cur, a.bal, if 9 ≤ i then a.held - sumI (qs.map (expAt now i)) else a.held⟩
  | [], l, hl, _, _ => ⟨hl, fun i a ha => by simp [sumI, ha]⟩
  | p :: qs, l, hl, hp, hh => by
    have hP := hp p (List.mem_cons_self ..)
    have hs := hP.s
    simp only [List.foldl_cons]
    by_cases he : exp? now p
    · obtain ⟨a, ha⟩ : ∃ a, l[p.src.toNat]? = some a := ⟨_, List.getElem?_eq_getElem (by omega)⟩
      have hlN : leftN p = p.auth - p.capt := by unfold leftN; rw [if_pos he.1]
      have hA := hP.a
      have hC := hP.c
      have ex : expAt now ((p.src.toNat : Nat) : Int) p = leftN p := by
        unfold expAt leftAt
        rw [if_pos he, if_pos (by omega)]
      have h1 := hh _ a ha (by omega)
      have h2 := sumI_nonneg (expAt now ((p.src.toNat : Nat) : Int)) (l := qs) fun q hq => expAt_nonneg (hp q (List.mem_cons_of_mem _ hq)) now _
      rw [List.map_cons, sumI, ex] at h1
      have hstep : wantStep now l p = l.set p.src.toNat ⟨a.cur, a.bal, a.held - leftN p⟩ := by
        unfold wantStep
        rw [if_pos he, ha]
        simp only
        rw [hlN, w64_of (n := p.auth - p.capt) (by omega) (by omega), w64_of (by omega) (by omega)]
      rw [hstep]
      obtain ⟨r1, r2⟩ := want_fold (now := now) (n := n) (qs := qs) (l := l.set p.src.toNat ⟨a.cur, a.bal, a.held - leftN p⟩) ((List.length_set ..).trans hl) (fun q hq => hp q (List.mem_cons_of_mem _ hq)) (fun i x hx h9 => by
        rw [List.getElem?_set] at hx
        split at hx
        · rename_i hi
          split at hx
          · cases hx
            subst hi
            show _ ≤ a.held - leftN p ∧ a.held - leftN p ≤ _
            have := hP.leftE.2.1
            omega
          · cases hx
        · have := hh i x hx h9
          have h3 := expAt_nonneg hP now i
          rw [List.map_cons, sumI] at this
          omega)
      refine ⟨r1, fun i x hx => ?_⟩
      by_cases hi : p.src.toNat = i
      · subst hi
        obtain rfl : a = x := Option.some.inj (ha.symm.trans hx)
        rw [r2 _ ⟨a.cur, a.bal, a.held - leftN p⟩ (by rw [List.getElem?_set, if_pos rfl, if_pos (by omega)]), List.map_cons, sumI, ex, if_pos (by omega), if_pos (by omega)]
        simp only [Option.some.injEq, Acc.mk.injEq, true_and]
        omega
      · rw [r2 i x (by rw [List.getElem?_set, if_neg hi]; exact hx), List.map_cons, sumI]
        have : expAt now (i : Int) p = 0 := by
          unfold expAt leftAt
          rw [if_pos he, if_neg (by omega)]
        rw [this, Int.zero_add]
    · have hstep : wantStep now l p = l := by unfold wantStep; rw [if_neg he]
      have e0 : ∀ i : Int, expAt now i p = 0 := fun i => by unfold expAt; rw [if_neg he]
      rw [hstep]
      obtain ⟨r1, r2⟩ := want_fold (now := now) (n := n) (qs := qs) hl (fun q hq => hp q (List.mem_cons_of_mem _ hq)) (fun i x hx h9 => by
        have := hh i x hx h9
        rw [List.map_cons, sumI, e0, Int.zero_add] at this
        exact this)
      refine ⟨r1, fun i x hx => ?_⟩
      rw [r2 i x hx, List.map_cons, sumI, e0, Int.zero_add]
theorem heldP_close (now : Int) : ∀ (ps : List Pay) (i : Int), heldP (ps.map (closeM now)) i = heldP ps i - sumI (ps.map (expAt now i))
  | [], _ => rfl
  | p :: ps, i => by
    have ih := heldP_close now ps i
    unfold heldP at ih ⊢
    simp only [List.map_cons, sumI]
    have : leftAt i (closeM now p) = leftAt i p - expAt now i p := by
      unfold closeM expAt
      split
      · unfold leftAt leftN shuP
        simp
      · omega
    omega
theorem tick_want {s : Sta} (h : GoodA s) (hn : s.now < 1073741824) : tickM s = wantM s := by
  obtain ⟨g, hp, hl, ⟨h1, h2, h3⟩, ha⟩ := tick_spec h hn
  have hw : w64 (s.now + 1) = s.now + 1 := w64_of (by have := h.now; omega) (by omega)
  have hle : ∀ (i : Nat), sumI (s.pays.map (expAt (s.now + 1) i)) ≤ heldP s.pays i := fun i => by
    have := heldP_close (s.now + 1) s.pays i
    have h0 := g.heldP0 (i : Int)
    rw [hp] at h0
    omega
  obtain ⟨f1, f2⟩ := want_fold (now := s.now + 1) (n := s.accs.length) (qs := s.pays) (l := s.accs) rfl h.pay (fun i a hi h9 => by
    have e := h.hold i a hi h9
    have := hle i
    have h0 := h.heldG0 (i : Int)
    have hr := (h.acs.ok i a hi).held
    omega)
  have hA : (tickM s).accs = s.pays.foldl (wantStep (s.now + 1)) s.accs := by
    refine list_eq_of (by rw [hl, f1]) fun j x y hx hy => ?_
    have hj : j < s.accs.length := by have := (List.getElem?_eq_some_iff.1 hx).1; rw [hl] at this; exact this
    have hsj := List.getElem?_eq_getElem hj
    obtain ⟨z, hz⟩ := ha j _ hsj
    obtain rfl := Option.some.inj (hz.symm.trans hx)
    have := f2 j _ hsj
    obtain rfl := Option.some.inj (this.symm.trans hy)
    simp only [Acc.mk.injEq, true_and]
    by_cases h9 : 9 ≤ j
    · rw [if_pos h9]
      have e1 := g.hold j _ hz h9
      have e2 := h.hold j _ hsj h9
      rw [hp, heldP_close, h1] at e1
      simp only at e1
      rw [e1, e2]; omega
    · rw [if_neg h9]
      have e1 := ((g.acs.ok j _ hz).h (by omega)).2
      have e2 := ((h.acs.ok j _ hsj).h (by omega)).2
      simp only at e1
      rw [e1, e2]
  unfold wantM
  rw [hw, ← hA, ← hp, ← h1, ← h2, ← h3]
end Go.Proofs.YtjffmldlkofpaaaGreatDoor.A

/- Plain: sums come to nothing; payments are as many as may be. -/
namespace Go.Proofs.YtjffmldlkofpaaaGreatDoor.A
open Go Q
theorem sums_fold : ∀ {l : List Acc} {t : Tri} {X : Int}, (∀ a ∈ l, BalB a.bal) → (-X ≤ t.1 ∧ t.1 ≤ X) → (-X ≤ t.2.1 ∧ t.2.1 ≤ X) → (-X ≤ t.2.2 ∧ t.2.2 ≤ X) → X + 1125899906842624 * l.length ≤ 4611686018427387904 →
    l.foldl addS t = (t.1 + curBal l 0, t.2.1 + curBal l 1, t.2.2 + curBal l 2)
  | [], t, X, _, _, _, _, _ => by simp [curBal, sumI]
  | a :: l, t, X, h, h1, h2, h3, hX => by
    have ha := h a (List.mem_cons_self ..)
    rw [List.length_cons] at hX
    obtain ⟨x, y, z⟩ := t
    simp only at h1 h2 h3
    simp only [List.foldl_cons]
    have step : addS (x, y, z) a = (x + balIn 0 a, y + balIn 1 a, z + balIn 2 a) := by
      unfold addS balIn
      simp only
      split
      · rename_i h0
        rw [w64_of (by omega) (by omega)]
        simp [h0]
      · split
        · rename_i h1
          rw [w64_of (by omega) (by omega)]
          simp [h1]
        · split
          · rename_i h2
            rw [w64_of (by omega) (by omega)]
            simp
          · simp
    have hb : ∀ c, -1125899906842624 ≤ balIn c a ∧ balIn c a ≤ 1125899906842624 := fun c => by unfold balIn; split <;> omega
    have b0 := hb 0
    have b1 := hb 1
    have b2 := hb 2
    rw [step, sums_fold (X := X + 1125899906842624) (fun q hq => h q (List.mem_cons_of_mem _ hq)) (by simp only; omega) (by simp only; omega) (by simp only; omega) (by omega)]
    simp only [curBal, List.map_cons, sumI, Prod.mk.injEq]
    omega
theorem sums_zero {l : List Acc} (hA : Acs l) (hl : l.length ≤ 64) : sumsL l = (0, 0, 0) := by
  unfold sumsL
  rw [sums_fold (X := 0) (fun a ha => by obtain ⟨i, hi⟩ := List.getElem?_of_mem ha; exact (hA.ok i a hi).b) ⟨by decide, by decide⟩ ⟨by decide, by decide⟩ ⟨by decide, by decide⟩ (by omega),
    hA.sum 0 (by decide) (by decide), hA.sum 1 (by decide) (by decide), hA.sum 2 (by decide) (by decide)]
  rfl
theorem payD_lp {s : Sta} {k : Int} {p : Pay} {x : Except Int (List Acc)} : (payD s k p x).1.pays.length = s.pays.length := by
  cases x with
  | error e => rfl
  | ok l => exact List.length_set ..
theorem postD_lp {s : Sta} {x y n : Int} : (postD s x y n).1.pays.length = s.pays.length := by
  unfold postD
  split
  · rename_i es _
    cases postM s.accs es <;> rfl
  · rfl
theorem doM_lp (s : Sta) (r : Req) {N : Nat} (h : s.pays.length ≤ N) (hN : 64 ≤ N) : (doM s r).1.pays.length ≤ N := by
  unfold doM
  split
  · unfold openM; split <;> exact h
  split
  · unfold depositM
    split
    · exact h
    · rw [postD_lp]; exact h
  split
  · unfold transferM
    split
    · exact h
    · rw [postD_lp]; exact h
  split
  · unfold authM
    split
    · exact h
    split
    · exact h
    split
    · exact h
    split
    · show (s.pays ++ [_]).length ≤ N
      simp; omega
    · exact h
  split
  · unfold captureM
    split
    · exact h
    split
    · exact h
    · rw [payD_lp]; exact h
  split
  · unfold voidM
    split
    · exact h
    · rw [payD_lp]; exact h
  split
  · unfold refundM
    split
    · exact h
    split
    · exact h
    · rw [payD_lp]; exact h
  split
  · unfold chargeM
    split
    · exact h
    split
    · exact h
    · rw [payD_lp]; exact h
  · exact h
end Go.Proofs.YtjffmldlkofpaaaGreatDoor.A

/- ops.Tick. -/
namespace Go.Proofs.YtjffmldlkofpaaaGreatDoor.A
open Go Q
abbrev byCz (args : List AV) (bs : List Box) (K : AV → List Box → Prop) : Prop := bs = [] ∧ ∃ (ps : List Pay) (now : Int), args = [paysA ps, .int .i64 now] ∧ ps.length ≤ 3000000 ∧ K (intsA (dueL ps now)) []
theorem byz_ok : FnOk Tryz.prog tab 92 byCz := Due.by_okC.mono (by
  rintro args bs K ⟨rfl, ps, now, rfl, hl, hK⟩
  exact ⟨rfl, ps, now, rfl, by omega, hK⟩)
def tickC (args : List AV) (bs : List Box) (K : AV → List Box → Prop) : Prop := bs = [] ∧ ∃ s : Sta, args = [staA s] ∧ SzA s ∧ K (staA (tickM s)) []
def RTi : Contract
  | 92 => byCz
  | 50 => doC
  | _ => fun _ _ _ => False
theorem RTi_ok : CallOk Tryz.prog tab RTi := by
  intro f args bs K h
  unfold RTi at h
  split at h
  · exact ⟨_, h, byz_ok⟩
  · exact ⟨_, h, do_ok⟩
  · exact h.elim
def RTi_E (pl : Nat → Plan) : En := ⟨tab, RTi, fun _ => none, 0, pl⟩
theorem RTi_J (pl : Nat → Plan) : JOk Tryz.prog (RTi_E pl).T (RTi_E pl).J := fun _ _ h => by cases h
set_option maxRecDepth 200000 in
set_option maxHeartbeats 6400000 in
theorem tick_ok : FnOk Tryz.prog tab 75 tickC := by
  refine fn_ok (E := RTi_E pl75) tab_is RTi_ok (RTi_J _) Tryz.func75 rfl rfl (by kernel_rfl) ?_
  rintro args bs K ⟨rfl, s, rfl, hz, hK⟩
  refine ⟨rfl, ?_⟩
  have hlp := hz.lp
  refine ⟨fun h => ?_, fun h => ?_⟩
  · have h : s.now ≥ 1073741824 := by simpa using h
    unfold tickM at hK
    rw [if_pos h] at hK
    exact hK
  · have h : ¬ s.now ≥ 1073741824 := by simpa using h
    unfold tickM at hK
    rw [if_neg h] at hK
    refine ⟨rfl, s.pays, w64 (s.now + 1), rfl, by omega, ?_⟩
    have hdl := due_len s.pays (w64 (s.now + 1))
    generalize dueL s.pays (w64 (s.now + 1)) = l at hK hdl ⊢
    have hz1 : SzA (tickS s) := ⟨hz.la, hz.lp⟩
    refine ⟨fun mm st => ∃ (i : Nat) (x : Sta), (i ≤ l.length ∧ (l.drop i).foldl voidK x = l.foldl voidK (tickS s) ∧ SzA x) ∧ l.length - i = mm ∧ st.t 17 = intsA l ∧ st.t 18 = .int .i64 ((l.map (AV.int .i64)).length : Nat) ∧ st.t 19 = .int .i64 i ∧ st.t 1 = .ptr 1 0 ∧ st.t 2 = .ptr 2 0 ∧ st.h 1 = staB x ∧ st.h 2 = some (.cells 36 [.sl .nl 0 [], .sl .nl 0 [], .sl .nl 0 [], .sl .nl 0 [], .int .i64 0]),
      ⟨_, 0, tickS s, ⟨Nat.zero_le _, rfl, hz1⟩, rfl, rfl, rfl, rfl, rfl, rfl, rfl, rfl⟩, ?_⟩
    rintro _ ⟨t1, h1⟩ ⟨i, x, ⟨hi, hX, hzx⟩, rfl, e17, e18, e19, e1, e2, b1, b2⟩
    have e17 : t1 17 = intsA l := e17
    have e18 : t1 18 = .int .i64 ((l.map (AV.int .i64)).length : Nat) := e18
    have e19 : t1 19 = .int .i64 i := e19
    have e1 : t1 1 = .ptr 1 0 := e1
    have e2 : t1 2 = .ptr 2 0 := e2
    have b1 : h1 1 = staB x := b1
    have b2 : h1 2 = some (.cells 36 [.sl .nl 0 [], .sl .nl 0 [], .sl .nl 0 [], .sl .nl 0 [], .int .i64 0]) := b2
    rw [← updL_has t1 [(17, intsA l), (18, .int .i64 ((l.map (AV.int .i64)).length : Nat)), (19, .int .i64 i), (1, .ptr 1 0), (2, .ptr 2 0)] ⟨e17, e18, e19, e1, e2, trivial⟩, ← updL_has h1 [(1, staB x), (2, some (.cells 36 [.sl .nl 0 [], .sl .nl 0 [], .sl .nl 0 [], .sl .nl 0 [], .int .i64 0]))] ⟨b1, b2, trivial⟩]
    constructor
    · intro hb
      have hi' : i < l.length := by
        have : (i : Int) < ((l.map (AV.int .i64)).length : Nat) := by simpa using hb
        simp at this; omega
      have w : IntKind.i64.wrap ((i : Int) + 1) = ((i + 1 : Nat) : Int) := by rw [wrap_of] <;> omega
      have hlt : l.length - (i + 1) < l.length - i := by omega
      obtain ⟨k, hx⟩ : ∃ x, l[i]? = some x := ⟨_, List.getElem?_eq_getElem hi'⟩
      have hm := List.mem_of_getElem? hx
      have hdr := drop_at hx
      rw [hdr, List.foldl_cons] at hX
      refine ⟨_, Int.natCast_nonneg i, map_of hx, ?_⟩
      refine ⟨rfl, x, voidR k, rfl, hzx, ?_⟩
      exact ⟨_, hlt, i + 1, voidK x k, ⟨hi', hX, void_sz hzx k⟩, rfl, rfl, rfl, congrArg (AV.int .i64) w, rfl, rfl, rfl, rfl⟩
    · intro hb
      have hi' : i = l.length := by
        have : ¬ (i : Int) < ((l.map (AV.int .i64)).length : Nat) := by simpa using hb
        simp at this; omega
      subst hi'
      rw [List.drop_length] at hX
      have hX : x = l.foldl voidK (tickS s) := hX
      rw [← hX] at hK
      exact hK
end Go.Proofs.YtjffmldlkofpaaaGreatDoor.A

/- hawalalaw10: a request by numbers. -/
namespace Go.Proofs.YtjffmldlkofpaaaGreatDoor.A
open Go Q
structure Ask where
  (key op a b amt legs til : Int)
structure Ask.In (r : Ask) : Prop where
  k : u8I r.key
  o : u8I r.op
  a : u8I r.a
  b : u8I r.b
  n : 0 ≤ r.amt ∧ r.amt ≤ 65535
  l : u8I r.legs
  u : u8I r.til
def askAV (r : Ask) : AV := .agg [.int .u8 r.key, .int .u8 r.op, .int .u8 r.a, .int .u8 r.b, .int .u16 r.amt, .int .u8 r.legs, .int .u8 r.til]
abbrev asksS (l : List Ask) : AV := .sl .fz 73 (l.map askAV)
def askOp (q : Ask) : Int := w64 (q.op.tmod 8)
def askR (q : Ask) : Req := ⟨w64 q.key, askOp q, if askOp q = 0 then w64 (q.a.tmod 3) else if askOp q = 4 ∨ askOp q = 5 ∨ askOp q = 6 ∨ askOp q = 7 then w64 (q.a.tmod 5) else w64 (9 + w64 (q.a.tmod 6)), w64 (9 + w64 (q.b.tmod 6)), w64 (1 + w64 (q.amt.tmod 2000)),
  if askOp q = 2 then w64 (q.legs.tmod 5) else 0, if askOp q = 3 then w64 (q.til.tmod 12) else 0⟩
def askC (args : List AV) (bs : List Box) (K : AV → List Box → Prop) : Prop := bs = [] ∧ ∃ q : Ask, args = [askAV q] ∧ q.In ∧ K (reqA (askR q)) []
set_option maxRecDepth 200000 in
set_option maxHeartbeats 3200000 in
theorem ask_ok : FnOk Tryz.prog tab 24 askC := by
  refine fn_ok (E := R0_E pl24) tab_is R0_ok (R0_J _) Tryz.func24 rfl rfl (by kernel_rfl) ?_
  rintro args bs K ⟨rfl, q, rfl, hq, hK⟩
  refine ⟨rfl, ?_⟩
  have fin : ∀ r, r = askR q → K (reqA r) [] := fun r e => e ▸ hK
  refine ⟨(by decide : (8 : Int) ≠ 0), ?_⟩
  refine ⟨(by decide : (6 : Int) ≠ 0), ?_⟩
  refine ⟨(by decide : (6 : Int) ≠ 0), ?_⟩
  refine ⟨(by decide : (2000 : Int) ≠ 0), ?_⟩
  refine ⟨fun h => ?_, fun h0 => ?_⟩
  · have h : askOp q = 0 := beqT h
    refine ⟨(by decide : (3 : Int) ≠ 0), ?_⟩
    exact fin ⟨w64 q.key, askOp q, w64 (q.a.tmod 3), w64 (9 + w64 (q.b.tmod 6)), w64 (1 + w64 (q.amt.tmod 2000)), 0, 0⟩ (by unfold askR; simp [h])
  have h0 : ¬ askOp q = 0 := beqF h0
  refine ⟨fun h => ?_, fun h2 => ?_⟩
  · have h : askOp q = 2 := beqT h
    refine ⟨(by decide : (5 : Int) ≠ 0), ?_⟩
    exact fin ⟨w64 q.key, askOp q, w64 (9 + w64 (q.a.tmod 6)), w64 (9 + w64 (q.b.tmod 6)), w64 (1 + w64 (q.amt.tmod 2000)), w64 (q.legs.tmod 5), 0⟩ (by unfold askR; simp [h])
  have h2 : ¬ askOp q = 2 := beqF h2
  refine ⟨fun h => ?_, fun h3 => ?_⟩
  · have h : askOp q = 3 := beqT h
    refine ⟨(by decide : (12 : Int) ≠ 0), ?_⟩
    exact fin ⟨w64 q.key, askOp q, w64 (9 + w64 (q.a.tmod 6)), w64 (9 + w64 (q.b.tmod 6)), w64 (1 + w64 (q.amt.tmod 2000)), 0, w64 (q.til.tmod 12)⟩ (by unfold askR; simp [h])
  have h3 : ¬ askOp q = 3 := beqF h3
  refine ⟨fun h => ?_, fun h4 => ?_⟩
  · have hh := h
    have h : askOp q = 4 := beqT h
    refine ⟨fun _ => ?_, fun e => absurd (hh.symm.trans e) (by decide)⟩
    refine ⟨(by decide : (5 : Int) ≠ 0), ?_⟩
    exact fin ⟨w64 q.key, askOp q, w64 (q.a.tmod 5), w64 (9 + w64 (q.b.tmod 6)), w64 (1 + w64 (q.amt.tmod 2000)), 0, 0⟩ (by unfold askR; simp [h])
  have h4 : ¬ askOp q = 4 := beqF h4
  refine ⟨fun h => ?_, fun h5 => ?_⟩
  · have hh := h
    have h : askOp q = 5 := beqT h
    refine ⟨fun _ => ?_, fun e => absurd (hh.symm.trans e) (by decide)⟩
    refine ⟨(by decide : (5 : Int) ≠ 0), ?_⟩
    exact fin ⟨w64 q.key, askOp q, w64 (q.a.tmod 5), w64 (9 + w64 (q.b.tmod 6)), w64 (1 + w64 (q.amt.tmod 2000)), 0, 0⟩ (by unfold askR; simp [h])
  have h5 : ¬ askOp q = 5 := beqF h5
  refine ⟨fun h => ?_, fun h6 => ?_⟩
  · have hh := h
    have h : askOp q = 6 := beqT h
    refine ⟨fun _ => ?_, fun e => absurd (hh.symm.trans e) (by decide)⟩
    refine ⟨(by decide : (5 : Int) ≠ 0), ?_⟩
    exact fin ⟨w64 q.key, askOp q, w64 (q.a.tmod 5), w64 (9 + w64 (q.b.tmod 6)), w64 (1 + w64 (q.amt.tmod 2000)), 0, 0⟩ (by unfold askR; simp [h])
  have h6 : ¬ askOp q = 6 := beqF h6
  refine ⟨fun h => ?_, fun h7 => ?_⟩
  · have h : askOp q = 7 := beqT h
    refine ⟨(by decide : (5 : Int) ≠ 0), ?_⟩
    exact fin ⟨w64 q.key, askOp q, w64 (q.a.tmod 5), w64 (9 + w64 (q.b.tmod 6)), w64 (1 + w64 (q.amt.tmod 2000)), 0, 0⟩ (by unfold askR; simp [h])
  have h7 : ¬ askOp q = 7 := beqF h7
  exact fin ⟨w64 q.key, askOp q, w64 (9 + w64 (q.a.tmod 6)), w64 (9 + w64 (q.b.tmod 6)), w64 (1 + w64 (q.amt.tmod 2000)), 0, 0⟩ (by unfold askR; simp [h0, h2, h3, h4, h5, h6, h7])
theorem askOp_in {q : Ask} (h : q.In) : 0 ≤ askOp q ∧ askOp q ≤ 7 := by
  obtain ⟨a, b⟩ := tmod_in h.o.1 (show (0 : Int) < 8 by decide)
  unfold askOp
  rw [w64_of (by omega) (by omega)]; omega
/-- What such a request is like. -/
structure AskI (r : Req) : Prop where
  k : 0 ≤ r.key ∧ r.key ≤ 255
  o : 0 ≤ r.op ∧ r.op ≤ 7
  a0 : r.op = 0 → 0 ≤ r.a ∧ r.a ≤ 2
  a : 0 ≤ r.a ∧ r.a ≤ 14
  b : 9 ≤ r.b ∧ r.b ≤ 14
  n : 1 ≤ r.amt ∧ r.amt ≤ 2000
  l : 0 ≤ r.legs ∧ r.legs ≤ 4
  l2 : r.op ≠ 2 → r.legs = 0
  u : 0 ≤ r.til ∧ r.til ≤ 11
theorem ask_I {q : Ask} (h : q.In) : AskI (askR q) := by
  obtain ⟨o1, o2⟩ := askOp_in h
  obtain ⟨a1, a2⟩ := tmod_in h.a.1 (show (0 : Int) < 3 by decide)
  obtain ⟨a3, a4⟩ := tmod_in h.a.1 (show (0 : Int) < 5 by decide)
  obtain ⟨a5, a6⟩ := tmod_in h.a.1 (show (0 : Int) < 6 by decide)
  obtain ⟨b1, b2⟩ := tmod_in h.b.1 (show (0 : Int) < 6 by decide)
  obtain ⟨n1, n2⟩ := tmod_in h.n.1 (show (0 : Int) < 2000 by decide)
  obtain ⟨l1, l2⟩ := tmod_in h.l.1 (show (0 : Int) < 5 by decide)
  obtain ⟨u1, u2⟩ := tmod_in h.u.1 (show (0 : Int) < 12 by decide)
  have hk := h.k
  have ek : w64 q.key = q.key := w64_of (by omega) (by omega)
  have e3 : w64 (q.a.tmod 3) = q.a.tmod 3 := w64_of (by omega) (by omega)
  have e5 : w64 (q.a.tmod 5) = q.a.tmod 5 := w64_of (by omega) (by omega)
  have e6 : w64 (9 + w64 (q.a.tmod 6)) = 9 + q.a.tmod 6 := by rw [w64_of (n := q.a.tmod 6) (by omega) (by omega), w64_of (by omega) (by omega)]
  have eb : w64 (9 + w64 (q.b.tmod 6)) = 9 + q.b.tmod 6 := by rw [w64_of (n := q.b.tmod 6) (by omega) (by omega), w64_of (by omega) (by omega)]
  have en : w64 (1 + w64 (q.amt.tmod 2000)) = 1 + q.amt.tmod 2000 := by rw [w64_of (n := q.amt.tmod 2000) (by omega) (by omega), w64_of (by omega) (by omega)]
  have el : w64 (q.legs.tmod 5) = q.legs.tmod 5 := w64_of (by omega) (by omega)
  have eu : w64 (q.til.tmod 12) = q.til.tmod 12 := w64_of (by omega) (by omega)
  unfold askR
  rw [ek, e3, e5, e6, eb, en, el, eu]
  generalize askOp q = o at o1 o2 ⊢
  refine ⟨⟨by simp only; omega, by simp only; omega⟩, ⟨o1, o2⟩, fun h0 => ?_, ?_, ⟨by simp only; omega, by simp only; omega⟩, ⟨by simp only; omega, by simp only; omega⟩, ?_, fun h2 => ?_, ?_⟩
  · simp only at h0 ⊢; rw [if_pos h0]; omega
  · simp only; split
    · omega
    · split <;> omega
  · simp only; split <;> omega
  · simp only at h2 ⊢; rw [if_neg h2]
  · simp only; split <;> omega
theorem AskI.R {r : Req} (h : AskI r) : ReqR r := ⟨h.a0, by have := h.u; omega⟩
end Go.Proofs.YtjffmldlkofpaaaGreatDoor.A
