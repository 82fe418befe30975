/- Plain: what holds of an engine's state, with its money, its holds, its sagas. -/
import Derived.Test.YtjffmldlkofpaaaGreatDoorY9
import Derived.Test.YtjffmldlkofpaaaGreatDoorGY
namespace Go.Proofs.YtjffmldlkofpaaaGreatDoor.A
open Go Q
/-! ### what does not come off has a number -/
theorem conv_ne {n p q x : Int} (h : convM n p q = .error x) : x ≠ 0 := by
  unfold convM at h
  split at h
  · split at h
    · cases h; decide
    · cases h
  · cases h; decide
theorem move_ne {al : List Acc} {x y n e : Int} (h : moveM al x y n = .error e) : e ≠ 0 := by
  unfold moveM at h
  split at h
  · cases h; decide
  rename_i hof
  split at h
  · cases h; decide
  split at h
  · split at h
    · cases h
    split at h
    · cases h; decide
    split at h
    · rename_i x' hx
      cases h; exact conv_ne hx
    · split at h
      · cases h; decide
      · cases h
  · rename_i hn
    have h1 : (ofN al.length x).2 = true ∧ (ofN al.length y).2 = true := by
      constructor
      · cases hc : (ofN al.length x).2 with
        | true => rfl
        | false => exact absurd (.inl hc) hof
      · cases hc : (ofN al.length y).2 with
        | true => rfl
        | false => exact absurd (.inr hc) hof
    have r : ∀ k : Int, (ofN al.length k).2 = true → 0 ≤ k ∧ k < al.length := fun k hk => by
      unfold ofN at hk
      split at hk
      · cases hk
      · omega
    obtain ⟨a1, a2⟩ := r x h1.1
    obtain ⟨b1, b2⟩ := r y h1.2
    exact absurd (List.getElem?_eq_getElem (show y.toNat < al.length by omega)) (fun hb => hn _ _ (List.getElem?_eq_getElem (show x.toNat < al.length by omega)) hb)
theorem move_at {al : List Acc} {x y n : Int} {es : List Ent} (hA : Acs al) (h : moveM al x y n = .ok es) : ∀ e ∈ es, e.acct.toNat < al.length := by
  unfold moveM at h
  split at h
  · cases h
  rename_i hof
  split at h
  · cases h
  have r : ∀ k : Int, (ofN al.length k).2 = true → 0 ≤ k ∧ k < al.length := fun k hk => by
    unfold ofN at hk
    split at hk
    · cases hk
    · omega
  have hx : 0 ≤ x ∧ x < al.length := r x (by
    cases hc : (ofN al.length x).2 with
    | true => rfl
    | false => exact absurd (.inl hc) hof)
  have hy : 0 ≤ y ∧ y < al.length := r y (by
    cases hc : (ofN al.length y).2 with
    | true => rfl
    | false => exact absurd (.inr hc) hof)
  have hn := hA.n
  split at h
  · rename_i a b ha hb
    have c1 := (hA.ok _ a ha).c
    have c2 := (hA.ok _ b hb).c
    have k1 := numK_of (k := 1) (c := a.cur) (by decide) c1
    have k2 := numK_of (k := 1) (c := b.cur) (by decide) c2
    split at h
    · cases h
      intro e he
      simp only [List.mem_cons, List.not_mem_nil, or_false] at he
      rcases he with rfl | rfl <;> simp only <;> omega
    split at h
    · cases h
    split at h
    · cases h
    · split at h
      · cases h
      · cases h
        intro e he
        simp only [List.mem_cons, List.not_mem_nil, or_false] at he
        rcases he with rfl | rfl | rfl | rfl <;> simp only <;> omega
  · cases h
theorem postGo_ne : ∀ {es : List Ent} {al : List Acc} {x : Int}, (∀ e ∈ es, e.acct.toNat < al.length) → postGo al es = .error x → x ≠ 0
  | [], al, x, _, h => by cases h
  | e :: es, al, x, hi, h => by
    rw [postGo_cons, List.getElem?_eq_getElem (hi e (List.mem_cons_self ..))] at h
    simp only at h
    split at h
    · exact postGo_ne (fun q hq => by rw [List.length_set]; exact hi q (List.mem_cons_of_mem _ hq)) h
    · rename_i x' hx
      cases h
      unfold addM at hx
      split at hx
      · cases hx
      · cases hx; decide
theorem postM_ne {es : List Ent} {al : List Acc} {x : Int} (hi : ∀ e ∈ es, e.acct.toNat < al.length) (h : postM al es = .error x) : x ≠ 0 := by
  unfold postM at h
  split at h
  · cases h; decide
  split at h
  · split at h
    · cases h; decide
    · cases h
  · rename_i e he
    cases h; exact postGo_ne hi he
theorem rel_ne {al : List Acc} {k n x : Int} (h : relM al k n = .error x) : x ≠ 0 := by
  unfold relM at h
  split at h
  · cases h; decide
  rename_i hc
  split at h
  · cases h; decide
  split at h
  · split at h
    · cases h; decide
    · cases h
  · rename_i hn
    obtain ⟨k9, kl⟩ := is_of (by simpa using hc)
    rw [List.getElem?_eq_getElem (show k.toNat < al.length by omega)] at hn
    cases hn
theorem settle_ne {s : Sta} {r : Req} {x : Int} (hA : Acs s.accs) (h : settleM s r = .error x) : x ≠ 0 := by
  unfold settleM at h
  split at h
  · rename_i e he
    cases h; exact move_ne he
  · rename_i es hm
    split at h
    · rename_i e he
      cases h
      have hi := move_at hA hm
      obtain ⟨q, el, rfl, -⟩ := move_head hm
      simp only [spendM] at he
      split at he
      · rename_i l1 hr1
        exact postM_ne (fun q hq => by rw [rel_len hr1]; exact hi q hq) he
      · rename_i x hx
        cases he; exact rel_ne hx
    · cases h
/-! ### a saga's money -/
theorem settle_spec {s t : Sta} {r : Req} (hA : Acs s.accs) (h : settleM s r = .ok t) : (9 ≤ r.a ∧ r.a < s.accs.length) ∧ ∃ l, t = withA s l ∧ l.length = s.accs.length ∧ Acs l ∧
    ∀ (i : Nat) (a : Acc), s.accs[i]? = some a → ∃ b, l[i]? = some ⟨a.cur, b, if (i : Int) = r.a then a.held - r.amt else a.held⟩ := by
  unfold settleM at h
  split at h
  · cases h
  rename_i es hm
  split at h
  · cases h
  rename_i l hl
  cases h
  obtain ⟨e, el, rfl, he, -⟩ := move_head hm
  simp only [spendM] at hl
  split at hl
  · rename_i l1 hr1
    obtain ⟨⟨k9, kl⟩, -, x, hx, hle, rfl, hA1⟩ := relM_spec hA hr1
    obtain ⟨hA2, hlen, hh⟩ := postM_acs hA1 hl
    rw [List.length_set] at hlen
    rw [he] at k9 kl hx hh
    refine ⟨⟨k9, kl⟩, l, rfl, hlen, hA2, fun i a ha => ?_⟩
    by_cases hi : r.a.toNat = i
    · obtain ⟨b, hb⟩ := hh i ⟨x.cur, x.bal, x.held - r.amt⟩ (by rw [List.getElem?_set, if_pos hi, if_pos (by omega)])
      have hxa : x = a := by rw [hi] at hx; exact Option.some.inj (hx.symm.trans ha)
      subst hxa
      exact ⟨b, by rw [hb, if_pos (by omega)]⟩
    · obtain ⟨b, hb⟩ := hh i a (by rw [List.getElem?_set, if_neg hi]; exact ha)
      exact ⟨b, by rw [hb, if_neg (by omega)]⟩
  · cases hl
theorem undo_spec {s : Sta} (h : GoodA s) {k : Nat} {g : Sag} (hg : s.sags[k]? = some g) : ∃ a, s.accs[g.req.a.toNat]? = some a ∧ undoD s g.req = withA s (s.accs.set g.req.a.toNat ⟨a.cur, a.bal, a.held - g.req.amt⟩) ∧ undoM s g.req = .ok (undoD s g.req) ∧ Acs (undoD s g.req).accs := by
  have hm := List.mem_of_getElem? hg
  obtain ⟨⟨a9, al⟩, n1, n2⟩ := h.sga g hm
  have ha := List.getElem?_eq_getElem (show g.req.a.toNat < s.accs.length by omega)
  have hle := h.amt_le hm ha
  have hr := relM_go (n := g.req.amt) h.acs a9 ⟨n1, n2⟩ ha hle
  have hu : undoM s g.req = .ok (withA s (s.accs.set g.req.a.toNat ⟨(s.accs[g.req.a.toNat]'(by omega)).cur, (s.accs[g.req.a.toNat]'(by omega)).bal, (s.accs[g.req.a.toNat]'(by omega)).held - g.req.amt⟩)) := by
    unfold undoM
    rw [hr]
  have hD : undoD s g.req = withA s (s.accs.set g.req.a.toNat ⟨(s.accs[g.req.a.toNat]'(by omega)).cur, (s.accs[g.req.a.toNat]'(by omega)).bal, (s.accs[g.req.a.toNat]'(by omega)).held - g.req.amt⟩) := by
    unfold undoD
    rw [hu]
  refine ⟨_, ha, hD, by rw [hu, hD], ?_⟩
  rw [hD]
  obtain ⟨-, -, a, -, -, -, hA⟩ := relM_spec h.acs hr
  exact hA
theorem heldG_erase : ∀ {gs : List Sag} {k : Nat} {g : Sag} (i : Int), gs[k]? = some g → heldG (gs.eraseIdx k) i = heldG gs i - amtAt i g
  | [], _, _, _, h => by simp at h
  | x :: gs, 0, g, i, h => by
    simp at h; subst h
    show heldG gs i = amtAt i x + heldG gs i - amtAt i x
    omega
  | x :: gs, k + 1, g, i, h => by
    have := heldG_erase (gs := gs) (k := k) (g := g) i (by simpa using h)
    show amtAt i x + heldG (gs.eraseIdx k) i = amtAt i x + heldG gs i - amtAt i g
    omega
theorem heldG_set : ∀ {gs : List Sag} {k : Nat} {g g' : Sag} (i : Int), gs[k]? = some g → g'.req = g.req → heldG (gs.set k g') i = heldG gs i
  | [], _, _, _, _, h, _ => by simp at h
  | x :: gs, 0, g, g', i, h, e => by
    simp at h; subst h
    show amtAt i g' + heldG gs i = amtAt i x + heldG gs i
    unfold amtAt
    rw [e]
  | x :: gs, k + 1, g, g', i, h, e => by
    have := heldG_set (gs := gs) (k := k) (g := g) (g' := g') i (by simpa using h) e
    show amtAt i x + heldG (gs.set k g') i = amtAt i x + heldG gs i
    omega
/-- A saga goes, with what is held for it. -/
theorem good_end {s : Sta} (h : GoodA s) {k : Nat} {g : Sag} (hg : s.sags[k]? = some g) {l : List Acc} (hl : l.length = s.accs.length) (hA : Acs l) (ks : List Kno)
    (hh : ∀ (i : Nat) (a : Acc), s.accs[i]? = some a → ∃ b, l[i]? = some ⟨a.cur, b, if (i : Int) = g.req.a then a.held - g.req.amt else a.held⟩) : GoodA ⟨l, s.pays, s.sags.eraseIdx k, ks, s.now⟩ := by
  refine ⟨hA, fun p hp => ?_, fun x hx => ?_, fun i a ha h9 => ?_, h.now⟩
  · show PayR l.length p
    rw [hl]; exact h.pay p hp
  · show (9 ≤ x.req.a ∧ x.req.a < l.length) ∧ _
    rw [hl]; exact h.sga x (List.mem_of_mem_eraseIdx hx)
  · have ha : l[i]? = some a := ha
    have hi : i < s.accs.length := by rw [← hl]; exact (List.getElem?_eq_some_iff.1 ha).1
    obtain ⟨b, hb⟩ := hh i _ (List.getElem?_eq_getElem hi)
    obtain rfl := Option.some.inj (hb.symm.trans ha)
    have := h.hold i _ (List.getElem?_eq_getElem hi) h9
    show (if (i : Int) = g.req.a then s.accs[i].held - g.req.amt else s.accs[i].held) = heldP s.pays i + heldG (s.sags.eraseIdx k) i
    rw [heldG_erase i hg]
    unfold amtAt
    split
    · rename_i e
      rw [if_pos e.symm]; omega
    · rename_i e
      rw [if_neg (fun h => e h.symm)]; omega
theorem good_sag {s : Sta} (h : GoodA s) {k : Nat} {g g' : Sag} (hg : s.sags[k]? = some g) (e : g'.req = g.req) : GoodA (withS s (s.sags.set k g')) := by
  refine ⟨h.acs, h.pay, fun x hx => ?_, fun i a ha h9 => ?_, h.now⟩
  · rcases List.mem_or_eq_of_mem_set hx with hx | rfl
    · exact h.sga x hx
    · rw [e]; exact h.sga g (List.mem_of_getElem? hg)
  · show a.held = heldP s.pays i + heldG (s.sags.set k g') i
    rw [heldG_set i hg e]; exact h.hold i a ha h9
theorem good_kns {s : Sta} (h : GoodA s) (ks : List Kno) : GoodA (withK s ks) := ⟨h.acs, h.pay, h.sga, h.hold, h.now⟩
theorem good_begin {s t : Sta} {r : Req} (h : GoodA s) (hr : reserveM s r = .ok t) (ks : List Kno) : GoodA (withS (withK t ks) (s.sags ++ [beginM r])) := by
  obtain ⟨⟨k9, kl⟩, -, n, -, a, ha, hle, rfl, hA2⟩ := reserve_spec h.acs hr
  refine ⟨hA2, fun p hp => ?_, fun x hx => ?_, fun i x hx h9 => ?_, h.now⟩
  · show PayR (s.accs.set _ _).length p
    rw [List.length_set]; exact h.pay p hp
  · show (9 ≤ x.req.a ∧ x.req.a < (s.accs.set _ _).length) ∧ _
    rw [List.length_set]
    rcases List.mem_append.1 hx with hx | hx
    · exact h.sga x hx
    · rw [List.mem_singleton.1 hx]; exact ⟨⟨k9, kl⟩, n⟩
  · have hx : (s.accs.set r.a.toNat ⟨a.cur, a.bal, a.held + r.amt⟩)[i]? = some x := hx
    show x.held = heldP s.pays i + heldG (s.sags ++ [beginM r]) i
    have e : heldG (s.sags ++ [beginM r]) i = heldG s.sags i + amtAt i (beginM r) := by
      unfold heldG
      rw [List.map_append, sumI_append]
      show _ + (amtAt i (beginM r) + 0) = _
      omega
    rw [e]
    have eA : amtAt (i : Int) (beginM r) = if r.a = (i : Int) then r.amt else 0 := rfl
    rw [eA]
    rw [List.getElem?_set] at hx
    split at hx
    · rename_i hi
      split at hx
      · cases hx
        have := h.hold _ a ha (by omega)
        rw [if_pos (by omega)]
        subst hi
        show a.held + r.amt = _
        omega
      · cases hx
    · rename_i hi
      have := h.hold i x hx h9
      rw [if_neg (by omega)]
      omega
/-! ### sagas that go on -/
structure SagR (g : Sag) : Prop extends SagI g where
  w0 : g.phase = 0 → g.why = 0
  w1 : g.phase = 1 → g.why ≠ 0
  tl : g.phase = 0 → g.tries = 0 ∨ g.leg < g.req.legs
theorem SagR.right {g : Sag} (h : SagR g) : rightS g = true := by
  have l := h.l
  have n := h.n
  have t := h.t
  have h1 : (decide (g.leg < 0) || decide (g.leg > g.req.legs) || decide (g.tries < 0) || decide (g.tries > 4) || decide (g.req.legs < 0) || decide (g.req.legs > 4)) = false := by simp; omega
  unfold rightS
  rw [h1]
  rcases h.p with p | p
  · have f := h.f p
    have tl := h.tl p
    rw [if_pos p, h.w0 p]
    simp; omega
  · rw [if_neg (by omega), if_pos p]
    have := h.w1 p
    simp [this]
theorem begin_R {r : Req} (h0 : 0 ≤ r.legs) (h4 : r.legs ≤ 4) : SagR (beginM r) := ⟨begin_I h0 h4, fun _ => rfl, fun h => absurd (show (0 : Int) = 1 from h) (by decide), fun _ => .inl rfl⟩
theorem SagR.leg {g : Sag} (h : SagR g) (h0 : g.phase ≠ 1) (hr : readyM g = false) (ok : Bool) : SagR (legM g ok) := by
  have h0 : g.phase = 0 := h.p.resolve_right h0
  refine ⟨(sagI_leg h.toSagI h0 hr ok).1, ?_, ?_, ?_⟩ <;> unfold legM <;> rw [if_neg (by simp [h0, hr])] <;> cases ok
  · rw [if_neg (by decide)]
    unfold refuseM
    split
    · intro h; exact absurd (show (1 : Int) = 0 from h) (by decide)
    · exact fun _ => h.w0 h0
  · rw [if_pos rfl]; exact fun _ => h.w0 h0
  · rw [if_neg (by decide)]
    unfold refuseM
    split
    · intro _; exact (by decide : (9 : Int) ≠ 0)
    · intro h1; exact absurd (h0.symm.trans h1) (by decide)
  · rw [if_pos rfl]; intro h1; exact absurd (h0.symm.trans h1) (by decide)
  · rw [if_neg (by decide)]
    have hlt : g.leg < g.req.legs := by simp [readyM, h0] at hr; omega
    unfold refuseM
    split
    · intro h; exact absurd (show (1 : Int) = 0 from h) (by decide)
    · exact fun _ => .inr hlt
  · rw [if_pos rfl]; exact fun _ => .inl rfl
theorem SagR.turn {g : Sag} (h : SagR g) {w : Int} (hw : w ≠ 0) : SagR (turnM g w) := by
  unfold turnM
  split
  · exact ⟨⟨h.l, h.n, h.t, fun h => absurd (show (1 : Int) = 0 from h) (by decide), .inr rfl⟩, fun h => absurd (show (1 : Int) = 0 from h) (by decide), fun _ => hw, fun h => absurd (show (1 : Int) = 0 from h) (by decide)⟩
  · exact h
/-! ### all of it -/
def untold (ks : List Kno) : Nat := (ks.filter fun k => !k.told).length
structure EngG (s : Sta) : Prop where
  e : EngS s
  g : GoodA s
  sr : ∀ g ∈ s.sags, SagR g
  ku : ∀ k ∈ s.kns, k.told = false → ∃ g ∈ s.sags, g.req = k.req
  un : untold s.kns = s.sags.length
theorem untold_snoc (ks : List Kno) (k : Kno) : untold (ks ++ [k]) = untold ks + (if k.told = true then 0 else 1) := by
  unfold untold
  rw [List.filter_append, List.length_append]
  cases h : k.told <;> simp [h]
theorem untold_set : ∀ {ks : List Kno} {j : Nat} {q q' : Kno}, ks[j]? = some q → q.told = false → q'.told = true → untold (ks.set j q') + 1 = untold ks
  | [], _, _, _, h, _, _ => by simp at h
  | x :: ks, 0, q, q', h, h0, h1 => by
    simp at h; subst h
    simp [untold, h0, h1]
  | x :: ks, j + 1, q, q', h, h0, h1 => by
    have := untold_set (ks := ks) (j := j) (q := q) (q' := q') (by simpa using h) h0 h1
    unfold untold at this ⊢
    rw [List.set_cons_succ, List.filter_cons, List.filter_cons]
    split
    · rw [List.length_cons, List.length_cons]; omega
    · exact this
theorem EngG.told {s : Sta} (h : EngG s) {x : Kno} (hn : ∀ k ∈ s.kns, k.req.key ≠ x.req.key) (hl : s.kns.length < 256) (ht : x.told = true) : EngG (withK s (s.kns ++ [x])) := by
  refine ⟨h.e.put hn hl, good_kns h.g _, h.sr, fun k hk h0 => ?_, ?_⟩
  · rcases List.mem_append.1 hk with hk | hk
    · exact h.ku k hk h0
    · rw [List.mem_singleton.1 hk, ht] at h0; cases h0
  · show untold (s.kns ++ [x]) = _
    rw [untold_snoc, if_pos ht]; exact h.un
/-- Its saga is gone, its key told. -/
theorem EngG.fin {s : Sta} (t : Sta) (h : EngG s) (hsg : t.sags = s.sags) (hkn : t.kns = s.kns) {k : Nat} {g : Sag} (hg : s.sags[k]? = some g) (o : Rep) (hE : EngS t)
    (hG : ∀ ks : List Kno, GoodA ⟨t.accs, t.pays, t.sags.eraseIdx k, ks, t.now⟩) : EngG (endR t k g o).1 := by
  have hg' : t.sags[k]? = some g := by rw [hsg]; exact hg
  have hER := hE.endR hg' o
  obtain ⟨j, q, h1, h2, h3⟩ := hE.wk k g hg'
  have hte : tellM t.kns g.req.key o.1 o.2 = .ok (t.kns.set j ⟨q.req, o.1, o.2, true⟩) := by rw [← h2]; exact tell_at hE.kd h1 h3 _ _
  have hkl := (List.getElem?_eq_some_iff.1 hg').1
  refine ⟨hER, ?_, ?_, ?_, ?_⟩ <;> unfold A.endR <;> rw [hte] <;> simp only
  · exact hG _
  · intro x hx
    exact h.sr x (by rw [← hsg]; exact List.mem_of_mem_eraseIdx hx)
  · intro x hx h0
    obtain ⟨i, hi⟩ := List.mem_iff_getElem?.1 hx
    rw [List.getElem?_set] at hi
    split at hi
    · split at hi
      · cases hi; cases h0
      · cases hi
    · rename_i hij
      obtain ⟨y, hy, hyr⟩ := h.ku x (by rw [← hkn]; exact List.mem_of_getElem? hi) h0
      rw [← hsg] at hy
      obtain ⟨b, hb⟩ := List.mem_iff_getElem?.1 hy
      refine ⟨y, ?_, hyr⟩
      by_cases hbk : b = k
      · subst hbk
        rw [hg'] at hb
        obtain rfl := Option.some.inj hb
        exact absurd (hE.kd j i q.req x.req (by rw [List.getElem?_map, h1]; rfl) (by rw [List.getElem?_map, hi]; rfl) (by rw [h2, hyr])) hij
      · rw [List.mem_iff_getElem?]
        by_cases hlt : b < k
        · exact ⟨b, by rw [List.getElem?_eraseIdx, if_pos hlt]; exact hb⟩
        · refine ⟨b - 1, ?_⟩
          rw [List.getElem?_eraseIdx, if_neg (by omega), show b - 1 + 1 = b by omega]; exact hb
  · have hu := untold_set h1 h3 (q' := ⟨q.req, o.1, o.2, true⟩) rfl
    have := h.un
    rw [← hkn, ← hsg] at this
    rw [List.length_eraseIdx, if_pos hkl]
    omega
theorem set_has {gs : List Sag} {k : Nat} {g g' y : Sag} {r : Req} (hg : gs[k]? = some g) (e : g'.req = g.req) (hy : y ∈ gs) (hr : y.req = r) : ∃ x ∈ gs.set k g', x.req = r := by
  obtain ⟨b, hb⟩ := List.mem_iff_getElem?.1 hy
  by_cases hbk : k = b
  · subst hbk
    rw [hg] at hb
    obtain rfl := Option.some.inj hb
    exact ⟨g', List.mem_iff_getElem?.2 ⟨k, by rw [List.getElem?_set, if_pos rfl, if_pos (List.getElem?_eq_some_iff.1 hg).1]⟩, e.trans hr⟩
  · exact ⟨y, List.mem_iff_getElem?.2 ⟨b, by rw [List.getElem?_set, if_neg hbk]; exact hb⟩, hr⟩
theorem EngG.submit {s : Sta} (h : EngG s) (e : Evt) : EngG (submitM s e).1 := by
  have hS := h.e.submit e
  unfold submitM at hS ⊢
  split
  · exact h
  rename_i hm
  have hm : mayR e.req = true := by simpa using hm
  obtain ⟨m1, m2, m3, -, m5, -⟩ := mayR_of hm
  split
  · exact h
  split
  · exact h
  split
  · exact h
  rename_i h1 h2 _ l hp
  obtain ⟨rfl, hl, hn⟩ := put_ok hp
  rw [if_neg (by simp [hm]), if_neg h1, if_neg h2, hp] at hS
  simp only at hS
  split
  · rename_i hlg
    rw [if_pos hlg] at hS
    split
    · exact h.told (x := ⟨e.req, _, 0, true⟩) hn hl rfl
    · rename_i t hr
      rw [hr] at hS
      refine ⟨hS, good_begin h.g hr _, fun x hx => ?_, fun x hx h0 => ?_, ?_⟩
      · rcases List.mem_append.1 hx with hx | hx
        · exact h.sr x hx
        · rw [List.mem_singleton.1 hx]; exact begin_R m2.1 m2.2
      · rcases List.mem_append.1 hx with hx | hx
        · obtain ⟨g, hg, e⟩ := h.ku x hx h0
          exact ⟨g, List.mem_append_left _ hg, e⟩
        · rw [List.mem_singleton.1 hx]
          exact ⟨beginM e.req, List.mem_append_right _ (List.mem_singleton.2 rfl), rfl⟩
      · show untold (s.kns ++ [_]) = (s.sags ++ [_]).length
        rw [untold_snoc, h.un]; simp
  · rename_i hlg
    rw [if_neg hlg] at hS
    have hst := doM_step s e.req
    refine ⟨hS, good_kns (good_do h.g ⟨fun ho => by have := m5 ho; omega, m3.2⟩) _, ?_, ?_, ?_⟩
    · intro x hx
      exact h.sr x (by rw [← hst.sags]; exact hx)
    · intro x hx h0
      rcases List.mem_append.1 hx with hx | hx
      · obtain ⟨g, hg, e⟩ := h.ku x hx h0
        exact ⟨g, by show g ∈ (doM s _).1.sags; rw [hst.sags]; exact hg, e⟩
      · rw [List.mem_singleton.1 hx] at h0; cases h0
    · show untold (s.kns ++ [_]) = (doM s e.req).1.sags.length
      rw [untold_snoc, hst.sags, if_pos rfl]; exact h.un
theorem EngG.step {s : Sta} (h : EngG s) (e : Evt) : EngG (stepM s e).1 := by
  have hS := h.e.step e
  unfold stepM at hS ⊢
  split
  · exact h
  rename_i hf
  rw [if_neg hf] at hS
  split
  · exact h
  rename_i g hg
  rw [hg] at hS
  simp only at hS
  have hm := List.mem_of_getElem? hg
  have hR := h.sr g hm
  unfold stepG at hS ⊢
  split
  · rename_i hp
    obtain ⟨a, ha, hu, -, hA⟩ := undo_spec h.g hg
    obtain ⟨u1, u2, u3, u4, u5⟩ := undo_len s g.req
    refine h.fin (undoD s g.req) u3 u4 hg _ (h.e.acc (t := undoD s g.req) (by rw [u1]; exact h.e.z.la) (by rw [u2]; exact h.e.z.lp) u3 u4) fun ks => ?_
    rw [u2, u3, u5]
    refine good_end h.g hg u1 hA ks fun i x hx => ?_
    rw [hu]
    show ∃ b, (s.accs.set g.req.a.toNat _)[i]? = _
    rw [List.getElem?_set]
    have := (h.g.sga g hm).1
    by_cases hi : g.req.a.toNat = i
    · subst hi
      rw [hx] at ha
      obtain rfl := Option.some.inj ha
      rw [if_pos rfl, if_pos (List.getElem?_eq_some_iff.1 hx).1, if_pos (by omega)]
      exact ⟨_, rfl⟩
    · rw [if_neg hi, if_neg (by omega)]
      exact ⟨x.bal, hx⟩
  rename_i hp
  rw [if_neg hp] at hS
  split
  · rename_i hrd
    rw [if_pos hrd] at hS
    split
    · rename_i t ht
      obtain ⟨⟨a9, al⟩, l, rfl, hl, hA, hh⟩ := settle_spec h.g.acs ht
      exact h.fin (withA s l) rfl rfl hg _ (h.e.acc (t := withA s l) (by show l.length ≤ 64; rw [hl]; exact h.e.z.la) h.e.z.lp rfl rfl) fun ks => good_end h.g hg hl hA ks hh
    · rename_i x hx
      rw [hx] at hS
      refine ⟨hS, good_sag h.g hg (turn_req _ _), ?_, ?_, ?_⟩
      · intro y hy
        rcases List.mem_or_eq_of_mem_set hy with hy | rfl
        · exact h.sr y hy
        · exact hR.turn (settle_ne h.g.acs hx)
      · intro k hk h0
        obtain ⟨y, hy, hyr⟩ := h.ku k hk h0
        exact set_has hg (turn_req _ _) hy hyr
      · show untold s.kns = (s.sags.set _ _).length
        rw [List.length_set]; exact h.un
  · rename_i hrd
    rw [if_neg hrd] at hS
    refine ⟨hS, good_sag h.g hg (leg_req _ _), ?_, ?_, ?_⟩
    · intro y hy
      rcases List.mem_or_eq_of_mem_set hy with hy | rfl
      · exact h.sr y hy
      · exact hR.leg hp (by simpa using hrd) _
    · intro k hk h0
      obtain ⟨y, hy, hyr⟩ := h.ku k hk h0
      exact set_has hg (leg_req _ _) hy hyr
    · show untold s.kns = (s.sags.set _ _).length
      rw [List.length_set]; exact h.un
theorem EngG.tick {s : Sta} (h : EngG s) : EngG (tickM s) := by
  obtain ⟨t1, t2, t3, t4⟩ := tick_keep s
  exact ⟨h.e.acc (t := tickM s) (by rw [t1]; exact h.e.z.la) (by rw [t2]; exact h.e.z.lp) t3 t4, tick_good h.g, by rw [t3]; exact h.sr, by rw [t3, t4]; exact h.ku, by rw [t3, t4]; exact h.un⟩
theorem EngG.eng {s : Sta} (h : EngG s) (e : Evt) : EngG (engM s e).1 := by
  unfold engM
  split
  · exact h.submit e
  split
  · exact h.step e
  split
  · exact h.tick
  · exact h
theorem GoodA.held {s : Sta} (h : GoodA s) : ∀ (i : Nat) (a : Acc), s.accs[i]? = some a → a.held = heldP s.pays i + heldG s.sags i ∧ a.held ≤ 1125899906842624 := fun i a ha => by
  have hR := h.acs.ok i a ha
  refine ⟨?_, hR.held.2⟩
  by_cases h9 : 9 ≤ i
  · exact h.hold i a ha h9
  · rw [(hR.h (by omega)).2, heldP_zero h.pay (.inr (by omega)), heldG_zero (fun g hg => (h.sga g hg).1) (.inr (by omega))]; rfl
end Go.Proofs.YtjffmldlkofpaaaGreatDoor.A
