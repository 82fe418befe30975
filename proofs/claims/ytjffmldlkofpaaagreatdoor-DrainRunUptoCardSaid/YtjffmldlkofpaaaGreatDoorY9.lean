/- What holds of an engine's state, whatever it is handed. -/
import Derived.Test.YtjffmldlkofpaaaGreatDoorM33
namespace Go.Proofs.YtjffmldlkofpaaaGreatDoor.A
open Go Q
def KeyD (l : List Req) : Prop := ∀ (i j : Nat) (a b : Req), l[i]? = some a → l[j]? = some b → a.key = b.key → i = j
def kreqs (s : Sta) : List Req := s.kns.map (·.req)
def sreqs (s : Sta) : List Req := s.sags.map (·.req)
structure EngS (s : Sta) : Prop where
  z : SzE s
  kd : KeyD (s.kns.map (·.req))
  sd : KeyD (s.sags.map (·.req))
  wk : ∀ (k : Nat) (g : Sag), s.sags[k]? = some g → ∃ (j : Nat) (q : Kno), s.kns[j]? = some q ∧ q.req = g.req ∧ q.told = false
theorem at_map {α β : Type} {f : α → β} {l : List α} {i : Nat} {y : β} (h : (l.map f)[i]? = some y) : ∃ x, l[i]? = some x ∧ f x = y := by
  rw [List.getElem?_map] at h
  cases hx : l[i]? with
  | none => rw [hx] at h; cases h
  | some x => rw [hx] at h; exact ⟨x, rfl, Option.some.inj h⟩
theorem KeyD.snoc {l : List Req} (h : KeyD l) {x : Req} (hn : ∀ a ∈ l, a.key ≠ x.key) : KeyD (l ++ [x]) := by
  intro i j a b ha hb he
  have hi : i < l.length ∨ i = l.length := by
    have := (List.getElem?_eq_some_iff.1 ha).1
    simp at this; omega
  have hj : j < l.length ∨ j = l.length := by
    have := (List.getElem?_eq_some_iff.1 hb).1
    simp at this; omega
  rcases hi with hi | hi <;> rcases hj with hj | hj
  · rw [List.getElem?_append_left hi] at ha
    rw [List.getElem?_append_left hj] at hb
    exact h i j a b ha hb he
  · rw [List.getElem?_append_left hi] at ha
    subst hj
    have hb : x = b := by simpa using hb
    subst hb
    exact absurd he (hn a (List.mem_of_getElem? ha))
  · rw [List.getElem?_append_left hj] at hb
    subst hi
    have ha : x = a := by simpa using ha
    subst ha
    exact absurd he.symm (hn b (List.mem_of_getElem? hb))
  · omega
theorem EngS.acc {s t : Sta} (h : EngS s) (ha : t.accs.length ≤ 64) (hp : t.pays.length ≤ 1999900) (hs : t.sags = s.sags) (hk : t.kns = s.kns) : EngS t :=
  ⟨⟨⟨ha, hp, by rw [hk]; exact h.z.lk⟩, by rw [hs]; exact h.z.ls⟩, by rw [hk]; exact h.kd, by rw [hs]; exact h.sd, by rw [hs, hk]; exact h.wk⟩
theorem EngS.put {s : Sta} (h : EngS s) {x : Kno} (hn : ∀ k ∈ s.kns, k.req.key ≠ x.req.key) (hl : s.kns.length < 256) : EngS (withK s (s.kns ++ [x])) := by
  refine ⟨⟨⟨h.z.la, h.z.lp, ?_⟩, h.z.ls⟩, ?_, h.sd, fun k g hg => ?_⟩
  · show (s.kns ++ [x]).length ≤ 256
    simp; omega
  · show KeyD ((s.kns ++ [x]).map (·.req))
    rw [List.map_append]
    refine h.kd.snoc fun a ha => ?_
    obtain ⟨k, hk, rfl⟩ := List.mem_map.1 ha
    exact hn k hk
  · obtain ⟨j, q, h1, h2, h3⟩ := h.wk k g hg
    exact ⟨j, q, by show (s.kns ++ [x])[j]? = _; rw [List.getElem?_append_left (List.getElem?_eq_some_iff.1 h1).1]; exact h1, h2, h3⟩
theorem EngS.add {s : Sta} (h : EngS s) {g : Sag} (hl : s.sags.length < 16) (hk : ∃ (j : Nat) (q : Kno), s.kns[j]? = some q ∧ q.req = g.req ∧ q.told = false) (hd : ∀ x ∈ s.sags, x.req.key ≠ g.req.key) : EngS (withS s (s.sags ++ [g])) := by
  refine ⟨⟨⟨h.z.la, h.z.lp, h.z.lk⟩, ?_⟩, h.kd, ?_, fun k x hx => ?_⟩
  · show (s.sags ++ [g]).length ≤ 16
    simp; omega
  · show KeyD ((s.sags ++ [g]).map (·.req))
    rw [List.map_append]
    refine h.sd.snoc fun a ha => ?_
    obtain ⟨k, hk, rfl⟩ := List.mem_map.1 ha
    exact hd k hk
  · have hx : (s.sags ++ [g])[k]? = some x := hx
    have hi : k < s.sags.length ∨ k = s.sags.length := by
      have := (List.getElem?_eq_some_iff.1 hx).1
      simp at this; omega
    rcases hi with hi | hi
    · rw [List.getElem?_append_left hi] at hx
      exact h.wk k x hx
    · subst hi
      have hx : g = x := by simpa using hx
      subst hx
      exact hk
theorem EngS.set {s : Sta} (h : EngS s) {k : Nat} {g g' : Sag} (hg : s.sags[k]? = some g) (hr : g'.req = g.req) : EngS (withS s (s.sags.set k g')) := by
  have hm : (s.sags.set k g').map (·.req) = s.sags.map (·.req) := by
    rw [List.map_set]
    show (s.sags.map (·.req)).set k g'.req = _
    rw [hr]
    apply List.ext_getElem?
    intro j
    rw [List.getElem?_set]
    by_cases hj : k = j
    · subst hj
      have hl := (List.getElem?_eq_some_iff.1 hg).1
      rw [List.getElem?_map, hg]
      simp [hl]
    · simp [hj]
  refine ⟨⟨⟨h.z.la, h.z.lp, h.z.lk⟩, by show (s.sags.set k g').length ≤ 16; rw [List.length_set]; exact h.z.ls⟩, h.kd, by show KeyD ((s.sags.set k g').map (·.req)); rw [hm]; exact h.sd, fun j x hx => ?_⟩
  have hx : (s.sags.set k g')[j]? = some x := hx
  rw [List.getElem?_set] at hx
  by_cases hj : k = j
  · subst hj
    have hl := (List.getElem?_eq_some_iff.1 hg).1
    have hx : g' = x := by simpa [hl] using hx
    subst hx
    obtain ⟨j, q, h1, h2, h3⟩ := h.wk k g hg
    exact ⟨j, q, h1, h2.trans hr.symm, h3⟩
  · rw [if_neg hj] at hx
    exact h.wk j x hx
theorem tell_at {ks : List Kno} (hd : KeyD (ks.map (·.req))) {j : Nat} {q : Kno} (hq : ks[j]? = some q) (ht : q.told = false) (e i : Int) : tellM ks q.req.key e i = .ok (ks.set j ⟨q.req, e, i, true⟩) := by
  have hf := find_at (key := q.req.key) (ks := ks) (i := j) (k := q) (o := 0) hq rfl (fun a x ha hx hk => by
    have := hd a j x.req q.req (by rw [List.getElem?_map, hx]; rfl) (by rw [List.getElem?_map, hq]; rfl) hk
    omega)
  have hf : findK ks q.req.key 0 = j := by omega
  unfold tellM
  rw [hf, if_neg (by omega), show ((j : Nat) : Int).toNat = j by omega, hq]
  simp only
  rw [if_neg (by simp [ht])]
theorem EngS.fin {s : Sta} (h : EngS s) {k : Nat} {g : Sag} (hg : s.sags[k]? = some g) (e i : Int) : ∃ l, tellM s.kns g.req.key e i = .ok l ∧ EngS (endM s k l) := by
  obtain ⟨j, q, h1, h2, h3⟩ := h.wk k g hg
  refine ⟨s.kns.set j ⟨q.req, e, i, true⟩, by rw [← h2]; exact tell_at h.kd h1 h3 e i, ?_⟩
  have hjl := (List.getElem?_eq_some_iff.1 h1).1
  have hm : (s.kns.set j ⟨q.req, e, i, true⟩).map (·.req) = s.kns.map (·.req) := by
    rw [List.map_set]
    apply List.ext_getElem?
    intro a
    rw [List.getElem?_set]
    by_cases ha : j = a
    · subst ha
      rw [List.getElem?_map, h1]
      simp [hjl]
    · simp [ha]
  have hsg : ∀ (a : Nat) (x : Sag), (s.sags.eraseIdx k)[a]? = some x → ∃ b, b ≠ k ∧ s.sags[b]? = some x ∧ b = if a < k then a else a + 1 := by
    intro a x hx
    rw [List.getElem?_eraseIdx] at hx
    by_cases ha : a < k
    · rw [if_pos ha] at hx; exact ⟨a, by omega, hx, by rw [if_pos ha]⟩
    · rw [if_neg ha] at hx; exact ⟨a + 1, by omega, hx, by rw [if_neg ha]⟩
  refine ⟨⟨⟨h.z.la, h.z.lp, by show (s.kns.set j _).length ≤ 256; rw [List.length_set]; exact h.z.lk⟩, Nat.le_trans (List.length_eraseIdx_le s.sags k) h.z.ls⟩, by show KeyD ((s.kns.set j _).map (·.req)); rw [hm]; exact h.kd, fun a b x y hx hy he => ?_, fun a x hx => ?_⟩
  · obtain ⟨x', hx', rfl⟩ := at_map hx
    obtain ⟨y', hy', rfl⟩ := at_map hy
    obtain ⟨a', ha1, ha2, ha3⟩ := hsg a x' hx'
    obtain ⟨b', hb1, hb2, hb3⟩ := hsg b y' hy'
    have := h.sd a' b' x'.req y'.req (by rw [List.getElem?_map, ha2]; rfl) (by rw [List.getElem?_map, hb2]; rfl) he
    by_cases hak : a < k <;> by_cases hbk : b < k <;> simp [hak, hbk] at ha3 hb3 <;> omega
  · obtain ⟨b, hb1, hb2, -⟩ := hsg a x hx
    obtain ⟨j', q', h1', h2', h3'⟩ := h.wk b x hb2
    refine ⟨j', q', ?_, h2', h3'⟩
    show (s.kns.set j _)[j']? = _
    rw [List.getElem?_set]
    by_cases hj : j = j'
    · subst hj
      rw [h1] at h1'
      obtain rfl := Option.some.inj h1'
      have := h.sd b k x.req g.req (by rw [List.getElem?_map, hb2]; rfl) (by rw [List.getElem?_map, hg]; rfl) (by rw [← h2', ← h2])
      exact absurd this hb1
    · rw [if_neg hj]; exact h1'
theorem EngS.tell {s : Sta} (h : EngS s) : TellOk s := fun k g hg e i => by
  obtain ⟨l, hl, -⟩ := h.fin hg e i
  exact ⟨l, hl⟩
theorem EngS.endR {s : Sta} (h : EngS s) {k : Nat} {g : Sag} (hg : s.sags[k]? = some g) (o : Rep) : EngS (endR s k g o).1 := by
  obtain ⟨l, hl, hE⟩ := h.fin hg o.1 o.2
  unfold A.endR
  rw [hl]
  exact hE
theorem leg_req (g : Sag) (ok : Bool) : (legM g ok).req = g.req := by
  unfold legM agreeM refuseM
  split
  · rfl
  · split
    · rfl
    · split <;> rfl
theorem turn_req (g : Sag) (w : Int) : (turnM g w).req = g.req := by
  unfold turnM
  split <;> rfl
theorem EngS.submit {s : Sta} (h : EngS s) (e : Evt) : EngS (submitM s e).1 := by
  unfold submitM
  split
  · exact h
  split
  · exact h
  split
  · exact h
  rename_i h16
  split
  · exact h
  rename_i l hp
  obtain ⟨rfl, hl, hn⟩ := put_ok hp
  split
  · rename_i hlg
    split
    · exact h.put (x := ⟨e.req, _, 0, true⟩) hn hl
    · rename_i t hr
      obtain ⟨r1, r2, r3, r4, -⟩ := reserve_len hr
      have ht : EngS t := h.acc (by rw [r1]; exact h.z.la) (by rw [r2]; exact h.z.lp) r3 r4
      have hp : EngS (withK t (t.kns ++ [⟨e.req, 0, 0, false⟩])) := ht.put (x := ⟨e.req, 0, 0, false⟩) (by rw [r4]; exact hn) (by rw [r4]; exact hl)
      have h16 : s.sags.length < 16 := by
        refine Nat.lt_of_not_le fun hc => h16 ⟨hlg, hc⟩
      have := hp.add (g := beginM e.req) (by show t.sags.length < 16; rw [r3]; exact h16) ⟨t.kns.length, ⟨e.req, 0, 0, false⟩, by simp, rfl, rfl⟩ (fun x hx hk => by
        have hx : x ∈ t.sags := hx
        rw [r3] at hx
        obtain ⟨i, hi⟩ := List.mem_iff_getElem?.1 hx
        obtain ⟨j, q, q1, q2, -⟩ := h.wk i x hi
        exact hn q (List.mem_of_getElem? q1) (by rw [q2]; exact hk))
      rw [r3, r4] at this
      exact this
  · have hst := doM_step s e.req
    have ht : EngS (withK (doM s e.req).1 s.kns) := h.acc (hst.la64 h.z.la) (doM_lp s e.req h.z.lp (by decide)) hst.sags rfl
    exact ht.put (x := ⟨e.req, _, _, true⟩) hn hl
theorem EngS.step {s : Sta} (h : EngS s) (e : Evt) : EngS (stepM s e).1 := by
  unfold stepM
  split
  · exact h
  split
  · exact h
  rename_i g hg
  unfold stepG
  split
  · obtain ⟨u1, u2, u3, u4, -⟩ := undo_len s g.req
    exact (h.acc (t := undoD s g.req) (by rw [u1]; exact h.z.la) (by rw [u2]; exact h.z.lp) u3 u4).endR (by rw [u3]; exact hg) _
  split
  · split
    · rename_i t ht
      obtain ⟨u1, u2, u3, u4, -⟩ := settle_len ht
      exact (h.acc (t := t) (by rw [u1]; exact h.z.la) (by rw [u2]; exact h.z.lp) u3 u4).endR (by rw [u3]; exact hg) _
    · exact h.set hg (turn_req _ _)
  · exact h.set hg (leg_req _ _)
theorem EngS.eng {s : Sta} (h : EngS s) (e : Evt) : EngS (engM s e).1 := by
  unfold engM
  split
  · exact h.submit e
  split
  · exact h.step e
  split
  · obtain ⟨t1, t2, t3, t4⟩ := tick_keep s
    exact h.acc (t := tickM s) (by rw [t1]; exact h.z.la) (by rw [t2]; exact h.z.lp) t3 t4
  · exact h
end Go.Proofs.YtjffmldlkofpaaaGreatDoor.A
