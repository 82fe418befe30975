/- Plain: sagas end within their bound. -/
import Derived.Test.YtjffmldlkofpaaaGreatDoorY10
namespace Go.Proofs.YtjffmldlkofpaaaGreatDoor.A
open Go Q
def mostM (g : Sag) : Int := if g.phase = 0 then (g.req.legs - g.leg) * 4 - g.tries + 2 else if g.phase = 1 then 1 else 0
def boundM (s : Sta) : Int := sumI (s.sags.map mostM)
theorem SagR.most {g : Sag} (h : SagR g) : 1 ≤ mostM g ∧ mostM g ≤ 18 := by
  have l := h.l
  have n := h.n
  have t := h.t
  unfold mostM
  rcases h.p with p | p
  · have f := h.f p
    have tl := h.tl p
    rw [if_pos p]; omega
  · rw [if_neg (by omega), if_pos p]; omega
theorem bound_len {s : Sta} (h : EngG s) : (s.sags.length : Int) ≤ boundM s ∧ boundM s ≤ 18 * s.sags.length := by
  have hh := h.sr
  unfold boundM
  generalize s.sags = l at hh
  induction l with
  | nil => simp [sumI]
  | cons g l ih =>
    have := (hh g (List.mem_cons_self ..)).most
    have := ih fun g hg => hh g (List.mem_cons_of_mem _ hg)
    simp only [List.map_cons, sumI, List.length_cons]
    omega
theorem sumI_erase {α : Type} (f : α → Int) : ∀ {l : List α} {k : Nat} {x : α}, l[k]? = some x → sumI ((l.eraseIdx k).map f) = sumI (l.map f) - f x
  | [], _, _, h => by simp at h
  | y :: l, 0, x, h => by
    simp at h; subst h
    simp [sumI]
    omega
  | y :: l, k + 1, x, h => by
    have := sumI_erase f (l := l) (k := k) (x := x) (by simpa using h)
    simp only [List.eraseIdx_cons_succ, List.map_cons, sumI]
    omega
theorem find_sag {s : Sta} (h : EngS s) {k : Nat} {g : Sag} (hg : s.sags[k]? = some g) : findG s.sags g.req.key = k := findG_at hg rfl fun j q hj hq hk => by
  have := h.sd j k q.req g.req (by rw [List.getElem?_map, hq]; rfl) (by rw [List.getElem?_map, hg]; rfl) hk
  omega
theorem step_at {s : Sta} (h : EngS s) {k : Nat} {g : Sag} (hg : s.sags[k]? = some g) {e : Evt} (hw : e.what = 1) (hk : e.key = g.req.key) : engM s e = stepG s k g e.ok := by
  have hf := find_sag h hg
  unfold engM
  rw [if_neg (by omega), if_pos hw]
  unfold stepM
  rw [hk, hf, if_neg (by omega), show ((k : Nat) : Int).toNat = k by omega, hg]
theorem end_sags {s : Sta} (h : EngS s) {k : Nat} {g : Sag} (hg : s.sags[k]? = some g) (o : Rep) : (endR s k g o).1.sags = s.sags.eraseIdx k := by
  obtain ⟨l, hl, -⟩ := h.fin hg o.1 o.2
  unfold endR
  rw [hl]
/-- What a step makes of its saga. -/
theorem stepG_sags {s : Sta} (h : EngG s) {k : Nat} {g : Sag} (hg : s.sags[k]? = some g) (ok : Bool) : (stepG s k g ok).1.sags = s.sags.eraseIdx k ∨ ∃ g', (stepG s k g ok).1.sags = s.sags.set k g' ∧ mostM g' < mostM g := by
  have hR := h.sr g (List.mem_of_getElem? hg)
  unfold stepG
  split
  · obtain ⟨u1, u2, u3, u4, -⟩ := undo_len s g.req
    rw [end_sags (h.e.acc (t := undoD s g.req) (by rw [u1]; exact h.e.z.la) (by rw [u2]; exact h.e.z.lp) u3 u4) (by rw [u3]; exact hg), u3]
    exact .inl rfl
  rename_i hp
  have h0 : g.phase = 0 := hR.p.resolve_right hp
  split
  · rename_i hrd
    have hge : g.leg ≥ g.req.legs := by simpa [readyM, h0] using hrd
    split
    · rename_i t ht
      obtain ⟨u1, u2, u3, u4, -⟩ := settle_len ht
      rw [end_sags (h.e.acc (t := t) (by rw [u1]; exact h.e.z.la) (by rw [u2]; exact h.e.z.lp) u3 u4) (by rw [u3]; exact hg), u3]
      exact .inl rfl
    · refine .inr ⟨_, rfl, ?_⟩
      have := hR.l
      have tl := hR.tl h0
      unfold mostM turnM
      rw [if_pos h0, if_pos h0]
      simp only
      rw [if_neg (by decide), if_pos trivial]
      omega
  · rename_i hrd
    have hrd : readyM g = false := by simpa using hrd
    have hlt : g.leg < g.req.legs := by simp [readyM, h0] at hrd; omega
    have l := hR.l
    have t := hR.t
    have f := hR.f h0
    have n := hR.n
    refine .inr ⟨_, rfl, ?_⟩
    unfold legM
    rw [if_neg (by simp [h0, hrd])]
    cases ok with
    | true =>
      rw [if_pos rfl]
      unfold mostM agreeM
      simp only
      rw [if_pos h0, if_pos h0, w64_of (by omega) (by omega)]
      omega
    | false =>
      rw [if_neg (by decide)]
      unfold refuseM
      rw [w64_of (by omega) (by omega)]
      split
      · unfold mostM
        simp only
        rw [if_neg (by decide), if_pos trivial, if_pos h0]
        omega
      · unfold mostM
        simp only
        rw [if_pos h0, if_pos h0]
        omega
theorem drain_less {s : Sta} (h : EngG s) {k : Nat} {g : Sag} (hg : s.sags[k]? = some g) {e : Evt} (hw : e.what = 1) (hk : e.key = g.req.key) : boundM (engM s e).1 + 1 ≤ boundM s := by
  rw [step_at h.e hg hw hk]
  have hR := (h.sr g (List.mem_of_getElem? hg)).most
  unfold boundM
  rcases stepG_sags h hg e.ok with hs | ⟨g', hs, hl⟩
  · rw [hs, sumI_erase mostM hg]; omega
  · rw [hs, sumI_set mostM g' hg]; omega
/-! ### drain.Run -/
def pickD (s : Sta) (picks : List Int) (n : Nat) : Int := match picks[n % picks.length]? with
  | some x => if x.tmod s.sags.length < 0 then x.tmod s.sags.length + s.sags.length else x.tmod s.sags.length
  | none => 0
def ansD (answers : List Bool) (n : Nat) : Bool := match answers[n % answers.length]? with
  | some b => b
  | none => true
def evD (s : Sta) (picks : List Int) (answers : List Bool) (n : Nat) : Evt := ⟨1, ⟨0, 0, 0, 0, 0, 0, 0⟩, (match s.sags[(pickD s picks n).toNat]? with
  | some g => g.req.key
  | none => 0), ansD answers n⟩
def drainGo (picks : List Int) (answers : List Bool) : Nat → Nat → Sta → Sta × List Evt
  | 0, _, s => (s, [])
  | f + 1, n, s => if s.sags.length = 0 then (s, []) else ((drainGo picks answers f (n + 1) (engM s (evD s picks answers n)).1).1, evD s picks answers n :: (drainGo picks answers f (n + 1) (engM s (evD s picks answers n)).1).2)
def drainM (s : Sta) (picks : List Int) (answers : List Bool) (most : Int) : Sta × List Evt := drainGo picks answers most.toNat 0 s
theorem pickD_in {s : Sta} (h : 0 < s.sags.length) (picks : List Int) (n : Nat) : 0 ≤ pickD s picks n ∧ pickD s picks n < s.sags.length := by
  unfold pickD
  split
  · rename_i x hx
    have h1 := Int.tmod_lt_of_pos x (show (0 : Int) < s.sags.length by omega)
    have h2 : -(s.sags.length : Int) < x.tmod s.sags.length := by
      rcases Int.le_total 0 x with hx | hx
      · have := Int.tmod_nonneg s.sags.length hx; omega
      · have e : x = -(-x) := by omega
        rw [e, Int.neg_tmod]
        have := Int.tmod_lt_of_pos (-x) (show (0 : Int) < s.sags.length by omega)
        omega
    split <;> omega
  · omega
theorem evD_sag {s : Sta} (h : 0 < s.sags.length) (picks : List Int) (answers : List Bool) (n : Nat) : ∃ (k : Nat) (g : Sag), (k : Int) = pickD s picks n ∧ s.sags[k]? = some g ∧ (evD s picks answers n).key = g.req.key ∧ (evD s picks answers n).what = 1 := by
  obtain ⟨p0, p1⟩ := pickD_in h picks n
  have hg := List.getElem?_eq_getElem (show (pickD s picks n).toNat < s.sags.length by omega)
  refine ⟨(pickD s picks n).toNat, _, by omega, hg, ?_, rfl⟩
  show (match s.sags[(pickD s picks n).toNat]? with | some g => g.req.key | none => 0) = _
  rw [hg]
theorem drain_G {picks : List Int} {answers : List Bool} : ∀ (f n : Nat) {s : Sta}, EngG s → EngG (drainGo picks answers f n s).1
  | 0, _, _, h => h
  | f + 1, n, s, h => by
    unfold drainGo
    split
    · exact h
    · exact drain_G f (n + 1) (h.eng _)
theorem drain_ends {picks : List Int} {answers : List Bool} : ∀ (f n : Nat) {s : Sta}, EngG s → boundM s ≤ f → (drainGo picks answers f n s).1.sags = [] ∧ ((drainGo picks answers f n s).2.length : Int) ≤ boundM s
  | 0, _, s, h, hb => by
    have := bound_len h
    refine ⟨List.length_eq_zero_iff.1 (by show s.sags.length = 0; omega), by show ((0 : Nat) : Int) ≤ _; omega⟩
  | f + 1, n, s, h, hb => by
    have hl := bound_len h
    unfold drainGo
    split
    · rename_i h0
      exact ⟨List.length_eq_zero_iff.1 h0, by show ((0 : Nat) : Int) ≤ _; omega⟩
    · rename_i h0
      obtain ⟨k, g, -, hg, hk, hw⟩ := evD_sag (Nat.pos_of_ne_zero h0) picks answers n
      have hless := drain_less h hg hw hk
      obtain ⟨r1, r2⟩ := drain_ends (picks := picks) (answers := answers) f (n + 1) (h.eng (evD s picks answers n)) (by omega)
      refine ⟨r1, ?_⟩
      simp only [List.length_cons]
      omega
end Go.Proofs.YtjffmldlkofpaaaGreatDoor.A
