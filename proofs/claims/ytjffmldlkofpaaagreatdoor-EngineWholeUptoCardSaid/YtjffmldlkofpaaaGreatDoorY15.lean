/- Plain: an engine whose requests come to their ends one by one is a bank. -/
import Derived.Test.YtjffmldlkofpaaaGreatDoorY10
import Derived.Test.YtjffmldlkofpaaaGreatDoorY12
namespace Go.Proofs.YtjffmldlkofpaaaGreatDoor.A
open Go Q
/-! ### nothing tells that it is pending -/
theorem conv_10 {n p q e : Int} (h : convM n p q = .error e) : e ≠ 10 := by
  unfold convM at h
  repeat' split at h
  all_goals first | (cases h; done) | (cases h; decide)
theorem move_10 {al : List Acc} {x y n e : Int} (h : moveM al x y n = .error e) : e ≠ 10 := by
  unfold moveM at h
  repeat' split at h
  all_goals first | (cases h; done) | (cases h; decide) | (cases h; exact conv_10 (by assumption))
theorem hold_10 {al : List Acc} {k n e : Int} (h : holdM al k n = .error e) : e ≠ 10 := by
  unfold holdM at h
  repeat' split at h
  all_goals first | (cases h; done) | (cases h; decide)
theorem rel_10 {al : List Acc} {k n e : Int} (h : relM al k n = .error e) : e ≠ 10 := by
  unfold relM at h
  repeat' split at h
  all_goals first | (cases h; done) | (cases h; decide)
theorem postGo_10 : ∀ {es : List Ent} {al : List Acc} {x : Int}, postGo al es = .error x → x ≠ 10
  | [], al, x, h => by cases h
  | e :: es, al, x, h => by
    rw [postGo_cons] at h
    split at h
    · split at h
      · exact postGo_10 h
      · rename_i x' hx
        cases h
        unfold addM at hx
        split at hx
        · cases hx
        · cases hx; decide
    · cases h; decide
theorem postM_10 {es : List Ent} {al : List Acc} {x : Int} (h : postM al es = .error x) : x ≠ 10 := by
  unfold postM at h
  split at h
  · cases h; decide
  split at h
  · split at h
    · cases h; decide
    · cases h
  · rename_i e he
    cases h; exact postGo_10 he
theorem spend_10 {al : List Acc} {n x : Int} {es : List Ent} (h : spendM al n es = .error x) : x ≠ 10 := by
  cases es with
  | nil => cases h; decide
  | cons e es =>
    simp only [spendM] at h
    split at h
    · exact postM_10 h
    · rename_i y hy
      cases h; exact rel_10 hy
theorem doP_10 {p : Pay} {op n e : Int} (h : doP p op n = .error e) : e ≠ 10 := by
  unfold doP at h
  repeat' split at h
  all_goals first | (cases h; done) | (cases h; decide)
theorem both_10 {s : Sta} {r : Req} {e : Int} (h : bothM s r = .error e) : e ≠ 10 := by
  unfold bothM at h
  split at h
  · cases h; decide
  split at h
  · split at h
    · cases h
    · rename_i x hx
      cases h; exact doP_10 hx
  · cases h; decide
theorem back_10 {s : Sta} {p : Pay} {n e : Int} (h : backD s p n = .error e) : e ≠ 10 := by
  unfold backD at h
  split at h
  · cases h
  · rename_i x hx
    cases h; exact move_10 hx
theorem payD_10 {s : Sta} {k : Int} {p : Pay} {x : Except Int (List Acc)} (h : ∀ e, x = .error e → e ≠ 10) : (payD s k p x).2.1 ≠ 10 := by
  cases x with
  | error e => exact h e rfl
  | ok l => exact (by decide : (0 : Int) ≠ 10)
theorem postD_10 (s : Sta) (x y n : Int) : (postD s x y n).2.1 ≠ 10 := by
  unfold postD
  split
  · rename_i es _
    cases hp : postM s.accs es with
    | error e => exact postM_10 hp
    | ok l => exact (by decide : (0 : Int) ≠ 10)
  · rename_i e he
    exact move_10 he
theorem doM_10 (s : Sta) (r : Req) : (doM s r).2.1 ≠ 10 := by
  have z : (0 : Int) ≠ 10 := by decide
  unfold doM
  split
  · unfold openM; split
    · exact (by decide : (7 : Int) ≠ 10)
    · exact z
  split
  · unfold depositM; split
    · exact (by decide : (2 : Int) ≠ 10)
    · exact postD_10 s _ _ _
  split
  · unfold transferM; split
    · exact (by decide : (2 : Int) ≠ 10)
    · exact postD_10 s _ _ _
  split
  · unfold authM; split
    · exact (by decide : (2 : Int) ≠ 10)
    split
    · exact (by decide : (1 : Int) ≠ 10)
    split
    · exact (by decide : (7 : Int) ≠ 10)
    split
    · exact z
    · rename_i e he
      exact hold_10 he
  split
  · unfold captureM; split
    · rename_i e he
      exact both_10 he
    split
    · rename_i e he
      exact move_10 he
    · exact payD_10 fun e he => spend_10 he
  split
  · unfold voidM; split
    · rename_i e he
      exact both_10 he
    · exact payD_10 fun e he => rel_10 he
  split
  · unfold refundM; split
    · rename_i e he
      exact both_10 he
    split
    · rename_i e he
      exact back_10 he
    · exact payD_10 fun e he => postM_10 he
  split
  · unfold chargeM; split
    · rename_i e he
      exact both_10 he
    split
    · rename_i e he
      exact back_10 he
    · exact payD_10 fun e he => postM_10 he
  · exact (by decide : (1 : Int) ≠ 10)
theorem reserve_10 {s : Sta} {r : Req} {e : Int} (h : reserveM s r = .error e) : e ≠ 10 := by
  unfold reserveM at h
  split at h
  · cases h; decide
  split at h
  · rename_i x hx
    cases h; exact move_10 hx
  split at h
  · rename_i x hx
    cases h; exact hold_10 hx
  · cases h
theorem settle_10 {s : Sta} {r : Req} {e : Int} (h : settleM s r = .error e) : e ≠ 10 := by
  unfold settleM at h
  split at h
  · rename_i x hx
    cases h; exact move_10 hx
  split at h
  · rename_i x hx
    cases h; exact spend_10 hx
  · cases h
/-! ### one saga, step by step -/
def stE (r : Req) (ok : Bool) : Evt := ⟨1, ⟨0, 0, 0, 0, 0, 0, 0⟩, r.key, ok⟩
def whGo (r : Req) (legs : List Bool) : Nat → Nat → Sta × Rep → Sta × Rep
  | 0, _, p => p
  | f + 1, k, p => if p.2.1 = 10 then whGo r legs f (k + 1) (engM p.1 (stE r ((legs.drop k).headD true))) else p
def xS (t : Sta) (ks : List Kno) (r : Req) (g : Sag) : Sta := ⟨t.accs, t.pays, [g], ks ++ [⟨r, 0, 0, false⟩], t.now⟩
def eS (t : Sta) (ks : List Kno) (r : Req) (o : Rep) : Sta := ⟨t.accs, t.pays, [], ks ++ [⟨r, o.1, o.2, true⟩], t.now⟩
theorem x_step (t : Sta) (ks : List Kno) {r : Req} {g : Sag} (hg : g.req = r) (ok : Bool) : engM (xS t ks r g) (stE r ok) = stepG (xS t ks r g) 0 g ok := by
  have hf : findG [g] r.key = ((0 : Nat) : Int) := findG_at (gs := [g]) (i := 0) rfl (by rw [hg]) (fun j q hj => absurd hj (Nat.not_lt_zero _))
  unfold engM
  rw [if_neg (by show ¬ (1 : Int) = 0; decide), if_pos (show (stE r ok).what = 1 from rfl)]
  unfold stepM
  have hf : findG (xS t ks r g).sags (stE r ok).key = ((0 : Nat) : Int) := hf
  rw [hf, if_neg (by decide)]
  rfl
theorem x_end {ks : List Kno} {r : Req} (hp : putKM ks r = .ok (ks ++ [⟨r, 0, 0, false⟩])) (t : Sta) {g : Sag} (hg : g.req = r) (o : Rep) : endR (xS t ks r g) 0 g o = (eS t ks r o, o) := by
  have ht : tellM (xS t ks r g).kns g.req.key o.1 o.2 = .ok (ks ++ [⟨r, o.1, o.2, true⟩]) := by rw [hg]; exact tell_put hp _ _
  unfold endR
  rw [ht]
  rfl
theorem x_settle (t : Sta) (ks : List Kno) (r : Req) (g : Sag) : settleM (xS t ks r g) r = (match settleM t r with
    | .ok u => .ok (xS u ks r g)
    | .error e => .error e) := by
  unfold settleM
  show (match moveM t.accs r.a r.b r.amt with | .error e => _ | .ok es => (match spendM t.accs r.amt es with | .error e => _ | .ok l => Except.ok (withA (xS t ks r g) l))) = _
  cases moveM t.accs r.a r.b r.amt with
  | error e => rfl
  | ok es =>
    simp only
    cases spendM t.accs r.amt es <;> rfl
theorem x_undo (t : Sta) (ks : List Kno) (r : Req) (g : Sag) : undoD (xS t ks r g) r = xS (undoD t r) ks r g := by
  unfold undoD undoM
  show (match (match relM t.accs r.a r.amt with | .error e => Except.error e | .ok l => Except.ok (withA (xS t ks r g) l)) with | .ok t => t | .error _ => _) = _
  cases relM t.accs r.a r.amt <;> rfl
theorem wh_legs {ks : List Kno} {r : Req} (t : Sta) (legs : List Bool) : ∀ (f : Nat) (g : Sag) (k F : Nat), g.req = r → (k ≤ (wholeGo f g (legs.drop k) k).2 ∧ (wholeGo f g (legs.drop k) k).2 ≤ k + f ∧ (wholeGo f g (legs.drop k) k).1.req = r) ∧
    whGo r legs (F + ((wholeGo f g (legs.drop k) k).2 - k)) k (xS t ks r g, (10, 0)) = whGo r legs F (wholeGo f g (legs.drop k) k).2 (xS t ks r (wholeGo f g (legs.drop k) k).1, (10, 0))
  | 0, g, k, F, hg => by
    refine ⟨⟨Nat.le_refl _, Nat.le_refl _, hg⟩, ?_⟩
    show whGo r legs (F + (k - k)) k _ = _
    rw [Nat.sub_self]; rfl
  | f + 1, g, k, F, hg => by
    unfold wholeGo
    split
    · rename_i hc
      have ht : (legs.drop k).tail = legs.drop (k + 1) := List.tail_drop
      rw [ht]
      obtain ⟨⟨i1, i2, i3⟩, i4⟩ := wh_legs (ks := ks) (r := r) t legs f (legM g ((legs.drop k).headD true)) (k + 1) F (by rw [leg_req]; exact hg)
      refine ⟨⟨by omega, by omega, i3⟩, ?_⟩
      generalize wholeGo f (legM g ((legs.drop k).headD true)) (legs.drop (k + 1)) (k + 1) = w at i1 i2 i3 i4 ⊢
      rw [show F + (w.2 - k) = (F + (w.2 - (k + 1))) + 1 by omega]
      rw [whGo, if_pos rfl]
      have hs : engM (xS t ks r g) (stE r ((legs.drop k).headD true)) = (xS t ks r (legM g ((legs.drop k).headD true)), (10, 0)) := by
        rw [x_step t ks hg]
        unfold stepG
        rw [if_neg (by rw [hc.1]; decide), if_neg (by rw [hc.2]; decide)]
        rfl
      rw [hs]
      exact i4
    · refine ⟨⟨Nat.le_refl _, by show k ≤ k + (f + 1); omega, hg⟩, ?_⟩
      show whGo r legs (F + (k - k)) k _ = _
      rw [Nat.sub_self]; rfl
theorem go_ends : ∀ (f : Nat) (g : Sag) (ls : List Bool) (k : Nat), SagI g → muG g ≤ f → SagI (wholeGo f g ls k).1 ∧ ¬ ((wholeGo f g ls k).1.phase = 0 ∧ readyM (wholeGo f g ls k).1 = false)
  | 0, g, ls, k, hI, hm => by
    refine ⟨hI, fun ⟨h0, hr⟩ => ?_⟩
    have h0 : g.phase = 0 := h0
    have := (sagI_leg hI h0 hr true).2.1
    omega
  | f + 1, g, ls, k, hI, hm => by
    unfold wholeGo
    split
    · rename_i hc
      obtain ⟨q1, q2, -⟩ := sagI_leg hI hc.1 hc.2 (ls.headD true)
      exact go_ends f _ _ _ q1 (by omega)
    · rename_i hc
      exact ⟨hI, hc⟩
theorem leg_10 {g : Sag} (h : g.why ≠ 10) (ok : Bool) : (legM g ok).why ≠ 10 := by
  unfold legM agreeM refuseM
  repeat' split
  all_goals first | exact h | exact (by decide : (9 : Int) ≠ 10)
theorem why_10 : ∀ (f : Nat) (g : Sag) (ls : List Bool) (k : Nat), g.why ≠ 10 → (wholeGo f g ls k).1.why ≠ 10
  | 0, _, _, _, h => h
  | f + 1, g, ls, k, h => by
    unfold wholeGo
    split
    · exact why_10 f _ _ _ (leg_10 h _)
    · exact h
structure WhI (s : Sta) : Prop where
  kn : KnsI s.kns
  k10 : ∀ k ∈ s.kns, k.err ≠ 10
  g : GoodA s
  z : SzK s
  sg : s.sags = []
theorem sta_of {s t : Sta} (h1 : s.accs = t.accs) (h2 : s.pays = t.pays) (h3 : s.sags = t.sags) (h4 : s.kns = t.kns) (h5 : s.now = t.now) : s = t := sta_ext ⟨h1, h2, h3, h4, h5⟩
/-- A bank's outcome, and what it keeps. -/
theorem wh_bank {s : Sta} {r : Req} (legs : List Bool) (h : WhI s) (hr : AskI r) : WhI (bankM s r legs).1 ∧ (bankM s r legs).2.1.1 ≠ 10 := by
  have hm := hr.may
  have hsz := (bank_sz h.z r legs).1
  rcases find_cases s.kns r.key with ⟨h1, h2⟩ | ⟨i, k, h1, h2, h3, -⟩
  · have hl := h.kn.room hr.k h2
    have hb := bank_new legs hm h1 hl
    have ho : (bankOut s r legs).2.1.1 ≠ 10 ∧ GoodA (bankOut s r legs).1 ∧ (bankOut s r legs).1.sags = [] := by
      unfold bankOut
      split
      · unfold wholeM
        split
        · rename_i e he
          exact ⟨reserve_10 he, h.g, h.sg⟩
        · rename_i t hR
          have hu := undo_reserve h.g.acs hR
          obtain ⟨r1, r2, r3, r4, r5⟩ := reserve_len hR
          obtain ⟨⟨k9, kl⟩, -, n, ⟨es, hmv⟩, -⟩ := reserve_spec h.g.acs hR
          have hI := go_ends fuel (beginM r) legs 0 (begin_I hr.l.1 hr.l.2) (by
            unfold muG
            rw [if_pos (show (beginM r).phase = 0 from rfl)]
            have := hr.l
            show ((r.legs - 0) * 5 + (4 - 0)).toNat ≤ 30
            omega)
          split
          · split
            · rename_i u hS
              refine ⟨show (0 : Int) ≠ 10 by decide, ?_, ?_⟩
              · rw [settle_reserve h.g.acs hR hmv] at hS
                cases hp : postM s.accs es with
                | error e => rw [hp] at hS; cases hS
                | ok l =>
                  rw [hp] at hS
                  cases hS
                  obtain ⟨p1, p2, p3⟩ := postM_acs h.g.acs hp
                  exact good_accs h.g p2 p1 p3
              · obtain ⟨-, -, u3, -⟩ := settle_len hS
                show u.sags = []
                rw [u3, r3]; exact h.sg
            · rename_i e he
              refine ⟨settle_10 he, ?_, ?_⟩
              · show GoodA (undoD t r)
                rw [hu]; exact h.g
              · show (undoD t r).sags = []
                rw [hu]; exact h.sg
          · refine ⟨?_, ?_, ?_⟩
            · exact why_10 fuel (beginM r) legs 0 (by show (0 : Int) ≠ 10; decide)
            · show GoodA (undoD t r)
              rw [hu]; exact h.g
            · show (undoD t r).sags = []
              rw [hu]; exact h.sg
      · exact ⟨doM_10 s r, good_do h.g ⟨fun h0 => hr.a0 h0, by have := hr.u; omega⟩, (doM_step s r).sags.trans h.sg⟩
    obtain ⟨o1, o2, o3⟩ := ho
    rw [hb] at hsz ⊢
    refine ⟨⟨kns_snoc h.kn hr h2 _ _, fun k hk => ?_, ⟨o2.acs, o2.pay, o2.sga, o2.hold, o2.now⟩, hsz, o3⟩, o1⟩
    rcases List.mem_append.1 hk with hk | hk
    · exact h.k10 k hk
    · rw [List.mem_singleton.1 hk]; exact o1
  · have ht := h.kn.told k (List.mem_of_getElem? h2)
    rw [bank_old legs hm h1 h2 ht]
    refine ⟨h, ?_⟩
    show (if k.req = r then (k.err, k.id) else (5, 0)).1 ≠ 10
    split
    · exact h.k10 k (List.mem_of_getElem? h2)
    · decide
/-- An engine's steps come to what a bank does. -/
theorem wh_law {s : Sta} {r : Req} (legs : List Bool) (h : WhI s) (hr : AskI r) (e : Evt) (he : e.what = 0) (her : e.req = r) : whGo r legs 40 0 (engM s e) = ((bankM s r legs).1, (bankM s r legs).2.1) := by
  have hm := hr.may
  have hE : engM s e = submitM s e := by unfold engM; rw [if_pos he]
  have stop : ∀ p : Sta × Rep, p.2.1 ≠ 10 → whGo r legs 40 0 p = p := fun p hp => by
    show (if p.2.1 = 10 then _ else p) = p
    rw [if_neg hp]
  rw [hE]
  unfold submitM
  rw [her, if_neg (by simp [hm])]
  rcases find_cases s.kns r.key with ⟨h1, h2⟩ | ⟨i, k, h1, h2, h3, -⟩
  · have hl := h.kn.room hr.k h2
    have hp := put_none h1 hl
    rw [ask_none h1, if_neg (by decide), if_neg (by rw [h.sg]; rintro ⟨-, h⟩; exact absurd h (by decide)), hp, bank_new legs hm h1 hl]
    simp only
    unfold bankOut
    cases hlg : longB r with
    | false =>
      rw [if_neg (by decide), if_neg (by decide)]
      exact stop _ (doM_10 s r)
    | true =>
      rw [if_pos rfl, if_pos rfl]
      unfold wholeM
      cases hR : reserveM s r with
      | error x => exact stop _ (reserve_10 hR)
      | ok t =>
        obtain ⟨r1, r2, r3, r4, r5⟩ := reserve_len hR
        have hx : (withS (withK t (s.kns ++ [⟨r, 0, 0, false⟩])) (s.sags ++ [beginM r])) = xS t s.kns r (beginM r) := by rw [h.sg]; rfl
        simp only
        rw [hx]
        obtain ⟨⟨i1, i2, i3⟩, i4⟩ := wh_legs (ks := s.kns) (r := r) t legs fuel (beginM r) 0 (40 - (wholeGo fuel (beginM r) legs 0).2) rfl
        rw [List.drop_zero] at i1 i2 i3 i4
        obtain ⟨hI, hd⟩ := go_ends fuel (beginM r) legs 0 (begin_I hr.l.1 hr.l.2) (by
          unfold muG
          rw [if_pos (show (beginM r).phase = 0 from rfl)]
          have := hr.l
          show ((r.legs - 0) * 5 + (4 - 0)).toNat ≤ 30
          omega)
        have hle : (wholeGo fuel (beginM r) legs 0).2 ≤ 30 := by
          have : (wholeGo fuel (beginM r) legs 0).2 ≤ 0 + fuel := i2
          exact Nat.le_trans this (by decide)
        rw [Nat.sub_zero, show 40 - (wholeGo fuel (beginM r) legs 0).2 + (wholeGo fuel (beginM r) legs 0).2 = 40 by omega] at i4
        have w10 := why_10 fuel (beginM r) legs 0 (show (0 : Int) ≠ 10 by decide)
        rw [i4]
        generalize wholeGo fuel (beginM r) legs 0 = w at hI hd i3 hle w10 ⊢
        obtain ⟨g, n⟩ := w
        simp only at hI hd i3 hle w10 ⊢
        obtain ⟨F, hF⟩ : ∃ F, 40 - n = F + 2 := ⟨40 - n - 2, by omega⟩
        have undo : ∀ (g : Sag) (ok : Bool), g.req = r → g.phase = 1 → engM (xS t s.kns r g) (stE r ok) = (eS (undoD t r) s.kns r (g.why, 0), (g.why, 0)) := fun g ok hg h1 => by
          rw [x_step t s.kns hg]
          unfold stepG
          rw [if_pos h1, hg, x_undo, x_end hp (undoD t r) hg]
        rw [hF, whGo, if_pos rfl]
        by_cases h0 : g.phase = 0
        · have hrd : readyM g = true := by
            cases hc : readyM g with
            | true => rfl
            | false => exact absurd ⟨h0, hc⟩ hd
          rw [if_pos h0, x_step t s.kns i3]
          unfold stepG
          rw [if_neg (by rw [h0]; decide), if_pos hrd, i3, x_settle]
          cases hS : settleM t r with
          | ok u =>
            simp only
            rw [x_end hp u i3, whGo, if_neg (show ¬ (0 : Int) = 10 by decide)]
            obtain ⟨u1, u2, u3, u4, u5⟩ := settle_len hS
            exact Prod.ext (sta_of rfl rfl (by show [] = u.sags; rw [u3, r3, h.sg]) rfl rfl) rfl
          | error x =>
            simp only
            rw [whGo, if_pos rfl]
            have ht : turnM g x = ⟨g.req, 1, g.leg, g.tries, x⟩ := by unfold turnM; rw [if_pos h0]
            have hst : withS (xS t s.kns r g) ((xS t s.kns r g).sags.set 0 (turnM g x)) = xS t s.kns r (turnM g x) := rfl
            rw [hst, undo (turnM g x) _ (by rw [turn_req]; exact i3) (by rw [ht])]
            have hw : (turnM g x).why = x := by rw [ht]
            rw [hw]
            have fin : whGo r legs F (n + 1 + 1) (eS (undoD t r) s.kns r (x, 0), (x, 0)) = (eS (undoD t r) s.kns r (x, 0), (x, 0)) := by
              cases F with
              | zero => rfl
              | succ F => rw [whGo, if_neg (settle_10 hS)]
            rw [fin]
            obtain ⟨u1, u2, u3, u4, u5⟩ := undo_len t r
            exact Prod.ext (sta_of rfl rfl (by show [] = (undoD t r).sags; rw [u3, r3, h.sg]) rfl rfl) rfl
        · have h1 : g.phase = 1 := hI.p.resolve_left h0
          rw [if_neg h0, undo g _ i3 h1, whGo, if_neg w10]
          obtain ⟨u1, u2, u3, u4, u5⟩ := undo_len t r
          exact Prod.ext (sta_of rfl rfl (by show [] = (undoD t r).sags; rw [u3, r3, h.sg]) rfl rfl) rfl
  · have ht := h.kn.told k (List.mem_of_getElem? h2)
    rw [ask_known h1 h2 ht, if_pos rfl, bank_old legs hm h1 h2 ht]
    refine stop _ ?_
    show (if k.req = r then (k.err, k.id) else (5, 0)).1 ≠ 10
    split
    · exact h.k10 k (List.mem_of_getElem? h2)
    · decide
end Go.Proofs.YtjffmldlkofpaaaGreatDoor.A
