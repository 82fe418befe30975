/- Plain: a transfer of several legs is one of none, where all agree. -/
import Derived.Test.YtkeafcjdejmohaaDoorY6
import Derived.Test.YtkeafcjdejmohaaDoorY17
namespace Go.Proofs.YtkeafcjdejmohaaDoor.A
open Go Q
def zR (r : Req) : Req := ⟨r.key, r.op, r.a, r.b, r.amt, 0, r.til⟩
def zK (k : Kno) : Kno := ⟨zR k.req, k.err, k.id, k.told⟩
/-! ### what is known does not matter -/
theorem doM_kns (s : Sta) (l : List Kno) (r : Req) : doM (withK s l) r = (withK (doM s r).1 l, (doM s r).2) := by
  unfold doM
  split
  · unfold openM; show (if s.accs.length ≥ 64 then _ else _) = _; split <;> rfl
  split
  · unfold depositM postD; show (if isCl s.accs.length r.a = false then _ else match moveM s.accs _ _ _ with | .ok es => tookM (withK s l) (postM s.accs es) | .error e => _) = _
    split
    · rfl
    · cases moveM s.accs (numK 0 (accAt s.accs r.a).cur) r.a r.amt with
      | error e => rfl
      | ok es => simp only; cases postM s.accs es <;> rfl
  split
  · unfold transferM postD; show (if (isCl s.accs.length r.a && isCl s.accs.length r.b) = false then _ else match moveM s.accs _ _ _ with | .ok es => tookM (withK s l) (postM s.accs es) | .error e => _) = _
    split
    · rfl
    · cases moveM s.accs r.a r.b r.amt with
      | error e => rfl
      | ok es => simp only; cases postM s.accs es <;> rfl
  split
  · unfold authM
    show (if (isCl s.accs.length r.a && isCl s.accs.length r.b) = false then _ else if r.a = r.b ∨ r.til ≤ s.now then _ else if s.pays.length ≥ 64 then _ else match holdM s.accs r.a r.amt with | .ok l' => _ | .error e => _) = _
    split
    · rfl
    split
    · rfl
    split
    · rfl
    cases holdM s.accs r.a r.amt <;> rfl
  have hb : bothM (withK s l) r = bothM s r := rfl
  split
  · unfold captureM
    rw [hb]
    cases bothM s r with
    | error e => rfl
    | ok pq =>
      show (match moveM s.accs pq.1.src pq.1.dst r.amt with | .error e => _ | .ok es => payD (withK s l) r.a pq.2 (spendM s.accs r.amt es)) = _
      simp only
      cases moveM s.accs pq.1.src pq.1.dst r.amt with
      | error e => rfl
      | ok es => simp only; cases spendM s.accs r.amt es <;> rfl
  split
  · unfold voidM
    rw [hb]
    cases bothM s r with
    | error e => rfl
    | ok pq =>
      show payD (withK s l) r.a pq.2 (relM s.accs pq.1.src (left pq.1)) = _
      simp only
      cases relM s.accs pq.1.src (left pq.1) <;> rfl
  split
  · unfold refundM
    rw [hb]
    cases bothM s r with
    | error e => rfl
    | ok pq =>
      show (match backD s pq.1 r.amt with | .error e => _ | .ok es => payD (withK s l) r.a pq.2 (postM s.accs es)) = _
      simp only
      cases backD s pq.1 r.amt with
      | error e => rfl
      | ok es => simp only; cases postM s.accs es <;> rfl
  split
  · unfold chargeM
    rw [hb]
    cases bothM s r with
    | error e => rfl
    | ok pq =>
      show (match backD s pq.1 r.amt with | .error e => _ | .ok es => payD (withK s l) r.a pq.2 (postM s.accs (lackE s pq.1 es))) = _
      simp only
      cases backD s pq.1 r.amt with
      | error e => rfl
      | ok es => simp only; cases postM s.accs (lackE s pq.1 es) <;> rfl
  · rfl
/-- Behind its reserve a settlement is the transfer. -/
theorem settle_reserve {s t : Sta} {r : Req} (hA : Acs s.accs) (h : reserveM s r = .ok t) {es : List Ent} (hm : moveM s.accs r.a r.b r.amt = .ok es) : settleM t r = (match postM s.accs es with
    | .ok l => .ok (withA s l)
    | .error e => .error e) := by
  have hu := undo_reserve hA h
  obtain ⟨⟨k9, kl⟩, -, n, -, a, ha, hle, rfl, hA2⟩ := reserve_spec hA h
  have hg : (s.accs.set r.a.toNat ⟨a.cur, a.bal, a.held + r.amt⟩)[r.a.toNat]? = some ⟨a.cur, a.bal, a.held + r.amt⟩ := by
    rw [List.getElem?_set, if_pos rfl, if_pos (List.getElem?_eq_some_iff.1 ha).1]
  have hr := (hA.ok _ a ha)
  have hrel := relM_go (n := r.amt) hA2 k9 n hg (by have := (hr.g (by omega)).1; show r.amt ≤ a.held + r.amt; omega)
  have hback : (s.accs.set r.a.toNat ⟨a.cur, a.bal, a.held + r.amt⟩).set r.a.toNat ⟨a.cur, a.bal, a.held + r.amt - r.amt⟩ = s.accs := by
    have : undoD (withA s (s.accs.set r.a.toNat ⟨a.cur, a.bal, a.held + r.amt⟩)) r = withA s ((s.accs.set r.a.toNat ⟨a.cur, a.bal, a.held + r.amt⟩).set r.a.toNat ⟨a.cur, a.bal, a.held + r.amt - r.amt⟩) := by
      unfold undoD undoM
      show (match (match relM (s.accs.set r.a.toNat ⟨a.cur, a.bal, a.held + r.amt⟩) r.a r.amt with | .error e => Except.error e | .ok l => Except.ok (withA s l)) with | .ok t => t | .error _ => _) = _
      rw [hrel]
    rw [hu] at this
    exact (congrArg Sta.accs this).symm
  obtain ⟨e, el, rfl, he, -⟩ := move_head hm
  unfold settleM
  show (match moveM (s.accs.set r.a.toNat ⟨a.cur, a.bal, a.held + r.amt⟩) r.a r.b r.amt with | .error e => _ | .ok es => (match spendM (s.accs.set r.a.toNat ⟨a.cur, a.bal, a.held + r.amt⟩) r.amt es with | .error e => _ | .ok l => Except.ok (withA s l))) = _
  rw [move_held ha, hm]
  simp only [spendM]
  rw [he, hrel, hback]
  simp only
  cases postM s.accs (e :: el) <;> rfl
/-! ### no leg refuses -/
theorem go_yes : ∀ (f : Nat) (g : Sag) (k : Nat), g.phase = 0 → (wholeGo f g [] k).1.phase = 0
  | 0, _, _, h => h
  | f + 1, g, k, h => by
    unfold wholeGo
    split
    · rename_i hc
      refine go_yes f _ _ ?_
      unfold legM
      rw [if_neg (by simp [h, hc.2]), if_pos (show ([] : List Bool).headD true = true from rfl)]
      exact h
    · exact h
theorem whole_yes {s : Sta} {r : Req} (hA : Acs s.accs) : wholeM s r [] = (match reserveM s r with
    | .error e => (s, (e, 0), 0)
    | .ok _ => (match moveM s.accs r.a r.b r.amt with
      | .error e => (s, (e, 0), 0)
      | .ok es => (match postM s.accs es with
        | .ok l => (withA s l, (0, 0), 0)
        | .error e => (s, (e, 0), 0)))) := by
  unfold wholeM
  cases hr : reserveM s r with
  | error e => rfl
  | ok t =>
    obtain ⟨-, -, -, ⟨es, hm⟩, -⟩ := reserve_spec hA hr
    simp only
    rw [if_pos (go_yes fuel (beginM r) 0 rfl), settle_reserve hA hr hm, undo_reserve hA hr, hm]
    simp only
    cases postM s.accs es <;> simp
theorem out_zero {s : Sta} {r : Req} {X : Int} (hr : AskI r) (hG : GoodA s) (hX : BalX X s.accs) (hX0 : 0 ≤ X) (hXb : X ≤ 1000000000000000) : bankOut s r [] = ((doM s (zR r)).1, (doM s (zR r)).2, 0) := by
  unfold bankOut
  split
  · rename_i hl
    obtain ⟨-, ho⟩ : r.legs > 0 ∧ r.op = 2 := by simpa [longB] using hl
    have hA := hG.acs
    have hd : doM s (zR r) = transferM s (zR r) := by
      unfold doM
      rw [if_neg (by show ¬ r.op = 0; omega), if_neg (by show ¬ r.op = 1; omega), if_pos (show (zR r).op = 2 from ho)]
    rw [hd, whole_yes hA]
    unfold transferM postD
    show _ = ((if (isCl s.accs.length r.a && isCl s.accs.length r.b) = false then (s, 2, 0) else match moveM s.accs r.a r.b r.amt with
      | .ok es => tookM s (postM s.accs es)
      | .error e => (s, e, 0)).1, (if (isCl s.accs.length r.a && isCl s.accs.length r.b) = false then (s, 2, 0) else match moveM s.accs r.a r.b r.amt with
      | .ok es => tookM s (postM s.accs es)
      | .error e => (s, e, 0)).2, 0)
    cases hR : reserveM s r with
    | ok t =>
      obtain ⟨⟨a9, al⟩, ⟨b9, bl⟩, -, ⟨es, hm⟩, -⟩ := reserve_spec hA hR
      rw [if_neg (by rw [isCl_of ⟨a9, al⟩, isCl_of ⟨b9, bl⟩]; decide), hm]
      simp only
      cases postM s.accs es <;> rfl
    | error e =>
      unfold reserveM at hR
      split at hR
      · rename_i hc
        cases hR
        rw [if_pos hc]
      rename_i hc
      rw [if_neg hc]
      split at hR
      · rename_i e' hm
        cases hR
        rw [hm]
      rename_i es hm
      rw [hm]
      split at hR
      · rename_i e' hh
        cases hR
        simp only
        obtain ⟨c1, -⟩ : isCl s.accs.length r.a = true ∧ isCl s.accs.length r.b = true := by simpa using hc
        obtain ⟨a9, al⟩ := is_of c1
        obtain ⟨a, b, ha, hb, -, -, hne, hn, -⟩ := move_form hA hm
        have hfr : freeN a < r.amt ∧ e = 3 := by
          unfold holdM at hh
          rw [if_neg (by simp [c1]), if_neg (by rw [amountB_iff.2 hn]; decide), ha] at hh
          simp only at hh
          split at hh
          · rename_i hlt
            cases hh; exact ⟨hlt, rfl⟩
          · cases hh
        obtain ⟨l, k1, k2, k3, kb⟩ := move_fit hA hX hX0 hXb hm hr.n.2
        have hR := hA.ok _ a ha
        have hh := hR.held
        have hbl := hX _ a ha
        rw [hR.free] at hfr
        have hla := k3 _ a ha
        rw [show ((r.a.toNat : Nat) : Int) = r.a by omega, move_at_x hA a9 hm] at hla
        have hlk : lacks l = true := lacks_at hla (by omega) (by
          unfold freeN
          simp only
          rw [w64_of (by omega) (by omega)]; omega)
        have hp : postM s.accs es = .error 3 := by
          unfold postM
          rw [if_neg (by rw [kb]; decide), k1]
          simp only
          rw [if_pos hlk]
        rw [hp, hfr.2]
        rfl
      · cases hR
  · rename_i hl
    have hz : zR r = r := by
      have h0 : r.legs = 0 := by
        by_cases h2 : r.op = 2
        · have := hr.l
          simp [longB, h2] at hl; omega
        · exact hr.l2 h2
      unfold zR
      cases r; simp_all
    rw [hz]
/-! ### two banks -/
theorem find_z (ks : List Kno) (key : Int) : ∀ o, findK (ks.map zK) key o = findK ks key o := by
  induction ks with
  | nil => exact fun _ => rfl
  | cons k ks ih =>
    intro o
    show (if k.req.key = key then o else findK (ks.map zK) key (o + 1)) = if k.req.key = key then o else findK ks key (o + 1)
    rw [ih]
theorem kns_good {s : Sta} (h : GoodA s) (ks : List Kno) : GoodA (withK s ks) := ⟨h.acs, h.pay, h.sga, h.hold, h.now⟩
structure LegI (X : Int) (s : Sta) : Prop where
  kn : KnsI s.kns
  g : GoodA s
  bx : BalX X s.accs
  z : SzK s
  sg : s.sags = []
abbrev zS (s : Sta) : Sta := withK s (s.kns.map zK)
theorem legs_step {X : Int} {s : Sta} {r : Req} (h : LegI X s) (hr : AskI r) (hX0 : 0 ≤ X) (hXb : X ≤ 1000000000000000) :
    (bankM (zS s) (zR r) []).2.2 = 0 ∧ ((bankM s r []).2.1.1 = 5 ∨ (bankM (zS s) (zR r) []).2.1.1 = 5 ∨
      ((bankM (zS s) (zR r) []).2.1 = (bankM s r []).2.1 ∧ (bankM (zS s) (zR r) []).1 = zS (bankM s r []).1 ∧ LegI (X + 1600000) (bankM s r []).1)) := by
  have hm := hr.may
  have hmz : mayR (zR r) = true := mayR_yes (by have := hr.k; show 0 ≤ r.key ∧ r.key < _; omega) ⟨by show (0 : Int) ≤ 0; decide, by show (0 : Int) ≤ 4; decide⟩ (by have := hr.u; show 0 ≤ r.til ∧ r.til ≤ _; omega) (fun hl => absurd (show (0 : Int) > 0 from hl) (by decide)) (fun h0 => by have := hr.a0 h0; show 0 ≤ r.a ∧ r.a < 3; omega) hr.o (amountB_iff.2 (by have := hr.n; show 1 ≤ r.amt ∧ r.amt ≤ _; omega))
  have hsame : LegI (X + 1600000) s := ⟨h.kn, h.g, h.bx.mono (by omega), h.z, h.sg⟩
  rcases find_cases s.kns r.key with ⟨h1, h2⟩ | ⟨i, k, h1, h2, h3, -⟩
  · have hl := h.kn.room hr.k h2
    have h1z : findK (zS s).kns (zR r).key 0 = -1 := (find_z s.kns r.key 0).trans h1
    have hlz : (zS s).kns.length < 256 := by show (s.kns.map zK).length < 256; simp; exact hl
    rw [bank_new [] hm h1 hl, bank_new [] hmz h1z hlz]
    have hGz : GoodA (zS s) := kns_good h.g _
    have hz2 : bankOut (zS s) (zR r) [] = ((doM (zS s) (zR r)).1, (doM (zS s) (zR r)).2, 0) := by
      unfold bankOut
      rw [if_neg (by simp [longB, zR])]
    rw [hz2, out_zero hr h.g h.bx hX0 hXb, doM_kns]
    have hst := doM_step s (zR r)
    have hlp := doM_lp s (zR r) h.z.lp (by decide)
    dsimp only
    refine ⟨rfl, .inr (.inr ⟨rfl, ?_, ?_⟩)⟩
    · refine sta_ext ⟨rfl, rfl, rfl, ?_, rfl⟩
      show s.kns.map zK ++ [_] = (s.kns ++ [_]).map zK
      rw [List.map_append]; rfl
    · refine ⟨kns_snoc h.kn hr h2 _ _, kns_good (good_do h.g ⟨fun h0 => by have := hr.a0 h0; exact this, by have := hr.u; show r.til ≤ _; omega⟩) _, doM_bal h.g hr.n.2 hX0 h.bx, ⟨hst.la64 h.z.la, hlp, ?_⟩, hst.sags.trans h.sg⟩
      show (s.kns ++ [_]).length ≤ 256
      simp; omega
  · have ht := h.kn.told k (List.mem_of_getElem? h2)
    have h1z : findK (zS s).kns (zR r).key 0 = i := (find_z s.kns r.key 0).trans h1
    have h2z : (zS s).kns[i]? = some (zK k) := by show (s.kns.map zK)[i]? = _; rw [List.getElem?_map, h2]; rfl
    rw [bank_old [] hm h1 h2 ht, bank_old [] hmz h1z h2z ht]
    refine ⟨rfl, ?_⟩
    by_cases hk : k.req = r
    · rw [if_pos hk, if_pos (show (zK k).req = zR r from congrArg zR hk)]
      exact .inr (.inr ⟨rfl, rfl, hsame⟩)
    · rw [if_neg hk]
      exact .inl rfl
end Go.Proofs.YtkeafcjdejmohaaDoor.A
