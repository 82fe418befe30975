/- Plain: it does not matter which saga goes on first. -/
import Derived.Test.YtjffmldlkofpaaaGreatDoorY13
import Derived.Test.YtjffmldlkofpaaaGreatDoorY17
import Derived.Test.YtjffmldlkofpaaaGreatDoorM35
namespace Go.Proofs.YtjffmldlkofpaaaGreatDoor.A
open Go Q
/-! ### accounts keep their currencies -/
def CurX (l l' : List Acc) : Prop := l.length ≤ l'.length ∧ ∀ (i : Nat) (a : Acc), l[i]? = some a → ∃ a', l'[i]? = some a' ∧ a'.cur = a.cur
theorem CurX.refl (l : List Acc) : CurX l l := ⟨Nat.le_refl _, fun _ a h => ⟨a, h, rfl⟩⟩
theorem curX_of {l l' : List Acc} (hl : l'.length = l.length) (h : ∀ (i : Nat) (a : Acc), l[i]? = some a → ∃ a', l'[i]? = some a' ∧ a'.cur = a.cur) : CurX l l' := ⟨Nat.le_of_eq hl.symm, h⟩
theorem curX_set {l : List Acc} {k : Nat} {a : Acc} (ha : l[k]? = some a) (x y : Int) : CurX l (l.set k ⟨a.cur, x, y⟩) := by
  refine ⟨Nat.le_of_eq (List.length_set ..).symm, fun i q hq => ?_⟩
  rw [List.getElem?_set]
  split
  · rename_i hi
    subst hi
    rw [if_pos (List.getElem?_eq_some_iff.1 hq).1]
    rw [ha] at hq
    obtain rfl := Option.some.inj hq
    exact ⟨_, rfl, rfl⟩
  · exact ⟨q, hq, rfl⟩
theorem CurX.trans {l m n : List Acc} (h : CurX l m) (k : CurX m n) : CurX l n := ⟨Nat.le_trans h.1 k.1, fun i a ha => by
  obtain ⟨b, hb, e⟩ := h.2 i a ha
  obtain ⟨c, hc, e2⟩ := k.2 i b hb
  exact ⟨c, hc, e2.trans e⟩⟩
def moveV (x y n c d : Int) : Except Int (List Ent) :=
  if x = y ∨ amountB n = false then .error 1
  else if c = d then .ok [⟨x, -n⟩, ⟨y, n⟩]
  else if numK 1 c < 0 ∨ numK 1 d < 0 then .error 2
  else match convM n (rateN c d).1 (rateN c d).2 with
    | .error e => .error e
    | .ok g => if g.1 = 0 then .error 1 else .ok [⟨x, -n⟩, ⟨numK 1 c, n⟩, ⟨numK 1 d, -g.1⟩, ⟨y, g.1⟩]
theorem move_val {al : List Acc} {x y : Int} (n : Int) {a b : Acc} (hx : 0 ≤ x ∧ x < al.length) (hy : 0 ≤ y ∧ y < al.length) (ha : al[x.toNat]? = some a) (hb : al[y.toNat]? = some b) : moveM al x y n = moveV x y n a.cur b.cur := by
  have o : ∀ k : Int, 0 ≤ k ∧ k < al.length → (ofN al.length k).2 = true := fun k hk => by
    unfold ofN
    rw [if_neg (by omega)]
    split <;> rfl
  unfold moveM
  rw [if_neg (by rw [o x hx, o y hy]; simp), ha, hb]
  rfl
theorem move_ext {l l' : List Acc} (h : CurX l l') {x y n : Int} {es : List Ent} (hm : moveM l x y n = .ok es) : moveM l' x y n = .ok es := by
  obtain ⟨hx, hy⟩ := move_in hm
  have ha := List.getElem?_eq_getElem (show x.toNat < l.length by omega)
  have hb := List.getElem?_eq_getElem (show y.toNat < l.length by omega)
  obtain ⟨a', ha', ea⟩ := h.2 _ _ ha
  obtain ⟨b', hb', eb⟩ := h.2 _ _ hb
  have hl := h.1
  rw [move_val n hx hy ha hb] at hm
  rw [move_val n (by omega) (by omega) ha' hb', ea, eb]
  exact hm
theorem post_cur {al l : List Acc} {es : List Ent} (hA : Acs al) (h : postM al es = .ok l) : CurX al l := by
  obtain ⟨-, hl, hh⟩ := postM_acs hA h
  exact curX_of hl fun i a ha => by
    obtain ⟨b, hb⟩ := hh i a ha
    exact ⟨_, hb, rfl⟩
theorem hold_cur {al l : List Acc} {k n : Int} (hA : Acs al) (h : holdM al k n = .ok l) : CurX al l := by
  obtain ⟨-, -, a, ha, -, rfl, -⟩ := holdM_spec hA h
  exact curX_set ha _ _
theorem rel_cur {al l : List Acc} {k n : Int} (hA : Acs al) (h : relM al k n = .ok l) : CurX al l ∧ Acs l := by
  obtain ⟨-, -, a, ha, -, rfl, hA2⟩ := relM_spec hA h
  exact ⟨curX_set ha _ _, hA2⟩
theorem spend_cur {al l : List Acc} {n : Int} {es : List Ent} (hA : Acs al) (h : spendM al n es = .ok l) : CurX al l := by
  cases es with
  | nil => cases h
  | cons e es =>
    simp only [spendM] at h
    split at h
    · rename_i l1 h1
      obtain ⟨c1, A1⟩ := rel_cur hA h1
      exact c1.trans (post_cur A1 h)
    · cases h
theorem payD_cur {s : Sta} {k : Int} {p : Pay} {x : Except Int (List Acc)} (h : ∀ l, x = .ok l → CurX s.accs l) : CurX s.accs (payD s k p x).1.accs := by
  cases x with
  | error e => exact .refl _
  | ok l => exact h l rfl
theorem postD_cur {s : Sta} (hA : Acs s.accs) (x y n : Int) : CurX s.accs (postD s x y n).1.accs := by
  unfold postD
  split
  · rename_i es _
    cases hp : postM s.accs es with
    | error e => exact .refl _
    | ok l => exact post_cur hA hp
  · exact .refl _
theorem doM_cur {s : Sta} (hA : Acs s.accs) (r : Req) : CurX s.accs (doM s r).1.accs := by
  unfold doM
  split
  · unfold openM
    split
    · exact .refl _
    · refine ⟨by show s.accs.length ≤ (s.accs ++ [_]).length; simp, fun i a ha => ⟨a, ?_, rfl⟩⟩
      show (s.accs ++ [_])[i]? = _
      rw [List.getElem?_append_left (List.getElem?_eq_some_iff.1 ha).1]; exact ha
  split
  · unfold depositM
    split
    · exact .refl _
    · exact postD_cur hA _ _ _
  split
  · unfold transferM
    split
    · exact .refl _
    · exact postD_cur hA _ _ _
  split
  · unfold authM
    split
    · exact .refl _
    split
    · exact .refl _
    split
    · exact .refl _
    split
    · rename_i l hl; exact hold_cur hA hl
    · exact .refl _
  split
  · unfold captureM
    split
    · exact .refl _
    split
    · exact .refl _
    · exact payD_cur fun l hl => spend_cur hA hl
  split
  · unfold voidM
    split
    · exact .refl _
    · exact payD_cur fun l hl => (rel_cur hA hl).1
  split
  · unfold refundM
    split
    · exact .refl _
    split
    · exact .refl _
    · exact payD_cur fun l hl => post_cur hA hl
  split
  · unfold chargeM
    split
    · exact .refl _
    split
    · exact .refl _
    · exact payD_cur fun l hl => post_cur hA hl
  · exact .refl _
/-! ### bounds, and moves that come off -/
structure EngB (X : Int) (s : Sta) : Prop where
  bx : BalX X s.accs
  am : ∀ g ∈ s.sags, g.req.amt ≤ 2000
  mv : ∀ g ∈ s.sags, ∃ es, moveM s.accs g.req.a g.req.b g.req.amt = .ok es
theorem EngB.to {X Y : Int} {s t : Sta} (h : EngB X s) (hb : BalX Y t.accs) (hc : CurX s.accs t.accs) (hs : ∀ g ∈ t.sags, ∃ q ∈ s.sags, q.req = g.req) : EngB Y t := by
  refine ⟨hb, fun g hg => ?_, fun g hg => ?_⟩
  · obtain ⟨q, hq, e⟩ := hs g hg
    rw [← e]; exact h.am q hq
  · obtain ⟨q, hq, e⟩ := hs g hg
    obtain ⟨es, hm⟩ := h.mv q hq
    rw [← e]; exact ⟨es, move_ext hc hm⟩
theorem EngB.mono {X Y : Int} {s : Sta} (h : EngB X s) (hy : X ≤ Y) : EngB Y s := ⟨h.bx.mono hy, h.am, h.mv⟩
theorem end_accs (s : Sta) (k : Nat) (g : Sag) (o : Rep) : (endR s k g o).1.accs = s.accs ∧ (endR s k g o).1.sags = s.sags.eraseIdx k := by
  unfold endR
  constructor <;> split <;> rfl
theorem undo_bal {X : Int} {s : Sta} (r : Req) (h : BalX X s.accs) : BalX X (undoD s r).accs := by
  unfold undoD undoM
  cases hr : relM s.accs r.a r.amt with
  | error e => exact h
  | ok l => exact rel_bal hr h
theorem EngB.eng {X : Int} {s : Sta} (hG : EngG s) (h : EngB X s) (hX0 : 0 ≤ X) (e : Evt) (he : e.what = 0 → AskI e.req) : EngB (X + 1600000) (engM s e).1 := by
  have hm := h.mono (show X ≤ X + 1600000 by omega)
  have hA := hG.g.acs
  unfold engM
  split
  · rename_i h0
    have hq := he h0
    unfold submitM
    split
    · exact hm
    split
    · exact hm
    split
    · exact hm
    split
    · exact hm
    split
    · split
      · exact hm.to hm.bx (.refl _) (fun g hg => ⟨g, hg, rfl⟩)
      · rename_i t hr
        obtain ⟨⟨k9, kl⟩, -, n, ⟨es, hmv⟩, a, ha, hle, rfl, hA2⟩ := reserve_spec hA hr
        have hc : CurX s.accs (s.accs.set e.req.a.toNat ⟨a.cur, a.bal, a.held + e.req.amt⟩) := curX_set ha _ _
        refine ⟨set_bal hm.bx ha _, fun g hg => ?_, fun g hg => ?_⟩
        · rcases List.mem_append.1 hg with hg | hg
          · exact h.am g hg
          · rw [List.mem_singleton.1 hg]; exact hq.n.2
        · rcases List.mem_append.1 hg with hg | hg
          · obtain ⟨es, hm⟩ := h.mv g hg
            exact ⟨es, move_ext hc hm⟩
          · rw [List.mem_singleton.1 hg]
            exact ⟨es, move_ext hc hmv⟩
    · refine h.to (doM_bal hG.g hq.n.2 hX0 h.bx) (doM_cur hA _) fun g hg => ⟨g, ?_, rfl⟩
      have hg : g ∈ (doM s e.req).1.sags := hg
      rw [(doM_step s e.req).sags] at hg; exact hg
  split
  · unfold stepM
    split
    · exact hm
    split
    · exact hm
    rename_i g hg
    have hgm := List.mem_of_getElem? hg
    unfold stepG
    split
    · obtain ⟨e1, e2⟩ := end_accs (undoD s g.req) (findG s.sags e.key).toNat g (g.why, 0)
      obtain ⟨u1, u2, u3, u4, -⟩ := undo_len s g.req
      refine h.to (by rw [e1]; exact (undo_bal g.req h.bx).mono (by omega)) (by
        rw [e1]
        obtain ⟨a, ha, hu, -⟩ := undo_spec hG.g hg
        rw [hu]
        exact curX_set ha _ _) fun q hq => ⟨q, ?_, rfl⟩
      rw [e2, u3] at hq
      exact List.mem_of_mem_eraseIdx hq
    split
    · split
      · rename_i t ht
        obtain ⟨e1, e2⟩ := end_accs t (findG s.sags e.key).toNat g (0, 0)
        obtain ⟨u1, u2, u3, u4, -⟩ := settle_len ht
        have hb : BalX (X + 1600000) t.accs ∧ CurX s.accs t.accs := by
          unfold settleM at ht
          split at ht
          · cases ht
          rename_i es hme
          split at ht
          · cases ht
          rename_i l hl
          cases ht
          refine ⟨?_, spend_cur hA hl⟩
          exact (spend_bal (Y := 160 * 2000) hl (move_bd hme (h.am g hgm)) (by omega) (by have := move_len hme; omega) h.bx).mono (by omega)
        refine h.to (by rw [e1]; exact hb.1) (by rw [e1]; exact hb.2) fun q hq => ⟨q, ?_, rfl⟩
        rw [e2, u3] at hq
        exact List.mem_of_mem_eraseIdx hq
      · refine h.to hm.bx (.refl _) fun q hq => ?_
        rcases List.mem_or_eq_of_mem_set hq with hq | rfl
        · exact ⟨q, hq, rfl⟩
        · exact ⟨g, hgm, (turn_req _ _).symm⟩
    · refine h.to hm.bx (.refl _) fun q hq => ?_
      rcases List.mem_or_eq_of_mem_set hq with hq | rfl
      · exact ⟨q, hq, rfl⟩
      · exact ⟨g, hgm, (leg_req _ _).symm⟩
  split
  · obtain ⟨t1, t2, t3, t4⟩ := tick_keep s
    by_cases hn : s.now < 1073741824
    · obtain ⟨-, -, -, -, ha⟩ := tick_spec hG.g hn
      refine h.to (fun i a hai => ?_) (curX_of t1 fun i a hai => by obtain ⟨x, hx⟩ := ha i a hai; exact ⟨_, hx, rfl⟩) fun q hq => ⟨q, ?_, rfl⟩
      · have hi : i < s.accs.length := by rw [← t1]; exact (List.getElem?_eq_some_iff.1 hai).1
        obtain ⟨x, hx⟩ := ha i _ (List.getElem?_eq_getElem hi)
        have hai : (tickM s).accs[i]? = some a := hai
        rw [hx] at hai
        obtain rfl := Option.some.inj hai
        have := h.bx i _ (List.getElem?_eq_getElem hi)
        simp only; omega
      · have hq : q ∈ (tickM s).sags := hq
        rw [t3] at hq; exact hq
    · have e : tickM s = s := by unfold tickM; rw [if_pos (by omega)]
      show EngB _ (tickM s)
      rw [e]; exact hm
  · exact hm
theorem settle_fit {X : Int} {s : Sta} (hG : EngG s) (h : EngB X s) (hX0 : 0 ≤ X) (hXb : X ≤ 1000000000000000) {k : Nat} {g : Sag} (hg : s.sags[k]? = some g) {es : List Ent} (hm : moveM s.accs g.req.a g.req.b g.req.amt = .ok es) :
    ∃ l, settleM s g.req = .ok (withA s l) ∧ l.length = s.accs.length ∧ ∀ (i : Nat) (a : Acc), s.accs[i]? = some a → l[i]? = some ⟨a.cur, a.bal + sumAt es i, if (i : Int) = g.req.a then a.held - g.req.amt else a.held⟩ := by
  have hgm := List.mem_of_getElem? hg
  have hA := hG.g.acs
  obtain ⟨⟨a9, al⟩, n1, n2⟩ := hG.g.sga g hgm
  have ha := List.getElem?_eq_getElem (show g.req.a.toNat < s.accs.length by omega)
  have hle := hG.g.amt_le hgm ha
  generalize s.accs[g.req.a.toNat]'(by omega) = a at ha hle
  have hrel := relM_go (n := g.req.amt) hA a9 ⟨n1, n2⟩ ha hle
  obtain ⟨-, -, -, -, -, -, hA1⟩ := relM_spec hA hrel
  have hm1 : moveM (s.accs.set g.req.a.toNat ⟨a.cur, a.bal, a.held - g.req.amt⟩) g.req.a g.req.b g.req.amt = .ok es := by rw [move_held ha]; exact hm
  obtain ⟨l, k1, k2, k3, kb⟩ := move_fit hA1 (set_bal h.bx ha _) hX0 hXb hm1 (h.am g hgm)
  rw [List.length_set] at k2
  have hl : ∀ (i : Nat) (q : Acc), s.accs[i]? = some q → l[i]? = some ⟨q.cur, q.bal + sumAt es i, if (i : Int) = g.req.a then q.held - g.req.amt else q.held⟩ := fun i q hq => by
    by_cases hi : g.req.a.toNat = i
    · subst hi
      rw [ha] at hq
      obtain rfl := Option.some.inj hq
      rw [if_pos (by omega)]
      exact k3 _ _ (by rw [List.getElem?_set, if_pos rfl, if_pos (List.getElem?_eq_some_iff.1 ha).1])
    · rw [if_neg (by omega)]
      exact k3 _ _ (by rw [List.getElem?_set, if_neg hi]; exact hq)
  refine ⟨l, ?_, k2, hl⟩
  have hlk : lacks l = false := lacks_not fun i b hb h9 => by
    have hi : i < s.accs.length := by rw [← k2]; exact (List.getElem?_eq_some_iff.1 hb).1
    have hq := List.getElem?_eq_getElem hi
    have hR := hA.ok i _ hq
    have hb2 := hl i _ hq
    generalize s.accs[i]'hi = q at hq hR hb2
    rw [hb] at hb2
    obtain rfl := Option.some.inj hb2
    have hh := hR.held
    have hg9 := hR.g h9
    have hbx := h.bx i q hq
    by_cases hi : (i : Int) = g.req.a
    · have hsum : sumAt es i = -g.req.amt := by rw [hi]; exact move_at_x hA a9 hm
      have hqa : q = a := by
        have : g.req.a.toNat = i := by omega
        rw [this] at ha
        exact Option.some.inj (hq.symm.trans ha)
      subst hqa
      unfold freeN
      simp only
      rw [if_pos hi, hsum, w64_of (by omega) (by omega)]; omega
    · have hsum := move_at_o hA h9 hi hm
      have hn := h.am g hgm
      unfold freeN
      simp only
      rw [if_neg hi, w64_of (by omega) (by omega)]; omega
  have hp : postM (s.accs.set g.req.a.toNat ⟨a.cur, a.bal, a.held - g.req.amt⟩) es = .ok l := by
    unfold postM
    rw [if_neg (by rw [kb]; decide), k1]
    simp only
    rw [if_neg (by rw [hlk]; decide)]
  obtain ⟨e, el, rfl, hea, -⟩ := move_head hm
  unfold settleM
  rw [hm]
  simp only [spendM]
  rw [hea, hrel]
  simp only
  rw [hp]
/-! ### what all comes to -/
def esF (al : List Acc) (r : Req) : List Ent := match moveM al r.a r.b r.amt with
  | .ok es => es
  | .error _ => []
def outG (g : Sag) : Rep := if g.phase = 1 then (g.why, 0) else (0, 0)
def dG (al : List Acc) (i : Int) (g : Sag) : Int := if g.phase = 1 then 0 else sumAt (esF al g.req) i
def FA (s : Sta) (L : List Acc) : Prop := L.length = s.accs.length ∧ ∀ (i : Nat) (a : Acc), s.accs[i]? = some a → L[i]? = some ⟨a.cur, a.bal + sumI (s.sags.map (dG s.accs i)), a.held - heldG s.sags i⟩
def FK (s : Sta) (M : List Kno) : Prop := M.length = s.kns.length ∧ ∀ (j : Nat) (k : Kno), s.kns[j]? = some k → (k.told = true → M[j]? = some k) ∧ (k.told = false → ∀ g ∈ s.sags, g.req = k.req → M[j]? = some ⟨k.req, (outG g).1, (outG g).2, true⟩)
theorem FA.ex (s : Sta) : ∃ L, FA s L := by
  refine ⟨s.accs.mapIdx fun i a => ⟨a.cur, a.bal + sumI (s.sags.map (dG s.accs i)), a.held - heldG s.sags i⟩, by simp, fun i a ha => ?_⟩
  rw [List.getElem?_mapIdx, ha]; rfl
theorem FK.ex {s : Sta} (h : EngG s) : ∃ M, FK s M := by
  refine ⟨s.kns.map fun k => if k.told = true then k else (match s.sags.find? (fun g => decide (g.req = k.req)) with
    | some g => ⟨k.req, (outG g).1, (outG g).2, true⟩
    | none => k), by simp, fun j k hk => ⟨fun ht => ?_, fun ht g hg e => ?_⟩⟩
  · rw [List.getElem?_map, hk]
    simp [ht]
  · rw [List.getElem?_map, hk]
    simp only [ht, Option.map_some]
    rw [if_neg (by decide)]
    cases hf : s.sags.find? (fun g => decide (g.req = k.req)) with
    | none =>
      rw [List.find?_eq_none] at hf
      exact absurd e (by simpa using hf g hg)
    | some q =>
      have hq := List.mem_of_find?_eq_some hf
      have he : q.req = k.req := by simpa using List.find?_some hf
      obtain ⟨a, ha⟩ := List.mem_iff_getElem?.1 hg
      obtain ⟨b, hb⟩ := List.mem_iff_getElem?.1 hq
      have := h.e.sd a b g.req q.req (by rw [List.getElem?_map, ha]; rfl) (by rw [List.getElem?_map, hb]; rfl) (by rw [e, he])
      subst this
      rw [ha] at hb
      obtain rfl := Option.some.inj hb
      rfl
theorem FA.done {s : Sta} {L : List Acc} (h : FA s L) (h0 : s.sags = []) : L = s.accs := by
  apply List.ext_getElem?
  intro i
  by_cases hi : i < s.accs.length
  · have ha := List.getElem?_eq_getElem hi
    have := h.2 i _ ha
    rw [this, ha, h0]
    simp [sumI, heldG]
  · rw [List.getElem?_eq_none (by rw [h.1]; omega), List.getElem?_eq_none (by omega)]
theorem FK.done {s : Sta} (hG : EngG s) {M : List Kno} (h : FK s M) (h0 : s.sags = []) : M = s.kns := by
  apply List.ext_getElem?
  intro j
  by_cases hj : j < s.kns.length
  · have hk := List.getElem?_eq_getElem hj
    have ht : (s.kns[j]).told = true := by
      cases ht : (s.kns[j]).told with
      | true => rfl
      | false =>
        obtain ⟨g, hg, -⟩ := hG.ku _ (List.mem_of_getElem? hk) ht
        rw [h0] at hg; cases hg
    rw [(h.2 j _ hk).1 ht, hk]
  · rw [List.getElem?_eq_none (by rw [h.1]; omega), List.getElem?_eq_none (by omega)]
theorem esF_ext {s : Sta} {l' : List Acc} {X : Int} (h : EngB X s) (hc : CurX s.accs l') {g : Sag} (hg : g ∈ s.sags) : esF l' g.req = esF s.accs g.req := by
  obtain ⟨es, hm⟩ := h.mv g hg
  unfold esF
  rw [hm, move_ext hc hm]
theorem dG_sum {s : Sta} {l' : List Acc} {X : Int} (h : EngB X s) (hc : CurX s.accs l') (i : Int) {gs : List Sag} (hs : ∀ g ∈ gs, g ∈ s.sags) : sumI (gs.map (dG l' i)) = sumI (gs.map (dG s.accs i)) := sumI_congr fun g hg => by
  unfold dG
  rw [esF_ext h hc (hs g hg)]
theorem FK.fin {s t : Sta} (hE : EngS s) (hkn : t.kns = s.kns) (hsg : t.sags = s.sags) {M : List Kno} (h : FK s M) {k : Nat} {g : Sag} (hg : s.sags[k]? = some g) : FK (endR t k g (outG g)).1 M := by
  obtain ⟨j, q, h1, h2, h3⟩ := hE.wk k g hg
  have hte : tellM t.kns g.req.key (outG g).1 (outG g).2 = .ok (s.kns.set j ⟨q.req, (outG g).1, (outG g).2, true⟩) := by rw [hkn, ← h2]; exact tell_at hE.kd h1 h3 _ _
  unfold endR
  rw [hte]
  refine ⟨by show M.length = (s.kns.set j _).length; rw [List.length_set]; exact h.1, fun i x hx0 => ?_⟩
  have hx : (s.kns.set j ⟨q.req, (outG g).1, (outG g).2, true⟩)[i]? = some x := hx0
  clear hx0
  rw [List.getElem?_set] at hx
  split at hx
  · rename_i hij
    subst hij
    split at hx
    · obtain rfl := Option.some.inj hx
      refine ⟨fun _ => ?_, fun h => absurd (show (true : Bool) = false from h) (by decide)⟩
      exact (h.2 j q h1).2 h3 g (List.mem_of_getElem? hg) h2.symm
    · cases hx
  · refine ⟨(h.2 i x hx).1, fun h0 y hy e => (h.2 i x hx).2 h0 y ?_ e⟩
    have hy : y ∈ t.sags.eraseIdx k := hy
    rw [hsg] at hy
    exact List.mem_of_mem_eraseIdx hy
/-- A step of a saga whose legs agree leaves what all comes to. -/
theorem step_fin {X : Int} {s : Sta} (hG : EngG s) (hB : EngB X s) (hX0 : 0 ≤ X) (hXb : X ≤ 1000000000000000) {L : List Acc} {M : List Kno} (hA : FA s L) (hK : FK s M) {k : Nat} {g : Sag} (hg : s.sags[k]? = some g) {e : Evt} (hw : e.what = 1) (hk : e.key = g.req.key) (hok : e.ok = true) :
    FA (engM s e).1 L ∧ FK (engM s e).1 M := by
  rw [step_at hG.e hg hw hk, hok]
  have hgm := List.mem_of_getElem? hg
  have hR := hG.sr g hgm
  have hs := (hG.g.sga g hgm).1
  unfold stepG
  split
  · rename_i hp
    have ho : (g.why, (0 : Int)) = outG g := by unfold outG; rw [if_pos hp]
    obtain ⟨u1, u2, u3, u4, u5⟩ := undo_len s g.req
    rw [ho]
    refine ⟨?_, hK.fin hG.e u4 u3 hg⟩
    obtain ⟨e1, e2⟩ := end_accs (undoD s g.req) k g (outG g)
    obtain ⟨a, ha, hu, -⟩ := undo_spec hG.g hg
    refine ⟨by rw [e1, u1]; exact hA.1, fun i x hx => ?_⟩
    rw [e1] at hx
    rw [e1, e2, u3]
    have hc : CurX s.accs (undoD s g.req).accs := by rw [hu]; exact curX_set ha _ _
    rw [dG_sum hB hc i (fun q hq => List.mem_of_mem_eraseIdx hq), sumI_erase (dG s.accs i) hg, heldG_erase i hg]
    have hd : dG s.accs i g = 0 := by unfold dG; rw [if_pos hp]
    rw [hd, hu] at *
    have hx : (s.accs.set g.req.a.toNat ⟨a.cur, a.bal, a.held - g.req.amt⟩)[i]? = some x := hx
    rw [List.getElem?_set] at hx
    split at hx
    · rename_i hi
      split at hx
      · cases hx
        subst hi
        rw [hA.2 _ a ha]
        have : amtAt ((g.req.a.toNat : Nat) : Int) g = g.req.amt := by unfold amtAt; rw [if_pos (by omega)]
        rw [this]
        congr 2
        · simp only; omega
        · simp only; omega
      · cases hx
    · rename_i hi
      rw [hA.2 _ x hx]
      have : amtAt (i : Int) g = 0 := by unfold amtAt; rw [if_neg (by omega)]
      rw [this]
      congr 2
      · omega
      · omega
  rename_i hp
  have h0 : g.phase = 0 := hR.p.resolve_right hp
  split
  · rename_i hrd
    obtain ⟨es, hm⟩ := hB.mv g hgm
    obtain ⟨l, hS, hl, hh⟩ := settle_fit hG hB hX0 hXb hg hm
    rw [hS]
    have ho : ((0 : Int), (0 : Int)) = outG g := by unfold outG; rw [if_neg hp]
    simp only
    rw [ho]
    refine ⟨?_, hK.fin (t := withA s l) hG.e rfl rfl hg⟩
    obtain ⟨e1, e2⟩ := end_accs (withA s l) k g (outG g)
    refine ⟨by rw [e1]; exact hA.1.trans hl.symm, fun i x hx => ?_⟩
    rw [e1] at hx
    rw [e1, e2]
    have hx : l[i]? = some x := hx
    have hi : i < s.accs.length := by rw [← hl]; exact (List.getElem?_eq_some_iff.1 hx).1
    have ha := List.getElem?_eq_getElem hi
    have hq := hh i _ ha
    generalize s.accs[i]'hi = a at ha hq
    rw [hx] at hq
    obtain rfl := Option.some.inj hq
    have hc : CurX s.accs (withA s l).accs := curX_of hl fun i a ha => ⟨_, hh i a ha, rfl⟩
    rw [dG_sum hB hc i (gs := (withA s l).sags.eraseIdx k) (fun q hq => List.mem_of_mem_eraseIdx hq)]
    show L[i]? = some ⟨a.cur, a.bal + sumAt es i + sumI ((s.sags.eraseIdx k).map (dG s.accs i)), (if (i : Int) = g.req.a then a.held - g.req.amt else a.held) - heldG (s.sags.eraseIdx k) i⟩
    rw [sumI_erase (dG s.accs i) hg, heldG_erase i hg, hA.2 i a ha]
    have hd : dG s.accs i g = sumAt es i := by unfold dG esF; rw [if_neg hp, hm]
    rw [hd]
    congr 2
    · omega
    · unfold amtAt
      split
      · rename_i hi
        rw [if_pos hi.symm]; omega
      · rename_i hi
        rw [if_neg (fun h => hi h.symm)]; omega
  · rename_i hrd
    have hrd : readyM g = false := by simpa using hrd
    have hl : legM g true = agreeM g := by unfold legM; rw [if_neg (by simp [h0, hrd]), if_pos rfl]
    rw [hl]
    have hph : (agreeM g).phase = g.phase := rfl
    have hre : (agreeM g).req = g.req := rfl
    have ho : outG (agreeM g) = outG g := rfl
    refine ⟨⟨hA.1, fun i a ha => ?_⟩, ⟨hK.1, fun j x hx => ⟨(hK.2 j x hx).1, fun ht y hy e => ?_⟩⟩⟩
    · show L[i]? = some ⟨a.cur, a.bal + sumI ((s.sags.set k (agreeM g)).map (dG s.accs i)), a.held - heldG (s.sags.set k (agreeM g)) i⟩
      rw [sumI_set (dG s.accs i) (agreeM g) hg, heldG_set i hg hre, hA.2 i a ha]
      have : dG s.accs i (agreeM g) = dG s.accs i g := rfl
      rw [this]
      congr 2
      omega
    · have hy : y ∈ s.sags.set k (agreeM g) := hy
      rcases List.mem_or_eq_of_mem_set hy with hy | rfl
      · exact (hK.2 j x hx).2 ht y hy e
      · rw [ho]
        exact (hK.2 j x hx).2 ht g hgm e
theorem drain_fin {picks : List Int} {L : List Acc} {M : List Kno} : ∀ (f n : Nat) {X : Int} {s : Sta}, EngG s → EngB X s → 0 ≤ X → X + 1600000 * f ≤ 1000000000000000 → FA s L → FK s M → FA (drainGo picks [] f n s).1 L ∧ FK (drainGo picks [] f n s).1 M
  | 0, _, _, _, _, _, _, _, hA, hK => ⟨hA, hK⟩
  | f + 1, n, X, s, hG, hB, hX0, hXb, hA, hK => by
    unfold drainGo
    split
    · exact ⟨hA, hK⟩
    · rename_i h0
      obtain ⟨k, g, -, hg, hk, hw⟩ := evD_sag (Nat.pos_of_ne_zero h0) picks [] n
      obtain ⟨a1, a2⟩ := step_fin hG hB hX0 (by omega) hA hK hg hw hk rfl
      exact drain_fin (picks := picks) f (n + 1) (hG.eng _) (hB.eng hG hX0 _ (fun h => by rw [hw] at h; exact absurd h (by decide))) (by omega) (by omega) a1 a2
/-- Whoever is picked. -/
theorem drain_order {picks qs : List Int} {f g : Nat} {X : Int} {s : Sta} (hG : EngG s) (hB : EngB X s) (hX0 : 0 ≤ X) (hf : X + 1600000 * f ≤ 1000000000000000) (hg : X + 1600000 * g ≤ 1000000000000000) (h1 : boundM s ≤ f) (h2 : boundM s ≤ g) :
    (drainGo picks [] f 0 s).1.accs = (drainGo qs [] g 0 s).1.accs ∧ (drainGo picks [] f 0 s).1.kns = (drainGo qs [] g 0 s).1.kns := by
  obtain ⟨L, hL⟩ := FA.ex s
  obtain ⟨M, hM⟩ := FK.ex hG
  obtain ⟨a1, a2⟩ := drain_fin (picks := picks) f 0 hG hB hX0 hf hL hM
  obtain ⟨b1, b2⟩ := drain_fin (picks := qs) g 0 hG hB hX0 hg hL hM
  have e1 := (drain_ends (picks := picks) (answers := []) f 0 hG h1).1
  have e2 := (drain_ends (picks := qs) (answers := []) g 0 hG h2).1
  exact ⟨(a1.done e1).symm.trans (b1.done e2), (a2.done (drain_G f 0 hG) e1).symm.trans (b2.done (drain_G g 0 hG) e2)⟩
/-! ### more steps than there are -/
theorem drain_more {picks : List Int} {answers : List Bool} : ∀ (f d n : Nat) {s : Sta}, EngG s → boundM s ≤ f → (drainGo picks answers (f + d) n s) = (drainGo picks answers f n s)
  | 0, d, n, s, h, hb => by
    have := bound_len h
    have h0 : s.sags.length = 0 := by omega
    cases d with
    | zero => rfl
    | succ d =>
      rw [Nat.zero_add]
      show (if s.sags.length = 0 then _ else _) = _
      rw [if_pos h0]; rfl
  | f + 1, d, n, s, h, hb => by
    rw [show f + 1 + d = (f + d) + 1 by omega]
    unfold drainGo
    split
    · rfl
    · rename_i h0
      obtain ⟨k, g, -, hg, hk, hw⟩ := evD_sag (Nat.pos_of_ne_zero h0) picks answers n
      have hless := drain_less h hg hw hk
      rw [drain_more (picks := picks) (answers := answers) f d (n + 1) (h.eng (evD s picks answers n)) (by omega)]
/-! ### some state -/
def someM (b : Book) (ps : List Paid) (l : List Act) : Sta := l.foldl (fun s a => (engM s (eventM a s)).1) (stateM b ps 0)
theorem event_ask {a : Act} (h : a.In) (s : Sta) : (eventM a s).what = 0 → AskI (eventM a s).req := by
  unfold eventM
  split
  · exact fun _ => ask_I h.q
  split
  · exact fun h => absurd (show (2 : Int) = 0 from h) (by decide)
  · exact fun h => absurd (show (1 : Int) = 0 from h) (by decide)
theorem acts_fold : ∀ {l : List Act} {s : Sta} {X : Int}, (∀ a ∈ l, a.In) → EngG s → EngB X s → 0 ≤ X → EngG (l.foldl (fun s a => (engM s (eventM a s)).1) s) ∧ EngB (X + 1600000 * l.length) (l.foldl (fun s a => (engM s (eventM a s)).1) s)
  | [], s, X, _, hG, hB, _ => ⟨hG, hB.mono (by simp)⟩
  | a :: l, s, X, hl, hG, hB, hX => by
    obtain ⟨h1, h2⟩ := acts_fold (l := l) (fun q hq => hl q (List.mem_cons_of_mem _ hq)) (hG.eng (eventM a s)) (hB.eng hG hX _ (event_ask (hl a (List.mem_cons_self ..)) s)) (by omega)
    exact ⟨h1, h2.mono (by rw [List.length_cons]; omega)⟩
end Go.Proofs.YtjffmldlkofpaaaGreatDoor.A
