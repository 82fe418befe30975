/- ops: auth, pay, both, capture, void, back, refund. -/
import Derived.Test.YtmlgkojmbnjfbaaDoorM4
namespace Go.Proofs.YtmlgkojmbnjfbaaDoor.A
open Go Q
/-- A desk whose payments are the frame's own. -/
def deskBo (F : Nat) (s : Sta) : Box := .cells 81 [accsA s.accs, .sl (.own F) 47 (s.pays.map payA), sagsA s.sags, knsA s.kns, .int .i64 s.now]
/-! ### auth -/
def authM (s : Sta) (r : Req) : Sta × Rep :=
  if (isCl s.accs.length r.a && isCl s.accs.length r.b) = false then (s, 2, 0)
  else if r.a = r.b ∨ r.til ≤ s.now then (s, 1, 0)
  else if s.pays.length ≥ 64 then (s, 7, 0)
  else match holdM s.accs r.a r.amt with
  | .ok l => (withP (withA s l) (s.pays ++ [⟨r.a, r.b, r.amt, 0, 0, 0, r.til, 0⟩]), 0, s.pays.length)
  | .error e => (s, e, 0)
abbrev deskC0 (F : Nat) (M : Sta → Req → Sta × Rep) (args : List AV) (bs : List Box) (K : AV → List Box → Prop) : Prop := ∃ (s : Sta) (r : Req), bs = [deskB s] ∧ args = [dk, reqA r] ∧ SzA s ∧ K (repA (M s r).2.1 (M s r).2.2) [deskB (M s r).1] ∧ K (repA (M s r).2.1 (M s r).2.2) [deskBo F (M s r).1]
noncomputable def JAu : FuncId → Option StSpec
  | 62 => some (frzJ (ptrJ clisC))
  | 61 => some (frzJ (ptrJ takeC'))
  | _ => none
theorem JAu_ok : JOk Tryd.prog tab JAu := by
  intro f j h
  unfold JAu at h
  split at h
  · cases h; exact frz_ok (ptr_ok clis_ok)
  · cases h; exact frz_ok (ptr_ok take_ok')
  · cases h
def RAu : Contract
  | 26 => (accsRz holdM)
  | _ => fun _ _ _ => False
theorem RAu_ok : CallOk Tryd.prog tab RAu := by
  intro f args bs K h
  unfold RAu at h
  split at h
  · exact ⟨_, h, hold_ok⟩
  · exact h.elim
def RAu_E (pl : Nat → Plan) : En := ⟨tab, RAu, fun _ => none, 0, pl⟩
theorem RAu_J (pl : Nat → Plan) : JOk Tryd.prog (RAu_E pl).T (RAu_E pl).J := fun _ _ h => by cases h
noncomputable def EAu_E (pl : Nat → Plan) : En := ⟨tab, RAu, JAu, 0, pl⟩
set_option maxRecDepth 200000 in
set_option maxHeartbeats 6400000 in
theorem auth_ok0 : FnOk Tryd.prog tab 45 (deskC0 75000 authM) := by
  refine fn_ok (E := EAu_E pl45) tab_is RAu_ok JAu_ok Tryd.func45 rfl rfl (by kernel_rfl) ?_
  rintro args bs K ⟨s, r, rfl, rfl, hz, hK, hK'⟩
  refine ⟨rfl, ?_⟩
  have hl := hz.la
  have hlp := hz.lp
  unfold authM at hK hK'
  refine ⟨1000000000, 81, deskL s, _, rfl, rfl, rfl, rfl, s, [r.a, r.b], rfl, rfl, by simp, ⟨deskL s, rfl, rfl, rfl, ?_⟩⟩
  rw [clis2]
  cases hc : (isCl s.accs.length r.a && isCl s.accs.length r.b) with
  | false =>
    rw [if_pos hc] at hK
    exact ⟨fun _ => hK, fun h => Bool.noConfusion (show true = false from h)⟩
  | true =>
    rw [if_neg (by simp [hc])] at hK hK'
    refine ⟨fun h => Bool.noConfusion (show false = true from h), fun _ => ?_⟩
    have bad : (r.a = r.b ∨ r.til ≤ s.now) → K (repA 1 0) [deskB s] := fun h => by rw [if_pos h] at hK; exact hK
    refine ⟨fun h => ?_, fun h => ?_⟩
    · have h : r.a = r.b := by simpa using h
      exact ⟨fun _ => bad (.inl h), fun h => Bool.noConfusion (show true = false from h)⟩
    · have h : ¬ r.a = r.b := by simpa using h
      refine ⟨fun ht => bad (.inr (by simpa using ht)), fun ht => ?_⟩
      have ht : ¬ r.til ≤ s.now := by simpa using ht
      rw [if_neg (by omega)] at hK hK'
      clear bad
      refine ⟨fun hn => ?_, fun hn => ?_⟩
      · rw [if_pos (by simp at hn; omega)] at hK
        exact hK
      · rw [if_neg (by simp at hn; omega)] at hK hK'
        refine ⟨rfl, s.accs, r.a, r.amt, rfl, by omega, fun l hh => ?_, fun e hh => ?_⟩
        · simp only [hh] at hK'
          have bd1 : (s.pays.map payA).length * 64 ≤ 140737488355328 := by rw [List.length_map]; omega
          have bd2 : ((s.pays.map payA).length + 1) * 64 ≤ 140737488355328 := by rw [List.length_map]; omega
          have e1 : (s.pays ++ [(⟨r.a, r.b, r.amt, 0, 0, 0, r.til, 0⟩ : Pay)]).map payA = s.pays.map payA ++ [payA ⟨r.a, r.b, r.amt, 0, 0, 0, r.til, 0⟩] := List.map_append
          have hend : K (repA 0 ((s.pays.map payA).length : Nat)) [.cells 81 [accsA l, .sl (.own 75000) 47 (s.pays.map payA ++ [payA ⟨r.a, r.b, r.amt, 0, 0, 0, r.til, 0⟩]), sagsA s.sags, knsA s.kns, .int .i64 s.now]] := by
            rw [← e1, List.length_map]; exact hK'
          clear hK hK'
          refine ⟨1000000000, 81, deskL s, _, rfl, rfl, rfl, rfl, s, rfl, .inl ⟨l, _, rfl, ⟨deskL (withA s l), rfl, rfl, rfl, ?_⟩⟩⟩
          refine ⟨fun _ => ?_, fun h => Bool.noConfusion (show true = false from h)⟩
          repeat' first
            | exact hend
            | (refine ⟨bd1, ?_⟩)
            | (refine ⟨bd2, ?_⟩)
            | (refine And.intro ?_ ?_)
            | fail
        · simp only [hh] at hK
          refine ⟨1000000000, 81, deskL s, _, rfl, rfl, rfl, rfl, s, rfl, .inr ⟨e, _, rfl, ⟨deskL s, rfl, rfl, rfl, ?_⟩⟩⟩
          refine ⟨fun h => Bool.noConfusion (show false = true from h), fun _ => ?_⟩
          exact hK
theorem auth_ok : FnOk Tryd.prog tab 45 (deskC authM) := auth_ok0.frzB.mono (by
  rintro args bs K ⟨s, r, rfl, rfl, hz, hK⟩
  exact ⟨s, r, rfl, rfl, hz, ⟨[75000], _, _, rfl, rfl, hK⟩, ⟨[75000], _, _, rfl, rfl, hK⟩⟩)
/-! ### pay -/
def payD (s : Sta) (k : Int) (p : Pay) : Except Int (List Acc) → Sta × Rep
  | .ok l => (withP (withA s l) (s.pays.set k.toNat p), 0, 0)
  | .error e => (s, e, 0)
abbrev payDC0 (G : Sta → Box) (args : List AV) (bs : List Box) (K : AV → List Box → Prop) : Prop := ∃ (s : Sta) (k : Int) (p : Pay), bs = [deskB s] ∧ SzA s ∧
  ((∃ l, args = [dk, .int .i64 k, payA p, accsA l, .nilifc] ∧ 0 ≤ k ∧ k < s.pays.length ∧ K (repA 0 0) [G (payD s k p (.ok l)).1]) ∨ ∃ e, args = [dk, .int .i64 k, payA p, .sl .nl 0 [], errA e] ∧ K (repA e 0) [deskB s])
theorem pay_modify {l : List Pay} {i : Nat} {a : Pay} (h : l[i]? = some a) (g : AV → AV) (x : Pay) (hg : g (payA a) = payA x) : (l.map payA).modify i g = (l.set i x).map payA := by
  rw [List.map_set]
  apply List.ext_getElem?
  intro j
  rw [List.getElem?_modify, List.getElem?_set]
  by_cases hj : i = j
  · subst hj
    obtain ⟨hi, rfl⟩ := List.getElem?_eq_some_iff.1 h
    simp [hg, hi]
  · simp [hj]
def R0y : Contract
  | _ => fun _ _ _ => False
theorem R0y_ok : CallOk Tryd.prog tab R0y := by
  intro f args bs K h
  unfold R0y at h
  split at h
  · exact h.elim
def R0y_E (pl : Nat → Plan) : En := ⟨tab, R0y, fun _ => none, 0, pl⟩
theorem R0y_J (pl : Nat → Plan) : JOk Tryd.prog (R0y_E pl).T (R0y_E pl).J := fun _ _ h => by cases h
noncomputable def JPy : FuncId → Option StSpec
  | 61 => some (frzJ (ptrJ takeC'))
  | _ => none
theorem JPy_ok : JOk Tryd.prog tab JPy := by
  intro f j h
  unfold JPy at h
  split at h
  · cases h; exact frz_ok (ptr_ok take_ok')
  · cases h
noncomputable def EPy_E (pl : Nat → Plan) : En := ⟨tab, R0y, JPy, 0, pl⟩
set_option maxRecDepth 200000 in
set_option maxHeartbeats 3200000 in
theorem payD_ok0 : FnOk Tryd.prog tab 66 (payDC0 (deskBo 24000)) := by
  refine fn_ok (E := EPy_E pl66) tab_is R0y_ok JPy_ok Tryd.func66 rfl rfl (by kernel_rfl) ?_
  rintro args bs K ⟨s, k, p, rfl, hz, ⟨l, rfl, k0, k1, hK⟩ | ⟨e, rfl, hK⟩⟩
  · refine ⟨rfl, ?_⟩
    have hlp := hz.lp
    have bd1 : (s.pays.map payA).length * 64 ≤ 140737488355328 := by rw [List.length_map]; omega
    obtain ⟨q, hq⟩ : ∃ q, s.pays[k.toNat]? = some q := ⟨_, List.getElem?_eq_getElem (by omega)⟩
    refine ⟨1000000000, 81, deskL s, _, rfl, rfl, rfl, rfl, s, rfl, .inl ⟨l, 0, rfl, ⟨deskL (withA s l), rfl, rfl, rfl, ?_⟩⟩⟩
    refine ⟨fun _ => ?_, fun h => Bool.noConfusion (show true = false from h)⟩
    refine ⟨bd1, ?_⟩
    refine ⟨_, k0, map_of hq, ?_⟩
    have e1 := pay_modify hq (fun x => x.ofCells (putCells x.cells 0 (payA p).cells)) p rfl
    have hend : K (repA 0 0) [.cells 81 [accsA l, .sl (.own 24000) 47 ((s.pays.map payA).modify k.toNat fun x => x.ofCells (putCells x.cells 0 (payA p).cells)), sagsA s.sags, knsA s.kns, .int .i64 s.now]] := by
      rw [e1]; exact hK
    exact hend
  · refine ⟨rfl, ?_⟩
    refine ⟨1000000000, 81, deskL s, _, rfl, rfl, rfl, rfl, s, rfl, .inr ⟨e, 0, rfl, ⟨deskL s, rfl, rfl, rfl, ?_⟩⟩⟩
    refine ⟨fun h => Bool.noConfusion (show false = true from h), fun _ => ?_⟩
    exact hK
theorem payD_ok : FnOk Tryd.prog tab 66 (payDC0 deskB) := payD_ok0.frzB.mono (by
  rintro args bs K ⟨s, k, p, rfl, hz, ⟨l, rfl, k0, k1, hK⟩ | ⟨e, rfl, hK⟩⟩
  · exact ⟨s, k, p, rfl, hz, .inl ⟨l, rfl, k0, k1, [24000], _, _, rfl, rfl, hK⟩⟩
  · exact ⟨s, k, p, rfl, hz, .inr ⟨e, rfl, [], _, _, rfl, rfl, hK⟩⟩)
/-! ### both -/
def bothM (s : Sta) (r : Req) : Except Int (Pay × Pay) :=
  if r.a < 0 ∨ r.a ≥ s.pays.length then .error 2 else match s.pays[r.a.toNat]? with
  | some p => match doP p r.op r.amt with
    | .ok q => .ok (p, q)
    | .error e => .error e
  | none => .error 0
def bothC (args : List AV) (bs : List Box) (K : AV → List Box → Prop) : Prop := ∃ (s : Sta) (r : Req), bs = [deskB s] ∧ args = [dk, reqA r] ∧
  (∀ p q, bothM s r = .ok (p, q) → K (.tup [payA p, payA q, .nilifc]) [deskB s]) ∧ ∀ p e, bothM s r = .error e → K (.tup [payA p, payA pay0, errA e]) [deskB s]
def RBo : Contract
  | 32 => doPC
  | _ => fun _ _ _ => False
theorem RBo_ok : CallOk Tryd.prog tab RBo := by
  intro f args bs K h
  unfold RBo at h
  split at h
  · exact ⟨_, h, doP_ok⟩
  · exact h.elim
def RBo_E (pl : Nat → Plan) : En := ⟨tab, RBo, fun _ => none, 0, pl⟩
theorem RBo_J (pl : Nat → Plan) : JOk Tryd.prog (RBo_E pl).T (RBo_E pl).J := fun _ _ h => by cases h
set_option maxRecDepth 200000 in
set_option maxHeartbeats 3200000 in
theorem both_ok : FnOk Tryd.prog tab 64 bothC := by
  refine fn_ok (E := RBo_E pl64) tab_is RBo_ok (RBo_J _) Tryd.func64 rfl rfl (by kernel_rfl) ?_
  rintro args bs K ⟨s, r, rfl, rfl, hok, her⟩
  refine ⟨rfl, ?_⟩
  have no : (r.a < 0 ∨ r.a ≥ s.pays.length) → K (.tup [payA pay0, payA pay0, errA 2]) [deskB s] := fun h => her pay0 2 (by unfold bothM; rw [if_pos h])
  refine ⟨fun h => ?_, fun h => ?_⟩
  · exact ⟨fun _ => no (.inl (by simpa using h)), fun h => Bool.noConfusion (show true = false from h)⟩
  · have h : ¬ r.a < 0 := by simpa using h
    refine ⟨fun hg => no (.inr (by simpa using hg)), fun hg => ?_⟩
    have hg : ¬ r.a ≥ s.pays.length := by simpa using hg
    obtain ⟨p, hp⟩ : ∃ q, s.pays[r.a.toNat]? = some q := ⟨_, List.getElem?_eq_getElem (by omega)⟩
    have st : bothM s r = (match doP p r.op r.amt with
      | .ok q => .ok (p, q)
      | .error e => .error e) := by unfold bothM; rw [if_neg (by omega), hp]
    rw [st] at hok her
    refine ⟨_, by omega, map_of hp, ?_⟩
    refine ⟨rfl, p, r.op, r.amt, rfl, fun q hq => ?_, fun e hq => ?_⟩
    · simp only [hq] at hok
      have hend := hok p q rfl
      clear hok her no
      repeat' first
        | exact hend
        | (refine And.intro ?_ ?_)
        | fail
    · simp only [hq] at her
      have hend := her p e rfl
      clear hok her no
      repeat' first
        | exact hend
        | (refine And.intro ?_ ?_)
        | fail
theorem both_in {s : Sta} {r : Req} {p q : Pay} (h : bothM s r = .ok (p, q)) : 0 ≤ r.a ∧ r.a < s.pays.length ∧ s.pays[r.a.toNat]? = some p ∧ doP p r.op r.amt = .ok q := by
  unfold bothM at h
  split at h
  · cases h
  · split at h
    · split at h
      · rename_i hp _ q' hq
        cases h
        exact ⟨by omega, by omega, hp, hq⟩
      · cases h
    · cases h
/-! ### capture -/
def captureM (s : Sta) (r : Req) : Sta × Rep := match bothM s r with
  | .error e => (s, e, 0)
  | .ok pq => match moveM s.accs pq.1.src pq.1.dst r.amt with
    | .error e => (s, e, 0)
    | .ok es => payD s r.a pq.2 (spendM s.accs r.amt es)
noncomputable def JCa : FuncId → Option StSpec
  | 64 => some (frzJ (ptrJ bothC))
  | 66 => some (frzJ (ptrJ (payDC0 deskB)))
  | _ => none
theorem JCa_ok : JOk Tryd.prog tab JCa := by
  intro f j h
  unfold JCa at h
  split at h
  · cases h; exact frz_ok (ptr_ok both_ok)
  · cases h; exact frz_ok (ptr_ok payD_ok)
  · cases h
def RCa : Contract
  | 65 => numbC
  | 29 => moveC
  | 34 => spendC
  | _ => fun _ _ _ => False
theorem RCa_ok : CallOk Tryd.prog tab RCa := by
  intro f args bs K h
  unfold RCa at h
  split at h
  · exact ⟨_, h, numb_ok⟩
  · exact ⟨_, h, move_ok⟩
  · exact ⟨_, h, spend_ok⟩
  · exact h.elim
def RCa_E (pl : Nat → Plan) : En := ⟨tab, RCa, fun _ => none, 0, pl⟩
theorem RCa_J (pl : Nat → Plan) : JOk Tryd.prog (RCa_E pl).T (RCa_E pl).J := fun _ _ h => by cases h
noncomputable def ECa_E (pl : Nat → Plan) : En := ⟨tab, RCa, JCa, 0, pl⟩
set_option maxRecDepth 200000 in
set_option maxHeartbeats 3200000 in
theorem capture_ok : FnOk Tryd.prog tab 46 (deskC captureM) := by
  refine fn_ok (E := ECa_E pl46) tab_is RCa_ok JCa_ok Tryd.func46 rfl rfl (by kernel_rfl) ?_
  rintro args bs K ⟨s, r, rfl, rfl, hz, hK⟩
  refine ⟨rfl, ?_⟩
  have hl := hz.la
  unfold captureM at hK
  refine ⟨1000000000, 81, deskL s, _, rfl, rfl, rfl, rfl, s, r, rfl, rfl, fun p q hb => ⟨deskL s, rfl, rfl, rfl, ?_⟩, fun p e hb => ⟨deskL s, rfl, rfl, rfl, ?_⟩⟩
  · simp only [hb] at hK
    obtain ⟨a0, a1, -⟩ := both_in hb
    refine ⟨fun h => Bool.noConfusion (show false = true from h), fun _ => ?_⟩
    refine ⟨rfl, s.accs, p.src, p.dst, r.amt, rfl, fun es hm => ?_, fun e hm => ?_⟩
    · simp only [hm] at hK
      have hle := move_len hm
      refine ⟨fun h => Bool.noConfusion (show false = true from h), fun _ => ?_⟩
      refine ⟨rfl, s.accs, r.amt, es, rfl, by omega, by omega, fun l hs => ?_, fun e hs => ?_⟩
      · simp only [hs, payD] at hK
        exact ⟨1000000000, 81, deskL s, _, rfl, rfl, rfl, rfl, s, r.a, q, rfl, hz, .inl ⟨l, rfl, a0, a1, ⟨deskL (withP (withA s l) (s.pays.set r.a.toNat q)), rfl, rfl, rfl, hK⟩⟩⟩
      · simp only [hs, payD] at hK
        exact ⟨1000000000, 81, deskL s, _, rfl, rfl, rfl, rfl, s, r.a, q, rfl, hz, .inr ⟨e, rfl, ⟨deskL s, rfl, rfl, rfl, hK⟩⟩⟩
    · simp only [hm] at hK
      refine ⟨fun _ => ?_, fun h => Bool.noConfusion (show true = false from h)⟩
      exact ⟨rfl, .inr ⟨e, rfl, hK⟩⟩
  · simp only [hb] at hK
    refine ⟨fun _ => ?_, fun h => Bool.noConfusion (show true = false from h)⟩
    exact ⟨rfl, .inr ⟨e, rfl, hK⟩⟩
/-! ### void -/
def voidM (s : Sta) (r : Req) : Sta × Rep := match bothM s r with
  | .error e => (s, e, 0)
  | .ok pq => payD s r.a pq.2 (relM s.accs pq.1.src (left pq.1))
def RVo : Contract
  | 65 => numbC
  | 25 => leftC
  | 33 => (accsRz relM)
  | _ => fun _ _ _ => False
theorem RVo_ok : CallOk Tryd.prog tab RVo := by
  intro f args bs K h
  unfold RVo at h
  split at h
  · exact ⟨_, h, numb_ok⟩
  · exact ⟨_, h, left_ok⟩
  · exact ⟨_, h, rel_ok⟩
  · exact h.elim
def RVo_E (pl : Nat → Plan) : En := ⟨tab, RVo, fun _ => none, 0, pl⟩
theorem RVo_J (pl : Nat → Plan) : JOk Tryd.prog (RVo_E pl).T (RVo_E pl).J := fun _ _ h => by cases h
noncomputable def EVo_E (pl : Nat → Plan) : En := ⟨tab, RVo, JCa, 0, pl⟩
set_option maxRecDepth 200000 in
set_option maxHeartbeats 3200000 in
theorem void_ok : FnOk Tryd.prog tab 47 (deskC voidM) := by
  refine fn_ok (E := EVo_E pl47) tab_is RVo_ok JCa_ok Tryd.func47 rfl rfl (by kernel_rfl) ?_
  rintro args bs K ⟨s, r, rfl, rfl, hz, hK⟩
  refine ⟨rfl, ?_⟩
  have hl := hz.la
  unfold voidM at hK
  refine ⟨1000000000, 81, deskL s, _, rfl, rfl, rfl, rfl, s, r, rfl, rfl, fun p q hb => ⟨deskL s, rfl, rfl, rfl, ?_⟩, fun p e hb => ⟨deskL s, rfl, rfl, rfl, ?_⟩⟩
  · simp only [hb] at hK
    obtain ⟨a0, a1, -⟩ := both_in hb
    refine ⟨fun h => Bool.noConfusion (show false = true from h), fun _ => ?_⟩
    refine ⟨rfl, p, rfl, ?_⟩
    refine ⟨rfl, s.accs, p.src, left p, rfl, by omega, fun l hs => ?_, fun e hs => ?_⟩
    · simp only [hs, payD] at hK
      exact ⟨1000000000, 81, deskL s, _, rfl, rfl, rfl, rfl, s, r.a, q, rfl, hz, .inl ⟨l, rfl, a0, a1, ⟨deskL (withP (withA s l) (s.pays.set r.a.toNat q)), rfl, rfl, rfl, hK⟩⟩⟩
    · simp only [hs, payD] at hK
      exact ⟨1000000000, 81, deskL s, _, rfl, rfl, rfl, rfl, s, r.a, q, rfl, hz, .inr ⟨e, rfl, ⟨deskL s, rfl, rfl, rfl, hK⟩⟩⟩
  · simp only [hb] at hK
    refine ⟨fun _ => ?_, fun h => Bool.noConfusion (show true = false from h)⟩
    exact ⟨rfl, .inr ⟨e, rfl, hK⟩⟩
end Go.Proofs.YtmlgkojmbnjfbaaDoor.A
