/- saga: Begin, Ready, Leg, Turn; request: May, Long; ops: Reserve, Settle, Undo. -/
import Derived.Test.YtkeafcjdejmohaaDoorGE
import Derived.Test.YtkeafcjdejmohaaDoorGY
namespace Go.Proofs.YtkeafcjdejmohaaDoor.A
open Go Q
/-! ### sagas -/
def beginM (r : Req) : Sag := ⟨r, 0, 0, 0, 0⟩
def readyM (g : Sag) : Bool := (g.phase == 0) && decide (g.leg ≥ g.req.legs)
def agreeM (g : Sag) : Sag := ⟨g.req, g.phase, w64 (g.leg + 1), 0, g.why⟩
def refuseM (g : Sag) : Sag := if w64 (g.tries + 1) > 3 then ⟨g.req, 1, g.leg, w64 (g.tries + 1), 9⟩ else ⟨g.req, g.phase, g.leg, w64 (g.tries + 1), g.why⟩
def legM (g : Sag) (ok : Bool) : Sag := if g.phase ≠ 0 ∨ readyM g = true then g else if ok = true then agreeM g else refuseM g
def turnM (g : Sag) (why : Int) : Sag := if g.phase = 0 then ⟨g.req, 1, g.leg, g.tries, why⟩ else g
def beginC (args : List AV) (bs : List Box) (K : AV → List Box → Prop) : Prop := bs = [] ∧ ∃ r : Req, args = [reqA r] ∧ K (sagA (beginM r)) []
set_option maxRecDepth 200000 in
set_option maxHeartbeats 1600000 in
theorem begin_ok : FnOk Tryd.prog tab 79 beginC := by
  refine fn_ok (E := R0_E pl79) tab_is R0_ok (R0_J _) Tryd.func79 rfl rfl (by kernel_rfl) ?_
  rintro args bs K ⟨rfl, r, rfl, hK⟩
  refine ⟨rfl, ?_⟩
  exact hK
def readyC (args : List AV) (bs : List Box) (K : AV → List Box → Prop) : Prop := bs = [] ∧ ∃ g : Sag, args = [sagA g] ∧ K (.bool (readyM g)) []
set_option maxRecDepth 200000 in
set_option maxHeartbeats 1600000 in
theorem ready_ok : FnOk Tryd.prog tab 80 readyC := by
  refine fn_ok (E := R0_E pl80) tab_is R0_ok (R0_J _) Tryd.func80 rfl rfl (by kernel_rfl) ?_
  rintro args bs K ⟨rfl, g, rfl, hK⟩
  refine ⟨rfl, ?_⟩
  have fin : ∀ n, n = readyM g → K (.bool n) [] := fun n e => e ▸ hK
  refine ⟨fun h => ?_, fun h => ?_⟩
  · exact fin _ (by unfold readyM; rw [h]; rfl)
  · exact fin _ (by unfold readyM; rw [h]; rfl)
abbrev sag1C (f : Sag → Sag) (args : List AV) (bs : List Box) (K : AV → List Box → Prop) : Prop := bs = [] ∧ ∃ g : Sag, args = [sagA g] ∧ K (sagA (f g)) []
set_option maxRecDepth 200000 in
set_option maxHeartbeats 1600000 in
theorem agree_ok : FnOk Tryd.prog tab 105 (sag1C agreeM) := by
  refine fn_ok (E := R0_E pl105) tab_is R0_ok (R0_J _) Tryd.func105 rfl rfl (by kernel_rfl) ?_
  rintro args bs K ⟨rfl, g, rfl, hK⟩
  refine ⟨rfl, ?_⟩
  exact hK
set_option maxRecDepth 200000 in
set_option maxHeartbeats 1600000 in
theorem refuse_ok : FnOk Tryd.prog tab 104 (sag1C refuseM) := by
  refine fn_ok (E := R0_E pl104) tab_is R0_ok (R0_J _) Tryd.func104 rfl rfl (by kernel_rfl) ?_
  rintro args bs K ⟨rfl, g, rfl, hK⟩
  refine ⟨rfl, ?_⟩
  unfold refuseM at hK
  refine ⟨fun h => ?_, fun h => ?_⟩
  · have h : w64 (g.tries + 1) > 3 := decT h
    rw [if_pos h] at hK; exact hK
  · have h : ¬ w64 (g.tries + 1) > 3 := decF h
    rw [if_neg h] at hK; exact hK
def RLg : Contract
  | 80 => readyC
  | 105 => (sag1C agreeM)
  | 104 => (sag1C refuseM)
  | _ => fun _ _ _ => False
theorem RLg_ok : CallOk Tryd.prog tab RLg := by
  intro f args bs K h
  unfold RLg at h
  split at h
  · exact ⟨_, h, ready_ok⟩
  · exact ⟨_, h, agree_ok⟩
  · exact ⟨_, h, refuse_ok⟩
  · exact h.elim
def RLg_E (pl : Nat → Plan) : En := ⟨tab, RLg, fun _ => none, 0, pl⟩
theorem RLg_J (pl : Nat → Plan) : JOk Tryd.prog (RLg_E pl).T (RLg_E pl).J := fun _ _ h => by cases h
def legC (args : List AV) (bs : List Box) (K : AV → List Box → Prop) : Prop := bs = [] ∧ ∃ (g : Sag) (ok : Bool), args = [sagA g, .bool ok] ∧ K (sagA (legM g ok)) []
set_option maxRecDepth 200000 in
set_option maxHeartbeats 1600000 in
theorem leg_ok : FnOk Tryd.prog tab 81 legC := by
  refine fn_ok (E := RLg_E pl81) tab_is RLg_ok (RLg_J _) Tryd.func81 rfl rfl (by kernel_rfl) ?_
  rintro args bs K ⟨rfl, g, ok, rfl, hK⟩
  refine ⟨rfl, ?_⟩
  unfold legM at hK
  refine ⟨fun h => ?_, fun h => ?_⟩
  · rw [if_pos (.inl (bneT h))] at hK
    refine ⟨fun _ => ?_, fun h => Bool.noConfusion (show true = false from h)⟩
    exact hK
  · have h0 : g.phase = 0 := bneF h
    refine ⟨rfl, g, rfl, ?_⟩
    cases hr : readyM g with
    | true =>
      rw [if_pos (.inr hr)] at hK
      refine ⟨fun _ => ?_, fun h => Bool.noConfusion (show true = false from h)⟩
      exact hK
    | false =>
      rw [if_neg (by simp [h0, hr])] at hK
      refine ⟨fun h => Bool.noConfusion (show false = true from h), fun _ => ?_⟩
      cases ok with
      | true =>
        rw [if_pos rfl] at hK
        refine ⟨fun _ => ?_, fun h => Bool.noConfusion (show true = false from h)⟩
        exact ⟨rfl, g, rfl, hK⟩
      | false =>
        rw [if_neg (by decide)] at hK
        refine ⟨fun h => Bool.noConfusion (show false = true from h), fun _ => ?_⟩
        exact ⟨rfl, g, rfl, hK⟩
def turnC (args : List AV) (bs : List Box) (K : AV → List Box → Prop) : Prop := bs = [] ∧ ∃ (g : Sag) (w : Int), args = [sagA g, .int .i64 w] ∧ K (sagA (turnM g w)) []
set_option maxRecDepth 200000 in
set_option maxHeartbeats 1600000 in
theorem turn_ok : FnOk Tryd.prog tab 83 turnC := by
  refine fn_ok (E := R0_E pl83) tab_is R0_ok (R0_J _) Tryd.func83 rfl rfl (by kernel_rfl) ?_
  rintro args bs K ⟨rfl, g, w, rfl, hK⟩
  refine ⟨rfl, ?_⟩
  unfold turnM at hK
  refine ⟨fun h => ?_, fun h => ?_⟩
  · rw [if_pos (beqT h)] at hK; exact hK
  · rw [if_neg (beqF h)] at hK; exact hK
/-! ### requests -/
def mayR (r : Req) : Bool := bif decide (r.key < 0) || (decide (r.key ≥ 1073741824) || (decide (r.legs < 0) || (decide (r.legs > 4) || (decide (r.til < 0) || decide (r.til > 1073741824))))) then false else bif decide (r.legs > 0) && (r.op != 2) then false
  else bif r.op == 0 then decide (r.a ≥ 0) && decide (r.a < 3) else bif r.op == 5 then true else bif r.op == 1 then amountB r.amt else bif r.op == 2 then amountB r.amt else bif r.op == 3 then amountB r.amt else bif r.op == 4 then amountB r.amt else bif r.op == 6 then amountB r.amt else bif r.op == 7 then amountB r.amt else false
def longB (r : Req) : Bool := decide (r.legs > 0) && (r.op == 2)
def mayRC (args : List AV) (bs : List Box) (K : AV → List Box → Prop) : Prop := bs = [] ∧ ∃ r : Req, args = [reqA r] ∧ K (.bool (mayR r)) []
def longC (args : List AV) (bs : List Box) (K : AV → List Box → Prop) : Prop := bs = [] ∧ ∃ r : Req, args = [reqA r] ∧ K (.bool (longB r)) []
set_option maxRecDepth 200000 in
set_option maxHeartbeats 1600000 in
theorem long_ok : FnOk Tryd.prog tab 48 longC := by
  refine fn_ok (E := R0_E pl48) tab_is R0_ok (R0_J _) Tryd.func48 rfl rfl (by kernel_rfl) ?_
  rintro args bs K ⟨rfl, r, rfl, hK⟩
  refine ⟨rfl, ?_⟩
  have fin : ∀ n, n = longB r → K (.bool n) [] := fun n e => e ▸ hK
  refine ⟨fun h => ?_, fun h => ?_⟩
  · exact fin _ (by unfold longB; rw [h]; rfl)
  · exact fin _ (by unfold longB; rw [h]; rfl)
def RMy : Contract
  | 52 => amtC
  | _ => fun _ _ _ => False
theorem RMy_ok : CallOk Tryd.prog tab RMy := by
  intro f args bs K h
  unfold RMy at h
  split at h
  · exact ⟨_, h, amt_ok⟩
  · exact h.elim
def RMy_E (pl : Nat → Plan) : En := ⟨tab, RMy, fun _ => none, 0, pl⟩
theorem RMy_J (pl : Nat → Plan) : JOk Tryd.prog (RMy_E pl).T (RMy_E pl).J := fun _ _ h => by cases h
set_option maxRecDepth 200000 in
set_option maxHeartbeats 6400000 in
theorem mayR_ok : FnOk Tryd.prog tab 26 mayRC := by
  refine fn_ok (E := RMy_E pl26) tab_is RMy_ok (RMy_J _) Tryd.func26 rfl rfl (by kernel_rfl) ?_
  rintro args bs K ⟨rfl, r, rfl, hK⟩
  refine ⟨rfl, ?_⟩
  have fin : ∀ n, n = mayR r → K (.bool n) [] := fun n e => e ▸ hK
  repeat' first
    | (refine ⟨fun h => Bool.noConfusion h, fun _ => ?_⟩)
    | (refine ⟨fun _ => ?_, fun h => Bool.noConfusion h⟩)
    | (refine ⟨fun h => ?_, fun h => ?_⟩)
    | (refine ⟨rfl, r.amt, rfl, ?_⟩)
    | (refine fin _ ?_)
  all_goals (simp only [mayR, *, Bool.false_or, Bool.true_or, Bool.or_true, Bool.false_and, Bool.true_and, cond_true, cond_false])
  all_goals simp_all
theorem mayR_of {r : Req} (h : mayR r = true) : (0 ≤ r.key ∧ r.key < 1073741824) ∧ (0 ≤ r.legs ∧ r.legs ≤ 4) ∧ (0 ≤ r.til ∧ r.til ≤ 1073741824) ∧ (r.legs > 0 → r.op = 2) ∧ (r.op = 0 → 0 ≤ r.a ∧ r.a < 3) ∧ (0 ≤ r.op ∧ r.op ≤ 7) ∧ (r.op ≠ 0 → r.op ≠ 5 → amountB r.amt = true) := by
  unfold mayR at h
  cases h1 : (decide (r.key < 0) || (decide (r.key ≥ 1073741824) || (decide (r.legs < 0) || (decide (r.legs > 4) || (decide (r.til < 0) || decide (r.til > 1073741824))))))
  case true => rw [h1] at h; cases h
  case false =>
    rw [h1] at h
    cases h2 : (decide (r.legs > 0) && (r.op != 2))
    case true => rw [h2] at h; cases h
    case false =>
      rw [h2] at h
      simp at h1 h2
      refine ⟨by omega, by omega, by omega, fun h => h2 (by omega), ?_⟩
      have key : ∀ k : Int, (r.op == k) = decide (r.op = k) := fun k => by by_cases hk : r.op = k <;> simp [hk]
      simp only [cond_false] at h
      by_cases c0 : r.op = 0
      · rw [c0] at h
        have h : (decide (r.a ≥ 0) && decide (r.a < 3)) = true := h
        simp at h
        exact ⟨fun _ => h, by omega, fun h => absurd c0 h⟩
      refine ⟨fun h => absurd h c0, ?_⟩
      by_cases c5 : r.op = 5
      · exact ⟨by omega, fun _ h => absurd c5 h⟩
      by_cases c1 : r.op = 1
      · rw [c1] at h; exact ⟨by omega, fun _ _ => h⟩
      by_cases c2 : r.op = 2
      · rw [c2] at h; exact ⟨by omega, fun _ _ => h⟩
      by_cases c3 : r.op = 3
      · rw [c3] at h; exact ⟨by omega, fun _ _ => h⟩
      by_cases c4 : r.op = 4
      · rw [c4] at h; exact ⟨by omega, fun _ _ => h⟩
      by_cases c6 : r.op = 6
      · rw [c6] at h; exact ⟨by omega, fun _ _ => h⟩
      by_cases c7 : r.op = 7
      · rw [c7] at h; exact ⟨by omega, fun _ _ => h⟩
      simp [key, c0, c1, c2, c3, c4, c5, c6, c7] at h
theorem mayR_yes {r : Req} (hk : 0 ≤ r.key ∧ r.key < 1073741824) (hl : 0 ≤ r.legs ∧ r.legs ≤ 4) (hu : 0 ≤ r.til ∧ r.til ≤ 1073741824) (h2 : r.legs > 0 → r.op = 2) (h0 : r.op = 0 → 0 ≤ r.a ∧ r.a < 3) (ho : 0 ≤ r.op ∧ r.op ≤ 7) (hn : amountB r.amt = true) : mayR r = true := by
  unfold mayR
  have h1 : (decide (r.key < 0) || (decide (r.key ≥ 1073741824) || (decide (r.legs < 0) || (decide (r.legs > 4) || (decide (r.til < 0) || decide (r.til > 1073741824)))))) = false := by simp; omega
  have h2 : (decide (r.legs > 0) && (r.op != 2)) = false := by simp; omega
  rw [h1, h2]
  have hc : r.op = 0 ∨ r.op = 1 ∨ r.op = 2 ∨ r.op = 3 ∨ r.op = 4 ∨ r.op = 5 ∨ r.op = 6 ∨ r.op = 7 := by omega
  rcases hc with c | c | c | c | c | c | c | c
  · have := h0 c
    rw [c]
    show (decide (r.a ≥ 0) && decide (r.a < 3)) = true
    simp; omega
  all_goals (rw [c]; first | exact hn | rfl)
/-! ### what is reserved -/
def reserveM (s : Sta) (r : Req) : Except Int Sta :=
  if (isCl s.accs.length r.a && isCl s.accs.length r.b) = false then .error 2 else match moveM s.accs r.a r.b r.amt with
  | .error e => .error e
  | .ok _ => match holdM s.accs r.a r.amt with
    | .error e => .error e
    | .ok l => .ok (withA s l)
def settleM (s : Sta) (r : Req) : Except Int Sta := match moveM s.accs r.a r.b r.amt with
  | .error e => .error e
  | .ok es => match spendM s.accs r.amt es with
    | .error e => .error e
    | .ok l => .ok (withA s l)
def undoM (s : Sta) (r : Req) : Except Int Sta := match relM s.accs r.a r.amt with
  | .error e => .error e
  | .ok l => .ok (withA s l)
abbrev srC (M : Sta → Req → Except Int Sta) (args : List AV) (bs : List Box) (K : AV → List Box → Prop) : Prop := bs = [] ∧ ∃ (s : Sta) (r : Req), args = [staA s, reqA r] ∧ SzA s ∧
  (∀ t, M s r = .ok t → K (.tup [staA t, .nilifc]) []) ∧ (∀ e, M s r = .error e → K (.tup [staA s, errA e]) [])
def RRs : Contract
  | 36 => moveC
  | 33 => (accsRz holdM)
  | 41 => spendC
  | 40 => (accsRz relM)
  | _ => fun _ _ _ => False
theorem RRs_ok : CallOk Tryd.prog tab RRs := by
  intro f args bs K h
  unfold RRs at h
  split at h
  · exact ⟨_, h, move_ok⟩
  · exact ⟨_, h, hold_ok⟩
  · exact ⟨_, h, spend_ok⟩
  · exact ⟨_, h, rel_ok⟩
  · exact h.elim
def RRs_E (pl : Nat → Plan) : En := ⟨tab, RRs, fun _ => none, 0, pl⟩
theorem RRs_J (pl : Nat → Plan) : JOk Tryd.prog (RRs_E pl).T (RRs_E pl).J := fun _ _ h => by cases h
noncomputable def JRs : FuncId → Option StSpec
  | 86 => some (frzJ (ptrJ clisC))
  | _ => none
theorem JRs_ok : JOk Tryd.prog tab JRs := by
  intro f j h
  unfold JRs at h
  split at h
  · cases h; exact frz_ok (ptr_ok clis_ok)
  · cases h
noncomputable def ERs_E (pl : Nat → Plan) : En := ⟨tab, RRs, JRs, 0, pl⟩
set_option maxRecDepth 200000 in
set_option maxHeartbeats 3200000 in
theorem reserve_ok : FnOk Tryd.prog tab 77 (srC reserveM) := by
  refine fn_ok (E := ERs_E pl77) tab_is RRs_ok JRs_ok Tryd.func77 rfl rfl (by kernel_rfl) ?_
  rintro args bs K ⟨rfl, s, r, rfl, hz, hok, her⟩
  refine ⟨rfl, ?_⟩
  have hl := hz.la
  unfold reserveM at hok her
  refine ⟨13, 96, deskL s, _, rfl, rfl, rfl, rfl, s, [r.a, r.b], rfl, rfl, by simp, ⟨deskL s, rfl, rfl, rfl, ?_⟩⟩
  rw [clis2]
  cases hc : (isCl s.accs.length r.a && isCl s.accs.length r.b) with
  | false =>
    simp only [hc, if_true] at her
    refine ⟨fun _ => ?_, fun h => Bool.noConfusion (show true = false from h)⟩
    exact her _ rfl
  | true =>
    simp only [hc, Bool.true_eq_false, if_false] at hok her
    refine ⟨fun h => Bool.noConfusion (show false = true from h), fun _ => ?_⟩
    refine ⟨rfl, s.accs, r.a, r.b, r.amt, rfl, fun es hm => ?_, fun e hm => ?_⟩
    · simp only [hm] at hok her
      refine ⟨fun h => Bool.noConfusion (show false = true from h), fun _ => ?_⟩
      refine ⟨rfl, s.accs, r.a, r.amt, rfl, by omega, fun l hh => ?_, fun e hh => ?_⟩
      · simp only [hh] at hok
        refine ⟨fun h => Bool.noConfusion (show false = true from h), fun _ => ?_⟩
        exact hok _ rfl
      · simp only [hh] at her
        refine ⟨fun _ => ?_, fun h => Bool.noConfusion (show true = false from h)⟩
        exact her _ rfl
    · simp only [hm] at her
      refine ⟨fun _ => ?_, fun h => Bool.noConfusion (show true = false from h)⟩
      exact her _ rfl
set_option maxRecDepth 200000 in
set_option maxHeartbeats 3200000 in
theorem settle_ok : FnOk Tryd.prog tab 82 (srC settleM) := by
  refine fn_ok (E := RRs_E pl82) tab_is RRs_ok (RRs_J _) Tryd.func82 rfl rfl (by kernel_rfl) ?_
  rintro args bs K ⟨rfl, s, r, rfl, hz, hok, her⟩
  refine ⟨rfl, ?_⟩
  have hl := hz.la
  unfold settleM at hok her
  refine ⟨rfl, s.accs, r.a, r.b, r.amt, rfl, fun es hm => ?_, fun e hm => ?_⟩
  · simp only [hm] at hok her
    have hle := move_len hm
    refine ⟨fun h => Bool.noConfusion (show false = true from h), fun _ => ?_⟩
    refine ⟨rfl, s.accs, r.amt, es, rfl, by omega, by omega, fun l hh => ?_, fun e hh => ?_⟩
    · simp only [hh] at hok
      refine ⟨fun h => Bool.noConfusion (show false = true from h), fun _ => ?_⟩
      exact hok _ rfl
    · simp only [hh] at her
      refine ⟨fun _ => ?_, fun h => Bool.noConfusion (show true = false from h)⟩
      exact her _ rfl
  · simp only [hm] at her
    refine ⟨fun _ => ?_, fun h => Bool.noConfusion (show true = false from h)⟩
    exact her _ rfl
set_option maxRecDepth 200000 in
set_option maxHeartbeats 3200000 in
theorem undo_ok : FnOk Tryd.prog tab 84 (srC undoM) := by
  refine fn_ok (E := RRs_E pl84) tab_is RRs_ok (RRs_J _) Tryd.func84 rfl rfl (by kernel_rfl) ?_
  rintro args bs K ⟨rfl, s, r, rfl, hz, hok, her⟩
  refine ⟨rfl, ?_⟩
  have hl := hz.la
  unfold undoM at hok her
  refine ⟨rfl, s.accs, r.a, r.amt, rfl, by omega, fun l hh => ?_, fun e hh => ?_⟩
  · simp only [hh] at hok
    refine ⟨fun h => Bool.noConfusion (show false = true from h), fun _ => ?_⟩
    exact hok _ rfl
  · simp only [hh] at her
    refine ⟨fun _ => ?_, fun h => Bool.noConfusion (show true = false from h)⟩
    exact her _ rfl
end Go.Proofs.YtkeafcjdejmohaaDoor.A
