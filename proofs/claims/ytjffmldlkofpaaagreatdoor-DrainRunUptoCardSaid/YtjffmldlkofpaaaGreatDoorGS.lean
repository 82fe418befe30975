/- saga: Begin, Ready, Leg, Turn; request: May, Long; ops: Reserve, Settle, Undo. -/
import Derived.Test.YtjffmldlkofpaaaGreatDoorGE
import Derived.Test.YtjffmldlkofpaaaGreatDoorGY
import Derived.Test.YtjffmldlkofpaaaGreatDoorGF
namespace Go.Proofs.YtjffmldlkofpaaaGreatDoor.A
open Go Q
/-! ### sagas -/
def beginM (r : Req) : Sag := ⟨r, 0, 0, 0, 0⟩
def readyM (g : Sag) : Bool := (g.phase == 0) && decide (g.leg ≥ g.req.legs)
def agreeM (g : Sag) : Sag := ⟨g.req, g.phase, w64 (g.leg + 1), 0, g.why⟩
def refuseM (g : Sag) : Sag := if w64 (g.tries + 1) > 3 then ⟨g.req, 1, g.leg, w64 (g.tries + 1), 9⟩ else ⟨g.req, g.phase, g.leg, w64 (g.tries + 1), g.why⟩
def legM (g : Sag) (ok : Bool) : Sag := if g.phase ≠ 0 ∨ readyM g = true then g else if ok = true then agreeM g else refuseM g
def turnM (g : Sag) (why : Int) : Sag := if g.phase = 0 then ⟨g.req, 1, g.leg, g.tries, why⟩ else g
def beginC (args : List AV) (bs : List Box) (K : AV → List Box → Prop) : Prop := bs = [] ∧ ∃ r : Req, args = [reqA r] ∧ K (sagA (beginM r)) []
set_option maxRecDepth 200000 in
set_option maxHeartbeats 1600000 in
theorem begin_ok : FnOk Tryz.prog tab 67 beginC := by
  refine fn_ok (E := R0_E pl67) tab_is R0_ok (R0_J _) Tryz.func67 rfl rfl (by kernel_rfl) ?_
  rintro args bs K ⟨rfl, r, rfl, hK⟩
  refine ⟨rfl, ?_⟩
  exact hK
def readyC (args : List AV) (bs : List Box) (K : AV → List Box → Prop) : Prop := bs = [] ∧ ∃ g : Sag, args = [sagA g] ∧ K (.bool (readyM g)) []
set_option maxRecDepth 200000 in
set_option maxHeartbeats 1600000 in
theorem ready_ok : FnOk Tryz.prog tab 71 readyC := by
  refine fn_ok (E := R0_E pl71) tab_is R0_ok (R0_J _) Tryz.func71 rfl rfl (by kernel_rfl) ?_
  rintro args bs K ⟨rfl, g, rfl, hK⟩
  refine ⟨rfl, ?_⟩
  have fin : ∀ n, n = readyM g → K (.bool n) [] := fun n e => e ▸ hK
  refine ⟨fun h => ?_, fun h => ?_⟩
  · exact fin _ (by unfold readyM; rw [h]; rfl)
  · exact fin _ (by unfold readyM; rw [h]; rfl)
abbrev sag1C (f : Sag → Sag) (args : List AV) (bs : List Box) (K : AV → List Box → Prop) : Prop := bs = [] ∧ ∃ g : Sag, args = [sagA g] ∧ K (sagA (f g)) []
set_option maxRecDepth 200000 in
set_option maxHeartbeats 1600000 in
theorem agree_ok : FnOk Tryz.prog tab 91 (sag1C agreeM) := by
  refine fn_ok (E := R0_E pl91) tab_is R0_ok (R0_J _) Tryz.func91 rfl rfl (by kernel_rfl) ?_
  rintro args bs K ⟨rfl, g, rfl, hK⟩
  refine ⟨rfl, ?_⟩
  exact hK
set_option maxRecDepth 200000 in
set_option maxHeartbeats 1600000 in
theorem refuse_ok : FnOk Tryz.prog tab 90 (sag1C refuseM) := by
  refine fn_ok (E := R0_E pl90) tab_is R0_ok (R0_J _) Tryz.func90 rfl rfl (by kernel_rfl) ?_
  rintro args bs K ⟨rfl, g, rfl, hK⟩
  refine ⟨rfl, ?_⟩
  unfold refuseM at hK
  refine ⟨fun h => ?_, fun h => ?_⟩
  · have h : w64 (g.tries + 1) > 3 := decT h
    rw [if_pos h] at hK; exact hK
  · have h : ¬ w64 (g.tries + 1) > 3 := decF h
    rw [if_neg h] at hK; exact hK
def RLg : Contract
  | 71 => readyC
  | 91 => (sag1C agreeM)
  | 90 => (sag1C refuseM)
  | _ => fun _ _ _ => False
theorem RLg_ok : CallOk Tryz.prog tab RLg := by
  intro f args bs K h
  unfold RLg at h
  split at h
  · exact ⟨_, h, ready_ok⟩
  · exact ⟨_, h, agree_ok⟩
  · exact ⟨_, h, refuse_ok⟩
  · exact h.elim
def RLg_E (pl : Nat → Plan) : En := ⟨tab, RLg, fun _ => none, 0, pl⟩
theorem RLg_J (pl : Nat → Plan) : JOk Tryz.prog (RLg_E pl).T (RLg_E pl).J := fun _ _ h => by cases h
def legC (args : List AV) (bs : List Box) (K : AV → List Box → Prop) : Prop := bs = [] ∧ ∃ (g : Sag) (ok : Bool), args = [sagA g, .bool ok] ∧ K (sagA (legM g ok)) []
set_option maxRecDepth 200000 in
set_option maxHeartbeats 1600000 in
theorem leg_ok : FnOk Tryz.prog tab 74 legC := by
  refine fn_ok (E := RLg_E pl74) tab_is RLg_ok (RLg_J _) Tryz.func74 rfl rfl (by kernel_rfl) ?_
  rintro args bs K ⟨rfl, g, ok, rfl, hK⟩
  refine ⟨rfl, ?_⟩
  unfold legM at hK
  refine ⟨fun h => ?_, fun h => ?_⟩
  · rw [if_pos (.inl (bneT h))] at hK
    refine ⟨fun _ => ?_, fun h => Bool.noConfusion (show true = false from h)⟩
    exact hK
  · have h0 : g.phase = 0 := bneF h
    refine ⟨rfl, g, rfl, ?_⟩
    cases hr : readyM g with
    | true =>
      rw [if_pos (.inr hr)] at hK
      refine ⟨fun _ => ?_, fun h => Bool.noConfusion (show true = false from h)⟩
      exact hK
    | false =>
      rw [if_neg (by simp [h0, hr])] at hK
      refine ⟨fun h => Bool.noConfusion (show false = true from h), fun _ => ?_⟩
      cases ok with
      | true =>
        rw [if_pos rfl] at hK
        refine ⟨fun _ => ?_, fun h => Bool.noConfusion (show true = false from h)⟩
        exact ⟨rfl, g, rfl, hK⟩
      | false =>
        rw [if_neg (by decide)] at hK
        refine ⟨fun h => Bool.noConfusion (show false = true from h), fun _ => ?_⟩
        exact ⟨rfl, g, rfl, hK⟩
def turnC (args : List AV) (bs : List Box) (K : AV → List Box → Prop) : Prop := bs = [] ∧ ∃ (g : Sag) (w : Int), args = [sagA g, .int .i64 w] ∧ K (sagA (turnM g w)) []
set_option maxRecDepth 200000 in
set_option maxHeartbeats 1600000 in
theorem turn_ok : FnOk Tryz.prog tab 73 turnC := by
  refine fn_ok (E := R0_E pl73) tab_is R0_ok (R0_J _) Tryz.func73 rfl rfl (by kernel_rfl) ?_
  rintro args bs K ⟨rfl, g, w, rfl, hK⟩
  refine ⟨rfl, ?_⟩
  unfold turnM at hK
  refine ⟨fun h => ?_, fun h => ?_⟩
  · rw [if_pos (beqT h)] at hK; exact hK
  · rw [if_neg (beqF h)] at hK; exact hK
/-! ### requests -/
def mayR (r : Req) : Bool := bif decide (r.key < 0) || (decide (r.key ≥ 1073741824) || (decide (r.legs < 0) || (decide (r.legs > 4) || (decide (r.til < 0) || decide (r.til > 1073741824))))) then false else bif decide (r.legs > 0) && (r.op != 2) then false
  else bif r.op == 0 then decide (r.a ≥ 0) && decide (r.a < 3) else bif r.op == 5 then true else bif r.op == 1 then amountB r.amt else bif r.op == 2 then amountB r.amt else bif r.op == 3 then amountB r.amt else bif r.op == 4 then amountB r.amt else bif r.op == 6 then amountB r.amt else bif r.op == 7 then amountB r.amt else false
def longB (r : Req) : Bool := decide (r.legs > 0) && (r.op == 2)
def mayRC (args : List AV) (bs : List Box) (K : AV → List Box → Prop) : Prop := bs = [] ∧ ∃ r : Req, args = [reqA r] ∧ K (.bool (mayR r)) []
def longC (args : List AV) (bs : List Box) (K : AV → List Box → Prop) : Prop := bs = [] ∧ ∃ r : Req, args = [reqA r] ∧ K (.bool (longB r)) []
set_option maxRecDepth 200000 in
set_option maxHeartbeats 1600000 in
theorem long_ok : FnOk Tryz.prog tab 48 longC := by
  refine fn_ok (E := R0_E pl48) tab_is R0_ok (R0_J _) Tryz.func48 rfl rfl (by kernel_rfl) ?_
  rintro args bs K ⟨rfl, r, rfl, hK⟩
  refine ⟨rfl, ?_⟩
  have fin : ∀ n, n = longB r → K (.bool n) [] := fun n e => e ▸ hK
  refine ⟨fun h => ?_, fun h => ?_⟩
  · exact fin _ (by unfold longB; rw [h]; rfl)
  · exact fin _ (by unfold longB; rw [h]; rfl)
def RMy : Contract
  | 77 => amtC
  | _ => fun _ _ _ => False
theorem RMy_ok : CallOk Tryz.prog tab RMy := by
  intro f args bs K h
  unfold RMy at h
  split at h
  · exact ⟨_, h, amt_ok⟩
  · exact h.elim
def RMy_E (pl : Nat → Plan) : En := ⟨tab, RMy, fun _ => none, 0, pl⟩
theorem RMy_J (pl : Nat → Plan) : JOk Tryz.prog (RMy_E pl).T (RMy_E pl).J := fun _ _ h => by cases h
set_option maxRecDepth 200000 in
set_option maxHeartbeats 6400000 in
theorem mayR_ok : FnOk Tryz.prog tab 44 mayRC := by
  refine fn_ok (E := RMy_E pl44) tab_is RMy_ok (RMy_J _) Tryz.func44 rfl rfl (by kernel_rfl) ?_
  rintro args bs K ⟨rfl, r, rfl, hK⟩
  refine ⟨rfl, ?_⟩
  have fin : ∀ n, n = mayR r → K (.bool n) [] := fun n e => e ▸ hK
  repeat' first
    | (refine ⟨fun h => Bool.noConfusion h, fun _ => ?_⟩)
    | (refine ⟨fun _ => ?_, fun h => Bool.noConfusion h⟩)
    | (refine ⟨fun h => ?_, fun h => ?_⟩)
    | (refine ⟨rfl, r.amt, rfl, ?_⟩)
    | (refine fin _ ?_)
  all_goals (simp only [mayR, *, Bool.false_or, Bool.true_or, Bool.or_true, Bool.false_and, Bool.true_and, cond_true, cond_false])
  all_goals simp_all
theorem mayR_of {r : Req} (h : mayR r = true) : (0 ≤ r.key ∧ r.key < 1073741824) ∧ (0 ≤ r.legs ∧ r.legs ≤ 4) ∧ (0 ≤ r.til ∧ r.til ≤ 1073741824) ∧ (r.legs > 0 → r.op = 2) ∧ (r.op = 0 → 0 ≤ r.a ∧ r.a < 3) ∧ (0 ≤ r.op ∧ r.op ≤ 7) ∧ (r.op ≠ 0 → r.op ≠ 5 → amountB r.amt = true) := by
  unfold mayR at h
  cases h1 : (decide (r.key < 0) || (decide (r.key ≥ 1073741824) || (decide (r.legs < 0) || (decide (r.legs > 4) || (decide (r.til < 0) || decide (r.til > 1073741824))))))
  case true => rw [h1] at h; cases h
  case false =>
    rw [h1] at h
    cases h2 : (decide (r.legs > 0) && (r.op != 2))
    case true => rw [h2] at h; cases h
    case false =>
      rw [h2] at h
      simp at h1 h2
      refine ⟨by omega, by omega, by omega, fun h => h2 (by omega), ?_⟩
      have key : ∀ k : Int, (r.op == k) = decide (r.op = k) := fun k => by by_cases hk : r.op = k <;> simp [hk]
      simp only [cond_false] at h
      by_cases c0 : r.op = 0
      · rw [c0] at h
        have h : (decide (r.a ≥ 0) && decide (r.a < 3)) = true := h
        simp at h
        exact ⟨fun _ => h, by omega, fun h => absurd c0 h⟩
      refine ⟨fun h => absurd h c0, ?_⟩
      by_cases c5 : r.op = 5
      · exact ⟨by omega, fun _ h => absurd c5 h⟩
      by_cases c1 : r.op = 1
      · rw [c1] at h; exact ⟨by omega, fun _ _ => h⟩
      by_cases c2 : r.op = 2
      · rw [c2] at h; exact ⟨by omega, fun _ _ => h⟩
      by_cases c3 : r.op = 3
      · rw [c3] at h; exact ⟨by omega, fun _ _ => h⟩
      by_cases c4 : r.op = 4
      · rw [c4] at h; exact ⟨by omega, fun _ _ => h⟩
      by_cases c6 : r.op = 6
      · rw [c6] at h; exact ⟨by omega, fun _ _ => h⟩
      by_cases c7 : r.op = 7
      · rw [c7] at h; exact ⟨by omega, fun _ _ => h⟩
      simp [key, c0, c1, c2, c3, c4, c5, c6, c7] at h
theorem mayR_yes {r : Req} (hk : 0 ≤ r.key ∧ r.key < 1073741824) (hl : 0 ≤ r.legs ∧ r.legs ≤ 4) (hu : 0 ≤ r.til ∧ r.til ≤ 1073741824) (h2 : r.legs > 0 → r.op = 2) (h0 : r.op = 0 → 0 ≤ r.a ∧ r.a < 3) (ho : 0 ≤ r.op ∧ r.op ≤ 7) (hn : amountB r.amt = true) : mayR r = true := by
  unfold mayR
  have h1 : (decide (r.key < 0) || (decide (r.key ≥ 1073741824) || (decide (r.legs < 0) || (decide (r.legs > 4) || (decide (r.til < 0) || decide (r.til > 1073741824)))))) = false := by simp; omega
  have h2 : (decide (r.legs > 0) && (r.op != 2)) = false := by simp; omega
  rw [h1, h2]
  have hc : r.op = 0 ∨ r.op = 1 ∨ r.op = 2 ∨ r.op = 3 ∨ r.op = 4 ∨ r.op = 5 ∨ r.op = 6 ∨ r.op = 7 := by omega
  rcases hc with c | c | c | c | c | c | c | c
  · have := h0 c
    rw [c]
    show (decide (r.a ≥ 0) && decide (r.a < 3)) = true
    simp; omega
  all_goals (rw [c]; first | exact hn | rfl)
/-! ### what is reserved -/
def reserveM (s : Sta) (r : Req) : Except Int Sta :=
  if (isCl s.accs.length r.a && isCl s.accs.length r.b) = false then .error 2 else match moveM s.accs r.a r.b r.amt with
  | .error e => .error e
  | .ok _ => match holdM s.accs r.a r.amt with
    | .error e => .error e
    | .ok l => .ok (withA s l)
def settleM (s : Sta) (r : Req) : Except Int Sta := match moveM s.accs r.a r.b r.amt with
  | .error e => .error e
  | .ok es => match spendM s.accs r.amt es with
    | .error e => .error e
    | .ok l => .ok (withA s l)
def undoM (s : Sta) (r : Req) : Except Int Sta := match relM s.accs r.a r.amt with
  | .error e => .error e
  | .ok l => .ok (withA s l)
abbrev srC (M : Sta → Req → Except Int Sta) (args : List AV) (bs : List Box) (K : AV → List Box → Prop) : Prop := bs = [] ∧ ∃ (s : Sta) (r : Req), args = [staA s, reqA r] ∧ SzA s ∧
  (∀ t, M s r = .ok t → K (.tup [staA t, .nilifc]) []) ∧ (∀ e, M s r = .error e → K (.tup [staA s, errA e]) [])
def RRs : Contract
  | 87 => moveC
  | 43 => (accsRz holdM)
  | 89 => spendC
  | 88 => (accsRz relM)
  | _ => fun _ _ _ => False
theorem RRs_ok : CallOk Tryz.prog tab RRs := by
  intro f args bs K h
  unfold RRs at h
  split at h
  · exact ⟨_, h, move_ok⟩
  · exact ⟨_, h, hold_ok⟩
  · exact ⟨_, h, spend_ok⟩
  · exact ⟨_, h, rel_ok⟩
  · exact h.elim
def RRs_E (pl : Nat → Plan) : En := ⟨tab, RRs, fun _ => none, 0, pl⟩
theorem RRs_J (pl : Nat → Plan) : JOk Tryz.prog (RRs_E pl).T (RRs_E pl).J := fun _ _ h => by cases h
noncomputable def JRs : FuncId → Option StSpec
  | 86 => some (frzJ (ptrJ clisC))
  | _ => none
theorem JRs_ok : JOk Tryz.prog tab JRs := by
  intro f j h
  unfold JRs at h
  split at h
  · cases h; exact frz_ok (ptr_ok clis_ok)
  · cases h
noncomputable def ERs_E (pl : Nat → Plan) : En := ⟨tab, RRs, JRs, 0, pl⟩
set_option maxRecDepth 200000 in
set_option maxHeartbeats 3200000 in
theorem reserve_ok : FnOk Tryz.prog tab 66 (srC reserveM) := by
  refine fn_ok (E := ERs_E pl66) tab_is RRs_ok JRs_ok Tryz.func66 rfl rfl (by kernel_rfl) ?_
  rintro args bs K ⟨rfl, s, r, rfl, hz, hok, her⟩
  refine ⟨rfl, ?_⟩
  have hl := hz.la
  unfold reserveM at hok her
  refine ⟨13, 151, deskL s, _, rfl, rfl, rfl, rfl, s, [r.a, r.b], rfl, rfl, by simp, ⟨deskL s, rfl, rfl, rfl, ?_⟩⟩
  rw [clis2]
  cases hc : (isCl s.accs.length r.a && isCl s.accs.length r.b) with
  | false =>
    simp only [hc, if_true] at her
    refine ⟨fun _ => ?_, fun h => Bool.noConfusion (show true = false from h)⟩
    exact her _ rfl
  | true =>
    simp only [hc, Bool.true_eq_false, if_false] at hok her
    refine ⟨fun h => Bool.noConfusion (show false = true from h), fun _ => ?_⟩
    refine ⟨rfl, s.accs, r.a, r.b, r.amt, rfl, fun es hm => ?_, fun e hm => ?_⟩
    · simp only [hm] at hok her
      refine ⟨fun h => Bool.noConfusion (show false = true from h), fun _ => ?_⟩
      refine ⟨rfl, s.accs, r.a, r.amt, rfl, by omega, fun l hh => ?_, fun e hh => ?_⟩
      · simp only [hh] at hok
        refine ⟨fun h => Bool.noConfusion (show false = true from h), fun _ => ?_⟩
        exact hok _ rfl
      · simp only [hh] at her
        refine ⟨fun _ => ?_, fun h => Bool.noConfusion (show true = false from h)⟩
        exact her _ rfl
    · simp only [hm] at her
      refine ⟨fun _ => ?_, fun h => Bool.noConfusion (show true = false from h)⟩
      exact her _ rfl
set_option maxRecDepth 200000 in
set_option maxHeartbeats 3200000 in
theorem settle_ok : FnOk Tryz.prog tab 72 (srC settleM) := by
  refine fn_ok (E := RRs_E pl72) tab_is RRs_ok (RRs_J _) Tryz.func72 rfl rfl (by kernel_rfl) ?_
  rintro args bs K ⟨rfl, s, r, rfl, hz, hok, her⟩
  refine ⟨rfl, ?_⟩
  have hl := hz.la
  unfold settleM at hok her
  refine ⟨rfl, s.accs, r.a, r.b, r.amt, rfl, fun es hm => ?_, fun e hm => ?_⟩
  · simp only [hm] at hok her
    have hle := move_len hm
    refine ⟨fun h => Bool.noConfusion (show false = true from h), fun _ => ?_⟩
    refine ⟨rfl, s.accs, r.amt, es, rfl, by omega, by omega, fun l hh => ?_, fun e hh => ?_⟩
    · simp only [hh] at hok
      refine ⟨fun h => Bool.noConfusion (show false = true from h), fun _ => ?_⟩
      exact hok _ rfl
    · simp only [hh] at her
      refine ⟨fun _ => ?_, fun h => Bool.noConfusion (show true = false from h)⟩
      exact her _ rfl
  · simp only [hm] at her
    refine ⟨fun _ => ?_, fun h => Bool.noConfusion (show true = false from h)⟩
    exact her _ rfl
set_option maxRecDepth 200000 in
set_option maxHeartbeats 3200000 in
theorem undo_ok : FnOk Tryz.prog tab 69 (srC undoM) := by
  refine fn_ok (E := RRs_E pl69) tab_is RRs_ok (RRs_J _) Tryz.func69 rfl rfl (by kernel_rfl) ?_
  rintro args bs K ⟨rfl, s, r, rfl, hz, hok, her⟩
  refine ⟨rfl, ?_⟩
  have hl := hz.la
  unfold undoM at hok her
  refine ⟨rfl, s.accs, r.a, r.amt, rfl, by omega, fun l hh => ?_, fun e hh => ?_⟩
  · simp only [hh] at hok
    refine ⟨fun h => Bool.noConfusion (show false = true from h), fun _ => ?_⟩
    exact hok _ rfl
  · simp only [hh] at her
    refine ⟨fun _ => ?_, fun h => Bool.noConfusion (show true = false from h)⟩
    exact her _ rfl
/-- A saga that goes on. -/
structure SagI (g : Sag) : Prop where
  l : 0 ≤ g.leg ∧ g.leg ≤ g.req.legs
  n : g.req.legs ≤ 4
  t : 0 ≤ g.tries ∧ g.tries ≤ 4
  f : g.phase = 0 → g.tries ≤ 3
  p : g.phase = 0 ∨ g.phase = 1
def muG (g : Sag) : Nat := if g.phase = 0 then ((g.req.legs - g.leg) * 5 + (4 - g.tries)).toNat else 0
theorem sagI_leg {g : Sag} (h : SagI g) (h0 : g.phase = 0) (hr : readyM g = false) (ok : Bool) : SagI (legM g ok) ∧ muG (legM g ok) < muG g ∧ (legM g ok).req = g.req := by
  have hl := h.l
  have hn := h.n
  have ht := h.t
  have hf := h.f h0
  have hlt : g.leg < g.req.legs := by
    simp [readyM, h0] at hr; omega
  have e : legM g ok = if ok = true then agreeM g else refuseM g := by unfold legM; rw [if_neg (by simp [h0, hr])]
  have w1 : w64 (g.leg + 1) = g.leg + 1 := w64_of (by omega) (by omega)
  have w2 : w64 (g.tries + 1) = g.tries + 1 := w64_of (by omega) (by omega)
  have m0 : muG g = ((g.req.legs - g.leg) * 5 + (4 - g.tries)).toNat := by unfold muG; rw [if_pos h0]
  rw [e, m0]
  cases ok with
  | true =>
    rw [if_pos rfl]
    unfold agreeM
    rw [w1]
    refine ⟨⟨⟨by show 0 ≤ g.leg + 1; omega, by show g.leg + 1 ≤ g.req.legs; omega⟩, hn, ⟨Int.le_refl 0, by show (0 : Int) ≤ 4; decide⟩, fun _ => by show (0 : Int) ≤ 3; decide, h.p⟩, ?_, rfl⟩
    unfold muG
    rw [if_pos (by exact h0)]
    simp only
    omega
  | false =>
    rw [if_neg (by decide)]
    unfold refuseM
    rw [w2]
    split
    · refine ⟨⟨hl, hn, ⟨by show 0 ≤ g.tries + 1; omega, by show g.tries + 1 ≤ 4; omega⟩, fun h => absurd (show (1 : Int) = 0 from h) (by decide), .inr rfl⟩, ?_, rfl⟩
      unfold muG
      rw [if_neg (show ¬ (1 : Int) = 0 by decide)]
      omega
    · refine ⟨⟨hl, hn, ⟨by show 0 ≤ g.tries + 1; omega, by show g.tries + 1 ≤ 4; omega⟩, fun _ => by show g.tries + 1 ≤ 3; omega, h.p⟩, ?_, rfl⟩
      unfold muG
      rw [if_pos (by exact h0)]
      simp only
      omega
theorem begin_I {r : Req} (h0 : 0 ≤ r.legs) (h4 : r.legs ≤ 4) : SagI (beginM r) := ⟨⟨Int.le_refl 0, h0⟩, h4, ⟨Int.le_refl 0, by show (0 : Int) ≤ 4; decide⟩, fun _ => by show (0 : Int) ≤ 3; decide, .inl rfl⟩
def undoD (s : Sta) (r : Req) : Sta := match undoM s r with
  | .ok t => t
  | .error _ => s
theorem reserve_len {s t : Sta} {r : Req} (h : reserveM s r = .ok t) : t.accs.length = s.accs.length ∧ t.pays = s.pays ∧ t.sags = s.sags ∧ t.kns = s.kns ∧ t.now = s.now := by
  unfold reserveM at h
  split at h
  · cases h
  · split at h
    · cases h
    · split at h
      · cases h
      · rename_i l hl
        cases h
        exact ⟨holdM_len hl, rfl, rfl, rfl, rfl⟩
theorem settle_len {s t : Sta} {r : Req} (h : settleM s r = .ok t) : t.accs.length = s.accs.length ∧ t.pays = s.pays ∧ t.sags = s.sags ∧ t.kns = s.kns ∧ t.now = s.now := by
  unfold settleM at h
  split at h
  · cases h
  · split at h
    · cases h
    · rename_i l hl
      cases h
      exact ⟨spendM_len hl, rfl, rfl, rfl, rfl⟩
theorem undo_len (s : Sta) (r : Req) : (undoD s r).accs.length = s.accs.length ∧ (undoD s r).pays = s.pays ∧ (undoD s r).sags = s.sags ∧ (undoD s r).kns = s.kns ∧ (undoD s r).now = s.now := by
  unfold undoD undoM
  cases hr : relM s.accs r.a r.amt with
  | error e => exact ⟨rfl, rfl, rfl, rfl, rfl⟩
  | ok l => exact ⟨rel_len hr, rfl, rfl, rfl, rfl⟩
theorem sz_of {s t : Sta} (h : SzA s) (e : t.accs.length = s.accs.length ∧ t.pays = s.pays ∧ t.sags = s.sags ∧ t.kns = s.kns ∧ t.now = s.now) : SzA t := ⟨by rw [e.1]; exact h.la, by rw [e.2.1]; exact h.lp⟩
end Go.Proofs.YtjffmldlkofpaaaGreatDoor.A

/- keys: Ask, Put, Tell. -/
namespace Go.Proofs.YtjffmldlkofpaaaGreatDoor.A
open Go Q
def reqB (x y : Req) : Bool := (x.key == y.key) && ((x.op == y.op) && ((x.a == y.a) && ((x.b == y.b) && ((x.amt == y.amt) && ((x.legs == y.legs) && ((x.til == y.til) && true))))))
theorem req_ext {x y : Req} (h : x.key = y.key ∧ x.op = y.op ∧ x.a = y.a ∧ x.b = y.b ∧ x.amt = y.amt ∧ x.legs = y.legs ∧ x.til = y.til) : x = y := by cases x; cases y; simp_all
theorem reqB_iff {x y : Req} : reqB x y = true ↔ x = y := by
  constructor
  · intro h
    simp [reqB] at h
    exact req_ext h
  · rintro rfl
    simp [reqB]
theorem reqB_no {x y : Req} : reqB x y = false ↔ x ≠ y := by
  rw [← Bool.not_eq_true, reqB_iff]
theorem find_cases (ks : List Kno) (key : Int) : (findK ks key 0 = -1 ∧ ∀ k ∈ ks, k.req.key ≠ key) ∨ ∃ (i : Nat) (k : Kno), findK ks key 0 = i ∧ ks[i]? = some k ∧ k.req.key = key ∧ ∀ (j : Nat) (q : Kno), j < i → ks[j]? = some q → q.req.key ≠ key := by
  have aux : ∀ (ks : List Kno) (o : Int), (findK ks key o = -1 ∧ ∀ k ∈ ks, k.req.key ≠ key) ∨ ∃ (i : Nat) (k : Kno), findK ks key o = o + i ∧ ks[i]? = some k ∧ k.req.key = key ∧ ∀ (j : Nat) (q : Kno), j < i → ks[j]? = some q → q.req.key ≠ key := by
    intro ks
    induction ks with
    | nil => exact fun o => .inl ⟨rfl, fun _ h => by cases h⟩
    | cons k ks ih =>
      intro o
      by_cases hk : k.req.key = key
      · exact .inr ⟨0, k, by simp [findK, hk], rfl, hk, fun j q h => absurd h (Nat.not_lt_zero _)⟩
      · have e : findK (k :: ks) key o = findK ks key (o + 1) := by simp [findK, hk]
        rw [e]
        rcases ih (o + 1) with ⟨h1, h2⟩ | ⟨i, q, h1, h2, h3, h4⟩
        · refine .inl ⟨h1, fun x hx => ?_⟩
          rcases List.mem_cons.1 hx with rfl | hx
          · exact hk
          · exact h2 x hx
        · refine .inr ⟨i + 1, q, by rw [h1]; omega, by simpa using h2, h3, fun j x hj hx => ?_⟩
          cases j with
          | zero =>
            obtain rfl : k = x := by simpa using hx
            exact hk
          | succ j => exact h4 j x (by omega) (by simpa using hx)
  rcases aux ks 0 with h | ⟨i, k, h1, h2⟩
  · exact .inl h
  · exact .inr ⟨i, k, by rw [h1]; omega, h2⟩
/-- What is told of a request whose key is known. -/
def askM (ks : List Kno) (r : Req) : Rep × Bool := if findK ks r.key 0 < 0 then ((0, 0), false) else match ks[(findK ks r.key 0).toNat]? with
  | none => ((0, 0), false)
  | some k => if reqB k.req r = false then ((5, 0), true) else if k.told = false then ((10, 0), true) else ((k.err, k.id), true)
def putKM (ks : List Kno) (r : Req) : Except Int (List Kno) := if findK ks r.key 0 ≥ 0 then .error 5 else if ks.length ≥ 256 then .error 7 else .ok (ks ++ [⟨r, 0, 0, false⟩])
def tellM (ks : List Kno) (key e i : Int) : Except Int (List Kno) := if findK ks key 0 < 0 then .error 2 else match ks[(findK ks key 0).toNat]? with
  | none => .error 0
  | some k => if k.told = true then .error 6 else .ok (ks.set (findK ks key 0).toNat ⟨k.req, e, i, true⟩)
def RFi : Contract
  | 80 => findC
  | _ => fun _ _ _ => False
theorem RFi_ok : CallOk Tryz.prog tab RFi := by
  intro f args bs K h
  unfold RFi at h
  split at h
  · exact ⟨_, h, find_ok⟩
  · exact h.elim
def RFi_E (pl : Nat → Plan) : En := ⟨tab, RFi, fun _ => none, 0, pl⟩
theorem RFi_J (pl : Nat → Plan) : JOk Tryz.prog (RFi_E pl).T (RFi_E pl).J := fun _ _ h => by cases h
def askKC (args : List AV) (bs : List Box) (K : AV → List Box → Prop) : Prop := bs = [] ∧ ∃ (ks : List Kno) (r : Req), args = [knsA ks, reqA r] ∧ ks.length ≤ 1000000 ∧ K (.tup [repA (askM ks r).1.1 (askM ks r).1.2, .bool (askM ks r).2]) []
theorem kno_at {ks : List Kno} {i : Nat} {k : Kno} (h : ks[i]? = some k) : (ks.map knoA)[i]? = some (knoA k) := map_of h
set_option maxRecDepth 200000 in
set_option maxHeartbeats 3200000 in
theorem askK_ok : FnOk Tryz.prog tab 45 askKC := by
  refine fn_ok (E := RFi_E pl45) tab_is RFi_ok (RFi_J _) Tryz.func45 rfl rfl (by kernel_rfl) ?_
  rintro args bs K ⟨rfl, ks, r, rfl, hl, hK⟩
  refine ⟨rfl, ?_⟩
  unfold askM at hK
  refine ⟨rfl, ks, r.key, rfl, by omega, ?_⟩
  refine ⟨fun h => ?_, fun h => ?_⟩
  · rw [if_pos (decT h)] at hK; exact hK
  · have h := decF h
    rw [if_neg h] at hK
    rcases find_cases ks r.key with ⟨h1, -⟩ | ⟨i, k, h1, h2, -⟩
    · rw [h1] at h; exact absurd (by decide) h
    · have e : (findK ks r.key 0).toNat = i := by omega
      rw [e, h2] at hK
      have h0 : 0 ≤ findK ks r.key 0 := by omega
      have hg : (ks.map knoA)[(findK ks r.key 0).toNat]? = some (knoA k) := by rw [e]; exact map_of h2
      simp only at hK
      refine ⟨_, h0, hg, ?_⟩
      refine ⟨fun h => ?_, fun h => ?_⟩
      · have h : reqB k.req r = false := by
          have h : (!reqB k.req r) = true := h
          simpa using h
        rw [if_pos h] at hK; exact hK
      · have h : reqB k.req r = true := by
          have h : (!reqB k.req r) = false := h
          simpa using h
        rw [h, if_neg (by decide)] at hK
        refine ⟨_, h0, hg, ?_⟩
        cases ht : k.told with
        | false =>
          rw [ht, if_pos rfl] at hK
          refine ⟨fun _ => hK, fun h => ?_⟩
          have h : (!k.told) = false := h
          rw [ht] at h; cases h
        | true =>
          rw [ht, if_neg (by decide)] at hK
          refine ⟨fun h => ?_, fun _ => ⟨_, h0, hg, hK⟩⟩
          have h : (!k.told) = true := h
          rw [ht] at h; cases h
abbrev ksO (F : Nat) (l : List Kno) : AV := .sl (.own F) 63 (l.map knoA)
abbrev putKC0 (F : List Kno → AV) (args : List AV) (bs : List Box) (K : AV → List Box → Prop) : Prop := bs = [] ∧ ∃ (ks : List Kno) (r : Req), args = [knsA ks, reqA r] ∧ ks.length ≤ 1000000 ∧ (∀ l, putKM ks r = .ok l → K (.tup [F l, .nilifc]) []) ∧ (∀ e, putKM ks r = .error e → K (.tup [.sl .nl 0 [], errA e]) [])
set_option maxRecDepth 200000 in
set_option maxHeartbeats 3200000 in
theorem putK_ok0 : FnOk Tryz.prog tab 46 (putKC0 (ksO 19000)) := by
  refine fn_ok (E := RFi_E pl46) tab_is RFi_ok (RFi_J _) Tryz.func46 rfl rfl (by kernel_rfl) ?_
  rintro args bs K ⟨rfl, ks, r, rfl, hl, hok, her⟩
  refine ⟨rfl, ?_⟩
  unfold putKM at hok her
  refine ⟨rfl, ks, r.key, rfl, by omega, ?_⟩
  refine ⟨fun h => ?_, fun h => ?_⟩
  · exact her 5 (by rw [if_pos (decT h)])
  · rw [if_neg (decF h)] at hok her
    refine ⟨fun h => ?_, fun h => ?_⟩
    · have h := decT h
      exact her 7 (by rw [if_pos (by rw [List.length_map] at h; omega)])
    · have h := decF h
      rw [if_neg (by rw [List.length_map] at h; omega)] at hok
      have bd1 : (ks.map knoA).length * 80 ≤ 140737488355328 := by rw [List.length_map]; omega
      have bd2 : ((ks.map knoA).length + 1) * 80 ≤ 140737488355328 := by rw [List.length_map]; omega
      have hend := hok _ rfl
      unfold ksO at hend
      rw [List.map_append] at hend
      refine ⟨⟨bd1, ?_⟩, ?_⟩
      · exact ⟨bd2, hend⟩
      · exact ⟨bd1, bd2, hend⟩
abbrev putKC := putKC0 knsA
theorem putK_ok : FnOk Tryz.prog tab 46 putKC := putK_ok0.frz.mono (by
  rintro args bs K ⟨rfl, ks, r, rfl, hl, hok, her⟩
  exact ⟨rfl, rfl, ks, r, rfl, hl, fun l h => ⟨_, rfl, hok l h⟩, fun e h => ⟨_, rfl, her e h⟩⟩)
abbrev tellC0 (F : List Kno → AV) (args : List AV) (bs : List Box) (K : AV → List Box → Prop) : Prop := bs = [] ∧ ∃ (ks : List Kno) (key e i : Int), args = [knsA ks, .int .i64 key, repA e i] ∧ ks.length ≤ 1000000 ∧ (∀ l, tellM ks key e i = .ok l → K (.tup [F l, .nilifc]) []) ∧ (∀ x, tellM ks key e i = .error x → K (.tup [.sl .nl 0 [], errA x]) [])
theorem kno_put {ks : List Kno} {i : Nat} {k : Kno} (e d : Int) (h : ks[i]? = some k) : (((ks.map knoA).modify i (fun x => x.ofCells (putCells x.cells 7 [.int .i64 e, .int .i64 d]))).modify i (fun x => x.ofCells (putCells x.cells 9 [.bool true]))) = (ks.set i ⟨k.req, e, d, true⟩).map knoA := by
  apply List.ext_getElem?
  intro j
  rw [List.getElem?_modify, List.getElem?_modify, List.getElem?_map, List.getElem?_map, List.getElem?_set]
  by_cases hj : i = j
  · subst hj
    have hl := (List.getElem?_eq_some_iff.1 h).1
    rw [h]
    simp [hl]
    rfl
  · simp [hj]
set_option maxRecDepth 200000 in
set_option maxHeartbeats 3200000 in
theorem tell_ok0 : FnOk Tryz.prog tab 51 (tellC0 (ksO 25000)) := by
  refine fn_ok (E := RFi_E pl51) tab_is RFi_ok (RFi_J _) Tryz.func51 rfl rfl (by kernel_rfl) ?_
  rintro args bs K ⟨rfl, ks, key, e, i, rfl, hl, hok, her⟩
  refine ⟨rfl, ?_⟩
  unfold tellM at hok her
  refine ⟨rfl, ks, key, rfl, by omega, ?_⟩
  refine ⟨fun h => ?_, fun h => ?_⟩
  · exact her 2 (by rw [if_pos (decT h)])
  · have h := decF h
    rw [if_neg h] at hok her
    rcases find_cases ks key with ⟨h1, -⟩ | ⟨j, k, h1, h2, -⟩
    · rw [h1] at h; exact absurd (by decide) h
    · have ej : (findK ks key 0).toNat = j := by omega
      rw [ej, h2] at hok her
      have h0 : 0 ≤ findK ks key 0 := by omega
      have hg : (ks.map knoA)[(findK ks key 0).toNat]? = some (knoA k) := by rw [ej]; exact map_of h2
      simp only at hok her
      refine ⟨_, h0, hg, ?_⟩
      cases ht : k.told with
      | true =>
        refine ⟨fun _ => her 6 (by rw [ht, if_pos rfl]), fun h => ?_⟩
        have h : k.told = false := h
        rw [ht] at h; cases h
      | false =>
        refine ⟨fun h => ?_, fun _ => ?_⟩
        · have h : k.told = true := h
          rw [ht] at h; cases h
        rw [ht, if_neg (by decide)] at hok
        have bd1 : (ks.map knoA).length * 80 ≤ 140737488355328 := by rw [List.length_map]; omega
        have hend := hok _ rfl
        unfold ksO at hend
        rw [← kno_put e i h2, ← ej] at hend
        have hg2 : (((ks.map knoA).modify (findK ks key 0).toNat (fun x => x.ofCells (putCells x.cells 7 [.int .i64 e, .int .i64 i]))))[(findK ks key 0).toNat]? = some (knoA ⟨k.req, e, i, k.told⟩) := by
          rw [List.getElem?_modify, hg]
          simp
          rfl
        refine ⟨bd1, ?_⟩
        refine ⟨_, h0, hg, ?_⟩
        exact ⟨_, h0, hg2, hend⟩
abbrev tellC := tellC0 knsA
theorem tell_ok : FnOk Tryz.prog tab 51 tellC := tell_ok0.frz.mono (by
  rintro args bs K ⟨rfl, ks, key, e, i, rfl, hl, hok, her⟩
  exact ⟨rfl, rfl, ks, key, e, i, rfl, hl, fun l h => ⟨_, rfl, hok l h⟩, fun x h => ⟨_, rfl, her x h⟩⟩)
abbrev withK (s : Sta) (l : List Kno) : Sta := ⟨s.accs, s.pays, s.sags, l, s.now⟩
theorem put_ok {ks l : List Kno} {r : Req} (h : putKM ks r = .ok l) : l = ks ++ [⟨r, 0, 0, false⟩] ∧ ks.length < 256 ∧ ∀ k ∈ ks, k.req.key ≠ r.key := by
  unfold putKM at h
  split at h
  · cases h
  · rename_i h1
    split at h
    · cases h
    · rename_i h2
      cases h
      refine ⟨rfl, by omega, ?_⟩
      rcases find_cases ks r.key with ⟨-, h3⟩ | ⟨i, k, h3, -⟩
      · exact h3
      · exact absurd (show findK ks r.key 0 ≥ 0 by omega) h1
theorem find_last {ks : List Kno} {x : Kno} (h : ∀ k ∈ ks, k.req.key ≠ x.req.key) : findK (ks ++ [x]) x.req.key 0 = ks.length := by
  have := find_at (key := x.req.key) (ks := ks ++ [x]) (i := ks.length) (k := x) (o := 0) (by simp) rfl (fun j q hj hq => by
    rw [List.getElem?_append_left hj] at hq
    exact h q (List.mem_of_getElem? hq))
  omega
theorem tell_put {ks l : List Kno} {r : Req} (h : putKM ks r = .ok l) (e i : Int) : tellM l r.key e i = .ok (ks ++ [⟨r, e, i, true⟩]) := by
  obtain ⟨rfl, -, hn⟩ := put_ok h
  have hf := find_last (ks := ks) (x := ⟨r, 0, 0, false⟩) hn
  have hf : findK (ks ++ [⟨r, 0, 0, false⟩]) r.key 0 = ks.length := hf
  unfold tellM
  rw [hf, if_neg (by omega), show ((ks.length : Nat) : Int).toNat = ks.length by omega]
  have : (ks ++ [(⟨r, 0, 0, false⟩ : Kno)])[ks.length]? = some ⟨r, 0, 0, false⟩ := by simp
  rw [this]
  simp only
  rw [if_neg (by decide)]
  simp
/-- How much there is. -/
structure SzK (s : Sta) : Prop where
  la : s.accs.length ≤ 64
  lp : s.pays.length ≤ 1999900
  lk : s.kns.length ≤ 256
theorem SzK.z {s : Sta} (h : SzK s) : SzA s := ⟨by have := h.la; omega, by have := h.lp; omega⟩
/-! ### replies, one behind the other -/
def repV (o : Rep) : AV := repA o.1 o.2
abbrev repsO (F : Nat) : List Rep → AV
  | [] => .sl .nl 0 []
  | o :: l => .sl (.own F) 54 (repV o :: l.map repV)
theorem reps_snoc (F : Nat) (l : List Rep) (x : Rep) : AV.sl (.own F) 54 (l.map repV ++ [repV x]) = repsO F (l ++ [x]) := by
  cases l <;> simp [repsO]
abbrev repsS (l : List Rep) : AV := .sl .fz 54 (l.map repV)
end Go.Proofs.YtjffmldlkofpaaaGreatDoor.A

/- hawalalaw11, hawalalaw16: Same. -/
namespace Go.Proofs.YtjffmldlkofpaaaGreatDoor.A
open Go Q
theorem kno_ext {a b : Kno} (h : a.req = b.req ∧ a.err = b.err ∧ a.id = b.id ∧ a.told = b.told) : a = b := by cases a; cases b; simp_all
def sameKC (args : List AV) (bs : List Box) (K : AV → List Box → Prop) : Prop := bs = [] ∧ ∃ l m : List Kno, args = [knsA l, knsA m] ∧ l.length ≤ 1000000 ∧ (l = m → K (.bool true) []) ∧ (l ≠ m → K (.bool false) [])
set_option maxRecDepth 200000 in
set_option maxHeartbeats 3200000 in
theorem sameK_ok : FnOk Tryz.prog tab 53 sameKC := by
  refine fn_ok (E := R0_E pl53) tab_is R0_ok (R0_J _) Tryz.func53 rfl rfl (by kernel_rfl) ?_
  rintro args bs K ⟨rfl, l, m, rfl, hN, hy, hn⟩
  refine ⟨rfl, ?_⟩
  constructor
  · intro h
    refine hn fun e => ?_
    subst e
    simp at h
  · intro h
    have hlen : l.length = m.length := by
      have h : (((l.map knoA).length : Nat) : Int) = (m.map knoA).length := by simpa using h
      simp at h; omega
    refine ⟨fun mm st => ∃ (i : Nat), (i ≤ l.length ∧ ∀ (j : Nat) (a b : Kno), j < i → l[j]? = some a → m[j]? = some b → a = b) ∧ l.length - i = mm ∧ st.t 0 = knsA l ∧ st.t 1 = knsA m ∧ st.t 12 = .int .i64 ((l.map knoA).length : Nat) ∧ st.t 13 = .int .i64 i,
      ⟨_, 0, ⟨Nat.zero_le _, fun j a b hj => absurd hj (Nat.not_lt_zero _)⟩, rfl, rfl, rfl, rfl, rfl⟩, ?_⟩
    rintro _ ⟨t1, h1⟩ ⟨i, ⟨hi, hX⟩, rfl, e0, e1, e12, e13⟩
    have e0 : t1 0 = knsA l := e0
    have e1 : t1 1 = knsA m := e1
    have e12 : t1 12 = .int .i64 ((l.map knoA).length : Nat) := e12
    have e13 : t1 13 = .int .i64 i := e13
    rw [← updL_has t1 [(0, knsA l), (1, knsA m), (12, .int .i64 ((l.map knoA).length : Nat)), (13, .int .i64 i)] ⟨e0, e1, e12, e13, trivial⟩]
    constructor
    · intro hb
      have hi' : i < l.length := by
        have : (i : Int) < ((l.map knoA).length : Nat) := by simpa using hb
        simp at this; omega
      have w : IntKind.i64.wrap ((i : Int) + 1) = ((i + 1 : Nat) : Int) := by rw [wrap_of] <;> omega
      have hlt : l.length - (i + 1) < l.length - i := by omega
      obtain ⟨a, hx⟩ : ∃ x, l[i]? = some x := ⟨_, List.getElem?_eq_getElem hi'⟩
      have hm := List.mem_of_getElem? hx
      have hdr := drop_at hx
      obtain ⟨b, hb2⟩ : ∃ b, m[i]? = some b := ⟨_, List.getElem?_eq_getElem (by omega)⟩
      refine ⟨_, Int.natCast_nonneg i, map_of hx, ?_⟩
      refine ⟨_, Int.natCast_nonneg i, map_of hb2, ?_⟩
      refine ⟨fun h => hn (list_ne_at hx hb2 fun e => ?_), fun h => ?_⟩
      · subst e
        simp at h
      · have hab : a = b := by
          simp at h
          exact kno_ext ⟨req_ext ⟨h.1, h.2.1, h.2.2.1, h.2.2.2.1, h.2.2.2.2.1, h.2.2.2.2.2.1, h.2.2.2.2.2.2.1⟩, h.2.2.2.2.2.2.2.1, h.2.2.2.2.2.2.2.2.1, h.2.2.2.2.2.2.2.2.2⟩
        refine ⟨_, hlt, i + 1, ⟨hi', fun j x y hj hxj hyj => ?_⟩, rfl, rfl, rfl, rfl, congrArg (AV.int .i64) w⟩
        by_cases he : j = i
        · rw [he] at hxj hyj
          rw [hx] at hxj; rw [hb2] at hyj
          cases hxj; cases hyj; exact hab
        · exact hX j x y (by omega) hxj hyj
    · intro hb
      have hi' : i = l.length := by
        have : ¬ (i : Int) < ((l.map knoA).length : Nat) := by simpa using hb
        simp at this; omega
      subst hi'
      exact hy (list_eq_of hlen fun j a b ha hb => hX j a b (List.getElem?_eq_some_iff.1 ha).1 ha hb)
def SameK (s t : Sta) : Prop := SameS s t ∧ s.kns = t.kns
theorem SameK.refl (s : Sta) : SameK s s := ⟨⟨rfl, rfl, rfl⟩, rfl⟩
def same16C (args : List AV) (bs : List Box) (K : AV → List Box → Prop) : Prop := bs = [] ∧ ∃ s t : Sta, args = [staA s, staA t] ∧ SzA s ∧ s.kns.length ≤ 1000000 ∧ (SameK s t → K (.bool true) []) ∧ (¬ SameK s t → K (.bool false) [])
def RS16 : Contract
  | 52 => sameSC
  | 53 => sameKC
  | _ => fun _ _ _ => False
theorem RS16_ok : CallOk Tryz.prog tab RS16 := by
  intro f args bs K h
  unfold RS16 at h
  split at h
  · exact ⟨_, h, sameS_ok⟩
  · exact ⟨_, h, sameK_ok⟩
  · exact h.elim
def RS16_E (pl : Nat → Plan) : En := ⟨tab, RS16, fun _ => none, 0, pl⟩
theorem RS16_J (pl : Nat → Plan) : JOk Tryz.prog (RS16_E pl).T (RS16_E pl).J := fun _ _ h => by cases h
set_option maxRecDepth 200000 in
set_option maxHeartbeats 3200000 in
theorem same16_ok : FnOk Tryz.prog tab 26 same16C := by
  refine fn_ok (E := RS16_E pl26) tab_is RS16_ok (RS16_J _) Tryz.func26 rfl rfl (by kernel_rfl) ?_
  rintro args bs K ⟨rfl, s, t, rfl, hz, hk, hy, hn⟩
  refine ⟨rfl, ?_⟩
  refine ⟨rfl, s, t, rfl, hz, fun h => ?_, fun h => ?_⟩
  · refine ⟨fun _ => ?_, fun h => Bool.noConfusion (show true = false from h)⟩
    refine ⟨rfl, s.kns, t.kns, rfl, hk, fun h2 => ?_, fun h2 => ?_⟩
    · exact hy ⟨h, h2⟩
    · exact hn fun e => h2 e.2
  · refine ⟨fun h => Bool.noConfusion (show false = true from h), fun _ => ?_⟩
    exact hn fun e => h e.1
theorem FnOk.nilT {P : Program} {T : Tab} {f : FuncId} {S : List AV → List Box → (AV → List Box → Prop) → Prop} (h : FnOk P T f S) : FnOk P T f (fun args bs K => S args bs (fun res out => ∃ cs cs', res = .tup cs ∧ NilVL cs cs' ∧ K (.tup cs') out)) := by
  refine ⟨h.1, fun args bs K hS c vs hok hfm hV hB => Calls.mono (h.2 args bs _ hS c vs hok hfm hV hB) ?_⟩
  rintro e w' ⟨v, c', res, out, rfl, rfl, ok', hst, hres, hout, cs, cs', rfl, hN, hK⟩
  refine ⟨v, c', .tup cs', out, rfl, rfl, ok', hst, ?_, hout, hK⟩
  obtain ⟨us, rfl, hvl⟩ := hres.tup_inv
  have hvl' := hN.vl hvl
  exact .tup cs' us hvl'.1 hvl'.2
end Go.Proofs.YtjffmldlkofpaaaGreatDoor.A

/- Plain: by how much a request changes balances. -/
namespace Go.Proofs.YtjffmldlkofpaaaGreatDoor.A
open Go Q
def BalX (X : Int) (l : List Acc) : Prop := ∀ (i : Nat) (a : Acc), l[i]? = some a → -X ≤ a.bal ∧ a.bal ≤ X
theorem BalX.mono {X Y : Int} {l : List Acc} (h : BalX X l) (hy : X ≤ Y) : BalX Y l := fun i a ha => by have := h i a ha; omega
theorem rate_bd (a b : Int) : (1 ≤ (rateN a b).1 ∧ (rateN a b).1 ≤ 160) ∧ 1 ≤ (rateN a b).2 := by
  unfold rateN
  split
  · split
    · decide
    · split <;> decide
  · split
    · split
      · decide
      · split <;> decide
    · split
      · decide
      · split <;> decide
theorem conv_bd {n a b : Int} {g : Int × Int} {N : Int} (hn : 1 ≤ n ∧ n ≤ N) (h : convM n (rateN a b).1 (rateN a b).2 = .ok g) : 0 ≤ g.1 ∧ g.1 ≤ 160 * N := by
  obtain ⟨⟨p1, p2⟩, q1⟩ := rate_bd a b
  unfold convM at h
  split at h
  · split at h
    · cases h
    · cases h
      have h1 : 0 ≤ n * (rateN a b).1 := Int.mul_nonneg (by omega) (by omega)
      have h2 : n * (rateN a b).1 ≤ n * 160 := Int.mul_le_mul_of_nonneg_left p2 (by omega)
      show 0 ≤ (n * (rateN a b).1).tdiv (rateN a b).2 ∧ (n * (rateN a b).1).tdiv (rateN a b).2 ≤ _
      rw [Int.tdiv_eq_ediv_of_nonneg h1]
      have h3 := Int.ediv_le_self (b := (rateN a b).2) h1
      have h4 := Int.ediv_nonneg h1 (show 0 ≤ (rateN a b).2 by omega)
      omega
  · cases h
theorem move_bd {al : List Acc} {x y n N : Int} {es : List Ent} (h : moveM al x y n = .ok es) (hN : n ≤ N) : ∀ e ∈ es, -(160 * N) ≤ e.amt ∧ e.amt ≤ 160 * N := by
  unfold moveM at h
  split at h
  · cases h
  · split at h
    · cases h
    · rename_i hn
      obtain ⟨n1, n2⟩ := amountB_iff.1 (show amountB n = true by simpa using fun h => hn (.inr h))
      split at h
      · split at h
        · cases h
          intro e he
          simp at he
          rcases he with rfl | rfl <;> (simp only; omega)
        · split at h
          · cases h
          · split at h
            · cases h
            · rename_i g hg
              obtain ⟨g1, g2⟩ := conv_bd (N := N) ⟨n1, hN⟩ hg
              split at h
              · cases h
              · cases h
                intro e he
                simp at he
                rcases he with rfl | rfl | rfl | rfl <;> (simp only; omega)
      · cases h
theorem back_bd {al : List Acc} {x y n N : Int} {es : List Ent} (h : moveM al x y n = .ok es) (hN : n ≤ N) (h0 : 0 ≤ N ∧ N ≤ 1000000000) : ∀ e ∈ backM es, -(160 * N) ≤ e.amt ∧ e.amt ≤ 160 * N := by
  intro e he
  unfold backM at he
  obtain ⟨q, hq, rfl⟩ := List.mem_map.1 he
  have := move_bd h hN q (List.mem_reverse.1 hq)
  show _ ≤ w64 (0 - q.amt) ∧ w64 (0 - q.amt) ≤ _
  rw [w64_of (by omega) (by omega)]
  omega
theorem postGo_bd {Y : Int} : ∀ {es : List Ent} {al l : List Acc} {X : Int}, postGo al es = .ok l → (∀ e ∈ es, -Y ≤ e.amt ∧ e.amt ≤ Y) → 0 ≤ Y → BalX X al → BalX (X + es.length * Y) l
  | [], al, l, X, h, _, _, hX => by
    cases h
    exact hX.mono (by simp)
  | e :: es, al, l, X, h, hY, h0, hX => by
    rw [postGo_cons] at h
    split at h
    · rename_i a ha
      split at h
      · rename_i n hn
        obtain ⟨rfl, -⟩ := addM_val hn
        have he := hY e (List.mem_cons_self ..)
        have hx := hX _ a ha
        have := postGo_bd (X := X + Y) h (fun q hq => hY q (List.mem_cons_of_mem _ hq)) h0 (fun i x hi => by
          rw [List.getElem?_set] at hi
          split at hi
          · split at hi
            · cases hi
              show -(X + Y) ≤ a.bal + e.amt ∧ a.bal + e.amt ≤ X + Y
              omega
            · cases hi
          · have := hX i x hi; omega)
        refine this.mono ?_
        rw [List.length_cons, Int.natCast_add, Int.add_mul]
        simp
        omega
      · cases h
    · cases h
theorem postM_bd {Y X : Int} {es : List Ent} {al l : List Acc} (h : postM al es = .ok l) (hY : ∀ e ∈ es, -Y ≤ e.amt ∧ e.amt ≤ Y) (h0 : 0 ≤ Y) (hl : es.length ≤ 5) (hX : BalX X al) : BalX (X + 5 * Y) l := by
  unfold postM at h
  split at h
  · cases h
  · split at h
    · rename_i l' hg
      split at h
      · cases h
      · cases h
        refine (postGo_bd hg hY h0 hX).mono ?_
        have : (es.length : Int) * Y ≤ 5 * Y := Int.mul_le_mul_of_nonneg_right (by omega) h0
        omega
    · cases h
theorem set_bal {al : List Acc} {X : Int} (h : BalX X al) {k : Nat} {a : Acc} (ha : al[k]? = some a) (x : Int) : BalX X (al.set k ⟨a.cur, a.bal, x⟩) := fun i y hy => by
  rw [List.getElem?_set] at hy
  split at hy
  · split at hy
    · cases hy; exact h k a ha
    · cases hy
  · exact h i y hy
theorem hold_bal {al l : List Acc} {k n X : Int} (h : holdM al k n = .ok l) (hX : BalX X al) : BalX X l := by
  unfold holdM at h
  split at h
  · cases h
  split at h
  · cases h
  split at h
  · rename_i a ha
    split at h
    · cases h
    · cases h; exact set_bal hX ha _
  · cases h
theorem rel_bal {al l : List Acc} {k n X : Int} (h : relM al k n = .ok l) (hX : BalX X al) : BalX X l := by
  unfold relM at h
  split at h
  · cases h
  split at h
  · cases h
  split at h
  · rename_i a ha
    split at h
    · cases h
    · cases h; exact set_bal hX ha _
  · cases h
theorem spend_bal {al l : List Acc} {n X Y : Int} {es : List Ent} (h : spendM al n es = .ok l) (hY : ∀ e ∈ es, -Y ≤ e.amt ∧ e.amt ≤ Y) (h0 : 0 ≤ Y) (hl : es.length ≤ 5) (hX : BalX X al) : BalX (X + 5 * Y) l := by
  cases es with
  | nil => cases h
  | cons e es =>
    simp only [spendM] at h
    split at h
    · rename_i l1 hr
      exact postM_bd h hY h0 hl (rel_bal hr hX)
    · cases h
theorem lackE_bd {s : Sta} {p : Pay} {Y : Int} (hg : GoodA s) (hd : 9 ≤ p.dst ∧ p.dst < s.accs.length) (hY0 : 0 ≤ Y ∧ Y ≤ 1000000000000) : ∀ {es : List Ent}, (∀ e ∈ es, -Y ≤ e.amt ∧ e.amt ≤ Y) → (lackE s p es).length ≤ es.length + 1 ∧ ∀ e ∈ lackE s p es, -Y ≤ e.amt ∧ e.amt ≤ Y
  | [], _ => ⟨by simp [lackE], fun e h => by simp [lackE] at h⟩
  | e :: es, h => by
    obtain ⟨a, ha⟩ : ∃ a, s.accs[p.dst.toNat]? = some a := ⟨_, List.getElem?_eq_getElem (by omega)⟩
    have hr := hg.acs.ok _ a ha
    have hf := hr.free
    have hgg := hr.g (by omega)
    have hb := hr.b
    have he := h e (List.mem_cons_self ..)
    rw [lackE_cons, accAt_of ha, hf, w64_of (n := 0 - e.amt) (by omega) (by omega), w64_of (n := 0 - e.amt - (a.bal - a.held)) (by omega) (by omega)]
    split
    · rename_i hl
      refine ⟨by simp, fun x hx => ?_⟩
      rcases List.mem_cons.1 hx with rfl | hx
      · show -Y ≤ w64 _ ∧ w64 _ ≤ Y
        rw [w64_of (by omega) (by omega)]; omega
      · rcases List.mem_append.1 hx with hx | hx
        · exact h x (List.mem_cons_of_mem _ hx)
        · rw [List.mem_singleton.1 hx]
          show -Y ≤ w64 _ ∧ w64 _ ≤ Y
          rw [w64_of (by omega) (by omega)]; omega
    · exact ⟨Nat.le_succ _, h⟩
/-- A request of so much at most. -/
theorem doM_bal {s : Sta} {r : Req} {X : Int} (hg : GoodA s) (hn : r.amt ≤ 2000) (hX0 : 0 ≤ X) (hX : BalX X s.accs) : BalX (X + 1600000) (doM s r).1.accs := by
  have hs := hX.mono (show X ≤ X + 1600000 by omega)
  have hpost : ∀ {x y : Int} {es : List Ent} {l : List Acc}, moveM s.accs x y r.amt = .ok es → postM s.accs es = .ok l → BalX (X + 1600000) l := fun hm hp => by
    have := postM_bd (Y := 160 * 2000) hp (move_bd hm hn) (by omega) (by have := move_len hm; omega) hX
    exact this.mono (by omega)
  have hpd : ∀ x y : Int, BalX (X + 1600000) (postD s x y r.amt).1.accs := fun x y => by
    unfold postD
    split
    · rename_i es hm
      cases hp : postM s.accs es with
      | error e => exact hs
      | ok l => exact hpost hm hp
    · exact hs
  have hback : ∀ {k : Int} {q : Pay} {es : List Ent}, (∀ e ∈ es, -(160 * 2000) ≤ e.amt ∧ e.amt ≤ 160 * 2000) → es.length ≤ 5 → BalX (X + 1600000) (payD s k q (postM s.accs es)).1.accs := fun {k q es} he hl => by
    cases hp : postM s.accs es with
    | error e => exact hs
    | ok l => exact (postM_bd (Y := 160 * 2000) hp he (by omega) hl hX).mono (by omega)
  unfold doM
  split
  · unfold openM
    split
    · exact hs
    · intro i a ha
      have ha : (s.accs ++ [(⟨r.a, 0, 0⟩ : Acc)])[i]? = some a := ha
      rw [List.getElem?_append] at ha
      split at ha
      · exact hs i a ha
      · have hi : i - s.accs.length = 0 := by
          have := (List.getElem?_eq_some_iff.1 ha).1
          simp at this; omega
        rw [hi] at ha
        cases ha
        show -(X + 1600000) ≤ 0 ∧ 0 ≤ X + 1600000
        omega
  split
  · unfold depositM
    split
    · exact hs
    · exact hpd _ _
  split
  · unfold transferM
    split
    · exact hs
    · exact hpd _ _
  split
  · unfold authM
    split
    · exact hs
    split
    · exact hs
    split
    · exact hs
    split
    · rename_i l hl; exact hold_bal hl hs
    · exact hs
  split
  · unfold captureM
    split
    · exact hs
    split
    · exact hs
    · rename_i es hm
      cases hp : spendM s.accs r.amt es with
      | error e => exact hs
      | ok l => exact (spend_bal (Y := 160 * 2000) hp (move_bd hm hn) (by omega) (by have := move_len hm; omega) hX).mono (by omega)
  split
  · unfold voidM
    split
    · exact hs
    · rename_i pq _
      cases hp : relM s.accs pq.1.src (left pq.1) with
      | error e => exact hs
      | ok l => exact rel_bal hp hs
  split
  · unfold refundM
    split
    · exact hs
    split
    · exact hs
    · rename_i es hm
      have hle := backD_len hm
      unfold backD at hm
      split at hm
      · rename_i es0 hm0
        cases hm
        exact hback (back_bd hm0 hn (by decide)) (by omega)
      · cases hm
  split
  · unfold chargeM
    split
    · exact hs
    · rename_i pq hb
      obtain ⟨a0, a1, hp, -⟩ := both_in (p := pq.1) (q := pq.2) hb
      have hP := hg.pay pq.1 (List.mem_of_getElem? hp)
      split
      · exact hs
      · rename_i es hm
        have hle := backD_len hm
        unfold backD at hm
        split at hm
        · rename_i es0 hm0
          cases hm
          obtain ⟨l1, l2⟩ := lackE_bd hg hP.d (by decide) (back_bd hm0 hn (by decide))
          exact hback l2 (by omega)
        · cases hm
  · exact hs
end Go.Proofs.YtjffmldlkofpaaaGreatDoor.A

/- Plain: keys; what is reserved and let go. -/
namespace Go.Proofs.YtjffmldlkofpaaaGreatDoor.A
open Go Q
theorem nodup_len : ∀ {N : Nat} {l : List Int}, l.Nodup → (∀ x ∈ l, 0 ≤ x ∧ x < N) → l.length ≤ N
  | 0, l, _, h => by
    cases l with
    | nil => exact Nat.le_refl _
    | cons x l => have := h x (List.mem_cons_self ..); omega
  | N + 1, l, hn, h => by
    by_cases hm : (N : Int) ∈ l
    · have h1 := nodup_len (N := N) (l := l.erase N) (hn.erase _) (fun x hx => by
        obtain ⟨hne, hx⟩ := hn.mem_erase_iff.1 hx
        have := h x hx; omega)
      rw [List.length_erase_of_mem hm] at h1
      omega
    · have := nodup_len (N := N) hn (fun x hx => by
        have h1 := h x hx
        have : x ≠ N := fun e => hm (e ▸ hx)
        omega)
      omega
instance : DecidableEq Req := fun x y => decidable_of_iff (reqB x y = true) reqB_iff
theorem ask_known {ks : List Kno} {r : Req} {i : Nat} {k : Kno} (h1 : findK ks r.key 0 = i) (h2 : ks[i]? = some k) (ht : k.told = true) : askM ks r = (if k.req = r then (k.err, k.id) else (5, 0), true) := by
  unfold askM
  rw [h1, if_neg (by omega), show ((i : Nat) : Int).toNat = i by omega, h2]
  simp only
  cases hq : reqB k.req r with
  | false => rw [if_pos rfl, if_neg (reqB_no.1 hq)]
  | true => rw [if_neg (by decide), if_neg (by simp [ht]), if_pos (reqB_iff.1 hq)]
theorem ask_none {ks : List Kno} {r : Req} (h : findK ks r.key 0 = -1) : askM ks r = ((0, 0), false) := by
  unfold askM
  rw [h, if_pos (by decide)]
theorem put_none {ks : List Kno} {r : Req} (h : findK ks r.key 0 = -1) (hl : ks.length < 256) : putKM ks r = .ok (ks ++ [⟨r, 0, 0, false⟩]) := by
  unfold putKM
  rw [h, if_neg (by decide), if_neg (by omega)]
theorem put_full {ks : List Kno} {r : Req} (h : findK ks r.key 0 = -1) (hl : ks.length ≥ 256) : putKM ks r = .error 7 := by
  unfold putKM
  rw [h, if_neg (by decide), if_pos hl]
/-! ### what is reserved and let go is as it was -/
theorem sta_ext {s t : Sta} (h : s.accs = t.accs ∧ s.pays = t.pays ∧ s.sags = t.sags ∧ s.kns = t.kns ∧ s.now = t.now) : s = t := by cases s; cases t; simp_all
theorem reserve_spec {s t : Sta} {r : Req} (hA : Acs s.accs) (h : reserveM s r = .ok t) : (9 ≤ r.a ∧ r.a < s.accs.length) ∧ (9 ≤ r.b ∧ r.b < s.accs.length) ∧ (1 ≤ r.amt ∧ r.amt ≤ 1099511627776) ∧ (∃ es, moveM s.accs r.a r.b r.amt = .ok es) ∧
    ∃ a, s.accs[r.a.toNat]? = some a ∧ a.held + r.amt ≤ a.bal ∧ t = withA s (s.accs.set r.a.toNat ⟨a.cur, a.bal, a.held + r.amt⟩) ∧ Acs t.accs := by
  unfold reserveM at h
  split at h
  · cases h
  · rename_i hc
    have hc : isCl s.accs.length r.a = true ∧ isCl s.accs.length r.b = true := by simpa using hc
    split at h
    · cases h
    · rename_i es hm
      split at h
      · cases h
      · rename_i l hl
        cases h
        obtain ⟨k, n, a, ha, hle, rfl, hA2⟩ := holdM_spec hA hl
        exact ⟨k, is_of hc.2, n, ⟨es, hm⟩, a, ha, hle, rfl, hA2⟩
theorem undo_reserve {s t : Sta} {r : Req} (hA : Acs s.accs) (h : reserveM s r = .ok t) : undoD t r = s := by
  obtain ⟨⟨k9, kl⟩, -, n, -, a, ha, hle, rfl, hA2⟩ := reserve_spec hA h
  have hr := (hA.ok _ a ha)
  have hg : (s.accs.set r.a.toNat ⟨a.cur, a.bal, a.held + r.amt⟩)[r.a.toNat]? = some ⟨a.cur, a.bal, a.held + r.amt⟩ := by
    rw [List.getElem?_set, if_pos rfl, if_pos (List.getElem?_eq_some_iff.1 ha).1]
  have hrel := relM_go (n := r.amt) hA2 k9 n hg (by have := (hr.g (by omega)).1; show r.amt ≤ a.held + r.amt; omega)
  unfold undoD undoM
  show (match (match relM (s.accs.set r.a.toNat ⟨a.cur, a.bal, a.held + r.amt⟩) r.a r.amt with | .error e => Except.error e | .ok l => Except.ok (withA (withA s _) l)) with | .ok t => t | .error _ => _) = s
  rw [hrel]
  refine sta_ext ⟨?_, rfl, rfl, rfl, rfl⟩
  show ((s.accs.set r.a.toNat _).set r.a.toNat ⟨a.cur, a.bal, a.held + r.amt - r.amt⟩) = s.accs
  rw [List.set_set]
  have e : (⟨a.cur, a.bal, a.held + r.amt - r.amt⟩ : Acc) = a := by cases a; simp
  rw [e]
  apply List.ext_getElem?
  intro j
  rw [List.getElem?_set]
  split
  · rename_i hj
    rw [← hj, if_pos (List.getElem?_eq_some_iff.1 ha).1, ha]
  · rfl
end Go.Proofs.YtjffmldlkofpaaaGreatDoor.A
