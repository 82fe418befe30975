/- Functions of one value: payment.Left, Gave, Right; chart.Of, IsClient; saga.Right. -/
import Derived.Test.YtmlgkojmbnjfbaaDoorQ1
namespace Go.Proofs.YtmlgkojmbnjfbaaDoor.A
open Go Q
def R0 : Contract
  | _ => fun _ _ _ => False
theorem R0_ok : CallOk Tryd.prog tab R0 := by
  intro f args bs K h
  unfold R0 at h
  split at h
  · exact h.elim
def R0_E (pl : Nat → Plan) : En := ⟨tab, R0, fun _ => none, 0, pl⟩
theorem R0_J (pl : Nat → Plan) : JOk Tryd.prog (R0_E pl).T (R0_E pl).J := fun _ _ h => by cases h
def left (p : Pay) : Int := if p.stage = 0 then w64 (p.auth - p.capt) else 0
def gave (p : Pay) : Int := w64 (w64 (p.capt - p.refu) - p.chrg)
def rightP (p : Pay) : Bool := decide (p.auth ≥ 1) && decide (p.auth ≤ 1099511627776) && decide (p.capt ≥ 0) && decide (p.capt ≤ p.auth) && decide (p.refu ≥ 0) && decide (p.chrg ≥ 0) && decide (p.refu ≤ p.capt) && decide (p.chrg ≤ p.capt) && decide (gave p ≥ 0) && decide (p.til ≥ 0) && decide (p.til ≤ 1073741824) && (p.stage == 0 || p.stage == 1)
def leftC (args : List AV) (bs : List Box) (K : AV → List Box → Prop) : Prop := bs = [] ∧ ∃ p : Pay, args = [payA p] ∧ K (.int .i64 (left p)) []
def gaveC (args : List AV) (bs : List Box) (K : AV → List Box → Prop) : Prop := bs = [] ∧ ∃ p : Pay, args = [payA p] ∧ K (.int .i64 (gave p)) []
def rightPC (args : List AV) (bs : List Box) (K : AV → List Box → Prop) : Prop := bs = [] ∧ ∃ p : Pay, args = [payA p] ∧ K (.bool (rightP p)) []
set_option maxRecDepth 20000 in
theorem left_ok : FnOk Tryd.prog tab 25 leftC := by
  refine fn_ok (E := R0_E pl25) tab_is R0_ok (R0_J _) Tryd.func25 rfl rfl (by kernel_rfl) ?_
  rintro args bs K ⟨rfl, p, rfl, hK⟩
  refine ⟨rfl, ?_⟩
  have fin : ∀ n, n = left p → K (.int .i64 n) [] := fun n e => e ▸ hK
  constructor
  · intro h
    have h : ¬ p.stage = 0 := by simpa using h
    exact fin 0 (by simp [left, h])
  · intro h
    have h : p.stage = 0 := by simpa using h
    exact fin _ (by simp [left, h]; rfl)
set_option maxRecDepth 20000 in
theorem gave_ok : FnOk Tryd.prog tab 13 gaveC := by
  refine fn_ok (E := R0_E pl13) tab_is R0_ok (R0_J _) Tryd.func13 rfl rfl (by kernel_rfl) ?_
  rintro args bs K ⟨rfl, p, rfl, hK⟩
  exact ⟨rfl, hK⟩
def RP : Contract
  | 13 => gaveC
  | _ => fun _ _ _ => False
theorem RP_ok : CallOk Tryd.prog tab RP := by
  intro f args bs K h
  unfold RP at h
  split at h
  · exact ⟨_, h, gave_ok⟩
  · exact h.elim
def RP_E (pl : Nat → Plan) : En := ⟨tab, RP, fun _ => none, 0, pl⟩
theorem RP_J (pl : Nat → Plan) : JOk Tryd.prog (RP_E pl).T (RP_E pl).J := fun _ _ h => by cases h
set_option maxRecDepth 20000 in
set_option maxHeartbeats 1600000 in
theorem rightP_ok : FnOk Tryd.prog tab 22 rightPC := by
  refine fn_ok (E := RP_E pl22) tab_is RP_ok (RP_J _) Tryd.func22 rfl rfl (by kernel_rfl) ?_
  rintro args bs K ⟨rfl, p, rfl, hK⟩
  refine ⟨rfl, ?_⟩
  have fin : ∀ n, n = rightP p → K (.bool n) [] := fun n e => e ▸ hK
  repeat' first
    | (refine ⟨fun h => Bool.noConfusion h, fun _ => ?_⟩)
    | (refine ⟨rfl, p, rfl, ?_⟩)
    | (refine ⟨fun h => ?_, fun h => ?_⟩)
    | (refine fin _ ?_)
  all_goals first | (simp [rightP]; simp_all; done) | (simp [rightP]; simp_all; intros; omega)
/-- The number of an account, and whether it is one. -/
def ofN (n k : Int) : Int × Bool := if k < 0 ∨ k ≥ n then (0, false) else if k < 9 then (k.tmod 3, true) else (3, true)
def isCl (n k : Int) : Bool := decide (9 ≤ k) && decide (k < n)
def ofC (args : List AV) (bs : List Box) (K : AV → List Box → Prop) : Prop := bs = [] ∧ ∃ (l : List Acc) (k : Int), args = [accsA l, .int .i64 k] ∧ K (.tup [.int .i64 (ofN l.length k).1, .bool (ofN l.length k).2]) []
set_option maxRecDepth 20000 in
theorem of_ok : FnOk Tryd.prog tab 50 ofC := by
  refine fn_ok (E := R0_E pl50) tab_is R0_ok (R0_J _) Tryd.func50 rfl rfl (by kernel_rfl) ?_
  rintro args bs K ⟨rfl, l, k, rfl, hK⟩
  refine ⟨rfl, ?_⟩
  have hl : ((l.map accA).length : Int) = l.length := by simp
  have fin : ∀ n b, (n, b) = ofN l.length k → K (.tup [.int .i64 n, .bool b]) [] := fun n b e => by rw [← e] at hK; exact hK
  constructor
  · intro h
    have h : k < 0 := by simpa using h
    refine ⟨fun _ => ?_, fun h => by cases h⟩
    exact fin 0 false (by simp [ofN, h])
  · intro h
    have h : ¬ k < 0 := by simpa using h
    constructor
    · intro g
      have g : k ≥ ((l.map accA).length : Nat) := by simpa using g
      exact fin 0 false (by rw [hl] at g; simp [ofN, g])
    · intro g
      have g : ¬ k ≥ ((l.map accA).length : Nat) := by simpa using g
      rw [hl] at g
      have hn : ¬ (k < 0 ∨ k ≥ (l.length : Int)) := by omega
      constructor
      · intro q
        have q : k < 9 := by simpa using q
        refine ⟨by decide, ?_⟩
        exact fin _ true (by simp only [ofN, hn, q, if_true, if_false])
      · intro q
        have q : ¬ k < 9 := by simpa using q
        exact fin 3 true (by simp only [ofN, hn, q, if_false])
def isClC (args : List AV) (bs : List Box) (K : AV → List Box → Prop) : Prop := bs = [] ∧ ∃ (l : List Acc) (k : Int), args = [accsA l, .int .i64 k] ∧ K (.bool (isCl l.length k)) []
def RC : Contract
  | 50 => ofC
  | _ => fun _ _ _ => False
theorem RC_ok : CallOk Tryd.prog tab RC := by
  intro f args bs K h
  unfold RC at h
  split at h
  · exact ⟨_, h, of_ok⟩
  · exact h.elim
def RC_E (pl : Nat → Plan) : En := ⟨tab, RC, fun _ => none, 0, pl⟩
theorem RC_J (pl : Nat → Plan) : JOk Tryd.prog (RC_E pl).T (RC_E pl).J := fun _ _ h => by cases h
theorem is_cl (n k : Int) : isCl n k = ((ofN n k).2 && ((ofN n k).1 == 3)) := by
  unfold ofN isCl
  by_cases h1 : k < 0 ∨ k ≥ n
  · rw [if_pos h1]
    rcases h1 with h1 | h1
    · have : ¬ 9 ≤ k := by omega
      simp [this]
    · have : ¬ k < n := by omega
      simp [this]
  · rw [if_neg h1]
    by_cases h2 : k < 9
    · rw [if_pos h2]
      have h3 : ¬ 9 ≤ k := by omega
      have h4 : ¬ k.tmod 3 = 3 := by
        have := Int.tmod_lt_of_pos k (show (0 : Int) < 3 by decide)
        omega
      simp [h3, h4]
    · rw [if_neg h2]
      have h3 : 9 ≤ k := by omega
      have h4 : k < n := by omega
      simp [h3, h4]
set_option maxRecDepth 20000 in
theorem isCl_ok : FnOk Tryd.prog tab 39 isClC := by
  refine fn_ok (E := RC_E pl39) tab_is RC_ok (RC_J _) Tryd.func39 rfl rfl (by kernel_rfl) ?_
  rintro args bs K ⟨rfl, l, k, rfl, hK⟩
  refine ⟨rfl, ?_⟩
  have fin : ∀ b, b = isCl l.length k → K (.bool b) [] := fun b e => e ▸ hK
  refine ⟨rfl, l, k, rfl, ?_⟩
  constructor
  · intro h
    exact fin _ (by rw [is_cl, h]; rfl)
  · intro h
    exact fin false (by rw [is_cl, h]; rfl)
def rightS (s : Sag) : Bool := !(decide (s.leg < 0) || decide (s.leg > s.req.legs) || decide (s.tries < 0) || decide (s.tries > 4) || decide (s.req.legs < 0) || decide (s.req.legs > 4)) &&
  (if s.phase = 0 then s.why == 0 && decide (s.tries ≤ 3) && (decide (s.tries = 0) || decide (s.leg < s.req.legs)) else if s.phase = 1 then s.why != 0 else false)
def rightSC (args : List AV) (bs : List Box) (K : AV → List Box → Prop) : Prop := bs = [] ∧ ∃ s : Sag, args = [sagA s] ∧ K (.bool (rightS s)) []
end Go.Proofs.YtmlgkojmbnjfbaaDoor.A
