/- money: May, Add, Amount, Rate.right, Convert, Rates; chart: Number, Free, Clone. -/
import Derived.Test.YtmlgkojmbnjfbaaDoorU0
import Derived.Test.YtmlgkojmbnjfbaaDoorE0
namespace Go.Proofs.YtmlgkojmbnjfbaaDoor.A
open Go Q
def mayB (n : Int) : Bool := decide (-1125899906842624 ≤ n) && decide (n ≤ 1125899906842624)
theorem mayB_iff {n : Int} : mayB n = true ↔ -1125899906842624 ≤ n ∧ n ≤ 1125899906842624 := by simp [mayB]
def maysC (args : List AV) (bs : List Box) (K : AV → List Box → Prop) : Prop := bs = [] ∧ ∃ n : Int, args = [.int .i64 n] ∧ K (.bool (mayB n)) []
set_option maxRecDepth 20000 in
theorem mays_ok : FnOk Tryd.prog tab 70 maysC := by
  refine fn_ok (E := R0_E pl70) tab_is R0_ok (R0_J _) Tryd.func70 rfl rfl (by kernel_rfl) ?_
  rintro args bs K ⟨rfl, n, rfl, hK⟩
  refine ⟨rfl, ?_⟩
  have fin : ∀ b, b = mayB n → K (.bool b) [] := fun b e => e ▸ hK
  constructor
  · intro h
    exact fin _ (by simp at h; simp [mayB, h])
  · intro h
    exact fin _ (by simp at h; simp [mayB]; omega)
/-- Two balances together. -/
def addM (a b : Int) : Except Int Int := if mayB a = true ∧ mayB b = true ∧ mayB (a + b) = true then .ok (a + b) else .error 4
def addMC (args : List AV) (bs : List Box) (K : AV → List Box → Prop) : Prop := bs = [] ∧ ∃ a b : Int, args = [.int .i64 a, .int .i64 b] ∧ (∀ s, addM a b = .ok s → K (.tup [.int .i64 s, .nilifc]) []) ∧ (∀ e, addM a b = .error e → K (.tup [.int .i64 0, errA e]) [])
def RM : Contract
  | 70 => maysC
  | _ => fun _ _ _ => False
theorem RM_ok : CallOk Tryd.prog tab RM := by
  intro f args bs K h
  unfold RM at h
  split at h
  · exact ⟨_, h, mays_ok⟩
  · exact h.elim
def RM_E (pl : Nat → Plan) : En := ⟨tab, RM, fun _ => none, 0, pl⟩
theorem RM_J (pl : Nat → Plan) : JOk Tryd.prog (RM_E pl).T (RM_E pl).J := fun _ _ h => by cases h
theorem addM_w {a b : Int} (ha : mayB a = true) (hb : mayB b = true) : IntKind.i64.wrap (a + b) = a + b := by
  rw [mayB_iff] at ha hb
  exact wrap_of (by omega) (by omega)
set_option maxRecDepth 20000 in
set_option maxHeartbeats 1600000 in
theorem addM_ok : FnOk Tryd.prog tab 56 addMC := by
  refine fn_ok (E := RM_E pl56) tab_is RM_ok (RM_J _) Tryd.func56 rfl rfl (by kernel_rfl) ?_
  rintro args bs K ⟨rfl, a, b, rfl, hok, her⟩
  refine ⟨rfl, ?_⟩
  have no : (¬ (mayB a = true ∧ mayB b = true ∧ mayB (a + b) = true)) → K (.tup [.int .i64 0, errA 4]) [] := fun h => her 4 (by unfold addM; rw [if_neg h])
  have yes : mayB a = true → mayB b = true → mayB (a + b) = true → K (.tup [.int .i64 (IntKind.i64.wrap (a + b)), .nilifc]) [] := fun h1 h2 h3 => by rw [addM_w h1 h2]; exact hok _ (by unfold addM; rw [if_pos ⟨h1, h2, h3⟩])
  refine ⟨rfl, a, rfl, ?_⟩
  cases ha : mayB a with
  | false =>
    rw [ha] at no
    refine ⟨fun _ => ?_, fun h => Bool.noConfusion h⟩
    refine ⟨fun _ => ?_, fun h => Bool.noConfusion h⟩
    refine ⟨fun _ => no (by simp), fun h => Bool.noConfusion h⟩
  | true =>
    refine ⟨fun h => Bool.noConfusion h, fun _ => ?_⟩
    refine ⟨rfl, b, rfl, ?_⟩
    cases hb : mayB b with
    | false =>
      rw [hb] at no
      refine ⟨fun _ => ?_, fun h => Bool.noConfusion h⟩
      refine ⟨fun _ => no (by simp), fun h => Bool.noConfusion h⟩
    | true =>
      refine ⟨fun h => Bool.noConfusion h, fun _ => ?_⟩
      refine ⟨rfl, IntKind.i64.wrap (a + b), rfl, ?_⟩
      rw [addM_w ha hb]
      cases hc : mayB (a + b) with
      | false =>
        rw [hc] at no
        refine ⟨fun _ => no (by simp), fun h => Bool.noConfusion h⟩
      | true =>
        refine ⟨fun h => Bool.noConfusion h, fun _ => ?_⟩
        exact yes ha hb hc
def amountB (n : Int) : Bool := decide (1 ≤ n) && decide (n ≤ 1099511627776)
theorem amountB_iff {n : Int} : amountB n = true ↔ 1 ≤ n ∧ n ≤ 1099511627776 := by simp [amountB]
def amtC (args : List AV) (bs : List Box) (K : AV → List Box → Prop) : Prop := bs = [] ∧ ∃ n : Int, args = [.int .i64 n] ∧ K (.bool (amountB n)) []
set_option maxRecDepth 20000 in
theorem amt_ok : FnOk Tryd.prog tab 40 amtC := by
  refine fn_ok (E := R0_E pl40) tab_is R0_ok (R0_J _) Tryd.func40 rfl rfl (by kernel_rfl) ?_
  rintro args bs K ⟨rfl, n, rfl, hK⟩
  refine ⟨rfl, ?_⟩
  have fin : ∀ b, b = amountB n → K (.bool b) [] := fun b e => e ▸ hK
  constructor
  · intro h
    exact fin _ (by simp at h; simp [amountB, h])
  · intro h
    exact fin _ (by simp at h; simp [amountB]; omega)
/-- May a rate be? -/
def rateB (p q : Int) : Bool := decide (1 ≤ p) && decide (p ≤ 1024) && decide (1 ≤ q) && decide (q ≤ 1024)
theorem rateB_iff {p q : Int} : rateB p q = true ↔ 1 ≤ p ∧ p ≤ 1024 ∧ 1 ≤ q ∧ q ≤ 1024 := by simp [rateB, and_assoc]
def rateA (p q : Int) : AV := .agg [.int .i64 p, .int .i64 q]
def rateC (args : List AV) (bs : List Box) (K : AV → List Box → Prop) : Prop := bs = [] ∧ ∃ p q : Int, args = [rateA p q] ∧ K (.bool (rateB p q)) []
set_option maxRecDepth 20000 in
theorem rate_ok : FnOk Tryd.prog tab 68 rateC := by
  refine fn_ok (E := R0_E pl68) tab_is R0_ok (R0_J _) Tryd.func68 rfl rfl (by kernel_rfl) ?_
  rintro args bs K ⟨rfl, p, q, rfl, hK⟩
  refine ⟨rfl, ?_⟩
  have fin : ∀ b, b = rateB p q → K (.bool b) [] := fun b e => e ▸ hK
  repeat' first
    | (refine ⟨fun h => Bool.noConfusion h, fun _ => ?_⟩)
    | (refine ⟨fun h => ?_, fun h => ?_⟩)
    | (refine fin _ ?_)
  all_goals (simp [rateB]; simp_all; try omega)
/-- An amount by a rate, rounded down, and what is left. -/
def convM (n p q : Int) : Except Int (Int × Int) := if amountB n = true ∧ rateB p q = true then (if (n * p).tdiv q > 1099511627776 then .error 4 else .ok ((n * p).tdiv q, (n * p).tmod q)) else .error 13
theorem mul_bound {n p : Int} (h1 : 1 ≤ n) (h2 : n ≤ 1099511627776) (h3 : 1 ≤ p) (h4 : p ≤ 1024) : 1 ≤ n * p ∧ n * p ≤ 1125899906842624 := by
  have h := Int.mul_le_mul h2 h4 (by omega) (by omega)
  have h' := Int.mul_le_mul h1 h3 (by omega) (by omega)
  omega
theorem tdiv_bound {x q : Int} (h1 : 1 ≤ x) (h2 : x ≤ 1125899906842624) (h3 : 1 ≤ q) : 0 ≤ x.tdiv q ∧ x.tdiv q ≤ 1125899906842624 := by
  rw [Int.tdiv_eq_ediv_of_nonneg (by omega)]
  exact ⟨Int.ediv_nonneg (by omega) (by omega), Int.le_trans (Int.ediv_le_self _ (by omega)) h2⟩
def convC (args : List AV) (bs : List Box) (K : AV → List Box → Prop) : Prop := bs = [] ∧ ∃ n p q : Int, args = [.int .i64 n, rateA p q] ∧ (∀ x y, convM n p q = .ok (x, y) → K (.tup [.int .i64 x, .int .i64 y, .nilifc]) []) ∧ (∀ e, convM n p q = .error e → K (.tup [.int .i64 0, .int .i64 0, errA e]) [])
def RV : Contract
  | 40 => amtC
  | 68 => rateC
  | _ => fun _ _ _ => False
theorem RV_ok : CallOk Tryd.prog tab RV := by
  intro f args bs K h
  unfold RV at h
  split at h
  · exact ⟨_, h, amt_ok⟩
  · exact ⟨_, h, rate_ok⟩
  · exact h.elim
def RV_E (pl : Nat → Plan) : En := ⟨tab, RV, fun _ => none, 0, pl⟩
theorem RV_J (pl : Nat → Plan) : JOk Tryd.prog (RV_E pl).T (RV_E pl).J := fun _ _ h => by cases h
set_option maxRecDepth 20000 in
set_option maxHeartbeats 1600000 in
theorem conv_ok : FnOk Tryd.prog tab 52 convC := by
  refine fn_ok (E := RV_E pl52) tab_is RV_ok (RV_J _) Tryd.func52 rfl rfl (by kernel_rfl) ?_
  rintro args bs K ⟨rfl, n, p, q, rfl, hok, her⟩
  refine ⟨rfl, ?_⟩
  have no : ¬ (amountB n = true ∧ rateB p q = true) → K (.tup [.int .i64 0, .int .i64 0, errA 13]) [] := fun h => her 13 (by unfold convM; rw [if_neg h])
  refine ⟨rfl, n, rfl, ?_⟩
  cases ha : amountB n with
  | false =>
    rw [ha] at no
    refine ⟨fun _ => ?_, fun h => Bool.noConfusion h⟩
    refine ⟨fun _ => no (by simp), fun h => Bool.noConfusion h⟩
  | true =>
    refine ⟨fun h => Bool.noConfusion h, fun _ => ?_⟩
    refine ⟨rfl, p, q, rfl, ?_⟩
    cases hb : rateB p q with
    | false =>
      rw [hb] at no
      refine ⟨fun _ => no (by simp), fun h => Bool.noConfusion h⟩
    | true =>
      refine ⟨fun h => Bool.noConfusion h, fun _ => ?_⟩
      obtain ⟨a1, a2⟩ := amountB_iff.1 ha
      obtain ⟨b1, b2, b3, b4⟩ := rateB_iff.1 hb
      obtain ⟨m1, m2⟩ := mul_bound a1 a2 b1 b2
      obtain ⟨d1, d2⟩ := tdiv_bound m1 m2 b3
      have w : IntKind.i64.wrap (n * p) = n * p := wrap_of (by omega) (by omega)
      have w2 : IntKind.i64.wrap ((n * p).tdiv q) = (n * p).tdiv q := wrap_of (by omega) (by omega)
      have hq : q ≠ 0 := by omega
      refine ⟨hq, ?_⟩
      constructor
      · intro h
        have h : IntKind.i64.wrap ((IntKind.i64.wrap (n * p)).tdiv q) > 1099511627776 := by simpa using h
        rw [w, w2] at h
        exact her 4 (by unfold convM; rw [if_pos ⟨ha, hb⟩, if_pos h])
      · intro h
        have h : ¬ IntKind.i64.wrap ((IntKind.i64.wrap (n * p)).tdiv q) > 1099511627776 := by simpa using h
        rw [w, w2] at h
        have hend : K (.tup [.int .i64 (IntKind.i64.wrap ((IntKind.i64.wrap (n * p)).tdiv q)), .int .i64 ((IntKind.i64.wrap (n * p)).tmod q), .nilifc]) [] := by
          rw [w, w2]
          exact hok _ _ (by unfold convM; rw [if_pos ⟨ha, hb⟩, if_neg h])
        repeat' first
          | exact hend
          | (refine ⟨hq, ?_⟩)
          | (refine And.intro ?_ ?_)
          | fail
def rateN (a b : Int) : Int × Int := if a = 0 then (if b = 0 then (1, 1) else if b = 1 then (9, 10) else (150, 1)) else if a = 1 then (if b = 0 then (11, 10) else if b = 1 then (1, 1) else (160, 1)) else (if b = 0 then (1, 151) else if b = 1 then (1, 161) else (1, 1))
def ratesA : AV := .agg ([1, 1, 9, 10, 150, 1, 11, 10, 1, 1, 160, 1, 1, 151, 1, 161, 1, 1].map (AV.int .i64))
def ratesC (args : List AV) (bs : List Box) (K : AV → List Box → Prop) : Prop := bs = [] ∧ args = [] ∧ K ratesA []
set_option maxRecDepth 200000 in
theorem rates_ok : FnOk Tryd.prog tab 53 ratesC := by
  refine fn_ok (E := R0_E pl53) tab_is R0_ok (R0_J _) Tryd.func53 rfl rfl (by kernel_rfl) ?_
  rintro args bs K ⟨rfl, rfl, hK⟩
  exact ⟨rfl, hK⟩
/-- The house's account of a kind, and a currency. -/
def numK (k c : Int) : Int := if k < 0 ∨ k > 2 ∨ c < 0 ∨ c ≥ 3 then -1 else 3 * c + k
def numKC (args : List AV) (bs : List Box) (K : AV → List Box → Prop) : Prop := bs = [] ∧ ∃ k c : Int, args = [.int .i64 k, .int .i64 c] ∧ K (.int .i64 (numK k c)) []
set_option maxRecDepth 20000 in
theorem numK_ok : FnOk Tryd.prog tab 51 numKC := by
  refine fn_ok (E := R0_E pl51) tab_is R0_ok (R0_J _) Tryd.func51 rfl rfl (by kernel_rfl) ?_
  rintro args bs K ⟨rfl, k, c, rfl, hK⟩
  refine ⟨rfl, ?_⟩
  have fin : ∀ b, b = numK k c → K (.int .i64 b) [] := fun b e => e ▸ hK
  have no : (k < 0 ∨ k > 2 ∨ c < 0 ∨ c ≥ 3) → K (.int .i64 (-1)) [] := fun h => fin _ (by unfold numK; rw [if_pos h])
  have yes : ¬ (k < 0 ∨ k > 2 ∨ c < 0 ∨ c ≥ 3) → K (.int .i64 (IntKind.i64.wrap (IntKind.i64.wrap (3 * c) + k))) [] := fun h => fin _ (by
    unfold numK; rw [if_neg h]
    have e1 : IntKind.i64.wrap (3 * c) = 3 * c := wrap_of (by omega) (by omega)
    rw [e1]
    exact wrap_of (by omega) (by omega))
  clear hK fin
  repeat' first
    | (refine ⟨fun h => Bool.noConfusion h, fun _ => ?_⟩)
    | (refine ⟨fun _ => ?_, fun h => Bool.noConfusion h⟩)
    | (refine ⟨fun h => ?_, fun h => ?_⟩)
    | (refine no ?_)
    | (refine yes ?_)
  all_goals (simp_all; try omega)
def freeN (a : Acc) : Int := w64 (a.bal - a.held)
def freeC (args : List AV) (bs : List Box) (K : AV → List Box → Prop) : Prop := bs = [] ∧ ∃ a : Acc, args = [accA a] ∧ K (.int .i64 (freeN a)) []
set_option maxRecDepth 20000 in
theorem free_ok : FnOk Tryd.prog tab 14 freeC := by
  refine fn_ok (E := R0_E pl14) tab_is R0_ok (R0_J _) Tryd.func14 rfl rfl (by kernel_rfl) ?_
  rintro args bs K ⟨rfl, p, rfl, hK⟩
  exact ⟨rfl, hK⟩
abbrev accsO (F : Nat) (l : List Acc) : AV := .sl (.own F) 50 (l.map accA)
def cloneC (args : List AV) (bs : List Box) (K : AV → List Box → Prop) : Prop := bs = [] ∧ ∃ l : List Acc, args = [accsA l] ∧ l.length ≤ 1000000 ∧ K (accsO 4000 l) []
set_option maxRecDepth 20000 in
theorem clone_ok : FnOk Tryd.prog tab 41 cloneC := by
  refine fn_ok (E := R0_E pl41) tab_is R0_ok (R0_J _) Tryd.func41 rfl rfl (by kernel_rfl) ?_
  rintro args bs K ⟨rfl, l, rfl, hl, hK⟩
  exact ⟨rfl, (by simp; omega : (l.map accA).length * 24 ≤ 140737488355328), hK⟩
end Go.Proofs.YtmlgkojmbnjfbaaDoor.A
