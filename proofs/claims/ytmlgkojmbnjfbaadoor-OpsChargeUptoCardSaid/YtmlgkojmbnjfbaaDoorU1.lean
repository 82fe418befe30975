/- keys.Find, chart.Right, chart.Sums. -/
import Derived.Test.YtmlgkojmbnjfbaaDoorU0
namespace Go.Proofs.YtmlgkojmbnjfbaaDoor.A
open Go Q
def findK : List Kno → Int → Int → Int
  | [], _, _ => -1
  | k :: ks, key, i => if k.req.key = key then i else findK ks key (i + 1)
theorem find_at {key : Int} : ∀ {ks : List Kno} {i : Nat} {k : Kno} {o : Int}, ks[i]? = some k → k.req.key = key → (∀ (j : Nat) (q : Kno), j < i → ks[j]? = some q → ¬ q.req.key = key) → findK ks key o = o + i
  | [], i, _, _, h, _, _ => by simp at h
  | q :: qs, 0, k, o, h, hk, _ => by simp at h; subst h; simp [findK, hk]
  | q :: qs, i + 1, k, o, h, hk, hn => by
    have h0 := hn 0 q (by omega) rfl
    simp only [findK, h0, if_false]
    rw [find_at (ks := qs) (i := i) (by simpa using h) hk (fun j r hj hr => hn (j + 1) r (by omega) (by simpa using hr))]
    omega
theorem find_no {key : Int} : ∀ {ks : List Kno} {o : Int}, (∀ (j : Nat) (q : Kno), ks[j]? = some q → ¬ q.req.key = key) → findK ks key o = -1
  | [], _, _ => rfl
  | q :: qs, o, h => by
    have h0 := h 0 q rfl
    simp only [findK, h0, if_false]
    exact find_no (fun j r hr => h (j + 1) r (by simpa using hr))
def findC (args : List AV) (bs : List Box) (K : AV → List Box → Prop) : Prop := bs = [] ∧ ∃ (ks : List Kno) (key : Int), args = [knsA ks, .int .i64 key] ∧ ks.length < 4611686018427387904 ∧ K (.int .i64 (findK ks key 0)) []
def accOk (k : Int) (a : Acc) : Bool := !(decide (a.cur < 0) || decide (a.cur ≥ 3) || decide (a.bal > 1125899906842624) || decide (a.bal < -1125899906842624)) &&
  !(decide (k < 9) && (decide (¬ a.cur = w64 (k.tdiv 3)) || decide (¬ a.held = 0)) || decide (k ≥ 9) && (decide (a.held < 0) || decide (a.bal < a.held)))
def allI : Int → List Acc → Bool
  | _, [] => true
  | k, a :: l => accOk k a && allI (k + 1) l
def rightL (l : List Acc) : Bool := !(decide ((l.length : Int) < 9) || decide ((l.length : Int) > 64)) && allI 0 l
theorem allI_no : ∀ {l : List Acc} {i : Nat} {a : Acc} {o : Int}, l[i]? = some a → accOk (o + i) a = false → allI o l = false
  | [], i, _, _, h, _ => by simp at h
  | b :: l, 0, a, o, h, hk => by simp at h; subst h; simp at hk; simp [allI, hk]
  | b :: l, i + 1, a, o, h, hk => by
    have : allI (o + 1) l = false := allI_no (i := i) (by simpa using h) (by rw [← hk]; congr 1; omega)
    simp [allI, this]
theorem allI_yes : ∀ {l : List Acc} {o : Int}, (∀ (i : Nat) (a : Acc), l[i]? = some a → accOk (o + i) a = true) → allI o l = true
  | [], _, _ => rfl
  | b :: l, o, h => by
    have h0 := h 0 b rfl
    have h1 : allI (o + 1) l = true := allI_yes (fun i a ha => by
      have := h (i + 1) a (by simpa using ha)
      rw [← this]; congr 1; omega)
    simp at h0
    simp [allI, h0, h1]
def rightLC (args : List AV) (bs : List Box) (K : AV → List Box → Prop) : Prop := bs = [] ∧ ∃ (l : List Acc), args = [accsA l] ∧ K (.bool (rightL l)) []
set_option maxRecDepth 20000 in
set_option maxHeartbeats 1600000 in
theorem rightL_ok : FnOk Tryd.prog tab 19 rightLC := by
  refine fn_ok (E := R0_E pl19) tab_is R0_ok (R0_J _) Tryd.func19 rfl rfl (by kernel_rfl) ?_
  rintro args bs K ⟨rfl, l, rfl, hK⟩
  refine ⟨rfl, ?_⟩
  have fin : ∀ n, n = rightL l → K (.bool n) [] := fun n e => e ▸ hK
  have hl : ((l.map accA).length : Int) = l.length := by simp
  constructor
  · intro h
    have h : ((l.map accA).length : Int) < 9 := by simpa using h
    rw [hl] at h
    refine ⟨fun _ => ?_, fun h => Bool.noConfusion h⟩
    exact fin false (by simp [rightL, h])
  · intro h
    have h : ¬ ((l.map accA).length : Int) < 9 := by simpa using h
    rw [hl] at h
    constructor
    · intro g
      have g : ((l.map accA).length : Int) > 64 := by simpa using g
      rw [hl] at g
      exact fin false (by simp [rightL, g])
    · intro g
      have g : ¬ ((l.map accA).length : Int) > 64 := by simpa using g
      rw [hl] at g
      refine ⟨fun m s => ∃ (i : Nat), (i ≤ l.length ∧ ∀ (j : Nat) (a : Acc), j < i → l[j]? = some a → accOk j a = true) ∧ l.length - i = m ∧ s.t 13 = accsA l ∧ s.t 14 = .int .i64 ((l.map accA).length : Nat) ∧ s.t 15 = .int .i64 i,
        ⟨_, 0, ⟨Nat.zero_le _, fun j q h => absurd h (Nat.not_lt_zero _)⟩, rfl, rfl, rfl, rfl⟩, ?_⟩
      rintro _ ⟨t1, h1⟩ ⟨i, ⟨hi, hX⟩, rfl, e13, e14, e15⟩
      have e13 : t1 13 = accsA l := e13
      have e14 : t1 14 = .int .i64 ((l.map accA).length : Nat) := e14
      have e15 : t1 15 = .int .i64 i := e15
      rw [← updL_has t1 [(13, accsA l), (14, .int .i64 ((l.map accA).length : Nat)), (15, .int .i64 i)] ⟨e13, e14, e15, trivial⟩]
      constructor
      · intro hb
        have hi' : i < l.length := by
          have : (i : Int) < ((l.map accA).length : Nat) := by simpa using hb
          simp at this; omega
        have w : IntKind.i64.wrap ((i : Int) + 1) = ((i + 1 : Nat) : Int) := by rw [wrap_of] <;> omega
        have hki : l[i]? = some l[i] := List.getElem?_eq_getElem hi'
        have no : accOk i l[i] = false → K (.bool false) [] := fun e => fin false (by
          have := allI_no (o := 0) hki (by rw [Int.zero_add]; exact e)
          simp [rightL, this])
        have yes : accOk i l[i] = true → ∀ (j : Nat) (a : Acc), j < i + 1 → l[j]? = some a → accOk j a = true := fun e j a hj ha => by
          by_cases h : j = i
          · subst h; rw [hki] at ha; cases ha; exact e
          · exact hX j a (by omega) ha
        have hlt : l.length - (i + 1) < l.length - i := by omega
        refine ⟨_, Int.natCast_nonneg i, map_at hi', ?_⟩
        repeat' first
          | (refine ⟨(by decide : (3 : Int) ≠ 0), ?_⟩)
          | (refine ⟨fun h => Bool.noConfusion h, fun _ => ?_⟩)
          | (refine ⟨fun _ => ?_, fun h => Bool.noConfusion h⟩)
          | (refine ⟨fun h => ?_, fun h => ?_⟩)
          | (refine no ?_)
          | (refine ⟨_, hlt, i + 1, ⟨hi', yes ?_⟩, rfl, rfl, rfl, congrArg (AV.int .i64) w⟩)
          | fail
        all_goals (clear hK fin no yes hX e13 e14 e15; simp [accOk, w64]; first | (simp_all; done) | (simp_all; omega) | (simp_all; intros; omega))
      · intro hb
        have hi' : i = l.length := by
          have : ¬ (i : Int) < ((l.map accA).length : Nat) := by simpa using hb
          simp at this; omega
        subst hi'
        refine fin true ?_
        have := allI_yes (l := l) (o := 0) (fun j a ha => by rw [Int.zero_add]; exact hX j a (List.getElem?_eq_some_iff.1 ha).1 ha)
        simp [rightL, this]
        omega
end Go.Proofs.YtmlgkojmbnjfbaaDoor.A
