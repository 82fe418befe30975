/- audit.payments, audit.sagas. -/
import Derived.Test.YtjffmldlkofpaaaGreatDoorGD
namespace Go.Proofs.YtjffmldlkofpaaaGreatDoor.A
open Go Q
def staBa (s : Sta) : Option Box := some (.cells 36 [accsA s.accs, paysA s.pays, sagsA s.sags, knsA s.kns, .int .i64 s.now])
theorem all_no {α : Type} {f : α → Bool} : ∀ {l : List α} {i : Nat} {x : α}, l[i]? = some x → f x = false → l.all f = false
  | [], _, _, h, _ => by simp at h
  | y :: l, 0, x, h, hf => by simp at h; subst h; simp [hf]
  | y :: l, i + 1, x, h, hf => by
    have : l.all f = false := all_no (i := i) (by simpa using h) hf
    rw [List.all_cons, this, Bool.and_false]
theorem all_yes {α : Type} {f : α → Bool} {l : List α} (h : ∀ (i : Nat) (x : α), l[i]? = some x → f x = true) : l.all f = true := by
  rw [List.all_eq_true]
  intro x hx
  obtain ⟨i, hi⟩ := List.getElem?_of_mem hx
  exact h i x hi
theorem upto_succ {α : Type} {f : α → Bool} {l : List α} {i : Nat} {x : α} (hx : l[i]? = some x) (h : ∀ (j : Nat) (y : α), j < i → l[j]? = some y → f y = true) (hf : f x = true) : ∀ (j : Nat) (y : α), j < i + 1 → l[j]? = some y → f y = true := by
  intro j y hj hy
  by_cases e : j = i
  · subst e; rw [hx] at hy; cases hy; exact hf
  · exact h j y (by omega) hy
def payOk (n : Int) (p : Pay) : Bool := rightP p && !(p.src == p.dst) && isCl n p.src && isCl n p.dst
def paysOk (s : Sta) : Bool := s.pays.all (payOk s.accs.length)
def paysC (args : List AV) (bs : List Box) (K : AV → List Box → Prop) : Prop := bs = [] ∧ ∃ (s : Sta), args = [staA s] ∧ s.pays.length < 4611686018427387904 ∧ K (.bool (paysOk s)) []
def R3 : Contract
  | 64 => rightPC
  | 76 => isClC
  | 65 => rightSC
  | 80 => findC
  | _ => fun _ _ _ => False
theorem R3_ok : CallOk Tryz.prog tab R3 := by
  intro f args bs K h
  unfold R3 at h
  split at h
  · exact ⟨_, h, rightP_ok⟩
  · exact ⟨_, h, isCl_ok⟩
  · exact ⟨_, h, rightS_ok⟩
  · exact ⟨_, h, find_ok⟩
  · exact h.elim
def R3_E (pl : Nat → Plan) : En := ⟨tab, R3, fun _ => none, 0, pl⟩
theorem R3_J (pl : Nat → Plan) : JOk Tryz.prog (R3_E pl).T (R3_E pl).J := fun _ _ h => by cases h
set_option maxRecDepth 200000 in
set_option maxHeartbeats 1600000 in
theorem pays_ok : FnOk Tryz.prog tab 57 paysC := by
  refine fn_ok (E := R3_E pl57) tab_is R3_ok (R3_J _) Tryz.func57 rfl rfl (by kernel_rfl) ?_
  rintro args bs K ⟨rfl, s, rfl, hN, hK⟩
  refine ⟨rfl, ?_⟩
  have fin : ∀ n, n = paysOk s → K (.bool n) [] := fun n e => e ▸ hK
  refine ⟨fun m st => ∃ (i : Nat), (i ≤ s.pays.length ∧ ∀ (j : Nat) (p : Pay), j < i → s.pays[j]? = some p → payOk s.accs.length p = true) ∧ s.pays.length - i = m ∧ st.t 1 = .ptr 1 0 ∧ st.t 6 = paysA s.pays ∧ st.t 7 = .int .i64 ((s.pays.map payA).length : Nat) ∧ st.t 8 = .int .i64 i ∧ st.h 1 = staBa s,
    ⟨_, 0, ⟨Nat.zero_le _, fun j p h => absurd h (Nat.not_lt_zero _)⟩, rfl, rfl, rfl, rfl, rfl, (by kernel_rfl)⟩, ?_⟩
  rintro _ ⟨t1, h1⟩ ⟨i, ⟨hi, hX⟩, rfl, e1, e6, e7, e8, b1⟩
  have e1 : t1 1 = .ptr 1 0 := e1
  have e6 : t1 6 = paysA s.pays := e6
  have e7 : t1 7 = .int .i64 ((s.pays.map payA).length : Nat) := e7
  have e8 : t1 8 = .int .i64 i := e8
  have b1 : h1 1 = staBa s := b1
  rw [← updL_has t1 [(1, .ptr 1 0), (6, paysA s.pays), (7, .int .i64 ((s.pays.map payA).length : Nat)), (8, .int .i64 i)] ⟨e1, e6, e7, e8, trivial⟩, ← updL_has h1 [(1, staBa s)] ⟨b1, trivial⟩]
  constructor
  · intro hb
    have hi' : i < s.pays.length := by
      have : (i : Int) < ((s.pays.map payA).length : Nat) := by simpa using hb
      simp at this; omega
    have w : IntKind.i64.wrap ((i : Int) + 1) = ((i + 1 : Nat) : Int) := by rw [wrap_of] <;> omega
    have hlt : s.pays.length - (i + 1) < s.pays.length - i := by omega
    obtain ⟨p, hp⟩ : ∃ p, s.pays[i]? = some p := ⟨_, List.getElem?_eq_getElem hi'⟩
    have no : payOk s.accs.length p = false → K (.bool false) [] := fun e => fin false (all_no hp e).symm
    have yes := upto_succ (f := payOk s.accs.length) hp hX
    refine ⟨_, Int.natCast_nonneg i, map_of hp, ?_⟩
    repeat' first
      | (refine ⟨fun h => Bool.noConfusion h, fun _ => ?_⟩)
      | (refine ⟨fun _ => ?_, fun h => Bool.noConfusion h⟩)
      | (refine ⟨rfl, p, rfl, ?_⟩)
      | (refine ⟨rfl, s.accs, p.src, rfl, ?_⟩)
      | (refine ⟨rfl, s.accs, p.dst, rfl, ?_⟩)
      | (refine ⟨fun h => ?_, fun h => ?_⟩)
      | (refine no ?_)
      | (refine ⟨_, hlt, i + 1, ⟨hi', yes ?_⟩, rfl, rfl, rfl, rfl, congrArg (AV.int .i64) w, (by kernel_rfl)⟩)
      | fail
    all_goals (clear hK fin no yes hX e1 e6 e7 e8 b1; simp [payOk]; first | (simp_all; done) | (simp_all; omega))
  · intro hb
    have hi' : i = s.pays.length := by
      have : ¬ (i : Int) < ((s.pays.map payA).length : Nat) := by simpa using hb
      simp at this; omega
    subst hi'
    exact fin true (all_yes (fun j p hp => hX j p (List.getElem?_eq_some_iff.1 hp).1 hp)).symm
def reqEq (r q : Req) : Bool := r.key == q.key && (r.op == q.op && (r.a == q.a && (r.b == q.b && (r.amt == q.amt && (r.legs == q.legs && (r.til == q.til && true))))))
def knOk (ks : List Kno) (r : Req) (k : Int) : Bool := match ks[k.toNat]? with
  | some q => !q.told && reqEq q.req r
  | none => false
def sagOk (ks : List Kno) (g : Sag) : Bool := rightS g && decide (0 ≤ findK ks g.req.key 0) && knOk ks g.req (findK ks g.req.key 0)
def sagsOk (s : Sta) : Bool := s.sags.all (sagOk s.kns)
theorem find_get {key : Int} : ∀ {ks : List Kno} {o : Int}, findK ks key o = -1 ∨ ∃ (i : Nat) (q : Kno), findK ks key o = o + i ∧ ks[i]? = some q ∧ q.req.key = key ∧ ∀ (j : Nat) (r : Kno), j < i → ks[j]? = some r → ¬ r.req.key = key
  | [], _ => .inl rfl
  | k :: ks, o => by
    by_cases h : k.req.key = key
    · exact .inr ⟨0, k, by simp [findK, h], rfl, h, fun j r hj => absurd hj (Nat.not_lt_zero _)⟩
    · simp only [findK, h, if_false]
      rcases find_get (key := key) (ks := ks) (o := o + 1) with e | ⟨i, q, e1, e2, e3, e4⟩
      · exact .inl e
      · refine .inr ⟨i + 1, q, by rw [e1]; omega, by simpa using e2, e3, fun j r hj hr => ?_⟩
        cases j with
        | zero => simp at hr; subst hr; exact h
        | succ j => exact e4 j r (by omega) (by simpa using hr)
def sagsC (args : List AV) (bs : List Box) (K : AV → List Box → Prop) : Prop := bs = [] ∧ ∃ (s : Sta), args = [staA s] ∧ s.sags.length < 4611686018427387904 ∧ s.kns.length < 4611686018427387904 ∧ K (.bool (sagsOk s)) []
set_option maxRecDepth 200000 in
set_option maxHeartbeats 3200000 in
theorem sags_ok : FnOk Tryz.prog tab 58 sagsC := by
  refine fn_ok (E := R3_E pl58) tab_is R3_ok (R3_J _) Tryz.func58 rfl rfl (by kernel_rfl) ?_
  rintro args bs K ⟨rfl, s, rfl, hN, hN2, hK⟩
  refine ⟨rfl, ?_⟩
  have fin : ∀ n, n = sagsOk s → K (.bool n) [] := fun n e => e ▸ hK
  refine ⟨fun m st => ∃ (i : Nat), (i ≤ s.sags.length ∧ ∀ (j : Nat) (p : Sag), j < i → s.sags[j]? = some p → sagOk s.kns p = true) ∧ s.sags.length - i = m ∧ st.t 1 = .ptr 1 0 ∧ st.t 7 = sagsA s.sags ∧ st.t 8 = .int .i64 ((s.sags.map sagA).length : Nat) ∧ st.t 9 = .int .i64 i ∧ st.h 1 = staBa s,
    ⟨_, 0, ⟨Nat.zero_le _, fun j p h => absurd h (Nat.not_lt_zero _)⟩, rfl, rfl, rfl, rfl, rfl, (by kernel_rfl)⟩, ?_⟩
  rintro _ ⟨t1, h1⟩ ⟨i, ⟨hi, hX⟩, rfl, e1, e7, e8, e9, b1⟩
  have e1 : t1 1 = .ptr 1 0 := e1
  have e7 : t1 7 = sagsA s.sags := e7
  have e8 : t1 8 = .int .i64 ((s.sags.map sagA).length : Nat) := e8
  have e9 : t1 9 = .int .i64 i := e9
  have b1 : h1 1 = staBa s := b1
  rw [← updL_has t1 [(1, .ptr 1 0), (7, sagsA s.sags), (8, .int .i64 ((s.sags.map sagA).length : Nat)), (9, .int .i64 i)] ⟨e1, e7, e8, e9, trivial⟩, ← updL_has h1 [(1, staBa s)] ⟨b1, trivial⟩]
  constructor
  · intro hb
    have hi' : i < s.sags.length := by
      have : (i : Int) < ((s.sags.map sagA).length : Nat) := by simpa using hb
      simp at this; omega
    have w : IntKind.i64.wrap ((i : Int) + 1) = ((i + 1 : Nat) : Int) := by rw [wrap_of] <;> omega
    have hlt : s.sags.length - (i + 1) < s.sags.length - i := by omega
    obtain ⟨g, hg⟩ : ∃ p, s.sags[i]? = some p := ⟨_, List.getElem?_eq_getElem hi'⟩
    have no : sagOk s.kns g = false → K (.bool false) [] := fun e => fin false (all_no hg e).symm
    have yes := upto_succ (f := sagOk s.kns) hg hX
    refine ⟨_, Int.natCast_nonneg i, map_of hg, ?_⟩
    refine ⟨rfl, s.kns, g.req.key, rfl, hN2, ?_⟩
    refine ⟨rfl, g, rfl, ?_⟩
    have hsk : sagOk s.kns g = (rightS g && decide (0 ≤ findK s.kns g.req.key 0) && knOk s.kns g.req (findK s.kns g.req.key 0)) := rfl
    rcases find_get (key := g.req.key) (ks := s.kns) (o := 0) with hf | ⟨k, q, hf, hq, _, _⟩
    · have hno : sagOk s.kns g = false := by rw [hsk, hf]; simp
      rw [hf]
      repeat' first
        | (refine ⟨fun h => Bool.noConfusion h, fun _ => ?_⟩)
        | (refine ⟨fun _ => ?_, fun h => Bool.noConfusion h⟩)
        | (exact no hno)
        | (refine ⟨fun h => ?_, fun h => ?_⟩)
        | fail
    · have hk0 : 0 ≤ findK s.kns g.req.key 0 := by rw [hf]; omega
      have hkq : s.kns[(findK s.kns g.req.key 0).toNat]? = some q := by rw [hf, Int.zero_add]; exact hq
      have hkn : knOk s.kns g.req (findK s.kns g.req.key 0) = (!q.told && reqEq q.req g.req) := by unfold knOk; rw [hkq]
      have hidx := map_of (f := knoA) hkq
      repeat' first
        | (refine ⟨fun h => Bool.noConfusion h, fun _ => ?_⟩)
        | (refine ⟨fun _ => ?_, fun h => Bool.noConfusion h⟩)
        | (refine ⟨_, hk0, hidx, ?_⟩)
        | (refine ⟨fun h => ?_, fun h => ?_⟩)
        | (refine no ?_)
        | (refine ⟨_, hlt, i + 1, ⟨hi', yes ?_⟩, rfl, rfl, rfl, rfl, congrArg (AV.int .i64) w, (by kernel_rfl)⟩)
        | fail
      all_goals (rw [hsk, hkn]; clear hK fin no yes hX e1 e7 e8 e9 b1; first | (simp_all [reqEq]; done) | (simp_all [reqEq]; omega))
  · intro hb
    have hi' : i = s.sags.length := by
      have : ¬ (i : Int) < ((s.sags.map sagA).length : Nat) := by simpa using hb
      simp at this; omega
    subst hi'
    exact fin true (all_yes (fun j p hp => hX j p (List.getElem?_eq_some_iff.1 hp).1 hp)).symm
end Go.Proofs.YtjffmldlkofpaaaGreatDoor.A
