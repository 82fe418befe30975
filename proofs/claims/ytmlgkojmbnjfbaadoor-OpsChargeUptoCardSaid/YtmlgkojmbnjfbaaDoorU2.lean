/- chart.Sums, chart.New. -/
import Derived.Test.YtmlgkojmbnjfbaaDoorU1
namespace Go.Proofs.YtmlgkojmbnjfbaaDoor.A
open Go Q
abbrev Tri := Int × Int × Int
def addS (t : Tri) (a : Acc) : Tri := if a.cur = 0 then (w64 (t.1 + a.bal), t.2.1, t.2.2) else if a.cur = 1 then (t.1, w64 (t.2.1 + a.bal), t.2.2) else if a.cur = 2 then (t.1, t.2.1, w64 (t.2.2 + a.bal)) else t
def sumsL (l : List Acc) : Tri := l.foldl addS (0, 0, 0)
def triA (t : Tri) : AV := .agg [.int .i64 t.1, .int .i64 t.2.1, .int .i64 t.2.2]
def triB (t : Tri) : Option Box := some (.cells 64 [.int .i64 t.1, .int .i64 t.2.1, .int .i64 t.2.2])
def sumsC (args : List AV) (bs : List Box) (K : AV → List Box → Prop) : Prop := bs = [] ∧ ∃ (l : List Acc), args = [accsA l] ∧ l.length < 4611686018427387904 ∧ K (triA (sumsL l)) []
set_option maxRecDepth 200000 in
set_option maxHeartbeats 1600000 in
theorem sums_ok : FnOk Tryd.prog tab 20 sumsC := by
  refine fn_ok (E := R0_E pl20) tab_is R0_ok (R0_J _) Tryd.func20 rfl rfl (by kernel_rfl) ?_
  rintro args bs K ⟨rfl, l, rfl, hN, hK⟩
  refine ⟨rfl, ?_⟩
  refine ⟨fun m s => ∃ (i : Nat) (t : Tri), (i ≤ l.length ∧ t = (l.take i).foldl addS (0, 0, 0)) ∧ l.length - i = m ∧ s.t 2 = .ptr 2 0 ∧ s.t 3 = .ptr 3 0 ∧ s.t 6 = accsA l ∧ s.t 7 = .int .i64 ((l.map accA).length : Nat) ∧ s.t 8 = .int .i64 i ∧ s.h 2 = triB (0, 0, 0) ∧ s.h 3 = triB t,
    ⟨_, 0, _, ⟨Nat.zero_le _, rfl⟩, rfl, rfl, rfl, rfl, rfl, rfl, (by kernel_rfl), (by kernel_rfl)⟩, ?_⟩
  rintro _ ⟨t1, h1⟩ ⟨i, t, ⟨hi, hT⟩, rfl, e2, e3, e6, e7, e8, b2, b3⟩
  obtain ⟨s0, s1, s2⟩ := t
  have e2 : t1 2 = .ptr 2 0 := e2
  have e3 : t1 3 = .ptr 3 0 := e3
  have e6 : t1 6 = accsA l := e6
  have e7 : t1 7 = .int .i64 ((l.map accA).length : Nat) := e7
  have e8 : t1 8 = .int .i64 i := e8
  have b2 : h1 2 = triB (0, 0, 0) := b2
  have b3 : h1 3 = triB (s0, s1, s2) := b3
  rw [← updL_has t1 [(2, .ptr 2 0), (3, .ptr 3 0), (6, accsA l), (7, .int .i64 ((l.map accA).length : Nat)), (8, .int .i64 i)] ⟨e2, e3, e6, e7, e8, trivial⟩, ← updL_has h1 [(2, triB (0, 0, 0)), (3, triB (s0, s1, s2))] ⟨b2, b3, trivial⟩]
  constructor
  · intro hb
    have hi' : i < l.length := by
      have : (i : Int) < ((l.map accA).length : Nat) := by simpa using hb
      simp at this; omega
    have w : IntKind.i64.wrap ((i : Int) + 1) = ((i + 1 : Nat) : Int) := by rw [wrap_of] <;> omega
    have hlt : l.length - (i + 1) < l.length - i := by omega
    obtain ⟨a, ha⟩ : ∃ a, l[i]? = some a := ⟨_, List.getElem?_eq_getElem hi'⟩
    have hst : (l.take (i + 1)).foldl addS (0, 0, 0) = addS (s0, s1, s2) a := by
      rw [List.take_add_one, List.foldl_append, ← hT, ha]; rfl
    refine ⟨_, Int.natCast_nonneg i, map_of ha, ?_⟩
    obtain ⟨cur, bal, held⟩ := a
    by_cases c0 : cur = 0
    · subst c0
      have hst : (l.take (i + 1)).foldl addS (0, 0, 0) = (w64 (s0 + bal), s1, s2) := by rw [hst]; simp [addS]
      refine ⟨fun _ => ?_, fun h => Bool.noConfusion (show true = false from h)⟩
      refine ⟨fun _ => ?_, fun h => Bool.noConfusion (show true = false from h)⟩
      repeat' first
        | (refine ⟨0, rfl, (by decide : 0 < 3), ?_⟩)
        | (refine ⟨_, hlt, i + 1, _, ⟨hi', hst.symm⟩, rfl, rfl, rfl, rfl, rfl, congrArg (AV.int .i64) w, rfl, rfl⟩)
        | (refine ⟨?_, ?_⟩)
        | fail
    · by_cases c1 : cur = 1
      · subst c1
        have hst : (l.take (i + 1)).foldl addS (0, 0, 0) = (s0, w64 (s1 + bal), s2) := by rw [hst]; simp [addS]
        refine ⟨fun _ => ?_, fun h => Bool.noConfusion (show true = false from h)⟩
        refine ⟨fun _ => ?_, fun h => Bool.noConfusion (show true = false from h)⟩
        repeat' first
          | (refine ⟨1, rfl, (by decide : 1 < 3), ?_⟩)
          | (refine ⟨_, hlt, i + 1, _, ⟨hi', hst.symm⟩, rfl, rfl, rfl, rfl, rfl, congrArg (AV.int .i64) w, rfl, rfl⟩)
          | (refine ⟨?_, ?_⟩)
          | fail
      · by_cases c2 : cur = 2
        · subst c2
          have hst : (l.take (i + 1)).foldl addS (0, 0, 0) = (s0, s1, w64 (s2 + bal)) := by rw [hst]; simp [addS]
          refine ⟨fun _ => ?_, fun h => Bool.noConfusion (show true = false from h)⟩
          refine ⟨fun _ => ?_, fun h => Bool.noConfusion (show true = false from h)⟩
          repeat' first
            | (refine ⟨2, rfl, (by decide : 2 < 3), ?_⟩)
            | (refine ⟨_, hlt, i + 1, _, ⟨hi', hst.symm⟩, rfl, rfl, rfl, rfl, rfl, congrArg (AV.int .i64) w, rfl, rfl⟩)
            | (refine ⟨?_, ?_⟩)
            | fail
        · have hst : (l.take (i + 1)).foldl addS (0, 0, 0) = (s0, s1, s2) := by rw [hst]; simp [addS, c0, c1, c2]
          have go : ∀ {P : Prop}, cur ≥ 0 → cur < 3 → P := fun h1 h2 => by omega
          constructor
          · intro h
            have h : cur ≥ 0 := by simpa using h
            constructor
            · intro g
              have g : cur < 3 := by simpa using g
              exact go h g
            · intro g
              exact ⟨_, hlt, i + 1, _, ⟨hi', hst.symm⟩, rfl, rfl, rfl, rfl, rfl, congrArg (AV.int .i64) w, rfl, rfl⟩
          · intro h
            refine ⟨fun h => Bool.noConfusion h, fun _ => ?_⟩
            exact ⟨_, hlt, i + 1, _, ⟨hi', hst.symm⟩, rfl, rfl, rfl, rfl, rfl, congrArg (AV.int .i64) w, rfl, rfl⟩
  · intro hb
    have hi' : i = l.length := by
      have : ¬ (i : Int) < ((l.map accA).length : Nat) := by simpa using hb
      simp at this; omega
    subst hi'
    rw [List.take_length] at hT
    unfold sumsL at hK
    rw [← hT] at hK
    exact hK
end Go.Proofs.YtmlgkojmbnjfbaaDoor.A
