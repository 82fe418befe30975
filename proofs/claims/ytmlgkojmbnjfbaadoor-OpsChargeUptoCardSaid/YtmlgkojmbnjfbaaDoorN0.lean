/- chart.New. -/
import Derived.Test.YtmlgkojmbnjfbaaDoorU2
namespace Go.Proofs.YtmlgkojmbnjfbaaDoor.A
open Go Q
def newL : List Acc := [⟨0, 0, 0⟩, ⟨0, 0, 0⟩, ⟨0, 0, 0⟩, ⟨1, 0, 0⟩, ⟨1, 0, 0⟩, ⟨1, 0, 0⟩, ⟨2, 0, 0⟩, ⟨2, 0, 0⟩, ⟨2, 0, 0⟩]
def newA : Nat → AV
  | 0 => .sl .nl 0 []
  | n + 1 => .sl (.own 12000) 50 ((newL.take (n + 1)).map accA)
def newC0 (args : List AV) (bs : List Box) (K : AV → List Box → Prop) : Prop := bs = [] ∧ args = [] ∧ K (.sl (.own 12000) 50 (newL.map accA)) []
set_option maxRecDepth 200000 in
set_option maxHeartbeats 3200000 in
theorem new_ok0 : FnOk Tryd.prog tab 37 newC0 := by
  refine fn_ok (E := R0_E pl37) tab_is R0_ok (R0_J _) Tryd.func37 rfl rfl (by kernel_rfl) ?_
  rintro args bs K ⟨rfl, rfl, hK⟩
  refine ⟨rfl, ?_⟩
  refine ⟨fun m st => ∃ (i : Nat), (i ≤ 3) ∧ 3 - i = m ∧ st.t 1 = newA (3 * i) ∧ st.t 3 = .int .i64 i, ⟨_, 0, Nat.zero_le _, rfl, rfl, rfl⟩, ?_⟩
  rintro _ ⟨t1, h1⟩ ⟨i, hi, rfl, e1, e3⟩
  have e1 : t1 1 = newA (3 * i) := e1
  have e3 : t1 3 = .int .i64 i := e3
  rw [← updL_has t1 [(1, newA (3 * i)), (3, .int .i64 i)] ⟨e1, e3, trivial⟩]
  have inner : ∀ (i : Nat), i < 3 → ∃ c : Acc, c = ⟨i, 0, 0⟩ ∧ ∀ j, j < 3 → newL.take (3 * i + j + 1) = newL.take (3 * i + j) ++ [c] := by
    intro i hi
    rcases (by omega : i = 0 ∨ i = 1 ∨ i = 2) with rfl | rfl | rfl <;> refine ⟨_, rfl, fun j hj => ?_⟩ <;> rcases (by omega : j = 0 ∨ j = 1 ∨ j = 2) with rfl | rfl | rfl <;> rfl
  constructor
  · intro hb
    have hi' : i < 3 := by
      have : (i : Int) < 3 := by simpa using hb
      omega
    obtain ⟨c, rfl, hc⟩ := inner i hi'
    refine ⟨fun m st => ∃ (j : Nat), (j ≤ 3) ∧ 3 - j = m ∧ st.t 1 = newA (3 * i + j) ∧ st.t 2 = .int .i64 i ∧ st.t 3 = .int .i64 i ∧ st.t 6 = .int .i64 j, ⟨_, 0, Nat.zero_le _, rfl, rfl, rfl, rfl, rfl⟩, ?_⟩
    rintro _ ⟨t2, h2⟩ ⟨j, hj, rfl, f1, f2, f3, f6⟩
    have f1 : t2 1 = newA (3 * i + j) := f1
    have f2 : t2 2 = .int .i64 i := f2
    have f3 : t2 3 = .int .i64 i := f3
    have f6 : t2 6 = .int .i64 j := f6
    have wj : IntKind.i64.wrap ((j : Int) + 1) = ((j + 1 : Nat) : Int) := by rw [wrap_of] <;> omega
    have wi : IntKind.i64.wrap ((i : Int) + 1) = ((i + 1 : Nat) : Int) := by rw [wrap_of] <;> omega
    cases hn : 3 * i + j with
    | zero =>
      rw [hn] at f1
      have f1 : t2 1 = .sl .nl 0 [] := f1
      have hi0 : i = 0 := by omega
      have hj0 : j = 0 := by omega
      subst hi0
      subst hj0
      rw [← updL_has t2 [(1, .sl .nl 0 []), (2, .int .i64 (0 : Nat)), (3, .int .i64 (0 : Nat)), (6, .int .i64 (0 : Nat))] ⟨f1, f2, f3, f6, trivial⟩]
      refine ⟨fun _ => ?_, fun h => Bool.noConfusion (show true = false from h)⟩
      refine ⟨(by decide : 1 * 24 ≤ 140737488355328), ?_⟩
      exact ⟨_, (by decide : 2 < 3), 1, by decide, rfl, rfl, rfl, rfl, congrArg (AV.int .i64) wj⟩
    | succ n =>
      rw [hn] at f1
      have f1 : t2 1 = .sl (.own 12000) 50 ((newL.take (n + 1)).map accA) := f1
      rw [← updL_has t2 [(1, .sl (.own 12000) 50 ((newL.take (n + 1)).map accA)), (2, .int .i64 i), (3, .int .i64 i), (6, .int .i64 j)] ⟨f1, f2, f3, f6, trivial⟩]
      constructor
      · intro hb
        have hj' : j < 3 := by
          have : (j : Int) < 3 := by simpa using hb
          omega
        have hb2 : (((newL.take (n + 1)).map accA).length + 1) * 24 ≤ 140737488355328 := by
          have : (newL.take (n + 1)).length ≤ 9 := by rw [List.length_take]; exact Nat.min_le_right _ _
          rw [List.length_map]; omega
        have hcc := hc j hj'
        rw [hn] at hcc
        have hX : AV.sl (.own 12000) 50 ((newL.take (n + 1)).map accA ++ [accA ⟨i, 0, 0⟩]) = newA (3 * i + (j + 1)) := by
          rw [show 3 * i + (j + 1) = (n + 1) + 1 by omega]
          show _ = AV.sl (.own 12000) 50 ((newL.take (n + 1 + 1)).map accA)
          rw [hcc, List.map_append]; rfl
        refine ⟨hb2, ?_⟩
        exact ⟨_, (by omega : 3 - (j + 1) < 3 - j), j + 1, hj', rfl, hX, rfl, rfl, congrArg (AV.int .i64) wj⟩
      · intro hb
        have hj' : j = 3 := by
          have : ¬ (j : Int) < 3 := by simpa using hb
          omega
        refine ⟨_, (by omega : 3 - (i + 1) < 3 - i), i + 1, hi', rfl, ?_, congrArg (AV.int .i64) wi⟩
        rw [show 3 * (i + 1) = n + 1 by omega]
        rfl
  · intro hb
    have hi' : i = 3 := by
      have : ¬ (i : Int) < 3 := by simpa using hb
      omega
    subst hi'
    exact hK
end Go.Proofs.YtmlgkojmbnjfbaaDoor.A
