/- Disks: what they are to the evaluation; works, Used, Stopped, Arm, Of. -/
import Derived.Test.YtbpcofnhndgoeaaDoorGI
import Derived.Test.YtbpcofnhndgoeaaDoorGD
import Derived.Test.YtbpcofnhndgoeaaDoorJP0
namespace Go.Proofs.YtbpcofnhndgoeaaDoor.A
open Go Q
abbrev dkB (d : Dk) (nb : Nat) : Box := .obj ⟨70, 73, 5, d.fs, d.room, d.left, d.stop, nb⟩
def erA (n : Int) : AV := if n = 0 then .nilifc else .ifc 34 (.int .i64 n)
def D0_E (pl : Nat → Plan) : En := ⟨tab, fun _ _ _ _ => False, fun _ => none, 0, pl⟩
theorem D0_C (pl : Nat → Plan) : CallOk Tryd.prog (D0_E pl).T (D0_E pl).R := fun _ _ _ _ h => h.elim
theorem D0_J (pl : Nat → Plan) : JOk Tryd.prog (D0_E pl).T (D0_E pl).J := fun _ _ h => by cases h
def stoppedC (args : List AV) (bs : List Box) (K : AV → List Box → Prop) : Prop := ∃ d nb, args = [.ptr 1000000000 0] ∧ bs = [dkB d nb] ∧ K (.bool d.stop) [dkB d nb]
set_option maxRecDepth 200000 in
theorem stopped_ok : FnOkN Tryd.prog tab 34 stoppedC := by
  refine fn_okN (E := D0_E pl34) tab_is (D0_C _) (D0_J _) Tryd.func34 rfl rfl (by kernel_rfl) ?_
  rintro args bs K ⟨d, nb, rfl, rfl, hK⟩
  refine ⟨rfl, [], ?_⟩
  exact ⟨[], 1, rfl, hK⟩
def armC (args : List AV) (bs : List Box) (K : AV → List Box → Prop) : Prop := ∃ d nb n, args = [.ptr 1000000000 0, .int .i64 n] ∧ bs = [dkB d nb] ∧ K (.tup []) [dkB (armD d n) nb]
set_option maxRecDepth 200000 in
theorem arm_ok : FnOkN Tryd.prog tab 32 armC := by
  refine fn_okN (E := D0_E pl32) tab_is (D0_C _) (D0_J _) Tryd.func32 rfl rfl (by kernel_rfl) ?_
  rintro args bs K ⟨d, nb, n, rfl, rfl, hK⟩
  refine ⟨rfl, [], ?_⟩
  have e : (if n > 0 then n else 0) = max 0 n := by omega
  unfold armD at hK
  rw [← e] at hK
  exact ⟨[], 1, rfl, hK⟩
def ofDC (args : List AV) (bs : List Box) (K : AV → List Box → Prop) : Prop := ∃ r nb, 2000000000 ≤ nb ∧ args = [.int .i64 r] ∧ bs = [] ∧ K (.ptr 1000000000 0) [dkB (newD r) nb]
set_option maxRecDepth 200000 in
theorem ofD_ok : FnOkN Tryd.prog tab 11 ofDC := by
  refine fn_okN (E := D0_E pl11) tab_is (D0_C _) (D0_J _) Tryd.func11 rfl rfl (by kernel_rfl) ?_
  rintro args bs K ⟨r, nb, hnb, rfl, rfl, hK⟩
  refine ⟨rfl, [], ?_⟩
  have e : (if (if 262144 < r then 262144 else r) > 0 then (if 262144 < r then 262144 else r) else 0) = max 0 (min r 262144) := by split <;> split <;> omega
  unfold newD at hK
  rw [← e] at hK
  refine ⟨[.cls 8 3 ⟨70, 73, 5, [], if (if 262144 < r then 262144 else r) > 0 then (if 262144 < r then 262144 else r) else 0, -1, false, nb⟩ [] [], .move 8 1000000000], ?_⟩
  refine ⟨rfl, _, rfl, trivial, by kernel_rfl, hnb, ?_⟩
  exact ⟨1, rfl, hK⟩
/-! ### works: on a disk that is shut, and on one that is open -/
def worksC (args : List AV) (bs : List Box) (K : AV → List Box → Prop) : Prop := args = [.ptr 1000000000 0] ∧ ∃ d : Dk, (-1 ≤ d.left ∧ d.left < 9223372036854775808) ∧
  ((∃ nb, bs = [dkB d nb] ∧ K (.bool d.wk) [dkB (worksD d) nb]) ∨
   ∃ m rest, rest.length ≤ 4 ∧ bs = .cells 70 [.mp m, .int .i64 d.room, .int .i64 d.left, .bool d.stop] :: rest ∧ K (.bool d.wk) (.cells 70 [.mp m, .int .i64 d.room, .int .i64 d.lf, .bool d.st] :: rest))
theorem len4 {α : Type} {l : List α} (h : l.length ≤ 4) : l = [] ∨ (∃ a, l = [a]) ∨ (∃ a b, l = [a, b]) ∨ (∃ a b c, l = [a, b, c]) ∨ ∃ a b c d, l = [a, b, c, d] := by
  match l, h with
  | [], _ => exact .inl rfl
  | [a], _ => exact .inr (.inl ⟨a, rfl⟩)
  | [a, b], _ => exact .inr (.inr (.inl ⟨a, b, rfl⟩))
  | [a, b, c], _ => exact .inr (.inr (.inr (.inl ⟨a, b, c, rfl⟩)))
  | [a, b, c, d], _ => exact .inr (.inr (.inr (.inr ⟨a, b, c, d, rfl⟩)))
  | a :: b :: c :: d :: e :: l, h => simp at h
set_option maxRecDepth 200000 in
theorem works_ok : FnOkN Tryd.prog tab 36 worksC := by
  refine fn_okN (E := D0_E pl36) tab_is (D0_C _) (D0_J _) Tryd.func36 rfl rfl (by kernel_rfl) ?_
  rintro args bs K ⟨rfl, d, ⟨hl0, hl1⟩, ⟨nb, rfl, hK⟩ | ⟨m, rest, hr, rfl, hK⟩⟩
  · have fin : ∀ (l : Int) (q : Bool), l = d.lf → q = d.st → K (.bool !q) [.obj ⟨70, 73, 5, d.fs, d.room, l, q, nb⟩]
      := fun l q e1 e2 => by subst e1 e2; exact hK
    refine ⟨rfl, [], ?_⟩
    refine ⟨fun h0 => ?_, fun h0 => ?_⟩
    · have h0 : d.left = 0 := by simpa using h0
      refine ⟨fun h1 => ?_, fun h1 => ?_⟩
      · have h1 : d.left > 0 := by simpa using h1
        omega
      · exact ⟨[], 1, rfl, fin _ _ (by simp [Dk.lf, h0]) (by simp [Dk.st, h0])⟩
    · have h0 : ¬ d.left = 0 := by simpa using h0
      refine ⟨fun h1 => ?_, fun h1 => ?_⟩
      · have h1 : d.left > 0 := by simpa using h1
        exact ⟨[], 1, rfl, fin _ _ (by show IntKind.i64.wrap (d.left - 1) = _; rw [wrap_of (by omega) (by omega)]; simp [Dk.lf, h1]) (by simp [Dk.st, h0])⟩
      · have h1 : ¬ d.left > 0 := by simpa using h1
        exact ⟨[], 1, rfl, fin _ _ (by simp [Dk.lf]; omega) (by simp [Dk.st, h0])⟩
  · rcases len4 hr with rfl | ⟨a, rfl⟩ | ⟨a, b, rfl⟩ | ⟨a, b, c, rfl⟩ | ⟨a, b, c, e, rfl⟩
    · have fin : ∀ (l : Int) (q : Bool), l = d.lf → q = d.st → K (.bool !q) [.cells 70 [.mp m, .int .i64 d.room, .int .i64 l, .bool q]]
        := fun l q e1 e2 => by subst e1 e2; exact hK
      refine ⟨rfl, [], ?_⟩
      refine ⟨fun h0 => ?_, fun h0 => ?_⟩
      · have h0 : d.left = 0 := by simpa using h0
        refine ⟨fun h1 => ?_, fun h1 => ?_⟩
        · have h1 : d.left > 0 := by simpa using h1
          omega
        · exact ⟨[], 1, rfl, fin _ _ (by simp [Dk.lf, h0]) (by simp [Dk.st, h0])⟩
      · have h0 : ¬ d.left = 0 := by simpa using h0
        refine ⟨fun h1 => ?_, fun h1 => ?_⟩
        · have h1 : d.left > 0 := by simpa using h1
          exact ⟨[], 1, rfl, fin _ _ (by show IntKind.i64.wrap (d.left - 1) = _; rw [wrap_of (by omega) (by omega)]; simp [Dk.lf, h1]) (by simp [Dk.st, h0])⟩
        · have h1 : ¬ d.left > 0 := by simpa using h1
          exact ⟨[], 1, rfl, fin _ _ (by simp [Dk.lf]; omega) (by simp [Dk.st, h0])⟩
    · have fin : ∀ (l : Int) (q : Bool), l = d.lf → q = d.st → K (.bool !q) [.cells 70 [.mp m, .int .i64 d.room, .int .i64 l, .bool q], a]
        := fun l q e1 e2 => by subst e1 e2; exact hK
      refine ⟨rfl, [], ?_⟩
      refine ⟨fun h0 => ?_, fun h0 => ?_⟩
      · have h0 : d.left = 0 := by simpa using h0
        refine ⟨fun h1 => ?_, fun h1 => ?_⟩
        · have h1 : d.left > 0 := by simpa using h1
          omega
        · exact ⟨[], 2, rfl, fin _ _ (by simp [Dk.lf, h0]) (by simp [Dk.st, h0])⟩
      · have h0 : ¬ d.left = 0 := by simpa using h0
        refine ⟨fun h1 => ?_, fun h1 => ?_⟩
        · have h1 : d.left > 0 := by simpa using h1
          exact ⟨[], 2, rfl, fin _ _ (by show IntKind.i64.wrap (d.left - 1) = _; rw [wrap_of (by omega) (by omega)]; simp [Dk.lf, h1]) (by simp [Dk.st, h0])⟩
        · have h1 : ¬ d.left > 0 := by simpa using h1
          exact ⟨[], 2, rfl, fin _ _ (by simp [Dk.lf]; omega) (by simp [Dk.st, h0])⟩
    · have fin : ∀ (l : Int) (q : Bool), l = d.lf → q = d.st → K (.bool !q) [.cells 70 [.mp m, .int .i64 d.room, .int .i64 l, .bool q], a, b]
        := fun l q e1 e2 => by subst e1 e2; exact hK
      refine ⟨rfl, [], ?_⟩
      refine ⟨fun h0 => ?_, fun h0 => ?_⟩
      · have h0 : d.left = 0 := by simpa using h0
        refine ⟨fun h1 => ?_, fun h1 => ?_⟩
        · have h1 : d.left > 0 := by simpa using h1
          omega
        · exact ⟨[], 3, rfl, fin _ _ (by simp [Dk.lf, h0]) (by simp [Dk.st, h0])⟩
      · have h0 : ¬ d.left = 0 := by simpa using h0
        refine ⟨fun h1 => ?_, fun h1 => ?_⟩
        · have h1 : d.left > 0 := by simpa using h1
          exact ⟨[], 3, rfl, fin _ _ (by show IntKind.i64.wrap (d.left - 1) = _; rw [wrap_of (by omega) (by omega)]; simp [Dk.lf, h1]) (by simp [Dk.st, h0])⟩
        · have h1 : ¬ d.left > 0 := by simpa using h1
          exact ⟨[], 3, rfl, fin _ _ (by simp [Dk.lf]; omega) (by simp [Dk.st, h0])⟩
    · have fin : ∀ (l : Int) (q : Bool), l = d.lf → q = d.st → K (.bool !q) [.cells 70 [.mp m, .int .i64 d.room, .int .i64 l, .bool q], a, b, c]
        := fun l q e1 e2 => by subst e1 e2; exact hK
      refine ⟨rfl, [], ?_⟩
      refine ⟨fun h0 => ?_, fun h0 => ?_⟩
      · have h0 : d.left = 0 := by simpa using h0
        refine ⟨fun h1 => ?_, fun h1 => ?_⟩
        · have h1 : d.left > 0 := by simpa using h1
          omega
        · exact ⟨[], 4, rfl, fin _ _ (by simp [Dk.lf, h0]) (by simp [Dk.st, h0])⟩
      · have h0 : ¬ d.left = 0 := by simpa using h0
        refine ⟨fun h1 => ?_, fun h1 => ?_⟩
        · have h1 : d.left > 0 := by simpa using h1
          exact ⟨[], 4, rfl, fin _ _ (by show IntKind.i64.wrap (d.left - 1) = _; rw [wrap_of (by omega) (by omega)]; simp [Dk.lf, h1]) (by simp [Dk.st, h0])⟩
        · have h1 : ¬ d.left > 0 := by simpa using h1
          exact ⟨[], 4, rfl, fin _ _ (by simp [Dk.lf]; omega) (by simp [Dk.st, h0])⟩
    · have fin : ∀ (l : Int) (q : Bool), l = d.lf → q = d.st → K (.bool !q) [.cells 70 [.mp m, .int .i64 d.room, .int .i64 l, .bool q], a, b, c, e]
        := fun l q e1 e2 => by subst e1 e2; exact hK
      refine ⟨rfl, [], ?_⟩
      refine ⟨fun h0 => ?_, fun h0 => ?_⟩
      · have h0 : d.left = 0 := by simpa using h0
        refine ⟨fun h1 => ?_, fun h1 => ?_⟩
        · have h1 : d.left > 0 := by simpa using h1
          omega
        · exact ⟨[], 5, rfl, fin _ _ (by simp [Dk.lf, h0]) (by simp [Dk.st, h0])⟩
      · have h0 : ¬ d.left = 0 := by simpa using h0
        refine ⟨fun h1 => ?_, fun h1 => ?_⟩
        · have h1 : d.left > 0 := by simpa using h1
          exact ⟨[], 5, rfl, fin _ _ (by show IntKind.i64.wrap (d.left - 1) = _; rw [wrap_of (by omega) (by omega)]; simp [Dk.lf, h1]) (by simp [Dk.st, h0])⟩
        · have h1 : ¬ d.left > 0 := by simpa using h1
          exact ⟨[], 5, rfl, fin _ _ (by simp [Dk.lf]; omega) (by simp [Dk.st, h0])⟩
end Go.Proofs.YtbpcofnhndgoeaaDoor.A
