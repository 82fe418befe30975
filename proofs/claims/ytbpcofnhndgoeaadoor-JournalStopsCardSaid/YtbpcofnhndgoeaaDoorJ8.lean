/- sort.Ints of up to three numbers; a disk's names. -/
import Derived.Test.YtbpcofnhndgoeaaDoorGI
import Derived.Test.YtbpcofnhndgoeaaDoorJ3
namespace Go.Proofs.YtbpcofnhndgoeaaDoor.A
open Go Q
def less1C (args : List AV) (bs : List Box) (K : AV → List Box → Prop) : Prop := bs = [] ∧ ∃ n, args = [.int .i64 n] ∧ K (.bool false) []
set_option maxRecDepth 200000 in
theorem isNaN_ok : FnOk Tryd.prog tab 75 less1C := by
  refine fn_ok (E := D0_E pl75) tab_is (D0_C _) (D0_J _) Tryd.func75 rfl rfl (by kernel_rfl) ?_
  rintro args bs K ⟨rfl, n, rfl, hK⟩
  refine ⟨rfl, ?_⟩
  have fin : ∀ b, b = false → K (.bool b) [] := fun b e => e ▸ hK
  exact fin (n != n) (by simp)
def RLs : Contract
  | 75 => less1C
  | _ => fun _ _ _ => False
theorem RLs_ok : CallOk Tryd.prog tab RLs := by
  intro f args bs K h
  unfold RLs at h
  split at h
  · exact ⟨_, h, isNaN_ok⟩
  · exact h.elim
def RLs_E (pl : Nat → Plan) : En := ⟨tab, RLs, fun _ => none, 0, pl⟩
theorem RLs_J (pl : Nat → Plan) : JOk Tryd.prog (RLs_E pl).T (RLs_E pl).J := fun _ _ h => by cases h
def lessC (args : List AV) (bs : List Box) (K : AV → List Box → Prop) : Prop := bs = [] ∧ ∃ a b, args = [.int .i64 a, .int .i64 b] ∧ K (.bool (decide (a < b))) []
set_option maxRecDepth 200000 in
theorem less_ok : FnOk Tryd.prog tab 65 lessC := by
  refine fn_ok (E := RLs_E pl65) tab_is RLs_ok (RLs_J _) Tryd.func65 rfl rfl (by kernel_rfl) ?_
  rintro args bs K ⟨rfl, a, b, rfl, hK⟩
  refine ⟨rfl, ?_⟩
  refine ⟨rfl, a, rfl, ?_⟩
  repeat' first
    | (exact hK)
    | (refine ⟨rfl, b, rfl, ?_⟩)
    | (refine ⟨fun _ => ?_, fun h => Bool.noConfusion (show true = false from h)⟩)
    | (refine ⟨fun h => Bool.noConfusion (show false = true from h), fun _ => ?_⟩)
    | (refine And.intro ?_ ?_)
def lenC (args : List AV) (bs : List Box) (K : AV → List Box → Prop) : Prop := bs = [] ∧ ∃ n, args = [.int .u64 n] ∧ 0 ≤ n ∧ n < 4 ∧ ∀ v, K (.int .i64 v) []
set_option maxRecDepth 200000 in
theorem len64_ok : FnOk Tryd.prog tab 69 lenC := by
  refine fn_ok (E := D0_E pl69) tab_is (D0_C _) (D0_J _) Tryd.func69 rfl rfl (by kernel_rfl) ?_
  rintro args bs K ⟨rfl, n, rfl, h0, h1, hK⟩
  refine ⟨rfl, ?_⟩
  refine ⟨fun h => absurd (of_decide_eq_true h) (by omega), fun _ => ?_⟩
  refine ⟨fun h => absurd (of_decide_eq_true h) (by omega), fun _ => ?_⟩
  refine ⟨fun h => absurd (of_decide_eq_true h) (by omega), fun _ => ?_⟩
  obtain rfl | rfl | rfl | rfl : n = 0 ∨ n = 1 ∨ n = 2 ∨ n = 3 := by omega
  · exact ⟨0, 0, by decide, rfl, hK _⟩
  · exact ⟨1, 1, by decide, rfl, hK _⟩
  · exact ⟨2, 2, by decide, rfl, hK _⟩
  · exact ⟨3, 2, by decide, rfl, hK _⟩
def RLn : Contract
  | 69 => lenC
  | _ => fun _ _ _ => False
theorem RLn_ok : CallOk Tryd.prog tab RLn := by
  intro f args bs K h
  unfold RLn at h
  split at h
  · exact ⟨_, h, len64_ok⟩
  · exact h.elim
def RLn_E (pl : Nat → Plan) : En := ⟨tab, RLn, fun _ => none, 0, pl⟩
theorem RLn_J (pl : Nat → Plan) : JOk Tryd.prog (RLn_E pl).T (RLn_E pl).J := fun _ _ h => by cases h
set_option maxRecDepth 200000 in
theorem len_ok : FnOk Tryd.prog tab 58 lenC := by
  refine fn_ok (E := RLn_E pl58) tab_is RLn_ok (RLn_J _) Tryd.func58 rfl rfl (by kernel_rfl) ?_
  rintro args bs K ⟨rfl, n, rfl, h0, h1, hK⟩
  refine ⟨rfl, ?_⟩
  refine ⟨fun h => Bool.noConfusion (show false = true from h), fun _ => ?_⟩
  exact ⟨rfl, n, rfl, h0, h1, hK⟩
/-! ### sorted in place -/
abbrev intS (g : Tag) (l : List Int) : AV := .sl g 3 (l.map (AV.int .i64))
def insC (args : List AV) (K : AV → List AV → Prop) : Prop := (∃ l : List Int, 1 ≤ l.length ∧ l.length ≤ 3 ∧ args = [intS (.own 0) l, .int .i64 0, .int .i64 (l.length : Int)] ∧ ∀ l', l'.Perm l → K (.tup []) [intS (.own 0) l', .int .i64 0, .int .i64 (l.length : Int)]) ∨
  ∃ e, args = [.sl .nl e [], .int .i64 0, .int .i64 0] ∧ K (.tup []) [.sl .nl e [], .int .i64 0, .int .i64 0]
def RLe : Contract
  | 65 => lessC
  | _ => fun _ _ _ => False
theorem RLe_ok : CallOk Tryd.prog tab RLe := by
  intro f args bs K h
  unfold RLe at h
  split at h
  · exact ⟨_, h, less_ok⟩
  · exact h.elim
def RLe_E (pl : Nat → Plan) : En := ⟨tab, RLe, fun _ => none, 0, pl⟩
theorem RLe_J (pl : Nat → Plan) : JOk Tryd.prog (RLe_E pl).T (RLe_E pl).J := fun _ _ h => by cases h
def plIns : Nat → Plan
  | 6 => (.take 0 (.take 1 (.take 2 (.take 3 (.take 4 (.take 5 (.take 6 (.take 7 (.take 8 (.take 10 (.take 11 (.take 12 (.alt 9 (.last 13 (.take 14 (.last 15 (.take 16 (.last 17 .done))))) (.last 13 (.last 9 (.take 14 (.last 15 (.take 16 (.last 17 .done)))))))))))))))))))
  | k => pl59 k
theorem perm3 {a b c : Int} : [a, b, c].Perm [a, b, c] ∧ [a, c, b].Perm [a, b, c] ∧ [b, a, c].Perm [a, b, c] ∧ [b, c, a].Perm [a, b, c] ∧ [c, a, b].Perm [a, b, c] ∧ [c, b, a].Perm [a, b, c] := by
  refine ⟨.refl _, .cons _ (.swap ..), .swap .., ?_, ?_, ?_⟩
  · exact (List.Perm.cons b (List.Perm.swap a c [])).trans (.swap ..)
  · exact (List.Perm.swap a c [b]).trans (.cons _ (.swap ..))
  · exact ((List.Perm.swap b c [a]).trans (List.Perm.cons b (List.Perm.swap a c []))).trans (.swap ..)
set_option maxRecDepth 200000 in
set_option maxHeartbeats 16000000 in
theorem ins_ok : FnOkI Tryd.prog tab 59 insC := by
  refine fn_okI (E := RLe_E plIns) tab_is RLe_ok (RLe_J _) Tryd.func59 rfl rfl (by kernel_rfl) ?_
  rintro args K (⟨l, hl0, hl, rfl, hK⟩ | ⟨e, rfl, hK⟩)
  · refine ⟨rfl, ?_⟩
    rcases len3 hl with rfl | ⟨a, rfl⟩ | ⟨a, b, rfl⟩ | ⟨a, b, c, rfl⟩
    · simp at hl0
    · repeat' first
        | (exact hK [a] (.refl _))
        | (refine loopR 5 (roundsR_succ ?_))
        | (refine roundsR_succ ?_)
        | (refine ⟨_, (by decide), rfl, ?_⟩)
        | (refine ⟨rfl, _, _, rfl, ?_⟩)
        | (intro _)
        | (refine ⟨fun _ => ?_, fun h => Bool.noConfusion (show true = false from h)⟩)
        | (refine ⟨fun h => Bool.noConfusion (show false = true from h), fun _ => ?_⟩)
        | (refine And.intro ?_ ?_)
    · repeat' first
        | (exact hK [a, b] (.refl _))
        | (exact hK [b, a] (.swap ..))
        | (refine loopR 5 (roundsR_succ ?_))
        | (refine roundsR_succ ?_)
        | (refine ⟨_, (by decide), rfl, ?_⟩)
        | (refine ⟨rfl, _, _, rfl, ?_⟩)
        | (intro _)
        | (refine ⟨fun _ => ?_, fun h => Bool.noConfusion (show true = false from h)⟩)
        | (refine ⟨fun h => Bool.noConfusion (show false = true from h), fun _ => ?_⟩)
        | (refine And.intro ?_ ?_)
    · repeat' first
        | (exact hK [a, b, c] perm3.1)
        | (exact hK [a, c, b] perm3.2.1)
        | (exact hK [b, a, c] perm3.2.2.1)
        | (exact hK [b, c, a] perm3.2.2.2.1)
        | (exact hK [c, a, b] perm3.2.2.2.2.1)
        | (exact hK [c, b, a] perm3.2.2.2.2.2)
        | (refine loopR 5 (roundsR_succ ?_))
        | (refine roundsR_succ ?_)
        | (refine ⟨_, (by decide), rfl, ?_⟩)
        | (refine ⟨rfl, _, _, rfl, ?_⟩)
        | (intro _)
        | (refine ⟨fun _ => ?_, fun h => Bool.noConfusion (show true = false from h)⟩)
        | (refine ⟨fun h => Bool.noConfusion (show false = true from h), fun _ => ?_⟩)
        | (refine And.intro ?_ ?_)
  · refine ⟨rfl, ?_⟩
    repeat' first
      | (exact hK)
      | (refine loopR 5 (roundsR_succ ?_))
      | (refine roundsR_succ ?_)
      | (intro _)
      | (refine ⟨fun _ => ?_, fun h => Bool.noConfusion (show true = false from h)⟩)
      | (refine ⟨fun h => Bool.noConfusion (show false = true from h), fun _ => ?_⟩)
      | (refine And.intro ?_ ?_)
end Go.Proofs.YtbpcofnhndgoeaaDoor.A
