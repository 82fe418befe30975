/- Journals: a plain one; fail, put. -/
import Derived.Test.YtbpcofnhndgoeaaDoorJ6
import Derived.Test.YtbpcofnhndgoeaaDoorJ12
namespace Go.Proofs.YtbpcofnhndgoeaaDoor.A
open Go Q
/-- A journal: its disk is told apart. -/
structure Jn where
  turn : Int
  base : List Int
  recs : List (List Int)
  broken : Bool
/-- A journal's box; the disk is the box behind it; what is own is its records (nil counts as none). -/
abbrev jBg (g : Nat) (m : Jn) : Box := .cells 82 [.ptr 1000000001 0, .int .i64 m.turn, by8 m.base, bss (.own g) m.recs, .bool m.broken]
abbrev jB (m : Jn) : Box := jBg 900000000 m
def failJ (m : Jn) (e : Int) : Jn := if e = 12 then ⟨m.turn, m.base, m.recs, true⟩ else m
def failC (args : List AV) (bs : List Box) (K : Kon) : Prop := ∃ m d nb e v m', failJ m e = m' ∧ erA e = v ∧ args = [.ptr 1000000000 0, v] ∧ bs = [jB m, dkB d nb] ∧ K v [jB m', dkB d nb]
theorem erA_0 : erA 0 = .nilifc := rfl
theorem erA_n {e : Int} (h : e ≠ 0) : erA e = .ifc 34 (.int .i64 e) := if_neg h
set_option maxRecDepth 200000 in
theorem fail_ok : FnOkN Tryd.prog tab 47 failC := by
  refine fn_okN (E := D0_E pl47) tab_is (D0_C _) (D0_J _) Tryd.func47 rfl rfl (by kernel_rfl) ?_
  rintro args bs K ⟨⟨turn, base, recs, broken⟩, d, nb, e, v, m', hm, hv, rfl, rfl, hK⟩
  refine ⟨rfl, [], ?_⟩
  by_cases h0 : e = 0
  · subst h0
    obtain rfl : v = .nilifc := hv.symm
    rw [failJ, if_neg (by decide)] at hm
    subst hm
    refine ⟨fun h => Bool.noConfusion (show false = true from h), fun _ => ?_⟩
    exact ⟨[], 2, rfl, hK⟩
  · obtain rfl : v = .ifc 34 (.int .i64 e) := by rw [← hv, erA_n h0]
    refine ⟨fun h => ?_, fun h => ?_⟩
    · have h : e = 12 := eq_of_beq (show (e == 12) = true from h)
      rw [failJ, if_pos h] at hm
      subst hm
      exact ⟨[], 2, rfl, hK⟩
    · have h : ¬ e = 12 := beq_eq_false_iff_ne.1 (show (e == 12) = false from h)
      rw [failJ, if_neg h] at hm
      subst hm
      exact ⟨[], 2, rfl, hK⟩
end Go.Proofs.YtbpcofnhndgoeaaDoor.A
