/- varint: All, walked. -/
import Derived.Test.YtbpcofnhndgoeaaDoorW0
namespace Go.Proofs.YtbpcofnhndgoeaaDoor.A
open Go Q
def JP : FuncId → Option StSpec
  | 43 => some (giveJ putC .u8 5 500)
  | _ => none
theorem JP_ok : JOk Tryd.prog tab JP := by
  intro f j h
  unfold JP at h
  split at h
  · cases h; exact give_ok put_ok _ _ _
  · cases h
def JP_E (pl : Nat → Plan) : En := ⟨tab, RW, JP, 0, pl⟩
theorem allB_len : ∀ ns : List Int, (allB ns).length ≤ 10 * ns.length
  | [] => Nat.le_refl _
  | n :: ns => by
    have := allB_len ns
    have := putI_len n
    unfold allB at *
    rw [List.flatMap_cons, List.length_append, List.length_cons]
    omega
theorem allB_next {ns : List Int} {i : Nat} {n : Int} (h : ns[i]? = some n) : allB (ns.take (i + 1)) = allB (ns.take i) ++ putI n := by
  unfold allB
  rw [List.take_add_one, h, List.flatMap_append]
  simp
def allC0 (args : List AV) (bs : List Box) (K : AV → List Box → Prop) : Prop := bs = [] ∧ ∃ ns : List Int, args = [nums .i64 3 .fz ns] ∧ ns ≠ [] ∧ ns.length ≤ 1000000000000 ∧ (∀ n ∈ ns, i64 n) ∧ K (u8A (.own 500) (allB ns)) []
set_option maxRecDepth 200000 in
set_option maxHeartbeats 1600000 in
theorem all_ok : FnOk Tryd.prog tab 23 allC0 := by
  refine fn_ok (E := JP_E pl23) tab_is RW_ok JP_ok Tryd.func23 rfl rfl (by kernel_rfl) ?_
  rintro args bs K ⟨rfl, ns, rfl, hne, hl, hI, hK⟩
  refine ⟨rfl, ?_⟩
  refine ⟨fun m s => ∃ i : Nat, i ≤ ns.length ∧ ns.length - i = m ∧ s.t 6 = nums .i64 3 .fz ns ∧ s.t 7 = .int .i64 ((ns.map (AV.int .i64)).length : Nat) ∧ s.t 8 = .int .i64 (i : Nat) ∧ ((i = 0 ∧ s.t 3 = .sl .nl 0 []) ∨ (0 < i ∧ s.t 3 = u8A (.own 500) (allB (ns.take i)))),
    ⟨_, 0, Nat.zero_le _, rfl, rfl, rfl, rfl, .inl ⟨rfl, rfl⟩⟩, ?_⟩
  rintro _ ⟨t1, h1⟩ ⟨i, hi, rfl, e6, e7, e8, e3⟩
  have e6 : t1 6 = nums .i64 3 .fz ns := e6
  have e7 : t1 7 = .int .i64 ((ns.map (AV.int .i64)).length : Nat) := e7
  have e8 : t1 8 = .int .i64 (i : Nat) := e8
  rcases e3 with ⟨h0, e3⟩ | ⟨h0, e3⟩
  · have e3 : t1 3 = .sl .nl 0 [] := e3
    subst h0
    rw [← updL_has t1 [(6, nums .i64 3 .fz ns), (7, .int .i64 ((ns.map (AV.int .i64)).length : Nat)), (8, .int .i64 ((0 : Nat) : Int)), (3, .sl .nl 0 [])] ⟨e6, e7, e8, e3, trivial⟩]
    have hpos : 0 < ns.length := List.length_pos_iff.2 hne
    obtain ⟨n, hn⟩ : ∃ n, ns[0]? = some n := ⟨_, List.getElem?_eq_getElem hpos⟩
    have hst := allB_next hn
    constructor
    · intro _
      refine ⟨_, Int.le_refl 0, (by rw [List.getElem?_map]; exact congrArg _ hn), ?_⟩
      refine ⟨_, _, rfl, ⟨⟨_, _, rfl⟩, trivial⟩, .inr ⟨_, rfl, rfl, [], n, by simp, hI n (List.mem_of_getElem? hn), .inr ⟨rfl, _, rfl⟩, fun G => ⟨G, _, rfl, ?_⟩⟩⟩
      exact ⟨_, (by omega : ns.length - 1 < ns.length - 0), 1, hpos, rfl, rfl, rfl, rfl, .inr ⟨by decide, congrArg (u8A (.own 500)) hst.symm⟩⟩
    · intro hb
      have : ¬ ((0 : Nat) : Int) < ((ns.map (AV.int .i64)).length : Nat) := by simpa using hb
      exact absurd (by simpa using this) hne
  · have e3 : t1 3 = u8A (.own 500) (allB (ns.take i)) := e3
    rw [← updL_has t1 [(6, nums .i64 3 .fz ns), (7, .int .i64 ((ns.map (AV.int .i64)).length : Nat)), (8, .int .i64 (i : Nat)), (3, u8A (.own 500) (allB (ns.take i)))] ⟨e6, e7, e8, e3, trivial⟩]
    constructor
    · intro hb
      have hi' : i < ns.length := by
        have : (i : Int) < ((ns.map (AV.int .i64)).length : Nat) := by simpa using hb
        simp at this; omega
      have w : IntKind.i64.wrap ((i : Int) + 1) = ((i + 1 : Nat) : Int) := by rw [wrap_of] <;> omega
      obtain ⟨n, hn⟩ : ∃ n, ns[i]? = some n := ⟨_, List.getElem?_eq_getElem hi'⟩
      have hst := allB_next hn
      have hbl := allB_len (ns.take i)
      rw [List.length_take] at hbl
      refine ⟨_, Int.natCast_nonneg i, (by rw [List.getElem?_map]; exact congrArg _ hn), ?_⟩
      refine ⟨_, _, rfl, ⟨⟨_, _, rfl⟩, trivial⟩, .inl ⟨_, _, rfl, rfl, _, n, by omega, hI n (List.mem_of_getElem? hn), .inl rfl, fun G => ⟨G, _, rfl, ?_⟩⟩⟩
      exact ⟨_, (by omega : ns.length - (i + 1) < ns.length - i), i + 1, hi', rfl, rfl, rfl, congrArg (AV.int .i64) w, .inr ⟨by omega, congrArg (u8A (.own 500)) hst.symm⟩⟩
    · intro hb
      have hi' : i = ns.length := by
        have : ¬ (i : Int) < ((ns.map (AV.int .i64)).length : Nat) := by simpa using hb
        simp at this; omega
      subst hi'
      rw [List.take_length]
      exact hK
end Go.Proofs.YtbpcofnhndgoeaaDoor.A
