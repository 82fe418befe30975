/- Journals: Turn, Broken, Base, Records. -/
import Derived.Test.YtbpcofnhndgoeaaDoorJR0
namespace Go.Proofs.YtbpcofnhndgoeaaDoor.A
open Go Q
def turnC (args : List AV) (bs : List Box) (K : Kon) : Prop := ∃ m d nb, args = [.ptr 1000000000 0] ∧ bs = [jB m, dkB d nb] ∧ K (.int .i64 m.turn) [jB m, dkB d nb]
def brokenC (args : List AV) (bs : List Box) (K : Kon) : Prop := ∃ m d nb, args = [.ptr 1000000000 0] ∧ bs = [jB m, dkB d nb] ∧ K (.bool m.broken) [jB m, dkB d nb]
def baseC (args : List AV) (bs : List Box) (K : Kon) : Prop := ∃ m d nb, args = [.ptr 1000000000 0] ∧ bs = [jB m, dkB d nb] ∧ m.base.length ≤ 100000000000000 ∧ K (by8 m.base) [jB m, dkB d nb]
set_option maxRecDepth 200000 in
theorem turn_ok : FnOkN Tryd.prog tab 41 turnC := by
  refine fn_okN (E := D0_E pl41) tab_is (D0_C _) (D0_J _) Tryd.func41 rfl rfl (by kernel_rfl) ?_
  rintro args bs K ⟨⟨turn, base, recs, broken⟩, d, nb, rfl, rfl, hK⟩
  refine ⟨rfl, [], ?_⟩
  exact ⟨[], 2, rfl, hK⟩
set_option maxRecDepth 200000 in
theorem broken_ok : FnOkN Tryd.prog tab 31 brokenC := by
  refine fn_okN (E := D0_E pl31) tab_is (D0_C _) (D0_J _) Tryd.func31 rfl rfl (by kernel_rfl) ?_
  rintro args bs K ⟨⟨turn, base, recs, broken⟩, d, nb, rfl, rfl, hK⟩
  refine ⟨rfl, [], ?_⟩
  exact ⟨[], 2, rfl, hK⟩
set_option maxRecDepth 200000 in
theorem base_ok : FnOkN Tryd.prog tab 39 baseC := by
  refine fn_okN (E := D0_E pl39) tab_is (D0_C _) (D0_J _) Tryd.func39 rfl rfl (by kernel_rfl) ?_
  rintro args bs K ⟨⟨turn, base, recs, broken⟩, d, nb, rfl, rfl, hb, hK⟩
  refine ⟨rfl, [], ?_⟩
  have hb : base.length ≤ 100000000000000 := hb
  refine ⟨(show (base.map (AV.int .u8)).length * 1 ≤ 140737488355328 by rw [List.length_map]; omega), ?_⟩
  exact ⟨[.frz 7000], 2, rfl, hK⟩
theorem bsO_snoc' {g : Nat} {l : List (List Int)} {r : List Int} : bsO g (l ++ [r]) = AV.sl (.own g) 22 (l.map by8 ++ [by8 r]) := by
  rw [bsO_cons (by simp), bss, List.map_append]; rfl
def recsC (args : List AV) (bs : List Box) (K : Kon) : Prop := ∃ m d nb, args = [.ptr 1000000000 0] ∧ bs = [jB m, dkB d nb] ∧ m.recs.length ≤ 1000000000000 ∧ (∀ r ∈ m.recs, r.length ≤ 1000000000000) ∧ K (bss .fz m.recs) [jB m, dkB d nb]
set_option maxRecDepth 200000 in
set_option maxHeartbeats 3200000 in
theorem recs_ok : FnOkN Tryd.prog tab 40 recsC := by
  refine fn_okN (E := D0_E pl40) tab_is (D0_C _) (D0_J _) Tryd.func40 rfl rfl (by kernel_rfl) ?_
  rintro args bs K ⟨⟨turn, base, recs, broken⟩, d, nb, rfl, rfl, hrl, hrs, hK⟩
  refine ⟨rfl, [], ?_⟩
  refine ⟨fun mm st => ∃ (i : Nat), (i ≤ recs.length) ∧ recs.length - i = mm ∧ st.t 3 = bsO 19000 (recs.take i) ∧ st.t 9 = bss (.own 900000000) recs ∧ st.t 10 = .int .i64 ((recs.map by8).length : Nat) ∧ st.t 11 = .int .i64 (i : Int) ∧ st.h 1000000000 = some (jB ⟨turn, base, recs, broken⟩) ∧ st.h 1000000001 = some (dkB d nb),
    ⟨_, 0, Nat.zero_le _, rfl, rfl, rfl, rfl, rfl, rfl, rfl⟩, ?_⟩
  rintro _ ⟨t1, h1⟩ ⟨i, hi, rfl, e3, e9, e10, e11, b1000000000, b1000000001⟩
  have e3 : t1 3 = bsO 19000 (recs.take i) := e3
  have e9 : t1 9 = bss (.own 900000000) recs := e9
  have e10 : t1 10 = .int .i64 ((recs.map by8).length : Nat) := e10
  have e11 : t1 11 = .int .i64 (i : Int) := e11
  have b1000000000 : h1 1000000000 = some (jB ⟨turn, base, recs, broken⟩) := b1000000000
  have b1000000001 : h1 1000000001 = some (dkB d nb) := b1000000001
  rw [← updL_has t1 [(3, bsO 19000 (recs.take i)), (9, bss (.own 900000000) recs), (10, .int .i64 ((recs.map by8).length : Nat)), (11, .int .i64 (i : Int))] ⟨e3, e9, e10, e11, trivial⟩, ← updL_has h1 [(1000000000, some (jB ⟨turn, base, recs, broken⟩)), (1000000001, some (dkB d nb))] ⟨b1000000000, b1000000001, trivial⟩]
  have hrl : recs.length ≤ 1000000000000 := hrl
  have hrs : ∀ r ∈ recs, r.length ≤ 1000000000000 := hrs
  constructor
  · intro hb
    have hi' : i < recs.length := by
      have : (i : Int) < ((recs.map by8).length : Nat) := by simpa using hb
      simp at this; omega
    have w : IntKind.i64.wrap ((i : Int) + 1) = ((i + 1 : Nat) : Int) := by rw [wrap_of] <;> omega
    have hlt : recs.length - (i + 1) < recs.length - i := by omega
    obtain ⟨r, hx⟩ : ∃ x, recs[i]? = some x := ⟨_, List.getElem?_eq_getElem hi'⟩
    have hm := List.mem_of_getElem? hx
    have hr := hrs r hm
    refine ⟨_, Int.natCast_nonneg i, map_of hx, ?_⟩
    have hs : recs.take (i + 1) = recs.take i ++ [r] := by rw [List.take_add_one, hx]; rfl
    have htl : (recs.take i).length ≤ i := List.length_take_le ..
    have hb1 : (r.map (AV.int .u8)).length * 1 ≤ 140737488355328 := by rw [List.length_map]; omega
    cases hq : recs.take i with
    | nil =>
      refine ⟨hb1, ?_⟩
      refine ⟨(by decide : 1 * 24 ≤ 140737488355328), ?_⟩
      exact ⟨_, hlt, i + 1, hi', rfl, (by rw [hs, hq]; rfl), rfl, rfl, congrArg (AV.int .i64) w, rfl, rfl⟩
    | cons a l =>
      rw [hq] at htl
      refine ⟨hb1, ?_⟩
      refine ⟨(show (((a :: l).map by8).length + 1) * 24 ≤ 140737488355328 by rw [List.length_map]; omega), ?_⟩
      exact ⟨_, hlt, i + 1, hi', rfl, (by rw [hs, hq]; exact (bsO_snoc' (g := 19000) (l := a :: l) (r := r)).symm), rfl, rfl, congrArg (AV.int .i64) w, rfl, rfl⟩
  · intro hb
    have hi' : i = recs.length := by
      have : ¬ (i : Int) < ((recs.map by8).length : Nat) := by simpa using hb
      simp at this; omega
    subst hi'
    have hq0 : recs.take recs.length = recs := List.take_length
    rw [hq0]
    cases recs with
    | nil => exact ⟨[.empT 2 .fz 22], 2, rfl, hK⟩
    | cons a l => exact ⟨[.frz 19000], 2, rfl, hK⟩
end Go.Proofs.YtbpcofnhndgoeaaDoor.A
