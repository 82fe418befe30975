/- hawalalaw04.Few. -/
import Derived.Test.YtbpcofnhndgoeaaDoorJ7a
import Derived.Test.YtbpcofnhndgoeaaDoorJ9
namespace Go.Proofs.YtbpcofnhndgoeaaDoor.A
open Go Q
abbrev bss (g : Tag) (l : List (List Int)) : AV := .sl g 22 (l.map by8)
def fewM (rs : List (List Int)) : List (List Int) := (rs.take 12).map (·.take 500)
def bsO (F : Nat) : List (List Int) → AV
  | [] => .sl .nl 0 []
  | l => bss (.own F) l
theorem bsO_cons {F : Nat} {l : List (List Int)} (h : l ≠ []) : bsO F l = bss (.own F) l := by
  cases l with
  | nil => exact absurd rfl h
  | cons => rfl
theorem take500 (r : List Int) : r.take (if (500 : Int) < (((r.map (AV.int .u8)).length : Nat) : Int) then (500 : Int) else (((r.map (AV.int .u8)).length : Nat) : Int)).toNat = r.take 500 := by
  rw [List.length_map]
  split
  · rfl
  · rw [Int.toNat_natCast, List.take_length, List.take_of_length_le (by omega)]
theorem few_snoc {rs : List (List Int)} {i : Nat} {r : List Int} (h : rs[i]? = some r) (hi : i < 12) : fewM (rs.take i) ++ [r.take 500] = fewM (rs.take (i + 1)) := by
  have hl := (List.getElem?_eq_some_iff.1 h).1
  unfold fewM
  rw [List.take_take, List.take_take, Nat.min_eq_right (by omega), Nat.min_eq_right (by omega)]
  have : rs.take (i + 1) = rs.take i ++ [r] := by
    rw [List.take_add_one, h]; rfl
  rw [this, List.map_append]
  rfl
theorem few_more {rs : List (List Int)} {i : Nat} (hi : 12 ≤ i) : fewM (rs.take i) = fewM (rs.take (i + 1)) := by
  unfold fewM
  rw [List.take_take, List.take_take, Nat.min_eq_left (by omega), Nat.min_eq_left (by omega)]
theorem few_len (rs : List (List Int)) : (fewM rs).length ≤ 12 := by unfold fewM; rw [List.length_map, List.length_take]; omega
theorem few_each {rs : List (List Int)} : ∀ r ∈ fewM rs, r.length ≤ 500 := by
  intro r hr
  obtain ⟨q, _, rfl⟩ := List.mem_map.1 hr
  rw [List.length_take]; omega
def fewC (args : List AV) (bs : List Box) (K : Kon) : Prop := bs = [] ∧ ∃ rs : List (List Int), args = [bss .fz rs] ∧ rs.length ≤ 4611686018427387904 ∧ ((fewM rs = [] → K (.sl .nl 0 []) []) ∧ (fewM rs ≠ [] → K (bss (.own 22000) (fewM rs)) []))
set_option maxRecDepth 200000 in
set_option maxHeartbeats 6400000 in
theorem few_ok : FnOk Tryd.prog tab 28 fewC := by
  refine fn_ok (E := D0_E pl28) tab_is (D0_C _) (D0_J _) Tryd.func28 rfl rfl (by kernel_rfl) ?_
  rintro args bs K ⟨rfl, rs, rfl, hl, hK0, hK⟩
  refine ⟨rfl, ?_⟩
  refine ⟨fun mm st => ∃ (i : Nat), (i ≤ rs.length) ∧ rs.length - i = mm ∧ st.t 3 = bsO 22000 (fewM (rs.take i)) ∧ st.t 6 = bss .fz rs ∧ st.t 7 = .int .i64 ((rs.map by8).length : Nat) ∧ st.t 8 = .int .i64 (i : Int),
    ⟨_, 0, Nat.zero_le _, rfl, rfl, rfl, rfl, rfl⟩, ?_⟩
  rintro _ ⟨t1, h1⟩ ⟨i, hi, rfl, e3, e6, e7, e8⟩
  have e3 : t1 3 = bsO 22000 (fewM (rs.take i)) := e3
  have e6 : t1 6 = bss .fz rs := e6
  have e7 : t1 7 = .int .i64 ((rs.map by8).length : Nat) := e7
  have e8 : t1 8 = .int .i64 (i : Int) := e8
  rw [← updL_has t1 [(3, bsO 22000 (fewM (rs.take i))), (6, bss .fz rs), (7, .int .i64 ((rs.map by8).length : Nat)), (8, .int .i64 (i : Int))] ⟨e3, e6, e7, e8, trivial⟩]
  have hnew : ∀ (r : List Int) (l : List (List Int)), AV.sl (.own 22000) 22 (l.map by8 ++ [AV.sl .fz 5 (((r.map (AV.int .u8)).take (if (500 : Int) < (((r.map (AV.int .u8)).length : Nat) : Int) then (500 : Int) else (((r.map (AV.int .u8)).length : Nat) : Int)).toNat).drop 0)]) = bss (.own 22000) (l ++ [r.take 500]) := fun r l => by
    rw [← cut8, take500]
    simp
  have hlen := few_len (rs.take i)
  have e : i = rs.length → fewM (rs.take i) = fewM rs := fun h => by rw [h, List.take_length]
  cases hq : fewM (rs.take i) with
  | nil =>
    rw [hq] at e
    constructor
    · intro hb
      have hi' : i < rs.length := by
        have : (i : Int) < ((rs.map by8).length : Nat) := by simpa using hb
        simp at this; omega
      have w : IntKind.i64.wrap ((i : Int) + 1) = ((i + 1 : Nat) : Int) := by rw [wrap_of] <;> omega
      have hlt : rs.length - (i + 1) < rs.length - i := by omega
      obtain ⟨r, hx⟩ : ∃ x, rs[i]? = some x := ⟨_, List.getElem?_eq_getElem hi'⟩
      skip
      refine ⟨_, Int.natCast_nonneg i, map_of hx, ?_⟩
      obtain ⟨h, hhe, hh1, hh2, hh3⟩ := min500 r
      rw [hhe] at hh1 hh2
      refine ⟨fun hc => ?_, fun hc => ?_⟩
      · have hc : (i : Int) < 12 := of_decide_eq_true hc
        refine ⟨hh3, Nat.zero_le _, hh2, ?_⟩
        refine ⟨(by decide : 1 * 24 ≤ 140737488355328), ?_⟩
        exact ⟨_, hlt, i + 1, (by omega), rfl, (by rw [← few_snoc hx (by omega), hq]; exact hnew r []), rfl, rfl, congrArg (AV.int .i64) w⟩
      · have hc : ¬ (i : Int) < 12 := of_decide_eq_false hc
        exact ⟨_, hlt, i + 1, (by omega), rfl, (by rw [← few_more (by omega), hq]; rfl), rfl, rfl, congrArg (AV.int .i64) w⟩
    · intro hb
      have hi' : i = rs.length := by
        have : ¬ (i : Int) < ((rs.map by8).length : Nat) := by simpa using hb
        simp at this; omega
      subst hi'
      exact hK0 (e rfl).symm
  | cons a l =>
    rw [hq] at e hlen
    constructor
    · intro hb
      have hi' : i < rs.length := by
        have : (i : Int) < ((rs.map by8).length : Nat) := by simpa using hb
        simp at this; omega
      have w : IntKind.i64.wrap ((i : Int) + 1) = ((i + 1 : Nat) : Int) := by rw [wrap_of] <;> omega
      have hlt : rs.length - (i + 1) < rs.length - i := by omega
      obtain ⟨r, hx⟩ : ∃ x, rs[i]? = some x := ⟨_, List.getElem?_eq_getElem hi'⟩
      skip
      refine ⟨_, Int.natCast_nonneg i, map_of hx, ?_⟩
      obtain ⟨h, hhe, hh1, hh2, hh3⟩ := min500 r
      rw [hhe] at hh1 hh2
      refine ⟨fun hc => ?_, fun hc => ?_⟩
      · have hc : (i : Int) < 12 := of_decide_eq_true hc
        refine ⟨hh3, Nat.zero_le _, hh2, ?_⟩
        refine ⟨(show (((a :: l).map by8).length + 1) * 24 ≤ 140737488355328 by rw [List.length_map]; omega), ?_⟩
        exact ⟨_, hlt, i + 1, (by omega), rfl, (by rw [← few_snoc hx (by omega), hq]; exact hnew r (a :: l)), rfl, rfl, congrArg (AV.int .i64) w⟩
      · have hc : ¬ (i : Int) < 12 := of_decide_eq_false hc
        exact ⟨_, hlt, i + 1, (by omega), rfl, (by rw [← few_more (by omega), hq]; rfl), rfl, rfl, congrArg (AV.int .i64) w⟩
    · intro hb
      have hi' : i = rs.length := by
        have : ¬ (i : Int) < ((rs.map by8).length : Nat) := by simpa using hb
        simp at this; omega
      subst hi'
      have := hK (by rw [← e rfl]; simp)
      rw [← e rfl] at this
      exact this
/-! ### DiskSafe -/
def catM (l : List (List Int)) : List Int := l.flatten
/-- The disk behind k rounds: file 3 has what was appended; round p made it safe. -/
def safeD (L : List (List Int)) (p k : Nat) : Dk := match k with
  | 0 => ⟨[], 262144, -1, false⟩
  | k + 1 => ⟨[(3, catM (L.take (k + 1)), if p ≤ k then ((catM (L.take (p + 1))).length : Int) else 0)], 262144, -1, false⟩
theorem cat_len {L : List (List Int)} (hL : ∀ r ∈ L, r.length ≤ 500) : ∀ k, (catM (L.take k)).length ≤ 500 * k := by
  intro k
  induction k with
  | zero => simp [catM]
  | succ k ih =>
    rw [List.take_add_one]
    unfold catM at ih ⊢
    rw [List.flatten_append, List.length_append]
    cases hq : L[k]? with
    | none => show (List.flatten (L.take k)).length + 0 ≤ _; omega
    | some r =>
      have := hL r (List.mem_of_getElem? hq)
      rw [show (Option.toList (some r)).flatten = r by simp]; omega
theorem cat_snoc {L : List (List Int)} {k : Nat} {r : List Int} (h : L[k]? = some r) : catM (L.take (k + 1)) = catM (L.take k) ++ r := by
  rw [List.take_add_one, h]; simp [catM]
theorem cat_le {L : List (List Int)} {p k : Nat} (h : p ≤ k) : (catM (L.take p)).length ≤ (catM (L.take k)).length := by
  have : L.take k = L.take p ++ (L.drop p).take (k - p) := by
    rw [← List.take_append_drop p (L.take k), List.take_take, Nat.min_eq_left h, List.drop_take]
  rw [this]; simp [catM]
theorem safeD_ok {L : List (List Int)} (hL : ∀ r ∈ L, r.length ≤ 500) (p k : Nat) (hk : k ≤ 12) : DOk (safeD L p k) := by
  cases k with
  | zero => exact dok0 (by decide) (by decide)
  | succ k =>
    have := cat_len hL (k + 1)
    refine dok1 (by decide) (by decide) (by omega) ?_
    split
    · have := cat_le (L := L) (show p + 1 ≤ k + 1 by omega); omega
    · omega
theorem safeD_app {L : List (List Int)} (hL : ∀ r ∈ L, r.length ≤ 500) {p k : Nat} (hk : k < 12) {r : List Int} (h : L[k]? = some r) : appendD (safeD L p k) 3 r = (0, ⟨[(3, catM (L.take (k + 1)), if p + 1 ≤ k then ((catM (L.take (p + 1))).length : Int) else 0)], 262144, -1, false⟩) := by
  have hr := hL r (List.mem_of_getElem? h)
  rw [cat_snoc h]
  cases k with
  | zero =>
    rw [if_neg (by omega)]
    simp only [safeD]
    rw [app0 (by omega)]
    simp [catM]
  | succ k =>
    have := cat_len hL (k + 1)
    simp only [safeD]
    rw [app2 (by omega)]
    congr 5
    simp [Nat.succ_le_succ_iff]
theorem safeD_syn {L : List (List Int)} {p : Nat} : syncD ⟨[(3, catM (L.take (p + 1)), if p + 1 ≤ p then ((catM (L.take (p + 1))).length : Int) else 0)], 262144, -1, false⟩ 3 = (0, safeD L p (p + 1)) := by
  rw [syn1]
  simp [safeD]
theorem safeD_no {L : List (List Int)} {p k : Nat} (h : k ≠ p) : (⟨[(3, catM (L.take (k + 1)), if p + 1 ≤ k then ((catM (L.take (p + 1))).length : Int) else 0)], 262144, -1, false⟩ : Dk) = safeD L p (k + 1) := by
  simp only [safeD]
  have : (p + 1 ≤ k) = (p ≤ k) := propext ⟨fun h => by omega, fun h => by omega⟩
  simp [this]
end Go.Proofs.YtbpcofnhndgoeaaDoor.A
