/- Seat 13: DueTime's and DueNext's walks. -/
import Derived.Test.YtgikhdaildaonaaC5
import Derived.Test.YtgikhdaildaonaaP4
namespace Go.Proofs.Ytgikhdaildaonaa.A
open Go P
def i8r (n : Int) : Prop := -128 ≤ n ∧ n < 128
def dueTimeC (args : List AV) (bs : List Box) (K : AV → List Box → Prop) : Prop := bs = [] ∧ ∃ (qs : List Paid) (a b : Int), args = [.sl .fz 31 (qs.map paidA), .int .i8 a, .int .i8 b] ∧ (∀ q ∈ qs, Paid.Ok q) ∧ i8r a ∧ i8r b ∧ K (.bool true) []
theorem iA_take (l : List Int) (n : Nat) : (iA l).take n = iA (l.take n) := by simp [iA]
set_option maxRecDepth 20000 in
theorem dueTime_ok : FnOk Try.prog tab 8 dueTimeC := by
  refine fn_ok (E := F5 0 pl8) tab_is R5_ok (F5_J _ _) Try.func8 rfl rfl (by kernel_rfl) ?_
  rintro args bs K ⟨rfl, qs, a, b, rfl, hq, ha, hb, hK⟩
  refine ⟨rfl, ?_⟩
  have l1 := paysOf_len qs
  have hle : IntKind.i64.wrap (if b < a then b else a) ≤ IntKind.i64.wrap (if b > a then b else a) := by
    unfold i8r at ha hb
    rw [wrap_of, wrap_of] <;> split <;> (try split) <;> omega
  have g := by_le (paysOf qs) hle
  have q1 := by_len (paysOf qs) (IntKind.i64.wrap (if b < a then b else a))
  have q2 := by_len (paysOf qs) (IntKind.i64.wrap (if b > a then b else a))
  refine ⟨rfl, rfl, ?_⟩
  refine ⟨fun h => (by cases h), fun _ => ?_⟩
  refine ⟨rfl, qs, rfl, hq, ?_⟩
  refine ⟨[.sl .fz 34 ((paysOf qs).map payA), .int .i64 (IntKind.i64.wrap (if b < a then b else a))], ⟨.inl rfl, .inl rfl, trivial⟩, rfl, paysOf qs, _, rfl, by omega, ?_⟩
  refine ⟨[.sl .fz 34 ((paysOf qs).map payA), .int .i64 (IntKind.i64.wrap (if b > a then b else a))], ⟨.inl rfl, .inl rfl, trivial⟩, rfl, paysOf qs, _, rfl, by omega, ?_⟩
  have n1 : (iA ((by' (paysOf qs) (IntKind.i64.wrap (if b < a then b else a))).map (·.2))).length = (by' (paysOf qs) (IntKind.i64.wrap (if b < a then b else a))).length := by simp [iA]
  have n2 : (iA ((by' (paysOf qs) (IntKind.i64.wrap (if b > a then b else a))).map (·.2))).length = (by' (paysOf qs) (IntKind.i64.wrap (if b > a then b else a))).length := by simp [iA]
  constructor
  · intro _
    have c0 : 0 ≤ (((iA ((by' (paysOf qs) (IntKind.i64.wrap (if b < a then b else a))).map (·.2))).length : Nat) : Int) := Int.natCast_nonneg _
    have c1 : ((((iA ((by' (paysOf qs) (IntKind.i64.wrap (if b < a then b else a))).map (·.2))).length : Nat) : Int)).toNat ≤ (iA ((by' (paysOf qs) (IntKind.i64.wrap (if b > a then b else a))).map (·.2))).length := by
      rw [n1, n2]; exact g.1
    have c2 : AV.sl .fz 3 (iA ((by' (paysOf qs) (IntKind.i64.wrap (if b < a then b else a))).map (·.2))) = AV.sl .fz 3 (((iA ((by' (paysOf qs) (IntKind.i64.wrap (if b > a then b else a))).map (·.2))).take ((((iA ((by' (paysOf qs) (IntKind.i64.wrap (if b < a then b else a))).map (·.2))).length : Nat) : Int)).toNat).drop 0) := by
      rw [n1, List.drop_zero, iA_take, ← List.map_take, Int.toNat_natCast, g.2]
    refine ⟨c0, Nat.zero_le _, c1, ?_⟩
    refine ⟨[.sl .fz 3 (iA ((by' (paysOf qs) (IntKind.i64.wrap (if b < a then b else a))).map (·.2))), .sl .fz 3 (iA ((by' (paysOf qs) (IntKind.i64.wrap (if b < a then b else a))).map (·.2)))], ⟨.inl rfl, .inl c2, trivial⟩, rfl, (by' (paysOf qs) (IntKind.i64.wrap (if b < a then b else a))).map (·.2), (by' (paysOf qs) (IntKind.i64.wrap (if b < a then b else a))).map (·.2), rfl, by rw [List.length_map]; omega, by rw [List.length_map]; omega, ?_⟩
    have e : decide ((by' (paysOf qs) (IntKind.i64.wrap (if b < a then b else a))).map (·.2) = (by' (paysOf qs) (IntKind.i64.wrap (if b < a then b else a))).map (·.2)) = true := by simp
    rw [← e] at hK
    exact hK
  · intro h
    exfalso
    have : ¬ (((iA ((by' (paysOf qs) (IntKind.i64.wrap (if b < a then b else a))).map (·.2))).length : Nat) : Int) ≤ (((iA ((by' (paysOf qs) (IntKind.i64.wrap (if b > a then b else a))).map (·.2))).length : Nat) : Int) := by simpa using h
    rw [n1, n2] at this
    have := g.1
    omega
def dueNextC (args : List AV) (bs : List Box) (K : AV → List Box → Prop) : Prop := bs = [] ∧ ∃ (qs : List Paid), args = [.sl .fz 31 (qs.map paidA)] ∧ (∀ q ∈ qs, Paid.Ok q) ∧ K (.bool true) []
theorem pay_u {qs : List Paid} {i : Nat} {p : Pay} (hq : ∀ q ∈ qs, Paid.Ok q) (h : (paysOf qs)[i]? = some p) : 0 ≤ p.u ∧ p.u < 20 := by
  unfold paysOf at h
  rw [List.getElem?_map] at h
  cases hx : (qs.take 300)[i]? with
  | none => rw [hx] at h; cases h
  | some q =>
    rw [hx] at h
    cases h
    have := (hq q (List.mem_of_mem_take (List.mem_of_getElem? hx))).u
    show 0 ≤ w64 (q.u.tmod 20) ∧ w64 (q.u.tmod 20) < 20
    have b := tmod_bd (a := q.u) (b := 20) (by omega) (by omega)
    unfold w64
    rw [wrap_of] <;> omega
set_option maxRecDepth 20000 in
theorem dueNext_ok : FnOk Try.prog tab 7 dueNextC := by
  refine fn_ok (E := F5 0 pl7) tab_is R5_ok (F5_J _ _) Try.func7 rfl rfl (by kernel_rfl) ?_
  rintro args bs K ⟨rfl, qs, rfl, hq, hK⟩
  refine ⟨rfl, ?_⟩
  have l1 := paysOf_len qs
  refine ⟨rfl, rfl, ?_⟩
  refine ⟨fun h => (by cases h), fun _ => ?_⟩
  refine ⟨rfl, qs, rfl, hq, ?_⟩
  refine ⟨[.sl .fz 34 ((paysOf qs).map payA)], ⟨.inl rfl, trivial⟩, rfl, paysOf qs, rfl, by omega, ?_⟩
  cases hl : L (paysOf qs) with
  | nil =>
    refine ⟨[.sl .fz 34 ((paysOf qs).map payA)], ⟨.inl rfl, trivial⟩, rfl, paysOf qs, rfl, by omega, ?_⟩
    rw [places_eq, hl]
    refine ⟨fun _ => ?_, fun h => by cases h⟩
    refine ⟨fun _ => ?_, fun h => by cases h⟩
    refine ⟨fun _ => ?_, fun h => by cases h⟩
    refine ⟨[.sl .fz 34 ((paysOf qs).map payA), .int .i64 1099511627776], ⟨.inl rfl, .inl rfl, trivial⟩, rfl, paysOf qs, _, rfl, by omega, ?_⟩
    rw [by_nil hl]
    exact hK
  | cons x xs =>
    refine ⟨[.sl .fz 34 ((paysOf qs).map payA)], ⟨.inl rfl, trivial⟩, rfl, paysOf qs, rfl, by omega, ?_⟩
    obtain ⟨i, p, h1, h2, h3, h4⟩ := L_mem (hl ▸ List.mem_cons_self .. : x ∈ L (paysOf qs))
    have hu := pay_u hq h2
    rw [places_eq, hl]
    constructor
    · intro h
      exfalso
      have : (((x :: xs).map fun p : P2 => AV.int .i64 p.2).length : Int) = 0 := by simpa [iA] using h
      simp at this; omega
    · intro _
      have hx0 : 0 ≤ x.2 := by rw [h1]; omega
      have hx : ((paysOf qs).map payA)[x.2.toNat]? = some (payA p) := by rw [h1]; exact payA_of h2
      refine ⟨fun _ => ?_, fun h => by cases h⟩
      refine ⟨_, Int.le_refl 0, rfl, _, hx0, hx, ?_⟩
      constructor
      · intro _
        have hw : IntKind.i64.wrap (x.1 - 1) < x.1 := by
          rw [wrap_of] <;> omega
        refine ⟨[.sl .fz 34 ((paysOf qs).map payA), .int .i64 (IntKind.i64.wrap (x.1 - 1))], ⟨.inl rfl, .inl rfl, trivial⟩, rfl, paysOf qs, _, rfl, by omega, ?_⟩
        rw [by_less hl hw]
        refine ⟨fun _ => ?_, fun h => by cases h⟩
        refine ⟨[.sl .fz 34 ((paysOf qs).map payA), .int .i64 x.1], ⟨.inl rfl, .inl rfl, trivial⟩, rfl, paysOf qs, _, rfl, by omega, ?_⟩
        have e : decide ((((iA ((by' (paysOf qs) x.1).map (·.2))).length : Nat) : Int) > 0) = true := by
          have := by_more hl
          rw [iA_len, List.length_map, decide_eq_true_iff]
          omega
        rw [← e] at hK
        exact hK
      · intro h
        exfalso
        have : ¬ x.1 = p.u := by simpa using h
        exact this h3.symm
end Go.Proofs.Ytgikhdaildaonaa.A
