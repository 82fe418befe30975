/- Seat 13: DueBy's and DueMore's walks. -/
import Derived.Test.YtgikhdaildaonaaC6
namespace Go.Proofs.Ytgikhdaildaonaa.A
open Go P
theorem outs_nil {F : Nat} {l : List P2} : NilA (outsA F l) (.sl .fz 3 (iA (l.map (·.2)))) ∨ ∃ x xs, l = x :: xs := by
  cases l with
  | nil => exact .inl (.inr ⟨_, _, rfl, rfl⟩)
  | cons x xs => exact .inr ⟨x, xs, rfl⟩
def dueByC (args : List AV) (bs : List Box) (K : AV → List Box → Prop) : Prop := bs = [] ∧ ∃ (qs : List Paid) (n : Int), args = [.sl .fz 31 (qs.map paidA), .int .i8 n] ∧ (∀ q ∈ qs, Paid.Ok q) ∧ i8r n ∧ K (.bool true) []
theorem filter_step {l : List P2} {i : Nat} (h : i < l.length) (f : P2 → Bool) : (l.take (i + 1)).filter f = (l.take i).filter f ++ (if f l[i] then [l[i]] else []) := by
  rw [List.take_succ_eq_append_getElem h, List.filter_append]
  congr 1
  simp only [List.filter_cons, List.filter_nil]
set_option maxRecDepth 200000 in
theorem dueBy_ok : FnOk Try.prog tab 6 dueByC := by
  refine fn_ok (E := F5 0 pl6) tab_is R5_ok (F5_J _ _) Try.func6 rfl rfl (by kernel_rfl) ?_
  rintro args bs K ⟨rfl, qs, n, rfl, hq, hn, hK⟩
  refine ⟨rfl, ?_⟩
  have l1 := paysOf_len qs
  refine ⟨rfl, rfl, ?_⟩
  refine ⟨fun h => (by cases h), fun _ => ?_⟩
  refine ⟨rfl, qs, rfl, hq, ?_⟩
  refine ⟨[.sl .fz 34 ((paysOf qs).map payA)], ⟨.inl rfl, trivial⟩, rfl, paysOf qs, rfl, by omega, ?_⟩
  revert hK
  generalize hps : paysOf qs = ps at l1 ⊢
  intro hK
  refine ⟨fun m s => ∃ (i : Nat) (out : List P2), (i ≤ (L ps).length ∧ out = ((L ps).take i).filter (fun p => decide (p.1 ≤ IntKind.i64.wrap n))) ∧ (L ps).length - i = m ∧ s.t 5 = .sl .fz 34 (ps.map payA) ∧ s.t 1 = .int .i8 n ∧ s.t 14 = .sl .fz 3 (iA (places ps)) ∧ s.t 15 = .int .i64 ((iA (places ps)).length : Nat) ∧ s.t 16 = .int .i64 i ∧ s.t 6 = outsA 31000 out,
      ⟨_, 0, [], ⟨Nat.zero_le _, rfl⟩, rfl, rfl, rfl, rfl, rfl, rfl, rfl⟩, ?_⟩
  rintro _ ⟨t1, h1⟩ ⟨i, out, ⟨hi, hO⟩, rfl, e5, e1, e14, e15, e16, e6⟩
  have e5 : t1 5 = .sl .fz 34 (ps.map payA) := e5
  have e1 : t1 1 = .int .i8 n := e1
  have e14 : t1 14 = .sl .fz 3 (iA (places ps)) := e14
  have e15 : t1 15 = .int .i64 ((iA (places ps)).length : Nat) := e15
  have e16 : t1 16 = .int .i64 i := e16
  have hpl : (places ps).length = (L ps).length := by rw [places_eq]; simp
  have hLl := L_len ps
  have w : IntKind.i64.wrap ((i : Int) + 1) = ((i + 1 : Nat) : Int) := by rw [wrap_of] <;> omega
  have hol : out.length ≤ ps.length := by
    rw [hO]
    refine Nat.le_trans (List.Sublist.length_le List.filter_sublist) ?_
    simp; omega
  have q1 := by_len ps (IntKind.i64.wrap n)
  have hol2 : (out.map (·.2)).length < 100000 := by rw [List.length_map]; omega
  cases out with
  | nil =>
    have e6 : t1 6 = .sl .nl 0 [] := e6
    rw [← updL_has t1 [(5, .sl .fz 34 (ps.map payA)), (1, .int .i8 n), (14, .sl .fz 3 (iA (places ps))), (15, .int .i64 ((iA (places ps)).length : Nat)), (16, .int .i64 i), (6, .sl .nl 0 [])] ⟨e5, e1, e14, e15, e16, e6, trivial⟩]
    constructor
    · intro hb
      have hi' : i < (L ps).length := by
        have : (i : Int) < ((iA (places ps)).length : Nat) := by simpa using hb
        rw [iA_len, hpl] at this; omega
      have hgi : (iA (places ps))[i]? = some (.int .i64 (L ps)[i].2) := by
        rw [iA_get (by omega)]
        simp [places_eq]
      obtain ⟨k, p, k1, k2, k3, k4⟩ := L_mem (List.getElem_mem hi')
      have hx0 : 0 ≤ (L ps)[i].2 := by rw [k1]; omega
      have hx : (ps.map payA)[(L ps)[i].2.toNat]? = some (payA p) := by rw [k1]; exact payA_of k2
      have hst := filter_step hi' (fun p => decide (p.1 ≤ IntKind.i64.wrap n))
      refine ⟨_, Int.natCast_nonneg i, hgi, _, hx0, hx, ?_⟩
      constructor
      · intro hle
        have hle : p.u ≤ IntKind.i64.wrap n := by simpa using hle
        rw [if_pos (by rw [← k3]; simpa using hle)] at hst
        refine ⟨(by decide : 1 * 8 ≤ 140737488355328), ?_⟩
        refine ⟨_, (by omega : (L ps).length - (i + 1) < (L ps).length - i), i + 1, [] ++ [(L ps)[i]], ⟨hi', ?_⟩, rfl, rfl, rfl, rfl, rfl, congrArg (AV.int .i64) w, rfl⟩
        rw [hst, ← hO]
      · intro hle
        have hle : ¬ p.u ≤ IntKind.i64.wrap n := by simpa using hle
        rw [if_neg (by rw [← k3]; simpa using hle), List.append_nil] at hst
        refine ⟨_, (by omega : (L ps).length - (i + 1) < (L ps).length - i), i + 1, [], ⟨hi', ?_⟩, rfl, rfl, rfl, rfl, rfl, congrArg (AV.int .i64) w, rfl⟩
        rw [hst, ← hO]
    · intro hb
      have hi' : i = (L ps).length := by
        have : ¬ (i : Int) < ((iA (places ps)).length : Nat) := by simpa using hb
        rw [iA_len, hpl] at this; omega
      subst hi'
      rw [List.take_length, by_filter] at hO
      refine ⟨[.sl .fz 34 (ps.map payA), .int .i64 (IntKind.i64.wrap n)], ⟨.inl rfl, .inl rfl, trivial⟩, rfl, ps, _, rfl, by omega, ?_⟩
      refine ⟨[.sl .fz 3 (iA ((by' ps (IntKind.i64.wrap n)).map (·.2))), .sl .fz 3 (iA (([] : List P2).map (·.2)))], ⟨.inl rfl, .inr ⟨_, _, rfl, rfl⟩, trivial⟩, rfl, (by' ps (IntKind.i64.wrap n)).map (·.2), ([] : List P2).map (·.2), rfl, by rw [List.length_map]; omega, hol2, ?_⟩
      have e : decide ((by' ps (IntKind.i64.wrap n)).map (·.2) = ([] : List P2).map (·.2)) = true := by rw [hO]; simp
      rw [← e] at hK
      exact hK
  | cons o os =>
    have e6 : t1 6 = .sl (.own 31000) 3 (.int .i64 o.2 :: os.map fun p => AV.int .i64 p.2) := e6
    have hnil : AV.sl .fz 3 (iA ((o :: os).map (·.2))) = .sl .fz 3 (.int .i64 o.2 :: os.map fun p => AV.int .i64 p.2) := by simp [iA]
    rw [← updL_has t1 [(5, .sl .fz 34 (ps.map payA)), (1, .int .i8 n), (14, .sl .fz 3 (iA (places ps))), (15, .int .i64 ((iA (places ps)).length : Nat)), (16, .int .i64 i), (6, .sl (.own 31000) 3 (.int .i64 o.2 :: os.map fun p => AV.int .i64 p.2))] ⟨e5, e1, e14, e15, e16, e6, trivial⟩]
    constructor
    · intro hb
      have hi' : i < (L ps).length := by
        have : (i : Int) < ((iA (places ps)).length : Nat) := by simpa using hb
        rw [iA_len, hpl] at this; omega
      have hgi : (iA (places ps))[i]? = some (.int .i64 (L ps)[i].2) := by
        rw [iA_get (by omega)]
        simp [places_eq]
      obtain ⟨k, p, k1, k2, k3, k4⟩ := L_mem (List.getElem_mem hi')
      have hx0 : 0 ≤ (L ps)[i].2 := by rw [k1]; omega
      have hx : (ps.map payA)[(L ps)[i].2.toNat]? = some (payA p) := by rw [k1]; exact payA_of k2
      have hst := filter_step hi' (fun p => decide (p.1 ≤ IntKind.i64.wrap n))
      refine ⟨_, Int.natCast_nonneg i, hgi, _, hx0, hx, ?_⟩
      constructor
      · intro hle
        have hle : p.u ≤ IntKind.i64.wrap n := by simpa using hle
        rw [if_pos (by rw [← k3]; simpa using hle)] at hst
        have hb2 : ((AV.int .i64 o.2 :: os.map fun p => AV.int .i64 p.2).length + 1) * 8 ≤ 140737488355328 := by simp at hol ⊢; omega
        have heq : AV.sl (.own 31000) 3 ((.int .i64 o.2 :: os.map fun p => AV.int .i64 p.2) ++ [.int .i64 (L ps)[i].2]) = outsA 31000 ((o :: os) ++ [(L ps)[i]]) := by simp [outsA]
        refine ⟨hb2, ?_⟩
        refine ⟨_, (by omega : (L ps).length - (i + 1) < (L ps).length - i), i + 1, (o :: os) ++ [(L ps)[i]], ⟨hi', ?_⟩, rfl, rfl, rfl, rfl, rfl, congrArg (AV.int .i64) w, heq⟩
        rw [hst, ← hO]
      · intro hle
        have hle : ¬ p.u ≤ IntKind.i64.wrap n := by simpa using hle
        rw [if_neg (by rw [← k3]; simpa using hle), List.append_nil] at hst
        refine ⟨_, (by omega : (L ps).length - (i + 1) < (L ps).length - i), i + 1, (o :: os), ⟨hi', ?_⟩, rfl, rfl, rfl, rfl, rfl, congrArg (AV.int .i64) w, rfl⟩
        rw [hst, ← hO]
    · intro hb
      have hi' : i = (L ps).length := by
        have : ¬ (i : Int) < ((iA (places ps)).length : Nat) := by simpa using hb
        rw [iA_len, hpl] at this; omega
      subst hi'
      rw [List.take_length, by_filter] at hO
      refine ⟨[.sl .fz 34 (ps.map payA), .int .i64 (IntKind.i64.wrap n)], ⟨.inl rfl, .inl rfl, trivial⟩, rfl, ps, _, rfl, by omega, ?_⟩
      refine ⟨[.sl .fz 3 (iA ((by' ps (IntKind.i64.wrap n)).map (·.2))), .sl .fz 3 (iA (((o :: os) : List P2).map (·.2)))], ⟨.inl rfl, .inl hnil, trivial⟩, rfl, (by' ps (IntKind.i64.wrap n)).map (·.2), ((o :: os) : List P2).map (·.2), rfl, by rw [List.length_map]; omega, hol2, ?_⟩
      have e : decide ((by' ps (IntKind.i64.wrap n)).map (·.2) = ((o :: os) : List P2).map (·.2)) = true := by rw [hO]; simp
      rw [← e] at hK
      exact hK
theorem e2_of {n k : Nat} {g : Int} (h : n = k + (if g = 0 then 1 else 0)) : (decide ((n : Int) > (k : Int)) == (g == 0)) = true := by
  by_cases hg : g = 0
  · subst hg; simp at h; subst h; simp; omega
  · rw [if_neg hg] at h; subst h; simp [hg]
def dueMoreC (args : List AV) (bs : List Box) (K : AV → List Box → Prop) : Prop := bs = [] ∧ ∃ (qs : List Paid) (m : Paid), args = [.sl .fz 31 (qs.map paidA), paidA m] ∧ (∀ q ∈ qs, Paid.Ok q) ∧ m.Ok ∧ K (.bool true) []
set_option maxHeartbeats 1600000 in
set_option maxRecDepth 200000 in
theorem dueMore_ok : FnOk Try.prog tab 4 dueMoreC := by
  refine fn_ok (E := F5 0 pl4) tab_is R5_ok (F5_J _ _) Try.func4 rfl rfl (by kernel_rfl) ?_
  rintro args bs K ⟨rfl, qs, m, rfl, hq, hm, hK⟩
  refine ⟨rfl, ?_⟩
  have l1 := paysOf_len qs
  refine ⟨rfl, rfl, ?_⟩
  refine ⟨fun h => (by cases h), fun _ => ?_⟩
  refine ⟨rfl, qs, rfl, hq, ?_⟩
  revert hK
  generalize hps : paysOf qs = ps at l1 ⊢
  intro hK
  obtain ⟨pm, hpm⟩ : ∃ pm, payOf m = pm := ⟨_, rfl⟩
  have bb : (ps.map payA).length * 64 ≤ 140737488355328 := by simp; omega
  have bc : ((ps.map payA).length + 1) * 64 ≤ 140737488355328 := by simp; omega
  have hy : AV.sl .fz 34 ((ps ++ [pm]).map payA) = .sl .fz 34 (ps.map payA ++ [payA (pm)]) := by simp
  have hyl : (ps ++ [pm]).length < 90000 := by simp; omega
  have hpl : (places (ps ++ [pm])).length = (L (ps ++ [pm])).length := by rw [places_eq]; simp
  have hLl := L_len (ps ++ [pm])
  have hLp := L_len ps
  have hml := more_len ps (pm)
  have hpp : (places ps).length < 100000 := by rw [places_eq, List.length_map]; omega
  constructor
  · refine ⟨bb, ?_⟩
    refine ⟨rfl, m, rfl, hm, ?_⟩
    rw [hpm]
    refine ⟨bc, ?_⟩
    refine ⟨[.sl .fz 34 ((ps ++ [pm]).map payA)], ⟨.inl hy, trivial⟩, rfl, ps ++ [pm], rfl, hyl, ?_⟩
    refine ⟨fun k (s : St) => ∃ (i : Nat) (out : List P2), (i ≤ (L (ps ++ [pm])).length ∧ out = ((L (ps ++ [pm])).take i).filter (fun p => decide (p.2 < (ps.length : Int)))) ∧ (L (ps ++ [pm])).length - i = k ∧ s.t 3 = .ptr 3 0 ∧ s.t 5 = .sl .fz 34 (ps.map payA) ∧ s.t 6 = .sl .fz 34 (ps.map payA ++ [payA (pm)]) ∧ s.t 21 = .sl .fz 3 (iA (places (ps ++ [pm]))) ∧ s.t 22 = .int .i64 ((iA (places (ps ++ [pm]))).length : Nat) ∧ s.t 23 = .int .i64 i ∧ s.t 7 = outsA 34000 out ∧ s.h 3 = some (.cells 31 [.int .u8 m.a, .int .u8 m.b, .int .u8 m.c, .int .u8 m.d, .int .u8 m.e, .int .u8 m.f, .int .u8 m.u, .bool m.h]), ⟨_, 0, [], ⟨Nat.zero_le _, rfl⟩, rfl, rfl, rfl, rfl, rfl, rfl, rfl, rfl, (by kernel_rfl)⟩, ?_⟩
    rintro _ ⟨t1, h1⟩ ⟨i, out, ⟨hi, hO⟩, rfl, e3', e5, e6, e21, e22, e23, e7, e3⟩
    have e3' : t1 3 = .ptr 3 0 := e3'
    have e5 : t1 5 = .sl .fz 34 (ps.map payA) := e5
    have e6 : t1 6 = .sl .fz 34 (ps.map payA ++ [payA (pm)]) := e6
    have e21 : t1 21 = .sl .fz 3 (iA (places (ps ++ [pm]))) := e21
    have e22 : t1 22 = .int .i64 ((iA (places (ps ++ [pm]))).length : Nat) := e22
    have e23 : t1 23 = .int .i64 i := e23
    have e3 : h1 3 = some (.cells 31 [.int .u8 m.a, .int .u8 m.b, .int .u8 m.c, .int .u8 m.d, .int .u8 m.e, .int .u8 m.f, .int .u8 m.u, .bool m.h]) := e3
    have w : IntKind.i64.wrap ((i : Int) + 1) = ((i + 1 : Nat) : Int) := by rw [wrap_of] <;> simp at hLl <;> omega
    have hol : out.length ≤ ps.length + 1 := by
      rw [hO]
      refine Nat.le_trans (List.Sublist.length_le List.filter_sublist) ?_
      simp at hLl ⊢; omega
    have hol2 : (out.map (·.2)).length < 100000 := by rw [List.length_map]; omega
    cases out with
    | nil =>
      have e7 : t1 7 = .sl .nl 0 [] := e7
      rw [← updL_has t1 [(3, .ptr 3 0), (5, .sl .fz 34 (ps.map payA)), (6, .sl .fz 34 (ps.map payA ++ [payA (pm)])), (21, .sl .fz 3 (iA (places (ps ++ [pm])))), (22, .int .i64 ((iA (places (ps ++ [pm]))).length : Nat)), (23, .int .i64 i), (7, .sl .nl 0 [])] ⟨e3', e5, e6, e21, e22, e23, e7, trivial⟩, ← updL_has h1 [(3, some (.cells 31 [.int .u8 m.a, .int .u8 m.b, .int .u8 m.c, .int .u8 m.d, .int .u8 m.e, .int .u8 m.f, .int .u8 m.u, .bool m.h]))] ⟨e3, trivial⟩]
      constructor
      · intro hb
        have hi' : i < (L (ps ++ [pm])).length := by
          have : (i : Int) < ((iA (places (ps ++ [pm]))).length : Nat) := by simpa using hb
          rw [iA_len, hpl] at this; omega
        have hgi : (iA (places (ps ++ [pm])))[i]? = some (.int .i64 (L (ps ++ [pm]))[i].2) := by
          rw [iA_get (by omega)]
          simp [places_eq]
        have hst := filter_step hi' (fun p => decide (p.2 < (ps.length : Int)))
        refine ⟨_, Int.natCast_nonneg i, hgi, ?_⟩
        constructor
        · intro hle
          have hle : (L (ps ++ [pm]))[i].2 < (ps.length : Int) := by simpa using hle
          rw [if_pos (by simpa using hle)] at hst
          refine ⟨(by decide : 1 * 8 ≤ 140737488355328), ?_⟩
          refine ⟨_, (by omega : (L (ps ++ [pm])).length - (i + 1) < (L (ps ++ [pm])).length - i), i + 1, [] ++ [(L (ps ++ [pm]))[i]], ⟨hi', ?_⟩, rfl, rfl, rfl, rfl, rfl, rfl, congrArg (AV.int .i64) w, rfl, (by kernel_rfl)⟩
          rw [hst, ← hO]
        · intro hle
          have hle : ¬ (L (ps ++ [pm]))[i].2 < (ps.length : Int) := by simpa using hle
          rw [if_neg (by simpa using hle), List.append_nil] at hst
          refine ⟨_, (by omega : (L (ps ++ [pm])).length - (i + 1) < (L (ps ++ [pm])).length - i), i + 1, [], ⟨hi', ?_⟩, rfl, rfl, rfl, rfl, rfl, rfl, congrArg (AV.int .i64) w, rfl, (by kernel_rfl)⟩
          rw [hst, ← hO]
      · intro hb
        have hi' : i = (L (ps ++ [pm])).length := by
          have : ¬ (i : Int) < ((iA (places (ps ++ [pm]))).length : Nat) := by simpa using hb
          rw [iA_len, hpl] at this; omega
        subst hi'
        rw [List.take_length, more_filter] at hO
        refine ⟨[.sl .fz 34 (ps.map payA)], ⟨.inl rfl, trivial⟩, rfl, ps, rfl, by omega, ?_⟩
        refine ⟨[.sl .fz 3 (iA (([] : List P2).map (·.2))), .sl .fz 3 (iA (places ps))], ⟨.inr ⟨_, _, rfl, rfl⟩, .inl rfl, trivial⟩, rfl, ([] : List P2).map (·.2), places ps, rfl, hol2, hpp, ?_⟩
        have e : ([] : List P2).map (·.2) = places ps := by rw [hO, places_eq]
        constructor
        · intro _
          refine ⟨[.sl .fz 34 ((ps ++ [pm]).map payA)], ⟨.inl hy, trivial⟩, rfl, ps ++ [pm], rfl, hyl, ?_⟩
          refine ⟨rfl, m, rfl, hm, ?_⟩
          rw [hpm]
          have hol3 : ([] : List P2).length = (L ps).length := by rw [hO]
          have hxs : ([] : List AV).length = (L ps).length := by rw [← hol3]; simp
          have e2 : (decide ((((iA (places (ps ++ [pm]))).length : Nat) : Int) > (([] : List AV).length : Nat)) == (pm.g == 0)) = true := by
            rw [iA_len, hpl, hxs]
            exact e2_of hml
          rw [← e2] at hK
          exact hK
        · intro h
          exfalso
          rw [e] at h
          simp at h
    | cons o os =>
      have e7 : t1 7 = .sl (.own 34000) 3 (.int .i64 o.2 :: os.map fun p => AV.int .i64 p.2) := e7
      have hnil : AV.sl .fz 3 (iA ((o :: os).map (·.2))) = .sl .fz 3 (.int .i64 o.2 :: os.map fun p => AV.int .i64 p.2) := by simp [iA]
      rw [← updL_has t1 [(3, .ptr 3 0), (5, .sl .fz 34 (ps.map payA)), (6, .sl .fz 34 (ps.map payA ++ [payA (pm)])), (21, .sl .fz 3 (iA (places (ps ++ [pm])))), (22, .int .i64 ((iA (places (ps ++ [pm]))).length : Nat)), (23, .int .i64 i), (7, .sl (.own 34000) 3 (.int .i64 o.2 :: os.map fun p => AV.int .i64 p.2))] ⟨e3', e5, e6, e21, e22, e23, e7, trivial⟩, ← updL_has h1 [(3, some (.cells 31 [.int .u8 m.a, .int .u8 m.b, .int .u8 m.c, .int .u8 m.d, .int .u8 m.e, .int .u8 m.f, .int .u8 m.u, .bool m.h]))] ⟨e3, trivial⟩]
      constructor
      · intro hb
        have hi' : i < (L (ps ++ [pm])).length := by
          have : (i : Int) < ((iA (places (ps ++ [pm]))).length : Nat) := by simpa using hb
          rw [iA_len, hpl] at this; omega
        have hgi : (iA (places (ps ++ [pm])))[i]? = some (.int .i64 (L (ps ++ [pm]))[i].2) := by
          rw [iA_get (by omega)]
          simp [places_eq]
        have hst := filter_step hi' (fun p => decide (p.2 < (ps.length : Int)))
        refine ⟨_, Int.natCast_nonneg i, hgi, ?_⟩
        constructor
        · intro hle
          have hle : (L (ps ++ [pm]))[i].2 < (ps.length : Int) := by simpa using hle
          rw [if_pos (by simpa using hle)] at hst
          have hb2 : ((AV.int .i64 o.2 :: os.map fun p => AV.int .i64 p.2).length + 1) * 8 ≤ 140737488355328 := by simp at hol ⊢; omega
          have heq : AV.sl (.own 34000) 3 ((.int .i64 o.2 :: os.map fun p => AV.int .i64 p.2) ++ [.int .i64 (L (ps ++ [pm]))[i].2]) = outsA 34000 ((o :: os) ++ [(L (ps ++ [pm]))[i]]) := by simp [outsA]
          refine ⟨hb2, ?_⟩
          refine ⟨_, (by omega : (L (ps ++ [pm])).length - (i + 1) < (L (ps ++ [pm])).length - i), i + 1, (o :: os) ++ [(L (ps ++ [pm]))[i]], ⟨hi', ?_⟩, rfl, rfl, rfl, rfl, rfl, rfl, congrArg (AV.int .i64) w, heq, (by kernel_rfl)⟩
          rw [hst, ← hO]
        · intro hle
          have hle : ¬ (L (ps ++ [pm]))[i].2 < (ps.length : Int) := by simpa using hle
          rw [if_neg (by simpa using hle), List.append_nil] at hst
          refine ⟨_, (by omega : (L (ps ++ [pm])).length - (i + 1) < (L (ps ++ [pm])).length - i), i + 1, (o :: os), ⟨hi', ?_⟩, rfl, rfl, rfl, rfl, rfl, rfl, congrArg (AV.int .i64) w, rfl, (by kernel_rfl)⟩
          rw [hst, ← hO]
      · intro hb
        have hi' : i = (L (ps ++ [pm])).length := by
          have : ¬ (i : Int) < ((iA (places (ps ++ [pm]))).length : Nat) := by simpa using hb
          rw [iA_len, hpl] at this; omega
        subst hi'
        rw [List.take_length, more_filter] at hO
        refine ⟨[.sl .fz 34 (ps.map payA)], ⟨.inl rfl, trivial⟩, rfl, ps, rfl, by omega, ?_⟩
        refine ⟨[.sl .fz 3 (iA (((o :: os) : List P2).map (·.2))), .sl .fz 3 (iA (places ps))], ⟨.inl hnil, .inl rfl, trivial⟩, rfl, ((o :: os) : List P2).map (·.2), places ps, rfl, hol2, hpp, ?_⟩
        have e : ((o :: os) : List P2).map (·.2) = places ps := by rw [hO, places_eq]
        constructor
        · intro _
          refine ⟨[.sl .fz 34 ((ps ++ [pm]).map payA)], ⟨.inl hy, trivial⟩, rfl, ps ++ [pm], rfl, hyl, ?_⟩
          refine ⟨rfl, m, rfl, hm, ?_⟩
          rw [hpm]
          have hol3 : ((o :: os) : List P2).length = (L ps).length := by rw [hO]
          have hxs : (AV.int .i64 o.2 :: os.map fun p => AV.int .i64 p.2).length = (L ps).length := by rw [← hol3]; simp
          have e2 : (decide ((((iA (places (ps ++ [pm]))).length : Nat) : Int) > ((AV.int .i64 o.2 :: os.map fun p => AV.int .i64 p.2).length : Nat)) == (pm.g == 0)) = true := by
            rw [iA_len, hpl, hxs]
            exact e2_of hml
          rw [← e2] at hK
          exact hK
        · intro h
          exfalso
          rw [e] at h
          simp at h
  · refine ⟨bb, ?_⟩
    refine ⟨rfl, m, rfl, hm, ?_⟩
    rw [hpm]
    refine ⟨bc, ?_⟩
    refine ⟨[.sl .fz 34 ((ps ++ [pm]).map payA)], ⟨.inl hy, trivial⟩, rfl, ps ++ [pm], rfl, hyl, ?_⟩
    refine ⟨fun k (s : St) => ∃ (i : Nat) (out : List P2), (i ≤ (L (ps ++ [pm])).length ∧ out = ((L (ps ++ [pm])).take i).filter (fun p => decide (p.2 < (ps.length : Int)))) ∧ (L (ps ++ [pm])).length - i = k ∧ s.t 3 = .ptr 3 0 ∧ s.t 5 = .sl .fz 34 (ps.map payA) ∧ s.t 6 = .sl .fz 34 (ps.map payA ++ [payA (pm)]) ∧ s.t 21 = .sl .fz 3 (iA (places (ps ++ [pm]))) ∧ s.t 22 = .int .i64 ((iA (places (ps ++ [pm]))).length : Nat) ∧ s.t 23 = .int .i64 i ∧ s.t 7 = outsA 34000 out ∧ s.h 3 = some (.cells 31 [.int .u8 m.a, .int .u8 m.b, .int .u8 m.c, .int .u8 m.d, .int .u8 m.e, .int .u8 m.f, .int .u8 m.u, .bool m.h]), ⟨_, 0, [], ⟨Nat.zero_le _, rfl⟩, rfl, rfl, rfl, rfl, rfl, rfl, rfl, rfl, (by kernel_rfl)⟩, ?_⟩
    rintro _ ⟨t1, h1⟩ ⟨i, out, ⟨hi, hO⟩, rfl, e3', e5, e6, e21, e22, e23, e7, e3⟩
    have e3' : t1 3 = .ptr 3 0 := e3'
    have e5 : t1 5 = .sl .fz 34 (ps.map payA) := e5
    have e6 : t1 6 = .sl .fz 34 (ps.map payA ++ [payA (pm)]) := e6
    have e21 : t1 21 = .sl .fz 3 (iA (places (ps ++ [pm]))) := e21
    have e22 : t1 22 = .int .i64 ((iA (places (ps ++ [pm]))).length : Nat) := e22
    have e23 : t1 23 = .int .i64 i := e23
    have e3 : h1 3 = some (.cells 31 [.int .u8 m.a, .int .u8 m.b, .int .u8 m.c, .int .u8 m.d, .int .u8 m.e, .int .u8 m.f, .int .u8 m.u, .bool m.h]) := e3
    have w : IntKind.i64.wrap ((i : Int) + 1) = ((i + 1 : Nat) : Int) := by rw [wrap_of] <;> simp at hLl <;> omega
    have hol : out.length ≤ ps.length + 1 := by
      rw [hO]
      refine Nat.le_trans (List.Sublist.length_le List.filter_sublist) ?_
      simp at hLl ⊢; omega
    have hol2 : (out.map (·.2)).length < 100000 := by rw [List.length_map]; omega
    cases out with
    | nil =>
      have e7 : t1 7 = .sl .nl 0 [] := e7
      rw [← updL_has t1 [(3, .ptr 3 0), (5, .sl .fz 34 (ps.map payA)), (6, .sl .fz 34 (ps.map payA ++ [payA (pm)])), (21, .sl .fz 3 (iA (places (ps ++ [pm])))), (22, .int .i64 ((iA (places (ps ++ [pm]))).length : Nat)), (23, .int .i64 i), (7, .sl .nl 0 [])] ⟨e3', e5, e6, e21, e22, e23, e7, trivial⟩, ← updL_has h1 [(3, some (.cells 31 [.int .u8 m.a, .int .u8 m.b, .int .u8 m.c, .int .u8 m.d, .int .u8 m.e, .int .u8 m.f, .int .u8 m.u, .bool m.h]))] ⟨e3, trivial⟩]
      constructor
      · intro hb
        have hi' : i < (L (ps ++ [pm])).length := by
          have : (i : Int) < ((iA (places (ps ++ [pm]))).length : Nat) := by simpa using hb
          rw [iA_len, hpl] at this; omega
        have hgi : (iA (places (ps ++ [pm])))[i]? = some (.int .i64 (L (ps ++ [pm]))[i].2) := by
          rw [iA_get (by omega)]
          simp [places_eq]
        have hst := filter_step hi' (fun p => decide (p.2 < (ps.length : Int)))
        refine ⟨_, Int.natCast_nonneg i, hgi, ?_⟩
        constructor
        · intro hle
          have hle : (L (ps ++ [pm]))[i].2 < (ps.length : Int) := by simpa using hle
          rw [if_pos (by simpa using hle)] at hst
          refine ⟨(by decide : 1 * 8 ≤ 140737488355328), ?_⟩
          refine ⟨_, (by omega : (L (ps ++ [pm])).length - (i + 1) < (L (ps ++ [pm])).length - i), i + 1, [] ++ [(L (ps ++ [pm]))[i]], ⟨hi', ?_⟩, rfl, rfl, rfl, rfl, rfl, rfl, congrArg (AV.int .i64) w, rfl, (by kernel_rfl)⟩
          rw [hst, ← hO]
        · intro hle
          have hle : ¬ (L (ps ++ [pm]))[i].2 < (ps.length : Int) := by simpa using hle
          rw [if_neg (by simpa using hle), List.append_nil] at hst
          refine ⟨_, (by omega : (L (ps ++ [pm])).length - (i + 1) < (L (ps ++ [pm])).length - i), i + 1, [], ⟨hi', ?_⟩, rfl, rfl, rfl, rfl, rfl, rfl, congrArg (AV.int .i64) w, rfl, (by kernel_rfl)⟩
          rw [hst, ← hO]
      · intro hb
        have hi' : i = (L (ps ++ [pm])).length := by
          have : ¬ (i : Int) < ((iA (places (ps ++ [pm]))).length : Nat) := by simpa using hb
          rw [iA_len, hpl] at this; omega
        subst hi'
        rw [List.take_length, more_filter] at hO
        refine ⟨[.sl .fz 34 (ps.map payA)], ⟨.inl rfl, trivial⟩, rfl, ps, rfl, by omega, ?_⟩
        refine ⟨[.sl .fz 3 (iA (([] : List P2).map (·.2))), .sl .fz 3 (iA (places ps))], ⟨.inr ⟨_, _, rfl, rfl⟩, .inl rfl, trivial⟩, rfl, ([] : List P2).map (·.2), places ps, rfl, hol2, hpp, ?_⟩
        have e : ([] : List P2).map (·.2) = places ps := by rw [hO, places_eq]
        constructor
        · intro _
          refine ⟨[.sl .fz 34 ((ps ++ [pm]).map payA)], ⟨.inl hy, trivial⟩, rfl, ps ++ [pm], rfl, hyl, ?_⟩
          refine ⟨rfl, m, rfl, hm, ?_⟩
          rw [hpm]
          have hol3 : ([] : List P2).length = (L ps).length := by rw [hO]
          have hxs : ([] : List AV).length = (L ps).length := by rw [← hol3]; simp
          have e2 : (decide ((((iA (places (ps ++ [pm]))).length : Nat) : Int) > (([] : List AV).length : Nat)) == (pm.g == 0)) = true := by
            rw [iA_len, hpl, hxs]
            exact e2_of hml
          rw [← e2] at hK
          exact hK
        · intro h
          exfalso
          rw [e] at h
          simp at h
    | cons o os =>
      have e7 : t1 7 = .sl (.own 34000) 3 (.int .i64 o.2 :: os.map fun p => AV.int .i64 p.2) := e7
      have hnil : AV.sl .fz 3 (iA ((o :: os).map (·.2))) = .sl .fz 3 (.int .i64 o.2 :: os.map fun p => AV.int .i64 p.2) := by simp [iA]
      rw [← updL_has t1 [(3, .ptr 3 0), (5, .sl .fz 34 (ps.map payA)), (6, .sl .fz 34 (ps.map payA ++ [payA (pm)])), (21, .sl .fz 3 (iA (places (ps ++ [pm])))), (22, .int .i64 ((iA (places (ps ++ [pm]))).length : Nat)), (23, .int .i64 i), (7, .sl (.own 34000) 3 (.int .i64 o.2 :: os.map fun p => AV.int .i64 p.2))] ⟨e3', e5, e6, e21, e22, e23, e7, trivial⟩, ← updL_has h1 [(3, some (.cells 31 [.int .u8 m.a, .int .u8 m.b, .int .u8 m.c, .int .u8 m.d, .int .u8 m.e, .int .u8 m.f, .int .u8 m.u, .bool m.h]))] ⟨e3, trivial⟩]
      constructor
      · intro hb
        have hi' : i < (L (ps ++ [pm])).length := by
          have : (i : Int) < ((iA (places (ps ++ [pm]))).length : Nat) := by simpa using hb
          rw [iA_len, hpl] at this; omega
        have hgi : (iA (places (ps ++ [pm])))[i]? = some (.int .i64 (L (ps ++ [pm]))[i].2) := by
          rw [iA_get (by omega)]
          simp [places_eq]
        have hst := filter_step hi' (fun p => decide (p.2 < (ps.length : Int)))
        refine ⟨_, Int.natCast_nonneg i, hgi, ?_⟩
        constructor
        · intro hle
          have hle : (L (ps ++ [pm]))[i].2 < (ps.length : Int) := by simpa using hle
          rw [if_pos (by simpa using hle)] at hst
          have hb2 : ((AV.int .i64 o.2 :: os.map fun p => AV.int .i64 p.2).length + 1) * 8 ≤ 140737488355328 := by simp at hol ⊢; omega
          have heq : AV.sl (.own 34000) 3 ((.int .i64 o.2 :: os.map fun p => AV.int .i64 p.2) ++ [.int .i64 (L (ps ++ [pm]))[i].2]) = outsA 34000 ((o :: os) ++ [(L (ps ++ [pm]))[i]]) := by simp [outsA]
          refine ⟨hb2, ?_⟩
          refine ⟨_, (by omega : (L (ps ++ [pm])).length - (i + 1) < (L (ps ++ [pm])).length - i), i + 1, (o :: os) ++ [(L (ps ++ [pm]))[i]], ⟨hi', ?_⟩, rfl, rfl, rfl, rfl, rfl, rfl, congrArg (AV.int .i64) w, heq, (by kernel_rfl)⟩
          rw [hst, ← hO]
        · intro hle
          have hle : ¬ (L (ps ++ [pm]))[i].2 < (ps.length : Int) := by simpa using hle
          rw [if_neg (by simpa using hle), List.append_nil] at hst
          refine ⟨_, (by omega : (L (ps ++ [pm])).length - (i + 1) < (L (ps ++ [pm])).length - i), i + 1, (o :: os), ⟨hi', ?_⟩, rfl, rfl, rfl, rfl, rfl, rfl, congrArg (AV.int .i64) w, rfl, (by kernel_rfl)⟩
          rw [hst, ← hO]
      · intro hb
        have hi' : i = (L (ps ++ [pm])).length := by
          have : ¬ (i : Int) < ((iA (places (ps ++ [pm]))).length : Nat) := by simpa using hb
          rw [iA_len, hpl] at this; omega
        subst hi'
        rw [List.take_length, more_filter] at hO
        refine ⟨[.sl .fz 34 (ps.map payA)], ⟨.inl rfl, trivial⟩, rfl, ps, rfl, by omega, ?_⟩
        refine ⟨[.sl .fz 3 (iA (((o :: os) : List P2).map (·.2))), .sl .fz 3 (iA (places ps))], ⟨.inl hnil, .inl rfl, trivial⟩, rfl, ((o :: os) : List P2).map (·.2), places ps, rfl, hol2, hpp, ?_⟩
        have e : ((o :: os) : List P2).map (·.2) = places ps := by rw [hO, places_eq]
        constructor
        · intro _
          refine ⟨[.sl .fz 34 ((ps ++ [pm]).map payA)], ⟨.inl hy, trivial⟩, rfl, ps ++ [pm], rfl, hyl, ?_⟩
          refine ⟨rfl, m, rfl, hm, ?_⟩
          rw [hpm]
          have hol3 : ((o :: os) : List P2).length = (L ps).length := by rw [hO]
          have hxs : (AV.int .i64 o.2 :: os.map fun p => AV.int .i64 p.2).length = (L ps).length := by rw [← hol3]; simp
          have e2 : (decide ((((iA (places (ps ++ [pm]))).length : Nat) : Int) > ((AV.int .i64 o.2 :: os.map fun p => AV.int .i64 p.2).length : Nat)) == (pm.g == 0)) = true := by
            rw [iA_len, hpl, hxs]
            exact e2_of hml
          rw [← e2] at hK
          exact hK
        · intro h
          exfalso
          rw [e] at h
          simp at h
end Go.Proofs.Ytgikhdaildaonaa.A
