/- Seat 13: due.All. -/
import Derived.Test.YtgikhdaildaonaaC0
import Derived.Test.YtgikhdaildaonaaP1
namespace Go.Proofs.Ytgikhdaildaonaa.A
open Go P
noncomputable def J3 : FuncId → Option StSpec
  | 17 => some jHPushS
  | 19 => some jHPopS
  | n => J1 n
theorem J3_ok : JOk Try.prog tab J3 := by
  intro f j h
  unfold J3 at h
  split at h
  · cases h; exact hpush_okS
  · cases h; exact hpop_okS
  · exact J1_ok _ _ h
def payA (p : Pay) : AV := .agg [.int .i64 p.a, .int .i64 p.b, .int .i64 p.c, .int .i64 p.d, .int .i64 p.e, .int .i64 p.f, .int .i64 p.u, .int .i64 p.g]
def intsA (F : Nat) (l : List Int) : AV := match l with
  | [] => .sl .nl 0 []
  | n :: l => .sl (.own F) 3 (.int .i64 n :: l.map (AV.int .i64))
def outsA (F : Nat) (l : List P2) : AV := match l with
  | [] => .sl .nl 0 []
  | n :: l => .sl (.own F) 3 (.int .i64 n.2 :: l.map fun p => AV.int .i64 p.2)
theorem outs_ints (F : Nat) (l : List P2) : outsA F l = intsA F (l.map (·.2)) := by
  cases l with
  | nil => rfl
  | cons x l => simp [outsA, intsA]
/-- A slice that is only read. -/
def rdA (v : AV) (e : TypeId) (xs : List AV) : Prop := v = .sl .fz e xs ∨ v = .sl .nl e xs
def allS (args : List AV) (bs : List Box) (K : AV → List Box → Prop) : Prop := ∃ v ps, args = [v] ∧ bs = [] ∧ rdA v 34 (ps.map payA) ∧ ps.length < 90000 ∧ K (intsA 40000 (places ps)) []
theorem pay_get {ps : List Pay} {k : Nat} (h : k < ps.length) : (ps.map payA)[k]? = some (payA ps[k]) := by
  rw [List.getElem?_map, List.getElem?_eq_getElem h]; rfl
set_option maxRecDepth 20000 in
theorem all_ok : FnOk Try.prog tab 12 allS := by
  refine fn_ok (E := E1 J3 0 pl12) tab_is (E1_C _ _ _) J3_ok Try.func12 rfl rfl (by kernel_rfl) ?_
  rintro args bs K ⟨v, ps, ha, rfl, hv, hN, hK⟩
  rcases hv with rfl | rfl
  all_goals
    subst ha
    refine ⟨rfl, ?_⟩
  · refine ⟨fun m s => ∃ (k : Nat) (l : List P2), (k ≤ ps.length ∧ l.Perm (opens 0 (ps.take k)) ∧ Hp l l.length) ∧ ps.length - k = m ∧ s.t 3 = .ptr 8 0 ∧ s.t 9 = .sl .fz 34 (ps.map payA) ∧ s.t 10 = .int .i64 ((ps.map payA).length : Nat) ∧ s.t 11 = .int .i64 k ∧ s.h 8 = rowB l,
      ⟨_, 0, [], ⟨Nat.zero_le _, .refl _, fun j _ h => absurd h (Nat.not_lt_zero _)⟩, rfl, rfl, rfl, rfl, rfl, rfl⟩, ?_⟩
    rintro _ ⟨t1, h1⟩ ⟨k, l, ⟨hk, hP, hH⟩, rfl, e3, e9, e10, e11, h8⟩
    have e3 : t1 3 = .ptr 8 0 := e3
    have e9 : t1 9 = .sl .fz 34 (ps.map payA) := e9
    have e10 : t1 10 = .int .i64 ((ps.map payA).length : Nat) := e10
    have e11 : t1 11 = .int .i64 k := e11
    have h8 : h1 8 = rowB l := h8
    have hl : l.length ≤ k := by
      have := hP.length_eq
      have := opens_len 0 (ps.take k)
      simp at this; omega
    rw [← updL_has t1 [(3, .ptr 8 0), (9, .sl .fz 34 (ps.map payA)), (10, .int .i64 ((ps.map payA).length : Nat)), (11, .int .i64 k)] ⟨e3, e9, e10, e11, trivial⟩, ← updL_has h1 [(8, rowB l)] ⟨h8, trivial⟩]
    have wk : k < ps.length → IntKind.i64.wrap ((k : Int) + 1) = ((k + 1 : Nat) : Int) := fun h => by rw [wrap_of] <;> omega
    constructor
    · intro hb
      have hk' : k < ps.length := by
        have : (k : Int) < ((ps.map payA).length : Nat) := by simpa using hb
        simp at this; omega
      have hpg : ps[k]? = some ps[k] := List.getElem?_eq_getElem hk'
      have ht := opens_take hpg 0
      rw [Nat.zero_add] at ht
      refine ⟨_, Int.natCast_nonneg k, pay_get hk', ?_⟩
      constructor
      · intro hg
        have hg : ps[k].g = 0 := by simpa using hg
        rw [if_pos hg] at ht
        refine ⟨l, ps[k].u, k, rfl, by omega, hH, rfl, ?_⟩
        rintro ⟨t2, h2⟩ l' hF h8' hP' hH'
        have h8' : h2 8 = rowB l' := h8'
        have f3 : t2 3 = .ptr 8 0 := hF.1 3 rfl
        have f9 : t2 9 = .sl .fz 34 (ps.map payA) := hF.1 9 rfl
        have f10 : t2 10 = .int .i64 ((ps.map payA).length : Nat) := hF.1 10 rfl
        have f11 : t2 11 = .int .i64 k := hF.1 11 rfl
        rw [← updL_has t2 [(3, .ptr 8 0), (9, .sl .fz 34 (ps.map payA)), (10, .int .i64 ((ps.map payA).length : Nat)), (11, .int .i64 k)] ⟨f3, f9, f10, f11, trivial⟩, ← updL_has h2 [(8, rowB l')] ⟨h8', trivial⟩]
        refine ⟨_, (by omega : ps.length - (k + 1) < ps.length - k), k + 1, l', ⟨hk', ?_, hH'⟩, rfl, rfl, rfl, rfl, congrArg (AV.int .i64) (wk hk'), rfl⟩
        rw [ht]
        exact hP'.trans (hP.append_right _)
      · intro hg
        have hg : ¬ ps[k].g = 0 := by simpa using hg
        rw [if_neg hg, List.append_nil] at ht
        refine ⟨_, (by omega : ps.length - (k + 1) < ps.length - k), k + 1, l, ⟨hk', ?_, hH⟩, rfl, rfl, rfl, rfl, congrArg (AV.int .i64) (wk hk'), rfl⟩
        rw [ht]
        exact hP
    · intro hb
      have hk' : k = ps.length := by
        have : ¬ (k : Int) < ((ps.map payA).length : Nat) := by simpa using hb
        simp at this; omega
      subst hk'
      rw [List.take_length] at hP
      refine ⟨fun m s => ∃ (out l : List P2), ((out ++ l).Perm (opens 0 ps) ∧ Hp l l.length ∧ Sor out ∧ ∀ a ∈ out, ∀ b ∈ l, ¬ lt b a) ∧ l.length = m ∧ s.t 3 = .ptr 8 0 ∧ s.t 6 = outsA 40000 out ∧ s.h 8 = rowB l,
        ⟨_, [], l, ⟨hP, hH, .nil, fun a h => absurd h List.not_mem_nil⟩, rfl, rfl, rfl, rfl⟩, ?_⟩
      rintro _ ⟨t1, h1⟩ ⟨out, l, ⟨hP, hH, hS, hX⟩, rfl, e3, e6, h8⟩
      have e3 : t1 3 = .ptr 8 0 := e3
      have h8 : h1 8 = rowB l := h8
      have hl : out.length + l.length ≤ ps.length := by
        have := hP.length_eq
        have := opens_len 0 ps
        simp at *; omega
      cases out with
      | nil =>
        have e6 : t1 6 = .sl .nl 0 [] := e6
        rw [← updL_has t1 [(3, .ptr 8 0), (6, .sl .nl 0 [])] ⟨e3, e6, trivial⟩, ← updL_has h1 [(8, rowB l)] ⟨h8, trivial⟩]
        constructor
        · intro hb
          have hb : 0 < l.length := by
            have : ((l.map itemA).length : Int) > 0 := by simpa using hb
            simpa using this
          refine ⟨l, rfl, by omega, hb, hH, rfl, ?_⟩
          rintro ⟨t2, h2⟩ l' x hF h8' hP' hH' hX'
          have h8' : h2 8 = rowB l' := h8'
          have f3 : t2 3 = .ptr 8 0 := hF.1 3 rfl
          have f33 : t2 33 = .sl .nl 0 [] := hF.1 33 rfl
          rw [← updL_has t2 [(3, .ptr 8 0), (33, .sl .nl 0 [])] ⟨f3, f33, trivial⟩, ← updL_has h2 [(8, rowB l')] ⟨h8', trivial⟩]
          refine ⟨rfl, (by decide : 1 * 8 ≤ 140737488355328), ?_⟩
          have hl' := hP'.length_eq
          refine ⟨_, (by simp at hl'; omega : l'.length < l.length), [] ++ [x], l', ⟨?_, hH', ?_, ?_⟩, rfl, rfl, rfl, rfl⟩
          · rw [List.append_assoc]
            exact (hP'.symm.append_left _).trans hP
          · refine List.pairwise_append.2 ⟨hS, List.pairwise_singleton _ _, fun a ha b hb => ?_⟩
            rcases List.mem_singleton.1 hb with rfl
            exact hX a ha b (hP'.mem_iff.2 (List.mem_cons_self ..))
          · intro a ha b hb
            rcases List.mem_append.1 ha with ha | ha
            · exact hX a ha b (hP'.mem_iff.2 (List.mem_cons_of_mem _ hb))
            · rcases List.mem_singleton.1 ha with rfl
              exact hX' b hb
        · intro hb
          have hb : l = [] := by
            have : ¬ ((l.map itemA).length : Int) > 0 := by simpa using hb
            have : l.length = 0 := by simp at this; simp [this]
            exact List.length_eq_zero_iff.1 this
          subst hb
          rw [List.append_nil] at hP
          have e : intsA 40000 (places ps) = .sl .nl 0 [] := by
            unfold places
            rw [← srt_uniq hP hS, ← outs_ints]
            rfl
          rw [e] at hK
          exact hK
      | cons o os =>
        have e6 : t1 6 = .sl (.own 40000) 3 (.int .i64 o.2 :: os.map fun p => AV.int .i64 p.2) := e6
        rw [← updL_has t1 [(3, .ptr 8 0), (6, .sl (.own 40000) 3 (.int .i64 o.2 :: os.map fun p => AV.int .i64 p.2))] ⟨e3, e6, trivial⟩, ← updL_has h1 [(8, rowB l)] ⟨h8, trivial⟩]
        constructor
        · intro hb
          have hb : 0 < l.length := by
            have : ((l.map itemA).length : Int) > 0 := by simpa using hb
            simpa using this
          refine ⟨l, rfl, by omega, hb, hH, rfl, ?_⟩
          rintro ⟨t2, h2⟩ l' x hF h8' hP' hH' hX'
          have h8' : h2 8 = rowB l' := h8'
          have f3 : t2 3 = .ptr 8 0 := hF.1 3 rfl
          have f33 : t2 33 = .sl (.own 40000) 3 (.int .i64 o.2 :: os.map fun p => AV.int .i64 p.2) := hF.1 33 rfl
          rw [← updL_has t2 [(3, .ptr 8 0), (33, .sl (.own 40000) 3 (.int .i64 o.2 :: os.map fun p => AV.int .i64 p.2))] ⟨f3, f33, trivial⟩, ← updL_has h2 [(8, rowB l')] ⟨h8', trivial⟩]
          have hb2 : ((AV.int .i64 o.2 :: os.map fun p => AV.int .i64 p.2).length + 1) * 8 ≤ 140737488355328 := by simp at hl ⊢; omega
          have heq : AV.sl (.own 40000) 3 ((.int .i64 o.2 :: os.map fun p => AV.int .i64 p.2) ++ [.int .i64 x.2]) = outsA 40000 ((o :: os) ++ [x]) := by simp [outsA]
          refine ⟨rfl, hb2, ?_⟩
          have hl' := hP'.length_eq
          refine ⟨_, (by simp at hl'; omega : l'.length < l.length), (o :: os) ++ [x], l', ⟨?_, hH', ?_, ?_⟩, rfl, rfl, heq, rfl⟩
          · rw [List.append_assoc]
            exact (hP'.symm.append_left _).trans hP
          · refine List.pairwise_append.2 ⟨hS, List.pairwise_singleton _ _, fun a ha b hb => ?_⟩
            rcases List.mem_singleton.1 hb with rfl
            exact hX a ha b (hP'.mem_iff.2 (List.mem_cons_self ..))
          · intro a ha b hb
            rcases List.mem_append.1 ha with ha | ha
            · exact hX a ha b (hP'.mem_iff.2 (List.mem_cons_of_mem _ hb))
            · rcases List.mem_singleton.1 ha with rfl
              exact hX' b hb
        · intro hb
          have hb : l = [] := by
            have : ¬ ((l.map itemA).length : Int) > 0 := by simpa using hb
            have : l.length = 0 := by simp at this; simp [this]
            exact List.length_eq_zero_iff.1 this
          subst hb
          rw [List.append_nil] at hP
          have e : intsA 40000 (places ps) = .sl (.own 40000) 3 (.int .i64 o.2 :: os.map fun p => AV.int .i64 p.2) := by
            unfold places
            rw [← srt_uniq hP hS, ← outs_ints]
            rfl
          rw [e] at hK
          exact hK
  · refine ⟨fun m s => ∃ (k : Nat) (l : List P2), (k ≤ ps.length ∧ l.Perm (opens 0 (ps.take k)) ∧ Hp l l.length) ∧ ps.length - k = m ∧ s.t 3 = .ptr 8 0 ∧ s.t 9 = .sl .nl 34 (ps.map payA) ∧ s.t 10 = .int .i64 ((ps.map payA).length : Nat) ∧ s.t 11 = .int .i64 k ∧ s.h 8 = rowB l,
      ⟨_, 0, [], ⟨Nat.zero_le _, .refl _, fun j _ h => absurd h (Nat.not_lt_zero _)⟩, rfl, rfl, rfl, rfl, rfl, rfl⟩, ?_⟩
    rintro _ ⟨t1, h1⟩ ⟨k, l, ⟨hk, hP, hH⟩, rfl, e3, e9, e10, e11, h8⟩
    have e3 : t1 3 = .ptr 8 0 := e3
    have e9 : t1 9 = .sl .nl 34 (ps.map payA) := e9
    have e10 : t1 10 = .int .i64 ((ps.map payA).length : Nat) := e10
    have e11 : t1 11 = .int .i64 k := e11
    have h8 : h1 8 = rowB l := h8
    have hl : l.length ≤ k := by
      have := hP.length_eq
      have := opens_len 0 (ps.take k)
      simp at this; omega
    rw [← updL_has t1 [(3, .ptr 8 0), (9, .sl .nl 34 (ps.map payA)), (10, .int .i64 ((ps.map payA).length : Nat)), (11, .int .i64 k)] ⟨e3, e9, e10, e11, trivial⟩, ← updL_has h1 [(8, rowB l)] ⟨h8, trivial⟩]
    have wk : k < ps.length → IntKind.i64.wrap ((k : Int) + 1) = ((k + 1 : Nat) : Int) := fun h => by rw [wrap_of] <;> omega
    constructor
    · intro hb
      have hk' : k < ps.length := by
        have : (k : Int) < ((ps.map payA).length : Nat) := by simpa using hb
        simp at this; omega
      have hpg : ps[k]? = some ps[k] := List.getElem?_eq_getElem hk'
      have ht := opens_take hpg 0
      rw [Nat.zero_add] at ht
      refine ⟨_, Int.natCast_nonneg k, pay_get hk', ?_⟩
      constructor
      · intro hg
        have hg : ps[k].g = 0 := by simpa using hg
        rw [if_pos hg] at ht
        refine ⟨l, ps[k].u, k, rfl, by omega, hH, rfl, ?_⟩
        rintro ⟨t2, h2⟩ l' hF h8' hP' hH'
        have h8' : h2 8 = rowB l' := h8'
        have f3 : t2 3 = .ptr 8 0 := hF.1 3 rfl
        have f9 : t2 9 = .sl .nl 34 (ps.map payA) := hF.1 9 rfl
        have f10 : t2 10 = .int .i64 ((ps.map payA).length : Nat) := hF.1 10 rfl
        have f11 : t2 11 = .int .i64 k := hF.1 11 rfl
        rw [← updL_has t2 [(3, .ptr 8 0), (9, .sl .nl 34 (ps.map payA)), (10, .int .i64 ((ps.map payA).length : Nat)), (11, .int .i64 k)] ⟨f3, f9, f10, f11, trivial⟩, ← updL_has h2 [(8, rowB l')] ⟨h8', trivial⟩]
        refine ⟨_, (by omega : ps.length - (k + 1) < ps.length - k), k + 1, l', ⟨hk', ?_, hH'⟩, rfl, rfl, rfl, rfl, congrArg (AV.int .i64) (wk hk'), rfl⟩
        rw [ht]
        exact hP'.trans (hP.append_right _)
      · intro hg
        have hg : ¬ ps[k].g = 0 := by simpa using hg
        rw [if_neg hg, List.append_nil] at ht
        refine ⟨_, (by omega : ps.length - (k + 1) < ps.length - k), k + 1, l, ⟨hk', ?_, hH⟩, rfl, rfl, rfl, rfl, congrArg (AV.int .i64) (wk hk'), rfl⟩
        rw [ht]
        exact hP
    · intro hb
      have hk' : k = ps.length := by
        have : ¬ (k : Int) < ((ps.map payA).length : Nat) := by simpa using hb
        simp at this; omega
      subst hk'
      rw [List.take_length] at hP
      refine ⟨fun m s => ∃ (out l : List P2), ((out ++ l).Perm (opens 0 ps) ∧ Hp l l.length ∧ Sor out ∧ ∀ a ∈ out, ∀ b ∈ l, ¬ lt b a) ∧ l.length = m ∧ s.t 3 = .ptr 8 0 ∧ s.t 6 = outsA 40000 out ∧ s.h 8 = rowB l,
        ⟨_, [], l, ⟨hP, hH, .nil, fun a h => absurd h List.not_mem_nil⟩, rfl, rfl, rfl, rfl⟩, ?_⟩
      rintro _ ⟨t1, h1⟩ ⟨out, l, ⟨hP, hH, hS, hX⟩, rfl, e3, e6, h8⟩
      have e3 : t1 3 = .ptr 8 0 := e3
      have h8 : h1 8 = rowB l := h8
      have hl : out.length + l.length ≤ ps.length := by
        have := hP.length_eq
        have := opens_len 0 ps
        simp at *; omega
      cases out with
      | nil =>
        have e6 : t1 6 = .sl .nl 0 [] := e6
        rw [← updL_has t1 [(3, .ptr 8 0), (6, .sl .nl 0 [])] ⟨e3, e6, trivial⟩, ← updL_has h1 [(8, rowB l)] ⟨h8, trivial⟩]
        constructor
        · intro hb
          have hb : 0 < l.length := by
            have : ((l.map itemA).length : Int) > 0 := by simpa using hb
            simpa using this
          refine ⟨l, rfl, by omega, hb, hH, rfl, ?_⟩
          rintro ⟨t2, h2⟩ l' x hF h8' hP' hH' hX'
          have h8' : h2 8 = rowB l' := h8'
          have f3 : t2 3 = .ptr 8 0 := hF.1 3 rfl
          have f33 : t2 33 = .sl .nl 0 [] := hF.1 33 rfl
          rw [← updL_has t2 [(3, .ptr 8 0), (33, .sl .nl 0 [])] ⟨f3, f33, trivial⟩, ← updL_has h2 [(8, rowB l')] ⟨h8', trivial⟩]
          refine ⟨rfl, (by decide : 1 * 8 ≤ 140737488355328), ?_⟩
          have hl' := hP'.length_eq
          refine ⟨_, (by simp at hl'; omega : l'.length < l.length), [] ++ [x], l', ⟨?_, hH', ?_, ?_⟩, rfl, rfl, rfl, rfl⟩
          · rw [List.append_assoc]
            exact (hP'.symm.append_left _).trans hP
          · refine List.pairwise_append.2 ⟨hS, List.pairwise_singleton _ _, fun a ha b hb => ?_⟩
            rcases List.mem_singleton.1 hb with rfl
            exact hX a ha b (hP'.mem_iff.2 (List.mem_cons_self ..))
          · intro a ha b hb
            rcases List.mem_append.1 ha with ha | ha
            · exact hX a ha b (hP'.mem_iff.2 (List.mem_cons_of_mem _ hb))
            · rcases List.mem_singleton.1 ha with rfl
              exact hX' b hb
        · intro hb
          have hb : l = [] := by
            have : ¬ ((l.map itemA).length : Int) > 0 := by simpa using hb
            have : l.length = 0 := by simp at this; simp [this]
            exact List.length_eq_zero_iff.1 this
          subst hb
          rw [List.append_nil] at hP
          have e : intsA 40000 (places ps) = .sl .nl 0 [] := by
            unfold places
            rw [← srt_uniq hP hS, ← outs_ints]
            rfl
          rw [e] at hK
          exact hK
      | cons o os =>
        have e6 : t1 6 = .sl (.own 40000) 3 (.int .i64 o.2 :: os.map fun p => AV.int .i64 p.2) := e6
        rw [← updL_has t1 [(3, .ptr 8 0), (6, .sl (.own 40000) 3 (.int .i64 o.2 :: os.map fun p => AV.int .i64 p.2))] ⟨e3, e6, trivial⟩, ← updL_has h1 [(8, rowB l)] ⟨h8, trivial⟩]
        constructor
        · intro hb
          have hb : 0 < l.length := by
            have : ((l.map itemA).length : Int) > 0 := by simpa using hb
            simpa using this
          refine ⟨l, rfl, by omega, hb, hH, rfl, ?_⟩
          rintro ⟨t2, h2⟩ l' x hF h8' hP' hH' hX'
          have h8' : h2 8 = rowB l' := h8'
          have f3 : t2 3 = .ptr 8 0 := hF.1 3 rfl
          have f33 : t2 33 = .sl (.own 40000) 3 (.int .i64 o.2 :: os.map fun p => AV.int .i64 p.2) := hF.1 33 rfl
          rw [← updL_has t2 [(3, .ptr 8 0), (33, .sl (.own 40000) 3 (.int .i64 o.2 :: os.map fun p => AV.int .i64 p.2))] ⟨f3, f33, trivial⟩, ← updL_has h2 [(8, rowB l')] ⟨h8', trivial⟩]
          have hb2 : ((AV.int .i64 o.2 :: os.map fun p => AV.int .i64 p.2).length + 1) * 8 ≤ 140737488355328 := by simp at hl ⊢; omega
          have heq : AV.sl (.own 40000) 3 ((.int .i64 o.2 :: os.map fun p => AV.int .i64 p.2) ++ [.int .i64 x.2]) = outsA 40000 ((o :: os) ++ [x]) := by simp [outsA]
          refine ⟨rfl, hb2, ?_⟩
          have hl' := hP'.length_eq
          refine ⟨_, (by simp at hl'; omega : l'.length < l.length), (o :: os) ++ [x], l', ⟨?_, hH', ?_, ?_⟩, rfl, rfl, heq, rfl⟩
          · rw [List.append_assoc]
            exact (hP'.symm.append_left _).trans hP
          · refine List.pairwise_append.2 ⟨hS, List.pairwise_singleton _ _, fun a ha b hb => ?_⟩
            rcases List.mem_singleton.1 hb with rfl
            exact hX a ha b (hP'.mem_iff.2 (List.mem_cons_self ..))
          · intro a ha b hb
            rcases List.mem_append.1 ha with ha | ha
            · exact hX a ha b (hP'.mem_iff.2 (List.mem_cons_of_mem _ hb))
            · rcases List.mem_singleton.1 ha with rfl
              exact hX' b hb
        · intro hb
          have hb : l = [] := by
            have : ¬ ((l.map itemA).length : Int) > 0 := by simpa using hb
            have : l.length = 0 := by simp at this; simp [this]
            exact List.length_eq_zero_iff.1 this
          subst hb
          rw [List.append_nil] at hP
          have e : intsA 40000 (places ps) = .sl (.own 40000) 3 (.int .i64 o.2 :: os.map fun p => AV.int .i64 p.2) := by
            unfold places
            rw [← srt_uniq hP hS, ← outs_ints]
            rfl
          rw [e] at hK
          exact hK
end Go.Proofs.Ytgikhdaildaonaa.A
