/- Seat 13: all, by taking the least one again and again. -/
import Derived.Test.YtgikhdaildaonaaC2
import Derived.Test.YtgikhdaildaonaaP3
namespace Go.Proofs.Ytgikhdaildaonaa.A
open Go P
theorem bools_put (l : List Bool) (i : Nat) (b : Bool) : (l.map AV.bool).modify i (fun x => x.ofCells (putCells x.cells 0 [.bool b])) = (l.set i b).map AV.bool := by
  apply List.ext_getElem?
  intro j
  rw [List.getElem?_modify, List.getElem?_map, List.getElem?_map, List.getElem?_set]
  by_cases h : i = j
  · subst h
    by_cases hl : i < l.length
    · simp [hl, AV.cells, AV.ofCells, putCells]
    · simp [hl]
  · simp [h]
def selC (args : List AV) (bs : List Box) (K : AV → List Box → Prop) : Prop := bs = [] ∧ ∃ ps, args = [.sl .fz 34 (ps.map payA)] ∧ ps.length < 90000 ∧ K (intsA 53000 (places ps)) []
set_option maxRecDepth 20000 in
theorem sel_ok : FnOk Try.prog tab 13 selC := by
  refine fn_ok (E := F1 0 pl13) tab_is R1_ok (F1_J _ _) Try.func13 rfl rfl (by kernel_rfl) ?_
  rintro args bs K ⟨rfl, ps, rfl, hN, hK⟩
  refine ⟨rfl, ?_⟩
  have b1 : (((ps.map payA).length : Nat) : Int) * ((1 : Nat) : Int) ≤ 140737488355328 := by simp; omega
  have b2 : (((ps.map payA).length : Nat) : Int) ≤ 9223372036854775807 := by simp; omega
  have i3 : AV.sl (.own 10000) 4 (List.replicate (((ps.map payA).length : Nat) : Int).toNat (.bool false)) = .sl (.own 10000) 4 ((List.replicate ps.length false).map AV.bool) := by simp
  refine ⟨Int.natCast_nonneg _, Int.le_refl _, b1, b2, ?_⟩
  refine ⟨fun m s => ∃ (tk : List Bool) (out : List P2), (tk.length = ps.length ∧ (out ++ rst 0 ps tk).Perm (opens 0 ps) ∧ Sor out ∧ ∀ a ∈ out, ∀ b ∈ rst 0 ps tk, ¬ lt b a) ∧ (rst 0 ps tk).length = m ∧ s.t 0 = .sl .fz 34 (ps.map payA) ∧ s.t 3 = .sl (.own 10000) 4 (tk.map AV.bool) ∧ s.t 4 = outsA 53000 out,
      ⟨_, List.replicate ps.length false, [], ⟨by simp, by rw [rst_init]; exact .refl _, .nil, fun a h => absurd h List.not_mem_nil⟩, rfl, rfl, i3, rfl⟩, ?_⟩
  rintro _ ⟨t1, h1⟩ ⟨tk, out, ⟨hT, hP, hS, hX⟩, rfl, e0, e3, e4⟩
  have e0 : t1 0 = .sl .fz 34 (ps.map payA) := e0
  have e3 : t1 3 = .sl (.own 10000) 4 (tk.map AV.bool) := e3
  have hol : out.length ≤ ps.length := by
    have := hP.length_eq
    have := opens_len 0 ps
    simp at *; omega
  cases out with
  | nil =>
    have e4 : t1 4 = .sl .nl 0 [] := e4
    rw [← updL_has t1 [(0, .sl .fz 34 (ps.map payA)), (3, .sl (.own 10000) 4 (tk.map AV.bool)), (4, .sl .nl 0 [])] ⟨e0, e3, e4, trivial⟩]
    refine ⟨fun m s => ∃ (k : Nat) (best : Int), (k ≤ ps.length ∧ Best ps tk k best) ∧ ps.length - k = m ∧ s.t 0 = .sl .fz 34 (ps.map payA) ∧ s.t 3 = .sl (.own 10000) 4 (tk.map AV.bool) ∧ s.t 4 = .sl .nl 0 [] ∧ s.t 5 = .int .i64 best ∧ s.t 11 = .sl .fz 34 (ps.map payA) ∧ s.t 12 = .int .i64 ((ps.map payA).length : Nat) ∧ s.t 13 = .int .i64 k,
      ⟨_, 0, -1, ⟨Nat.zero_le _, .inl ⟨rfl, rst_nil _ _⟩⟩, rfl, rfl, rfl, rfl, rfl, rfl, rfl, rfl⟩, ?_⟩
    rintro _ ⟨t2, h2⟩ ⟨k, best, ⟨hk, hB⟩, rfl, f0, f3, f4, f5, f11, f12, f13⟩
    have f0 : t2 0 = .sl .fz 34 (ps.map payA) := f0
    have f3 : t2 3 = .sl (.own 10000) 4 (tk.map AV.bool) := f3
    have f4 : t2 4 = .sl .nl 0 [] := f4
    have f5 : t2 5 = .int .i64 best := f5
    have f11 : t2 11 = .sl .fz 34 (ps.map payA) := f11
    have f12 : t2 12 = .int .i64 ((ps.map payA).length : Nat) := f12
    have f13 : t2 13 = .int .i64 k := f13
    rw [← updL_has t2 [(0, .sl .fz 34 (ps.map payA)), (3, .sl (.own 10000) 4 (tk.map AV.bool)), (4, .sl .nl 0 []), (5, .int .i64 best), (11, .sl .fz 34 (ps.map payA)), (12, .int .i64 ((ps.map payA).length : Nat)), (13, .int .i64 k)] ⟨f0, f3, f4, f5, f11, f12, f13, trivial⟩]
    constructor
    · intro hb
      have hk' : k < ps.length := by
        have : (k : Int) < ((ps.map payA).length : Nat) := by simpa using hb
        simp at this; omega
      have w : IntKind.i64.wrap ((k : Int) + 1) = ((k + 1 : Nat) : Int) := by rw [wrap_of] <;> omega
      have hp : ps[k]? = some ps[k] := List.getElem?_eq_getElem hk'
      have ht : tk[k]? = some tk[k] := List.getElem?_eq_getElem (hT ▸ hk')
      have htA : (tk.map AV.bool)[((k : Int)).toNat]? = some (.bool tk[k]) := by
        show (tk.map AV.bool)[k]? = _
        rw [List.getElem?_map, ht]; rfl
      refine ⟨_, Int.natCast_nonneg k, payA_of hp, ?_⟩
      constructor
      · intro hg
        have hg : ps[k].g = 0 := by simpa using hg
        refine ⟨_, Int.natCast_nonneg k, htA, ?_⟩
        constructor
        · intro hnb
          have hnb : tk[k] = false := by simpa using hnb
          rw [hnb] at ht
          constructor
          · intro hlt
            have hlt : best < 0 := by simpa using hlt
            refine ⟨fun _ => ?_, fun h => by cases h⟩
            exact ⟨_, (by omega : ps.length - (k + 1) < ps.length - k), k + 1, k, ⟨hk', best_new hB hp ht hg (.inl hlt)⟩, rfl, rfl, rfl, rfl, rfl, rfl, rfl, congrArg (AV.int .i64) w⟩
          · intro hlt
            have hlt : ¬ best < 0 := by simpa using hlt
            obtain ⟨j, q, j1, j2, j3, j4, j5, j6⟩ : ∃ (j : Nat) (q : Pay), best = (j : Int) ∧ ps[j]? = some q ∧ q.g = 0 ∧ tk[j]? = some false ∧ j < k ∧ ∀ y ∈ rst 0 (ps.take k) tk, ¬ lt y (q.u, (j : Int)) := by
              rcases hB with ⟨h1, _⟩ | h
              · omega
              · exact h
            have g0 : 0 ≤ best := by omega
            have g1 : (ps.map payA)[best.toNat]? = some (payA q) := by rw [j1]; exact payA_of j2
            have g2 : ps[best.toNat]? = some q := by rw [j1]; exact j2
            refine ⟨_, g0, g1, ?_⟩
            constructor
            · intro hc
              have hc : ps[k].u < q.u := by simpa using hc
              exact ⟨_, (by omega : ps.length - (k + 1) < ps.length - k), k + 1, k, ⟨hk', best_new hB hp ht hg (.inr ⟨q, g2, hc⟩)⟩, rfl, rfl, rfl, rfl, rfl, rfl, rfl, congrArg (AV.int .i64) w⟩
            · intro hc
              have hc : ¬ ps[k].u < q.u := by simpa using hc
              exact ⟨_, (by omega : ps.length - (k + 1) < ps.length - k), k + 1, best, ⟨hk', best_old hB hp ht hg hlt (fun q' h => by rw [g2] at h; cases h; exact hc)⟩, rfl, rfl, rfl, rfl, rfl, rfl, rfl, congrArg (AV.int .i64) w⟩
        · intro hnb
          have hnb : tk[k] = true := by simpa using hnb
          refine ⟨fun h => (by cases h), fun _ => ?_⟩
          exact ⟨_, (by omega : ps.length - (k + 1) < ps.length - k), k + 1, best, ⟨hk', best_no hB hp ht (by rw [hnb]; simp)⟩, rfl, rfl, rfl, rfl, rfl, rfl, rfl, congrArg (AV.int .i64) w⟩
      · intro hg
        have hg : ¬ ps[k].g = 0 := by simpa using hg
        refine ⟨fun h => (by cases h), fun _ => ?_⟩
        refine ⟨fun h => (by cases h), fun _ => ?_⟩
        exact ⟨_, (by omega : ps.length - (k + 1) < ps.length - k), k + 1, best, ⟨hk', best_no hB hp ht (fun h => hg h.1)⟩, rfl, rfl, rfl, rfl, rfl, rfl, rfl, congrArg (AV.int .i64) w⟩
    · intro hb
      have hk' : k = ps.length := by
        have : ¬ (k : Int) < ((ps.map payA).length : Nat) := by simpa using hb
        simp at this; omega
      subst hk'
      unfold Best at hB
      rw [List.take_length] at hB
      constructor
      · intro hlt
        have hlt : best < 0 := by simpa using hlt
        have hr : rst 0 ps tk = [] := by
          rcases hB with ⟨_, h⟩ | ⟨j, q, j1, _⟩
          · exact h
          · omega
        rw [hr, List.append_nil] at hP
        have e : intsA 53000 (places ps) = .sl .nl 0 [] := by
          unfold places
          rw [← srt_uniq hP hS, ← outs_ints]
          rfl
        rw [e] at hK
        exact hK
      · intro hlt
        have hlt : ¬ best < 0 := by simpa using hlt
        obtain ⟨j, q, j1, j2, j3, j4, j5, j6⟩ : ∃ (j : Nat) (q : Pay), best = (j : Int) ∧ ps[j]? = some q ∧ q.g = 0 ∧ tk[j]? = some false ∧ j < ps.length ∧ ∀ y ∈ rst 0 ps tk, ¬ lt y (q.u, (j : Int)) := by
          rcases hB with ⟨h1, _⟩ | h
          · omega
          · exact h
        have g0 : 0 ≤ best := by omega
        have g1 : (tk.map AV.bool)[best.toNat]? = some (.bool false) := by
          rw [j1, List.getElem?_map]
          show (tk[j]?).map _ = _
          rw [j4]; rfl
        have hs := rst_set (k0 := 0) j2 j4 j3
        rw [Nat.zero_add] at hs
        have heq : AV.sl (.own 53000) 3 [.int .i64 best] = outsA 53000 ([] ++ [(q.u, (j : Int))]) := by rw [j1]; rfl
        refine ⟨_, g0, g1, (by decide : 1 * 8 ≤ 140737488355328), ?_⟩
        have hsl := hs.length_eq
        refine ⟨_, (by simp at hsl; omega : (rst 0 ps (tk.set j true)).length < (rst 0 ps tk).length), tk.set j true, [] ++ [(q.u, (j : Int))], ⟨by simp [hT], ?_, ?_, ?_⟩, rfl, rfl, ?_, heq⟩
        · rw [List.append_assoc]
          exact (hs.symm.append_left _).trans hP
        · refine List.pairwise_append.2 ⟨hS, List.pairwise_singleton _ _, fun a ha b hb => ?_⟩
          rcases List.mem_singleton.1 hb with rfl
          exact hX a ha _ (hs.mem_iff.2 (List.mem_cons_self ..))
        · intro a ha b hb
          have hb' := hs.mem_iff.2 (List.mem_cons_of_mem _ hb)
          rcases List.mem_append.1 ha with ha | ha
          · exact hX a ha b hb'
          · rcases List.mem_singleton.1 ha with rfl
            exact j6 b hb'
        · have : AV.sl (.own 10000) 4 ((tk.map AV.bool).modify best.toNat (fun x => x.ofCells (putCells x.cells 0 [.bool true]))) = .sl (.own 10000) 4 ((tk.set j true).map AV.bool) := by
            rw [bools_put, j1]; rfl
          exact this
  | cons o os =>
    have e4 : t1 4 = .sl (.own 53000) 3 (.int .i64 o.2 :: os.map fun p => AV.int .i64 p.2) := e4
    rw [← updL_has t1 [(0, .sl .fz 34 (ps.map payA)), (3, .sl (.own 10000) 4 (tk.map AV.bool)), (4, .sl (.own 53000) 3 (.int .i64 o.2 :: os.map fun p => AV.int .i64 p.2))] ⟨e0, e3, e4, trivial⟩]
    refine ⟨fun m s => ∃ (k : Nat) (best : Int), (k ≤ ps.length ∧ Best ps tk k best) ∧ ps.length - k = m ∧ s.t 0 = .sl .fz 34 (ps.map payA) ∧ s.t 3 = .sl (.own 10000) 4 (tk.map AV.bool) ∧ s.t 4 = .sl (.own 53000) 3 (.int .i64 o.2 :: os.map fun p => AV.int .i64 p.2) ∧ s.t 5 = .int .i64 best ∧ s.t 11 = .sl .fz 34 (ps.map payA) ∧ s.t 12 = .int .i64 ((ps.map payA).length : Nat) ∧ s.t 13 = .int .i64 k,
      ⟨_, 0, -1, ⟨Nat.zero_le _, .inl ⟨rfl, rst_nil _ _⟩⟩, rfl, rfl, rfl, rfl, rfl, rfl, rfl, rfl⟩, ?_⟩
    rintro _ ⟨t2, h2⟩ ⟨k, best, ⟨hk, hB⟩, rfl, f0, f3, f4, f5, f11, f12, f13⟩
    have f0 : t2 0 = .sl .fz 34 (ps.map payA) := f0
    have f3 : t2 3 = .sl (.own 10000) 4 (tk.map AV.bool) := f3
    have f4 : t2 4 = .sl (.own 53000) 3 (.int .i64 o.2 :: os.map fun p => AV.int .i64 p.2) := f4
    have f5 : t2 5 = .int .i64 best := f5
    have f11 : t2 11 = .sl .fz 34 (ps.map payA) := f11
    have f12 : t2 12 = .int .i64 ((ps.map payA).length : Nat) := f12
    have f13 : t2 13 = .int .i64 k := f13
    rw [← updL_has t2 [(0, .sl .fz 34 (ps.map payA)), (3, .sl (.own 10000) 4 (tk.map AV.bool)), (4, .sl (.own 53000) 3 (.int .i64 o.2 :: os.map fun p => AV.int .i64 p.2)), (5, .int .i64 best), (11, .sl .fz 34 (ps.map payA)), (12, .int .i64 ((ps.map payA).length : Nat)), (13, .int .i64 k)] ⟨f0, f3, f4, f5, f11, f12, f13, trivial⟩]
    constructor
    · intro hb
      have hk' : k < ps.length := by
        have : (k : Int) < ((ps.map payA).length : Nat) := by simpa using hb
        simp at this; omega
      have w : IntKind.i64.wrap ((k : Int) + 1) = ((k + 1 : Nat) : Int) := by rw [wrap_of] <;> omega
      have hp : ps[k]? = some ps[k] := List.getElem?_eq_getElem hk'
      have ht : tk[k]? = some tk[k] := List.getElem?_eq_getElem (hT ▸ hk')
      have htA : (tk.map AV.bool)[((k : Int)).toNat]? = some (.bool tk[k]) := by
        show (tk.map AV.bool)[k]? = _
        rw [List.getElem?_map, ht]; rfl
      refine ⟨_, Int.natCast_nonneg k, payA_of hp, ?_⟩
      constructor
      · intro hg
        have hg : ps[k].g = 0 := by simpa using hg
        refine ⟨_, Int.natCast_nonneg k, htA, ?_⟩
        constructor
        · intro hnb
          have hnb : tk[k] = false := by simpa using hnb
          rw [hnb] at ht
          constructor
          · intro hlt
            have hlt : best < 0 := by simpa using hlt
            refine ⟨fun _ => ?_, fun h => by cases h⟩
            exact ⟨_, (by omega : ps.length - (k + 1) < ps.length - k), k + 1, k, ⟨hk', best_new hB hp ht hg (.inl hlt)⟩, rfl, rfl, rfl, rfl, rfl, rfl, rfl, congrArg (AV.int .i64) w⟩
          · intro hlt
            have hlt : ¬ best < 0 := by simpa using hlt
            obtain ⟨j, q, j1, j2, j3, j4, j5, j6⟩ : ∃ (j : Nat) (q : Pay), best = (j : Int) ∧ ps[j]? = some q ∧ q.g = 0 ∧ tk[j]? = some false ∧ j < k ∧ ∀ y ∈ rst 0 (ps.take k) tk, ¬ lt y (q.u, (j : Int)) := by
              rcases hB with ⟨h1, _⟩ | h
              · omega
              · exact h
            have g0 : 0 ≤ best := by omega
            have g1 : (ps.map payA)[best.toNat]? = some (payA q) := by rw [j1]; exact payA_of j2
            have g2 : ps[best.toNat]? = some q := by rw [j1]; exact j2
            refine ⟨_, g0, g1, ?_⟩
            constructor
            · intro hc
              have hc : ps[k].u < q.u := by simpa using hc
              exact ⟨_, (by omega : ps.length - (k + 1) < ps.length - k), k + 1, k, ⟨hk', best_new hB hp ht hg (.inr ⟨q, g2, hc⟩)⟩, rfl, rfl, rfl, rfl, rfl, rfl, rfl, congrArg (AV.int .i64) w⟩
            · intro hc
              have hc : ¬ ps[k].u < q.u := by simpa using hc
              exact ⟨_, (by omega : ps.length - (k + 1) < ps.length - k), k + 1, best, ⟨hk', best_old hB hp ht hg hlt (fun q' h => by rw [g2] at h; cases h; exact hc)⟩, rfl, rfl, rfl, rfl, rfl, rfl, rfl, congrArg (AV.int .i64) w⟩
        · intro hnb
          have hnb : tk[k] = true := by simpa using hnb
          refine ⟨fun h => (by cases h), fun _ => ?_⟩
          exact ⟨_, (by omega : ps.length - (k + 1) < ps.length - k), k + 1, best, ⟨hk', best_no hB hp ht (by rw [hnb]; simp)⟩, rfl, rfl, rfl, rfl, rfl, rfl, rfl, congrArg (AV.int .i64) w⟩
      · intro hg
        have hg : ¬ ps[k].g = 0 := by simpa using hg
        refine ⟨fun h => (by cases h), fun _ => ?_⟩
        refine ⟨fun h => (by cases h), fun _ => ?_⟩
        exact ⟨_, (by omega : ps.length - (k + 1) < ps.length - k), k + 1, best, ⟨hk', best_no hB hp ht (fun h => hg h.1)⟩, rfl, rfl, rfl, rfl, rfl, rfl, rfl, congrArg (AV.int .i64) w⟩
    · intro hb
      have hk' : k = ps.length := by
        have : ¬ (k : Int) < ((ps.map payA).length : Nat) := by simpa using hb
        simp at this; omega
      subst hk'
      unfold Best at hB
      rw [List.take_length] at hB
      constructor
      · intro hlt
        have hlt : best < 0 := by simpa using hlt
        have hr : rst 0 ps tk = [] := by
          rcases hB with ⟨_, h⟩ | ⟨j, q, j1, _⟩
          · exact h
          · omega
        rw [hr, List.append_nil] at hP
        have e : intsA 53000 (places ps) = .sl (.own 53000) 3 (.int .i64 o.2 :: os.map fun p => AV.int .i64 p.2) := by
          unfold places
          rw [← srt_uniq hP hS, ← outs_ints]
          rfl
        rw [e] at hK
        exact hK
      · intro hlt
        have hlt : ¬ best < 0 := by simpa using hlt
        obtain ⟨j, q, j1, j2, j3, j4, j5, j6⟩ : ∃ (j : Nat) (q : Pay), best = (j : Int) ∧ ps[j]? = some q ∧ q.g = 0 ∧ tk[j]? = some false ∧ j < ps.length ∧ ∀ y ∈ rst 0 ps tk, ¬ lt y (q.u, (j : Int)) := by
          rcases hB with ⟨h1, _⟩ | h
          · omega
          · exact h
        have g0 : 0 ≤ best := by omega
        have g1 : (tk.map AV.bool)[best.toNat]? = some (.bool false) := by
          rw [j1, List.getElem?_map]
          show (tk[j]?).map _ = _
          rw [j4]; rfl
        have hs := rst_set (k0 := 0) j2 j4 j3
        rw [Nat.zero_add] at hs
        have hb2 : ((AV.int .i64 o.2 :: os.map fun p => AV.int .i64 p.2).length + 1) * 8 ≤ 140737488355328 := by simp at hol ⊢; omega
        have heq : AV.sl (.own 53000) 3 ((.int .i64 o.2 :: os.map fun p => AV.int .i64 p.2) ++ [.int .i64 best]) = outsA 53000 ((o :: os) ++ [(q.u, (j : Int))]) := by rw [j1]; simp [outsA]
        refine ⟨_, g0, g1, hb2, ?_⟩
        have hsl := hs.length_eq
        refine ⟨_, (by simp at hsl; omega : (rst 0 ps (tk.set j true)).length < (rst 0 ps tk).length), tk.set j true, (o :: os) ++ [(q.u, (j : Int))], ⟨by simp [hT], ?_, ?_, ?_⟩, rfl, rfl, ?_, heq⟩
        · rw [List.append_assoc]
          exact (hs.symm.append_left _).trans hP
        · refine List.pairwise_append.2 ⟨hS, List.pairwise_singleton _ _, fun a ha b hb => ?_⟩
          rcases List.mem_singleton.1 hb with rfl
          exact hX a ha _ (hs.mem_iff.2 (List.mem_cons_self ..))
        · intro a ha b hb
          have hb' := hs.mem_iff.2 (List.mem_cons_of_mem _ hb)
          rcases List.mem_append.1 ha with ha | ha
          · exact hX a ha b hb'
          · rcases List.mem_singleton.1 ha with rfl
            exact j6 b hb'
        · have : AV.sl (.own 10000) 4 ((tk.map AV.bool).modify best.toNat (fun x => x.ofCells (putCells x.cells 0 [.bool true]))) = .sl (.own 10000) 4 ((tk.set j true).map AV.bool) := by
            rw [bools_put, j1]; rfl
          exact this
end Go.Proofs.Ytgikhdaildaonaa.A
