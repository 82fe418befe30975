/- Seat 13: DueCount's walk. -/
import Derived.Test.YtgikhdaildaonaaC6
namespace Go.Proofs.Ytgikhdaildaonaa.A
open Go P
def dueCountC (args : List AV) (bs : List Box) (K : AV → List Box → Prop) : Prop := bs = [] ∧ ∃ (qs : List Paid), args = [.sl .fz 31 (qs.map paidA)] ∧ (∀ q ∈ qs, Paid.Ok q) ∧ K (.bool true) []
def seenE (n : Int) : AV × AV := (.int .i64 n, .bool true)
theorem keyEq_i (a b : Int) : keyEq (.int .i64 a) (.int .i64 b) = some (a == b) := rfl
theorem mfind_new {k : Int} : ∀ {l : List Int}, k ∉ l → mfind (.int .i64 k) (l.map seenE) = some none
  | [], _ => rfl
  | n :: l, h => by
    have h1 : ¬ k = n := fun e => h (e ▸ List.mem_cons_self ..)
    have e : (k == n) = false := by simpa using h1
    simp only [List.map_cons, seenE, mfind, keyEq_i, e]
    exact mfind_new (fun hm => h (List.mem_cons_of_mem _ hm))
theorem mset_new {k : Int} : ∀ {l : List Int}, k ∉ l → mset (.int .i64 k) (.bool true) (l.map seenE) = some ((l ++ [k]).map seenE)
  | [], _ => rfl
  | n :: l, h => by
    have h1 : ¬ k = n := fun e => h (e ▸ List.mem_cons_self ..)
    have e : (k == n) = false := by simpa using h1
    have ih := mset_new (l := l) (fun hm => h (List.mem_cons_of_mem _ hm))
    simp only [List.map_cons, List.cons_append]
    show mset (.int .i64 k) (.bool true) ((.int .i64 n, .bool true) :: l.map seenE) = some ((.int .i64 n, .bool true) :: (l ++ [k]).map seenE)
    simp only [mset, keyEq_i, e, ih]
theorem opens_lt {ps : List Pay} : ∀ {k0 : Nat} {x : P2}, x ∈ opens k0 ps → (k0 : Int) ≤ x.2 := by
  intro k0 x h
  obtain ⟨i, p, h1, _⟩ := opens_mem h
  rw [h1]; omega
theorem opens_nodup (ps : List Pay) : ∀ k0, ((opens k0 ps).map (·.2)).Nodup := by
  induction ps with
  | nil => intro k0; simp [opens]
  | cons p ps ih =>
    intro k0
    unfold opens
    split
    · rw [List.map_cons, List.nodup_cons]
      refine ⟨fun hm => ?_, ih _⟩
      obtain ⟨x, hx, e⟩ := List.mem_map.1 hm
      have := opens_lt hx
      simp only at e
      rw [e] at this
      omega
    · exact ih _
theorem places_nodup (ps : List Pay) : (places ps).Nodup := by
  have h : (places ps).Perm ((opens 0 ps).map (·.2)) := (srt_perm (opens 0 ps)).map _
  exact h.nodup_iff.2 (opens_nodup ps 0)
theorem seen_map {φ : AV → AV} (h : φ (.bool true) = .bool true) (l : List Int) : (l.map seenE).map (fun p => (p.1, AV.tr φ p.2)) = l.map seenE := by
  rw [List.map_map]
  apply List.map_congr_left
  intro n _
  show (AV.int .i64 n, AV.tr φ (.bool true)) = seenE n
  have : AV.tr φ (.bool true) = .bool true := by unfold AV.tr; exact h
  rw [this]; rfl
theorem places_mem {ps : List Pay} {k : Int} (h : k ∈ places ps) : ∃ (i : Nat) (p : Pay), k = (i : Int) ∧ ps[i]? = some p ∧ p.g = 0 := by
  rw [places_eq] at h
  obtain ⟨x, hx, rfl⟩ := List.mem_map.1 h
  obtain ⟨i, p, h1, h2, _, h4⟩ := L_mem hx
  exact ⟨i, p, h1, h2, h4⟩
theorem places_count (ps : List Pay) : (places ps).length = (opens 0 ps).length := by
  rw [places_eq, List.length_map]; exact (srt_perm _).length_eq
set_option maxHeartbeats 1600000 in
set_option maxRecDepth 200000 in
theorem dueCount_ok : FnOk Try.prog tab 5 dueCountC := by
  refine fn_ok (E := F5 0 pl5) tab_is R5_ok (F5_J _ _) Try.func5 rfl rfl (by kernel_rfl) ?_
  rintro args bs K ⟨rfl, qs, rfl, hq, hK⟩
  refine ⟨rfl, ?_⟩
  have l1 := paysOf_len qs
  refine ⟨rfl, rfl, ?_⟩
  refine ⟨fun h => (by cases h), fun _ => ?_⟩
  refine ⟨rfl, qs, rfl, hq, ?_⟩
  refine ⟨[.sl .fz 34 ((paysOf qs).map payA)], ⟨.inl rfl, trivial⟩, rfl, paysOf qs, rfl, by omega, ?_⟩
  revert hK
  generalize hps : paysOf qs = ps at l1 ⊢
  intro hK
  have hpl := places_len ps
  refine ⟨fun m s => ∃ (i : Nat), (i ≤ (places ps).length) ∧ (places ps).length - i = m ∧ s.t 3 = .sl .fz 34 (ps.map payA) ∧ s.t 4 = .mp 14 ∧ s.t 16 = .sl .fz 3 (iA (places ps)) ∧ s.t 17 = .int .i64 ((iA (places ps)).length : Nat) ∧ s.t 18 = .int .i64 i ∧ s.h 14 = some (.mapo (((places ps).take i).map seenE)),
      ⟨_, 0, Nat.zero_le _, rfl, rfl, rfl, rfl, rfl, rfl, (by kernel_rfl)⟩, ?_⟩
  rintro _ ⟨t1, h1⟩ ⟨i, hi, rfl, e3, e4, e16, e17, e18, e14⟩
  have e3 : t1 3 = .sl .fz 34 (ps.map payA) := e3
  have e4 : t1 4 = .mp 14 := e4
  have e16 : t1 16 = .sl .fz 3 (iA (places ps)) := e16
  have e17 : t1 17 = .int .i64 ((iA (places ps)).length : Nat) := e17
  have e18 : t1 18 = .int .i64 i := e18
  have e14 : h1 14 = some (.mapo (((places ps).take i).map seenE)) := e14
  have w : IntKind.i64.wrap ((i : Int) + 1) = ((i + 1 : Nat) : Int) := by rw [wrap_of] <;> omega
  rw [← updL_has t1 [(3, .sl .fz 34 (ps.map payA)), (4, .mp 14), (16, .sl .fz 3 (iA (places ps))), (17, .int .i64 ((iA (places ps)).length : Nat)), (18, .int .i64 i)] ⟨e3, e4, e16, e17, e18, trivial⟩, ← updL_has h1 [(14, some (.mapo (((places ps).take i).map seenE)))] ⟨e14, trivial⟩]
  constructor
  · intro hb
    have hi' : i < (places ps).length := by
      have : (i : Int) < ((iA (places ps)).length : Nat) := by simpa using hb
      rw [iA_len] at this; omega
    obtain ⟨k, p, k1, k2, k3⟩ := places_mem (List.getElem_mem hi')
    have hkl := (List.getElem?_eq_some_iff.1 k2).1
    have hx0 : 0 ≤ (places ps)[i] := by rw [k1]; omega
    have hx : (ps.map payA)[(places ps)[i].toNat]? = some (payA p) := by rw [k1]; exact payA_of k2
    have hnew : (places ps)[i] ∉ (places ps).take i := by
      intro hm
      have hn := places_nodup ps
      rw [← List.take_append_drop i (places ps)] at hn
      have hd : (places ps)[i] ∈ (places ps).drop i := by
        rw [List.drop_eq_getElem_cons hi']; exact List.mem_cons_self ..
      exact (List.pairwise_append.1 hn).2.2 _ hm _ hd rfl
    refine ⟨_, Int.natCast_nonneg i, iA_get hi', ?_⟩
    constructor
    · intro hc
      exfalso
      have : (places ps)[i] < 0 := by simpa using hc
      omega
    · intro _
      constructor
      · intro hc
        exfalso
        have : (places ps)[i] ≥ ((ps.map payA).length : Nat) := by simpa using hc
        rw [k1, List.length_map] at this
        omega
      · intro _
        refine ⟨_, hx0, hx, ?_⟩
        constructor
        · intro hc
          exfalso
          have : ¬ p.g = 0 := by simpa using hc
          exact this k3
        · intro _
          refine ⟨none, mfind_new hnew, ?_⟩
          refine ⟨fun h => (by cases h), fun _ => ?_⟩
          refine ⟨_, mset_new hnew, ?_⟩
          refine ⟨_, (by omega : (places ps).length - (i + 1) < (places ps).length - i), i + 1, hi', rfl, rfl, rfl, rfl, rfl, congrArg (AV.int .i64) w, ?_⟩
          rw [List.take_succ_eq_append_getElem hi']
          rfl
  · intro hb
    have hi' : i = (places ps).length := by
      have : ¬ (i : Int) < ((iA (places ps)).length : Nat) := by simpa using hb
      rw [iA_len] at this; omega
    subst hi'
    rw [List.take_length]
    refine ⟨fun m s => ∃ (k : Nat), (k ≤ ps.length) ∧ ps.length - k = m ∧ s.t 4 = .mp 14 ∧ s.t 7 = .int .i64 ((opens 0 (ps.take k)).length : Nat) ∧ s.t 46 = .sl .fz 34 (ps.map payA) ∧ s.t 47 = .int .i64 ((ps.map payA).length : Nat) ∧ s.t 48 = .int .i64 k ∧ s.h 14 = some (.mapo ((places ps).map seenE)),
      ⟨_, 0, Nat.zero_le _, rfl, rfl, rfl, rfl, rfl, rfl, rfl⟩, ?_⟩
    rintro _ ⟨t2, h2⟩ ⟨k, hk, rfl, f4, f7, f46, f47, f48, f14⟩
    have f4 : t2 4 = .mp 14 := f4
    have f7 : t2 7 = .int .i64 ((opens 0 (ps.take k)).length : Nat) := f7
    have f46 : t2 46 = .sl .fz 34 (ps.map payA) := f46
    have f47 : t2 47 = .int .i64 ((ps.map payA).length : Nat) := f47
    have f48 : t2 48 = .int .i64 k := f48
    have f14 : h2 14 = some (.mapo ((places ps).map seenE)) := f14
    have wk : IntKind.i64.wrap ((k : Int) + 1) = ((k + 1 : Nat) : Int) := by rw [wrap_of] <;> omega
    have hol := opens_len 0 (ps.take k)
    have wo : IntKind.i64.wrap (((opens 0 (ps.take k)).length : Nat) + 1 : Int) = (((opens 0 (ps.take k)).length + 1 : Nat) : Int) := by
      simp at hol
      rw [wrap_of] <;> omega
    rw [← updL_has t2 [(4, .mp 14), (7, .int .i64 ((opens 0 (ps.take k)).length : Nat)), (46, .sl .fz 34 (ps.map payA)), (47, .int .i64 ((ps.map payA).length : Nat)), (48, .int .i64 k)] ⟨f4, f7, f46, f47, f48, trivial⟩, ← updL_has h2 [(14, some (.mapo ((places ps).map seenE)))] ⟨f14, trivial⟩]
    constructor
    · intro hb
      have hk' : k < ps.length := by
        have : (k : Int) < ((ps.map payA).length : Nat) := by simpa using hb
        simp at this; omega
      have hpg : ps[k]? = some ps[k] := List.getElem?_eq_getElem hk'
      have ht := opens_take hpg 0
      refine ⟨_, Int.natCast_nonneg k, pay_get hk', ?_⟩
      constructor
      · intro hg
        have hg : ps[k].g = 0 := by simpa using hg
        rw [if_pos hg] at ht
        refine ⟨_, (by omega : ps.length - (k + 1) < ps.length - k), k + 1, hk', rfl, rfl, ?_, rfl, rfl, congrArg (AV.int .i64) wk, congrArg (fun es => some (Box.mapo es)) (seen_map (φ := fgtB 9) rfl _)⟩
        rw [ht, List.length_append]
        exact congrArg (AV.int .i64) wo
      · intro hg
        have hg : ¬ ps[k].g = 0 := by simpa using hg
        rw [if_neg hg, List.append_nil] at ht
        refine ⟨_, (by omega : ps.length - (k + 1) < ps.length - k), k + 1, hk', rfl, rfl, ?_, rfl, rfl, congrArg (AV.int .i64) wk, congrArg (fun es => some (Box.mapo es)) (seen_map (φ := fgtB 9) rfl _)⟩
        rw [ht]
        rfl
    · intro hb
      have hk' : k = ps.length := by
        have : ¬ (k : Int) < ((ps.map payA).length : Nat) := by simpa using hb
        simp at this; omega
      subst hk'
      have e : ((((opens 0 (ps.take ps.length)).length : Nat) : Int) == ((((places ps).map seenE).length : Nat) : Int)) = true := by
        rw [List.take_length, List.length_map, places_count]; simp
      rw [← e] at hK
      exact hK
end Go.Proofs.Ytgikhdaildaonaa.A
