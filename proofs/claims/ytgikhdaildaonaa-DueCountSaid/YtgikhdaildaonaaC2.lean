/- Seat 13: same, By, Next. -/
import Derived.Test.YtgikhdaildaonaaC1
import Derived.Test.YtgikhdaildaonaaA13
import Derived.Test.YtgikhdaildaonaaP2
namespace Go.Proofs.Ytgikhdaildaonaa.A
open Go P
def iA (l : List Int) : List AV := l.map (AV.int .i64)
theorem fz_ints (F : Nat) (l : List Int) : Fz (intsA F l) (.sl .fz 3 (iA l)) := by
  cases l with
  | nil => exact .inr ⟨_, _, rfl, rfl⟩
  | cons n l => exact .inl ⟨_, _, _, rfl, rfl⟩
def allC (args : List AV) (bs : List Box) (K : AV → List Box → Prop) : Prop := bs = [] ∧ ∃ ps, args = [.sl .fz 34 (ps.map payA)] ∧ ps.length < 90000 ∧ K (.sl .fz 3 (iA (places ps))) []
theorem all_okC : FnOk Try.prog tab 12 allC := all_ok.fz.mono (by
  rintro args bs K ⟨rfl, ps, rfl, hN, hK⟩
  exact ⟨rfl, _, ps, rfl, rfl, .inl rfl, hN, _, fz_ints _ _, hK⟩)
def R1 : Contract
  | 12 => nilC allC
  | _ => fun _ _ _ => False
theorem R1_ok : CallOk Try.prog tab R1 := by
  intro f args bs K h
  unfold R1 at h
  split at h
  · exact ⟨_, h, all_okC.nil⟩
  · exact h.elim
def F1 (D : Nat) (pl : Nat → Plan) : En := ⟨tab, R1, fun _ => none, D, pl⟩
theorem F1_J (D : Nat) (pl : Nat → Plan) : JOk Try.prog (F1 D pl).T (F1 D pl).J := fun _ _ h => by cases h
def sameC (args : List AV) (bs : List Box) (K : AV → List Box → Prop) : Prop := bs = [] ∧ ∃ a b : List Int, args = [.sl .fz 3 (iA a), .sl .fz 3 (iA b)] ∧ a.length < 100000 ∧ b.length < 100000 ∧ K (.bool (decide (a = b))) []
theorem iA_get {l : List Int} {i : Nat} (h : i < l.length) : (iA l)[i]? = some (.int .i64 l[i]) := by
  unfold iA
  rw [List.getElem?_map, List.getElem?_eq_getElem h]; rfl
theorem iA_len (l : List Int) : (iA l).length = l.length := by simp [iA]
set_option maxRecDepth 20000 in
theorem same_ok : FnOk Try.prog tab 11 sameC := by
  refine fn_ok (E := F1 0 pl11) tab_is R1_ok (F1_J _ _) Try.func11 rfl rfl (by kernel_rfl) ?_
  rintro args bs K ⟨rfl, a, b, rfl, ha, hb, hK⟩
  refine ⟨rfl, ?_⟩
  have fin : ∀ c, c = decide (a = b) → K (.bool c) [] := fun c e => e ▸ hK
  constructor
  · intro h
    have h : ¬ a.length = b.length := by
      have : ¬ (((iA a).length : Nat) : Int) = ((iA b).length : Nat) := by simpa using h
      rw [iA_len, iA_len] at this; omega
    refine fin _ ?_
    have : ¬ a = b := fun e => h (congrArg _ e)
    simp [this]
  · intro h
    have h : a.length = b.length := by
      have : (((iA a).length : Nat) : Int) = ((iA b).length : Nat) := by simpa using h
      rw [iA_len, iA_len] at this; omega
    refine ⟨fun m s => ∃ (i : Nat), (i ≤ a.length ∧ a.take i = b.take i) ∧ a.length - i = m ∧ s.t 0 = .sl .fz 3 (iA a) ∧ s.t 1 = .sl .fz 3 (iA b) ∧ s.t 12 = .int .i64 ((iA a).length : Nat) ∧ s.t 13 = .int .i64 i,
      ⟨_, 0, ⟨Nat.zero_le _, rfl⟩, rfl, rfl, rfl, rfl, rfl⟩, ?_⟩
    rintro _ ⟨t1, h1⟩ ⟨i, ⟨hi, hT⟩, rfl, e0, e1, e12, e13⟩
    have e0 : t1 0 = .sl .fz 3 (iA a) := e0
    have e1 : t1 1 = .sl .fz 3 (iA b) := e1
    have e12 : t1 12 = .int .i64 ((iA a).length : Nat) := e12
    have e13 : t1 13 = .int .i64 i := e13
    rw [← updL_has t1 [(0, .sl .fz 3 (iA a)), (1, .sl .fz 3 (iA b)), (12, .int .i64 ((iA a).length : Nat)), (13, .int .i64 i)] ⟨e0, e1, e12, e13, trivial⟩]
    constructor
    · intro hb'
      have hi' : i < a.length := by
        have : (i : Int) < ((iA a).length : Nat) := by simpa using hb'
        rw [iA_len] at this; omega
      have w : IntKind.i64.wrap ((i : Int) + 1) = ((i + 1 : Nat) : Int) := by rw [wrap_of] <;> omega
      refine ⟨_, Int.natCast_nonneg i, iA_get hi', _, Int.natCast_nonneg i, iA_get (h ▸ hi'), ?_⟩
      constructor
      · intro hne
        have hne : ¬ a[i] = b[i] := by simpa using hne
        refine fin _ ?_
        have : ¬ a = b := fun e => hne (by subst e; rfl)
        simp [this]
      · intro heq
        have heq : a[i] = b[i] := by simpa using heq
        refine ⟨_, (by omega : a.length - (i + 1) < a.length - i), i + 1, ⟨hi', ?_⟩, rfl, rfl, rfl, rfl, congrArg (AV.int .i64) w⟩
        rw [List.take_succ_eq_append_getElem hi', List.take_succ_eq_append_getElem (h ▸ hi'), hT, heq]
    · intro hb'
      have hi' : i = a.length := by
        have : ¬ (i : Int) < ((iA a).length : Nat) := by simpa using hb'
        rw [iA_len] at this; omega
      subst hi'
      refine fin _ ?_
      have : a = b := by
        rw [List.take_length] at hT
        rw [hT, h, List.take_length]
      simp [this]
def nextC (args : List AV) (bs : List Box) (K : AV → List Box → Prop) : Prop := bs = [] ∧ ∃ ps, args = [.sl .fz 34 (ps.map payA)] ∧ ps.length < 90000 ∧
  K (match L ps with
    | [] => .tup [.int .i64 0, .bool false]
    | x :: _ => .tup [.int .i64 x.1, .bool true]) []
theorem payA_of {ps : List Pay} {i : Nat} {p : Pay} (h : ps[i]? = some p) : (ps.map payA)[i]? = some (payA p) := by
  rw [List.getElem?_map, h]; rfl
set_option maxRecDepth 20000 in
theorem next_ok : FnOk Try.prog tab 16 nextC := by
  refine fn_ok (E := F1 0 pl16) tab_is R1_ok (F1_J _ _) Try.func16 rfl rfl (by kernel_rfl) ?_
  rintro args bs K ⟨rfl, ps, rfl, hN, hK⟩
  refine ⟨rfl, ?_⟩
  refine ⟨[.sl .fz 34 (ps.map payA)], ⟨.inl rfl, trivial⟩, rfl, ps, rfl, hN, ?_⟩
  cases hl : L ps with
  | nil =>
    rw [places_eq, hl]
    rw [hl] at hK
    refine ⟨fun _ => ?_, fun h => by cases h⟩
    exact hK
  | cons x xs =>
    obtain ⟨i, p, h1, h2, h3, h4⟩ := L_mem (hl ▸ List.mem_cons_self .. : x ∈ L ps)
    rw [places_eq, hl]
    rw [hl] at hK
    constructor
    · intro h
      exfalso
      have : (((x :: xs).map fun p : P2 => AV.int .i64 p.2).length : Int) = 0 := by simpa [iA] using h
      simp at this; omega
    · intro _
      have hx0 : 0 ≤ x.2 := by rw [h1]; omega
      have hx : (ps.map payA)[x.2.toNat]? = some (payA p) := by rw [h1]; exact payA_of h2
      refine ⟨_, Int.le_refl 0, rfl, _, hx0, hx, ?_⟩
      have e : p.u = x.1 := h3
      have hK : K (.tup [.int .i64 x.1, .bool true]) [] := hK
      rw [← e] at hK
      exact hK

def byC (args : List AV) (bs : List Box) (K : AV → List Box → Prop) : Prop := bs = [] ∧ ∃ ps now, args = [.sl .fz 34 (ps.map payA), .int .i64 now] ∧ ps.length < 90000 ∧ K (intsA 25000 ((by' ps now).map (·.2))) []
set_option maxRecDepth 20000 in
theorem by_ok : FnOk Try.prog tab 15 byC := by
  refine fn_ok (E := F1 0 pl15) tab_is R1_ok (F1_J _ _) Try.func15 rfl rfl (by kernel_rfl) ?_
  rintro args bs K ⟨rfl, ps, now, rfl, hN, hK⟩
  refine ⟨rfl, ?_⟩
  refine ⟨[.sl .fz 34 (ps.map payA)], ⟨.inl rfl, trivial⟩, rfl, ps, rfl, hN, ?_⟩
  refine ⟨fun m s => ∃ (i : Nat) (out : List P2), (i ≤ (L ps).length ∧ out = (L ps).take i ∧ ∀ p ∈ (L ps).take i, p.1 ≤ now) ∧ (L ps).length - i = m ∧ s.t 0 = .sl .fz 34 (ps.map payA) ∧ s.t 1 = .int .i64 now ∧ s.t 9 = .sl .fz 3 (iA (places ps)) ∧ s.t 10 = .int .i64 ((iA (places ps)).length : Nat) ∧ s.t 11 = .int .i64 i ∧ s.t 5 = outsA 25000 out,
      ⟨_, 0, [], ⟨Nat.zero_le _, rfl, fun p h => absurd h List.not_mem_nil⟩, rfl, rfl, rfl, rfl, rfl, rfl, rfl⟩, ?_⟩
  rintro _ ⟨t1, h1⟩ ⟨i, out, ⟨hi, hO, hX⟩, rfl, e0, e1, e9, e10, e11, e5⟩
  have e0 : t1 0 = .sl .fz 34 (ps.map payA) := e0
  have e1 : t1 1 = .int .i64 now := e1
  have e9 : t1 9 = .sl .fz 3 (iA (places ps)) := e9
  have e10 : t1 10 = .int .i64 ((iA (places ps)).length : Nat) := e10
  have e11 : t1 11 = .int .i64 i := e11
  have hpl : (places ps).length = (L ps).length := by rw [places_eq]; simp
  have hLl := L_len ps
  have fin : ∀ v, v = outsA 25000 out → (by' ps now = (L ps).take i) → K v [] := by
    intro v hv he
    rw [hv, hO, outs_ints, ← he]
    exact hK
  have w : IntKind.i64.wrap ((i : Int) + 1) = ((i + 1 : Nat) : Int) := by rw [wrap_of] <;> omega
  have hol : out.length ≤ ps.length := by
    have := congrArg List.length hO
    simp at this; omega
  cases out with
  | nil =>
    have e5 : t1 5 = .sl .nl 0 [] := e5
    rw [← updL_has t1 [(0, .sl .fz 34 (ps.map payA)), (1, .int .i64 now), (9, .sl .fz 3 (iA (places ps))), (10, .int .i64 ((iA (places ps)).length : Nat)), (11, .int .i64 i), (5, .sl .nl 0 [])] ⟨e0, e1, e9, e10, e11, e5, trivial⟩]
    constructor
    · intro hb
      have hi' : i < (L ps).length := by
        have : (i : Int) < ((iA (places ps)).length : Nat) := by simpa using hb
        rw [iA_len, hpl] at this; omega
      have hgi : (iA (places ps))[i]? = some (.int .i64 (L ps)[i].2) := by
        rw [iA_get (by omega)]
        simp [places_eq]
      obtain ⟨k, p, k1, k2, k3, k4⟩ := L_mem (List.getElem_mem hi')
      have hx0 : 0 ≤ (L ps)[i].2 := by rw [k1]; omega
      have hx : (ps.map payA)[(L ps)[i].2.toNat]? = some (payA p) := by rw [k1]; exact payA_of k2
      refine ⟨_, Int.natCast_nonneg i, hgi, _, hx0, hx, ?_⟩
      constructor
      · intro hgt
        have hgt : ¬ p.u ≤ now := by
          have : p.u > now := by simpa using hgt
          omega
        refine fin _ rfl ?_
        exact tw_end hX (.inr ⟨_, List.getElem?_eq_getElem hi', by rw [← k3]; exact hgt⟩)
      · intro hgt
        have hgt : p.u ≤ now := by
          have : ¬ p.u > now := by simpa using hgt
          omega
        refine ⟨(by decide : 1 * 8 ≤ 140737488355328), ?_⟩
        refine ⟨_, (by omega : (L ps).length - (i + 1) < (L ps).length - i), i + 1, [] ++ [(L ps)[i]], ⟨hi', ?_, ?_⟩, rfl, rfl, rfl, rfl, rfl, congrArg (AV.int .i64) w, rfl⟩
        · rw [List.take_succ_eq_append_getElem hi', ← hO]
        · intro q hq
          rw [List.take_succ_eq_append_getElem hi'] at hq
          rcases List.mem_append.1 hq with hq | hq
          · exact hX q hq
          · rcases List.mem_singleton.1 hq with rfl
            rw [← k3]; exact hgt
    · intro hb
      have hi' : i = (L ps).length := by
        have : ¬ (i : Int) < ((iA (places ps)).length : Nat) := by simpa using hb
        rw [iA_len, hpl] at this; omega
      refine fin _ rfl ?_
      exact tw_end hX (.inl (List.getElem?_eq_none (by omega)))
  | cons o os =>
    have e5 : t1 5 = .sl (.own 25000) 3 (.int .i64 o.2 :: os.map fun p => AV.int .i64 p.2) := e5
    rw [← updL_has t1 [(0, .sl .fz 34 (ps.map payA)), (1, .int .i64 now), (9, .sl .fz 3 (iA (places ps))), (10, .int .i64 ((iA (places ps)).length : Nat)), (11, .int .i64 i), (5, .sl (.own 25000) 3 (.int .i64 o.2 :: os.map fun p => AV.int .i64 p.2))] ⟨e0, e1, e9, e10, e11, e5, trivial⟩]
    constructor
    · intro hb
      have hi' : i < (L ps).length := by
        have : (i : Int) < ((iA (places ps)).length : Nat) := by simpa using hb
        rw [iA_len, hpl] at this; omega
      have hgi : (iA (places ps))[i]? = some (.int .i64 (L ps)[i].2) := by
        rw [iA_get (by omega)]
        simp [places_eq]
      obtain ⟨k, p, k1, k2, k3, k4⟩ := L_mem (List.getElem_mem hi')
      have hx0 : 0 ≤ (L ps)[i].2 := by rw [k1]; omega
      have hx : (ps.map payA)[(L ps)[i].2.toNat]? = some (payA p) := by rw [k1]; exact payA_of k2
      refine ⟨_, Int.natCast_nonneg i, hgi, _, hx0, hx, ?_⟩
      constructor
      · intro hgt
        have hgt : ¬ p.u ≤ now := by
          have : p.u > now := by simpa using hgt
          omega
        refine fin _ rfl ?_
        exact tw_end hX (.inr ⟨_, List.getElem?_eq_getElem hi', by rw [← k3]; exact hgt⟩)
      · intro hgt
        have hgt : p.u ≤ now := by
          have : ¬ p.u > now := by simpa using hgt
          omega
        have hb2 : ((AV.int .i64 o.2 :: os.map fun p => AV.int .i64 p.2).length + 1) * 8 ≤ 140737488355328 := by simp at hol ⊢; omega
        have heq : AV.sl (.own 25000) 3 ((.int .i64 o.2 :: os.map fun p => AV.int .i64 p.2) ++ [.int .i64 (L ps)[i].2]) = outsA 25000 ((o :: os) ++ [(L ps)[i]]) := by simp [outsA]
        refine ⟨hb2, ?_⟩
        refine ⟨_, (by omega : (L ps).length - (i + 1) < (L ps).length - i), i + 1, (o :: os) ++ [(L ps)[i]], ⟨hi', ?_, ?_⟩, rfl, rfl, rfl, rfl, rfl, congrArg (AV.int .i64) w, heq⟩
        · rw [List.take_succ_eq_append_getElem hi', ← hO]
        · intro q hq
          rw [List.take_succ_eq_append_getElem hi'] at hq
          rcases List.mem_append.1 hq with hq | hq
          · exact hX q hq
          · rcases List.mem_singleton.1 hq with rfl
            rw [← k3]; exact hgt
    · intro hb
      have hi' : i = (L ps).length := by
        have : ¬ (i : Int) < ((iA (places ps)).length : Nat) := by simpa using hb
        rw [iA_len, hpl] at this; omega
      refine fin _ rfl ?_
      exact tw_end hX (.inl (List.getElem?_eq_none (by omega)))
theorem by_okC : FnOk Try.prog tab 15 (fun args bs K => bs = [] ∧ ∃ ps now, args = [.sl .fz 34 (ps.map payA), .int .i64 now] ∧ ps.length < 90000 ∧ K (.sl .fz 3 (iA ((by' ps now).map (·.2)))) []) := by_ok.fz.mono (by
  rintro args bs K ⟨rfl, ps, now, rfl, hN, hK⟩
  exact ⟨rfl, rfl, ps, now, rfl, hN, _, fz_ints _ _, hK⟩)
end Go.Proofs.Ytgikhdaildaonaa.A
