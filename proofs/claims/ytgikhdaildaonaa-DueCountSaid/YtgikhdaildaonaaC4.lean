/- Seat 13: Payment, Payments, awake. -/
import Derived.Test.YtgikhdaildaonaaC3
namespace Go.Proofs.Ytgikhdaildaonaa.A
open Go P
structure Paid where
  (a b c d e f u : Int) (h : Bool)
structure Paid.Ok (q : Paid) : Prop where
  a : 0 ≤ q.a ∧ q.a < 256
  b : 0 ≤ q.b ∧ q.b < 256
  c : 0 ≤ q.c ∧ q.c < 256
  d : 0 ≤ q.d ∧ q.d < 256
  e : 0 ≤ q.e ∧ q.e < 256
  f : 0 ≤ q.f ∧ q.f < 256
  u : 0 ≤ q.u ∧ q.u < 256
def paidA (q : Paid) : AV := .agg [.int .u8 q.a, .int .u8 q.b, .int .u8 q.c, .int .u8 q.d, .int .u8 q.e, .int .u8 q.f, .int .u8 q.u, .bool q.h]
def w64 (n : Int) : Int := IntKind.i64.wrap n
def auth (q : Paid) : Int := w64 (1 + w64 q.c)
def capt (q : Paid) : Int := (w64 q.d).tmod (w64 (auth q + 1))
def refu (q : Paid) : Int := (w64 q.e).tmod (w64 (capt q + 1))
def chrg (q : Paid) : Int := (w64 q.f).tmod (w64 (w64 (capt q - refu q) + 1))
def payOf (q : Paid) : Pay := ⟨w64 (9 + w64 (q.a.tmod 6)), w64 (9 + w64 (q.b.tmod 6)), auth q, capt q, refu q, chrg q, w64 (q.u.tmod 20), if q.h = true ∨ capt q = auth q then 1 else 0⟩
theorem auth_eq {q : Paid} (h : q.Ok) : auth q = 1 + q.c := by
  have := h.c
  unfold auth w64
  rw [wrap_of (n := q.c) (by omega) (by omega), wrap_of] <;> omega
theorem tmod_bd {a b : Int} (ha : 0 ≤ a) (hb : 0 < b) : 0 ≤ a.tmod b ∧ a.tmod b < b := ⟨Int.tmod_nonneg _ ha, Int.tmod_lt_of_pos _ hb⟩
theorem capt_bd {q : Paid} (h : q.Ok) : 0 ≤ capt q ∧ capt q ≤ 256 := by
  have h1 := h.c
  have h2 := h.d
  have e := auth_eq h
  unfold capt w64
  rw [wrap_of (n := q.d) (by omega) (by omega), wrap_of (by omega) (by omega)]
  have := tmod_bd (a := q.d) (b := auth q + 1) (by omega) (by omega)
  omega
theorem nz1 {q : Paid} (h : q.Ok) : w64 (auth q + 1) ≠ 0 := by
  have h1 := h.c
  have e := auth_eq h
  unfold w64
  rw [wrap_of (by omega) (by omega)]; omega
theorem nz2 {q : Paid} (h : q.Ok) : w64 (capt q + 1) ≠ 0 := by
  have := capt_bd h
  unfold w64
  rw [wrap_of (by omega) (by omega)]; omega
theorem refu_bd {q : Paid} (h : q.Ok) : 0 ≤ refu q ∧ refu q ≤ capt q := by
  have h1 := h.e
  have e := capt_bd h
  unfold refu w64
  rw [wrap_of (n := q.e) (by omega) (by omega), wrap_of (by omega) (by omega)]
  have := tmod_bd (a := q.e) (b := capt q + 1) (by omega) (by omega)
  omega
theorem nz3 {q : Paid} (h : q.Ok) : w64 (w64 (capt q - refu q) + 1) ≠ 0 := by
  have := capt_bd h
  have := refu_bd h
  unfold w64
  rw [wrap_of (n := capt q - refu q) (by omega) (by omega), wrap_of (by omega) (by omega)]; omega
def payC (args : List AV) (bs : List Box) (K : AV → List Box → Prop) : Prop := bs = [] ∧ ∃ q : Paid, args = [paidA q] ∧ q.Ok ∧ K (payA (payOf q)) []
set_option maxRecDepth 20000 in
theorem pay_ok : FnOk Try.prog tab 14 payC := by
  refine fn_ok (E := F1 0 pl14) tab_is R1_ok (F1_J _ _) Try.func14 rfl rfl (by kernel_rfl) ?_
  rintro args bs K ⟨rfl, q, rfl, hq, hK⟩
  refine ⟨rfl, ?_⟩
  have fin : ∀ g, g = (payOf q).g → K (.agg [.int .i64 (payOf q).a, .int .i64 (payOf q).b, .int .i64 (payOf q).c, .int .i64 (payOf q).d, .int .i64 (payOf q).e, .int .i64 (payOf q).f, .int .i64 (payOf q).u, .int .i64 g]) [] := by
    rintro g rfl; exact hK
  refine ⟨by decide, by decide, by decide, nz1 hq, nz2 hq, nz3 hq, ?_⟩
  constructor
  · intro hh
    refine ⟨fun _ => ?_, fun h => by cases h⟩
    refine fin 1 ?_
    unfold payOf; simp [hh]
  · intro hh
    constructor
    · intro hc
      have hc : capt q = auth q := by
        have : (capt q == auth q) = true := hc
        simpa using this
      refine fin 1 ?_
      unfold payOf; simp [hc]
    · intro hc
      have hc : ¬ capt q = auth q := by
        have : (capt q == auth q) = false := hc
        simpa using this
      refine fin 0 ?_
      unfold payOf; simp [hc, hh]
def R2 : Contract
  | 14 => payC
  | _ => fun _ _ _ => False
theorem R2_ok : CallOk Try.prog tab R2 := by
  intro f args bs K h
  unfold R2 at h
  split at h
  · exact ⟨_, h, pay_ok⟩
  · exact h.elim
def F2 (D : Nat) (pl : Nat → Plan) : En := ⟨tab, R2, fun _ => none, D, pl⟩
theorem F2_J (D : Nat) (pl : Nat → Plan) : JOk Try.prog (F2 D pl).T (F2 D pl).J := fun _ _ h => by cases h
def paysA (F : Nat) (l : List Pay) : AV := match l with
  | [] => .sl .nl 0 []
  | n :: l => .sl (.own F) 34 (payA n :: l.map payA)
def paysOf (qs : List Paid) : List Pay := (qs.take 300).map payOf
def paysC (args : List AV) (bs : List Box) (K : AV → List Box → Prop) : Prop := bs = [] ∧ ∃ qs : List Paid, args = [.sl .fz 31 (qs.map paidA)] ∧ (∀ q ∈ qs, q.Ok) ∧ K (paysA 20000 (paysOf qs)) []
theorem paid_of {qs : List Paid} {i : Nat} (h : i < qs.length) : (qs.map paidA)[i]? = some (paidA qs[i]) := by
  rw [List.getElem?_map, List.getElem?_eq_getElem h]; rfl
set_option maxRecDepth 20000 in
theorem pays_ok : FnOk Try.prog tab 10 paysC := by
  refine fn_ok (E := F2 0 pl10) tab_is R2_ok (F2_J _ _) Try.func10 rfl rfl (by kernel_rfl) ?_
  rintro args bs K ⟨rfl, qs, rfl, hq, hK⟩
  refine ⟨rfl, ?_⟩
  have m0 : 0 ≤ (if (300 : Int) < ((qs.map paidA).length : Nat) then (300 : Int) else ((qs.map paidA).length : Nat)) := by split <;> omega
  have m1 : (if (300 : Int) < ((qs.map paidA).length : Nat) then (300 : Int) else ((qs.map paidA).length : Nat)).toNat = min 300 qs.length := by
    rw [List.length_map]; split <;> omega
  have m2 : (if (300 : Int) < ((qs.map paidA).length : Nat) then (300 : Int) else ((qs.map paidA).length : Nat)).toNat ≤ (qs.map paidA).length := by
    rw [m1, List.length_map]; omega
  have m3 : ((qs.map paidA).take (if (300 : Int) < ((qs.map paidA).length : Nat) then (300 : Int) else ((qs.map paidA).length : Nat)).toNat).drop 0 = (qs.take 300).map paidA := by
    rw [m1, List.drop_zero, ← List.map_take]
    congr 1
    by_cases h : 300 ≤ qs.length
    · rw [Nat.min_eq_left h]
    · rw [Nat.min_eq_right (by omega), List.take_length, List.take_of_length_le (by omega)]
  refine ⟨m0, Nat.zero_le _, m2, ?_⟩
  refine ⟨fun m s => ∃ (i : Nat) (out : List Pay), (i ≤ (qs.take 300).length ∧ out = ((qs.take 300).take i).map payOf) ∧ (qs.take 300).length - i = m ∧ s.t 10 = .sl .fz 31 ((qs.take 300).map paidA) ∧ s.t 11 = .int .i64 (((qs.take 300).map paidA).length : Nat) ∧ s.t 12 = .int .i64 i ∧ s.t 3 = paysA 20000 out,
      ⟨_, 0, [], ⟨Nat.zero_le _, rfl⟩, rfl, congrArg (AV.sl .fz 31) m3, congrArg (fun l : List AV => AV.int .i64 (l.length : Nat)) m3, rfl, rfl⟩, ?_⟩
  rintro _ ⟨t1, h1⟩ ⟨i, out, ⟨hi, hO⟩, rfl, e10, e11, e12, e3⟩
  have e10 : t1 10 = .sl .fz 31 ((qs.take 300).map paidA) := e10
  have e11 : t1 11 = .int .i64 (((qs.take 300).map paidA).length : Nat) := e11
  have e12 : t1 12 = .int .i64 i := e12
  have hl3 : (qs.take 300).length ≤ 300 := by simp; omega
  have w : IntKind.i64.wrap ((i : Int) + 1) = ((i + 1 : Nat) : Int) := by rw [wrap_of] <;> omega
  have hol : out.length ≤ 300 := by
    have := congrArg List.length hO
    simp at this; omega
  cases out with
  | nil =>
    have e3 : t1 3 = .sl .nl 0 [] := e3
    rw [← updL_has t1 [(10, .sl .fz 31 ((qs.take 300).map paidA)), (11, .int .i64 (((qs.take 300).map paidA).length : Nat)), (12, .int .i64 i), (3, .sl .nl 0 [])] ⟨e10, e11, e12, e3, trivial⟩]
    constructor
    · intro hb
      have hi' : i < (qs.take 300).length := by
        have : (i : Int) < (((qs.take 300).map paidA).length : Nat) := by simpa using hb
        rw [List.length_map] at this; omega
      have hok : ((qs.take 300)[i]).Ok := hq _ (List.mem_of_mem_take (List.getElem_mem hi'))
      refine ⟨_, Int.natCast_nonneg i, paid_of hi', ?_⟩
      refine ⟨rfl, (qs.take 300)[i], rfl, hok, ?_⟩
      refine ⟨(by decide : 1 * 64 ≤ 140737488355328), ?_⟩
      refine ⟨_, (by omega : (qs.take 300).length - (i + 1) < (qs.take 300).length - i), i + 1, [] ++ [payOf (qs.take 300)[i]], ⟨hi', ?_⟩, rfl, rfl, rfl, congrArg (AV.int .i64) w, rfl⟩
      rw [List.take_succ_eq_append_getElem hi', List.map_append, ← hO]
      rfl
    · intro hb
      have hi' : i = (qs.take 300).length := by
        have : ¬ (i : Int) < (((qs.take 300).map paidA).length : Nat) := by simpa using hb
        rw [List.length_map] at this; omega
      subst hi'
      rw [List.take_length] at hO
      unfold paysOf at hK
      rw [← hO] at hK
      exact hK
  | cons o os =>
    have e3 : t1 3 = .sl (.own 20000) 34 (payA o :: os.map payA) := e3
    rw [← updL_has t1 [(10, .sl .fz 31 ((qs.take 300).map paidA)), (11, .int .i64 (((qs.take 300).map paidA).length : Nat)), (12, .int .i64 i), (3, .sl (.own 20000) 34 (payA o :: os.map payA))] ⟨e10, e11, e12, e3, trivial⟩]
    constructor
    · intro hb
      have hi' : i < (qs.take 300).length := by
        have : (i : Int) < (((qs.take 300).map paidA).length : Nat) := by simpa using hb
        rw [List.length_map] at this; omega
      have hok : ((qs.take 300)[i]).Ok := hq _ (List.mem_of_mem_take (List.getElem_mem hi'))
      refine ⟨_, Int.natCast_nonneg i, paid_of hi', ?_⟩
      refine ⟨rfl, (qs.take 300)[i], rfl, hok, ?_⟩
      have hb2 : ((payA o :: os.map payA).length + 1) * 64 ≤ 140737488355328 := by simp at hol ⊢; omega
      have heq : AV.sl (.own 20000) 34 ((payA o :: os.map payA) ++ [payA (payOf (qs.take 300)[i])]) = paysA 20000 ((o :: os) ++ [payOf (qs.take 300)[i]]) := by simp [paysA]
      refine ⟨hb2, ?_⟩
      refine ⟨_, (by omega : (qs.take 300).length - (i + 1) < (qs.take 300).length - i), i + 1, (o :: os) ++ [payOf (qs.take 300)[i]], ⟨hi', ?_⟩, rfl, rfl, rfl, congrArg (AV.int .i64) w, heq⟩
      rw [List.take_succ_eq_append_getElem hi', List.map_append, ← hO]
      rfl
    · intro hb
      have hi' : i = (qs.take 300).length := by
        have : ¬ (i : Int) < (((qs.take 300).map paidA).length : Nat) := by simpa using hb
        rw [List.length_map] at this; omega
      subst hi'
      rw [List.take_length] at hO
      unfold paysOf at hK
      rw [← hO] at hK
      exact hK
theorem pays_okC : FnOk Try.prog tab 10 (fun args bs K => bs = [] ∧ ∃ qs : List Paid, args = [.sl .fz 31 (qs.map paidA)] ∧ (∀ q ∈ qs, q.Ok) ∧ K (.sl .fz 34 ((paysOf qs).map payA)) []) := pays_ok.fz.mono (by
  rintro args bs K ⟨rfl, qs, rfl, hq, hK⟩
  refine ⟨rfl, rfl, qs, rfl, hq, _, ?_, hK⟩
  cases paysOf qs with
  | nil => exact .inr ⟨_, _, rfl, rfl⟩
  | cons n l => exact .inl ⟨_, _, _, rfl, rfl⟩)
def R3 : Contract
  | 12 => nilC allC
  | 16 => nilC nextC
  | _ => fun _ _ _ => False
theorem R3_ok : CallOk Try.prog tab R3 := by
  intro f args bs K h
  unfold R3 at h
  split at h
  · exact ⟨_, h, all_okC.nil⟩
  · exact ⟨_, h, next_ok.nil⟩
  · exact h.elim
def F3 (D : Nat) (pl : Nat → Plan) : En := ⟨tab, R3, fun _ => none, D, pl⟩
theorem F3_J (D : Nat) (pl : Nat → Plan) : JOk Try.prog (F3 D pl).T (F3 D pl).J := fun _ _ h => by cases h
def awakeC (args : List AV) (bs : List Box) (K : AV → List Box → Prop) : Prop := bs = [] ∧ args = [] ∧ K (.bool true) []
def un (n : Int) : Pay := ⟨0, 0, 0, 0, 0, 0, n, 0⟩
theorem pl_ex : places [un 5, un 3, un 5] = [1, 0, 2] := by decide
theorem L_ex : L [un 5, un 3] = [(3, 1), (5, 0)] := by decide
set_option maxRecDepth 20000 in
theorem awake_ok : FnOk Try.prog tab 9 awakeC := by
  refine fn_ok (E := F3 0 pl9) tab_is R3_ok (F3_J _ _) Try.func9 rfl rfl (by kernel_rfl) ?_
  rintro args bs K ⟨rfl, rfl, hK⟩
  refine ⟨rfl, ?_⟩
  refine ⟨[.sl .fz 34 ([un 5, un 3, un 5].map payA)], ⟨.inl rfl, trivial⟩, rfl, [un 5, un 3, un 5], rfl, by decide, ?_⟩
  rw [pl_ex]
  refine ⟨[.sl .fz 34 ([un 5, un 3].map payA)], ⟨.inl rfl, trivial⟩, rfl, [un 5, un 3], rfl, by decide, ?_⟩
  rw [L_ex]
  refine ⟨fun _ => ?_, fun h => absurd h (by decide)⟩
  refine ⟨_, Int.le_refl 0, rfl, ?_⟩
  refine ⟨fun _ => ?_, fun h => absurd h (by decide)⟩
  refine ⟨_, (by decide : (0 : Int) ≤ 1), rfl, ?_⟩
  refine ⟨fun _ => ?_, fun h => absurd h (by decide)⟩
  refine ⟨_, (by decide : (0 : Int) ≤ 2), rfl, ?_⟩
  refine ⟨fun _ => ?_, fun h => absurd h (by decide)⟩
  refine ⟨fun _ => ?_, fun h => absurd h (by decide)⟩
  exact hK
end Go.Proofs.Ytgikhdaildaonaa.A
