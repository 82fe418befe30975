/- OpsMany. -/
import Derived.Test.YtmlgkojmbnjfbaaDoorM11
import Derived.Test.YtmlgkojmbnjfbaaDoorM9
namespace Go.Proofs.YtmlgkojmbnjfbaaDoor.A
open Go Q
def manyA (c : Int) (k : Nat) : Sta := ⟨newL ++ List.replicate k ⟨c, 0, 0⟩, [], [], [], 0⟩
theorem many_open {c : Int} {k : Nat} (hk : k < 55) : doM (manyA c k) ⟨0, 0, c, 0, 0, 0, 0⟩ = (manyA c (k + 1), 0, ((9 + k : Nat) : Int)) := by
  have hl : (manyA c k).accs.length = 9 + k := by simp [manyA, newL]; omega
  have st : doM (manyA c k) ⟨0, 0, c, 0, 0, 0, 0⟩ = openM (manyA c k) ⟨0, 0, c, 0, 0, 0, 0⟩ := rfl
  rw [st]
  unfold openM
  rw [if_neg (by omega), hl]
  simp [manyA, List.replicate_succ']
theorem many_full (c : Int) : doM (manyA c 55) ⟨0, 0, 0, 0, 0, 0, 0⟩ = (manyA c 55, 7, 0) := by
  have st : doM (manyA c 55) ⟨0, 0, 0, 0, 0, 0, 0⟩ = openM (manyA c 55) ⟨0, 0, 0, 0, 0, 0, 0⟩ := rfl
  rw [st]
  unfold openM
  rw [if_pos (by simp [manyA, newL])]
/-- The house's accounts behind a thousand that came of a currency. -/
def house (c : Int) : List Acc := [⟨0, if c = 0 then -1000 else 0, 0⟩, ⟨0, 0, 0⟩, ⟨0, 0, 0⟩, ⟨1, if c = 1 then -1000 else 0, 0⟩, ⟨1, 0, 0⟩, ⟨1, 0, 0⟩, ⟨2, if c = 2 then -1000 else 0, 0⟩, ⟨2, 0, 0⟩, ⟨2, 0, 0⟩]
def manyB (c b : Int) (k : Nat) : Sta := ⟨house c ++ (⟨c, 1000, 2 * k⟩ :: List.replicate 54 ⟨c, 0, 0⟩), List.replicate k ⟨9, b, 2, 0, 0, 0, 5, 0⟩, [], [], 0⟩
theorem many_in0 : doM (manyA 0 55) ⟨0, 1, 9, 0, 1000, 0, 0⟩ = (manyB 0 0 0, 0, 0) := by kernel_rfl
theorem many_in1 : doM (manyA 1 55) ⟨0, 1, 9, 0, 1000, 0, 0⟩ = (manyB 1 0 0, 0, 0) := by kernel_rfl
theorem many_in2 : doM (manyA 2 55) ⟨0, 1, 9, 0, 1000, 0, 0⟩ = (manyB 2 0 0, 0, 0) := by kernel_rfl
theorem many_in {c : Int} (hc : c = 0 ∨ c = 1 ∨ c = 2) (b : Int) : doM (manyA c 55) ⟨0, 1, 9, 0, 1000, 0, 0⟩ = (manyB c b 0, 0, 0) := by
  rcases hc with rfl | rfl | rfl
  · exact many_in0
  · exact many_in1
  · exact many_in2
theorem manyB_len (c b : Int) (k : Nat) : (manyB c b k).accs.length = 64 := by simp [manyB, house]
theorem many_hold {c b : Int} {k : Nat} (hk : k < 64) : holdM (manyB c b k).accs 9 2 = .ok (manyB c b (k + 1)).accs := by
  have h9 : (manyB c b k).accs[(9 : Int).toNat]? = some ⟨c, 1000, 2 * k⟩ := rfl
  unfold holdM
  rw [manyB_len, h9]
  have hf : freeN ⟨c, 1000, 2 * (k : Int)⟩ = 1000 - 2 * k := by unfold freeN; exact w64_of (by simp; omega) (by simp; omega)
  have hw : w64 (2 * (k : Int) + 2) = 2 * ((k + 1 : Nat) : Int) := by rw [w64_of (by omega) (by omega)]; omega
  rw [if_neg (by decide), if_neg (by decide)]
  simp only [hf, hw]
  rw [if_neg (by omega)]
  rfl
theorem many_auth {c b : Int} {k : Nat} (hb : 10 ≤ b ∧ b < 64) (hk : k < 64) : doM (manyB c b k) ⟨0, 3, 9, b, 2, 0, 5⟩ = (manyB c b (k + 1), 0, (k : Int)) := by
  have st : doM (manyB c b k) ⟨0, 3, 9, b, 2, 0, 5⟩ = authM (manyB c b k) ⟨0, 3, 9, b, 2, 0, 5⟩ := rfl
  have hp : (manyB c b k).pays.length = k := by simp [manyB]
  rw [st]
  unfold authM
  simp only [manyB_len, many_hold hk, hp]
  have i1 : isCl ((64 : Nat) : Int) 9 = true := by decide
  have i2 : isCl ((64 : Nat) : Int) b = true := by simp [isCl]; omega
  rw [i1, i2, if_neg (by simp), if_neg (by simp only [manyB]; omega), if_neg (by omega)]
  simp [manyB, withP, List.replicate_succ']
theorem many_more (c : Int) (b : Int) : doM (manyB c b 64) ⟨0, 3, 9, 10, 2, 0, 5⟩ = (manyB c b 64, 7, 0) := by
  have st : doM (manyB c b 64) ⟨0, 3, 9, 10, 2, 0, 5⟩ = authM (manyB c b 64) ⟨0, 3, 9, 10, 2, 0, 5⟩ := rfl
  have hp : (manyB c b 64).pays.length = 64 := by simp [manyB]
  rw [st]
  unfold authM
  simp only [manyB_len, hp]
  rw [if_neg (by decide), if_neg (by simp [manyB]), if_pos (by decide)]
def manyC (args : List AV) (bs : List Box) (K : AV → List Box → Prop) : Prop := bs = [] ∧ ∃ cur n : Int, args = [.int .u8 cur, .int .u8 n] ∧ u8I cur ∧ u8I n ∧ K (.bool true) []
theorem szM (c : Int) {k : Nat} (hk : k ≤ 55) : SzA (manyA c k) := szA_of (by simp [manyA, newL]; omega) (by simp [manyA])
theorem szN (c b : Int) {k : Nat} (hk : k ≤ 64) : SzA (manyB c b k) := szA_of (by rw [manyB_len]; decide) (by simp [manyB]; omega)
def RMa : Contract
  | 15 => newSC
  | 10 => doC
  | 8 => awakeC15
  | _ => fun _ _ _ => False
theorem RMa_ok : CallOk Tryd.prog tab RMa := by
  intro f args bs K h
  unfold RMa at h
  split at h
  · exact ⟨_, h, newS_ok⟩
  · exact ⟨_, h, do_ok⟩
  · exact ⟨_, h, awake15_ok⟩
  · exact h.elim
def RMa_E (pl : Nat → Plan) : En := ⟨tab, RMa, fun _ => none, 0, pl⟩
theorem RMa_J (pl : Nat → Plan) : JOk Tryd.prog (RMa_E pl).T (RMa_E pl).J := fun _ _ h => by cases h
set_option maxRecDepth 200000 in
set_option maxHeartbeats 6400000 in
theorem many_ok : FnOk Tryd.prog tab 5 manyC := by
  refine fn_ok (E := RMa_E pl5) tab_is RMa_ok (RMa_J _) Tryd.func5 rfl rfl (by kernel_rfl) ?_
  rintro args bs K ⟨rfl, cur, n, rfl, hc, hn, hK⟩
  refine ⟨rfl, ?_⟩
  obtain ⟨c0, c1, -⟩ := cur_in hc
  obtain ⟨b, hbe⟩ : ∃ b, b = w64 (10 + w64 (n.tmod 50)) := ⟨_, rfl⟩
  have hb : 10 ≤ b ∧ b < 64 := by
    obtain ⟨q0, q1⟩ := tmod_in hn.1 (show (0 : Int) < 50 by decide)
    rw [hbe, w64_of (n := n.tmod 50) (by omega) (by omega), w64_of (by omega) (by omega)]
    omega
  have hcc : curOf cur = 0 ∨ curOf cur = 1 ∨ curOf cur = 2 := by omega
  refine ⟨rfl, rfl, ?_⟩
  refine ⟨fun h => Bool.noConfusion (show false = true from h), fun _ => ?_⟩
  refine ⟨rfl, rfl, ?_⟩
  refine ⟨fun mm st => ∃ (i : Nat), (i ≤ 55) ∧ 55 - i = mm ∧ st.t 0 = .int .u8 cur ∧ st.t 1 = .int .u8 n ∧ st.t 6 = .int .i64 ((9 + i : Nat) : Int) ∧ st.t 5 = .ptr 5 0 ∧ st.h 5 = staB (manyA (curOf cur) i),
    ⟨_, 0, Nat.zero_le _, rfl, rfl, rfl, rfl, rfl, rfl⟩, ?_⟩
  rintro _ ⟨t1, h1⟩ ⟨i, hi, rfl, e0, e1, e6, e5, b5⟩
  have e0 : t1 0 = .int .u8 cur := e0
  have e1 : t1 1 = .int .u8 n := e1
  have e6 : t1 6 = .int .i64 ((9 + i : Nat) : Int) := e6
  have e5 : t1 5 = .ptr 5 0 := e5
  have b5 : h1 5 = staB (manyA (curOf cur) i) := b5
  rw [← updL_has t1 [(0, .int .u8 cur), (1, .int .u8 n), (6, .int .i64 ((9 + i : Nat) : Int)), (5, .ptr 5 0)] ⟨e0, e1, e6, e5, trivial⟩, ← updL_has h1 [(5, staB (manyA (curOf cur) i))] ⟨b5, trivial⟩]
  constructor
  · intro hbb
    have hi' : i < 55 := by
      have : ((9 + i : Nat) : Int) < 64 := by simpa using hbb
      omega
    have hlt : 55 - (i + 1) < 55 - i := by omega
    have w : IntKind.i64.wrap (((9 + i : Nat) : Int) + 1) = ((9 + (i + 1) : Nat) : Int) := by rw [wrap_of] <;> omega
    refine ⟨(by decide : (3 : Int) ≠ 0), ?_⟩
    refine ⟨rfl, manyA (curOf cur) i, ⟨0, 0, curOf cur, 0, 0, 0, 0⟩, rfl, szM _ (by omega), ?_⟩
    rw [many_open hi']
    refine ⟨fun h => Bool.noConfusion (show false = true from h), fun _ => ?_⟩
    have hid : (((9 + i : Nat) : Int) != ((9 + i : Nat) : Int)) = false := by simp
    refine ⟨fun h => absurd (hid.symm.trans h) (by decide), fun _ => ?_⟩
    exact ⟨_, hlt, i + 1, hi', rfl, rfl, rfl, congrArg (AV.int .i64) w, rfl, rfl⟩
  · intro hbb
    have hi' : i = 55 := by
      have : ¬ ((9 + i : Nat) : Int) < 64 := by simpa using hbb
      omega
    subst hi'
    refine ⟨rfl, manyA (curOf cur) 55, ⟨0, 0, 0, 0, 0, 0, 0⟩, rfl, szM _ (by omega), ?_⟩
    rw [many_full]
    refine ⟨rfl, manyA (curOf cur) 55, ⟨0, 1, 9, 0, 1000, 0, 0⟩, rfl, szM _ (by omega), ?_⟩
    rw [many_in hcc b]
    clear e0 e1 e6 e5 b5
    refine ⟨fun mm st => ∃ (i : Nat), (i ≤ 64) ∧ 64 - i = mm ∧ st.t 1 = .int .u8 n ∧ st.t 12 = .int .i64 (i : Nat) ∧ st.t 5 = .ptr 5 0 ∧ st.t 10 = .ptr 10 0 ∧ st.t 11 = .ptr 11 0 ∧ st.h 5 = staB (manyB (curOf cur) b i) ∧ st.h 10 = some (.cells 40 [.int .i64 7, .int .i64 0]) ∧ st.h 11 = some (.cells 40 [.int .i64 0, .int .i64 0]),
      ⟨_, 0, Nat.zero_le _, rfl, rfl, rfl, rfl, rfl, rfl, rfl, rfl, rfl⟩, ?_⟩
    rintro _ ⟨t1, h1⟩ ⟨i, hi, rfl, e1, e12, e5, e10, e11, b5, b10, b11⟩
    have e1 : t1 1 = .int .u8 n := e1
    have e12 : t1 12 = .int .i64 (i : Nat) := e12
    have e5 : t1 5 = .ptr 5 0 := e5
    have e10 : t1 10 = .ptr 10 0 := e10
    have e11 : t1 11 = .ptr 11 0 := e11
    have b5 : h1 5 = staB (manyB (curOf cur) b i) := b5
    have b10 : h1 10 = some (.cells 40 [.int .i64 7, .int .i64 0]) := b10
    have b11 : h1 11 = some (.cells 40 [.int .i64 0, .int .i64 0]) := b11
    rw [← updL_has t1 [(1, .int .u8 n), (12, .int .i64 (i : Nat)), (5, .ptr 5 0), (10, .ptr 10 0), (11, .ptr 11 0)] ⟨e1, e12, e5, e10, e11, trivial⟩, ← updL_has h1 [(5, staB (manyB (curOf cur) b i)), (10, some (.cells 40 [.int .i64 7, .int .i64 0])), (11, some (.cells 40 [.int .i64 0, .int .i64 0]))] ⟨b5, b10, b11, trivial⟩]
    constructor
    · intro hbb
      have hi' : i < 64 := by
        have : (i : Int) < 64 := by simpa using hbb
        omega
      have hlt : 64 - (i + 1) < 64 - i := by omega
      have w : IntKind.i64.wrap ((i : Int) + 1) = ((i + 1 : Nat) : Int) := by rw [wrap_of] <;> omega
      refine ⟨(by decide : (50 : Int) ≠ 0), ?_⟩
      refine ⟨rfl, manyB (curOf cur) b i, ⟨0, 3, 9, b, 2, 0, 5⟩, by rw [hbe]; rfl, szN _ _ (by omega), ?_⟩
      rw [many_auth hb hi']
      refine ⟨fun h => Bool.noConfusion (show false = true from h), fun _ => ?_⟩
      have hid : ((i : Int) != (i : Int)) = false := by simp
      refine ⟨fun h => absurd (hid.symm.trans h) (by decide), fun _ => ?_⟩
      exact ⟨_, hlt, i + 1, hi', rfl, rfl, congrArg (AV.int .i64) w, rfl, rfl, rfl, rfl, rfl, rfl⟩
    · intro hbb
      have hi' : i = 64 := by
        have : ¬ (i : Int) < 64 := by simpa using hbb
        omega
      subst hi'
      refine ⟨rfl, manyB (curOf cur) b 64, ⟨0, 3, 9, 10, 2, 0, 5⟩, rfl, szN _ _ (by omega), ?_⟩
      rw [many_more]
      refine ⟨fun _ => ?_, fun h => Bool.noConfusion (show true = false from h)⟩
      refine ⟨fun _ => ?_, fun h => Bool.noConfusion (show true = false from h)⟩
      refine ⟨fun _ => ?_, fun h => Bool.noConfusion (show true = false from h)⟩
      refine ⟨_, by decide, rfl, ?_⟩
      exact hK
end Go.Proofs.YtmlgkojmbnjfbaaDoor.A
