/- crc: step, Sum. -/
import Derived.Test.YtbpcofnhndgoeaaDoorJ3
namespace Go.Proofs.YtbpcofnhndgoeaaDoor.A
open Go Q
def crcR (r : Int) : Int := if bitsV .and .u32 r 1 = 1 then bitsV .xor .u32 (shrV .u32 r 1) 3988292384 else shrV .u32 r 1
def crcN : Nat → Int → Int
  | 0, r => r
  | n + 1, r => crcR (crcN n r)
def crcS (r c : Int) : Int := crcN 8 (bitsV .xor .u32 r (IntKind.u32.wrap c))
def crcF (r : Int) (l : List Int) : Int := l.foldl crcS r
def crcI (l : List Int) : Int := bitsV .xor .u32 (if IntKind.u32.signed then -1 else IntKind.u32.max) (crcF 4294967295 l)
theorem wrapU32 (n : Int) : 0 ≤ IntKind.u32.wrap n ∧ IntKind.u32.wrap n < 4294967296 := by
  simp [IntKind.wrap, IntKind.signed, IntKind.bits]; omega
theorem crcI_lt (l : List Int) : 0 ≤ crcI l ∧ crcI l < 4294967296 := wrapU32 _
def stepC (args : List AV) (bs : List Box) (K : AV → List Box → Prop) : Prop := bs = [] ∧ ∃ r c, args = [.int .u32 r, .int .u8 c] ∧ K (.int .u32 (crcS r c)) []
set_option maxRecDepth 200000 in
theorem step_ok : FnOk Tryd.prog tab 53 stepC := by
  refine fn_ok (E := D0_E pl53) tab_is (D0_C _) (D0_J _) Tryd.func53 rfl rfl (by kernel_rfl) ?_
  rintro args bs K ⟨rfl, r, c, rfl, hK⟩
  refine ⟨rfl, ?_⟩
  refine ⟨fun mm st => ∃ (k : Nat), (k ≤ 8) ∧ 8 - k = mm ∧ st.t 0 = .int .u32 (crcN k (bitsV .xor .u32 r (IntKind.u32.wrap c))) ∧ st.t 10 = .int .i64 (k : Int),
    ⟨_, 0, Nat.zero_le _, rfl, rfl, rfl⟩, ?_⟩
  rintro _ ⟨t1, h1⟩ ⟨k, hk, rfl, e0, e10⟩
  have e0 : t1 0 = .int .u32 (crcN k (bitsV .xor .u32 r (IntKind.u32.wrap c))) := e0
  have e10 : t1 10 = .int .i64 (k : Int) := e10
  rw [← updL_has t1 [(0, .int .u32 (crcN k (bitsV .xor .u32 r (IntKind.u32.wrap c)))), (10, .int .i64 (k : Int))] ⟨e0, e10, trivial⟩]
  refine ⟨fun hc => ?_, fun hc => ?_⟩
  · have hc : (k : Int) < 8 := of_decide_eq_true hc
    have w : IntKind.i64.wrap ((k : Int) + 1) = ((k + 1 : Nat) : Int) := by rw [wrap_of (by omega) (by omega)]; omega
    refine ⟨(by decide : (0 : Int) ≤ 1), ?_⟩
    refine ⟨fun hb => ?_, fun hb => ?_⟩
    · have hb : bitsV .and .u32 (crcN k (bitsV .xor .u32 r (IntKind.u32.wrap c))) 1 = 1 := eq_of_beq hb
      exact ⟨_, (by omega : 8 - (k + 1) < 8 - k), k + 1, (by omega), rfl, (by show AV.int .u32 (bitsV .xor .u32 (shrV .u32 _ 1) 3988292384) = _; rw [crcN, crcR, if_pos hb]), congrArg (AV.int .i64) w⟩
    · have hb : ¬ bitsV .and .u32 (crcN k (bitsV .xor .u32 r (IntKind.u32.wrap c))) 1 = 1 := beq_eq_false_iff_ne.1 hb
      exact ⟨_, (by omega : 8 - (k + 1) < 8 - k), k + 1, (by omega), rfl, (by show AV.int .u32 (shrV .u32 _ 1) = _; rw [crcN, crcR, if_neg hb]), congrArg (AV.int .i64) w⟩
  · have hc : ¬ (k : Int) < 8 := of_decide_eq_false hc
    obtain rfl : k = 8 := by omega
    exact hK
def RCr : Contract
  | 53 => stepC
  | _ => fun _ _ _ => False
theorem RCr_ok : CallOk Tryd.prog tab RCr := by
  intro f args bs K h
  unfold RCr at h
  split at h
  · exact ⟨_, h, step_ok⟩
  · exact h.elim
def RCr_E (pl : Nat → Plan) : En := ⟨tab, RCr, fun _ => none, 0, pl⟩
theorem RCr_J (pl : Nat → Plan) : JOk Tryd.prog (RCr_E pl).T (RCr_E pl).J := fun _ _ h => by cases h
abbrev by8g (g : Tag) (l : List Int) : AV := .sl g 5 (l.map (AV.int .u8))
def sumC (args : List AV) (bs : List Box) (K : AV → List Box → Prop) : Prop := bs = [] ∧ ∃ l, args = [by8 l] ∧ l.length ≤ 4611686018427387904 ∧ K (.int .u32 (crcI l)) []
theorem foldl_snoc {α β : Type} (f : β → α → β) (b : β) : ∀ (l : List α) (i : Nat) (x : α), l[i]? = some x → (l.take (i + 1)).foldl f b = f ((l.take i).foldl f b) x
  | [], i, x, h => by simp at h
  | y :: l, 0, x, h => by cases h; simp
  | y :: l, i + 1, x, h => by
    rw [List.take_succ_cons, List.foldl_cons, foldl_snoc f (f b y) l i x (by simpa using h)]
    rfl
set_option maxRecDepth 200000 in
theorem sum_ok : FnOk Tryd.prog tab 42 sumC := by
  refine fn_ok (E := RCr_E pl42) tab_is RCr_ok (RCr_J _) Tryd.func42 rfl rfl (by kernel_rfl) ?_
  rintro args bs K ⟨rfl, l, rfl, hl, hK⟩
  refine ⟨rfl, ?_⟩
  refine ⟨fun mm st => ∃ (i : Nat), (i ≤ l.length) ∧ l.length - i = mm ∧ st.t 3 = .int .u32 (crcF 4294967295 (l.take i)) ∧ st.t 6 = by8 l ∧ st.t 7 = .int .i64 ((l.map (AV.int .u8)).length : Nat) ∧ st.t 8 = .int .i64 (i : Int),
    ⟨_, 0, Nat.zero_le _, rfl, rfl, rfl, rfl, rfl⟩, ?_⟩
  rintro _ ⟨t1, h1⟩ ⟨i, hi, rfl, e3, e6, e7, e8⟩
  have e3 : t1 3 = .int .u32 (crcF 4294967295 (l.take i)) := e3
  have e6 : t1 6 = by8 l := e6
  have e7 : t1 7 = .int .i64 ((l.map (AV.int .u8)).length : Nat) := e7
  have e8 : t1 8 = .int .i64 (i : Int) := e8
  rw [← updL_has t1 [(3, .int .u32 (crcF 4294967295 (l.take i))), (6, by8 l), (7, .int .i64 ((l.map (AV.int .u8)).length : Nat)), (8, .int .i64 (i : Int))] ⟨e3, e6, e7, e8, trivial⟩]
  constructor
  · intro hb
    have hi' : i < l.length := by
      have : (i : Int) < ((l.map (AV.int .u8)).length : Nat) := by simpa using hb
      simp at this; omega
    have w : IntKind.i64.wrap ((i : Int) + 1) = ((i + 1 : Nat) : Int) := by rw [wrap_of] <;> omega
    have hlt : l.length - (i + 1) < l.length - i := by omega
    obtain ⟨x, hx⟩ : ∃ x, l[i]? = some x := ⟨_, List.getElem?_eq_getElem hi'⟩
    skip
    refine ⟨_, Int.natCast_nonneg i, map_of hx, ?_⟩
    refine ⟨rfl, _, _, rfl, ?_⟩
    exact ⟨_, hlt, i + 1, (by omega), rfl, congrArg (AV.int .u32) (foldl_snoc crcS 4294967295 l i x hx).symm, rfl, rfl, congrArg (AV.int .i64) w⟩
  · intro hb
    have hi' : i = l.length := by
      have : ¬ (i : Int) < ((l.map (AV.int .u8)).length : Nat) := by simpa using hb
      simp at this; omega
    subst hi'
    have e : crcF 4294967295 (l.take l.length) = crcF 4294967295 l := by rw [List.take_length]
    have fin : ∀ v, v = crcI l → K (.int .u32 v) [] := fun v h => h ▸ hK
    exact fin _ (by unfold crcI; rw [← e])
end Go.Proofs.YtbpcofnhndgoeaaDoor.A
