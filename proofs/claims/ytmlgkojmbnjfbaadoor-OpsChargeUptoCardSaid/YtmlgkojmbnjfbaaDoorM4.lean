/- ops: number, take, clients, open, post, deposit, transfer. -/
import Derived.Test.YtmlgkojmbnjfbaaDoorA19
import Derived.Test.YtmlgkojmbnjfbaaDoorM2
import Derived.Test.YtmlgkojmbnjfbaaDoorM3
namespace Go.Proofs.YtmlgkojmbnjfbaaDoor.A
open Go Q
abbrev deskL (s : Sta) : List AV := [accsA s.accs, paysA s.pays, sagsA s.sags, knsA s.kns, .int .i64 s.now]
def deskB (s : Sta) : Box := .cells 81 (deskL s)
abbrev dk : AV := .ptr 1000000000 0
structure SzA (s : Sta) : Prop where
  la : s.accs.length ≤ 100000
  lp : s.pays.length ≤ 2000000
abbrev withA (s : Sta) (l : List Acc) : Sta := ⟨l, s.pays, s.sags, s.kns, s.now⟩
abbrev withP (s : Sta) (l : List Pay) : Sta := ⟨s.accs, l, s.sags, s.kns, s.now⟩
abbrev Rep := Int × Int
/-! ### number -/
def numbC (args : List AV) (bs : List Box) (K : AV → List Box → Prop) : Prop := bs = [] ∧ ((args = [.nilifc] ∧ K (repA 0 0) []) ∨ ∃ n, args = [errA n] ∧ K (repA n 0) [])
def RNu : Contract
  | 54 => numberC
  | _ => fun _ _ _ => False
theorem RNu_ok : CallOk Tryd.prog tab RNu := by
  intro f args bs K h
  unfold RNu at h
  split at h
  · exact ⟨_, h, number_ok⟩
  · exact h.elim
def RNu_E (pl : Nat → Plan) : En := ⟨tab, RNu, fun _ => none, 0, pl⟩
theorem RNu_J (pl : Nat → Plan) : JOk Tryd.prog (RNu_E pl).T (RNu_E pl).J := fun _ _ h => by cases h
set_option maxRecDepth 200000 in
theorem numb_ok : FnOk Tryd.prog tab 65 numbC := by
  refine fn_ok (E := RNu_E pl65) tab_is RNu_ok (RNu_J _) Tryd.func65 rfl rfl (by kernel_rfl) ?_
  rintro args bs K ⟨rfl, ⟨rfl, hK⟩ | ⟨n, rfl, hK⟩⟩
  · exact ⟨rfl, rfl, .inl ⟨rfl, hK⟩⟩
  · exact ⟨rfl, rfl, .inr ⟨n, rfl, hK⟩⟩
/-! ### take -/
def takeC' (args : List AV) (bs : List Box) (K : AV → List Box → Prop) : Prop := ∃ s : Sta, bs = [deskB s] ∧
  ((∃ l id, args = [dk, accsA l, .nilifc, .int .i64 id] ∧ K (repA 0 id) [deskB (withA s l)]) ∨ ∃ e id, args = [dk, .sl .nl 0 [], errA e, .int .i64 id] ∧ K (repA e 0) [deskB s])
def RTk : Contract
  | 65 => numbC
  | _ => fun _ _ _ => False
theorem RTk_ok : CallOk Tryd.prog tab RTk := by
  intro f args bs K h
  unfold RTk at h
  split at h
  · exact ⟨_, h, numb_ok⟩
  · exact h.elim
def RTk_E (pl : Nat → Plan) : En := ⟨tab, RTk, fun _ => none, 0, pl⟩
theorem RTk_J (pl : Nat → Plan) : JOk Tryd.prog (RTk_E pl).T (RTk_E pl).J := fun _ _ h => by cases h
set_option maxRecDepth 200000 in
theorem take_ok' : FnOk Tryd.prog tab 61 takeC' := by
  refine fn_ok (E := RTk_E pl61) tab_is RTk_ok (RTk_J _) Tryd.func61 rfl rfl (by kernel_rfl) ?_
  rintro args bs K ⟨s, rfl, ⟨l, id, rfl, hK⟩ | ⟨e, id, rfl, hK⟩⟩
  · refine ⟨rfl, ?_⟩
    refine ⟨fun h => Bool.noConfusion (show false = true from h), fun _ => ?_⟩
    exact hK
  · refine ⟨rfl, ?_⟩
    refine ⟨fun _ => ?_, fun h => Bool.noConfusion (show true = false from h)⟩
    exact ⟨rfl, .inr ⟨e, rfl, hK⟩⟩
/-! ### clients -/
def clisB (s : Sta) (ks : List Int) : Bool := ks.all fun k => isCl s.accs.length k
abbrev intsA (l : List Int) : AV := .sl .fz 3 (l.map (AV.int .i64))
def clisC (args : List AV) (bs : List Box) (K : AV → List Box → Prop) : Prop := ∃ (s : Sta) (ks : List Int), bs = [deskB s] ∧ args = [dk, intsA ks] ∧ ks.length ≤ 1000000 ∧ K (.bool (clisB s ks)) [deskB s]
def RCl : Contract
  | 39 => isClC
  | _ => fun _ _ _ => False
theorem RCl_ok : CallOk Tryd.prog tab RCl := by
  intro f args bs K h
  unfold RCl at h
  split at h
  · exact ⟨_, h, isCl_ok⟩
  · exact h.elim
def RCl_E (pl : Nat → Plan) : En := ⟨tab, RCl, fun _ => none, 0, pl⟩
theorem RCl_J (pl : Nat → Plan) : JOk Tryd.prog (RCl_E pl).T (RCl_E pl).J := fun _ _ h => by cases h
set_option maxRecDepth 200000 in
set_option maxHeartbeats 1600000 in
theorem clis_ok : FnOk Tryd.prog tab 62 clisC := by
  refine fn_ok (E := RCl_E pl62) tab_is RCl_ok (RCl_J _) Tryd.func62 rfl rfl (by kernel_rfl) ?_
  rintro args bs K ⟨s, ks, rfl, rfl, hN, hK⟩
  refine ⟨rfl, ?_⟩
  have fin : ∀ b, b = clisB s ks → K (.bool b) [deskB s] := fun b e => e ▸ hK
  refine ⟨fun mm st => ∃ (i : Nat), (i ≤ ks.length ∧ ∀ k ∈ ks.take i, isCl s.accs.length k = true) ∧ ks.length - i = mm ∧ st.t 0 = dk ∧ st.t 7 = intsA ks ∧ st.t 8 = .int .i64 ((ks.map (AV.int .i64)).length : Nat) ∧ st.t 9 = .int .i64 i ∧ st.h 1000000000 = some (deskB s),
    ⟨_, 0, ⟨Nat.zero_le _, fun k h => by simp at h⟩, rfl, rfl, rfl, rfl, rfl, rfl⟩, ?_⟩
  rintro _ ⟨t1, h1⟩ ⟨i, ⟨hi, hX⟩, rfl, e0, e7, e8, e9, b1000000000⟩
  have e0 : t1 0 = dk := e0
  have e7 : t1 7 = intsA ks := e7
  have e8 : t1 8 = .int .i64 ((ks.map (AV.int .i64)).length : Nat) := e8
  have e9 : t1 9 = .int .i64 i := e9
  have b1000000000 : h1 1000000000 = some (deskB s) := b1000000000
  rw [← updL_has t1 [(0, dk), (7, intsA ks), (8, .int .i64 ((ks.map (AV.int .i64)).length : Nat)), (9, .int .i64 i)] ⟨e0, e7, e8, e9, trivial⟩, ← updL_has h1 [(1000000000, some (deskB s))] ⟨b1000000000, trivial⟩]
  constructor
  · intro hb
    have hi' : i < ks.length := by
      have : (i : Int) < ((ks.map (AV.int .i64)).length : Nat) := by simpa using hb
      simp at this; omega
    have w : IntKind.i64.wrap ((i : Int) + 1) = ((i + 1 : Nat) : Int) := by rw [wrap_of] <;> omega
    have hlt : ks.length - (i + 1) < ks.length - i := by omega
    obtain ⟨k, hx⟩ : ∃ x, ks[i]? = some x := ⟨_, List.getElem?_eq_getElem hi'⟩
    have hm := List.mem_of_getElem? hx
    have hdr := drop_at hx
    refine ⟨_, Int.natCast_nonneg i, map_of hx, ?_⟩
    refine ⟨rfl, s.accs, k, rfl, ?_⟩
    cases hc : isCl s.accs.length k with
    | false =>
      refine ⟨fun _ => ?_, fun h => Bool.noConfusion (show true = false from h)⟩
      exact fin false (by
        symm
        unfold clisB
        rw [List.all_eq_false]
        exact ⟨k, hm, by simp [hc]⟩)
    | true =>
      refine ⟨fun h => Bool.noConfusion (show false = true from h), fun _ => ?_⟩
      refine ⟨_, hlt, i + 1, ⟨hi', fun q hq => ?_⟩, rfl, rfl, rfl, rfl, congrArg (AV.int .i64) w, rfl⟩
      rw [List.take_add_one, hx] at hq
      rcases List.mem_append.1 hq with hq | hq
      · exact hX q hq
      · rw [List.mem_singleton.1 hq]; exact hc
  · intro hb
    have hi' : i = ks.length := by
      have : ¬ (i : Int) < ((ks.map (AV.int .i64)).length : Nat) := by simpa using hb
      simp at this; omega
    subst hi'
    exact fin true (by
      symm
      unfold clisB
      rw [List.all_eq_true]
      intro k hk
      exact hX k (by rw [List.take_length]; exact hk))
/-! ### open -/
def openM (s : Sta) (r : Req) : Sta × Rep := if s.accs.length ≥ 64 then (s, 7, 0) else (withA s (s.accs ++ [⟨r.a, 0, 0⟩]), 0, s.accs.length)
abbrev deskC (M : Sta → Req → Sta × Rep) (args : List AV) (bs : List Box) (K : AV → List Box → Prop) : Prop := ∃ (s : Sta) (r : Req), bs = [deskB s] ∧ args = [dk, reqA r] ∧ SzA s ∧ K (repA (M s r).2.1 (M s r).2.2) [deskB (M s r).1]
noncomputable def JTk : FuncId → Option StSpec
  | 61 => some (frzJ (ptrJ takeC'))
  | _ => none
theorem JTk_ok : JOk Tryd.prog tab JTk := by
  intro f j h
  unfold JTk at h
  split at h
  · cases h; exact frz_ok (ptr_ok take_ok')
  · cases h
def ROp : Contract
  | 41 => cloneC
  | _ => fun _ _ _ => False
theorem ROp_ok : CallOk Tryd.prog tab ROp := by
  intro f args bs K h
  unfold ROp at h
  split at h
  · exact ⟨_, h, clone_ok⟩
  · exact h.elim
def ROp_E (pl : Nat → Plan) : En := ⟨tab, ROp, fun _ => none, 0, pl⟩
theorem ROp_J (pl : Nat → Plan) : JOk Tryd.prog (ROp_E pl).T (ROp_E pl).J := fun _ _ h => by cases h
noncomputable def EOp_E (pl : Nat → Plan) : En := ⟨tab, ROp, JTk, 0, pl⟩
set_option maxRecDepth 200000 in
set_option maxHeartbeats 3200000 in
theorem open_ok : FnOk Tryd.prog tab 42 (deskC openM) := by
  refine fn_ok (E := EOp_E pl42) tab_is ROp_ok JTk_ok Tryd.func42 rfl rfl (by kernel_rfl) ?_
  rintro args bs K ⟨s, r, rfl, rfl, hz, hK⟩
  refine ⟨rfl, ?_⟩
  have hl := hz.la
  unfold openM at hK
  refine ⟨fun h => ?_, fun h => ?_⟩
  · rw [if_pos (by simp at h; omega)] at hK
    exact hK
  · have h : ¬ s.accs.length ≥ 64 := by simp at h; omega
    rw [if_neg h] at hK
    have bd : ((s.accs.map accA).length + 1) * 24 ≤ 140737488355328 := by rw [List.length_map]; omega
    have e1 : (s.accs ++ [(⟨r.a, 0, 0⟩ : Acc)]).map accA = s.accs.map accA ++ [accA ⟨r.a, 0, 0⟩] := List.map_append
    repeat' first
      | (refine ⟨rfl, s.accs, rfl, by omega, ?_⟩)
      | (refine ⟨bd, ?_⟩)
      | (refine ⟨1000000000, 81, deskL s, _, rfl, rfl, rfl, rfl, s, rfl, .inl ⟨s.accs ++ [⟨r.a, 0, 0⟩], ((s.accs.map accA).length : Nat), by rw [accsA, e1]; rfl, ⟨deskL (withA s (s.accs ++ [⟨r.a, 0, 0⟩])), rfl, rfl, rfl, ?_⟩⟩⟩; rw [List.length_map]; exact hK)
      | (refine And.intro ?_ ?_)
      | fail
/-! ### post, deposit, transfer -/
def tookM (s : Sta) : Except Int (List Acc) → Sta × Rep
  | .ok l => (withA s l, 0, 0)
  | .error e => (s, e, 0)
def postD (s : Sta) (x y n : Int) : Sta × Rep := match moveM s.accs x y n with
  | .ok es => tookM s (postM s.accs es)
  | .error e => (s, e, 0)
def postDC (args : List AV) (bs : List Box) (K : AV → List Box → Prop) : Prop := ∃ (s : Sta) (x y n : Int), bs = [deskB s] ∧ args = [dk, .int .i64 x, .int .i64 y, .int .i64 n] ∧ SzA s ∧ K (repA (postD s x y n).2.1 (postD s x y n).2.2) [deskB (postD s x y n).1]
theorem move_len {al : List Acc} {x y n : Int} {es : List Ent} (h : moveM al x y n = .ok es) : es.length ≤ 4 := by
  unfold moveM at h
  repeat' split at h
  all_goals first | (cases h; done) | (cases h; simp)
def RPs : Contract
  | 29 => moveC
  | 65 => numbC
  | 31 => postC
  | _ => fun _ _ _ => False
theorem RPs_ok : CallOk Tryd.prog tab RPs := by
  intro f args bs K h
  unfold RPs at h
  split at h
  · exact ⟨_, h, move_ok⟩
  · exact ⟨_, h, numb_ok⟩
  · exact ⟨_, h, post_ok⟩
  · exact h.elim
def RPs_E (pl : Nat → Plan) : En := ⟨tab, RPs, fun _ => none, 0, pl⟩
theorem RPs_J (pl : Nat → Plan) : JOk Tryd.prog (RPs_E pl).T (RPs_E pl).J := fun _ _ h => by cases h
noncomputable def EPs_E (pl : Nat → Plan) : En := ⟨tab, RPs, JTk, 0, pl⟩
set_option maxRecDepth 200000 in
set_option maxHeartbeats 3200000 in
theorem postD_ok : FnOk Tryd.prog tab 63 postDC := by
  refine fn_ok (E := EPs_E pl63) tab_is RPs_ok JTk_ok Tryd.func63 rfl rfl (by kernel_rfl) ?_
  rintro args bs K ⟨s, x, y, n, rfl, rfl, hz, hK⟩
  refine ⟨rfl, ?_⟩
  have hl := hz.la
  unfold postD at hK
  refine ⟨rfl, s.accs, x, y, n, rfl, fun es hm => ?_, fun e hm => ?_⟩
  · rw [hm] at hK
    have hle := move_len hm
    refine ⟨fun h => Bool.noConfusion (show false = true from h), fun _ => ?_⟩
    refine ⟨rfl, s.accs, es, rfl, by omega, by omega, fun l hp => ?_, fun e hp => ?_⟩
    · simp only [hp, tookM] at hK
      exact ⟨1000000000, 81, deskL s, _, rfl, rfl, rfl, rfl, s, rfl, .inl ⟨l, 0, rfl, ⟨deskL (withA s l), rfl, rfl, rfl, hK⟩⟩⟩
    · simp only [hp, tookM] at hK
      exact ⟨1000000000, 81, deskL s, _, rfl, rfl, rfl, rfl, s, rfl, .inr ⟨e, 0, rfl, ⟨deskL s, rfl, rfl, rfl, hK⟩⟩⟩
  · simp only [hm] at hK
    refine ⟨fun _ => ?_, fun h => Bool.noConfusion (show true = false from h)⟩
    exact ⟨rfl, .inr ⟨e, rfl, hK⟩⟩
def accAt (al : List Acc) (k : Int) : Acc := match al[k.toNat]? with
  | some a => a
  | none => ⟨0, 0, 0⟩
theorem accAt_of {al : List Acc} {k : Int} {a : Acc} (h : al[k.toNat]? = some a) : accAt al k = a := by unfold accAt; rw [h]
def depositM (s : Sta) (r : Req) : Sta × Rep := if isCl s.accs.length r.a = false then (s, 2, 0) else postD s (numK 0 (accAt s.accs r.a).cur) r.a r.amt
def transferM (s : Sta) (r : Req) : Sta × Rep := if (isCl s.accs.length r.a && isCl s.accs.length r.b) = false then (s, 2, 0) else postD s r.a r.b r.amt
noncomputable def JPs : FuncId → Option StSpec
  | 62 => some (frzJ (ptrJ clisC))
  | 63 => some (frzJ (ptrJ postDC))
  | _ => none
theorem JPs_ok : JOk Tryd.prog tab JPs := by
  intro f j h
  unfold JPs at h
  split at h
  · cases h; exact frz_ok (ptr_ok clis_ok)
  · cases h; exact frz_ok (ptr_ok postD_ok)
  · cases h
def RDe : Contract
  | 51 => numKC
  | _ => fun _ _ _ => False
theorem RDe_ok : CallOk Tryd.prog tab RDe := by
  intro f args bs K h
  unfold RDe at h
  split at h
  · exact ⟨_, h, numK_ok⟩
  · exact h.elim
def RDe_E (pl : Nat → Plan) : En := ⟨tab, RDe, fun _ => none, 0, pl⟩
theorem RDe_J (pl : Nat → Plan) : JOk Tryd.prog (RDe_E pl).T (RDe_E pl).J := fun _ _ h => by cases h
noncomputable def EDe_E (pl : Nat → Plan) : En := ⟨tab, RDe, JPs, 0, pl⟩
theorem clis1 (s : Sta) (a : Int) : clisB s [a] = isCl s.accs.length a := by simp [clisB]
theorem clis2 (s : Sta) (a b : Int) : clisB s [a, b] = (isCl s.accs.length a && isCl s.accs.length b) := by simp [clisB]
set_option maxRecDepth 200000 in
set_option maxHeartbeats 3200000 in
theorem deposit_ok : FnOk Tryd.prog tab 43 (deskC depositM) := by
  refine fn_ok (E := EDe_E pl43) tab_is RDe_ok JPs_ok Tryd.func43 rfl rfl (by kernel_rfl) ?_
  rintro args bs K ⟨s, r, rfl, rfl, hz, hK⟩
  refine ⟨rfl, ?_⟩
  have hl := hz.la
  unfold depositM at hK
  refine ⟨1000000000, 81, deskL s, _, rfl, rfl, rfl, rfl, s, [r.a], rfl, rfl, by simp, ⟨deskL s, rfl, rfl, rfl, ?_⟩⟩
  rw [clis1]
  cases hc : isCl s.accs.length r.a with
  | false =>
    rw [if_pos hc] at hK
    exact ⟨fun _ => hK, fun h => Bool.noConfusion (show true = false from h)⟩
  | true =>
    rw [if_neg (by simp [hc])] at hK
    refine ⟨fun h => Bool.noConfusion (show false = true from h), fun _ => ?_⟩
    obtain ⟨k0, k1⟩ := is_of hc
    have k0 : 0 ≤ r.a := by omega
    obtain ⟨a, ha⟩ : ∃ a, s.accs[r.a.toNat]? = some a := ⟨_, List.getElem?_eq_getElem (by omega)⟩
    rw [accAt_of ha] at hK
    refine ⟨_, k0, map_of ha, ?_⟩
    refine ⟨rfl, 0, a.cur, rfl, ?_⟩
    exact ⟨1000000000, 81, deskL s, _, rfl, rfl, rfl, rfl, s, numK 0 a.cur, r.a, r.amt, rfl, rfl, hz, ⟨deskL _, rfl, rfl, rfl, hK⟩⟩
def R0x : Contract
  | _ => fun _ _ _ => False
theorem R0x_ok : CallOk Tryd.prog tab R0x := by
  intro f args bs K h
  unfold R0x at h
  split at h
  · exact h.elim
def R0x_E (pl : Nat → Plan) : En := ⟨tab, R0x, fun _ => none, 0, pl⟩
theorem R0x_J (pl : Nat → Plan) : JOk Tryd.prog (R0x_E pl).T (R0x_E pl).J := fun _ _ h => by cases h
noncomputable def ETr_E (pl : Nat → Plan) : En := ⟨tab, R0x, JPs, 0, pl⟩
set_option maxRecDepth 200000 in
set_option maxHeartbeats 3200000 in
theorem transfer_ok : FnOk Tryd.prog tab 44 (deskC transferM) := by
  refine fn_ok (E := ETr_E pl44) tab_is R0x_ok JPs_ok Tryd.func44 rfl rfl (by kernel_rfl) ?_
  rintro args bs K ⟨s, r, rfl, rfl, hz, hK⟩
  refine ⟨rfl, ?_⟩
  have hl := hz.la
  unfold transferM at hK
  refine ⟨1000000000, 81, deskL s, _, rfl, rfl, rfl, rfl, s, [r.a, r.b], rfl, rfl, by simp, ⟨deskL s, rfl, rfl, rfl, ?_⟩⟩
  rw [clis2]
  cases hc : (isCl s.accs.length r.a && isCl s.accs.length r.b) with
  | false =>
    rw [if_pos hc] at hK
    exact ⟨fun _ => hK, fun h => Bool.noConfusion (show true = false from h)⟩
  | true =>
    rw [if_neg (by simp [hc])] at hK
    refine ⟨fun h => Bool.noConfusion (show false = true from h), fun _ => ?_⟩
    exact ⟨1000000000, 81, deskL s, _, rfl, rfl, rfl, rfl, s, r.a, r.b, r.amt, rfl, rfl, hz, ⟨deskL _, rfl, rfl, rfl, hK⟩⟩
end Go.Proofs.YtmlgkojmbnjfbaaDoor.A
