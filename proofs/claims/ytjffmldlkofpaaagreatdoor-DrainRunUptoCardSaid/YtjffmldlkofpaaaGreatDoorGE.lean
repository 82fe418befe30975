/- ops: number, take, clients, open, post, deposit, transfer. -/
import Derived.Test.YtjffmldlkofpaaaGreatDoorGC
import Derived.Test.YtjffmldlkofpaaaGreatDoorGD
import Derived.KernelRfl
namespace Go.Proofs.YtjffmldlkofpaaaGreatDoor.A
open Go Q
abbrev deskL (s : Sta) : List AV := [accsA s.accs, paysA s.pays, sagsA s.sags, knsA s.kns, .int .i64 s.now]
def deskB (s : Sta) : Box := .cells 151 (deskL s)
abbrev dk : AV := .ptr 1000000000 0
structure SzA (s : Sta) : Prop where
  la : s.accs.length ≤ 100000
  lp : s.pays.length ≤ 2000000
abbrev withA (s : Sta) (l : List Acc) : Sta := ⟨l, s.pays, s.sags, s.kns, s.now⟩
abbrev withP (s : Sta) (l : List Pay) : Sta := ⟨s.accs, l, s.sags, s.kns, s.now⟩
abbrev Rep := Int × Int
/-! ### number -/
def numbC (args : List AV) (bs : List Box) (K : AV → List Box → Prop) : Prop := bs = [] ∧ ((args = [.nilifc] ∧ K (repA 0 0) []) ∨ ∃ n, args = [errA n] ∧ K (repA n 0) [])
def RNu : Contract
  | 47 => numberC
  | _ => fun _ _ _ => False
theorem RNu_ok : CallOk Tryz.prog tab RNu := by
  intro f args bs K h
  unfold RNu at h
  split at h
  · exact ⟨_, h, number_ok⟩
  · exact h.elim
def RNu_E (pl : Nat → Plan) : En := ⟨tab, RNu, fun _ => none, 0, pl⟩
theorem RNu_J (pl : Nat → Plan) : JOk Tryz.prog (RNu_E pl).T (RNu_E pl).J := fun _ _ h => by cases h
set_option maxRecDepth 200000 in
theorem numb_ok : FnOk Tryz.prog tab 117 numbC := by
  refine fn_ok (E := RNu_E pl117) tab_is RNu_ok (RNu_J _) Tryz.func117 rfl rfl (by kernel_rfl) ?_
  rintro args bs K ⟨rfl, ⟨rfl, hK⟩ | ⟨n, rfl, hK⟩⟩
  · exact ⟨rfl, rfl, .inl ⟨rfl, hK⟩⟩
  · exact ⟨rfl, rfl, .inr ⟨n, rfl, hK⟩⟩
/-! ### take -/
def takeC' (args : List AV) (bs : List Box) (K : AV → List Box → Prop) : Prop := ∃ s : Sta, bs = [deskB s] ∧
  ((∃ l id, args = [dk, accsA l, .nilifc, .int .i64 id] ∧ K (repA 0 id) [deskB (withA s l)]) ∨ ∃ e id, args = [dk, .sl .nl 0 [], errA e, .int .i64 id] ∧ K (repA e 0) [deskB s])
def RTk : Contract
  | 117 => numbC
  | _ => fun _ _ _ => False
theorem RTk_ok : CallOk Tryz.prog tab RTk := by
  intro f args bs K h
  unfold RTk at h
  split at h
  · exact ⟨_, h, numb_ok⟩
  · exact h.elim
def RTk_E (pl : Nat → Plan) : En := ⟨tab, RTk, fun _ => none, 0, pl⟩
theorem RTk_J (pl : Nat → Plan) : JOk Tryz.prog (RTk_E pl).T (RTk_E pl).J := fun _ _ h => by cases h
set_option maxRecDepth 200000 in
theorem take_ok' : FnOk Tryz.prog tab 114 takeC' := by
  refine fn_ok (E := RTk_E pl114) tab_is RTk_ok (RTk_J _) Tryz.func114 rfl rfl (by kernel_rfl) ?_
  rintro args bs K ⟨s, rfl, ⟨l, id, rfl, hK⟩ | ⟨e, id, rfl, hK⟩⟩
  · refine ⟨rfl, ?_⟩
    refine ⟨fun h => Bool.noConfusion (show false = true from h), fun _ => ?_⟩
    exact hK
  · refine ⟨rfl, ?_⟩
    refine ⟨fun _ => ?_, fun h => Bool.noConfusion (show true = false from h)⟩
    exact ⟨rfl, .inr ⟨e, rfl, hK⟩⟩
/-! ### clients -/
def clisB (s : Sta) (ks : List Int) : Bool := ks.all fun k => isCl s.accs.length k
abbrev intsA (l : List Int) : AV := .sl .fz 3 (l.map (AV.int .i64))
def clisC (args : List AV) (bs : List Box) (K : AV → List Box → Prop) : Prop := ∃ (s : Sta) (ks : List Int), bs = [deskB s] ∧ args = [dk, intsA ks] ∧ ks.length ≤ 1000000 ∧ K (.bool (clisB s ks)) [deskB s]
def RCl : Contract
  | 76 => isClC
  | _ => fun _ _ _ => False
theorem RCl_ok : CallOk Tryz.prog tab RCl := by
  intro f args bs K h
  unfold RCl at h
  split at h
  · exact ⟨_, h, isCl_ok⟩
  · exact h.elim
def RCl_E (pl : Nat → Plan) : En := ⟨tab, RCl, fun _ => none, 0, pl⟩
theorem RCl_J (pl : Nat → Plan) : JOk Tryz.prog (RCl_E pl).T (RCl_E pl).J := fun _ _ h => by cases h
set_option maxRecDepth 200000 in
set_option maxHeartbeats 1600000 in
theorem clis_ok : FnOk Tryz.prog tab 86 clisC := by
  refine fn_ok (E := RCl_E pl86) tab_is RCl_ok (RCl_J _) Tryz.func86 rfl rfl (by kernel_rfl) ?_
  rintro args bs K ⟨s, ks, rfl, rfl, hN, hK⟩
  refine ⟨rfl, ?_⟩
  have fin : ∀ b, b = clisB s ks → K (.bool b) [deskB s] := fun b e => e ▸ hK
  refine ⟨fun mm st => ∃ (i : Nat), (i ≤ ks.length ∧ ∀ k ∈ ks.take i, isCl s.accs.length k = true) ∧ ks.length - i = mm ∧ st.t 0 = dk ∧ st.t 7 = intsA ks ∧ st.t 8 = .int .i64 ((ks.map (AV.int .i64)).length : Nat) ∧ st.t 9 = .int .i64 i ∧ st.h 1000000000 = some (deskB s),
    ⟨_, 0, ⟨Nat.zero_le _, fun k h => by simp at h⟩, rfl, rfl, rfl, rfl, rfl, rfl⟩, ?_⟩
  rintro _ ⟨t1, h1⟩ ⟨i, ⟨hi, hX⟩, rfl, e0, e7, e8, e9, b1000000000⟩
  have e0 : t1 0 = dk := e0
  have e7 : t1 7 = intsA ks := e7
  have e8 : t1 8 = .int .i64 ((ks.map (AV.int .i64)).length : Nat) := e8
  have e9 : t1 9 = .int .i64 i := e9
  have b1000000000 : h1 1000000000 = some (deskB s) := b1000000000
  rw [← updL_has t1 [(0, dk), (7, intsA ks), (8, .int .i64 ((ks.map (AV.int .i64)).length : Nat)), (9, .int .i64 i)] ⟨e0, e7, e8, e9, trivial⟩, ← updL_has h1 [(1000000000, some (deskB s))] ⟨b1000000000, trivial⟩]
  constructor
  · intro hb
    have hi' : i < ks.length := by
      have : (i : Int) < ((ks.map (AV.int .i64)).length : Nat) := by simpa using hb
      simp at this; omega
    have w : IntKind.i64.wrap ((i : Int) + 1) = ((i + 1 : Nat) : Int) := by rw [wrap_of] <;> omega
    have hlt : ks.length - (i + 1) < ks.length - i := by omega
    obtain ⟨k, hx⟩ : ∃ x, ks[i]? = some x := ⟨_, List.getElem?_eq_getElem hi'⟩
    have hm := List.mem_of_getElem? hx
    have hdr := drop_at hx
    refine ⟨_, Int.natCast_nonneg i, map_of hx, ?_⟩
    refine ⟨rfl, s.accs, k, rfl, ?_⟩
    cases hc : isCl s.accs.length k with
    | false =>
      refine ⟨fun _ => ?_, fun h => Bool.noConfusion (show true = false from h)⟩
      exact fin false (by
        symm
        unfold clisB
        rw [List.all_eq_false]
        exact ⟨k, hm, by simp [hc]⟩)
    | true =>
      refine ⟨fun h => Bool.noConfusion (show false = true from h), fun _ => ?_⟩
      refine ⟨_, hlt, i + 1, ⟨hi', fun q hq => ?_⟩, rfl, rfl, rfl, rfl, congrArg (AV.int .i64) w, rfl⟩
      rw [List.take_add_one, hx] at hq
      rcases List.mem_append.1 hq with hq | hq
      · exact hX q hq
      · rw [List.mem_singleton.1 hq]; exact hc
  · intro hb
    have hi' : i = ks.length := by
      have : ¬ (i : Int) < ((ks.map (AV.int .i64)).length : Nat) := by simpa using hb
      simp at this; omega
    subst hi'
    exact fin true (by
      symm
      unfold clisB
      rw [List.all_eq_true]
      intro k hk
      exact hX k (by rw [List.take_length]; exact hk))
/-! ### open -/
def openM (s : Sta) (r : Req) : Sta × Rep := if s.accs.length ≥ 64 then (s, 7, 0) else (withA s (s.accs ++ [⟨r.a, 0, 0⟩]), 0, s.accs.length)
abbrev deskC (M : Sta → Req → Sta × Rep) (args : List AV) (bs : List Box) (K : AV → List Box → Prop) : Prop := ∃ (s : Sta) (r : Req), bs = [deskB s] ∧ args = [dk, reqA r] ∧ SzA s ∧ K (repA (M s r).2.1 (M s r).2.2) [deskB (M s r).1]
noncomputable def JTk : FuncId → Option StSpec
  | 114 => some (frzJ (ptrJ takeC'))
  | _ => none
theorem JTk_ok : JOk Tryz.prog tab JTk := by
  intro f j h
  unfold JTk at h
  split at h
  · cases h; exact frz_ok (ptr_ok take_ok')
  · cases h
def ROp : Contract
  | 79 => cloneC
  | _ => fun _ _ _ => False
theorem ROp_ok : CallOk Tryz.prog tab ROp := by
  intro f args bs K h
  unfold ROp at h
  split at h
  · exact ⟨_, h, clone_ok⟩
  · exact h.elim
def ROp_E (pl : Nat → Plan) : En := ⟨tab, ROp, fun _ => none, 0, pl⟩
theorem ROp_J (pl : Nat → Plan) : JOk Tryz.prog (ROp_E pl).T (ROp_E pl).J := fun _ _ h => by cases h
noncomputable def EOp_E (pl : Nat → Plan) : En := ⟨tab, ROp, JTk, 0, pl⟩
set_option maxRecDepth 200000 in
set_option maxHeartbeats 3200000 in
theorem open_ok : FnOk Tryz.prog tab 98 (deskC openM) := by
  refine fn_ok (E := EOp_E pl98) tab_is ROp_ok JTk_ok Tryz.func98 rfl rfl (by kernel_rfl) ?_
  rintro args bs K ⟨s, r, rfl, rfl, hz, hK⟩
  refine ⟨rfl, ?_⟩
  have hl := hz.la
  unfold openM at hK
  refine ⟨fun h => ?_, fun h => ?_⟩
  · rw [if_pos (by simp at h; omega)] at hK
    exact hK
  · have h : ¬ s.accs.length ≥ 64 := by simp at h; omega
    rw [if_neg h] at hK
    have bd : ((s.accs.map accA).length + 1) * 24 ≤ 140737488355328 := by rw [List.length_map]; omega
    have e1 : (s.accs ++ [(⟨r.a, 0, 0⟩ : Acc)]).map accA = s.accs.map accA ++ [accA ⟨r.a, 0, 0⟩] := List.map_append
    repeat' first
      | (refine ⟨rfl, s.accs, rfl, by omega, ?_⟩)
      | (refine ⟨bd, ?_⟩)
      | (refine ⟨1000000000, 151, deskL s, _, rfl, rfl, rfl, rfl, s, rfl, .inl ⟨s.accs ++ [⟨r.a, 0, 0⟩], ((s.accs.map accA).length : Nat), by rw [accsA, e1]; rfl, ⟨deskL (withA s (s.accs ++ [⟨r.a, 0, 0⟩])), rfl, rfl, rfl, ?_⟩⟩⟩; rw [List.length_map]; exact hK)
      | (refine And.intro ?_ ?_)
      | fail
/-! ### post, deposit, transfer -/
def tookM (s : Sta) : Except Int (List Acc) → Sta × Rep
  | .ok l => (withA s l, 0, 0)
  | .error e => (s, e, 0)
def postD (s : Sta) (x y n : Int) : Sta × Rep := match moveM s.accs x y n with
  | .ok es => tookM s (postM s.accs es)
  | .error e => (s, e, 0)
def postDC (args : List AV) (bs : List Box) (K : AV → List Box → Prop) : Prop := ∃ (s : Sta) (x y n : Int), bs = [deskB s] ∧ args = [dk, .int .i64 x, .int .i64 y, .int .i64 n] ∧ SzA s ∧ K (repA (postD s x y n).2.1 (postD s x y n).2.2) [deskB (postD s x y n).1]
theorem move_len {al : List Acc} {x y n : Int} {es : List Ent} (h : moveM al x y n = .ok es) : es.length ≤ 4 := by
  unfold moveM at h
  repeat' split at h
  all_goals first | (cases h; done) | (cases h; simp)
def RPs : Contract
  | 87 => moveC
  | 117 => numbC
  | 109 => postC
  | _ => fun _ _ _ => False
theorem RPs_ok : CallOk Tryz.prog tab RPs := by
  intro f args bs K h
  unfold RPs at h
  split at h
  · exact ⟨_, h, move_ok⟩
  · exact ⟨_, h, numb_ok⟩
  · exact ⟨_, h, post_ok⟩
  · exact h.elim
def RPs_E (pl : Nat → Plan) : En := ⟨tab, RPs, fun _ => none, 0, pl⟩
theorem RPs_J (pl : Nat → Plan) : JOk Tryz.prog (RPs_E pl).T (RPs_E pl).J := fun _ _ h => by cases h
noncomputable def EPs_E (pl : Nat → Plan) : En := ⟨tab, RPs, JTk, 0, pl⟩
set_option maxRecDepth 200000 in
set_option maxHeartbeats 3200000 in
theorem postD_ok : FnOk Tryz.prog tab 115 postDC := by
  refine fn_ok (E := EPs_E pl115) tab_is RPs_ok JTk_ok Tryz.func115 rfl rfl (by kernel_rfl) ?_
  rintro args bs K ⟨s, x, y, n, rfl, rfl, hz, hK⟩
  refine ⟨rfl, ?_⟩
  have hl := hz.la
  unfold postD at hK
  refine ⟨rfl, s.accs, x, y, n, rfl, fun es hm => ?_, fun e hm => ?_⟩
  · rw [hm] at hK
    have hle := move_len hm
    refine ⟨fun h => Bool.noConfusion (show false = true from h), fun _ => ?_⟩
    refine ⟨rfl, s.accs, es, rfl, by omega, by omega, fun l hp => ?_, fun e hp => ?_⟩
    · simp only [hp, tookM] at hK
      exact ⟨1000000000, 151, deskL s, _, rfl, rfl, rfl, rfl, s, rfl, .inl ⟨l, 0, rfl, ⟨deskL (withA s l), rfl, rfl, rfl, hK⟩⟩⟩
    · simp only [hp, tookM] at hK
      exact ⟨1000000000, 151, deskL s, _, rfl, rfl, rfl, rfl, s, rfl, .inr ⟨e, 0, rfl, ⟨deskL s, rfl, rfl, rfl, hK⟩⟩⟩
  · simp only [hm] at hK
    refine ⟨fun _ => ?_, fun h => Bool.noConfusion (show true = false from h)⟩
    exact ⟨rfl, .inr ⟨e, rfl, hK⟩⟩
def accAt (al : List Acc) (k : Int) : Acc := match al[k.toNat]? with
  | some a => a
  | none => ⟨0, 0, 0⟩
theorem accAt_of {al : List Acc} {k : Int} {a : Acc} (h : al[k.toNat]? = some a) : accAt al k = a := by unfold accAt; rw [h]
def depositM (s : Sta) (r : Req) : Sta × Rep := if isCl s.accs.length r.a = false then (s, 2, 0) else postD s (numK 0 (accAt s.accs r.a).cur) r.a r.amt
def transferM (s : Sta) (r : Req) : Sta × Rep := if (isCl s.accs.length r.a && isCl s.accs.length r.b) = false then (s, 2, 0) else postD s r.a r.b r.amt
noncomputable def JPs : FuncId → Option StSpec
  | 86 => some (frzJ (ptrJ clisC))
  | 115 => some (frzJ (ptrJ postDC))
  | _ => none
theorem JPs_ok : JOk Tryz.prog tab JPs := by
  intro f j h
  unfold JPs at h
  split at h
  · cases h; exact frz_ok (ptr_ok clis_ok)
  · cases h; exact frz_ok (ptr_ok postD_ok)
  · cases h
def RDe : Contract
  | 106 => numKC
  | _ => fun _ _ _ => False
theorem RDe_ok : CallOk Tryz.prog tab RDe := by
  intro f args bs K h
  unfold RDe at h
  split at h
  · exact ⟨_, h, numK_ok⟩
  · exact h.elim
def RDe_E (pl : Nat → Plan) : En := ⟨tab, RDe, fun _ => none, 0, pl⟩
theorem RDe_J (pl : Nat → Plan) : JOk Tryz.prog (RDe_E pl).T (RDe_E pl).J := fun _ _ h => by cases h
noncomputable def EDe_E (pl : Nat → Plan) : En := ⟨tab, RDe, JPs, 0, pl⟩
theorem clis1 (s : Sta) (a : Int) : clisB s [a] = isCl s.accs.length a := by simp [clisB]
theorem clis2 (s : Sta) (a b : Int) : clisB s [a, b] = (isCl s.accs.length a && isCl s.accs.length b) := by simp [clisB]
set_option maxRecDepth 200000 in
set_option maxHeartbeats 3200000 in
theorem deposit_ok : FnOk Tryz.prog tab 99 (deskC depositM) := by
  refine fn_ok (E := EDe_E pl99) tab_is RDe_ok JPs_ok Tryz.func99 rfl rfl (by kernel_rfl) ?_
  rintro args bs K ⟨s, r, rfl, rfl, hz, hK⟩
  refine ⟨rfl, ?_⟩
  have hl := hz.la
  unfold depositM at hK
  refine ⟨1000000000, 151, deskL s, _, rfl, rfl, rfl, rfl, s, [r.a], rfl, rfl, by simp, ⟨deskL s, rfl, rfl, rfl, ?_⟩⟩
  rw [clis1]
  cases hc : isCl s.accs.length r.a with
  | false =>
    rw [if_pos hc] at hK
    exact ⟨fun _ => hK, fun h => Bool.noConfusion (show true = false from h)⟩
  | true =>
    rw [if_neg (by simp [hc])] at hK
    refine ⟨fun h => Bool.noConfusion (show false = true from h), fun _ => ?_⟩
    obtain ⟨k0, k1⟩ := is_of hc
    have k0 : 0 ≤ r.a := by omega
    obtain ⟨a, ha⟩ : ∃ a, s.accs[r.a.toNat]? = some a := ⟨_, List.getElem?_eq_getElem (by omega)⟩
    rw [accAt_of ha] at hK
    refine ⟨_, k0, map_of ha, ?_⟩
    refine ⟨rfl, 0, a.cur, rfl, ?_⟩
    exact ⟨1000000000, 151, deskL s, _, rfl, rfl, rfl, rfl, s, numK 0 a.cur, r.a, r.amt, rfl, rfl, hz, ⟨deskL _, rfl, rfl, rfl, hK⟩⟩
def R0x : Contract
  | _ => fun _ _ _ => False
theorem R0x_ok : CallOk Tryz.prog tab R0x := by
  intro f args bs K h
  unfold R0x at h
  split at h
  · exact h.elim
def R0x_E (pl : Nat → Plan) : En := ⟨tab, R0x, fun _ => none, 0, pl⟩
theorem R0x_J (pl : Nat → Plan) : JOk Tryz.prog (R0x_E pl).T (R0x_E pl).J := fun _ _ h => by cases h
noncomputable def ETr_E (pl : Nat → Plan) : En := ⟨tab, R0x, JPs, 0, pl⟩
set_option maxRecDepth 200000 in
set_option maxHeartbeats 3200000 in
theorem transfer_ok : FnOk Tryz.prog tab 100 (deskC transferM) := by
  refine fn_ok (E := ETr_E pl100) tab_is R0x_ok JPs_ok Tryz.func100 rfl rfl (by kernel_rfl) ?_
  rintro args bs K ⟨s, r, rfl, rfl, hz, hK⟩
  refine ⟨rfl, ?_⟩
  have hl := hz.la
  unfold transferM at hK
  refine ⟨1000000000, 151, deskL s, _, rfl, rfl, rfl, rfl, s, [r.a, r.b], rfl, rfl, by simp, ⟨deskL s, rfl, rfl, rfl, ?_⟩⟩
  rw [clis2]
  cases hc : (isCl s.accs.length r.a && isCl s.accs.length r.b) with
  | false =>
    rw [if_pos hc] at hK
    exact ⟨fun _ => hK, fun h => Bool.noConfusion (show true = false from h)⟩
  | true =>
    rw [if_neg (by simp [hc])] at hK
    refine ⟨fun h => Bool.noConfusion (show false = true from h), fun _ => ?_⟩
    exact ⟨1000000000, 151, deskL s, _, rfl, rfl, rfl, rfl, s, r.a, r.b, r.amt, rfl, rfl, hz, ⟨deskL _, rfl, rfl, rfl, hK⟩⟩
end Go.Proofs.YtjffmldlkofpaaaGreatDoor.A

/- ops: auth, pay, both, capture, void, back, refund. -/
namespace Go.Proofs.YtjffmldlkofpaaaGreatDoor.A
open Go Q
/-- A desk whose payments are the frame's own. -/
def deskBo (F : Nat) (s : Sta) : Box := .cells 151 [accsA s.accs, .sl (.own F) 90 (s.pays.map payA), sagsA s.sags, knsA s.kns, .int .i64 s.now]
/-! ### auth -/
def authM (s : Sta) (r : Req) : Sta × Rep :=
  if (isCl s.accs.length r.a && isCl s.accs.length r.b) = false then (s, 2, 0)
  else if r.a = r.b ∨ r.til ≤ s.now then (s, 1, 0)
  else if s.pays.length ≥ 64 then (s, 7, 0)
  else match holdM s.accs r.a r.amt with
  | .ok l => (withP (withA s l) (s.pays ++ [⟨r.a, r.b, r.amt, 0, 0, 0, r.til, 0⟩]), 0, s.pays.length)
  | .error e => (s, e, 0)
abbrev deskC0 (F : Nat) (M : Sta → Req → Sta × Rep) (args : List AV) (bs : List Box) (K : AV → List Box → Prop) : Prop := ∃ (s : Sta) (r : Req), bs = [deskB s] ∧ args = [dk, reqA r] ∧ SzA s ∧ K (repA (M s r).2.1 (M s r).2.2) [deskB (M s r).1] ∧ K (repA (M s r).2.1 (M s r).2.2) [deskBo F (M s r).1]
noncomputable def JAu : FuncId → Option StSpec
  | 86 => some (frzJ (ptrJ clisC))
  | 114 => some (frzJ (ptrJ takeC'))
  | _ => none
theorem JAu_ok : JOk Tryz.prog tab JAu := by
  intro f j h
  unfold JAu at h
  split at h
  · cases h; exact frz_ok (ptr_ok clis_ok)
  · cases h; exact frz_ok (ptr_ok take_ok')
  · cases h
def RAu : Contract
  | 43 => (accsRz holdM)
  | _ => fun _ _ _ => False
theorem RAu_ok : CallOk Tryz.prog tab RAu := by
  intro f args bs K h
  unfold RAu at h
  split at h
  · exact ⟨_, h, hold_ok⟩
  · exact h.elim
def RAu_E (pl : Nat → Plan) : En := ⟨tab, RAu, fun _ => none, 0, pl⟩
theorem RAu_J (pl : Nat → Plan) : JOk Tryz.prog (RAu_E pl).T (RAu_E pl).J := fun _ _ h => by cases h
noncomputable def EAu_E (pl : Nat → Plan) : En := ⟨tab, RAu, JAu, 0, pl⟩
set_option maxRecDepth 200000 in
set_option maxHeartbeats 6400000 in
theorem auth_ok0 : FnOk Tryz.prog tab 101 (deskC0 75000 authM) := by
  refine fn_ok (E := EAu_E pl101) tab_is RAu_ok JAu_ok Tryz.func101 rfl rfl (by kernel_rfl) ?_
  rintro args bs K ⟨s, r, rfl, rfl, hz, hK, hK'⟩
  refine ⟨rfl, ?_⟩
  have hl := hz.la
  have hlp := hz.lp
  unfold authM at hK hK'
  refine ⟨1000000000, 151, deskL s, _, rfl, rfl, rfl, rfl, s, [r.a, r.b], rfl, rfl, by simp, ⟨deskL s, rfl, rfl, rfl, ?_⟩⟩
  rw [clis2]
  cases hc : (isCl s.accs.length r.a && isCl s.accs.length r.b) with
  | false =>
    rw [if_pos hc] at hK
    exact ⟨fun _ => hK, fun h => Bool.noConfusion (show true = false from h)⟩
  | true =>
    rw [if_neg (by simp [hc])] at hK hK'
    refine ⟨fun h => Bool.noConfusion (show false = true from h), fun _ => ?_⟩
    have bad : (r.a = r.b ∨ r.til ≤ s.now) → K (repA 1 0) [deskB s] := fun h => by rw [if_pos h] at hK; exact hK
    refine ⟨fun h => ?_, fun h => ?_⟩
    · have h : r.a = r.b := by simpa using h
      exact ⟨fun _ => bad (.inl h), fun h => Bool.noConfusion (show true = false from h)⟩
    · have h : ¬ r.a = r.b := by simpa using h
      refine ⟨fun ht => bad (.inr (by simpa using ht)), fun ht => ?_⟩
      have ht : ¬ r.til ≤ s.now := by simpa using ht
      rw [if_neg (by omega)] at hK hK'
      clear bad
      refine ⟨fun hn => ?_, fun hn => ?_⟩
      · rw [if_pos (by simp at hn; omega)] at hK
        exact hK
      · rw [if_neg (by simp at hn; omega)] at hK hK'
        refine ⟨rfl, s.accs, r.a, r.amt, rfl, by omega, fun l hh => ?_, fun e hh => ?_⟩
        · simp only [hh] at hK'
          have bd1 : (s.pays.map payA).length * 64 ≤ 140737488355328 := by rw [List.length_map]; omega
          have bd2 : ((s.pays.map payA).length + 1) * 64 ≤ 140737488355328 := by rw [List.length_map]; omega
          have e1 : (s.pays ++ [(⟨r.a, r.b, r.amt, 0, 0, 0, r.til, 0⟩ : Pay)]).map payA = s.pays.map payA ++ [payA ⟨r.a, r.b, r.amt, 0, 0, 0, r.til, 0⟩] := List.map_append
          have hend : K (repA 0 ((s.pays.map payA).length : Nat)) [.cells 151 [accsA l, .sl (.own 75000) 90 (s.pays.map payA ++ [payA ⟨r.a, r.b, r.amt, 0, 0, 0, r.til, 0⟩]), sagsA s.sags, knsA s.kns, .int .i64 s.now]] := by
            rw [← e1, List.length_map]; exact hK'
          clear hK hK'
          refine ⟨1000000000, 151, deskL s, _, rfl, rfl, rfl, rfl, s, rfl, .inl ⟨l, _, rfl, ⟨deskL (withA s l), rfl, rfl, rfl, ?_⟩⟩⟩
          refine ⟨fun _ => ?_, fun h => Bool.noConfusion (show true = false from h)⟩
          repeat' first
            | exact hend
            | (refine ⟨bd1, ?_⟩)
            | (refine ⟨bd2, ?_⟩)
            | (refine And.intro ?_ ?_)
            | fail
        · simp only [hh] at hK
          refine ⟨1000000000, 151, deskL s, _, rfl, rfl, rfl, rfl, s, rfl, .inr ⟨e, _, rfl, ⟨deskL s, rfl, rfl, rfl, ?_⟩⟩⟩
          refine ⟨fun h => Bool.noConfusion (show false = true from h), fun _ => ?_⟩
          exact hK
theorem auth_ok : FnOk Tryz.prog tab 101 (deskC authM) := auth_ok0.frzB.mono (by
  rintro args bs K ⟨s, r, rfl, rfl, hz, hK⟩
  exact ⟨s, r, rfl, rfl, hz, ⟨[75000], _, _, rfl, rfl, hK⟩, ⟨[75000], _, _, rfl, rfl, hK⟩⟩)
/-! ### pay -/
def payD (s : Sta) (k : Int) (p : Pay) : Except Int (List Acc) → Sta × Rep
  | .ok l => (withP (withA s l) (s.pays.set k.toNat p), 0, 0)
  | .error e => (s, e, 0)
abbrev payDC0 (G : Sta → Box) (args : List AV) (bs : List Box) (K : AV → List Box → Prop) : Prop := ∃ (s : Sta) (k : Int) (p : Pay), bs = [deskB s] ∧ SzA s ∧
  ((∃ l, args = [dk, .int .i64 k, payA p, accsA l, .nilifc] ∧ 0 ≤ k ∧ k < s.pays.length ∧ K (repA 0 0) [G (payD s k p (.ok l)).1]) ∨ ∃ e, args = [dk, .int .i64 k, payA p, .sl .nl 0 [], errA e] ∧ K (repA e 0) [deskB s])
theorem pay_modify {l : List Pay} {i : Nat} {a : Pay} (h : l[i]? = some a) (g : AV → AV) (x : Pay) (hg : g (payA a) = payA x) : (l.map payA).modify i g = (l.set i x).map payA := by
  rw [List.map_set]
  apply List.ext_getElem?
  intro j
  rw [List.getElem?_modify, List.getElem?_set]
  by_cases hj : i = j
  · subst hj
    obtain ⟨hi, rfl⟩ := List.getElem?_eq_some_iff.1 h
    simp [hg, hi]
  · simp [hj]
def R0y : Contract
  | _ => fun _ _ _ => False
theorem R0y_ok : CallOk Tryz.prog tab R0y := by
  intro f args bs K h
  unfold R0y at h
  split at h
  · exact h.elim
def R0y_E (pl : Nat → Plan) : En := ⟨tab, R0y, fun _ => none, 0, pl⟩
theorem R0y_J (pl : Nat → Plan) : JOk Tryz.prog (R0y_E pl).T (R0y_E pl).J := fun _ _ h => by cases h
noncomputable def JPy : FuncId → Option StSpec
  | 114 => some (frzJ (ptrJ takeC'))
  | _ => none
theorem JPy_ok : JOk Tryz.prog tab JPy := by
  intro f j h
  unfold JPy at h
  split at h
  · cases h; exact frz_ok (ptr_ok take_ok')
  · cases h
noncomputable def EPy_E (pl : Nat → Plan) : En := ⟨tab, R0y, JPy, 0, pl⟩
set_option maxRecDepth 200000 in
set_option maxHeartbeats 3200000 in
theorem payD_ok0 : FnOk Tryz.prog tab 118 (payDC0 (deskBo 24000)) := by
  refine fn_ok (E := EPy_E pl118) tab_is R0y_ok JPy_ok Tryz.func118 rfl rfl (by kernel_rfl) ?_
  rintro args bs K ⟨s, k, p, rfl, hz, ⟨l, rfl, k0, k1, hK⟩ | ⟨e, rfl, hK⟩⟩
  · refine ⟨rfl, ?_⟩
    have hlp := hz.lp
    have bd1 : (s.pays.map payA).length * 64 ≤ 140737488355328 := by rw [List.length_map]; omega
    obtain ⟨q, hq⟩ : ∃ q, s.pays[k.toNat]? = some q := ⟨_, List.getElem?_eq_getElem (by omega)⟩
    refine ⟨1000000000, 151, deskL s, _, rfl, rfl, rfl, rfl, s, rfl, .inl ⟨l, 0, rfl, ⟨deskL (withA s l), rfl, rfl, rfl, ?_⟩⟩⟩
    refine ⟨fun _ => ?_, fun h => Bool.noConfusion (show true = false from h)⟩
    refine ⟨bd1, ?_⟩
    refine ⟨_, k0, map_of hq, ?_⟩
    have e1 := pay_modify hq (fun x => x.ofCells (putCells x.cells 0 (payA p).cells)) p rfl
    have hend : K (repA 0 0) [.cells 151 [accsA l, .sl (.own 24000) 90 ((s.pays.map payA).modify k.toNat fun x => x.ofCells (putCells x.cells 0 (payA p).cells)), sagsA s.sags, knsA s.kns, .int .i64 s.now]] := by
      rw [e1]; exact hK
    exact hend
  · refine ⟨rfl, ?_⟩
    refine ⟨1000000000, 151, deskL s, _, rfl, rfl, rfl, rfl, s, rfl, .inr ⟨e, 0, rfl, ⟨deskL s, rfl, rfl, rfl, ?_⟩⟩⟩
    refine ⟨fun h => Bool.noConfusion (show false = true from h), fun _ => ?_⟩
    exact hK
theorem payD_ok : FnOk Tryz.prog tab 118 (payDC0 deskB) := payD_ok0.frzB.mono (by
  rintro args bs K ⟨s, k, p, rfl, hz, ⟨l, rfl, k0, k1, hK⟩ | ⟨e, rfl, hK⟩⟩
  · exact ⟨s, k, p, rfl, hz, .inl ⟨l, rfl, k0, k1, [24000], _, _, rfl, rfl, hK⟩⟩
  · exact ⟨s, k, p, rfl, hz, .inr ⟨e, rfl, [], _, _, rfl, rfl, hK⟩⟩)
/-! ### both -/
def bothM (s : Sta) (r : Req) : Except Int (Pay × Pay) :=
  if r.a < 0 ∨ r.a ≥ s.pays.length then .error 2 else match s.pays[r.a.toNat]? with
  | some p => match doP p r.op r.amt with
    | .ok q => .ok (p, q)
    | .error e => .error e
  | none => .error 0
def bothC (args : List AV) (bs : List Box) (K : AV → List Box → Prop) : Prop := ∃ (s : Sta) (r : Req), bs = [deskB s] ∧ args = [dk, reqA r] ∧
  (∀ p q, bothM s r = .ok (p, q) → K (.tup [payA p, payA q, .nilifc]) [deskB s]) ∧ ∀ p e, bothM s r = .error e → K (.tup [payA p, payA pay0, errA e]) [deskB s]
def RBo : Contract
  | 126 => doPC
  | _ => fun _ _ _ => False
theorem RBo_ok : CallOk Tryz.prog tab RBo := by
  intro f args bs K h
  unfold RBo at h
  split at h
  · exact ⟨_, h, doP_ok⟩
  · exact h.elim
def RBo_E (pl : Nat → Plan) : En := ⟨tab, RBo, fun _ => none, 0, pl⟩
theorem RBo_J (pl : Nat → Plan) : JOk Tryz.prog (RBo_E pl).T (RBo_E pl).J := fun _ _ h => by cases h
set_option maxRecDepth 200000 in
set_option maxHeartbeats 3200000 in
theorem both_ok : FnOk Tryz.prog tab 116 bothC := by
  refine fn_ok (E := RBo_E pl116) tab_is RBo_ok (RBo_J _) Tryz.func116 rfl rfl (by kernel_rfl) ?_
  rintro args bs K ⟨s, r, rfl, rfl, hok, her⟩
  refine ⟨rfl, ?_⟩
  have no : (r.a < 0 ∨ r.a ≥ s.pays.length) → K (.tup [payA pay0, payA pay0, errA 2]) [deskB s] := fun h => her pay0 2 (by unfold bothM; rw [if_pos h])
  refine ⟨fun h => ?_, fun h => ?_⟩
  · exact ⟨fun _ => no (.inl (by simpa using h)), fun h => Bool.noConfusion (show true = false from h)⟩
  · have h : ¬ r.a < 0 := by simpa using h
    refine ⟨fun hg => no (.inr (by simpa using hg)), fun hg => ?_⟩
    have hg : ¬ r.a ≥ s.pays.length := by simpa using hg
    obtain ⟨p, hp⟩ : ∃ q, s.pays[r.a.toNat]? = some q := ⟨_, List.getElem?_eq_getElem (by omega)⟩
    have st : bothM s r = (match doP p r.op r.amt with
      | .ok q => .ok (p, q)
      | .error e => .error e) := by unfold bothM; rw [if_neg (by omega), hp]
    rw [st] at hok her
    refine ⟨_, by omega, map_of hp, ?_⟩
    refine ⟨rfl, p, r.op, r.amt, rfl, fun q hq => ?_, fun e hq => ?_⟩
    · simp only [hq] at hok
      have hend := hok p q rfl
      clear hok her no
      repeat' first
        | exact hend
        | (refine And.intro ?_ ?_)
        | fail
    · simp only [hq] at her
      have hend := her p e rfl
      clear hok her no
      repeat' first
        | exact hend
        | (refine And.intro ?_ ?_)
        | fail
theorem both_in {s : Sta} {r : Req} {p q : Pay} (h : bothM s r = .ok (p, q)) : 0 ≤ r.a ∧ r.a < s.pays.length ∧ s.pays[r.a.toNat]? = some p ∧ doP p r.op r.amt = .ok q := by
  unfold bothM at h
  split at h
  · cases h
  · split at h
    · split at h
      · rename_i hp _ q' hq
        cases h
        exact ⟨by omega, by omega, hp, hq⟩
      · cases h
    · cases h
/-! ### capture -/
def captureM (s : Sta) (r : Req) : Sta × Rep := match bothM s r with
  | .error e => (s, e, 0)
  | .ok pq => match moveM s.accs pq.1.src pq.1.dst r.amt with
    | .error e => (s, e, 0)
    | .ok es => payD s r.a pq.2 (spendM s.accs r.amt es)
noncomputable def JCa : FuncId → Option StSpec
  | 116 => some (frzJ (ptrJ bothC))
  | 118 => some (frzJ (ptrJ (payDC0 deskB)))
  | _ => none
theorem JCa_ok : JOk Tryz.prog tab JCa := by
  intro f j h
  unfold JCa at h
  split at h
  · cases h; exact frz_ok (ptr_ok both_ok)
  · cases h; exact frz_ok (ptr_ok payD_ok)
  · cases h
def RCa : Contract
  | 117 => numbC
  | 87 => moveC
  | 89 => spendC
  | _ => fun _ _ _ => False
theorem RCa_ok : CallOk Tryz.prog tab RCa := by
  intro f args bs K h
  unfold RCa at h
  split at h
  · exact ⟨_, h, numb_ok⟩
  · exact ⟨_, h, move_ok⟩
  · exact ⟨_, h, spend_ok⟩
  · exact h.elim
def RCa_E (pl : Nat → Plan) : En := ⟨tab, RCa, fun _ => none, 0, pl⟩
theorem RCa_J (pl : Nat → Plan) : JOk Tryz.prog (RCa_E pl).T (RCa_E pl).J := fun _ _ h => by cases h
noncomputable def ECa_E (pl : Nat → Plan) : En := ⟨tab, RCa, JCa, 0, pl⟩
set_option maxRecDepth 200000 in
set_option maxHeartbeats 3200000 in
theorem capture_ok : FnOk Tryz.prog tab 102 (deskC captureM) := by
  refine fn_ok (E := ECa_E pl102) tab_is RCa_ok JCa_ok Tryz.func102 rfl rfl (by kernel_rfl) ?_
  rintro args bs K ⟨s, r, rfl, rfl, hz, hK⟩
  refine ⟨rfl, ?_⟩
  have hl := hz.la
  unfold captureM at hK
  refine ⟨1000000000, 151, deskL s, _, rfl, rfl, rfl, rfl, s, r, rfl, rfl, fun p q hb => ⟨deskL s, rfl, rfl, rfl, ?_⟩, fun p e hb => ⟨deskL s, rfl, rfl, rfl, ?_⟩⟩
  · simp only [hb] at hK
    obtain ⟨a0, a1, -⟩ := both_in hb
    refine ⟨fun h => Bool.noConfusion (show false = true from h), fun _ => ?_⟩
    refine ⟨rfl, s.accs, p.src, p.dst, r.amt, rfl, fun es hm => ?_, fun e hm => ?_⟩
    · simp only [hm] at hK
      have hle := move_len hm
      refine ⟨fun h => Bool.noConfusion (show false = true from h), fun _ => ?_⟩
      refine ⟨rfl, s.accs, r.amt, es, rfl, by omega, by omega, fun l hs => ?_, fun e hs => ?_⟩
      · simp only [hs, payD] at hK
        exact ⟨1000000000, 151, deskL s, _, rfl, rfl, rfl, rfl, s, r.a, q, rfl, hz, .inl ⟨l, rfl, a0, a1, ⟨deskL (withP (withA s l) (s.pays.set r.a.toNat q)), rfl, rfl, rfl, hK⟩⟩⟩
      · simp only [hs, payD] at hK
        exact ⟨1000000000, 151, deskL s, _, rfl, rfl, rfl, rfl, s, r.a, q, rfl, hz, .inr ⟨e, rfl, ⟨deskL s, rfl, rfl, rfl, hK⟩⟩⟩
    · simp only [hm] at hK
      refine ⟨fun _ => ?_, fun h => Bool.noConfusion (show true = false from h)⟩
      exact ⟨rfl, .inr ⟨e, rfl, hK⟩⟩
  · simp only [hb] at hK
    refine ⟨fun _ => ?_, fun h => Bool.noConfusion (show true = false from h)⟩
    exact ⟨rfl, .inr ⟨e, rfl, hK⟩⟩
/-! ### void -/
def voidM (s : Sta) (r : Req) : Sta × Rep := match bothM s r with
  | .error e => (s, e, 0)
  | .ok pq => payD s r.a pq.2 (relM s.accs pq.1.src (left pq.1))
def RVo : Contract
  | 117 => numbC
  | 35 => leftC
  | 88 => (accsRz relM)
  | _ => fun _ _ _ => False
theorem RVo_ok : CallOk Tryz.prog tab RVo := by
  intro f args bs K h
  unfold RVo at h
  split at h
  · exact ⟨_, h, numb_ok⟩
  · exact ⟨_, h, left_ok⟩
  · exact ⟨_, h, rel_ok⟩
  · exact h.elim
def RVo_E (pl : Nat → Plan) : En := ⟨tab, RVo, fun _ => none, 0, pl⟩
theorem RVo_J (pl : Nat → Plan) : JOk Tryz.prog (RVo_E pl).T (RVo_E pl).J := fun _ _ h => by cases h
noncomputable def EVo_E (pl : Nat → Plan) : En := ⟨tab, RVo, JCa, 0, pl⟩
set_option maxRecDepth 200000 in
set_option maxHeartbeats 3200000 in
theorem void_ok : FnOk Tryz.prog tab 103 (deskC voidM) := by
  refine fn_ok (E := EVo_E pl103) tab_is RVo_ok JCa_ok Tryz.func103 rfl rfl (by kernel_rfl) ?_
  rintro args bs K ⟨s, r, rfl, rfl, hz, hK⟩
  refine ⟨rfl, ?_⟩
  have hl := hz.la
  unfold voidM at hK
  refine ⟨1000000000, 151, deskL s, _, rfl, rfl, rfl, rfl, s, r, rfl, rfl, fun p q hb => ⟨deskL s, rfl, rfl, rfl, ?_⟩, fun p e hb => ⟨deskL s, rfl, rfl, rfl, ?_⟩⟩
  · simp only [hb] at hK
    obtain ⟨a0, a1, -⟩ := both_in hb
    refine ⟨fun h => Bool.noConfusion (show false = true from h), fun _ => ?_⟩
    refine ⟨rfl, p, rfl, ?_⟩
    refine ⟨rfl, s.accs, p.src, left p, rfl, by omega, fun l hs => ?_, fun e hs => ?_⟩
    · simp only [hs, payD] at hK
      exact ⟨1000000000, 151, deskL s, _, rfl, rfl, rfl, rfl, s, r.a, q, rfl, hz, .inl ⟨l, rfl, a0, a1, ⟨deskL (withP (withA s l) (s.pays.set r.a.toNat q)), rfl, rfl, rfl, hK⟩⟩⟩
    · simp only [hs, payD] at hK
      exact ⟨1000000000, 151, deskL s, _, rfl, rfl, rfl, rfl, s, r.a, q, rfl, hz, .inr ⟨e, rfl, ⟨deskL s, rfl, rfl, rfl, hK⟩⟩⟩
  · simp only [hb] at hK
    refine ⟨fun _ => ?_, fun h => Bool.noConfusion (show true = false from h)⟩
    exact ⟨rfl, .inr ⟨e, rfl, hK⟩⟩
end Go.Proofs.YtjffmldlkofpaaaGreatDoor.A

/- ops: back, refund, charge, by, Do. -/
namespace Go.Proofs.YtjffmldlkofpaaaGreatDoor.A
open Go Q
def backD (s : Sta) (p : Pay) (n : Int) : Except Int (List Ent) := match moveM s.accs p.src p.dst n with
  | .ok es => .ok (backM es)
  | .error e => .error e
theorem move_some {al : List Acc} {x y n : Int} {es : List Ent} (h : moveM al x y n = .ok es) : ∃ e l, backM es = e :: l := by
  unfold moveM at h
  repeat' split at h
  all_goals first | (cases h; done) | (cases h; exact ⟨_, _, rfl⟩)
theorem backD_some {s : Sta} {p : Pay} {n : Int} {es : List Ent} (h : backD s p n = .ok es) : ∃ e l, es = e :: l := by
  unfold backD at h
  split at h
  · rename_i q hq
    cases h
    exact move_some hq
  · cases h
def backDC (args : List AV) (bs : List Box) (K : AV → List Box → Prop) : Prop := ∃ (s : Sta) (p : Pay) (n : Int), bs = [deskB s] ∧ args = [dk, payA p, .int .i64 n] ∧
  (∀ es, backD s p n = .ok es → K (.tup [entsS (.own 25000) es, .nilifc]) [deskB s]) ∧ ∀ e, backD s p n = .error e → K (.tup [.sl .nl 0 [], errA e]) [deskB s]
def RBk : Contract
  | 87 => moveC
  | 127 => nilC backC
  | _ => fun _ _ _ => False
theorem RBk_ok : CallOk Tryz.prog tab RBk := by
  intro f args bs K h
  unfold RBk at h
  split at h
  · exact ⟨_, h, move_ok⟩
  · exact ⟨_, h, back_ok.nil⟩
  · exact h.elim
def RBk_E (pl : Nat → Plan) : En := ⟨tab, RBk, fun _ => none, 0, pl⟩
theorem RBk_J (pl : Nat → Plan) : JOk Tryz.prog (RBk_E pl).T (RBk_E pl).J := fun _ _ h => by cases h
set_option maxRecDepth 200000 in
set_option maxHeartbeats 3200000 in
theorem backD_ok : FnOk Tryz.prog tab 119 backDC := by
  refine fn_ok (E := RBk_E pl119) tab_is RBk_ok (RBk_J _) Tryz.func119 rfl rfl (by kernel_rfl) ?_
  rintro args bs K ⟨s, p, n, rfl, rfl, hok, her⟩
  refine ⟨rfl, ?_⟩
  unfold backD at hok her
  refine ⟨rfl, s.accs, p.src, p.dst, n, rfl, fun es hm => ?_, fun e hm => ?_⟩
  · simp only [hm] at hok
    have hle := move_len hm
    obtain ⟨e, l, hel⟩ := move_some hm
    have hend := hok _ rfl
    rw [hel] at hend
    refine ⟨[entsA es], ⟨.inl rfl, trivial⟩, rfl, es, rfl, by omega, ?_⟩
    rw [hel]
    exact hend
  · simp only [hm] at her
    have hend := her e rfl
    refine ⟨[entsA []], ⟨.inr ⟨_, _, rfl, rfl⟩, trivial⟩, rfl, [], rfl, by simp, ?_⟩
    exact hend
/-! ### refund -/
def refundM (s : Sta) (r : Req) : Sta × Rep := match bothM s r with
  | .error e => (s, e, 0)
  | .ok pq => match backD s pq.1 r.amt with
    | .error e => (s, e, 0)
    | .ok es => payD s r.a pq.2 (postM s.accs es)
theorem backD_len {s : Sta} {p : Pay} {n : Int} {es : List Ent} (h : backD s p n = .ok es) : es.length ≤ 4 := by
  unfold backD at h
  split at h
  · rename_i q hq
    cases h
    rw [backM_len]; exact move_len hq
  · cases h
noncomputable def JRe : FuncId → Option StSpec
  | 116 => some (frzJ (ptrJ bothC))
  | 118 => some (frzJ (ptrJ (payDC0 deskB)))
  | 119 => some (ptrO 600000 backDC)
  | _ => none
theorem JRe_ok : JOk Tryz.prog tab JRe := by
  intro f j h
  unfold JRe at h
  split at h
  · cases h; exact frz_ok (ptr_ok both_ok)
  · cases h; exact frz_ok (ptr_ok payD_ok)
  · cases h; exact ptrO_ok 600000 backD_ok
  · cases h
def RRe : Contract
  | 117 => numbC
  | 109 => postC
  | _ => fun _ _ _ => False
theorem RRe_ok : CallOk Tryz.prog tab RRe := by
  intro f args bs K h
  unfold RRe at h
  split at h
  · exact ⟨_, h, numb_ok⟩
  · exact ⟨_, h, post_ok⟩
  · exact h.elim
def RRe_E (pl : Nat → Plan) : En := ⟨tab, RRe, fun _ => none, 0, pl⟩
theorem RRe_J (pl : Nat → Plan) : JOk Tryz.prog (RRe_E pl).T (RRe_E pl).J := fun _ _ h => by cases h
noncomputable def ERe_E (pl : Nat → Plan) : En := ⟨tab, RRe, JRe, 0, pl⟩
set_option maxRecDepth 200000 in
set_option maxHeartbeats 3200000 in
theorem refund_ok : FnOk Tryz.prog tab 104 (deskC refundM) := by
  refine fn_ok (E := ERe_E pl104) tab_is RRe_ok JRe_ok Tryz.func104 rfl rfl (by kernel_rfl) ?_
  rintro args bs K ⟨s, r, rfl, rfl, hz, hK⟩
  refine ⟨rfl, ?_⟩
  have hl := hz.la
  unfold refundM at hK
  refine ⟨1000000000, 151, deskL s, _, rfl, rfl, rfl, rfl, s, r, rfl, rfl, fun p q hb => ⟨deskL s, rfl, rfl, rfl, ?_⟩, fun p e hb => ⟨deskL s, rfl, rfl, rfl, ?_⟩⟩
  · simp only [hb] at hK
    obtain ⟨a0, a1, -⟩ := both_in hb
    refine ⟨fun h => Bool.noConfusion (show false = true from h), fun _ => ?_⟩
    refine ⟨1000000000, 151, deskL s, _, rfl, rfl, rfl, rfl, s, p, r.amt, rfl, rfl, fun es hm => ⟨deskL s, rfl, rfl, rfl, ?_⟩, fun e hm => ⟨deskL s, rfl, rfl, rfl, ?_⟩⟩
    · simp only [hm] at hK
      have hle := backD_len hm
      refine ⟨fun h => Bool.noConfusion (show false = true from h), fun _ => ?_⟩
      refine ⟨rfl, s.accs, es, rfl, by omega, by omega, fun l hs => ?_, fun e hs => ?_⟩
      · simp only [hs, payD] at hK
        exact ⟨1000000000, 151, deskL s, _, rfl, rfl, rfl, rfl, s, r.a, q, rfl, hz, .inl ⟨l, rfl, a0, a1, ⟨deskL (withP (withA s l) (s.pays.set r.a.toNat q)), rfl, rfl, rfl, hK⟩⟩⟩
      · simp only [hs, payD] at hK
        exact ⟨1000000000, 151, deskL s, _, rfl, rfl, rfl, rfl, s, r.a, q, rfl, hz, .inr ⟨e, rfl, ⟨deskL s, rfl, rfl, rfl, hK⟩⟩⟩
    · simp only [hm] at hK
      refine ⟨fun _ => ?_, fun h => Bool.noConfusion (show true = false from h)⟩
      exact ⟨rfl, .inr ⟨e, rfl, hK⟩⟩
  · simp only [hb] at hK
    refine ⟨fun _ => ?_, fun h => Bool.noConfusion (show true = false from h)⟩
    exact ⟨rfl, .inr ⟨e, rfl, hK⟩⟩
/-! ### charge -/
/-- The seller's part, and the house's. -/
def lackE (s : Sta) (p : Pay) : List Ent → List Ent
  | [] => []
  | e :: es => if w64 (w64 (0 - e.amt) - freeN (accAt s.accs p.dst)) > 0 then ⟨e.acct, w64 (e.amt + w64 (w64 (0 - e.amt) - freeN (accAt s.accs p.dst)))⟩ :: (es ++ [⟨numK 2 (accAt s.accs p.dst).cur, w64 (0 - w64 (w64 (0 - e.amt) - freeN (accAt s.accs p.dst)))⟩]) else e :: es
theorem lackE_cons (s : Sta) (p : Pay) (e : Ent) (es : List Ent) : lackE s p (e :: es) = if w64 (w64 (0 - e.amt) - freeN (accAt s.accs p.dst)) > 0 then ⟨e.acct, w64 (e.amt + w64 (w64 (0 - e.amt) - freeN (accAt s.accs p.dst)))⟩ :: (es ++ [⟨numK 2 (accAt s.accs p.dst).cur, w64 (0 - w64 (w64 (0 - e.amt) - freeN (accAt s.accs p.dst)))⟩]) else e :: es := rfl
def chargeM (s : Sta) (r : Req) : Sta × Rep := match bothM s r with
  | .error e => (s, e, 0)
  | .ok pq => match backD s pq.1 r.amt with
    | .error e => (s, e, 0)
    | .ok es => payD s r.a pq.2 (postM s.accs (lackE s pq.1 es))
theorem move_in {al : List Acc} {x y n : Int} {es : List Ent} (h : moveM al x y n = .ok es) : (0 ≤ x ∧ x < al.length) ∧ (0 ≤ y ∧ y < al.length) := by
  unfold moveM at h
  split at h
  · cases h
  · rename_i hn
    exact ⟨of_true (by simpa using fun h => hn (.inl h)), of_true (by simpa using fun h => hn (.inr h))⟩
theorem backD_in {s : Sta} {p : Pay} {n : Int} {es : List Ent} (h : backD s p n = .ok es) : (0 ≤ p.src ∧ p.src < s.accs.length) ∧ (0 ≤ p.dst ∧ p.dst < s.accs.length) := by
  unfold backD at h
  split at h
  · rename_i q hq; exact move_in hq
  · cases h
def RCh : Contract
  | 117 => numbC
  | 109 => postC
  | 78 => freeC
  | 106 => numKC
  | _ => fun _ _ _ => False
theorem RCh_ok : CallOk Tryz.prog tab RCh := by
  intro f args bs K h
  unfold RCh at h
  split at h
  · exact ⟨_, h, numb_ok⟩
  · exact ⟨_, h, post_ok⟩
  · exact ⟨_, h, free_ok⟩
  · exact ⟨_, h, numK_ok⟩
  · exact h.elim
def RCh_E (pl : Nat → Plan) : En := ⟨tab, RCh, fun _ => none, 0, pl⟩
theorem RCh_J (pl : Nat → Plan) : JOk Tryz.prog (RCh_E pl).T (RCh_E pl).J := fun _ _ h => by cases h
noncomputable def ECh_E (pl : Nat → Plan) : En := ⟨tab, RCh, JRe, 0, pl⟩
set_option maxRecDepth 200000 in
set_option maxHeartbeats 6400000 in
theorem charge_ok : FnOk Tryz.prog tab 105 (deskC chargeM) := by
  refine fn_ok (E := ECh_E pl105) tab_is RCh_ok JRe_ok Tryz.func105 rfl rfl (by kernel_rfl) ?_
  rintro args bs K ⟨s, r, rfl, rfl, hz, hK⟩
  refine ⟨rfl, ?_⟩
  have hl := hz.la
  unfold chargeM at hK
  refine ⟨1000000000, 151, deskL s, _, rfl, rfl, rfl, rfl, s, r, rfl, rfl, fun p q hb => ⟨deskL s, rfl, rfl, rfl, ?_⟩, fun p e hb => ⟨deskL s, rfl, rfl, rfl, ?_⟩⟩
  · simp only [hb] at hK
    obtain ⟨a0, a1, -⟩ := both_in hb
    refine ⟨fun h => Bool.noConfusion (show false = true from h), fun _ => ?_⟩
    refine ⟨1000000000, 151, deskL s, _, rfl, rfl, rfl, rfl, s, p, r.amt, rfl, rfl, fun es hm => ⟨deskL s, rfl, rfl, rfl, ?_⟩, fun e hm => ⟨deskL s, rfl, rfl, rfl, ?_⟩⟩
    · simp only [hm] at hK
      have hle := backD_len hm
      obtain ⟨-, d0, d1⟩ := backD_in hm
      obtain ⟨e1, el, rfl⟩ := backD_some hm
      obtain ⟨a, ha⟩ : ∃ a, s.accs[p.dst.toNat]? = some a := ⟨_, List.getElem?_eq_getElem (by omega)⟩
      rw [lackE_cons, accAt_of ha] at hK
      refine ⟨fun h => Bool.noConfusion (show false = true from h), fun _ => ?_⟩
      refine ⟨_, d0, map_of ha, ?_⟩
      refine ⟨_, Int.le_refl 0, rfl, ?_⟩
      refine ⟨rfl, a, rfl, ?_⟩
      refine ⟨fun hg => ?_, fun hg => ?_⟩
      · have hg : w64 (w64 (0 - e1.amt) - freeN a) > 0 := of_decide_eq_true hg
        rw [if_pos hg] at hK
        refine ⟨_, Int.le_refl 0, rfl, ?_⟩
        refine ⟨_, Int.le_refl 0, rfl, ?_⟩
        refine ⟨rfl, 2, a.cur, rfl, ?_⟩
        have bd : ((el.map entA).length + 1 + 1) * 16 ≤ 140737488355328 := by rw [List.length_map]; simp at hle; omega
        refine ⟨bd, ?_⟩
        have hel : (entA ⟨e1.acct, w64 (e1.amt + w64 (w64 (0 - e1.amt) - freeN a))⟩ :: el.map entA) ++ [entA ⟨numK 2 a.cur, w64 (0 - w64 (w64 (0 - e1.amt) - freeN a))⟩] = ((⟨e1.acct, w64 (e1.amt + w64 (w64 (0 - e1.amt) - freeN a))⟩ : Ent) :: (el ++ [⟨numK 2 a.cur, w64 (0 - w64 (w64 (0 - e1.amt) - freeN a))⟩])).map entA := by simp
        refine ⟨rfl, s.accs, ⟨e1.acct, w64 (e1.amt + w64 (w64 (0 - e1.amt) - freeN a))⟩ :: (el ++ [⟨numK 2 a.cur, w64 (0 - w64 (w64 (0 - e1.amt) - freeN a))⟩]), ?_, by omega, by simp at hle ⊢; omega, fun l hs => ?_, fun e hs => ?_⟩
        · exact congrArg (fun x => [accsA s.accs, AV.sl .fz 180 x]) hel
        · simp only [hs, payD] at hK
          exact ⟨1000000000, 151, deskL s, _, rfl, rfl, rfl, rfl, s, r.a, q, rfl, hz, .inl ⟨l, rfl, a0, a1, ⟨deskL (withP (withA s l) (s.pays.set r.a.toNat q)), rfl, rfl, rfl, hK⟩⟩⟩
        · simp only [hs, payD] at hK
          exact ⟨1000000000, 151, deskL s, _, rfl, rfl, rfl, rfl, s, r.a, q, rfl, hz, .inr ⟨e, rfl, ⟨deskL s, rfl, rfl, rfl, hK⟩⟩⟩
      · have hg : ¬ w64 (w64 (0 - e1.amt) - freeN a) > 0 := of_decide_eq_false hg
        rw [if_neg hg] at hK
        refine ⟨rfl, s.accs, e1 :: el, rfl, by omega, by omega, fun l hs => ?_, fun e hs => ?_⟩
        · simp only [hs, payD] at hK
          exact ⟨1000000000, 151, deskL s, _, rfl, rfl, rfl, rfl, s, r.a, q, rfl, hz, .inl ⟨l, rfl, a0, a1, ⟨deskL (withP (withA s l) (s.pays.set r.a.toNat q)), rfl, rfl, rfl, hK⟩⟩⟩
        · simp only [hs, payD] at hK
          exact ⟨1000000000, 151, deskL s, _, rfl, rfl, rfl, rfl, s, r.a, q, rfl, hz, .inr ⟨e, rfl, ⟨deskL s, rfl, rfl, rfl, hK⟩⟩⟩
    · simp only [hm] at hK
      refine ⟨fun _ => ?_, fun h => Bool.noConfusion (show true = false from h)⟩
      exact ⟨rfl, .inr ⟨e, rfl, hK⟩⟩
  · simp only [hb] at hK
    refine ⟨fun _ => ?_, fun h => Bool.noConfusion (show true = false from h)⟩
    exact ⟨rfl, .inr ⟨e, rfl, hK⟩⟩
end Go.Proofs.YtjffmldlkofpaaaGreatDoor.A

/- ops: by, Do. -/
namespace Go.Proofs.YtjffmldlkofpaaaGreatDoor.A
open Go Q
def obyC (args : List AV) (bs : List Box) (K : AV → List Box → Prop) : Prop := bs = [] ∧ ∃ op : Int, args = [.int .i64 op] ∧ (op = 0 → K (.fn (.func 98) [] []) []) ∧ (op = 1 → K (.fn (.func 99) [] []) []) ∧ (op = 2 → K (.fn (.func 100) [] []) []) ∧ (op = 3 → K (.fn (.func 101) [] []) []) ∧
  (op = 4 → K (.fn (.func 102) [] []) []) ∧ (op = 5 → K (.fn (.func 103) [] []) []) ∧ (op = 6 → K (.fn (.func 104) [] []) []) ∧ (op = 7 → K (.fn (.func 105) [] []) []) ∧ ((op < 0 ∨ op ≥ 8) → K .nilfn [])
set_option maxRecDepth 200000 in
set_option maxHeartbeats 3200000 in
theorem oby_ok : FnOk Tryz.prog tab 83 obyC := by
  refine fn_ok (E := R0_E pl83) tab_is R0_ok (R0_J _) Tryz.func83 rfl rfl (by kernel_rfl) ?_
  rintro args bs K ⟨rfl, op, rfl, k0, k1, k2, k3, k4, k5, k6, k7, kn⟩
  refine ⟨rfl, ?_⟩
  by_cases hn : op < 0 ∨ op ≥ 8
  · have hend := kn hn
    refine ⟨fun h => ?_, fun h => ?_⟩
    · exact ⟨fun _ => hend, fun h => Bool.noConfusion (show true = false from h)⟩
    · refine ⟨fun _ => hend, fun h2 => ?_⟩
      have h : ¬ op < 0 := of_decide_eq_false h
      have h2 : ¬ op ≥ 8 := of_decide_eq_false h2
      omega
  · have hop : op = 0 ∨ op = 1 ∨ op = 2 ∨ op = 3 ∨ op = 4 ∨ op = 5 ∨ op = 6 ∨ op = 7 := by omega
    rcases hop with rfl | rfl | rfl | rfl | rfl | rfl | rfl | rfl
    · have hend := k0 rfl
      refine ⟨fun h => Bool.noConfusion (show false = true from h), fun _ => ?_⟩
      refine ⟨fun h => Bool.noConfusion (show false = true from h), fun _ => ?_⟩
      exact ⟨_, (by decide : (0 : Int) ≤ 0), rfl, hend⟩
    · have hend := k1 rfl
      refine ⟨fun h => Bool.noConfusion (show false = true from h), fun _ => ?_⟩
      refine ⟨fun h => Bool.noConfusion (show false = true from h), fun _ => ?_⟩
      exact ⟨_, (by decide : (0 : Int) ≤ 1), rfl, hend⟩
    · have hend := k2 rfl
      refine ⟨fun h => Bool.noConfusion (show false = true from h), fun _ => ?_⟩
      refine ⟨fun h => Bool.noConfusion (show false = true from h), fun _ => ?_⟩
      exact ⟨_, (by decide : (0 : Int) ≤ 2), rfl, hend⟩
    · have hend := k3 rfl
      refine ⟨fun h => Bool.noConfusion (show false = true from h), fun _ => ?_⟩
      refine ⟨fun h => Bool.noConfusion (show false = true from h), fun _ => ?_⟩
      exact ⟨_, (by decide : (0 : Int) ≤ 3), rfl, hend⟩
    · have hend := k4 rfl
      refine ⟨fun h => Bool.noConfusion (show false = true from h), fun _ => ?_⟩
      refine ⟨fun h => Bool.noConfusion (show false = true from h), fun _ => ?_⟩
      exact ⟨_, (by decide : (0 : Int) ≤ 4), rfl, hend⟩
    · have hend := k5 rfl
      refine ⟨fun h => Bool.noConfusion (show false = true from h), fun _ => ?_⟩
      refine ⟨fun h => Bool.noConfusion (show false = true from h), fun _ => ?_⟩
      exact ⟨_, (by decide : (0 : Int) ≤ 5), rfl, hend⟩
    · have hend := k6 rfl
      refine ⟨fun h => Bool.noConfusion (show false = true from h), fun _ => ?_⟩
      refine ⟨fun h => Bool.noConfusion (show false = true from h), fun _ => ?_⟩
      exact ⟨_, (by decide : (0 : Int) ≤ 6), rfl, hend⟩
    · have hend := k7 rfl
      refine ⟨fun h => Bool.noConfusion (show false = true from h), fun _ => ?_⟩
      refine ⟨fun h => Bool.noConfusion (show false = true from h), fun _ => ?_⟩
      exact ⟨_, (by decide : (0 : Int) ≤ 7), rfl, hend⟩
/-- A request, done at once. -/
def doM (s : Sta) (r : Req) : Sta × Rep :=
  if r.op = 0 then openM s r else if r.op = 1 then depositM s r else if r.op = 2 then transferM s r else if r.op = 3 then authM s r
  else if r.op = 4 then captureM s r else if r.op = 5 then voidM s r else if r.op = 6 then refundM s r else if r.op = 7 then chargeM s r else (s, 1, 0)
def doC (args : List AV) (bs : List Box) (K : AV → List Box → Prop) : Prop := bs = [] ∧ ∃ (s : Sta) (r : Req), args = [staA s, reqA r] ∧ SzA s ∧ K (.tup [staA (doM s r).1, repA (doM s r).2.1 (doM s r).2.2]) []
noncomputable def JDo : FuncId → Option StSpec
  | 98 => some (frzJ (ptrJ (deskC openM)))
  | 99 => some (frzJ (ptrJ (deskC depositM)))
  | 100 => some (frzJ (ptrJ (deskC transferM)))
  | 101 => some (frzJ (ptrJ (deskC authM)))
  | 102 => some (frzJ (ptrJ (deskC captureM)))
  | 103 => some (frzJ (ptrJ (deskC voidM)))
  | 104 => some (frzJ (ptrJ (deskC refundM)))
  | 105 => some (frzJ (ptrJ (deskC chargeM)))
  | _ => none
theorem JDo_ok : JOk Tryz.prog tab JDo := by
  intro f j h
  unfold JDo at h
  split at h
  · cases h; exact frz_ok (ptr_ok open_ok)
  · cases h; exact frz_ok (ptr_ok deposit_ok)
  · cases h; exact frz_ok (ptr_ok transfer_ok)
  · cases h; exact frz_ok (ptr_ok auth_ok)
  · cases h; exact frz_ok (ptr_ok capture_ok)
  · cases h; exact frz_ok (ptr_ok void_ok)
  · cases h; exact frz_ok (ptr_ok refund_ok)
  · cases h; exact frz_ok (ptr_ok charge_ok)
  · cases h
def RDo : Contract
  | 83 => obyC
  | _ => fun _ _ _ => False
theorem RDo_ok : CallOk Tryz.prog tab RDo := by
  intro f args bs K h
  unfold RDo at h
  split at h
  · exact ⟨_, h, oby_ok⟩
  · exact h.elim
def RDo_E (pl : Nat → Plan) : En := ⟨tab, RDo, fun _ => none, 0, pl⟩
theorem RDo_J (pl : Nat → Plan) : JOk Tryz.prog (RDo_E pl).T (RDo_E pl).J := fun _ _ h => by cases h
noncomputable def EDo_E (pl : Nat → Plan) : En := ⟨tab, RDo, JDo, 0, pl⟩
set_option maxRecDepth 200000 in
set_option maxHeartbeats 6400000 in
theorem do_ok : FnOk Tryz.prog tab 50 doC := by
  refine fn_ok (E := EDo_E pl50) tab_is RDo_ok JDo_ok Tryz.func50 rfl rfl (by kernel_rfl) ?_
  rintro args bs K ⟨rfl, s, r, rfl, hz, hK⟩
  refine ⟨rfl, ?_⟩
  refine ⟨rfl, r.op, rfl, ?_, ?_, ?_, ?_, ?_, ?_, ?_, ?_, ?_⟩
  · intro ho
    have st : doM s r = openM s r := by unfold doM; simp [ho]
    rw [st] at hK
    refine ⟨fun h => Bool.noConfusion (show false = true from h), fun _ => ?_⟩
    refine ⟨18, 151, deskL s, _, rfl, rfl, rfl, rfl, s, r, rfl, rfl, hz, ⟨deskL (openM s r).1, rfl, rfl, rfl, ?_⟩⟩
    repeat' first
      | exact hK
      | (refine And.intro ?_ ?_)
      | fail
  · intro ho
    have st : doM s r = depositM s r := by unfold doM; simp [ho]
    rw [st] at hK
    refine ⟨fun h => Bool.noConfusion (show false = true from h), fun _ => ?_⟩
    refine ⟨18, 151, deskL s, _, rfl, rfl, rfl, rfl, s, r, rfl, rfl, hz, ⟨deskL (depositM s r).1, rfl, rfl, rfl, ?_⟩⟩
    repeat' first
      | exact hK
      | (refine And.intro ?_ ?_)
      | fail
  · intro ho
    have st : doM s r = transferM s r := by unfold doM; simp [ho]
    rw [st] at hK
    refine ⟨fun h => Bool.noConfusion (show false = true from h), fun _ => ?_⟩
    refine ⟨18, 151, deskL s, _, rfl, rfl, rfl, rfl, s, r, rfl, rfl, hz, ⟨deskL (transferM s r).1, rfl, rfl, rfl, ?_⟩⟩
    repeat' first
      | exact hK
      | (refine And.intro ?_ ?_)
      | fail
  · intro ho
    have st : doM s r = authM s r := by unfold doM; simp [ho]
    rw [st] at hK
    refine ⟨fun h => Bool.noConfusion (show false = true from h), fun _ => ?_⟩
    refine ⟨18, 151, deskL s, _, rfl, rfl, rfl, rfl, s, r, rfl, rfl, hz, ⟨deskL (authM s r).1, rfl, rfl, rfl, ?_⟩⟩
    repeat' first
      | exact hK
      | (refine And.intro ?_ ?_)
      | fail
  · intro ho
    have st : doM s r = captureM s r := by unfold doM; simp [ho]
    rw [st] at hK
    refine ⟨fun h => Bool.noConfusion (show false = true from h), fun _ => ?_⟩
    refine ⟨18, 151, deskL s, _, rfl, rfl, rfl, rfl, s, r, rfl, rfl, hz, ⟨deskL (captureM s r).1, rfl, rfl, rfl, ?_⟩⟩
    repeat' first
      | exact hK
      | (refine And.intro ?_ ?_)
      | fail
  · intro ho
    have st : doM s r = voidM s r := by unfold doM; simp [ho]
    rw [st] at hK
    refine ⟨fun h => Bool.noConfusion (show false = true from h), fun _ => ?_⟩
    refine ⟨18, 151, deskL s, _, rfl, rfl, rfl, rfl, s, r, rfl, rfl, hz, ⟨deskL (voidM s r).1, rfl, rfl, rfl, ?_⟩⟩
    repeat' first
      | exact hK
      | (refine And.intro ?_ ?_)
      | fail
  · intro ho
    have st : doM s r = refundM s r := by unfold doM; simp [ho]
    rw [st] at hK
    refine ⟨fun h => Bool.noConfusion (show false = true from h), fun _ => ?_⟩
    refine ⟨18, 151, deskL s, _, rfl, rfl, rfl, rfl, s, r, rfl, rfl, hz, ⟨deskL (refundM s r).1, rfl, rfl, rfl, ?_⟩⟩
    repeat' first
      | exact hK
      | (refine And.intro ?_ ?_)
      | fail
  · intro ho
    have st : doM s r = chargeM s r := by unfold doM; simp [ho]
    rw [st] at hK
    refine ⟨fun h => Bool.noConfusion (show false = true from h), fun _ => ?_⟩
    refine ⟨18, 151, deskL s, _, rfl, rfl, rfl, rfl, s, r, rfl, rfl, hz, ⟨deskL (chargeM s r).1, rfl, rfl, rfl, ?_⟩⟩
    repeat' first
      | exact hK
      | (refine And.intro ?_ ?_)
      | fail
  · intro ho
    have st : doM s r = (s, 1, 0) := by
      unfold doM
      rw [if_neg (by omega), if_neg (by omega), if_neg (by omega), if_neg (by omega), if_neg (by omega), if_neg (by omega), if_neg (by omega), if_neg (by omega)]
    rw [st] at hK
    exact ⟨fun _ => hK, fun h => Bool.noConfusion (show true = false from h)⟩
end Go.Proofs.YtjffmldlkofpaaaGreatDoor.A

/- The statements' own functions: law07.Same, Book.Accounts; law12.Paid.Payment; law15.State, Same. -/
namespace Go.Proofs.YtjffmldlkofpaaaGreatDoor.A
open Go Q
structure Paid where
  (src dst auth capt refu chrg til : Int)
  closed : Bool
/-! ### Same -/
theorem acc_ext {a b : Acc} (h1 : a.cur = b.cur) (h2 : a.bal = b.bal) (h3 : a.held = b.held) : a = b := by cases a; cases b; simp_all
theorem pay_ext {a b : Pay} (h : a.src = b.src ∧ a.dst = b.dst ∧ a.auth = b.auth ∧ a.capt = b.capt ∧ a.refu = b.refu ∧ a.chrg = b.chrg ∧ a.til = b.til ∧ a.stage = b.stage) : a = b := by cases a; cases b; simp_all
theorem list_ne_at {α : Type} {l m : List α} {i : Nat} {a b : α} (hl : l[i]? = some a) (hm : m[i]? = some b) (h : a ≠ b) : l ≠ m := fun e => by subst e; rw [hl] at hm; exact h (Option.some.inj hm)
theorem list_eq_of {α : Type} {l m : List α} (hlen : l.length = m.length) (h : ∀ (j : Nat) (a b : α), l[j]? = some a → m[j]? = some b → a = b) : l = m := by
  apply List.ext_getElem? 
  intro j
  by_cases hj : j < l.length
  · have h1 := List.getElem?_eq_getElem hj
    have h2 := List.getElem?_eq_getElem (show j < m.length by omega)
    rw [h1, h2]
    exact congrArg some (h j _ _ h1 h2)
  · rw [List.getElem?_eq_none (by omega), List.getElem?_eq_none (by omega)]
def sameAC (args : List AV) (bs : List Box) (K : AV → List Box → Prop) : Prop := bs = [] ∧ ∃ l m : List Acc, args = [accsA l, accsA m] ∧ l.length ≤ 1000000 ∧ (l = m → K (.bool true) []) ∧ (l ≠ m → K (.bool false) [])
set_option maxRecDepth 200000 in
set_option maxHeartbeats 3200000 in
theorem sameA_ok : FnOk Tryz.prog tab 84 sameAC := by
  refine fn_ok (E := R0_E pl84) tab_is R0_ok (R0_J _) Tryz.func84 rfl rfl (by kernel_rfl) ?_
  rintro args bs K ⟨rfl, l, m, rfl, hN, hy, hn⟩
  refine ⟨rfl, ?_⟩
  constructor
  · intro h
    refine hn fun e => ?_
    subst e
    simp at h
  · intro h
    have hlen : l.length = m.length := by
      have h : (((l.map accA).length : Nat) : Int) = (m.map accA).length := by simpa using h
      simp at h; omega
    refine ⟨fun mm st => ∃ (i : Nat), (i ≤ l.length ∧ ∀ (j : Nat) (a b : Acc), j < i → l[j]? = some a → m[j]? = some b → a = b) ∧ l.length - i = mm ∧ st.t 0 = accsA l ∧ st.t 1 = accsA m ∧ st.t 12 = .int .i64 ((l.map accA).length : Nat) ∧ st.t 13 = .int .i64 i,
      ⟨_, 0, ⟨Nat.zero_le _, fun j a b hj => absurd hj (Nat.not_lt_zero _)⟩, rfl, rfl, rfl, rfl, rfl⟩, ?_⟩
    rintro _ ⟨t1, h1⟩ ⟨i, ⟨hi, hX⟩, rfl, e0, e1, e12, e13⟩
    have e0 : t1 0 = accsA l := e0
    have e1 : t1 1 = accsA m := e1
    have e12 : t1 12 = .int .i64 ((l.map accA).length : Nat) := e12
    have e13 : t1 13 = .int .i64 i := e13
    rw [← updL_has t1 [(0, accsA l), (1, accsA m), (12, .int .i64 ((l.map accA).length : Nat)), (13, .int .i64 i)] ⟨e0, e1, e12, e13, trivial⟩]
    constructor
    · intro hb
      have hi' : i < l.length := by
        have : (i : Int) < ((l.map accA).length : Nat) := by simpa using hb
        simp at this; omega
      have w : IntKind.i64.wrap ((i : Int) + 1) = ((i + 1 : Nat) : Int) := by rw [wrap_of] <;> omega
      have hlt : l.length - (i + 1) < l.length - i := by omega
      obtain ⟨a, hx⟩ : ∃ x, l[i]? = some x := ⟨_, List.getElem?_eq_getElem hi'⟩
      have hm := List.mem_of_getElem? hx
      have hdr := drop_at hx
      obtain ⟨b, hb2⟩ : ∃ b, m[i]? = some b := ⟨_, List.getElem?_eq_getElem (by omega)⟩
      refine ⟨_, Int.natCast_nonneg i, map_of hx, ?_⟩
      refine ⟨_, Int.natCast_nonneg i, map_of hb2, ?_⟩
      refine ⟨fun h => hn (list_ne_at hx hb2 fun e => ?_), fun h => ?_⟩
      · subst e
        simp at h
      · have hab : a = b := by
          simp at h
          exact acc_ext h.1 h.2.1 h.2.2
        refine ⟨_, hlt, i + 1, ⟨hi', fun j x y hj hxj hyj => ?_⟩, rfl, rfl, rfl, rfl, congrArg (AV.int .i64) w⟩
        by_cases he : j = i
        · rw [he] at hxj hyj
          rw [hx] at hxj; rw [hb2] at hyj
          cases hxj; cases hyj; exact hab
        · exact hX j x y (by omega) hxj hyj
    · intro hb
      have hi' : i = l.length := by
        have : ¬ (i : Int) < ((l.map accA).length : Nat) := by simpa using hb
        simp at this; omega
      subst hi'
      exact hy (list_eq_of hlen fun j a b ha hb => hX j a b (List.getElem?_eq_some_iff.1 ha).1 ha hb)
/-- What is held the same of two states here. -/
def SameS (s t : Sta) : Prop := s.accs = t.accs ∧ s.pays = t.pays ∧ s.now = t.now
def sameSC (args : List AV) (bs : List Box) (K : AV → List Box → Prop) : Prop := bs = [] ∧ ∃ s t : Sta, args = [staA s, staA t] ∧ SzA s ∧ (SameS s t → K (.bool true) []) ∧ (¬ SameS s t → K (.bool false) [])
abbrev staB (s : Sta) : Option Box := some (.cells 36 (deskL s))
def RSm : Contract
  | 84 => sameAC
  | _ => fun _ _ _ => False
theorem RSm_ok : CallOk Tryz.prog tab RSm := by
  intro f args bs K h
  unfold RSm at h
  split at h
  · exact ⟨_, h, sameA_ok⟩
  · exact h.elim
def RSm_E (pl : Nat → Plan) : En := ⟨tab, RSm, fun _ => none, 0, pl⟩
theorem RSm_J (pl : Nat → Plan) : JOk Tryz.prog (RSm_E pl).T (RSm_E pl).J := fun _ _ h => by cases h
set_option maxRecDepth 200000 in
set_option maxHeartbeats 3200000 in
theorem sameS_ok : FnOk Tryz.prog tab 52 sameSC := by
  refine fn_ok (E := RSm_E pl52) tab_is RSm_ok (RSm_J _) Tryz.func52 rfl rfl (by kernel_rfl) ?_
  rintro args bs K ⟨rfl, s, t, rfl, hz, hy, hn⟩
  refine ⟨rfl, ?_⟩
  have hlp := hz.lp
  refine ⟨rfl, s.accs, t.accs, rfl, by have := hz.la; omega, fun ha => ?_, fun ha => ?_⟩
  · refine ⟨fun h => Bool.noConfusion (show false = true from h), fun _ => ?_⟩
    refine ⟨fun h => ?_, fun h => ?_⟩
    · have hend := hn fun e => by
        have h : ¬ (((s.pays.map payA).length : Nat) : Int) = (t.pays.map payA).length := by simpa using h
        rw [e.2.1] at h
        exact h rfl
      exact ⟨fun _ => hend, fun h => Bool.noConfusion (show true = false from h)⟩
    · have hlen : s.pays.length = t.pays.length := by
        have h : (((s.pays.map payA).length : Nat) : Int) = (t.pays.map payA).length := by simpa using h
        simp at h; omega
      refine ⟨fun h => ?_, fun h => ?_⟩
      · exact hn fun e => by
          have h : ¬ s.now = t.now := by simpa using h
          exact h e.2.2
      · have hnow : s.now = t.now := by simpa using h
        refine ⟨fun mm st => ∃ (i : Nat), (i ≤ s.pays.length ∧ ∀ (j : Nat) (a b : Pay), j < i → s.pays[j]? = some a → t.pays[j]? = some b → a = b) ∧ s.pays.length - i = mm ∧ st.t 2 = .ptr 2 0 ∧ st.t 3 = .ptr 3 0 ∧ st.t 30 = .int .i64 ((s.pays.map payA).length : Nat) ∧ st.t 31 = .int .i64 i ∧ st.h 2 = staB s ∧ st.h 3 = staB t,
          ⟨_, 0, ⟨Nat.zero_le _, fun j a b hj => absurd hj (Nat.not_lt_zero _)⟩, rfl, rfl, rfl, rfl, rfl, rfl, rfl⟩, ?_⟩
        rintro _ ⟨t1, h1⟩ ⟨i, ⟨hi, hX⟩, rfl, e2, e3, e30, e31, b2, b3⟩
        have e2 : t1 2 = .ptr 2 0 := e2
        have e3 : t1 3 = .ptr 3 0 := e3
        have e30 : t1 30 = .int .i64 ((s.pays.map payA).length : Nat) := e30
        have e31 : t1 31 = .int .i64 i := e31
        have b2 : h1 2 = staB s := b2
        have b3 : h1 3 = staB t := b3
        rw [← updL_has t1 [(2, .ptr 2 0), (3, .ptr 3 0), (30, .int .i64 ((s.pays.map payA).length : Nat)), (31, .int .i64 i)] ⟨e2, e3, e30, e31, trivial⟩, ← updL_has h1 [(2, staB s), (3, staB t)] ⟨b2, b3, trivial⟩]
        constructor
        · intro hb
          have hi' : i < s.pays.length := by
            have : (i : Int) < ((s.pays.map payA).length : Nat) := by simpa using hb
            simp at this; omega
          have w : IntKind.i64.wrap ((i : Int) + 1) = ((i + 1 : Nat) : Int) := by rw [wrap_of] <;> omega
          have hlt : s.pays.length - (i + 1) < s.pays.length - i := by omega
          obtain ⟨a, hx⟩ : ∃ x, s.pays[i]? = some x := ⟨_, List.getElem?_eq_getElem hi'⟩
          have hm := List.mem_of_getElem? hx
          have hdr := drop_at hx
          obtain ⟨b, hb2⟩ : ∃ b, t.pays[i]? = some b := ⟨_, List.getElem?_eq_getElem (by omega)⟩
          have fin : (a = b → ∀ (j : Nat) (x y : Pay), j < i + 1 → s.pays[j]? = some x → t.pays[j]? = some y → x = y) := fun hab j x y hj hxj hyj => by
            by_cases he : j = i
            · rw [he] at hxj hyj
              rw [hx] at hxj; rw [hb2] at hyj
              cases hxj; cases hyj; exact hab
            · exact hX j x y (by omega) hxj hyj
          repeat' first
            | (refine ⟨_, Int.natCast_nonneg i, map_of hx, ?_⟩)
            | (refine ⟨_, Int.natCast_nonneg i, map_of hb2, ?_⟩)
            | (refine ⟨fun h => hn fun e => list_ne_at hx hb2 (fun e2 => by subst e2; simp at h) e.2.1, fun h => ?_⟩)
            | (refine ⟨_, hlt, i + 1, ⟨hi', fin (by simp at h; exact pay_ext h)⟩, rfl, rfl, rfl, rfl, congrArg (AV.int .i64) w, rfl, rfl⟩)
            | (refine And.intro ?_ ?_)
            | fail
        · intro hb
          have hi' : i = s.pays.length := by
            have : ¬ (i : Int) < ((s.pays.map payA).length : Nat) := by simpa using hb
            simp at this; omega
          subst hi'
          exact hy ⟨ha, list_eq_of hlen fun j a b h1 h2 => hX j a b (List.getElem?_eq_some_iff.1 h1).1 h1 h2, hnow⟩
  · have hend := hn fun e => ha e.1
    refine ⟨fun _ => ?_, fun h => Bool.noConfusion (show true = false from h)⟩
    refine ⟨fun _ => ?_, fun h => Bool.noConfusion (show true = false from h)⟩
    exact ⟨fun _ => hend, fun h => Bool.noConfusion (show true = false from h)⟩
end Go.Proofs.YtjffmldlkofpaaaGreatDoor.A

/- law12.Paid.Payment, law07.Book.Accounts. -/
namespace Go.Proofs.YtjffmldlkofpaaaGreatDoor.A
open Go Q
def paidA (p : Paid) : AV := .agg [.int .u8 p.src, .int .u8 p.dst, .int .u8 p.auth, .int .u8 p.capt, .int .u8 p.refu, .int .u8 p.chrg, .int .u8 p.til, .bool p.closed]
def pdA (p : Paid) : Int := w64 (1 + w64 p.auth)
def pdC (p : Paid) : Int := (w64 p.capt).tmod (w64 (pdA p + 1))
def pdR (p : Paid) : Int := (w64 p.refu).tmod (w64 (pdC p + 1))
def pdH (p : Paid) : Int := (w64 p.chrg).tmod (w64 (w64 (pdC p - pdR p) + 1))
def paidP (p : Paid) : Pay := ⟨w64 (9 + w64 (p.src.tmod 6)), w64 (9 + w64 (p.dst.tmod 6)), pdA p, pdC p, pdR p, pdH p, w64 (p.til.tmod 20), if p.closed = true ∨ pdC p = pdA p then 1 else 0⟩
abbrev u8I (n : Int) : Prop := 0 ≤ n ∧ n ≤ 255
structure Paid.In (p : Paid) : Prop where
  i1 : u8I p.src
  i2 : u8I p.dst
  i3 : u8I p.auth
  i4 : u8I p.capt
  i5 : u8I p.refu
  i6 : u8I p.chrg
  i7 : u8I p.til
theorem w64_of {n : Int} (h0 : -9223372036854775808 ≤ n) (h1 : n < 9223372036854775808) : w64 n = n := wrap_of h0 h1
theorem tmod_in {a b : Int} (h0 : 0 ≤ a) (h1 : 0 < b) : 0 ≤ a.tmod b ∧ a.tmod b < b := by
  rw [Int.tmod_eq_emod_of_nonneg h0]
  exact ⟨Int.emod_nonneg _ (by omega), Int.emod_lt_of_pos _ h1⟩
theorem pdA_eq {p : Paid} (h : p.In) : pdA p = 1 + p.auth := by
  have := h.i3
  unfold pdA
  rw [w64_of (n := p.auth) (by omega) (by omega), w64_of (by omega) (by omega)]
theorem pdC_in {p : Paid} (h : p.In) : 0 ≤ pdC p ∧ pdC p ≤ pdA p := by
  have h3 := h.i3
  have h4 := h.i4
  have e := pdA_eq h
  unfold pdC
  rw [w64_of (n := p.capt) (by omega) (by omega), w64_of (n := pdA p + 1) (by omega) (by omega)]
  obtain ⟨a, b⟩ := tmod_in h4.1 (show 0 < pdA p + 1 by omega)
  omega
theorem pdR_in {p : Paid} (h : p.In) : 0 ≤ pdR p ∧ pdR p ≤ pdC p := by
  have h3 := h.i3
  have h5 := h.i5
  have e := pdA_eq h
  obtain ⟨c0, c1⟩ := pdC_in h
  unfold pdR
  rw [w64_of (n := p.refu) (by omega) (by omega), w64_of (n := pdC p + 1) (by omega) (by omega)]
  obtain ⟨a, b⟩ := tmod_in h5.1 (show 0 < pdC p + 1 by omega)
  omega
theorem pdH_in {p : Paid} (h : p.In) : 0 ≤ pdH p ∧ pdH p ≤ pdC p - pdR p := by
  have h3 := h.i3
  have h6 := h.i6
  have e := pdA_eq h
  obtain ⟨c0, c1⟩ := pdC_in h
  obtain ⟨r0, r1⟩ := pdR_in h
  unfold pdH
  rw [w64_of (n := p.chrg) (by omega) (by omega), w64_of (n := pdC p - pdR p) (by omega) (by omega), w64_of (n := pdC p - pdR p + 1) (by omega) (by omega)]
  obtain ⟨a, b⟩ := tmod_in h6.1 (show 0 < pdC p - pdR p + 1 by omega)
  omega
def paidC (args : List AV) (bs : List Box) (K : AV → List Box → Prop) : Prop := bs = [] ∧ ∃ p : Paid, args = [paidA p] ∧ p.In ∧ K (payA (paidP p)) []
set_option maxRecDepth 200000 in
set_option maxHeartbeats 6400000 in
theorem paid_ok : FnOk Tryz.prog tab 42 paidC := by
  refine fn_ok (E := R0_E pl42) tab_is R0_ok (R0_J _) Tryz.func42 rfl rfl (by kernel_rfl) ?_
  rintro args bs K ⟨rfl, p, rfl, hp, hK⟩
  refine ⟨rfl, ?_⟩
  have h3 := hp.i3
  have eA := pdA_eq hp
  obtain ⟨c0, c1⟩ := pdC_in hp
  obtain ⟨r0, r1⟩ := pdR_in hp
  have n1 : w64 (pdA p + 1) ≠ 0 := by rw [w64_of (by omega) (by omega)]; omega
  have n2 : w64 (pdC p + 1) ≠ 0 := by rw [w64_of (by omega) (by omega)]; omega
  have n3 : w64 (w64 (pdC p - pdR p) + 1) ≠ 0 := by rw [w64_of (n := pdC p - pdR p) (by omega) (by omega), w64_of (by omega) (by omega)]; omega
  unfold paidP at hK
  have close : (p.closed = true ∨ pdC p = pdA p) → K (payA ⟨w64 (9 + w64 (p.src.tmod 6)), w64 (9 + w64 (p.dst.tmod 6)), pdA p, pdC p, pdR p, pdH p, w64 (p.til.tmod 20), 1⟩) [] := fun h => by rw [if_pos h] at hK; exact hK
  have open' : ¬ (p.closed = true ∨ pdC p = pdA p) → K (payA ⟨w64 (9 + w64 (p.src.tmod 6)), w64 (9 + w64 (p.dst.tmod 6)), pdA p, pdC p, pdR p, pdH p, w64 (p.til.tmod 20), 0⟩) [] := fun h => by rw [if_neg h] at hK; exact hK
  clear hK
  refine ⟨(by decide : (6 : Int) ≠ 0), ?_⟩
  refine ⟨(by decide : (6 : Int) ≠ 0), ?_⟩
  refine ⟨(by decide : (20 : Int) ≠ 0), ?_⟩
  refine ⟨n1, ?_⟩
  refine ⟨n2, ?_⟩
  refine ⟨n3, ?_⟩
  cases hc : p.closed with
  | true =>
    have hend := close (.inl hc)
    refine ⟨fun _ => ?_, fun h => Bool.noConfusion (show true = false from h)⟩
    exact ⟨fun _ => hend, fun h => Bool.noConfusion (show true = false from h)⟩
  | false =>
    refine ⟨fun h => Bool.noConfusion (show false = true from h), fun _ => ?_⟩
    refine ⟨fun h => ?_, fun h => ?_⟩
    · exact close (.inr (by simpa using (show (pdC p == pdA p) = true from h)))
    · exact open' fun hh => hh.elim (fun e => by rw [hc] at e; cases e) (fun e => by
        have h : (pdC p == pdA p) = false := h
        simp [e] at h)
/-! ### Accounts -/
def base9 : List Acc := [⟨0, 0, 0⟩, ⟨0, 0, 0⟩, ⟨0, 0, 0⟩, ⟨1, 0, 0⟩, ⟨1, 0, 0⟩, ⟨1, 0, 0⟩, ⟨2, 0, 0⟩, ⟨2, 0, 0⟩, ⟨2, 0, 0⟩]
def balOf (has : List Int) (k : Nat) : Int := match has[k]? with
  | some h => w64 (h.tmod 100000)
  | none => 0
def curOf (c : Int) : Int := w64 (c.tmod 3)
def bookStep (has : List Int) (al : List Acc) (k : Nat) (c : Int) : List Acc := match al[(w64 (3 * curOf c)).toNat]? with
  | some a => al.set (w64 (3 * curOf c)).toNat ⟨a.cur, w64 (a.bal - balOf has k), a.held⟩ ++ [⟨curOf c, balOf has k, 0⟩]
  | none => al
def bookGo (has : List Int) : List Acc → Nat → List Int → List Acc
  | al, _, [] => al
  | al, k, c :: cs => bookGo has (bookStep has al k c) (k + 1) cs
/-- A book's accounts, nothing held. -/
def bookL (curs has : List Int) : List Acc := bookGo has base9 0 curs
theorem bookGo_cons (has : List Int) (al : List Acc) (k : Nat) (c : Int) (cs : List Int) : bookGo has al k (c :: cs) = bookGo has (bookStep has al k c) (k + 1) cs := rfl
theorem cur_in {c : Int} (h : u8I c) : 0 ≤ curOf c ∧ curOf c ≤ 2 ∧ w64 (3 * curOf c) = 3 * curOf c := by
  unfold curOf
  obtain ⟨a, b⟩ := tmod_in h.1 (show (0 : Int) < 3 by decide)
  rw [w64_of (n := c.tmod 3) (by omega) (by omega)]
  exact ⟨a, by omega, w64_of (by omega) (by omega)⟩
theorem bookStep_len {has : List Int} {al : List Acc} {k : Nat} {c : Int} (h : u8I c) (hl : 9 ≤ al.length) : (bookStep has al k c).length = al.length + 1 := by
  obtain ⟨h0, h1, h2⟩ := cur_in h
  unfold bookStep
  have : (w64 (3 * curOf c)).toNat < al.length := by rw [h2]; omega
  rw [List.getElem?_eq_getElem this]
  simp
abbrev u8S (l : List Int) : AV := .sl .fz 5 (l.map (AV.int .u8))
abbrev u32S (l : List Int) : AV := .sl .fz 93 (l.map (AV.int .u32))
def bookAV (curs has : List Int) : AV := .agg [u8S curs, u32S has, u8S []]
def bookC0 (args : List AV) (bs : List Box) (K : AV → List Box → Prop) : Prop := bs = [] ∧ ∃ curs has : List Int, args = [bookAV curs has] ∧ curs.length ≤ 8 ∧ (∀ c ∈ curs, u8I c) ∧ has.length ≤ 100000000000000 ∧ K (accsO 8000 (bookL curs has)) []
theorem acc_snoc (F : Nat) (l : List Acc) (x : Acc) : AV.sl (.own F) 65 (l.map accA ++ [accA x]) = accsO F (l ++ [x]) := by simp
set_option maxRecDepth 200000 in
set_option maxHeartbeats 6400000 in
theorem book_ok0 : FnOk Tryz.prog tab 41 bookC0 := by
  refine fn_ok (E := R0_E pl41) tab_is R0_ok (R0_J _) Tryz.func41 rfl rfl (by kernel_rfl) ?_
  rintro args bs K ⟨rfl, curs, has, rfl, hcl, hci, hhl, hK⟩
  refine ⟨rfl, ?_⟩
  refine ⟨by decide, by decide, by decide, by decide, ?_⟩
  refine ⟨fun mm st => ∃ (i : Nat), (i ≤ 9) ∧ 9 - i = mm ∧ st.t 3 = accsO 8000 (base9.take i ++ List.replicate (9 - i) ⟨0, 0, 0⟩) ∧ st.t 10 = .int .i64 9 ∧ st.t 11 = .int .i64 i ∧ st.t 1 = .ptr 1 0 ∧ st.h 1 = some (.cells 25 [u8S curs, u32S has, u8S []]),
    ⟨_, 0, Nat.zero_le _, rfl, rfl, rfl, rfl, rfl, rfl⟩, ?_⟩
  rintro _ ⟨t1, h1⟩ ⟨i, hi, rfl, e3, e10, e11, e1, b1⟩
  have e3 : t1 3 = accsO 8000 (base9.take i ++ List.replicate (9 - i) ⟨0, 0, 0⟩) := e3
  have e10 : t1 10 = .int .i64 9 := e10
  have e11 : t1 11 = .int .i64 i := e11
  have e1 : t1 1 = .ptr 1 0 := e1
  have b1 : h1 1 = some (.cells 25 [u8S curs, u32S has, u8S []]) := b1
  rw [← updL_has t1 [(3, accsO 8000 (base9.take i ++ List.replicate (9 - i) ⟨0, 0, 0⟩)), (10, .int .i64 9), (11, .int .i64 i), (1, .ptr 1 0)] ⟨e3, e10, e11, e1, trivial⟩, ← updL_has h1 [(1, some (.cells 25 [u8S curs, u32S has, u8S []]))] ⟨b1, trivial⟩]
  constructor
  · intro hb
    have hi' : i < 9 := by
      have : (i : Int) < 9 := by simpa using hb
      omega
    have hlt : 9 - (i + 1) < 9 - i := by omega
    have hcs : i = 0 ∨ i = 1 ∨ i = 2 ∨ i = 3 ∨ i = 4 ∨ i = 5 ∨ i = 6 ∨ i = 7 ∨ i = 8 := by omega
    rcases hcs with rfl | rfl | rfl | rfl | rfl | rfl | rfl | rfl | rfl
    all_goals
      refine ⟨(by decide : (3 : Int) ≠ 0), ?_⟩
      refine ⟨_, Int.natCast_nonneg _, rfl, ?_⟩
      exact ⟨_, hlt, _, hi', rfl, rfl, rfl, rfl, rfl, rfl⟩
  · intro hb
    have hi' : i = 9 := by
      have : ¬ (i : Int) < 9 := by simpa using hb
      omega
    subst hi'
    clear e3 e10 e11 e1 b1
    refine ⟨fun mm st => ∃ (i : Nat) (L : List Acc), (i ≤ curs.length ∧ 9 ≤ L.length ∧ L.length = 9 + i ∧ bookL curs has = bookGo has L i (curs.drop i)) ∧ curs.length - i = mm ∧ st.t 3 = accsO 8000 L ∧ st.t 22 = u8S curs ∧ st.t 23 = .int .i64 ((curs.map (AV.int .u8)).length : Nat) ∧ st.t 24 = .int .i64 i ∧ st.t 1 = .ptr 1 0 ∧ st.h 1 = some (.cells 25 [u8S curs, u32S has, u8S []]),
      ⟨_, 0, base9, ⟨Nat.zero_le _, by decide, rfl, rfl⟩, rfl, rfl, rfl, rfl, rfl, rfl, rfl⟩, ?_⟩
    rintro _ ⟨t1, h1⟩ ⟨i, L, ⟨hi, hL9, hLn, hT⟩, rfl, e3, e22, e23, e24, e1, b1⟩
    have e3 : t1 3 = accsO 8000 L := e3
    have e22 : t1 22 = u8S curs := e22
    have e23 : t1 23 = .int .i64 ((curs.map (AV.int .u8)).length : Nat) := e23
    have e24 : t1 24 = .int .i64 i := e24
    have e1 : t1 1 = .ptr 1 0 := e1
    have b1 : h1 1 = some (.cells 25 [u8S curs, u32S has, u8S []]) := b1
    rw [← updL_has t1 [(3, accsO 8000 L), (22, u8S curs), (23, .int .i64 ((curs.map (AV.int .u8)).length : Nat)), (24, .int .i64 i), (1, .ptr 1 0)] ⟨e3, e22, e23, e24, e1, trivial⟩, ← updL_has h1 [(1, some (.cells 25 [u8S curs, u32S has, u8S []]))] ⟨b1, trivial⟩]
    constructor
    · intro hb
      have hi' : i < curs.length := by
        have : (i : Int) < ((curs.map (AV.int .u8)).length : Nat) := by simpa using hb
        simp at this; omega
      have w : IntKind.i64.wrap ((i : Int) + 1) = ((i + 1 : Nat) : Int) := by rw [wrap_of] <;> omega
      have hlt : curs.length - (i + 1) < curs.length - i := by omega
      obtain ⟨c, hx⟩ : ∃ x, curs[i]? = some x := ⟨_, List.getElem?_eq_getElem hi'⟩
      have hm := List.mem_of_getElem? hx
      have hdr := drop_at hx
      rw [hdr, bookGo_cons] at hT
      have hcu := hci c hm
      obtain ⟨q0, q1, q2⟩ := cur_in hcu
      have hj0 : 0 ≤ w64 (3 * curOf c) := by omega
      obtain ⟨a, ha⟩ : ∃ a, L[(w64 (3 * curOf c)).toNat]? = some a := ⟨_, List.getElem?_eq_getElem (by omega)⟩
      have hst : bookStep has L i c = L.set (w64 (3 * curOf c)).toNat ⟨a.cur, w64 (a.bal - balOf has i), a.held⟩ ++ [⟨curOf c, balOf has i, 0⟩] := by unfold bookStep; rw [ha]
      have hlen := bookStep_len (has := has) (k := i) hcu hL9
      have bd : (((L.map accA).modify (w64 (3 * curOf c)).toNat fun x => x.ofCells (putCells x.cells 1 [.int .i64 (w64 (a.bal - balOf has i))])).length + 1) * 24 ≤ 140737488355328 := by
        rw [List.length_modify, List.length_map]; omega
      have emod := modify_map ha (fun x => x.ofCells (putCells x.cells 1 [.int .i64 (w64 (a.bal - balOf has i))])) ⟨a.cur, w64 (a.bal - balOf has i), a.held⟩ rfl
      have efin : AV.sl (.own 8000) 65 (((L.map accA).modify (w64 (3 * curOf c)).toNat fun x => x.ofCells (putCells x.cells 1 [.int .i64 (w64 (a.bal - balOf has i))])) ++ [accA ⟨curOf c, balOf has i, 0⟩]) = accsO 8000 (bookStep has L i c) := by
        rw [emod, acc_snoc, hst]
      refine ⟨_, Int.natCast_nonneg i, map_of hx, ?_⟩
      refine ⟨fun h => ?_, fun _ => ?_⟩
      · exfalso
        have h : (i : Int) = 8 := by simpa using h
        omega
      · refine ⟨(by decide : (3 : Int) ≠ 0), ?_⟩
        cases hh : has[i]? with
        | some v =>
          have hil := (List.getElem?_eq_some_iff.1 hh).1
          have hbo : balOf has i = w64 (v.tmod 100000) := by unfold balOf; rw [hh]
          rw [hbo] at bd efin
          refine ⟨fun _ => ?_, fun h => ?_⟩
          · refine ⟨_, Int.natCast_nonneg i, map_of hh, ?_⟩
            refine ⟨(by decide : (100000 : Int) ≠ 0), ?_⟩
            refine ⟨fun h => ?_, fun _ => ?_⟩
            · exfalso
              have h : (i : Int) < 0 := by simpa using h
              omega
            · refine ⟨_, hj0, map_of ha, ?_⟩
              refine ⟨_, hj0, map_of ha, ?_⟩
              refine ⟨bd, ?_⟩
              exact ⟨_, hlt, i + 1, _, ⟨hi', by omega, by omega, hT⟩, rfl, efin, rfl, rfl, congrArg (AV.int .i64) w, rfl, rfl⟩
          · exfalso
            have h : ¬ (i : Int) < ((has.map (AV.int .u32)).length : Nat) := by simpa using h
            simp at h; omega
        | none =>
          have hil := List.getElem?_eq_none_iff.1 hh
          have hbo : balOf has i = 0 := by unfold balOf; rw [hh]
          rw [hbo] at bd efin
          refine ⟨fun h => ?_, fun _ => ?_⟩
          · exfalso
            have h : (i : Int) < ((has.map (AV.int .u32)).length : Nat) := by simpa using h
            simp at h; omega
          · refine ⟨fun h => ?_, fun _ => ?_⟩
            · exfalso
              have h : (i : Int) < 0 := by simpa using h
              omega
            · refine ⟨_, hj0, map_of ha, ?_⟩
              refine ⟨_, hj0, map_of ha, ?_⟩
              refine ⟨bd, ?_⟩
              exact ⟨_, hlt, i + 1, _, ⟨hi', by omega, by omega, hT⟩, rfl, efin, rfl, rfl, congrArg (AV.int .i64) w, rfl, rfl⟩
    · intro hb
      have hi' : i = curs.length := by
        have : ¬ (i : Int) < ((curs.map (AV.int .u8)).length : Nat) := by simpa using hb
        simp at this; omega
      subst hi'
      rw [List.drop_length] at hT
      have hT : bookL curs has = L := hT
      rw [hT] at hK
      exact hK
end Go.Proofs.YtjffmldlkofpaaaGreatDoor.A

/- law15.State. -/
namespace Go.Proofs.YtjffmldlkofpaaaGreatDoor.A
open Go Q
/-! ### Accounts, for a book whose holds are none -/
def bookC (args : List AV) (bs : List Box) (K : AV → List Box → Prop) : Prop := bs = [] ∧ ∃ curs has : List Int, args = [bookAV curs has] ∧ curs.length ≤ 8 ∧ (∀ c ∈ curs, u8I c) ∧ has.length ≤ 100000000000000 ∧ K (accsA (bookL curs has)) []
theorem book_ok : FnOk Tryz.prog tab 41 bookC := book_ok0.frz.mono (by
  rintro args bs K ⟨rfl, curs, has, rfl, h1, h2, h3, hK⟩
  exact ⟨rfl, rfl, curs, has, rfl, h1, h2, h3, _, rfl, hK⟩)
structure Book where
  (curs has helds : List Int)
structure Book.In (b : Book) : Prop where
  c : ∀ n ∈ b.curs, u8I n
  lc : b.curs.length ≤ 140737488355328
  lh : b.has.length ≤ 100000000000000
def bkA (b : Book) : AV := .agg [u8S b.curs, u32S b.has, u8S b.helds]
def curs6 (b : Book) : List Int := (b.curs.take 6 ++ [0, 1, 2, 0, 1, 0]).take 6
theorem curs6_len (b : Book) : (curs6 b).length = 6 := by
  unfold curs6
  rw [List.length_take, List.length_append, List.length_take]
  have : [0, 1, 2, 0, 1, (0 : Int)].length = 6 := rfl
  omega
theorem curs6_in {b : Book} (h : b.In) : ∀ c ∈ curs6 b, u8I c := fun c hc => by
  unfold curs6 at hc
  have hc := List.mem_of_mem_take hc
  rcases List.mem_append.1 hc with hc | hc
  · exact h.c c (List.mem_of_mem_take hc)
  · simp at hc
    exact ⟨by omega, by omega⟩
theorem bookGo_len {has : List Int} : ∀ {cs : List Int} {al : List Acc} {k : Nat}, (∀ c ∈ cs, u8I c) → 9 ≤ al.length → (bookGo has al k cs).length = al.length + cs.length
  | [], _, _, _, _ => rfl
  | c :: cs, al, k, h, hl => by
    have h1 := bookStep_len (has := has) (k := k) (h c (List.mem_cons_self ..)) hl
    rw [bookGo_cons, bookGo_len (fun x hx => h x (List.mem_cons_of_mem _ hx)) (by omega), h1, List.length_cons]
    omega
theorem book15 {b : Book} (h : b.In) : (bookL (curs6 b) b.has).length = 15 := by
  unfold bookL
  rw [bookGo_len (curs6_in h) (by decide), curs6_len]
  rfl
/-- A payment more. -/
def putP (t : List Acc × List Pay) (k : Nat) (p : Paid) : List Acc × List Pay :=
  if k = 6 ∨ (paidP p).src = (paidP p).dst then t
  else if left (paidP p) > 0 then (match holdM t.1 (paidP p).src (left (paidP p)) with
    | .ok l => (l, t.2 ++ [paidP p])
    | .error _ => t)
  else (t.1, t.2 ++ [paidP p])
def putGo : List Acc × List Pay → Nat → List Paid → List Acc × List Pay
  | t, _, [] => t
  | t, k, p :: ps => putGo (putP t k p) (k + 1) ps
def stateM (b : Book) (ps : List Paid) (now : Int) : Sta := ⟨(putGo (bookL (curs6 b) b.has, []) 0 ps).1, (putGo (bookL (curs6 b) b.has, []) 0 ps).2, [], [], w64 (now.tmod 12)⟩
theorem putGo_cons (t : List Acc × List Pay) (k : Nat) (p : Paid) (ps : List Paid) : putGo t k (p :: ps) = putGo (putP t k p) (k + 1) ps := rfl
theorem hold_len {al l : List Acc} {k n : Int} (h : holdM al k n = .ok l) : l.length = al.length := by
  unfold holdM at h
  repeat' split at h
  all_goals first | (cases h; done) | (cases h; simp)
abbrev padS (l : List Paid) : AV := .sl .fz 107 (l.map paidA)
def paysN (F : Nat) : List Pay → AV
  | [] => .sl .nl 0 []
  | l => .sl (.own F) 90 (l.map payA)
theorem pays_snoc (F : Nat) (l : List Pay) (x : Pay) : AV.sl (.own F) 90 (l.map payA ++ [payA x]) = paysN F (l ++ [x]) := by
  cases l <;> simp [paysN]
def stN (t : List Acc × List Pay) (now : Int) : AV := .agg [accsA t.1, paysN 72000 t.2, .sl .nl 0 [], .sl .nl 0 [], .int .i64 now]
def stateC0 (args : List AV) (bs : List Box) (K : AV → List Box → Prop) : Prop := bs = [] ∧ ∃ (b : Book) (ps : List Paid) (now : Int), args = [bkA b, padS ps, .int .u8 now] ∧ b.In ∧ (∀ p ∈ ps, p.In) ∧ ps.length ≤ 1999900 ∧ K (stN (putGo (bookL (curs6 b) b.has, []) 0 ps) (w64 (now.tmod 12))) []
def RSt : Contract
  | 41 => nil2C bookC
  | 42 => paidC
  | 35 => leftC
  | 43 => (accsRz holdM)
  | _ => fun _ _ _ => False
theorem RSt_ok : CallOk Tryz.prog tab RSt := by
  intro f args bs K h
  unfold RSt at h
  split at h
  · exact ⟨_, h, book_ok.nil2⟩
  · exact ⟨_, h, paid_ok⟩
  · exact ⟨_, h, left_ok⟩
  · exact ⟨_, h, hold_ok⟩
  · exact h.elim
def RSt_E (pl : Nat → Plan) : En := ⟨tab, RSt, fun _ => none, 0, pl⟩
theorem RSt_J (pl : Nat → Plan) : JOk Tryz.prog (RSt_E pl).T (RSt_E pl).J := fun _ _ h => by cases h
set_option maxRecDepth 200000 in
set_option maxHeartbeats 6400000 in
theorem state_ok0 : FnOk Tryz.prog tab 23 stateC0 := by
  refine fn_ok (E := RSt_E pl23) tab_is RSt_ok (RSt_J _) Tryz.func23 rfl rfl (by kernel_rfl) ?_
  rintro args bs K ⟨rfl, b, ps, now, rfl, hb, hps, hpl, hK⟩
  refine ⟨rfl, ?_⟩
  have hlc := hb.lc
  have hmin : (if (6 : Int) < ((b.curs.map (AV.int .u8)).length : Nat) then (6 : Int) else ((b.curs.map (AV.int .u8)).length : Nat)).toNat = min 6 b.curs.length := by
    rw [List.length_map]; split <;> omega
  have hmin0 : 0 ≤ (if (6 : Int) < ((b.curs.map (AV.int .u8)).length : Nat) then (6 : Int) else ((b.curs.map (AV.int .u8)).length : Nat)) := by split <;> omega
  refine ⟨hmin0, Nat.zero_le _, by rw [hmin, List.length_map]; omega, ?_⟩
  have e6 : ((((b.curs.map (AV.int .u8)).take (if (6 : Int) < ((b.curs.map (AV.int .u8)).length : Nat) then (6 : Int) else ((b.curs.map (AV.int .u8)).length : Nat)).toNat).drop 0 ++ [AV.int .u8 0, .int .u8 1, .int .u8 2, .int .u8 0, .int .u8 1, .int .u8 0]).take 6) = (curs6 b).map (AV.int .u8) := by
    rw [hmin, List.drop_zero]
    unfold curs6
    rw [List.map_take, List.map_append, List.map_take]
    have : (b.curs.map (AV.int .u8)).take (min 6 b.curs.length) = (b.curs.map (AV.int .u8)).take 6 := by
      rw [List.take_eq_take_iff, List.length_map]; omega
    rw [this]
    rfl
  have len1 : (((b.curs.map (AV.int .u8)).take (if (6 : Int) < ((b.curs.map (AV.int .u8)).length : Nat) then (6 : Int) else ((b.curs.map (AV.int .u8)).length : Nat)).toNat).drop 0).length ≤ 6 := by
    rw [hmin, List.drop_zero, List.length_take]; omega
  have bd1 : (((b.curs.map (AV.int .u8)).take (if (6 : Int) < ((b.curs.map (AV.int .u8)).length : Nat) then (6 : Int) else ((b.curs.map (AV.int .u8)).length : Nat)).toNat).drop 0).length * 1 ≤ 140737488355328 := by omega
  have bd2 : ((((b.curs.map (AV.int .u8)).take (if (6 : Int) < ((b.curs.map (AV.int .u8)).length : Nat) then (6 : Int) else ((b.curs.map (AV.int .u8)).length : Nat)).toNat).drop 0).length + 6) * 1 ≤ 140737488355328 := by omega
  have bd3 : 6 ≤ (((b.curs.map (AV.int .u8)).take (if (6 : Int) < ((b.curs.map (AV.int .u8)).length : Nat) then (6 : Int) else ((b.curs.map (AV.int .u8)).length : Nat)).toNat).drop 0 ++ [AV.int .u8 0, .int .u8 1, .int .u8 2, .int .u8 0, .int .u8 1, .int .u8 0]).length := by
    rw [List.length_append]
    have : [AV.int .u8 0, .int .u8 1, .int .u8 2, .int .u8 0, .int .u8 1, .int .u8 0].length = 6 := rfl
    omega
  refine ⟨bd1, ?_⟩
  refine ⟨bd2, ?_⟩
  refine ⟨by decide, Nat.zero_le _, bd3, ?_⟩
  refine ⟨[bookAV (curs6 b) b.has], ⟨.inr ⟨_, _, rfl, rfl, .inl (congrArg (AV.sl .fz 5) e6.symm), .inl rfl, .inr ⟨_, _, rfl, rfl⟩, trivial⟩, trivial⟩, rfl, curs6 b, b.has, rfl, by rw [curs6_len]; decide, curs6_in hb, hb.lh, ?_⟩
  refine ⟨(by decide : (12 : Int) ≠ 0), ?_⟩
  have h15 := book15 hb
  clear bd1 bd2 bd3 len1 e6
  refine ⟨fun mm st => ∃ (i : Nat) (l : List Acc) (P : List Pay), (i ≤ ps.length ∧ l.length = 15 ∧ P.length ≤ i ∧ putGo (bookL (curs6 b) b.has, []) 0 ps = putGo (l, P) i (ps.drop i)) ∧ ps.length - i = mm ∧ st.t 33 = padS ps ∧ st.t 34 = .int .i64 ((ps.map paidA).length : Nat) ∧ st.t 35 = .int .i64 i ∧ st.t 7 = .ptr 7 0 ∧ st.t 6 = .ptr 6 0 ∧ st.h 7 = some (.cells 36 [accsA l, paysN 72000 P, .sl .nl 0 [], .sl .nl 0 [], .int .i64 (w64 (now.tmod 12))]) ∧ st.h 6 = some (.cells 36 [.sl .nl 0 [], .sl .nl 0 [], .sl .nl 0 [], .sl .nl 0 [], .int .i64 0]),
    ⟨_, 0, bookL (curs6 b) b.has, [], ⟨Nat.zero_le _, h15, Nat.le_refl _, rfl⟩, rfl, rfl, rfl, rfl, rfl, rfl, rfl, rfl⟩, ?_⟩
  rintro _ ⟨t1, h1⟩ ⟨i, l, P, ⟨hi, hll, hPl, hT⟩, rfl, e33, e34, e35, e7, e6, b7, b6⟩
  have e33 : t1 33 = padS ps := e33
  have e34 : t1 34 = .int .i64 ((ps.map paidA).length : Nat) := e34
  have e35 : t1 35 = .int .i64 i := e35
  have e7 : t1 7 = .ptr 7 0 := e7
  have e6 : t1 6 = .ptr 6 0 := e6
  have b7 : h1 7 = some (.cells 36 [accsA l, paysN 72000 P, .sl .nl 0 [], .sl .nl 0 [], .int .i64 (w64 (now.tmod 12))]) := b7
  have b6 : h1 6 = some (.cells 36 [.sl .nl 0 [], .sl .nl 0 [], .sl .nl 0 [], .sl .nl 0 [], .int .i64 0]) := b6
  rw [← updL_has t1 [(33, padS ps), (34, .int .i64 ((ps.map paidA).length : Nat)), (35, .int .i64 i), (7, .ptr 7 0), (6, .ptr 6 0)] ⟨e33, e34, e35, e7, e6, trivial⟩, ← updL_has h1 [(7, some (.cells 36 [accsA l, paysN 72000 P, .sl .nl 0 [], .sl .nl 0 [], .int .i64 (w64 (now.tmod 12))])), (6, some (.cells 36 [.sl .nl 0 [], .sl .nl 0 [], .sl .nl 0 [], .sl .nl 0 [], .int .i64 0]))] ⟨b7, b6, trivial⟩]
  cases P with
  | nil =>
    have bd : 1 * 64 ≤ 140737488355328 := by decide
    constructor
    · intro hb
      have hi' : i < ps.length := by
        have : (i : Int) < ((ps.map paidA).length : Nat) := by simpa using hb
        simp at this; omega
      have w : IntKind.i64.wrap ((i : Int) + 1) = ((i + 1 : Nat) : Int) := by rw [wrap_of] <;> omega
      have hlt : ps.length - (i + 1) < ps.length - i := by omega
      obtain ⟨p, hx⟩ : ∃ x, ps[i]? = some x := ⟨_, List.getElem?_eq_getElem hi'⟩
      have hm := List.mem_of_getElem? hx
      have hdr := drop_at hx
      rw [hdr, putGo_cons] at hT
      have hpi := hps p hm
      refine ⟨_, Int.natCast_nonneg i, map_of hx, ?_⟩
      refine ⟨rfl, p, rfl, hpi, ?_⟩
      have skip : (i = 6 ∨ (paidP p).src = (paidP p).dst) → putGo (bookL (curs6 b) b.has, []) 0 ps = putGo (l, ([]:List Pay)) (i + 1) (ps.drop (i + 1)) := fun h => by
        have hput : putP (l, ([]:List Pay)) i p = (l, ([]:List Pay)) := by unfold putP; rw [if_pos h]
        rw [hput] at hT; exact hT
      refine ⟨fun h => ?_, fun h => ?_⟩
      · have h : i = 6 := by
          have h : (i : Int) = 6 := by simpa using h
          omega
        refine ⟨fun _ => ?_, fun h => Bool.noConfusion (show true = false from h)⟩
        exact ⟨_, hlt, i + 1, l, ([]:List Pay), ⟨hi', hll, by omega, skip (.inl h)⟩, rfl, rfl, rfl, congrArg (AV.int .i64) w, rfl, rfl, rfl, rfl⟩
      · have h6 : ¬ i = 6 := by
          have h : ¬ (i : Int) = 6 := by simpa using h
          omega
        refine ⟨fun h => ?_, fun h => ?_⟩
        · exact ⟨_, hlt, i + 1, l, ([]:List Pay), ⟨hi', hll, by omega, skip (.inr (by simpa using h))⟩, rfl, rfl, rfl, congrArg (AV.int .i64) w, rfl, rfl, rfl, rfl⟩
        · have hsd : ¬ (paidP p).src = (paidP p).dst := by simpa using h
          clear skip
          refine ⟨rfl, paidP p, rfl, ?_⟩
          refine ⟨fun h => ?_, fun h => ?_⟩
          · have hn : left (paidP p) > 0 := of_decide_eq_true h
            refine ⟨rfl, l, (paidP p).src, left (paidP p), rfl, by omega, fun l2 hh => ?_, fun e hh => ?_⟩
            · have hput : putP (l, ([]:List Pay)) i p = (l2, ([]:List Pay) ++ [paidP p]) := by unfold putP; rw [if_neg (by simp [h6, hsd]), if_pos hn]; simp only [hh]
              have hl2 := hold_len hh
              refine ⟨fun h => Bool.noConfusion (show false = true from h), fun _ => ?_⟩
              refine ⟨bd, ?_⟩
              rw [hput] at hT
              exact ⟨_, hlt, i + 1, l2, ([]:List Pay) ++ [paidP p], ⟨hi', by omega, by simp only [List.length_append, List.length_cons, List.length_nil] at hPl ⊢; omega, hT⟩, rfl, rfl, rfl, congrArg (AV.int .i64) w, rfl, rfl, by rw [← pays_snoc] <;> rfl, rfl⟩
            · have hput : putP (l, ([]:List Pay)) i p = (l, ([]:List Pay)) := by unfold putP; rw [if_neg (by simp [h6, hsd]), if_pos hn]; simp only [hh]
              refine ⟨fun _ => ?_, fun h => Bool.noConfusion (show true = false from h)⟩
              rw [hput] at hT
              exact ⟨_, hlt, i + 1, l, ([]:List Pay), ⟨hi', hll, by omega, hT⟩, rfl, rfl, rfl, congrArg (AV.int .i64) w, rfl, rfl, rfl, rfl⟩
          · have hn : ¬ left (paidP p) > 0 := of_decide_eq_false h
            have hput : putP (l, ([]:List Pay)) i p = (l, ([]:List Pay) ++ [paidP p]) := by unfold putP; rw [if_neg (by simp [h6, hsd]), if_neg hn]
            refine ⟨bd, ?_⟩
            rw [hput] at hT
            exact ⟨_, hlt, i + 1, l, ([]:List Pay) ++ [paidP p], ⟨hi', hll, by simp only [List.length_append, List.length_cons, List.length_nil] at hPl ⊢; omega, hT⟩, rfl, rfl, rfl, congrArg (AV.int .i64) w, rfl, rfl, by rw [← pays_snoc] <;> rfl, rfl⟩
    · intro hb
      have hi' : i = ps.length := by
        have : ¬ (i : Int) < ((ps.map paidA).length : Nat) := by simpa using hb
        simp at this; omega
      subst hi'
      rw [List.drop_length] at hT
      have hT : putGo (bookL (curs6 b) b.has, []) 0 ps = (l, ([]:List Pay)) := hT
      rw [hT] at hK
      exact hK
  | cons q P =>
    have bd : (((q :: P).map payA).length + 1) * 64 ≤ 140737488355328 := by rw [List.length_map]; omega
    constructor
    · intro hb
      have hi' : i < ps.length := by
        have : (i : Int) < ((ps.map paidA).length : Nat) := by simpa using hb
        simp at this; omega
      have w : IntKind.i64.wrap ((i : Int) + 1) = ((i + 1 : Nat) : Int) := by rw [wrap_of] <;> omega
      have hlt : ps.length - (i + 1) < ps.length - i := by omega
      obtain ⟨p, hx⟩ : ∃ x, ps[i]? = some x := ⟨_, List.getElem?_eq_getElem hi'⟩
      have hm := List.mem_of_getElem? hx
      have hdr := drop_at hx
      rw [hdr, putGo_cons] at hT
      have hpi := hps p hm
      refine ⟨_, Int.natCast_nonneg i, map_of hx, ?_⟩
      refine ⟨rfl, p, rfl, hpi, ?_⟩
      have skip : (i = 6 ∨ (paidP p).src = (paidP p).dst) → putGo (bookL (curs6 b) b.has, []) 0 ps = putGo (l, (q::P)) (i + 1) (ps.drop (i + 1)) := fun h => by
        have hput : putP (l, (q::P)) i p = (l, (q::P)) := by unfold putP; rw [if_pos h]
        rw [hput] at hT; exact hT
      refine ⟨fun h => ?_, fun h => ?_⟩
      · have h : i = 6 := by
          have h : (i : Int) = 6 := by simpa using h
          omega
        refine ⟨fun _ => ?_, fun h => Bool.noConfusion (show true = false from h)⟩
        exact ⟨_, hlt, i + 1, l, (q::P), ⟨hi', hll, by omega, skip (.inl h)⟩, rfl, rfl, rfl, congrArg (AV.int .i64) w, rfl, rfl, rfl, rfl⟩
      · have h6 : ¬ i = 6 := by
          have h : ¬ (i : Int) = 6 := by simpa using h
          omega
        refine ⟨fun h => ?_, fun h => ?_⟩
        · exact ⟨_, hlt, i + 1, l, (q::P), ⟨hi', hll, by omega, skip (.inr (by simpa using h))⟩, rfl, rfl, rfl, congrArg (AV.int .i64) w, rfl, rfl, rfl, rfl⟩
        · have hsd : ¬ (paidP p).src = (paidP p).dst := by simpa using h
          clear skip
          refine ⟨rfl, paidP p, rfl, ?_⟩
          refine ⟨fun h => ?_, fun h => ?_⟩
          · have hn : left (paidP p) > 0 := of_decide_eq_true h
            refine ⟨rfl, l, (paidP p).src, left (paidP p), rfl, by omega, fun l2 hh => ?_, fun e hh => ?_⟩
            · have hput : putP (l, (q::P)) i p = (l2, (q::P) ++ [paidP p]) := by unfold putP; rw [if_neg (by simp [h6, hsd]), if_pos hn]; simp only [hh]
              have hl2 := hold_len hh
              refine ⟨fun h => Bool.noConfusion (show false = true from h), fun _ => ?_⟩
              refine ⟨bd, ?_⟩
              rw [hput] at hT
              exact ⟨_, hlt, i + 1, l2, (q::P) ++ [paidP p], ⟨hi', by omega, by simp only [List.length_append, List.length_cons, List.length_nil] at hPl ⊢; omega, hT⟩, rfl, rfl, rfl, congrArg (AV.int .i64) w, rfl, rfl, by rw [← pays_snoc] <;> rfl, rfl⟩
            · have hput : putP (l, (q::P)) i p = (l, (q::P)) := by unfold putP; rw [if_neg (by simp [h6, hsd]), if_pos hn]; simp only [hh]
              refine ⟨fun _ => ?_, fun h => Bool.noConfusion (show true = false from h)⟩
              rw [hput] at hT
              exact ⟨_, hlt, i + 1, l, (q::P), ⟨hi', hll, by omega, hT⟩, rfl, rfl, rfl, congrArg (AV.int .i64) w, rfl, rfl, rfl, rfl⟩
          · have hn : ¬ left (paidP p) > 0 := of_decide_eq_false h
            have hput : putP (l, (q::P)) i p = (l, (q::P) ++ [paidP p]) := by unfold putP; rw [if_neg (by simp [h6, hsd]), if_neg hn]
            refine ⟨bd, ?_⟩
            rw [hput] at hT
            exact ⟨_, hlt, i + 1, l, (q::P) ++ [paidP p], ⟨hi', hll, by simp only [List.length_append, List.length_cons, List.length_nil] at hPl ⊢; omega, hT⟩, rfl, rfl, rfl, congrArg (AV.int .i64) w, rfl, rfl, by rw [← pays_snoc] <;> rfl, rfl⟩
    · intro hb
      have hi' : i = ps.length := by
        have : ¬ (i : Int) < ((ps.map paidA).length : Nat) := by simpa using hb
        simp at this; omega
      subst hi'
      rw [List.drop_length] at hT
      have hT : putGo (bookL (curs6 b) b.has, []) 0 ps = (l, (q::P)) := hT
      rw [hT] at hK
      exact hK
def stateC (args : List AV) (bs : List Box) (K : AV → List Box → Prop) : Prop := bs = [] ∧ ∃ (b : Book) (ps : List Paid) (now : Int), args = [bkA b, padS ps, .int .u8 now] ∧ b.In ∧ (∀ p ∈ ps, p.In) ∧ ps.length ≤ 1999900 ∧ K (staA (stateM b ps now)) []
theorem state_ok : FnOk Tryz.prog tab 23 stateC := state_ok0.frz.nilR.mono (by
  rintro args bs K ⟨rfl, b, ps, now, rfl, hb, hps, hpl, hK⟩
  refine ⟨rfl, rfl, b, ps, now, rfl, hb, hps, hpl, ?_⟩
  have e1 : stateM b ps now = ⟨(putGo (bookL (curs6 b) b.has, []) 0 ps).1, (putGo (bookL (curs6 b) b.has, []) 0 ps).2, [], [], w64 (now.tmod 12)⟩ := rfl
  rw [e1] at hK
  generalize putGo (bookL (curs6 b) b.has, []) 0 ps = t at hK
  obtain ⟨l, P⟩ := t
  cases P with
  | nil => exact ⟨_, rfl, staA ⟨l, [], [], [], w64 (now.tmod 12)⟩, .inr ⟨_, [accsA l, paysA [], sagsA [], knsA [], .int .i64 (w64 (now.tmod 12))], rfl, rfl, .inl rfl, .inr ⟨_, _, rfl, rfl⟩, .inr ⟨_, _, rfl, rfl⟩, .inr ⟨_, _, rfl, rfl⟩, .inl rfl, trivial⟩, hK⟩
  | cons q P => exact ⟨_, rfl, staA ⟨l, q :: P, [], [], w64 (now.tmod 12)⟩, .inr ⟨_, [accsA l, paysA (q :: P), sagsA [], knsA [], .int .i64 (w64 (now.tmod 12))], rfl, rfl, .inl rfl, .inl rfl, .inr ⟨_, _, rfl, rfl⟩, .inr ⟨_, _, rfl, rfl⟩, .inl rfl, trivial⟩, hK⟩)
end Go.Proofs.YtjffmldlkofpaaaGreatDoor.A

/- ops.New; law15.awake. -/
namespace Go.Proofs.YtjffmldlkofpaaaGreatDoor.A
open Go Q
def sta0 : Sta := ⟨newL, [], [], [], 0⟩
def newSC (args : List AV) (bs : List Box) (K : AV → List Box → Prop) : Prop := bs = [] ∧ args = [] ∧ K (staA sta0) []
theorem szA_of {s : Sta} (h : s.accs.length ≤ 100) (h2 : s.pays.length ≤ 100) : SzA s := ⟨by omega, by omega⟩
end Go.Proofs.YtjffmldlkofpaaaGreatDoor.A
