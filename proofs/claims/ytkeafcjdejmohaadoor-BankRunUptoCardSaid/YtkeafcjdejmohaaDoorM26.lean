/- bank.Run; hawalalaw16: awake. -/
import Derived.Test.YtkeafcjdejmohaaDoorM25
import Derived.Test.YtkeafcjdejmohaaDoorGE
import Derived.Test.YtkeafcjdejmohaaDoorGS
namespace Go.Proofs.YtkeafcjdejmohaaDoor.A
open Go Q
/-! ### one behind the other -/
def brunM : Sta → List Req → List Bool → Sta × List Rep
  | s, [], _ => (s, [])
  | s, r :: rs, legs => ((brunM (bankM s r legs).1 rs (legs.drop (bankM s r legs).2.2)).1, (bankM s r legs).2.1 :: (brunM (bankM s r legs).1 rs (legs.drop (bankM s r legs).2.2)).2)
abbrev reqsS (l : List Req) : AV := .sl .fz 29 (l.map reqA)
def brunC0 (args : List AV) (bs : List Box) (K : AV → List Box → Prop) : Prop := bs = [] ∧ ∃ (s : Sta) (rs : List Req) (legs : List Bool), args = [staA s, reqsS rs, legsA legs] ∧ SzK s ∧ rs.length ≤ 1000000000000 ∧ legs.length ≤ 4611686018427387904 ∧
  K (.tup [staA (brunM s rs legs).1, repsO 35000 (brunM s rs legs).2]) []
def RBr : Contract
  | 24 => bankC
  | _ => fun _ _ _ => False
theorem RBr_ok : CallOk Tryd.prog tab RBr := by
  intro f args bs K h
  unfold RBr at h
  split at h
  · exact ⟨_, h, bank_ok⟩
  · exact h.elim
def RBr_E (pl : Nat → Plan) : En := ⟨tab, RBr, fun _ => none, 0, pl⟩
theorem RBr_J (pl : Nat → Plan) : JOk Tryd.prog (RBr_E pl).T (RBr_E pl).J := fun _ _ h => by cases h
set_option maxRecDepth 200000 in
set_option maxHeartbeats 12800000 in
theorem brun_ok0 : FnOk Tryd.prog tab 28 brunC0 := by
  refine fn_ok (E := RBr_E pl28) tab_is RBr_ok (RBr_J _) Tryd.func28 rfl rfl (by kernel_rfl) ?_
  rintro args bs K ⟨rfl, s0, rs, legs, rfl, hz, hrl, hll, hK⟩
  refine ⟨rfl, ?_⟩
  refine ⟨fun mm st => ∃ (i : Nat) (s : Sta) (ls : List Bool) (P : List Rep), (i ≤ rs.length ∧ SzK s ∧ ls.length ≤ 4611686018427387904 ∧ P.length ≤ i ∧ brunM s0 rs legs = ((brunM s (rs.drop i) ls).1, P ++ (brunM s (rs.drop i) ls).2)) ∧ rs.length - i = mm ∧ st.t 14 = reqsS rs ∧ st.t 15 = .int .i64 ((rs.map reqA).length : Nat) ∧ st.t 16 = .int .i64 i ∧ st.t 3 = .ptr 3 0 ∧ st.t 2 = legsA ls ∧ st.t 8 = repsO 35000 P ∧ st.t 6 = .ptr 6 0 ∧ st.h 3 = staB s ∧ st.h 6 = some (.cells 36 [.sl .nl 0 [], .sl .nl 0 [], .sl .nl 0 [], .sl .nl 0 [], .int .i64 0]),
    ⟨_, 0, s0, legs, [], ⟨Nat.zero_le _, hz, hll, Nat.le_refl _, rfl⟩, rfl, rfl, rfl, rfl, rfl, rfl, rfl, rfl, rfl, rfl⟩, ?_⟩
  rintro _ ⟨t1, h1⟩ ⟨i, s, ls, P, ⟨hi, hz, hls, hPl, hT⟩, rfl, e14, e15, e16, e3, e2, e8, e6, b3, b6⟩
  have e14 : t1 14 = reqsS rs := e14
  have e15 : t1 15 = .int .i64 ((rs.map reqA).length : Nat) := e15
  have e16 : t1 16 = .int .i64 i := e16
  have e3 : t1 3 = .ptr 3 0 := e3
  have e2 : t1 2 = legsA ls := e2
  have e8 : t1 8 = repsO 35000 P := e8
  have e6 : t1 6 = .ptr 6 0 := e6
  have b3 : h1 3 = staB s := b3
  have b6 : h1 6 = some (.cells 36 [.sl .nl 0 [], .sl .nl 0 [], .sl .nl 0 [], .sl .nl 0 [], .int .i64 0]) := b6
  rw [← updL_has t1 [(14, reqsS rs), (15, .int .i64 ((rs.map reqA).length : Nat)), (16, .int .i64 i), (3, .ptr 3 0), (2, legsA ls), (8, repsO 35000 P), (6, .ptr 6 0)] ⟨e14, e15, e16, e3, e2, e8, e6, trivial⟩, ← updL_has h1 [(3, staB s), (6, some (.cells 36 [.sl .nl 0 [], .sl .nl 0 [], .sl .nl 0 [], .sl .nl 0 [], .int .i64 0]))] ⟨b3, b6, trivial⟩]
  cases P with
  | nil =>
    have bd : 1 * 16 ≤ 140737488355328 := by decide
    constructor
    · intro hb
      have hi' : i < rs.length := by
        have : (i : Int) < ((rs.map reqA).length : Nat) := by simpa using hb
        simp at this; omega
      have w : IntKind.i64.wrap ((i : Int) + 1) = ((i + 1 : Nat) : Int) := by rw [wrap_of] <;> omega
      have hlt : rs.length - (i + 1) < rs.length - i := by omega
      obtain ⟨r, hx⟩ : ∃ x, rs[i]? = some x := ⟨_, List.getElem?_eq_getElem hi'⟩
      have hm := List.mem_of_getElem? hx
      have hdr := drop_at hx
      rw [hdr] at hT
      obtain ⟨z1, z2⟩ := bank_sz hz r ls
      have hT : brunM s0 rs legs = ((brunM (bankM s r ls).1 (rs.drop (i + 1)) (ls.drop (bankM s r ls).2.2)).1, (([]:List Rep) ++ [(bankM s r ls).2.1]) ++ (brunM (bankM s r ls).1 (rs.drop (i + 1)) (ls.drop (bankM s r ls).2.2)).2) := by
        rw [hT, List.append_assoc]; rfl
      refine ⟨_, Int.natCast_nonneg i, map_of hx, ?_⟩
      refine ⟨rfl, s, r, ls, rfl, hz, hls, ?_⟩
      generalize bankM s r ls = o at hT z1 z2 ⊢
      obtain ⟨x, q, n⟩ := o
      simp only at hT z1 z2
      have n0 : (0 : Int) ≤ (n : Int) := by omega
      have n1 : ((n : Nat) : Int).toNat ≤ (ls.map AV.bool).length := by rw [List.length_map]; omega
      have n2 : (ls.map AV.bool).length ≤ (ls.map AV.bool).length := Nat.le_refl _
      have hcut : AV.sl .fz 4 (((ls.map AV.bool).take (ls.map AV.bool).length).drop ((n : Nat) : Int).toNat) = legsA (ls.drop n) := by
        rw [List.take_length, show ((n : Nat) : Int).toNat = n by omega, ← List.map_drop]
      have hld : (ls.drop n).length ≤ 4611686018427387904 := by rw [List.length_drop]; omega
      have fin := fun (h1 : AV) (e : h1 = repsO 35000 (([]:List Rep) ++ [q])) => e
      refine ⟨?_, ?_⟩
      · refine ⟨n0, n1, n2, ?_⟩
        refine ⟨bd, ?_⟩
        exact ⟨_, hlt, i + 1, x, ls.drop n, ([]:List Rep) ++ [q], ⟨hi', z1, hld, by simp only [List.length_append, List.length_cons, List.length_nil] at hPl ⊢; omega, hT⟩, rfl, rfl, rfl, congrArg (AV.int .i64) w, rfl, hcut, by rw [← reps_snoc] <;> rfl, rfl, rfl, rfl⟩
      · refine ⟨n0, n1, n2, ?_⟩
        refine ⟨bd, ?_⟩
        exact ⟨_, hlt, i + 1, x, ls.drop n, ([]:List Rep) ++ [q], ⟨hi', z1, hld, by simp only [List.length_append, List.length_cons, List.length_nil] at hPl ⊢; omega, hT⟩, rfl, rfl, rfl, congrArg (AV.int .i64) w, rfl, hcut, by rw [← reps_snoc] <;> rfl, rfl, rfl, rfl⟩
    · intro hb
      have hi' : i = rs.length := by
        have : ¬ (i : Int) < ((rs.map reqA).length : Nat) := by simpa using hb
        simp at this; omega
      subst hi'
      rw [List.drop_length] at hT
      have hT : brunM s0 rs legs = (s, ([]:List Rep)) := by rw [hT]; show (s, _ ++ []) = _; rw [List.append_nil]
      rw [hT] at hK
      exact hK
  | cons p P =>
    have bd : ((repV p :: P.map repV).length + 1) * 16 ≤ 140737488355328 := by
      simp only [List.length_cons, List.length_map] at hPl ⊢; omega
    constructor
    · intro hb
      have hi' : i < rs.length := by
        have : (i : Int) < ((rs.map reqA).length : Nat) := by simpa using hb
        simp at this; omega
      have w : IntKind.i64.wrap ((i : Int) + 1) = ((i + 1 : Nat) : Int) := by rw [wrap_of] <;> omega
      have hlt : rs.length - (i + 1) < rs.length - i := by omega
      obtain ⟨r, hx⟩ : ∃ x, rs[i]? = some x := ⟨_, List.getElem?_eq_getElem hi'⟩
      have hm := List.mem_of_getElem? hx
      have hdr := drop_at hx
      rw [hdr] at hT
      obtain ⟨z1, z2⟩ := bank_sz hz r ls
      have hT : brunM s0 rs legs = ((brunM (bankM s r ls).1 (rs.drop (i + 1)) (ls.drop (bankM s r ls).2.2)).1, ((p::P) ++ [(bankM s r ls).2.1]) ++ (brunM (bankM s r ls).1 (rs.drop (i + 1)) (ls.drop (bankM s r ls).2.2)).2) := by
        rw [hT, List.append_assoc]; rfl
      refine ⟨_, Int.natCast_nonneg i, map_of hx, ?_⟩
      refine ⟨rfl, s, r, ls, rfl, hz, hls, ?_⟩
      generalize bankM s r ls = o at hT z1 z2 ⊢
      obtain ⟨x, q, n⟩ := o
      simp only at hT z1 z2
      have n0 : (0 : Int) ≤ (n : Int) := by omega
      have n1 : ((n : Nat) : Int).toNat ≤ (ls.map AV.bool).length := by rw [List.length_map]; omega
      have n2 : (ls.map AV.bool).length ≤ (ls.map AV.bool).length := Nat.le_refl _
      have hcut : AV.sl .fz 4 (((ls.map AV.bool).take (ls.map AV.bool).length).drop ((n : Nat) : Int).toNat) = legsA (ls.drop n) := by
        rw [List.take_length, show ((n : Nat) : Int).toNat = n by omega, ← List.map_drop]
      have hld : (ls.drop n).length ≤ 4611686018427387904 := by rw [List.length_drop]; omega
      have fin := fun (h1 : AV) (e : h1 = repsO 35000 ((p::P) ++ [q])) => e
      refine ⟨?_, ?_⟩
      · refine ⟨n0, n1, n2, ?_⟩
        refine ⟨bd, ?_⟩
        exact ⟨_, hlt, i + 1, x, ls.drop n, (p::P) ++ [q], ⟨hi', z1, hld, by simp only [List.length_append, List.length_cons, List.length_nil] at hPl ⊢; omega, hT⟩, rfl, rfl, rfl, congrArg (AV.int .i64) w, rfl, hcut, by rw [← reps_snoc] <;> rfl, rfl, rfl, rfl⟩
      · refine ⟨n0, n1, n2, ?_⟩
        refine ⟨bd, ?_⟩
        exact ⟨_, hlt, i + 1, x, ls.drop n, (p::P) ++ [q], ⟨hi', z1, hld, by simp only [List.length_append, List.length_cons, List.length_nil] at hPl ⊢; omega, hT⟩, rfl, rfl, rfl, congrArg (AV.int .i64) w, rfl, hcut, by rw [← reps_snoc] <;> rfl, rfl, rfl, rfl⟩
    · intro hb
      have hi' : i = rs.length := by
        have : ¬ (i : Int) < ((rs.map reqA).length : Nat) := by simpa using hb
        simp at this; omega
      subst hi'
      rw [List.drop_length] at hT
      have hT : brunM s0 rs legs = (s, (p::P)) := by rw [hT]; show (s, _ ++ []) = _; rw [List.append_nil]
      rw [hT] at hK
      exact hK
def brunC (args : List AV) (bs : List Box) (K : AV → List Box → Prop) : Prop := bs = [] ∧ ∃ (s : Sta) (rs : List Req) (legs : List Bool), args = [staA s, reqsS rs, legsA legs] ∧ SzK s ∧ rs.length ≤ 1000000000000 ∧ legs.length ≤ 4611686018427387904 ∧
  K (.tup [staA (brunM s rs legs).1, repsS (brunM s rs legs).2]) []
theorem brun_ok : FnOk Tryd.prog tab 28 brunC := brun_ok0.frz.nilT.mono (by
  rintro args bs K ⟨rfl, s, rs, legs, rfl, hz, hr, hl, hK⟩
  refine ⟨rfl, rfl, s, rs, legs, rfl, hz, hr, hl, ?_⟩
  generalize brunM s rs legs = o at hK
  obtain ⟨x, q⟩ := o
  cases q with
  | nil => exact ⟨_, rfl, [staA x, .sl .nl 0 []], [staA x, repsS []], rfl, ⟨.inl (.inl rfl), .inl (.inr ⟨_, _, rfl, rfl⟩), trivial⟩, hK⟩
  | cons p q => exact ⟨_, rfl, [staA x, repsS (p :: q)], [staA x, repsS (p :: q)], rfl, ⟨.inl (.inl rfl), .inl (.inl rfl), trivial⟩, hK⟩)
/-! ### the document's examples -/
def b16 : Book := ⟨[], [500, 500, 500, 500], []⟩
def r16 : Req := ⟨1, 2, 9, 12, 5, 1, 0⟩
def accs16 : List Acc := [⟨0, -1000, 0⟩, ⟨0, 0, 0⟩, ⟨0, 0, 0⟩, ⟨1, -500, 0⟩, ⟨1, 0, 0⟩, ⟨1, 0, 0⟩, ⟨2, -500, 0⟩, ⟨2, 0, 0⟩, ⟨2, 0, 0⟩, ⟨0, 500, 0⟩, ⟨1, 500, 0⟩, ⟨2, 500, 0⟩, ⟨0, 500, 0⟩, ⟨1, 0, 0⟩, ⟨0, 0, 0⟩]
def sta16 : Sta := ⟨accs16, [], [], [], 0⟩
def sta16b : Sta := ⟨accs16, [], [], [⟨r16, 9, 0, true⟩], 0⟩
theorem aw16_0 : stateM b16 [] 0 = sta16 := by kernel_rfl
theorem aw16_1 : bankM sta16 r16 [false, false, false, false, true] = (sta16b, (9, 0), 4) := by kernel_rfl
theorem aw16_2 : bankM sta16b r16 [] = (sta16b, (9, 0), 0) := by kernel_rfl
theorem b16_in : b16.Ok := ⟨⟨fun _ h => (by cases h), by decide, by decide⟩, by decide⟩
def awake16C (args : List AV) (bs : List Box) (K : AV → List Box → Prop) : Prop := bs = [] ∧ args = [] ∧ K (.bool true) []
def RA16 : Contract
  | 12 => nil2C stateC
  | 24 => nilC bankC
  | _ => fun _ _ _ => False
theorem RA16_ok : CallOk Tryd.prog tab RA16 := by
  intro f args bs K h
  unfold RA16 at h
  split at h
  · exact ⟨_, h, state_ok.nil2⟩
  · exact ⟨_, h, bank_ok2⟩
  · exact h.elim
def RA16_E (pl : Nat → Plan) : En := ⟨tab, RA16, fun _ => none, 0, pl⟩
theorem RA16_J (pl : Nat → Plan) : JOk Tryd.prog (RA16_E pl).T (RA16_E pl).J := fun _ _ h => by cases h
set_option maxRecDepth 200000 in
set_option maxHeartbeats 6400000 in
theorem awake16_ok : FnOk Tryd.prog tab 23 awake16C := by
  refine fn_ok (E := RA16_E pl23) tab_is RA16_ok (RA16_J _) Tryd.func23 rfl rfl (by kernel_rfl) ?_
  rintro args bs K ⟨rfl, rfl, hK⟩
  refine ⟨rfl, ?_⟩
  have hz1 : SzK sta16 := ⟨by decide, by decide, by decide⟩
  have hz2 : SzK sta16b := ⟨by decide, by decide, by decide⟩
  refine ⟨[bkA b16, padS [], .int .u8 0], ⟨.inr ⟨_, [u8S [], u32S [500, 500, 500, 500], u8S []], rfl, rfl, .inr ⟨_, _, rfl, rfl⟩, .inl rfl, .inr ⟨_, _, rfl, rfl⟩, trivial⟩, .inl (.inr ⟨_, _, rfl, rfl⟩), .inl (.inl rfl), trivial⟩, rfl, b16, [], 0, rfl, b16_in.toIn, (fun _ h => by cases h), by decide, ?_⟩
  rw [aw16_0]
  refine ⟨[staA sta16, reqA r16, legsA [false, false, false, false, true]], ⟨.inl rfl, .inl rfl, .inl rfl, trivial⟩, rfl, sta16, r16, [false, false, false, false, true], rfl, hz1, by decide, ?_⟩
  rw [aw16_1]
  refine ⟨[staA sta16b, reqA r16, legsA []], ⟨.inl rfl, .inl rfl, .inr ⟨_, _, rfl, rfl⟩, trivial⟩, rfl, sta16b, r16, [], rfl, hz2, by decide, ?_⟩
  rw [aw16_2]
  refine ⟨fun _ => ?_, fun h => Bool.noConfusion (show true = false from h)⟩
  refine ⟨fun _ => ?_, fun h => Bool.noConfusion (show true = false from h)⟩
  refine ⟨fun _ => ?_, fun h => Bool.noConfusion (show true = false from h)⟩
  refine ⟨fun _ => ?_, fun h => Bool.noConfusion (show true = false from h)⟩
  exact hK
end Go.Proofs.YtkeafcjdejmohaaDoor.A
