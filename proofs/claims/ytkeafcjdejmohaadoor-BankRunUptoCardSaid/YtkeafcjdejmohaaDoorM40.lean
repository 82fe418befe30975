/- hawalalaw16: BankRun. -/
import Derived.Test.YtkeafcjdejmohaaDoorM26
import Derived.Test.YtkeafcjdejmohaaDoorGY
import Derived.Test.YtkeafcjdejmohaaDoorY6
import Derived.Test.YtkeafcjdejmohaaDoorY12
namespace Go.Proofs.YtkeafcjdejmohaaDoor.A
open Go Q
abbrev reqsN (F : Nat) : List Req → AV
  | [] => .sl .nl 0 []
  | r :: l => .sl (.own F) 29 (reqA r :: l.map reqA)
theorem reqs_snoc (F : Nat) (l : List Req) (x : Req) : AV.sl (.own F) 29 (l.map reqA ++ [reqA x]) = reqsN F (l ++ [x]) := by
  cases l <;> simp [reqsN]
theorem szk_k {s : Sta} (h : SzK s) : s.kns.length ≤ 1000000 := by
  have := h.lk
  omega
theorem brun_sz : ∀ {rs : List Req} {s : Sta} {legs : List Bool}, SzK s → SzK (brunM s rs legs).1
  | [], _, _, h => h
  | r :: rs, _, legs, h => brun_sz (rs := rs) (bank_sz h r legs).1
theorem brun_len : ∀ {rs : List Req} {s : Sta} {legs : List Bool}, (brunM s rs legs).2.length = rs.length
  | [], _, _ => rfl
  | r :: rs, s, legs => by
    show ((brunM _ rs _).2.length + 1) = rs.length + 1
    rw [brun_len (rs := rs)]
theorem brun_cons (s : Sta) (r : Req) (rs : List Req) : brunM s (r :: rs) [] = ((brunM (bankM s r []).1 rs []).1, (bankM s r []).2.1 :: (brunM (bankM s r []).1 rs []).2) := by
  show ((brunM _ rs (List.drop _ [])).1, _ :: (brunM _ rs (List.drop _ [])).2) = _
  rw [List.drop_nil]
theorem brun_cat : ∀ {rs qs : List Req} {s : Sta}, brunM s (rs ++ qs) [] = ((brunM (brunM s rs []).1 qs []).1, (brunM s rs []).2 ++ (brunM (brunM s rs []).1 qs []).2)
  | [], _, _ => rfl
  | r :: rs, qs, s => by
    rw [List.cons_append, brun_cons, brun_cons, brun_cat (rs := rs)]
    rfl
def brunLC (args : List AV) (bs : List Box) (K : AV → List Box → Prop) : Prop := bs = [] ∧ ∃ (b : Book) (qs : List Ask) (legs : List Bool) (cut : Int), args = [bkA b, asksS qs, legsA legs, .int .u8 cut] ∧ b.Ok ∧ (∀ a ∈ qs, a.In) ∧ qs.length ≤ 1999900 ∧ legs.length ≤ 4611686018427387904 ∧ u8I cut ∧ K (.bool true) []
def RBR : Contract
  | 23 => awake16C
  | 12 => nil2C stateC
  | 18 => askC
  | 24 => bankC
  | 28 => nil2C brunC
  | 25 => same16C
  | _ => fun _ _ _ => False
theorem RBR_ok : CallOk Tryd.prog tab RBR := by
  intro f args bs K h
  unfold RBR at h
  split at h
  · exact ⟨_, h, awake16_ok⟩
  · exact ⟨_, h, state_ok.nil2⟩
  · exact ⟨_, h, ask_ok⟩
  · exact ⟨_, h, bank_ok⟩
  · exact ⟨_, h, brun_ok.nil2⟩
  · exact ⟨_, h, same16_ok⟩
  · exact h.elim
def RBR_E (pl : Nat → Plan) : En := ⟨tab, RBR, fun _ => none, 0, pl⟩
theorem RBR_J (pl : Nat → Plan) : JOk Tryd.prog (RBR_E pl).T (RBR_E pl).J := fun _ _ h => by cases h
set_option maxRecDepth 200000 in
set_option maxHeartbeats 25600000 in
theorem brunL_ok : FnOk Tryd.prog tab 9 brunLC := by
  refine fn_ok (E := RBR_E pl9) tab_is RBR_ok (RBR_J _) Tryd.func9 rfl rfl (by kernel_rfl) ?_
  rintro args bs K ⟨rfl, b, qs, legs, cut, rfl, hb, hqs, hql, hll, hcu, hK⟩
  refine ⟨rfl, ?_⟩
  have fin : ∀ c, c = true → K (.bool c) [] := fun c e => e ▸ hK
  refine ⟨rfl, rfl, ?_⟩
  refine ⟨fun h => Bool.noConfusion (show false = true from h), fun _ => ?_⟩
  refine ⟨[bkA b, padS [], .int .u8 0], ⟨.inl (.inl rfl), .inl (.inr ⟨_, _, rfl, rfl⟩), .inl (.inl rfl), trivial⟩, rfl, b, [], 0, rfl, hb.toIn, (fun _ h => by cases h), by decide, ?_⟩
  have hI := state_I (ps := []) 0 hb (fun _ h => by cases h)
  have hz0 : SzK (stateM b [] 0) := by
    refine ⟨by rw [hI.l]; decide, ?_, Nat.zero_le _⟩
    have := putGo_len (ps := ([] : List Paid)) (t := (bookL (curs6 b) b.has, [])) (k := 0)
    exact Nat.le_trans this (by show 0 + 0 ≤ 1999900; decide)
  generalize stateM b [] 0 = s0 at hz0 ⊢
  refine ⟨fun mm st => ∃ (i : Nat) (P : List Req), (i ≤ qs.length ∧ (qs.take i).map askR = P) ∧ qs.length - i = mm ∧ st.t 33 = asksS qs ∧ st.t 34 = .int .i64 ((qs.map askAV).length : Nat) ∧ st.t 35 = .int .i64 i ∧ st.t 10 = reqsN 43000 P ∧ st.t 2 = legsA legs ∧ st.t 3 = .int .u8 cut ∧ st.t 9 = .ptr 9 0 ∧ st.h 9 = staB s0,
    ⟨_, 0, [], ⟨Nat.zero_le _, rfl⟩, rfl, rfl, rfl, rfl, rfl, rfl, rfl, rfl, rfl⟩, ?_⟩
  rintro _ ⟨t1, h1⟩ ⟨i, P, ⟨hi, hT⟩, rfl, e33, e34, e35, e10, e2, e3, e9, b9⟩
  have e33 : t1 33 = asksS qs := e33
  have e34 : t1 34 = .int .i64 ((qs.map askAV).length : Nat) := e34
  have e35 : t1 35 = .int .i64 i := e35
  have e10 : t1 10 = reqsN 43000 P := e10
  have e2 : t1 2 = legsA legs := e2
  have e3 : t1 3 = .int .u8 cut := e3
  have e9 : t1 9 = .ptr 9 0 := e9
  have b9 : h1 9 = staB s0 := b9
  rw [← updL_has t1 [(33, asksS qs), (34, .int .i64 ((qs.map askAV).length : Nat)), (35, .int .i64 i), (10, reqsN 43000 P), (2, legsA legs), (3, .int .u8 cut), (9, .ptr 9 0)] ⟨e33, e34, e35, e10, e2, e3, e9, trivial⟩, ← updL_has h1 [(9, staB s0)] ⟨b9, trivial⟩]
  have hPl : P.length ≤ 1999900 := by rw [← hT, List.length_map, List.length_take]; omega
  have hlen0 := hcu.1
  have hlen1 := hcu.2
  have hwc : IntKind.i64.wrap cut = cut := wrap_of (by omega) (by omega)
  cases P with
  | nil =>
    have bd : 1 * 56 ≤ 140737488355328 := by decide
    constructor
    · intro hb
      have hi' : i < qs.length := by
        have : (i : Int) < ((qs.map askAV).length : Nat) := by simpa using hb
        simp at this; omega
      have w : IntKind.i64.wrap ((i : Int) + 1) = ((i + 1 : Nat) : Int) := by rw [wrap_of] <;> omega
      have hlt : qs.length - (i + 1) < qs.length - i := by omega
      obtain ⟨q, hx⟩ : ∃ x, qs[i]? = some x := ⟨_, List.getElem?_eq_getElem hi'⟩
      have hm := List.mem_of_getElem? hx
      have hdr := drop_at hx
      have hT2 : ((qs.take (i + 1)).map askR) = ([]:List Req) ++ [askR q] := by rw [List.take_add_one, hx, List.map_append, hT]; rfl
      refine ⟨_, Int.natCast_nonneg i, map_of hx, ?_⟩
      refine ⟨rfl, q, rfl, hqs q hm, ?_⟩
      refine ⟨bd, ?_⟩
      exact ⟨_, hlt, i + 1, ([]:List Req) ++ [askR q], ⟨hi', hT2⟩, rfl, rfl, rfl, congrArg (AV.int .i64) w, by rw [← reqs_snoc] <;> rfl, rfl, rfl, rfl, rfl⟩
    · intro _
      refine ⟨[staA s0, reqsS [], legsA []], ⟨.inl (.inl rfl), .inl (.inr ⟨_, _, rfl, rfl⟩), .inl (.inr ⟨_, _, rfl, rfl⟩), trivial⟩, rfl, s0, [], [], rfl, hz0, by decide, by decide, ?_⟩
      have hw1 : IntKind.i64.wrap ((((([] : List AV).length : Nat)) : Int) + 1) = 1 := rfl
      have hKX : (IntKind.i64.wrap cut).tmod (IntKind.i64.wrap ((((([] : List AV).length : Nat)) : Int) + 1)) = 0 := by rw [hw1]; exact Int.tmod_one _
      have hk0 : 0 ≤ (IntKind.i64.wrap cut).tmod (IntKind.i64.wrap ((((([] : List AV).length : Nat)) : Int) + 1)) := by rw [hKX]; decide
      have hkl : ((IntKind.i64.wrap cut).tmod (IntKind.i64.wrap ((((([] : List AV).length : Nat)) : Int) + 1))).toNat ≤ 0 := by rw [hKX]; decide
      refine ⟨(by rw [hw1]; decide : IntKind.i64.wrap ((((([] : List AV).length : Nat)) : Int) + 1) ≠ 0), ?_⟩
      refine ⟨?_, ?_⟩
      · refine ⟨hk0, Nat.zero_le _, hkl, ?_⟩
        refine ⟨?_, ?_⟩
        · refine ⟨[staA s0, reqsS [], legsA []], ⟨.inl (.inl rfl), .inl (.inr ⟨_, _, rfl, rfl⟩), .inl (.inr ⟨_, _, rfl, rfl⟩), trivial⟩, rfl, s0, [], [], rfl, hz0, by decide, by decide, ?_⟩
          refine ⟨hk0, hkl, Nat.le_refl _, ?_⟩
          refine ⟨[staA s0, reqsS [], legsA []], ⟨.inl (.inl rfl), .inl (.inr ⟨_, _, rfl, rfl⟩), .inl (.inr ⟨_, _, rfl, rfl⟩), trivial⟩, rfl, s0, [], [], rfl, hz0, by decide, by decide, ?_⟩
          refine ⟨(by show 0 * 16 ≤ 140737488355328; decide), ?_⟩
          refine ⟨(by show (0 + 0) * 16 ≤ 140737488355328; decide), ?_⟩
          refine ⟨rfl, s0, s0, rfl, hz0.z, szk_k hz0, fun _ => ?_, fun h => absurd (SameK.refl s0) h⟩
          refine ⟨fun h => Bool.noConfusion (show false = true from h), fun _ => ?_⟩
          refine ⟨fun h => Bool.noConfusion (show false = true from h), fun _ => ?_⟩
          refine ⟨fun mm st => ∃ (i : Nat), (i = 0) ∧ 0 - i = mm ∧ st.t 89 = .int .i64 0 ∧ st.t 90 = .int .i64 i ∧ st.t 9 = .ptr 9 0 ∧ st.t 10 = .sl .nl 0 [] ∧ st.t 2 = legsA legs ∧ st.h 9 = staB s0,
            ⟨_, 0, rfl, rfl, rfl, rfl, rfl, rfl, rfl, rfl⟩, ?_⟩
          rintro _ ⟨t2, h2⟩ ⟨i, hi, rfl, e89, e90, e9, e10, e2, b9⟩
          have e89 : t2 89 = .int .i64 0 := e89
          have e90 : t2 90 = .int .i64 i := e90
          have e9 : t2 9 = .ptr 9 0 := e9
          have e10 : t2 10 = .sl .nl 0 [] := e10
          have e2 : t2 2 = legsA legs := e2
          have b9 : h2 9 = staB s0 := b9
          rw [← updL_has t2 [(89, .int .i64 0), (90, .int .i64 i), (9, .ptr 9 0), (10, .sl .nl 0 []), (2, legsA legs)] ⟨e89, e90, e9, e10, e2, trivial⟩, ← updL_has h2 [(9, staB s0)] ⟨b9, trivial⟩]
          subst hi
          refine ⟨fun h => Bool.noConfusion (show false = true from h), fun _ => ?_⟩
          refine ⟨[staA s0, reqsS [], legsA legs], ⟨.inl (.inl rfl), .inl (.inr ⟨_, _, rfl, rfl⟩), .inl (.inl rfl), trivial⟩, rfl, s0, [], legs, rfl, hz0, by decide, hll, ?_⟩
          refine ⟨fun mm st => ∃ (i : Nat), (i = 0) ∧ 0 - i = mm ∧ st.t 112 = .int .i64 0 ∧ st.t 113 = .int .i64 i ∧ st.t 9 = .ptr 9 0 ∧ st.t 10 = .sl .nl 0 [] ∧ st.t 21 = .ptr 21 0 ∧ st.t 22 = repsS [] ∧ st.h 9 = staB s0 ∧ st.h 21 = staB s0,
            ⟨_, 0, rfl, rfl, rfl, rfl, rfl, rfl, rfl, rfl, rfl, rfl⟩, ?_⟩
          rintro _ ⟨t3, h3⟩ ⟨i, hi, rfl, e112, e113, e9, e10, e21, e22, b9, b21⟩
          have e112 : t3 112 = .int .i64 0 := e112
          have e113 : t3 113 = .int .i64 i := e113
          have e9 : t3 9 = .ptr 9 0 := e9
          have e10 : t3 10 = .sl .nl 0 [] := e10
          have e21 : t3 21 = .ptr 21 0 := e21
          have e22 : t3 22 = repsS [] := e22
          have b9 : h3 9 = staB s0 := b9
          have b21 : h3 21 = staB s0 := b21
          rw [← updL_has t3 [(112, .int .i64 0), (113, .int .i64 i), (9, .ptr 9 0), (10, .sl .nl 0 []), (21, .ptr 21 0), (22, repsS [])] ⟨e112, e113, e9, e10, e21, e22, trivial⟩, ← updL_has h3 [(9, staB s0), (21, staB s0)] ⟨b9, b21, trivial⟩]
          subst hi
          refine ⟨fun h => Bool.noConfusion (show false = true from h), fun _ => ?_⟩
          refine ⟨rfl, s0, s0, rfl, hz0.z, szk_k hz0, fun _ => ?_, fun h => absurd (SameK.refl s0) h⟩
          refine ⟨fun _ => ?_, fun h => Bool.noConfusion (show true = false from h)⟩
          exact hK
        · refine ⟨[staA s0, reqsS [], legsA []], ⟨.inl (.inl rfl), .inl (.inr ⟨_, _, rfl, rfl⟩), .inl (.inr ⟨_, _, rfl, rfl⟩), trivial⟩, rfl, s0, [], [], rfl, hz0, by decide, by decide, ?_⟩
          refine ⟨hk0, hkl, Nat.le_refl _, ?_⟩
          refine ⟨[staA s0, reqsS [], legsA []], ⟨.inl (.inl rfl), .inl (.inr ⟨_, _, rfl, rfl⟩), .inl (.inr ⟨_, _, rfl, rfl⟩), trivial⟩, rfl, s0, [], [], rfl, hz0, by decide, by decide, ?_⟩
          refine ⟨(by show 0 * 16 ≤ 140737488355328; decide), ?_⟩
          refine ⟨(by show (0 + 0) * 16 ≤ 140737488355328; decide), ?_⟩
          refine ⟨rfl, s0, s0, rfl, hz0.z, szk_k hz0, fun _ => ?_, fun h => absurd (SameK.refl s0) h⟩
          refine ⟨fun h => Bool.noConfusion (show false = true from h), fun _ => ?_⟩
          refine ⟨fun h => Bool.noConfusion (show false = true from h), fun _ => ?_⟩
          refine ⟨fun mm st => ∃ (i : Nat), (i = 0) ∧ 0 - i = mm ∧ st.t 89 = .int .i64 0 ∧ st.t 90 = .int .i64 i ∧ st.t 9 = .ptr 9 0 ∧ st.t 10 = .sl .nl 0 [] ∧ st.t 2 = legsA legs ∧ st.h 9 = staB s0,
            ⟨_, 0, rfl, rfl, rfl, rfl, rfl, rfl, rfl, rfl⟩, ?_⟩
          rintro _ ⟨t2, h2⟩ ⟨i, hi, rfl, e89, e90, e9, e10, e2, b9⟩
          have e89 : t2 89 = .int .i64 0 := e89
          have e90 : t2 90 = .int .i64 i := e90
          have e9 : t2 9 = .ptr 9 0 := e9
          have e10 : t2 10 = .sl .nl 0 [] := e10
          have e2 : t2 2 = legsA legs := e2
          have b9 : h2 9 = staB s0 := b9
          rw [← updL_has t2 [(89, .int .i64 0), (90, .int .i64 i), (9, .ptr 9 0), (10, .sl .nl 0 []), (2, legsA legs)] ⟨e89, e90, e9, e10, e2, trivial⟩, ← updL_has h2 [(9, staB s0)] ⟨b9, trivial⟩]
          subst hi
          refine ⟨fun h => Bool.noConfusion (show false = true from h), fun _ => ?_⟩
          refine ⟨[staA s0, reqsS [], legsA legs], ⟨.inl (.inl rfl), .inl (.inr ⟨_, _, rfl, rfl⟩), .inl (.inl rfl), trivial⟩, rfl, s0, [], legs, rfl, hz0, by decide, hll, ?_⟩
          refine ⟨fun mm st => ∃ (i : Nat), (i = 0) ∧ 0 - i = mm ∧ st.t 112 = .int .i64 0 ∧ st.t 113 = .int .i64 i ∧ st.t 9 = .ptr 9 0 ∧ st.t 10 = .sl .nl 0 [] ∧ st.t 21 = .ptr 21 0 ∧ st.t 22 = repsS [] ∧ st.h 9 = staB s0 ∧ st.h 21 = staB s0,
            ⟨_, 0, rfl, rfl, rfl, rfl, rfl, rfl, rfl, rfl, rfl, rfl⟩, ?_⟩
          rintro _ ⟨t3, h3⟩ ⟨i, hi, rfl, e112, e113, e9, e10, e21, e22, b9, b21⟩
          have e112 : t3 112 = .int .i64 0 := e112
          have e113 : t3 113 = .int .i64 i := e113
          have e9 : t3 9 = .ptr 9 0 := e9
          have e10 : t3 10 = .sl .nl 0 [] := e10
          have e21 : t3 21 = .ptr 21 0 := e21
          have e22 : t3 22 = repsS [] := e22
          have b9 : h3 9 = staB s0 := b9
          have b21 : h3 21 = staB s0 := b21
          rw [← updL_has t3 [(112, .int .i64 0), (113, .int .i64 i), (9, .ptr 9 0), (10, .sl .nl 0 []), (21, .ptr 21 0), (22, repsS [])] ⟨e112, e113, e9, e10, e21, e22, trivial⟩, ← updL_has h3 [(9, staB s0), (21, staB s0)] ⟨b9, b21, trivial⟩]
          subst hi
          refine ⟨fun h => Bool.noConfusion (show false = true from h), fun _ => ?_⟩
          refine ⟨rfl, s0, s0, rfl, hz0.z, szk_k hz0, fun _ => ?_, fun h => absurd (SameK.refl s0) h⟩
          refine ⟨fun _ => ?_, fun h => Bool.noConfusion (show true = false from h)⟩
          exact hK
      · refine ⟨hk0, Nat.zero_le _, hkl, ?_⟩
        refine ⟨[staA s0, reqsS [], legsA []], ⟨.inl (.inl rfl), .inl (.inr ⟨_, _, rfl, rfl⟩), .inl (.inr ⟨_, _, rfl, rfl⟩), trivial⟩, rfl, s0, [], [], rfl, hz0, by decide, by decide, ?_⟩
        refine ⟨hk0, hkl, Nat.le_refl _, ?_⟩
        refine ⟨[staA s0, reqsS [], legsA []], ⟨.inl (.inl rfl), .inl (.inr ⟨_, _, rfl, rfl⟩), .inl (.inr ⟨_, _, rfl, rfl⟩), trivial⟩, rfl, s0, [], [], rfl, hz0, by decide, by decide, ?_⟩
        refine ⟨(by show 0 * 16 ≤ 140737488355328; decide), ?_⟩
        refine ⟨(by show (0 + 0) * 16 ≤ 140737488355328; decide), ?_⟩
        refine ⟨rfl, s0, s0, rfl, hz0.z, szk_k hz0, fun _ => ?_, fun h => absurd (SameK.refl s0) h⟩
        refine ⟨fun h => Bool.noConfusion (show false = true from h), fun _ => ?_⟩
        refine ⟨fun h => Bool.noConfusion (show false = true from h), fun _ => ?_⟩
        refine ⟨fun mm st => ∃ (i : Nat), (i = 0) ∧ 0 - i = mm ∧ st.t 89 = .int .i64 0 ∧ st.t 90 = .int .i64 i ∧ st.t 9 = .ptr 9 0 ∧ st.t 10 = .sl .nl 0 [] ∧ st.t 2 = legsA legs ∧ st.h 9 = staB s0,
          ⟨_, 0, rfl, rfl, rfl, rfl, rfl, rfl, rfl, rfl⟩, ?_⟩
        rintro _ ⟨t2, h2⟩ ⟨i, hi, rfl, e89, e90, e9, e10, e2, b9⟩
        have e89 : t2 89 = .int .i64 0 := e89
        have e90 : t2 90 = .int .i64 i := e90
        have e9 : t2 9 = .ptr 9 0 := e9
        have e10 : t2 10 = .sl .nl 0 [] := e10
        have e2 : t2 2 = legsA legs := e2
        have b9 : h2 9 = staB s0 := b9
        rw [← updL_has t2 [(89, .int .i64 0), (90, .int .i64 i), (9, .ptr 9 0), (10, .sl .nl 0 []), (2, legsA legs)] ⟨e89, e90, e9, e10, e2, trivial⟩, ← updL_has h2 [(9, staB s0)] ⟨b9, trivial⟩]
        subst hi
        refine ⟨fun h => Bool.noConfusion (show false = true from h), fun _ => ?_⟩
        refine ⟨[staA s0, reqsS [], legsA legs], ⟨.inl (.inl rfl), .inl (.inr ⟨_, _, rfl, rfl⟩), .inl (.inl rfl), trivial⟩, rfl, s0, [], legs, rfl, hz0, by decide, hll, ?_⟩
        refine ⟨fun mm st => ∃ (i : Nat), (i = 0) ∧ 0 - i = mm ∧ st.t 112 = .int .i64 0 ∧ st.t 113 = .int .i64 i ∧ st.t 9 = .ptr 9 0 ∧ st.t 10 = .sl .nl 0 [] ∧ st.t 21 = .ptr 21 0 ∧ st.t 22 = repsS [] ∧ st.h 9 = staB s0 ∧ st.h 21 = staB s0,
          ⟨_, 0, rfl, rfl, rfl, rfl, rfl, rfl, rfl, rfl, rfl, rfl⟩, ?_⟩
        rintro _ ⟨t3, h3⟩ ⟨i, hi, rfl, e112, e113, e9, e10, e21, e22, b9, b21⟩
        have e112 : t3 112 = .int .i64 0 := e112
        have e113 : t3 113 = .int .i64 i := e113
        have e9 : t3 9 = .ptr 9 0 := e9
        have e10 : t3 10 = .sl .nl 0 [] := e10
        have e21 : t3 21 = .ptr 21 0 := e21
        have e22 : t3 22 = repsS [] := e22
        have b9 : h3 9 = staB s0 := b9
        have b21 : h3 21 = staB s0 := b21
        rw [← updL_has t3 [(112, .int .i64 0), (113, .int .i64 i), (9, .ptr 9 0), (10, .sl .nl 0 []), (21, .ptr 21 0), (22, repsS [])] ⟨e112, e113, e9, e10, e21, e22, trivial⟩, ← updL_has h3 [(9, staB s0), (21, staB s0)] ⟨b9, b21, trivial⟩]
        subst hi
        refine ⟨fun h => Bool.noConfusion (show false = true from h), fun _ => ?_⟩
        refine ⟨rfl, s0, s0, rfl, hz0.z, szk_k hz0, fun _ => ?_, fun h => absurd (SameK.refl s0) h⟩
        refine ⟨fun _ => ?_, fun h => Bool.noConfusion (show true = false from h)⟩
        exact hK
  | cons p P =>
    have bd : ((reqA p :: P.map reqA).length + 1) * 56 ≤ 140737488355328 := by
      simp only [List.length_cons, List.length_map] at hPl ⊢; omega
    constructor
    · intro hb
      have hi' : i < qs.length := by
        have : (i : Int) < ((qs.map askAV).length : Nat) := by simpa using hb
        simp at this; omega
      have w : IntKind.i64.wrap ((i : Int) + 1) = ((i + 1 : Nat) : Int) := by rw [wrap_of] <;> omega
      have hlt : qs.length - (i + 1) < qs.length - i := by omega
      obtain ⟨q, hx⟩ : ∃ x, qs[i]? = some x := ⟨_, List.getElem?_eq_getElem hi'⟩
      have hm := List.mem_of_getElem? hx
      have hdr := drop_at hx
      have hT2 : ((qs.take (i + 1)).map askR) = (p::P) ++ [askR q] := by rw [List.take_add_one, hx, List.map_append, hT]; rfl
      refine ⟨_, Int.natCast_nonneg i, map_of hx, ?_⟩
      refine ⟨rfl, q, rfl, hqs q hm, ?_⟩
      refine ⟨bd, ?_⟩
      exact ⟨_, hlt, i + 1, (p::P) ++ [askR q], ⟨hi', hT2⟩, rfl, rfl, rfl, congrArg (AV.int .i64) w, by rw [← reqs_snoc] <;> rfl, rfl, rfl, rfl, rfl⟩
    · intro _
      have hP2 : (p :: P).length ≤ 1999900 := hPl
      refine ⟨[staA s0, reqsS (p :: P), legsA []], ⟨.inl (.inl rfl), .inl (.inl rfl), .inl (.inr ⟨_, _, rfl, rfl⟩), trivial⟩, rfl, s0, p :: P, [], rfl, hz0, (by omega), by decide, ?_⟩
      have hw1 : IntKind.i64.wrap (((((p :: P).map reqA).length : Nat) : Int) + 1) = (((p :: P).length + 1 : Nat) : Int) := by rw [List.length_map, wrap_of (by omega) (by omega)]; rfl
      have m0 := Int.tmod_nonneg (((p :: P).length + 1 : Nat) : Int) hlen0
      have m1 := Int.tmod_lt_of_pos cut (show (0 : Int) < (((p :: P).length + 1 : Nat) : Int) by omega)
      obtain ⟨k, hk⟩ : ∃ k : Nat, cut.tmod (((p :: P).length + 1 : Nat) : Int) = (k : Int) := ⟨(cut.tmod (((p :: P).length + 1 : Nat) : Int)).toNat, by omega⟩
      have hkle : k ≤ (p :: P).length := by omega
      have hKX : (IntKind.i64.wrap cut).tmod (IntKind.i64.wrap (((((p :: P).map reqA).length : Nat) : Int) + 1)) = (k : Int) := by rw [hw1, hwc, hk]
      have hk0 : 0 ≤ (IntKind.i64.wrap cut).tmod (IntKind.i64.wrap (((((p :: P).map reqA).length : Nat) : Int) + 1)) := by rw [hKX]; omega
      have hkl : ((IntKind.i64.wrap cut).tmod (IntKind.i64.wrap (((((p :: P).map reqA).length : Nat) : Int) + 1))).toNat ≤ ((p :: P).map reqA).length := by rw [hKX, List.length_map]; omega
      have hc1 : reqsS ((p :: P).take k) = .sl .fz 29 ((((p :: P).map reqA).take ((IntKind.i64.wrap cut).tmod (IntKind.i64.wrap (((((p :: P).map reqA).length : Nat) : Int) + 1))).toNat).drop 0) := by
        rw [hKX, show ((k : Nat) : Int).toNat = k by omega, List.drop_zero, ← List.map_take]
      have hc2 : reqsS ((p :: P).drop k) = .sl .fz 29 ((((p :: P).map reqA).take ((p :: P).map reqA).length).drop ((IntKind.i64.wrap cut).tmod (IntKind.i64.wrap (((((p :: P).map reqA).length : Nat) : Int) + 1))).toNat) := by
        rw [hKX, show ((k : Nat) : Int).toNat = k by omega, List.take_length, ← List.map_drop]
      have hcat : brunM s0 (p :: P) [] = ((brunM (brunM s0 ((p :: P).take k) []).1 ((p :: P).drop k) []).1, (brunM s0 ((p :: P).take k) []).2 ++ (brunM (brunM s0 ((p :: P).take k) []).1 ((p :: P).drop k) []).2) := by
        rw [← brun_cat, List.take_append_drop]
      have z1 := brun_sz (rs := (p :: P).take k) (legs := []) hz0
      have z2 := brun_sz (rs := (p :: P).drop k) (legs := []) z1
      have l1 := brun_len (rs := (p :: P).take k) (s := s0) (legs := [])
      have l2 := brun_len (rs := (p :: P).drop k) (s := (brunM s0 ((p :: P).take k) []).1) (legs := [])
      have kl1 : ((p :: P).take k).length ≤ 1000000000000 := by rw [List.length_take]; omega
      have kl2 : ((p :: P).drop k).length ≤ 1000000000000 := by rw [List.length_drop]; omega
      rw [List.length_take] at l1
      rw [List.length_drop] at l2
      rw [hcat]
      refine ⟨(by rw [hw1]; omega : IntKind.i64.wrap (((((p :: P).map reqA).length : Nat) : Int) + 1) ≠ 0), ?_⟩
      refine ⟨?_, ?_⟩
      · refine ⟨hk0, Nat.zero_le _, hkl, ?_⟩
        refine ⟨?_, ?_⟩
        · refine ⟨[staA s0, reqsS ((p :: P).take k), legsA []], ⟨.inl (.inl rfl), .inl (.inl hc1), .inl (.inr ⟨_, _, rfl, rfl⟩), trivial⟩, rfl, s0, (p :: P).take k, [], rfl, hz0, kl1, by decide, ?_⟩
          refine ⟨hk0, hkl, Nat.le_refl _, ?_⟩
          refine ⟨[staA (brunM s0 ((p :: P).take k) []).1, reqsS ((p :: P).drop k), legsA []], ⟨.inl (.inl rfl), .inl (.inl hc2), .inl (.inr ⟨_, _, rfl, rfl⟩), trivial⟩, rfl, (brunM s0 ((p :: P).take k) []).1, (p :: P).drop k, [], rfl, z1, kl2, by decide, ?_⟩
          generalize brunM (brunM s0 ((p :: P).take k) []).1 ((p :: P).drop k) [] = o2 at z2 l2 ⊢
          generalize brunM s0 ((p :: P).take k) [] = o1 at z1 l1 ⊢
          obtain ⟨x1, P1⟩ := o1
          obtain ⟨x2, P2⟩ := o2
          dsimp only at z1 z2 l1 l2 ⊢
          have b1 : (P1.map repV).length * 16 ≤ 140737488355328 := by rw [List.length_map]; omega
          have b2 : ((P1.map repV).length + (P2.map repV).length) * 16 ≤ 140737488355328 := by rw [List.length_map, List.length_map]; omega
          refine ⟨b1, ?_⟩
          refine ⟨b2, ?_⟩
          refine ⟨rfl, x2, x2, rfl, z2.z, szk_k z2, fun _ => ?_, fun h => absurd (SameK.refl x2) h⟩
          refine ⟨fun h => Bool.noConfusion (show false = true from h), fun _ => ?_⟩
          have hlen : (((((P1 ++ P2).map repV).length : Nat) : Int) != ((P1.map repV ++ P2.map repV).length : Nat)) = false := by simp
          refine ⟨fun h => absurd (hlen.symm.trans h) (by decide), fun _ => ?_⟩
          refine ⟨fun mm st => ∃ (i : Nat), (i ≤ (P1 ++ P2).length) ∧ (P1 ++ P2).length - i = mm ∧ st.t 89 = .int .i64 (((P1 ++ P2).map repV).length : Nat) ∧ st.t 90 = .int .i64 i ∧ st.t 14 = repsS (P1 ++ P2) ∧ st.t 19 = .sl (.own 74000) 40 (P1.map repV ++ P2.map repV) ∧ st.t 9 = .ptr 9 0 ∧ st.t 10 = reqsS (p :: P) ∧ st.t 2 = legsA legs ∧ st.h 9 = staB s0,
            ⟨_, 0, Nat.zero_le _, rfl, rfl, rfl, rfl, rfl, rfl, rfl, rfl, rfl⟩, ?_⟩
          rintro _ ⟨t2, h2⟩ ⟨i, hi, rfl, e89, e90, e14, e19, e9, e10, e2, b9⟩
          have e89 : t2 89 = .int .i64 (((P1 ++ P2).map repV).length : Nat) := e89
          have e90 : t2 90 = .int .i64 i := e90
          have e14 : t2 14 = repsS (P1 ++ P2) := e14
          have e19 : t2 19 = .sl (.own 74000) 40 (P1.map repV ++ P2.map repV) := e19
          have e9 : t2 9 = .ptr 9 0 := e9
          have e10 : t2 10 = reqsS (p :: P) := e10
          have e2 : t2 2 = legsA legs := e2
          have b9 : h2 9 = staB s0 := b9
          rw [← updL_has t2 [(89, .int .i64 (((P1 ++ P2).map repV).length : Nat)), (90, .int .i64 i), (14, repsS (P1 ++ P2)), (19, .sl (.own 74000) 40 (P1.map repV ++ P2.map repV)), (9, .ptr 9 0), (10, reqsS (p :: P)), (2, legsA legs)] ⟨e89, e90, e14, e19, e9, e10, e2, trivial⟩, ← updL_has h2 [(9, staB s0)] ⟨b9, trivial⟩]
          have hPP : (P1 ++ P2).length ≤ 4000000 := by rw [List.length_append]; omega
          constructor
          · intro hb
            have hi' : i < (P1 ++ P2).length := by
              have : (i : Int) < (((P1 ++ P2).map repV).length : Nat) := by simpa using hb
              first | (simp at this; omega) | (simp at this ⊢; omega)
            have w : IntKind.i64.wrap ((i : Int) + 1) = ((i + 1 : Nat) : Int) := by rw [wrap_of] <;> omega
            have hlt : (P1 ++ P2).length - (i + 1) < (P1 ++ P2).length - i := by omega
            obtain ⟨q, hx⟩ : ∃ x, (P1 ++ P2)[i]? = some x := ⟨_, List.getElem?_eq_getElem hi'⟩
            have hm := List.mem_of_getElem? hx
            have hdr := drop_at hx
            have hx' : (P1.map repV ++ P2.map repV)[((i : Nat) : Int).toNat]? = some (repV q) := by rw [← List.map_append]; exact map_of hx
            refine ⟨_, Int.natCast_nonneg i, map_of hx, ?_⟩
            refine ⟨_, Int.natCast_nonneg i, hx', ?_⟩
            have hne : (!((q.1 == q.1) && ((q.2 == q.2) && true))) = false := by simp
            refine ⟨fun h => absurd (hne.symm.trans h) (by decide), fun _ => ?_⟩
            exact ⟨_, hlt, i + 1, hi', rfl, rfl, congrArg (AV.int .i64) w, rfl, rfl, rfl, rfl, rfl, rfl⟩
          · intro _
            refine ⟨[staA s0, reqsS (p :: P), legsA legs], ⟨.inl (.inl rfl), .inl (.inl rfl), .inl (.inl rfl), trivial⟩, rfl, s0, p :: P, legs, rfl, hz0, (by simp at hPl ⊢; omega), hll, ?_⟩
            have hTn := brun_len (rs := p :: P) (s := s0) (legs := legs)
            have hT0 : brunM s0 (p :: P) legs = ((brunM s0 ((p :: P).drop 0) legs).1, List.take 0 (brunM s0 (p :: P) legs).2 ++ (brunM s0 ((p :: P).drop 0) legs).2) := rfl
            generalize brunM s0 (p :: P) legs = TT at hTn hT0 ⊢
            obtain ⟨X, T⟩ := TT
            dsimp only at hTn hT0 ⊢
            refine ⟨fun mm st => ∃ (i : Nat) (s : Sta) (ls : List Bool), (i ≤ (p :: P).length ∧ SzK s ∧ ls.length ≤ 4611686018427387904 ∧ (X, T) = ((brunM s ((p :: P).drop i) ls).1, T.take i ++ (brunM s ((p :: P).drop i) ls).2)) ∧ (p :: P).length - i = mm ∧ st.t 111 = reqsS (p :: P) ∧ st.t 112 = .int .i64 (((p :: P).map reqA).length : Nat) ∧ st.t 113 = .int .i64 i ∧ st.t 10 = reqsS (p :: P) ∧ st.t 9 = .ptr 9 0 ∧ st.t 21 = .ptr 21 0 ∧ st.t 22 = repsS T ∧ st.t 23 = legsA ls ∧ st.h 9 = staB s ∧ st.h 21 = staB X,
              ⟨_, 0, s0, legs, ⟨Nat.zero_le _, hz0, hll, hT0⟩, rfl, rfl, rfl, rfl, rfl, rfl, rfl, rfl, rfl, rfl, rfl⟩, ?_⟩
            rintro _ ⟨t3, h3⟩ ⟨i, s, ls, ⟨hi, hz, hls, hT⟩, rfl, e111, e112, e113, e10, e9, e21, e22, e23, b9, b21⟩
            have e111 : t3 111 = reqsS (p :: P) := e111
            have e112 : t3 112 = .int .i64 (((p :: P).map reqA).length : Nat) := e112
            have e113 : t3 113 = .int .i64 i := e113
            have e10 : t3 10 = reqsS (p :: P) := e10
            have e9 : t3 9 = .ptr 9 0 := e9
            have e21 : t3 21 = .ptr 21 0 := e21
            have e22 : t3 22 = repsS T := e22
            have e23 : t3 23 = legsA ls := e23
            have b9 : h3 9 = staB s := b9
            have b21 : h3 21 = staB X := b21
            rw [← updL_has t3 [(111, reqsS (p :: P)), (112, .int .i64 (((p :: P).map reqA).length : Nat)), (113, .int .i64 i), (10, reqsS (p :: P)), (9, .ptr 9 0), (21, .ptr 21 0), (22, repsS T), (23, legsA ls)] ⟨e111, e112, e113, e10, e9, e21, e22, e23, trivial⟩, ← updL_has h3 [(9, staB s), (21, staB X)] ⟨b9, b21, trivial⟩]
            constructor
            · intro hb
              have hi' : i < (p :: P).length := by
                have : (i : Int) < (((p :: P).map reqA).length : Nat) := by simpa using hb
                first | (simp at this; omega) | (simp at this ⊢; omega)
              have w : IntKind.i64.wrap ((i : Int) + 1) = ((i + 1 : Nat) : Int) := by rw [wrap_of] <;> omega
              have hlt : (p :: P).length - (i + 1) < (p :: P).length - i := by omega
              obtain ⟨r, hx⟩ : ∃ x, (p :: P)[i]? = some x := ⟨_, List.getElem?_eq_getElem hi'⟩
              have hm := List.mem_of_getElem? hx
              have hdr := drop_at hx
              rw [hdr] at hT
              obtain ⟨z1, z2⟩ := bank_sz hz r ls
              have hB : (brunM s (r :: (p :: P).drop (i + 1)) ls) = ((brunM (bankM s r ls).1 ((p :: P).drop (i + 1)) (ls.drop (bankM s r ls).2.2)).1, (bankM s r ls).2.1 :: (brunM (bankM s r ls).1 ((p :: P).drop (i + 1)) (ls.drop (bankM s r ls).2.2)).2) := rfl
              rw [hB] at hT
              have hTe : T = T.take i ++ (bankM s r ls).2.1 :: (brunM (bankM s r ls).1 ((p :: P).drop (i + 1)) (ls.drop (bankM s r ls).2.2)).2 := congrArg Prod.snd hT
              have hiT : i < T.length := by rw [hTn]; exact hi'
              have hat : T[i]? = some (bankM s r ls).2.1 := by
                have e : T[i]? = (T.take i ++ (bankM s r ls).2.1 :: (brunM (bankM s r ls).1 ((p :: P).drop (i + 1)) (ls.drop (bankM s r ls).2.2)).2)[i]? := congrArg (fun l => l[i]?) hTe
                rw [List.getElem?_append_right (by rw [List.length_take]; omega), List.length_take, Nat.min_eq_left (by omega), Nat.sub_self] at e
                rw [e]; rfl
              have hT' : (X, T) = ((brunM (bankM s r ls).1 ((p :: P).drop (i + 1)) (ls.drop (bankM s r ls).2.2)).1, T.take (i + 1) ++ (brunM (bankM s r ls).1 ((p :: P).drop (i + 1)) (ls.drop (bankM s r ls).2.2)).2) := by
                rw [List.take_add_one, hat, List.append_assoc]; exact hT
              refine ⟨_, Int.natCast_nonneg i, map_of hx, ?_⟩
              refine ⟨rfl, s, r, ls, rfl, hz, hls, ?_⟩
              generalize bankM s r ls = o at hT' hat z1 z2 ⊢
              obtain ⟨x, q, n⟩ := o
              simp only at hT' hat z1 z2
              have n0 : (0 : Int) ≤ (n : Int) := by omega
              have n1 : ((n : Nat) : Int).toNat ≤ (ls.map AV.bool).length := by rw [List.length_map]; omega
              have n2 : (ls.map AV.bool).length ≤ (ls.map AV.bool).length := Nat.le_refl _
              have hcut : AV.sl .fz 4 (((ls.map AV.bool).take (ls.map AV.bool).length).drop ((n : Nat) : Int).toNat) = legsA (ls.drop n) := by
                rw [List.take_length, show ((n : Nat) : Int).toNat = n by omega, ← List.map_drop]
              have hld : (ls.drop n).length ≤ 4611686018427387904 := by rw [List.length_drop]; omega
              have hge : decide ((i : Int) ≥ ((T.map repV).length : Nat)) = false := by rw [List.length_map]; exact decide_eq_false (by omega)
              refine ⟨fun h => absurd (hge.symm.trans h) (by decide), fun _ => ?_⟩
              refine ⟨_, Int.natCast_nonneg i, map_of hat, ?_⟩
              have hne : (!((q.1 == q.1) && ((q.2 == q.2) && true))) = false := by simp
              refine ⟨fun h => absurd (hne.symm.trans h) (by decide), fun _ => ?_⟩
              refine ⟨?_, ?_⟩
              · exact ⟨n0, n1, n2, ⟨_, hlt, i + 1, x, ls.drop n, ⟨hi', z1, hld, hT'⟩, rfl, rfl, rfl, congrArg (AV.int .i64) w, rfl, rfl, rfl, rfl, hcut, rfl, rfl⟩⟩
              · exact ⟨n0, n1, n2, ⟨_, hlt, i + 1, x, ls.drop n, ⟨hi', z1, hld, hT'⟩, rfl, rfl, rfl, congrArg (AV.int .i64) w, rfl, rfl, rfl, rfl, hcut, rfl, rfl⟩⟩
            · intro hb
              have hi' : i = (p :: P).length := by
                have := decF hb
                rw [List.length_map] at this; omega
              subst hi'
              rw [List.drop_length] at hT
              have hxs : X = s := congrArg Prod.fst hT
              subst hxs
              refine ⟨rfl, X, X, rfl, hz.z, szk_k hz, fun _ => ?_, fun h => absurd (SameK.refl X) h⟩
              refine ⟨fun _ => ?_, fun h => Bool.noConfusion (show true = false from h)⟩
              have hfin : ((((T.map repV).length : Nat) : Int) == ((((p :: P).map reqA).length : Nat) : Int)) = true := by rw [List.length_map, List.length_map, hTn]; simp
              exact fin _ hfin
        · refine ⟨[staA s0, reqsS ((p :: P).take k), legsA []], ⟨.inl (.inl rfl), .inl (.inl hc1), .inl (.inr ⟨_, _, rfl, rfl⟩), trivial⟩, rfl, s0, (p :: P).take k, [], rfl, hz0, kl1, by decide, ?_⟩
          refine ⟨hk0, hkl, Nat.le_refl _, ?_⟩
          refine ⟨[staA (brunM s0 ((p :: P).take k) []).1, reqsS ((p :: P).drop k), legsA []], ⟨.inl (.inl rfl), .inl (.inl hc2), .inl (.inr ⟨_, _, rfl, rfl⟩), trivial⟩, rfl, (brunM s0 ((p :: P).take k) []).1, (p :: P).drop k, [], rfl, z1, kl2, by decide, ?_⟩
          generalize brunM (brunM s0 ((p :: P).take k) []).1 ((p :: P).drop k) [] = o2 at z2 l2 ⊢
          generalize brunM s0 ((p :: P).take k) [] = o1 at z1 l1 ⊢
          obtain ⟨x1, P1⟩ := o1
          obtain ⟨x2, P2⟩ := o2
          dsimp only at z1 z2 l1 l2 ⊢
          have b1 : (P1.map repV).length * 16 ≤ 140737488355328 := by rw [List.length_map]; omega
          have b2 : ((P1.map repV).length + (P2.map repV).length) * 16 ≤ 140737488355328 := by rw [List.length_map, List.length_map]; omega
          refine ⟨b1, ?_⟩
          refine ⟨b2, ?_⟩
          refine ⟨rfl, x2, x2, rfl, z2.z, szk_k z2, fun _ => ?_, fun h => absurd (SameK.refl x2) h⟩
          refine ⟨fun h => Bool.noConfusion (show false = true from h), fun _ => ?_⟩
          have hlen : (((((P1 ++ P2).map repV).length : Nat) : Int) != ((P1.map repV ++ P2.map repV).length : Nat)) = false := by simp
          refine ⟨fun h => absurd (hlen.symm.trans h) (by decide), fun _ => ?_⟩
          refine ⟨fun mm st => ∃ (i : Nat), (i ≤ (P1 ++ P2).length) ∧ (P1 ++ P2).length - i = mm ∧ st.t 89 = .int .i64 (((P1 ++ P2).map repV).length : Nat) ∧ st.t 90 = .int .i64 i ∧ st.t 14 = repsS (P1 ++ P2) ∧ st.t 19 = .sl (.own 74000) 40 (P1.map repV ++ P2.map repV) ∧ st.t 9 = .ptr 9 0 ∧ st.t 10 = reqsS (p :: P) ∧ st.t 2 = legsA legs ∧ st.h 9 = staB s0,
            ⟨_, 0, Nat.zero_le _, rfl, rfl, rfl, rfl, rfl, rfl, rfl, rfl, rfl⟩, ?_⟩
          rintro _ ⟨t2, h2⟩ ⟨i, hi, rfl, e89, e90, e14, e19, e9, e10, e2, b9⟩
          have e89 : t2 89 = .int .i64 (((P1 ++ P2).map repV).length : Nat) := e89
          have e90 : t2 90 = .int .i64 i := e90
          have e14 : t2 14 = repsS (P1 ++ P2) := e14
          have e19 : t2 19 = .sl (.own 74000) 40 (P1.map repV ++ P2.map repV) := e19
          have e9 : t2 9 = .ptr 9 0 := e9
          have e10 : t2 10 = reqsS (p :: P) := e10
          have e2 : t2 2 = legsA legs := e2
          have b9 : h2 9 = staB s0 := b9
          rw [← updL_has t2 [(89, .int .i64 (((P1 ++ P2).map repV).length : Nat)), (90, .int .i64 i), (14, repsS (P1 ++ P2)), (19, .sl (.own 74000) 40 (P1.map repV ++ P2.map repV)), (9, .ptr 9 0), (10, reqsS (p :: P)), (2, legsA legs)] ⟨e89, e90, e14, e19, e9, e10, e2, trivial⟩, ← updL_has h2 [(9, staB s0)] ⟨b9, trivial⟩]
          have hPP : (P1 ++ P2).length ≤ 4000000 := by rw [List.length_append]; omega
          constructor
          · intro hb
            have hi' : i < (P1 ++ P2).length := by
              have : (i : Int) < (((P1 ++ P2).map repV).length : Nat) := by simpa using hb
              first | (simp at this; omega) | (simp at this ⊢; omega)
            have w : IntKind.i64.wrap ((i : Int) + 1) = ((i + 1 : Nat) : Int) := by rw [wrap_of] <;> omega
            have hlt : (P1 ++ P2).length - (i + 1) < (P1 ++ P2).length - i := by omega
            obtain ⟨q, hx⟩ : ∃ x, (P1 ++ P2)[i]? = some x := ⟨_, List.getElem?_eq_getElem hi'⟩
            have hm := List.mem_of_getElem? hx
            have hdr := drop_at hx
            have hx' : (P1.map repV ++ P2.map repV)[((i : Nat) : Int).toNat]? = some (repV q) := by rw [← List.map_append]; exact map_of hx
            refine ⟨_, Int.natCast_nonneg i, map_of hx, ?_⟩
            refine ⟨_, Int.natCast_nonneg i, hx', ?_⟩
            have hne : (!((q.1 == q.1) && ((q.2 == q.2) && true))) = false := by simp
            refine ⟨fun h => absurd (hne.symm.trans h) (by decide), fun _ => ?_⟩
            exact ⟨_, hlt, i + 1, hi', rfl, rfl, congrArg (AV.int .i64) w, rfl, rfl, rfl, rfl, rfl, rfl⟩
          · intro _
            refine ⟨[staA s0, reqsS (p :: P), legsA legs], ⟨.inl (.inl rfl), .inl (.inl rfl), .inl (.inl rfl), trivial⟩, rfl, s0, p :: P, legs, rfl, hz0, (by simp at hPl ⊢; omega), hll, ?_⟩
            have hTn := brun_len (rs := p :: P) (s := s0) (legs := legs)
            have hT0 : brunM s0 (p :: P) legs = ((brunM s0 ((p :: P).drop 0) legs).1, List.take 0 (brunM s0 (p :: P) legs).2 ++ (brunM s0 ((p :: P).drop 0) legs).2) := rfl
            generalize brunM s0 (p :: P) legs = TT at hTn hT0 ⊢
            obtain ⟨X, T⟩ := TT
            dsimp only at hTn hT0 ⊢
            refine ⟨fun mm st => ∃ (i : Nat) (s : Sta) (ls : List Bool), (i ≤ (p :: P).length ∧ SzK s ∧ ls.length ≤ 4611686018427387904 ∧ (X, T) = ((brunM s ((p :: P).drop i) ls).1, T.take i ++ (brunM s ((p :: P).drop i) ls).2)) ∧ (p :: P).length - i = mm ∧ st.t 111 = reqsS (p :: P) ∧ st.t 112 = .int .i64 (((p :: P).map reqA).length : Nat) ∧ st.t 113 = .int .i64 i ∧ st.t 10 = reqsS (p :: P) ∧ st.t 9 = .ptr 9 0 ∧ st.t 21 = .ptr 21 0 ∧ st.t 22 = repsS T ∧ st.t 23 = legsA ls ∧ st.h 9 = staB s ∧ st.h 21 = staB X,
              ⟨_, 0, s0, legs, ⟨Nat.zero_le _, hz0, hll, hT0⟩, rfl, rfl, rfl, rfl, rfl, rfl, rfl, rfl, rfl, rfl, rfl⟩, ?_⟩
            rintro _ ⟨t3, h3⟩ ⟨i, s, ls, ⟨hi, hz, hls, hT⟩, rfl, e111, e112, e113, e10, e9, e21, e22, e23, b9, b21⟩
            have e111 : t3 111 = reqsS (p :: P) := e111
            have e112 : t3 112 = .int .i64 (((p :: P).map reqA).length : Nat) := e112
            have e113 : t3 113 = .int .i64 i := e113
            have e10 : t3 10 = reqsS (p :: P) := e10
            have e9 : t3 9 = .ptr 9 0 := e9
            have e21 : t3 21 = .ptr 21 0 := e21
            have e22 : t3 22 = repsS T := e22
            have e23 : t3 23 = legsA ls := e23
            have b9 : h3 9 = staB s := b9
            have b21 : h3 21 = staB X := b21
            rw [← updL_has t3 [(111, reqsS (p :: P)), (112, .int .i64 (((p :: P).map reqA).length : Nat)), (113, .int .i64 i), (10, reqsS (p :: P)), (9, .ptr 9 0), (21, .ptr 21 0), (22, repsS T), (23, legsA ls)] ⟨e111, e112, e113, e10, e9, e21, e22, e23, trivial⟩, ← updL_has h3 [(9, staB s), (21, staB X)] ⟨b9, b21, trivial⟩]
            constructor
            · intro hb
              have hi' : i < (p :: P).length := by
                have : (i : Int) < (((p :: P).map reqA).length : Nat) := by simpa using hb
                first | (simp at this; omega) | (simp at this ⊢; omega)
              have w : IntKind.i64.wrap ((i : Int) + 1) = ((i + 1 : Nat) : Int) := by rw [wrap_of] <;> omega
              have hlt : (p :: P).length - (i + 1) < (p :: P).length - i := by omega
              obtain ⟨r, hx⟩ : ∃ x, (p :: P)[i]? = some x := ⟨_, List.getElem?_eq_getElem hi'⟩
              have hm := List.mem_of_getElem? hx
              have hdr := drop_at hx
              rw [hdr] at hT
              obtain ⟨z1, z2⟩ := bank_sz hz r ls
              have hB : (brunM s (r :: (p :: P).drop (i + 1)) ls) = ((brunM (bankM s r ls).1 ((p :: P).drop (i + 1)) (ls.drop (bankM s r ls).2.2)).1, (bankM s r ls).2.1 :: (brunM (bankM s r ls).1 ((p :: P).drop (i + 1)) (ls.drop (bankM s r ls).2.2)).2) := rfl
              rw [hB] at hT
              have hTe : T = T.take i ++ (bankM s r ls).2.1 :: (brunM (bankM s r ls).1 ((p :: P).drop (i + 1)) (ls.drop (bankM s r ls).2.2)).2 := congrArg Prod.snd hT
              have hiT : i < T.length := by rw [hTn]; exact hi'
              have hat : T[i]? = some (bankM s r ls).2.1 := by
                have e : T[i]? = (T.take i ++ (bankM s r ls).2.1 :: (brunM (bankM s r ls).1 ((p :: P).drop (i + 1)) (ls.drop (bankM s r ls).2.2)).2)[i]? := congrArg (fun l => l[i]?) hTe
                rw [List.getElem?_append_right (by rw [List.length_take]; omega), List.length_take, Nat.min_eq_left (by omega), Nat.sub_self] at e
                rw [e]; rfl
              have hT' : (X, T) = ((brunM (bankM s r ls).1 ((p :: P).drop (i + 1)) (ls.drop (bankM s r ls).2.2)).1, T.take (i + 1) ++ (brunM (bankM s r ls).1 ((p :: P).drop (i + 1)) (ls.drop (bankM s r ls).2.2)).2) := by
                rw [List.take_add_one, hat, List.append_assoc]; exact hT
              refine ⟨_, Int.natCast_nonneg i, map_of hx, ?_⟩
              refine ⟨rfl, s, r, ls, rfl, hz, hls, ?_⟩
              generalize bankM s r ls = o at hT' hat z1 z2 ⊢
              obtain ⟨x, q, n⟩ := o
              simp only at hT' hat z1 z2
              have n0 : (0 : Int) ≤ (n : Int) := by omega
              have n1 : ((n : Nat) : Int).toNat ≤ (ls.map AV.bool).length := by rw [List.length_map]; omega
              have n2 : (ls.map AV.bool).length ≤ (ls.map AV.bool).length := Nat.le_refl _
              have hcut : AV.sl .fz 4 (((ls.map AV.bool).take (ls.map AV.bool).length).drop ((n : Nat) : Int).toNat) = legsA (ls.drop n) := by
                rw [List.take_length, show ((n : Nat) : Int).toNat = n by omega, ← List.map_drop]
              have hld : (ls.drop n).length ≤ 4611686018427387904 := by rw [List.length_drop]; omega
              have hge : decide ((i : Int) ≥ ((T.map repV).length : Nat)) = false := by rw [List.length_map]; exact decide_eq_false (by omega)
              refine ⟨fun h => absurd (hge.symm.trans h) (by decide), fun _ => ?_⟩
              refine ⟨_, Int.natCast_nonneg i, map_of hat, ?_⟩
              have hne : (!((q.1 == q.1) && ((q.2 == q.2) && true))) = false := by simp
              refine ⟨fun h => absurd (hne.symm.trans h) (by decide), fun _ => ?_⟩
              refine ⟨?_, ?_⟩
              · exact ⟨n0, n1, n2, ⟨_, hlt, i + 1, x, ls.drop n, ⟨hi', z1, hld, hT'⟩, rfl, rfl, rfl, congrArg (AV.int .i64) w, rfl, rfl, rfl, rfl, hcut, rfl, rfl⟩⟩
              · exact ⟨n0, n1, n2, ⟨_, hlt, i + 1, x, ls.drop n, ⟨hi', z1, hld, hT'⟩, rfl, rfl, rfl, congrArg (AV.int .i64) w, rfl, rfl, rfl, rfl, hcut, rfl, rfl⟩⟩
            · intro hb
              have hi' : i = (p :: P).length := by
                have := decF hb
                rw [List.length_map] at this; omega
              subst hi'
              rw [List.drop_length] at hT
              have hxs : X = s := congrArg Prod.fst hT
              subst hxs
              refine ⟨rfl, X, X, rfl, hz.z, szk_k hz, fun _ => ?_, fun h => absurd (SameK.refl X) h⟩
              refine ⟨fun _ => ?_, fun h => Bool.noConfusion (show true = false from h)⟩
              have hfin : ((((T.map repV).length : Nat) : Int) == ((((p :: P).map reqA).length : Nat) : Int)) = true := by rw [List.length_map, List.length_map, hTn]; simp
              exact fin _ hfin
      · refine ⟨hk0, Nat.zero_le _, hkl, ?_⟩
        refine ⟨[staA s0, reqsS ((p :: P).take k), legsA []], ⟨.inl (.inl rfl), .inl (.inl hc1), .inl (.inr ⟨_, _, rfl, rfl⟩), trivial⟩, rfl, s0, (p :: P).take k, [], rfl, hz0, kl1, by decide, ?_⟩
        refine ⟨hk0, hkl, Nat.le_refl _, ?_⟩
        refine ⟨[staA (brunM s0 ((p :: P).take k) []).1, reqsS ((p :: P).drop k), legsA []], ⟨.inl (.inl rfl), .inl (.inl hc2), .inl (.inr ⟨_, _, rfl, rfl⟩), trivial⟩, rfl, (brunM s0 ((p :: P).take k) []).1, (p :: P).drop k, [], rfl, z1, kl2, by decide, ?_⟩
        generalize brunM (brunM s0 ((p :: P).take k) []).1 ((p :: P).drop k) [] = o2 at z2 l2 ⊢
        generalize brunM s0 ((p :: P).take k) [] = o1 at z1 l1 ⊢
        obtain ⟨x1, P1⟩ := o1
        obtain ⟨x2, P2⟩ := o2
        dsimp only at z1 z2 l1 l2 ⊢
        have b1 : (P1.map repV).length * 16 ≤ 140737488355328 := by rw [List.length_map]; omega
        have b2 : ((P1.map repV).length + (P2.map repV).length) * 16 ≤ 140737488355328 := by rw [List.length_map, List.length_map]; omega
        refine ⟨b1, ?_⟩
        refine ⟨b2, ?_⟩
        refine ⟨rfl, x2, x2, rfl, z2.z, szk_k z2, fun _ => ?_, fun h => absurd (SameK.refl x2) h⟩
        refine ⟨fun h => Bool.noConfusion (show false = true from h), fun _ => ?_⟩
        have hlen : (((((P1 ++ P2).map repV).length : Nat) : Int) != ((P1.map repV ++ P2.map repV).length : Nat)) = false := by simp
        refine ⟨fun h => absurd (hlen.symm.trans h) (by decide), fun _ => ?_⟩
        refine ⟨fun mm st => ∃ (i : Nat), (i ≤ (P1 ++ P2).length) ∧ (P1 ++ P2).length - i = mm ∧ st.t 89 = .int .i64 (((P1 ++ P2).map repV).length : Nat) ∧ st.t 90 = .int .i64 i ∧ st.t 14 = repsS (P1 ++ P2) ∧ st.t 19 = .sl (.own 74000) 40 (P1.map repV ++ P2.map repV) ∧ st.t 9 = .ptr 9 0 ∧ st.t 10 = reqsS (p :: P) ∧ st.t 2 = legsA legs ∧ st.h 9 = staB s0,
          ⟨_, 0, Nat.zero_le _, rfl, rfl, rfl, rfl, rfl, rfl, rfl, rfl, rfl⟩, ?_⟩
        rintro _ ⟨t2, h2⟩ ⟨i, hi, rfl, e89, e90, e14, e19, e9, e10, e2, b9⟩
        have e89 : t2 89 = .int .i64 (((P1 ++ P2).map repV).length : Nat) := e89
        have e90 : t2 90 = .int .i64 i := e90
        have e14 : t2 14 = repsS (P1 ++ P2) := e14
        have e19 : t2 19 = .sl (.own 74000) 40 (P1.map repV ++ P2.map repV) := e19
        have e9 : t2 9 = .ptr 9 0 := e9
        have e10 : t2 10 = reqsS (p :: P) := e10
        have e2 : t2 2 = legsA legs := e2
        have b9 : h2 9 = staB s0 := b9
        rw [← updL_has t2 [(89, .int .i64 (((P1 ++ P2).map repV).length : Nat)), (90, .int .i64 i), (14, repsS (P1 ++ P2)), (19, .sl (.own 74000) 40 (P1.map repV ++ P2.map repV)), (9, .ptr 9 0), (10, reqsS (p :: P)), (2, legsA legs)] ⟨e89, e90, e14, e19, e9, e10, e2, trivial⟩, ← updL_has h2 [(9, staB s0)] ⟨b9, trivial⟩]
        have hPP : (P1 ++ P2).length ≤ 4000000 := by rw [List.length_append]; omega
        constructor
        · intro hb
          have hi' : i < (P1 ++ P2).length := by
            have : (i : Int) < (((P1 ++ P2).map repV).length : Nat) := by simpa using hb
            first | (simp at this; omega) | (simp at this ⊢; omega)
          have w : IntKind.i64.wrap ((i : Int) + 1) = ((i + 1 : Nat) : Int) := by rw [wrap_of] <;> omega
          have hlt : (P1 ++ P2).length - (i + 1) < (P1 ++ P2).length - i := by omega
          obtain ⟨q, hx⟩ : ∃ x, (P1 ++ P2)[i]? = some x := ⟨_, List.getElem?_eq_getElem hi'⟩
          have hm := List.mem_of_getElem? hx
          have hdr := drop_at hx
          have hx' : (P1.map repV ++ P2.map repV)[((i : Nat) : Int).toNat]? = some (repV q) := by rw [← List.map_append]; exact map_of hx
          refine ⟨_, Int.natCast_nonneg i, map_of hx, ?_⟩
          refine ⟨_, Int.natCast_nonneg i, hx', ?_⟩
          have hne : (!((q.1 == q.1) && ((q.2 == q.2) && true))) = false := by simp
          refine ⟨fun h => absurd (hne.symm.trans h) (by decide), fun _ => ?_⟩
          exact ⟨_, hlt, i + 1, hi', rfl, rfl, congrArg (AV.int .i64) w, rfl, rfl, rfl, rfl, rfl, rfl⟩
        · intro _
          refine ⟨[staA s0, reqsS (p :: P), legsA legs], ⟨.inl (.inl rfl), .inl (.inl rfl), .inl (.inl rfl), trivial⟩, rfl, s0, p :: P, legs, rfl, hz0, (by simp at hPl ⊢; omega), hll, ?_⟩
          have hTn := brun_len (rs := p :: P) (s := s0) (legs := legs)
          have hT0 : brunM s0 (p :: P) legs = ((brunM s0 ((p :: P).drop 0) legs).1, List.take 0 (brunM s0 (p :: P) legs).2 ++ (brunM s0 ((p :: P).drop 0) legs).2) := rfl
          generalize brunM s0 (p :: P) legs = TT at hTn hT0 ⊢
          obtain ⟨X, T⟩ := TT
          dsimp only at hTn hT0 ⊢
          refine ⟨fun mm st => ∃ (i : Nat) (s : Sta) (ls : List Bool), (i ≤ (p :: P).length ∧ SzK s ∧ ls.length ≤ 4611686018427387904 ∧ (X, T) = ((brunM s ((p :: P).drop i) ls).1, T.take i ++ (brunM s ((p :: P).drop i) ls).2)) ∧ (p :: P).length - i = mm ∧ st.t 111 = reqsS (p :: P) ∧ st.t 112 = .int .i64 (((p :: P).map reqA).length : Nat) ∧ st.t 113 = .int .i64 i ∧ st.t 10 = reqsS (p :: P) ∧ st.t 9 = .ptr 9 0 ∧ st.t 21 = .ptr 21 0 ∧ st.t 22 = repsS T ∧ st.t 23 = legsA ls ∧ st.h 9 = staB s ∧ st.h 21 = staB X,
            ⟨_, 0, s0, legs, ⟨Nat.zero_le _, hz0, hll, hT0⟩, rfl, rfl, rfl, rfl, rfl, rfl, rfl, rfl, rfl, rfl, rfl⟩, ?_⟩
          rintro _ ⟨t3, h3⟩ ⟨i, s, ls, ⟨hi, hz, hls, hT⟩, rfl, e111, e112, e113, e10, e9, e21, e22, e23, b9, b21⟩
          have e111 : t3 111 = reqsS (p :: P) := e111
          have e112 : t3 112 = .int .i64 (((p :: P).map reqA).length : Nat) := e112
          have e113 : t3 113 = .int .i64 i := e113
          have e10 : t3 10 = reqsS (p :: P) := e10
          have e9 : t3 9 = .ptr 9 0 := e9
          have e21 : t3 21 = .ptr 21 0 := e21
          have e22 : t3 22 = repsS T := e22
          have e23 : t3 23 = legsA ls := e23
          have b9 : h3 9 = staB s := b9
          have b21 : h3 21 = staB X := b21
          rw [← updL_has t3 [(111, reqsS (p :: P)), (112, .int .i64 (((p :: P).map reqA).length : Nat)), (113, .int .i64 i), (10, reqsS (p :: P)), (9, .ptr 9 0), (21, .ptr 21 0), (22, repsS T), (23, legsA ls)] ⟨e111, e112, e113, e10, e9, e21, e22, e23, trivial⟩, ← updL_has h3 [(9, staB s), (21, staB X)] ⟨b9, b21, trivial⟩]
          constructor
          · intro hb
            have hi' : i < (p :: P).length := by
              have : (i : Int) < (((p :: P).map reqA).length : Nat) := by simpa using hb
              first | (simp at this; omega) | (simp at this ⊢; omega)
            have w : IntKind.i64.wrap ((i : Int) + 1) = ((i + 1 : Nat) : Int) := by rw [wrap_of] <;> omega
            have hlt : (p :: P).length - (i + 1) < (p :: P).length - i := by omega
            obtain ⟨r, hx⟩ : ∃ x, (p :: P)[i]? = some x := ⟨_, List.getElem?_eq_getElem hi'⟩
            have hm := List.mem_of_getElem? hx
            have hdr := drop_at hx
            rw [hdr] at hT
            obtain ⟨z1, z2⟩ := bank_sz hz r ls
            have hB : (brunM s (r :: (p :: P).drop (i + 1)) ls) = ((brunM (bankM s r ls).1 ((p :: P).drop (i + 1)) (ls.drop (bankM s r ls).2.2)).1, (bankM s r ls).2.1 :: (brunM (bankM s r ls).1 ((p :: P).drop (i + 1)) (ls.drop (bankM s r ls).2.2)).2) := rfl
            rw [hB] at hT
            have hTe : T = T.take i ++ (bankM s r ls).2.1 :: (brunM (bankM s r ls).1 ((p :: P).drop (i + 1)) (ls.drop (bankM s r ls).2.2)).2 := congrArg Prod.snd hT
            have hiT : i < T.length := by rw [hTn]; exact hi'
            have hat : T[i]? = some (bankM s r ls).2.1 := by
              have e : T[i]? = (T.take i ++ (bankM s r ls).2.1 :: (brunM (bankM s r ls).1 ((p :: P).drop (i + 1)) (ls.drop (bankM s r ls).2.2)).2)[i]? := congrArg (fun l => l[i]?) hTe
              rw [List.getElem?_append_right (by rw [List.length_take]; omega), List.length_take, Nat.min_eq_left (by omega), Nat.sub_self] at e
              rw [e]; rfl
            have hT' : (X, T) = ((brunM (bankM s r ls).1 ((p :: P).drop (i + 1)) (ls.drop (bankM s r ls).2.2)).1, T.take (i + 1) ++ (brunM (bankM s r ls).1 ((p :: P).drop (i + 1)) (ls.drop (bankM s r ls).2.2)).2) := by
              rw [List.take_add_one, hat, List.append_assoc]; exact hT
            refine ⟨_, Int.natCast_nonneg i, map_of hx, ?_⟩
            refine ⟨rfl, s, r, ls, rfl, hz, hls, ?_⟩
            generalize bankM s r ls = o at hT' hat z1 z2 ⊢
            obtain ⟨x, q, n⟩ := o
            simp only at hT' hat z1 z2
            have n0 : (0 : Int) ≤ (n : Int) := by omega
            have n1 : ((n : Nat) : Int).toNat ≤ (ls.map AV.bool).length := by rw [List.length_map]; omega
            have n2 : (ls.map AV.bool).length ≤ (ls.map AV.bool).length := Nat.le_refl _
            have hcut : AV.sl .fz 4 (((ls.map AV.bool).take (ls.map AV.bool).length).drop ((n : Nat) : Int).toNat) = legsA (ls.drop n) := by
              rw [List.take_length, show ((n : Nat) : Int).toNat = n by omega, ← List.map_drop]
            have hld : (ls.drop n).length ≤ 4611686018427387904 := by rw [List.length_drop]; omega
            have hge : decide ((i : Int) ≥ ((T.map repV).length : Nat)) = false := by rw [List.length_map]; exact decide_eq_false (by omega)
            refine ⟨fun h => absurd (hge.symm.trans h) (by decide), fun _ => ?_⟩
            refine ⟨_, Int.natCast_nonneg i, map_of hat, ?_⟩
            have hne : (!((q.1 == q.1) && ((q.2 == q.2) && true))) = false := by simp
            refine ⟨fun h => absurd (hne.symm.trans h) (by decide), fun _ => ?_⟩
            refine ⟨?_, ?_⟩
            · exact ⟨n0, n1, n2, ⟨_, hlt, i + 1, x, ls.drop n, ⟨hi', z1, hld, hT'⟩, rfl, rfl, rfl, congrArg (AV.int .i64) w, rfl, rfl, rfl, rfl, hcut, rfl, rfl⟩⟩
            · exact ⟨n0, n1, n2, ⟨_, hlt, i + 1, x, ls.drop n, ⟨hi', z1, hld, hT'⟩, rfl, rfl, rfl, congrArg (AV.int .i64) w, rfl, rfl, rfl, rfl, hcut, rfl, rfl⟩⟩
          · intro hb
            have hi' : i = (p :: P).length := by
              have := decF hb
              rw [List.length_map] at this; omega
            subst hi'
            rw [List.drop_length] at hT
            have hxs : X = s := congrArg Prod.fst hT
            subst hxs
            refine ⟨rfl, X, X, rfl, hz.z, szk_k hz, fun _ => ?_, fun h => absurd (SameK.refl X) h⟩
            refine ⟨fun _ => ?_, fun h => Bool.noConfusion (show true = false from h)⟩
            have hfin : ((((T.map repV).length : Nat) : Int) == ((((p :: P).map reqA).length : Nat) : Int)) = true := by rw [List.length_map, List.length_map, hTn]; simp
            exact fin _ hfin
end Go.Proofs.YtkeafcjdejmohaaDoor.A
