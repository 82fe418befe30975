/- bank: Do, Run. -/
import Derived.Test.YtkeafcjdejmohaaDoorM24
import Derived.Test.YtkeafcjdejmohaaDoorGY
namespace Go.Proofs.YtkeafcjdejmohaaDoor.A
open Go Q
def bankOut (s : Sta) (r : Req) (legs : List Bool) : Sta × Rep × Nat := if longB r = true then wholeM s r legs else ((doM s r).1, (doM s r).2, 0)
def bankM (s : Sta) (r : Req) (legs : List Bool) : Sta × Rep × Nat :=
  if mayR r = false then (s, (1, 0), 0) else if (askM s.kns r).2 = true then (s, (askM s.kns r).1, 0) else match putKM s.kns r with
  | .error e => (s, (e, 0), 0)
  | .ok _ => (withK (bankOut s r legs).1 (s.kns ++ [⟨r, (bankOut s r legs).2.1.1, (bankOut s r legs).2.1.2, true⟩]), (bankOut s r legs).2.1, (bankOut s r legs).2.2)
theorem whole_sz {s : Sta} (h : SzK s) (r : Req) (legs : List Bool) : (wholeM s r legs).1.accs.length ≤ 64 ∧ (wholeM s r legs).1.pays.length ≤ 1999900 ∧ (wholeM s r legs).2.2 ≤ legs.length := by
  have hl := h.la
  have hp := h.lp
  unfold wholeM
  split
  · exact ⟨hl, hp, Nat.zero_le _⟩
  · rename_i t hR
    obtain ⟨r1, r2, -⟩ := reserve_len hR
    obtain ⟨u1, u2, -⟩ := undo_len t r
    split
    · split
      · rename_i u hS
        obtain ⟨s1, s2, -⟩ := settle_len hS
        exact ⟨by show u.accs.length ≤ 64; omega, by show u.pays.length ≤ _; rw [s2, r2]; exact hp, Nat.min_le_right ..⟩
      · exact ⟨by show (undoD t r).accs.length ≤ 64; omega, by show (undoD t r).pays.length ≤ _; rw [u2, r2]; exact hp, Nat.min_le_right ..⟩
    · exact ⟨by show (undoD t r).accs.length ≤ 64; omega, by show (undoD t r).pays.length ≤ _; rw [u2, r2]; exact hp, Nat.min_le_right ..⟩
theorem out_sz {s : Sta} (h : SzK s) (r : Req) (legs : List Bool) : (bankOut s r legs).1.accs.length ≤ 64 ∧ (bankOut s r legs).1.pays.length ≤ 1999900 ∧ (bankOut s r legs).2.2 ≤ legs.length := by
  unfold bankOut
  split
  · exact whole_sz h r legs
  · exact ⟨(doM_step s r).la64 h.la, doM_lp s r h.lp (by decide), Nat.zero_le _⟩
theorem bank_sz {s : Sta} (h : SzK s) (r : Req) (legs : List Bool) : SzK (bankM s r legs).1 ∧ (bankM s r legs).2.2 ≤ legs.length := by
  unfold bankM
  split
  · exact ⟨h, Nat.zero_le _⟩
  split
  · exact ⟨h, Nat.zero_le _⟩
  split
  · exact ⟨h, Nat.zero_le _⟩
  · rename_i l hp
    obtain ⟨-, hk, -⟩ := put_ok hp
    obtain ⟨o1, o2, o3⟩ := out_sz h r legs
    exact ⟨⟨o1, o2, by show (s.kns ++ [_]).length ≤ 256; simp; omega⟩, o3⟩
def bankC (args : List AV) (bs : List Box) (K : AV → List Box → Prop) : Prop := bs = [] ∧ ∃ (s : Sta) (r : Req) (legs : List Bool), args = [staA s, reqA r, legsA legs] ∧ SzK s ∧ legs.length ≤ 4611686018427387904 ∧
  K (.tup [staA (bankM s r legs).1, repA (bankM s r legs).2.1.1 (bankM s r legs).2.1.2, .int .i64 ((bankM s r legs).2.2 : Nat)]) []
def RBd : Contract
  | 26 => mayRC
  | 27 => askKC
  | 46 => putKC
  | 47 => numberC
  | 48 => longC
  | 49 => wholeC
  | 13 => doC
  | 50 => tellC
  | _ => fun _ _ _ => False
theorem RBd_ok : CallOk Tryd.prog tab RBd := by
  intro f args bs K h
  unfold RBd at h
  split at h
  · exact ⟨_, h, mayR_ok⟩
  · exact ⟨_, h, askK_ok⟩
  · exact ⟨_, h, putK_ok⟩
  · exact ⟨_, h, number_ok⟩
  · exact ⟨_, h, long_ok⟩
  · exact ⟨_, h, whole_ok⟩
  · exact ⟨_, h, do_ok⟩
  · exact ⟨_, h, tell_ok⟩
  · exact h.elim
def RBd_E (pl : Nat → Plan) : En := ⟨tab, RBd, fun _ => none, 0, pl⟩
theorem RBd_J (pl : Nat → Plan) : JOk Tryd.prog (RBd_E pl).T (RBd_E pl).J := fun _ _ h => by cases h
set_option maxRecDepth 200000 in
set_option maxHeartbeats 12800000 in
theorem bank_ok : FnOk Tryd.prog tab 24 bankC := by
  refine fn_ok (E := RBd_E pl24) tab_is RBd_ok (RBd_J _) Tryd.func24 rfl rfl (by kernel_rfl) ?_
  rintro args bs K ⟨rfl, s, r, legs, rfl, hz, hll, hK⟩
  refine ⟨rfl, ?_⟩
  have hzz := hz.z
  have hlk := hz.lk
  unfold bankM at hK
  refine ⟨rfl, r, rfl, ?_⟩
  cases hm : mayR r with
  | false =>
    rw [if_pos hm] at hK
    refine ⟨fun _ => ?_, fun h => Bool.noConfusion (show true = false from h)⟩
    exact hK
  | true =>
    rw [if_neg (by simp [hm])] at hK
    have hmay := mayR_of hm
    refine ⟨fun h => Bool.noConfusion (show false = true from h), fun _ => ?_⟩
    refine ⟨rfl, s.kns, r, rfl, by omega, ?_⟩
    cases ha : (askM s.kns r).2 with
    | true =>
      rw [if_pos ha] at hK
      refine ⟨fun _ => ?_, fun h => Bool.noConfusion (show true = false from h)⟩
      repeat' first
        | exact hK
        | (refine And.intro ?_ ?_)
        | fail
    | false =>
      rw [if_neg (by simp [ha])] at hK
      refine ⟨fun h => Bool.noConfusion (show false = true from h), fun _ => ?_⟩
      refine ⟨rfl, s.kns, r, rfl, by omega, fun ks hp => ?_, fun e hp => ?_⟩
      · simp only [hp] at hK
        have hks : ks.length ≤ 256 := by
          obtain ⟨rfl, h1, -⟩ := put_ok hp
          simp; omega
        refine ⟨fun h => Bool.noConfusion (show false = true from h), fun _ => ?_⟩
        refine ⟨rfl, r, rfl, ?_⟩
        unfold bankOut at hK
        cases hl : longB r with
        | true =>
          rw [if_pos hl] at hK
          refine ⟨fun _ => ?_, fun h => Bool.noConfusion (show true = false from h)⟩
          refine ⟨rfl, s, r, legs, rfl, hzz, hmay.2.1, hll, ?_⟩
          refine ⟨rfl, ks, r.key, _, _, rfl, by omega, fun l ht => ?_, fun x ht => ?_⟩
          · obtain rfl : s.kns ++ [⟨r, _, _, true⟩] = l := Except.ok.inj ((tell_put hp _ _).symm.trans ht)
            repeat' first
              | exact hK
              | (refine And.intro ?_ ?_)
              | fail
          · rw [tell_put hp] at ht; cases ht
        | false =>
          rw [if_neg (by simp [hl])] at hK
          refine ⟨fun h => Bool.noConfusion (show false = true from h), fun _ => ?_⟩
          refine ⟨rfl, s, r, rfl, hzz, ?_⟩
          refine ⟨rfl, ks, r.key, _, _, rfl, by omega, fun l ht => ?_, fun x ht => ?_⟩
          · obtain rfl : s.kns ++ [⟨r, _, _, true⟩] = l := Except.ok.inj ((tell_put hp _ _).symm.trans ht)
            repeat' first
              | exact hK
              | (refine And.intro ?_ ?_)
              | fail
          · rw [tell_put hp] at ht; cases ht
      · simp only [hp] at hK
        refine ⟨fun _ => ?_, fun h => Bool.noConfusion (show true = false from h)⟩
        repeat' first
          | exact ⟨rfl, .inr ⟨e, rfl, hK⟩⟩
          | (refine And.intro ?_ ?_)
          | fail
theorem bank_ok2 : FnOk Tryd.prog tab 24 (nilC bankC) := bank_ok.nil
/-! ### one behind the other -/
def brunM : Sta → List Req → List Bool → Sta × List Rep
  | s, [], _ => (s, [])
  | s, r :: rs, legs => ((brunM (bankM s r legs).1 rs (legs.drop (bankM s r legs).2.2)).1, (bankM s r legs).2.1 :: (brunM (bankM s r legs).1 rs (legs.drop (bankM s r legs).2.2)).2)
def repV (o : Rep) : AV := repA o.1 o.2
abbrev repsO (F : Nat) : List Rep → AV
  | [] => .sl .nl 0 []
  | o :: l => .sl (.own F) 40 (repV o :: l.map repV)
abbrev reqsS (l : List Req) : AV := .sl .fz 29 (l.map reqA)
def brunC0 (args : List AV) (bs : List Box) (K : AV → List Box → Prop) : Prop := bs = [] ∧ ∃ (s : Sta) (rs : List Req) (legs : List Bool), args = [staA s, reqsS rs, legsA legs] ∧ SzK s ∧ rs.length ≤ 1000000000000 ∧ legs.length ≤ 4611686018427387904 ∧
  K (.tup [staA (brunM s rs legs).1, repsO 35000 (brunM s rs legs).2]) []
theorem reps_snoc (F : Nat) (l : List Rep) (x : Rep) : AV.sl (.own F) 40 (l.map repV ++ [repV x]) = repsO F (l ++ [x]) := by
  cases l <;> simp [repsO]
def RBr : Contract
  | 24 => bankC
  | _ => fun _ _ _ => False
theorem RBr_ok : CallOk Tryd.prog tab RBr := by
  intro f args bs K h
  unfold RBr at h
  split at h
  · exact ⟨_, h, bank_ok⟩
  · exact h.elim
def RBr_E (pl : Nat → Plan) : En := ⟨tab, RBr, fun _ => none, 0, pl⟩
theorem RBr_J (pl : Nat → Plan) : JOk Tryd.prog (RBr_E pl).T (RBr_E pl).J := fun _ _ h => by cases h
set_option maxRecDepth 200000 in
set_option maxHeartbeats 12800000 in
theorem brun_ok0 : FnOk Tryd.prog tab 28 brunC0 := by
  refine fn_ok (E := RBr_E pl28) tab_is RBr_ok (RBr_J _) Tryd.func28 rfl rfl (by kernel_rfl) ?_
  rintro args bs K ⟨rfl, s0, rs, legs, rfl, hz, hrl, hll, hK⟩
  refine ⟨rfl, ?_⟩
  refine ⟨fun mm st => ∃ (i : Nat) (s : Sta) (ls : List Bool) (P : List Rep), (i ≤ rs.length ∧ SzK s ∧ ls.length ≤ 4611686018427387904 ∧ P.length ≤ i ∧ brunM s0 rs legs = ((brunM s (rs.drop i) ls).1, P ++ (brunM s (rs.drop i) ls).2)) ∧ rs.length - i = mm ∧ st.t 14 = reqsS rs ∧ st.t 15 = .int .i64 ((rs.map reqA).length : Nat) ∧ st.t 16 = .int .i64 i ∧ st.t 3 = .ptr 3 0 ∧ st.t 2 = legsA ls ∧ st.t 8 = repsO 35000 P ∧ st.t 6 = .ptr 6 0 ∧ st.h 3 = staB s ∧ st.h 6 = some (.cells 36 [.sl .nl 0 [], .sl .nl 0 [], .sl .nl 0 [], .sl .nl 0 [], .int .i64 0]),
    ⟨_, 0, s0, legs, [], ⟨Nat.zero_le _, hz, hll, Nat.le_refl _, rfl⟩, rfl, rfl, rfl, rfl, rfl, rfl, rfl, rfl, rfl, rfl⟩, ?_⟩
  rintro _ ⟨t1, h1⟩ ⟨i, s, ls, P, ⟨hi, hz, hls, hPl, hT⟩, rfl, e14, e15, e16, e3, e2, e8, e6, b3, b6⟩
  have e14 : t1 14 = reqsS rs := e14
  have e15 : t1 15 = .int .i64 ((rs.map reqA).length : Nat) := e15
  have e16 : t1 16 = .int .i64 i := e16
  have e3 : t1 3 = .ptr 3 0 := e3
  have e2 : t1 2 = legsA ls := e2
  have e8 : t1 8 = repsO 35000 P := e8
  have e6 : t1 6 = .ptr 6 0 := e6
  have b3 : h1 3 = staB s := b3
  have b6 : h1 6 = some (.cells 36 [.sl .nl 0 [], .sl .nl 0 [], .sl .nl 0 [], .sl .nl 0 [], .int .i64 0]) := b6
  rw [← updL_has t1 [(14, reqsS rs), (15, .int .i64 ((rs.map reqA).length : Nat)), (16, .int .i64 i), (3, .ptr 3 0), (2, legsA ls), (8, repsO 35000 P), (6, .ptr 6 0)] ⟨e14, e15, e16, e3, e2, e8, e6, trivial⟩, ← updL_has h1 [(3, staB s), (6, some (.cells 36 [.sl .nl 0 [], .sl .nl 0 [], .sl .nl 0 [], .sl .nl 0 [], .int .i64 0]))] ⟨b3, b6, trivial⟩]
  cases P with
  | nil =>
    have bd : 1 * 16 ≤ 140737488355328 := by decide
    constructor
    · intro hb
      have hi' : i < rs.length := by
        have : (i : Int) < ((rs.map reqA).length : Nat) := by simpa using hb
        simp at this; omega
      have w : IntKind.i64.wrap ((i : Int) + 1) = ((i + 1 : Nat) : Int) := by rw [wrap_of] <;> omega
      have hlt : rs.length - (i + 1) < rs.length - i := by omega
      obtain ⟨r, hx⟩ : ∃ x, rs[i]? = some x := ⟨_, List.getElem?_eq_getElem hi'⟩
      have hm := List.mem_of_getElem? hx
      have hdr := drop_at hx
      rw [hdr] at hT
      obtain ⟨z1, z2⟩ := bank_sz hz r ls
      have hT : brunM s0 rs legs = ((brunM (bankM s r ls).1 (rs.drop (i + 1)) (ls.drop (bankM s r ls).2.2)).1, (([]:List Rep) ++ [(bankM s r ls).2.1]) ++ (brunM (bankM s r ls).1 (rs.drop (i + 1)) (ls.drop (bankM s r ls).2.2)).2) := by
        rw [hT, List.append_assoc]; rfl
      refine ⟨_, Int.natCast_nonneg i, map_of hx, ?_⟩
      refine ⟨rfl, s, r, ls, rfl, hz, hls, ?_⟩
      generalize bankM s r ls = o at hT z1 z2 ⊢
      obtain ⟨x, q, n⟩ := o
      simp only at hT z1 z2
      have n0 : (0 : Int) ≤ (n : Int) := by omega
      have n1 : ((n : Nat) : Int).toNat ≤ (ls.map AV.bool).length := by rw [List.length_map]; omega
      have n2 : (ls.map AV.bool).length ≤ (ls.map AV.bool).length := Nat.le_refl _
      have hcut : AV.sl .fz 4 (((ls.map AV.bool).take (ls.map AV.bool).length).drop ((n : Nat) : Int).toNat) = legsA (ls.drop n) := by
        rw [List.take_length, show ((n : Nat) : Int).toNat = n by omega, ← List.map_drop]
      have hld : (ls.drop n).length ≤ 4611686018427387904 := by rw [List.length_drop]; omega
      have fin := fun (h1 : AV) (e : h1 = repsO 35000 (([]:List Rep) ++ [q])) => e
      refine ⟨?_, ?_⟩
      · refine ⟨n0, n1, n2, ?_⟩
        refine ⟨bd, ?_⟩
        exact ⟨_, hlt, i + 1, x, ls.drop n, ([]:List Rep) ++ [q], ⟨hi', z1, hld, by simp only [List.length_append, List.length_cons, List.length_nil] at hPl ⊢; omega, hT⟩, rfl, rfl, rfl, congrArg (AV.int .i64) w, rfl, hcut, by rw [← reps_snoc] <;> rfl, rfl, rfl, rfl⟩
      · refine ⟨n0, n1, n2, ?_⟩
        refine ⟨bd, ?_⟩
        exact ⟨_, hlt, i + 1, x, ls.drop n, ([]:List Rep) ++ [q], ⟨hi', z1, hld, by simp only [List.length_append, List.length_cons, List.length_nil] at hPl ⊢; omega, hT⟩, rfl, rfl, rfl, congrArg (AV.int .i64) w, rfl, hcut, by rw [← reps_snoc] <;> rfl, rfl, rfl, rfl⟩
    · intro hb
      have hi' : i = rs.length := by
        have : ¬ (i : Int) < ((rs.map reqA).length : Nat) := by simpa using hb
        simp at this; omega
      subst hi'
      rw [List.drop_length] at hT
      have hT : brunM s0 rs legs = (s, ([]:List Rep)) := by rw [hT]; show (s, _ ++ []) = _; rw [List.append_nil]
      rw [hT] at hK
      exact hK
  | cons p P =>
    have bd : ((repV p :: P.map repV).length + 1) * 16 ≤ 140737488355328 := by
      simp only [List.length_cons, List.length_map] at hPl ⊢; omega
    constructor
    · intro hb
      have hi' : i < rs.length := by
        have : (i : Int) < ((rs.map reqA).length : Nat) := by simpa using hb
        simp at this; omega
      have w : IntKind.i64.wrap ((i : Int) + 1) = ((i + 1 : Nat) : Int) := by rw [wrap_of] <;> omega
      have hlt : rs.length - (i + 1) < rs.length - i := by omega
      obtain ⟨r, hx⟩ : ∃ x, rs[i]? = some x := ⟨_, List.getElem?_eq_getElem hi'⟩
      have hm := List.mem_of_getElem? hx
      have hdr := drop_at hx
      rw [hdr] at hT
      obtain ⟨z1, z2⟩ := bank_sz hz r ls
      have hT : brunM s0 rs legs = ((brunM (bankM s r ls).1 (rs.drop (i + 1)) (ls.drop (bankM s r ls).2.2)).1, ((p::P) ++ [(bankM s r ls).2.1]) ++ (brunM (bankM s r ls).1 (rs.drop (i + 1)) (ls.drop (bankM s r ls).2.2)).2) := by
        rw [hT, List.append_assoc]; rfl
      refine ⟨_, Int.natCast_nonneg i, map_of hx, ?_⟩
      refine ⟨rfl, s, r, ls, rfl, hz, hls, ?_⟩
      generalize bankM s r ls = o at hT z1 z2 ⊢
      obtain ⟨x, q, n⟩ := o
      simp only at hT z1 z2
      have n0 : (0 : Int) ≤ (n : Int) := by omega
      have n1 : ((n : Nat) : Int).toNat ≤ (ls.map AV.bool).length := by rw [List.length_map]; omega
      have n2 : (ls.map AV.bool).length ≤ (ls.map AV.bool).length := Nat.le_refl _
      have hcut : AV.sl .fz 4 (((ls.map AV.bool).take (ls.map AV.bool).length).drop ((n : Nat) : Int).toNat) = legsA (ls.drop n) := by
        rw [List.take_length, show ((n : Nat) : Int).toNat = n by omega, ← List.map_drop]
      have hld : (ls.drop n).length ≤ 4611686018427387904 := by rw [List.length_drop]; omega
      have fin := fun (h1 : AV) (e : h1 = repsO 35000 ((p::P) ++ [q])) => e
      refine ⟨?_, ?_⟩
      · refine ⟨n0, n1, n2, ?_⟩
        refine ⟨bd, ?_⟩
        exact ⟨_, hlt, i + 1, x, ls.drop n, (p::P) ++ [q], ⟨hi', z1, hld, by simp only [List.length_append, List.length_cons, List.length_nil] at hPl ⊢; omega, hT⟩, rfl, rfl, rfl, congrArg (AV.int .i64) w, rfl, hcut, by rw [← reps_snoc] <;> rfl, rfl, rfl, rfl⟩
      · refine ⟨n0, n1, n2, ?_⟩
        refine ⟨bd, ?_⟩
        exact ⟨_, hlt, i + 1, x, ls.drop n, (p::P) ++ [q], ⟨hi', z1, hld, by simp only [List.length_append, List.length_cons, List.length_nil] at hPl ⊢; omega, hT⟩, rfl, rfl, rfl, congrArg (AV.int .i64) w, rfl, hcut, by rw [← reps_snoc] <;> rfl, rfl, rfl, rfl⟩
    · intro hb
      have hi' : i = rs.length := by
        have : ¬ (i : Int) < ((rs.map reqA).length : Nat) := by simpa using hb
        simp at this; omega
      subst hi'
      rw [List.drop_length] at hT
      have hT : brunM s0 rs legs = (s, (p::P)) := by rw [hT]; show (s, _ ++ []) = _; rw [List.append_nil]
      rw [hT] at hK
      exact hK
end Go.Proofs.YtkeafcjdejmohaaDoor.A
