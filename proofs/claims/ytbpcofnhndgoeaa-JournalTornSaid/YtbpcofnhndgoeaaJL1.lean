/- JournalTorn, walked. -/
import Derived.Test.YtbpcofnhndgoeaaJL0
namespace Go.Proofs.Ytbpcofnhndgoeaa.A
open Go Q
def RTo : Contract
  | 14 => awake6C
  | 7 => fewC1
  | 17 => oneC
  | _ => fun _ _ _ => False
theorem RTo_ok : CallOk Try.prog tab RTo := by
  intro f args bs K h
  unfold RTo at h
  split at h
  · exact ⟨_, h, awake6_ok⟩
  · exact ⟨_, h, few_ok1⟩
  · exact ⟨_, h, one_ok⟩
  · exact h.elim
def RTo_E (pl : Nat → Plan) : En := ⟨tab, RTo, fun _ => none, 0, pl⟩
theorem RTo_J (pl : Nat → Plan) : JOk Try.prog (RTo_E pl).T (RTo_E pl).J := fun _ _ h => by cases h
noncomputable def To_E (pl : Nat → Plan) : En := ⟨tab, RTo, JLw, 0, pl⟩
def tornL (args : List AV) (bs : List Box) (K : Kon) : Prop := bs = [] ∧ ∃ rs tail more, args = [bss .fz rs, by8 tail, by8 more] ∧ rs.length ≤ 4611686018427387904 ∧ (∀ r ∈ rs, byteL r) ∧ byteL tail ∧ byteL more ∧ K (.bool true) []
/-- What lies behind the journal is torn. -/
theorem torn_plain {rs : List (List Int)} {tail : List Int} {d : Dk} (h : JOK ⟨0, [], rs, false⟩ d) (hl : d.left = -1) (ht : byteL tail) (hr : (d.used : Int) + tail.length ≤ d.room) (ho : oneB tail = none) :
    ∃ d1 d2, appendD d 2 tail = (0, d1) ∧ DG d1 ∧ d1.left = -1 ∧ d1.stop = false ∧ openD d1 = some (⟨0, [], rs, false⟩, d2) ∧ JOK ⟨0, [], rs, false⟩ d2 ∧ d2.left = -1 ∧ d2.room = d.room ∧ d2.used ≤ d.used + tail.length := by
  have hA := app_run (k := 2) h.run hr
  have hg : (fget d.fs 2).getD ([], 0) = (frames rs, ((frames rs).length : Int)) := recs_get h
  rw [if_neg (by omega)] at hA
  have hlen := h.len
  have hn3 : (appendD d 2 tail).2.fs.length ≤ 3 := by
    rw [hA]
    have := (usedF_set d.fs 2 (((fget d.fs 2).getD ([], 0)).1 ++ tail, ((fget d.fs 2).getD ([], 0)).2)).2
    simp only
    omega
  have hDG := h.dg.append ht hn3
  have hU : (appendD d 2 tail).2.used = d.used + tail.length := by rw [hA]; exact used_app
  rw [hA] at hDG hU
  rw [hg] at hA hDG hU
  have hlf : d.lf = -1 := by simp [Dk.lf, hl]
  have hst : decide (d.left = 0) = false := by simp [hl]
  rw [hlf, hst] at hA hDG hU
  simp only at hA hDG hU
  obtain ⟨d2, k1, k2, k3, k4, k5⟩ := open_of (rs := rs) (turn := 0) (base := []) hDG rfl rfl (by rw [hU]; exact_mod_cast hr) (Int.le_refl 0) (by decide) (by
    have hb : BaseF 0 [] d := h.base
    rcases hb with ⟨_, _, hb⟩ | ⟨hb, _⟩
    · exact .inl ⟨rfl, rfl, by simp only [fget_fset]; rw [if_neg (by decide)]; exact hb⟩
    · omega) h.recs.1 (.inr ⟨tail, _, by simp only [fget_fset]; rw [if_pos (by decide)], ho, fun _ => rfl⟩)
  exact ⟨_, d2, hA, hDG, rfl, rfl, k1, k2, k3, k4, by rw [hU] at k5; exact k5⟩
set_option maxRecDepth 200000 in
set_option maxHeartbeats 16000000 in
theorem torn_ok : FnOk Try.prog tab 4 tornL := by
  refine fn_ok (E := To_E pl4) tab_is RTo_ok JLw_ok Try.func4 rfl rfl (by kernel_rfl) ?_
  rintro args bs K ⟨rfl, rs, tail0, more0, rfl, hl, hrb, htb0, hmb0, hK⟩
  refine ⟨rfl, ?_⟩
  obtain ⟨ht, hte, ht1, ht2, ht3⟩ := min500 tail0
  obtain ⟨hm, hme, hm1, hm2, hm3⟩ := min500 more0
  rw [hte] at ht1 ht2
  rw [hme] at hm1 hm2
  obtain ⟨tail, htl⟩ : ∃ a, a = tail0.take (if (500 : Int) < (((tail0.map (AV.int .u8)).length : Nat) : Int) then (500 : Int) else (((tail0.map (AV.int .u8)).length : Nat) : Int)).toNat := ⟨_, rfl⟩
  obtain ⟨more, hml⟩ : ∃ a, a = more0.take (if (500 : Int) < (((more0.map (AV.int .u8)).length : Nat) : Int) then (500 : Int) else (((more0.map (AV.int .u8)).length : Nat) : Int)).toNat := ⟨_, rfl⟩
  have htn : tail.length ≤ 500 := by rw [htl, List.length_take]; omega
  have hmn : more.length ≤ 500 := by rw [hml, List.length_take]; omega
  have htb : byteL tail := by rw [htl]; exact byteL_take htb0 _
  have hmb : byteL more := by rw [hml]; exact byteL_take hmb0 _
  have hmr : ∀ r ∈ [more], Rec r := fun r hr => by rw [List.mem_singleton.1 hr]; exact ⟨by omega, hmb⟩
  have hfm : (frames [more]).length ≤ 506 := by simp [frames, frame_len]; omega
  obtain ⟨L, hL⟩ : ∃ L, fewM rs = L := ⟨_, rfl⟩
  have hLr : ∀ r ∈ L, Rec r := by rw [← hL]; exact few_rec hrb
  have hLf : (frames L).length ≤ 6072 := by rw [← hL]; exact frames_few rs
  have hL12 : L.length ≤ 12 := by rw [← hL]; exact few_len rs
  have rest : ∀ t h, wpA (To_E pl4) (rst 3 (bodyOf Try.f4)) (bodyA tab Try.f4 [] K) ⟨updL t [(0, bss (.own 23000) L), (1, by8 tail), (2, by8 more)], h⟩ := by
    intro t h
    obtain ⟨d1, o1, j1, l1, r1, u1⟩ := JOK.first 262144
    refine ⟨[], [], [500], 0, rfl, _, rfl, 262144, 2000000000, Nat.le_refl _, rfl, rfl, rfl, ?_⟩
    refine ⟨[500], [], [600], 700000, rfl, _, rfl, newD 262144, 2000000000, _, (JOK.new 262144).dg, rfl, rfl, Nat.le_refl _, o1, rfl, rfl, (fun h => by cases h), ?_⟩
    rintro _ _ ⟨⟩
    have r1 : d1.room = 262144 := r1
    refine ⟨rfl, ?_⟩
    refine ⟨fun h => Bool.noConfusion (show false = true from h), fun _ => ?_⟩
    refine ⟨fun h => Bool.noConfusion (show false = true from h), fun _ => ?_⟩
    refine ⟨[600, 500], [700000], [], 700000, rfl, _, rfl, [.ptr 1000000000 0, bss .fz L], ⟨.inl rfl, .inl rfl, trivial⟩, .inl ⟨⟨0, [], [], false⟩, d1, 2000000000, L, j1, Nat.le_refl _, (by omega), hLr, rfl, rfl, fun d2 j2 r2 u2 l2 _ => ⟨rfl, ?_⟩, fun h => absurd h (by rw [u1, r1]; omega), fun _ h => absurd l1 h⟩⟩
    refine ⟨fun h => Bool.noConfusion (show false = true from h), fun _ => ?_⟩
    have hroom2 : (d2.used : Int) + tail.length ≤ d2.room := by rw [u2, u1, r2, r1]; omega
    cases ho : oneB tail with
    | some p =>
      obtain ⟨x, n⟩ := p
      refine ⟨rfl, tail, some (x, n), ho, rfl, htb, (by omega), ?_⟩
      refine ⟨fun _ => ?_, fun h => Bool.noConfusion (show true = false from h)⟩
      refine ⟨fun _ => ?_, fun h => Bool.noConfusion (show true = false from h)⟩
      exact hK
    | none =>
      refine ⟨rfl, tail, none, ho, rfl, htb, (by omega), ?_⟩
      refine ⟨fun h => Bool.noConfusion (show false = true from h), fun _ => ?_⟩
      obtain ⟨d3, d4, a3, g3, l3, s3, o4, j4, l4, r4, u4⟩ := torn_plain j2 (l2 l1) htb hroom2 ho
      have j2ok : DOk d2 := j2.dg.ok
      refine ⟨[500], [], [], 0, rfl, _, rfl, [.ptr 1000000000 0, .int .i64 2, by8 tail], ⟨.inl rfl, .inl rfl, .inl rfl, trivial⟩, d2, 2000000000, 2, tail, 0, d3, _, j2ok, Nat.le_refl _, (by omega), a3, g3.ok.n, erA_0, rfl, rfl, rfl, ?_⟩
      refine ⟨fun h => Bool.noConfusion (show false = true from h), fun _ => ?_⟩
      have hroom5 : ¬ ¬ (d4.used : Int) + (frames [more]).length ≤ d4.room := by rw [u2, u1] at u4; rw [r4, r2, r1]; omega
      refine ⟨fun mm st => ∃ (i : Nat), (i ≤ L.length) ∧ L.length - i = mm ∧ st.t 2 = by8 more ∧ st.t 7 = .ptr 500 0 ∧ st.t 13 = sO 76000 (L.take i) ∧ st.t 66 = bss .fz L ∧ st.t 67 = .int .i64 ((L.map by8).length : Nat) ∧ st.t 68 = .int .i64 (i : Int) ∧ st.h 500 = some (dkB d3 2000000000),
        ⟨_, 0, Nat.zero_le _, rfl, rfl, rfl, rfl, rfl, rfl, rfl, rfl⟩, ?_⟩
      rintro _ ⟨t1, h1⟩ ⟨i, hi, rfl, e2, e7, e13, e66, e67, e68, b500⟩
      have e2 : t1 2 = by8 more := e2
      have e7 : t1 7 = .ptr 500 0 := e7
      have e13 : t1 13 = sO 76000 (L.take i) := e13
      have e66 : t1 66 = bss .fz L := e66
      have e67 : t1 67 = .int .i64 ((L.map by8).length : Nat) := e67
      have e68 : t1 68 = .int .i64 (i : Int) := e68
      have b500 : h1 500 = some (dkB d3 2000000000) := b500
      rw [← updL_has t1 [(2, by8 more), (7, .ptr 500 0), (13, sO 76000 (L.take i)), (66, bss .fz L), (67, .int .i64 ((L.map by8).length : Nat)), (68, .int .i64 (i : Int))] ⟨e2, e7, e13, e66, e67, e68, trivial⟩, ← updL_has h1 [(500, some (dkB d3 2000000000))] ⟨b500, trivial⟩]
      constructor
      · intro hb
        have hi' : i < L.length := by
          have : (i : Int) < ((L.map by8).length : Nat) := by simpa using hb
          simp at this; omega
        have w : IntKind.i64.wrap ((i : Int) + 1) = ((i + 1 : Nat) : Int) := by rw [wrap_of] <;> omega
        have hlt : L.length - (i + 1) < L.length - i := by omega
        obtain ⟨r, hx⟩ : ∃ x, L[i]? = some x := ⟨_, List.getElem?_eq_getElem hi'⟩
        skip
        refine ⟨_, Int.natCast_nonneg i, map_of hx, ?_⟩
        have hs : L.take (i + 1) = L.take i ++ [r] := by rw [List.take_add_one, hx]; rfl
        have htk : (L.take i).length ≤ 12 := by rw [List.length_take]; omega
        cases hq : L.take i with
        | nil =>
          refine ⟨r, rfl, ?_⟩
          refine ⟨(by decide : 1 * 16 ≤ 140737488355328), ?_⟩
          exact ⟨_, hlt, i + 1, hi', rfl, rfl, rfl, (by rw [hs, hq]; rfl), rfl, rfl, congrArg (AV.int .i64) w, rfl⟩
        | cons a l =>
          rw [hq] at htk
          refine ⟨r, rfl, ?_⟩
          refine ⟨(show (((a :: l).map fun r => AV.str (strOf r)).length + 1) * 16 ≤ 140737488355328 by rw [List.length_map]; omega), ?_⟩
          exact ⟨_, hlt, i + 1, hi', rfl, rfl, rfl, (by rw [hs, hq, ← sO_snoc, sss, List.map_append]; rfl), rfl, rfl, congrArg (AV.int .i64) w, rfl⟩
      · intro hb
        have hi' : i = L.length := by
          have : ¬ (i : Int) < ((L.map by8).length : Nat) := by simpa using hb
          simp at this; omega
        subst hi'
        rw [List.take_length]
        have hL12 := hL12
        by_cases hne : L = []
        · subst hne
          refine ⟨[500], [], [800], 900000, rfl, _, rfl, d3, 2000000000, _, g3, l3, s3, Nat.le_refl _, o4, rfl, rfl, (fun h => by cases h), ?_⟩
          rintro _ _ ⟨⟩
          refine ⟨rfl, ?_⟩
          refine ⟨fun h => Bool.noConfusion (show false = true from h), fun _ => ?_⟩
          refine ⟨fun h => Bool.noConfusion (show false = true from h), fun _ => ?_⟩
          refine ⟨[800, 500], [900000], [], 900000, rfl, _, rfl, ⟨0, [], [], false⟩, d4, 2000000000, rfl, rfl, (Nat.le_trans (recs_few j4).1 (by decide)), (fun r hr => Nat.le_trans ((recs_few j4).2.1 r hr) (by decide)), rfl, ?_⟩
          refine ⟨[800, 500], [900000], [], 900000, rfl, _, rfl, ⟨0, [], [], false⟩, d4, 2000000000, rfl, rfl, (by simp), rfl, ?_⟩
          refine ⟨[], rfl, ?_⟩
          refine ⟨fun h => absurd (show (!(strOf [] == strOf [])) = true from h) (by rw [str_refl]; decide), fun _ => ?_⟩
          refine ⟨[800, 500], [900000], [], 900000, rfl, _, rfl, ⟨0, [], [], false⟩, d4, 2000000000, rfl, rfl, rfl, ?_⟩
          refine ⟨fun h => absurd (show ((0 : Int) != 0) = true from h) (by simp), fun _ => ?_⟩
          refine ⟨fun h => absurd (bne_iff_ne.1 h) (by simp), fun _ => ?_⟩
          refine loopR 1 (roundsR_succ ?_)
          refine ⟨fun h => Bool.noConfusion (show false = true from h), fun _ => ?_⟩
          refine ⟨_, rfl, ?_⟩
          refine ⟨fun h => Bool.noConfusion (show false = true from h), fun _ => ?_⟩
          refine ⟨[800, 500], [900000], [], 900000, rfl, _, rfl, [.ptr 1000000000 0, bss .fz [more]], ⟨.inl rfl, .inl rfl, trivial⟩, .inl ⟨⟨0, [], [], false⟩, d4, 2000000000, [more], j4, Nat.le_refl _, (by simp), hmr, rfl, rfl, fun d5 j5 r5 u5 l5 _ => ⟨rfl, ?_⟩, fun h => absurd h hroom5, fun _ h => absurd l4 h⟩⟩
          refine ⟨fun h => Bool.noConfusion (show false = true from h), fun _ => ?_⟩
          obtain ⟨M, hM⟩ : ∃ M, [] ++ [more] = M := ⟨_, rfl⟩
          have j5 : JOK ⟨0, [], M, false⟩ d5 := by rw [← hM]; exact j5
          obtain ⟨d6, o6, j6, l6, r6, u6⟩ := j5.again (l5 l4)
          refine ⟨[500], [], [1000], 1100000, rfl, _, rfl, d5, 2000000000, _, j5.dg, l5 l4, j5.run, Nat.le_refl _, o6, rfl, rfl, (fun h => by cases h), ?_⟩
          rintro _ _ ⟨⟩
          refine ⟨rfl, ?_⟩
          refine ⟨fun _ => ?_, fun h => Bool.noConfusion (show true = false from h)⟩
          refine ⟨fun _ => ?_, fun h => Bool.noConfusion (show true = false from h)⟩
          refine ⟨more, rfl, ?_⟩
          refine ⟨(by decide : 1 * 16 ≤ 140737488355328), ?_⟩
          subst hM
          refine ⟨[1000, 500], [1100000], [], 1100000, rfl, _, rfl, ⟨0, [], [more], false⟩, d6, 2000000000, rfl, rfl, (Nat.le_trans (recs_few j6).1 (by decide)), (fun r hr => Nat.le_trans ((recs_few j6).2.1 r hr) (by decide)), rfl, ?_⟩
          refine ⟨[1000, 500], [1100000], [], 1100000, rfl, _, rfl, ⟨0, [], [more], false⟩, d6, 2000000000, rfl, rfl, (by simp), rfl, ?_⟩
          refine ⟨[], rfl, ?_⟩
          refine ⟨fun h => absurd (show (!(strOf [] == strOf [])) = true from h) (by rw [str_refl]; decide), fun _ => ?_⟩
          refine ⟨[1000, 500], [1100000], [], 1100000, rfl, _, rfl, ⟨0, [], [more], false⟩, d6, 2000000000, rfl, rfl, rfl, ?_⟩
          refine ⟨fun h => absurd (show ((0 : Int) != 0) = true from h) (by simp), fun _ => ?_⟩
          refine ⟨fun h => absurd (bne_iff_ne.1 h) (by simp), fun _ => ?_⟩
          refine loopR 2 (roundsR_succ ?_)
          refine ⟨fun _ => ?_, fun h => Bool.noConfusion (show true = false from h)⟩
          refine ⟨_, (by decide), rfl, ?_⟩
          refine ⟨_, (by decide), rfl, ?_⟩
          refine ⟨more, rfl, ?_⟩
          refine ⟨fun h => absurd (show (!(strOf more == strOf more)) = true from h) (by rw [str_refl]; decide), fun _ => ?_⟩
          refine roundsR_succ ?_
          refine ⟨fun h => Bool.noConfusion (show false = true from h), fun _ => ?_⟩
          refine ⟨_, rfl, ?_⟩
          exact hK
        · rw [sO_own hne]
          refine ⟨[500], [], [800], 900000, rfl, _, rfl, d3, 2000000000, _, g3, l3, s3, Nat.le_refl _, o4, rfl, rfl, (fun h => by cases h), ?_⟩
          rintro _ _ ⟨⟩
          refine ⟨rfl, ?_⟩
          refine ⟨fun h => Bool.noConfusion (show false = true from h), fun _ => ?_⟩
          refine ⟨fun h => Bool.noConfusion (show false = true from h), fun _ => ?_⟩
          refine ⟨[800, 500], [900000], [], 900000, rfl, _, rfl, ⟨0, [], L, false⟩, d4, 2000000000, rfl, rfl, (Nat.le_trans (recs_few j4).1 (by decide)), (fun r hr => Nat.le_trans ((recs_few j4).2.1 r hr) (by decide)), rfl, ?_⟩
          refine ⟨[800, 500], [900000], [], 900000, rfl, _, rfl, ⟨0, [], L, false⟩, d4, 2000000000, rfl, rfl, (by simp), rfl, ?_⟩
          refine ⟨[], rfl, ?_⟩
          refine ⟨fun h => absurd (show (!(strOf [] == strOf [])) = true from h) (by rw [str_refl]; decide), fun _ => ?_⟩
          refine ⟨[800, 500], [900000], [], 900000, rfl, _, rfl, ⟨0, [], L, false⟩, d4, 2000000000, rfl, rfl, rfl, ?_⟩
          refine ⟨fun h => absurd (show ((0 : Int) != 0) = true from h) (by simp), fun _ => ?_⟩
          refine ⟨fun h => absurd (bne_iff_ne.1 h) (by simp), fun _ => ?_⟩
          refine ⟨fun mm st => ∃ (i : Nat), (i ≤ L.length) ∧ L.length - i = mm ∧ st.t 9 = bss .fz L ∧ st.t 2 = sss (.own 76000) L ∧ st.t 32 = .int .i64 ((L.map by8).length : Nat) ∧ st.t 33 = .int .i64 (i : Int) ∧ st.t 1000002 = by8 more ∧ st.t 1000007 = .ptr 500 0 ∧ st.t 1000013 = sss (.own 76000) L ∧ st.t 1000016 = .ptr 800 0 ∧ st.t 1000017 = .nilifc ∧ st.t 1000089 = .bool false ∧ st.h 500 = some (dkB d4 2000000000) ∧ st.h 800 = some (jBc 500 900000 ⟨0, [], L, false⟩),
            ⟨_, 0, Nat.zero_le _, rfl, rfl, rfl, rfl, rfl, rfl, rfl, rfl, rfl, rfl, rfl, rfl, rfl⟩, ?_⟩
          rintro _ ⟨q1, p1⟩ ⟨i, hi, rfl, e9, e2, e32, e33, e1000002, e1000007, e1000013, e1000016, e1000017, e1000089, b500, b800⟩
          have e9 : q1 9 = bss .fz L := e9
          have e2 : q1 2 = sss (.own 76000) L := e2
          have e32 : q1 32 = .int .i64 ((L.map by8).length : Nat) := e32
          have e33 : q1 33 = .int .i64 (i : Int) := e33
          have e1000002 : q1 1000002 = by8 more := e1000002
          have e1000007 : q1 1000007 = .ptr 500 0 := e1000007
          have e1000013 : q1 1000013 = sss (.own 76000) L := e1000013
          have e1000016 : q1 1000016 = .ptr 800 0 := e1000016
          have e1000017 : q1 1000017 = .nilifc := e1000017
          have e1000089 : q1 1000089 = .bool false := e1000089
          have b500 : p1 500 = some (dkB d4 2000000000) := b500
          have b800 : p1 800 = some (jBc 500 900000 ⟨0, [], L, false⟩) := b800
          rw [← updL_has q1 [(9, bss .fz L), (2, sss (.own 76000) L), (32, .int .i64 ((L.map by8).length : Nat)), (33, .int .i64 (i : Int)), (1000002, by8 more), (1000007, .ptr 500 0), (1000013, sss (.own 76000) L), (1000016, .ptr 800 0), (1000017, .nilifc), (1000089, .bool false)] ⟨e9, e2, e32, e33, e1000002, e1000007, e1000013, e1000016, e1000017, e1000089, trivial⟩, ← updL_has p1 [(500, some (dkB d4 2000000000)), (800, some (jBc 500 900000 ⟨0, [], L, false⟩))] ⟨b500, b800, trivial⟩]
          have hrl0 : L.length ≤ 1000000000000 := (Nat.le_trans (recs_few j4).1 (by decide))
          constructor
          · intro hb
            have hi' : i < L.length := by
              have : (i : Int) < ((L.map by8).length : Nat) := by simpa using hb
              simp at this; omega
            have w : IntKind.i64.wrap ((i : Int) + 1) = ((i + 1 : Nat) : Int) := by rw [wrap_of] <;> omega
            have hlt : L.length - (i + 1) < L.length - i := by omega
            obtain ⟨r, hx⟩ : ∃ x, L[i]? = some x := ⟨_, List.getElem?_eq_getElem hi'⟩
            have hm := List.mem_of_getElem? hx
            refine ⟨_, Int.natCast_nonneg i, map_of hx, ?_⟩
            refine ⟨_, Int.natCast_nonneg i, map_of hx, ?_⟩
            refine ⟨r, rfl, ?_⟩
            refine ⟨fun h => absurd (show (!(strOf r == strOf r)) = true from h) (by rw [str_refl]; decide), fun _ => ?_⟩
            exact ⟨_, hlt, i + 1, hi', rfl, rfl, rfl, rfl, congrArg (AV.int .i64) w, rfl, rfl, rfl, rfl, rfl, rfl, rfl, rfl⟩
          · intro hb
            have hi' : i = L.length := by
              have : ¬ (i : Int) < ((L.map by8).length : Nat) := by simpa using hb
              simp at this; omega
            subst hi'
            refine ⟨_, rfl, ?_⟩
            refine ⟨fun h => Bool.noConfusion (show false = true from h), fun _ => ?_⟩
            refine ⟨[800, 500], [900000], [], 900000, rfl, _, rfl, [.ptr 1000000000 0, bss .fz [more]], ⟨.inl rfl, .inl rfl, trivial⟩, .inl ⟨⟨0, [], L, false⟩, d4, 2000000000, [more], j4, Nat.le_refl _, (by simp), hmr, rfl, rfl, fun d5 j5 r5 u5 l5 _ => ⟨rfl, ?_⟩, fun h => absurd h hroom5, fun _ h => absurd l4 h⟩⟩
            refine ⟨fun h => Bool.noConfusion (show false = true from h), fun _ => ?_⟩
            obtain ⟨M, hM⟩ : ∃ M, L ++ [more] = M := ⟨_, rfl⟩
            have j5 : JOK ⟨0, [], M, false⟩ d5 := by rw [← hM]; exact j5
            obtain ⟨d6, o6, j6, l6, r6, u6⟩ := j5.again (l5 l4)
            refine ⟨[500], [], [1000], 1100000, rfl, _, rfl, d5, 2000000000, _, j5.dg, l5 l4, j5.run, Nat.le_refl _, o6, rfl, rfl, (fun h => by cases h), ?_⟩
            rintro _ _ ⟨⟩
            refine ⟨rfl, ?_⟩
            refine ⟨fun _ => ?_, fun h => Bool.noConfusion (show true = false from h)⟩
            refine ⟨fun _ => ?_, fun h => Bool.noConfusion (show true = false from h)⟩
            refine ⟨more, rfl, ?_⟩
            refine ⟨(show ((L.map fun r => AV.str (strOf r)).length + 1) * 16 ≤ 140737488355328 by rw [List.length_map]; omega), ?_⟩
            refine ⟨[1000, 500], [1100000], [], 1100000, rfl, _, rfl, ⟨0, [], M, false⟩, d6, 2000000000, rfl, rfl, (Nat.le_trans (recs_few j6).1 (by decide)), (fun r hr => Nat.le_trans ((recs_few j6).2.1 r hr) (by decide)), rfl, ?_⟩
            refine ⟨[1000, 500], [1100000], [], 1100000, rfl, _, rfl, ⟨0, [], M, false⟩, d6, 2000000000, rfl, rfl, (by simp), rfl, ?_⟩
            refine ⟨[], rfl, ?_⟩
            refine ⟨fun h => absurd (show (!(strOf [] == strOf [])) = true from h) (by rw [str_refl]; decide), fun _ => ?_⟩
            refine ⟨[1000, 500], [1100000], [], 1100000, rfl, _, rfl, ⟨0, [], M, false⟩, d6, 2000000000, rfl, rfl, rfl, ?_⟩
            refine ⟨fun h => absurd (show ((0 : Int) != 0) = true from h) (by simp), fun _ => ?_⟩
            refine ⟨fun h => absurd (bne_iff_ne.1 h) (by rw [← hM]; simp), fun _ => ?_⟩
            refine ⟨fun mm st => ∃ (i : Nat), (i ≤ M.length) ∧ M.length - i = mm ∧ st.t 9 = bss .fz M ∧ st.t 2 = sss (.own 76000) M ∧ st.t 32 = .int .i64 ((M.map by8).length : Nat) ∧ st.t 33 = .int .i64 (i : Int) ∧ st.t 1000113 = .bool true,
              ⟨_, 0, Nat.zero_le _, rfl, rfl, (show AV.sl (.own 76000) 9 (L.map (fun r => AV.str (strOf r)) ++ [AV.str (strOf more)]) = sss (.own 76000) M by rw [← hM, sss, List.map_append]; rfl), rfl, rfl, rfl⟩, ?_⟩
            rintro _ ⟨q1, p1⟩ ⟨i, hi, rfl, e9, e2, e32, e33, e1000113⟩
            have e9 : q1 9 = bss .fz M := e9
            have e2 : q1 2 = sss (.own 76000) M := e2
            have e32 : q1 32 = .int .i64 ((M.map by8).length : Nat) := e32
            have e33 : q1 33 = .int .i64 (i : Int) := e33
            have e1000113 : q1 1000113 = .bool true := e1000113
            rw [← updL_has q1 [(9, bss .fz M), (2, sss (.own 76000) M), (32, .int .i64 ((M.map by8).length : Nat)), (33, .int .i64 (i : Int)), (1000113, .bool true)] ⟨e9, e2, e32, e33, e1000113, trivial⟩]
            have hrl0 : M.length ≤ 1000000000000 := (Nat.le_trans (recs_few j6).1 (by decide))
            constructor
            · intro hb
              have hi' : i < M.length := by
                have : (i : Int) < ((M.map by8).length : Nat) := by simpa using hb
                simp at this; omega
              have w : IntKind.i64.wrap ((i : Int) + 1) = ((i + 1 : Nat) : Int) := by rw [wrap_of] <;> omega
              have hlt : M.length - (i + 1) < M.length - i := by omega
              obtain ⟨r, hx⟩ : ∃ x, M[i]? = some x := ⟨_, List.getElem?_eq_getElem hi'⟩
              have hm := List.mem_of_getElem? hx
              refine ⟨_, Int.natCast_nonneg i, map_of hx, ?_⟩
              refine ⟨_, Int.natCast_nonneg i, map_of hx, ?_⟩
              refine ⟨r, rfl, ?_⟩
              refine ⟨fun h => absurd (show (!(strOf r == strOf r)) = true from h) (by rw [str_refl]; decide), fun _ => ?_⟩
              exact ⟨_, hlt, i + 1, hi', rfl, rfl, rfl, rfl, congrArg (AV.int .i64) w, rfl⟩
            · intro hb
              have hi' : i = M.length := by
                have : ¬ (i : Int) < ((M.map by8).length : Nat) := by simpa using hb
                simp at this; omega
              subst hi'
              refine ⟨_, rfl, ?_⟩
              exact hK
  refine ⟨rfl, rfl, ?_⟩
  refine ⟨fun h => Bool.noConfusion (show false = true from h), fun _ => ?_⟩
  have e1 : ∀ a b, AV.sl .fz 5 (((tail0.map (AV.int .u8)).take (if (500 : Int) < (((tail0.map (AV.int .u8)).length : Nat) : Int) then (500 : Int) else (((tail0.map (AV.int .u8)).length : Nat) : Int)).toNat).drop 0) = a → b = by8 tail → a = b := fun a b ha hb => by rw [← ha, hb, htl]; exact cut8.symm
  have e2 : ∀ a b, AV.sl .fz 5 (((more0.map (AV.int .u8)).take (if (500 : Int) < (((more0.map (AV.int .u8)).length : Nat) : Int) then (500 : Int) else (((more0.map (AV.int .u8)).length : Nat) : Int)).toNat).drop 0) = a → b = by8 more → a = b := fun a b ha hb => by rw [← ha, hb, hml]; exact cut8.symm
  repeat' first
    | exact wp_told' [(0, bss (.own 23000) L), (1, by8 tail), (2, by8 more)] ⟨(by rw [← hL]; rfl), e1 _ _ rfl rfl, e2 _ _ rfl rfl, trivial⟩ (rest _ _)
    | (refine ⟨rfl, rs, rfl, hl, ?_⟩)
    | (refine ⟨ht3, Nat.zero_le _, ht2, ?_⟩)
    | (refine ⟨hm3, Nat.zero_le _, hm2, ?_⟩)
    | (refine And.intro ?_ ?_)
end Go.Proofs.Ytbpcofnhndgoeaa.A
