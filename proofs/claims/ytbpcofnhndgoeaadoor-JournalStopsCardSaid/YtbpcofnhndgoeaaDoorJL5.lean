/- JournalStops, walked. -/
import Derived.Test.YtbpcofnhndgoeaaDoorJL4
import Derived.Test.YtbpcofnhndgoeaaDoorGD
namespace Go.Proofs.YtbpcofnhndgoeaaDoor.A
open Go Q
theorem JOK.arm {m : Jn} {d : Dk} (h : JOK m d) {n : Int} (h0 : 0 ≤ n) (h1 : n < 1000) : JOK m (armD d n) := by
  have hk := h.dg.ok
  refine ⟨⟨⟨hk.us, hk.r0, hk.r1, ?_, ?_, hk.n, hk.safe⟩, h.dg.by', h.dg.nd⟩, h.run, h.br, h.t0, h.t1, h.base, h.recs, h.only, h.fit⟩
  · simp only [armD]; omega
  · simp only [armD]; omega
def RSt5 : Contract
  | 21 => awake6C
  | 35 => fewAC
  | 33 => bytAC
  | 17 => numberC
  | _ => fun _ _ _ => False
theorem RSt5_ok : CallOk Tryd.prog tab RSt5 := by
  intro f args bs K h
  unfold RSt5 at h
  split at h
  · exact ⟨_, h, awake6_ok⟩
  · exact ⟨_, h, fewA_ok⟩
  · exact ⟨_, h, bytA_ok⟩
  · exact ⟨_, h, number_ok⟩
  · exact h.elim
def RSt5_E (pl : Nat → Plan) : En := ⟨tab, RSt5, fun _ => none, 0, pl⟩
theorem RSt5_J (pl : Nat → Plan) : JOk Tryd.prog (RSt5_E pl).T (RSt5_E pl).J := fun _ _ h => by cases h
noncomputable def S5_E (pl : Nat → Plan) : En := ⟨tab, RSt5, JLw, 0, pl⟩
def stopsL (args : List AV) (bs : List Box) (K : Kon) : Prop := bs = [] ∧ ∃ (acts : List ActM) (arm keep again : Int), args = [.sl .fz 64 (acts.map actA), .int .u8 arm, .int .i64 keep, .int .u8 again] ∧ (0 ≤ arm ∧ arm < 256) ∧ (0 ≤ again ∧ again < 256) ∧ (∀ a ∈ acts, a.In) ∧ K (.bool true) []
structure StI (i : Nat) (turn : Int) (base : List Int) (recs : List (List Int)) (d : Dk) : Prop where
  j : JOK ⟨turn, base, recs, false⟩ d
  r : d.room = 262144
  u : d.used ≤ 2100 * i
  t : turn ≤ i
set_option maxRecDepth 2000000 in
set_option maxHeartbeats 16000000 in
theorem stops_ok : FnOk Tryd.prog tab 9 stopsL := by
  refine fn_ok (E := S5_E (ownN pl9 [(14, 9)])) tab_is RSt5_ok JLw_ok Tryd.func9 rfl rfl (by kernel_rfl) ?_
  rintro args bs K ⟨rfl, acts, arm, keep, again, rfl, ⟨ha0, ha1⟩, ⟨hg0, hg1⟩, hin, hK⟩
  refine ⟨rfl, ?_⟩
  refine ⟨rfl, rfl, ?_⟩
  refine ⟨fun h => Bool.noConfusion (show false = true from h), fun _ => ?_⟩
  have e : (if (60 : Int) < (((acts.map actA).length : Nat) : Int) then (60 : Int) else (((acts.map actA).length : Nat) : Int)) = ((min 60 acts.length : Nat) : Int) := by rw [List.length_map]; exact min_n 60 _
  refine ⟨(by rw [e]; omega), Nat.zero_le _, (show (if (60 : Int) < (((acts.map actA).length : Nat) : Int) then (60 : Int) else (((acts.map actA).length : Nat) : Int)).toNat ≤ (acts.map actA).length by rw [e, List.length_map]; omega), ?_⟩
  obtain ⟨L, hL⟩ : ∃ L, acts.take (min 60 acts.length) = L := ⟨_, rfl⟩
  have hL60 : L.length ≤ 60 := by rw [← hL, List.length_take]; omega
  have hLin : ∀ a ∈ L, a.In := fun a ha => hin a (by rw [← hL] at ha; exact List.mem_of_mem_take ha)
  have hLm : ((acts.map actA).take (if (60 : Int) < (((acts.map actA).length : Nat) : Int) then (60 : Int) else (((acts.map actA).length : Nat) : Int)).toNat).drop 0 = L.map actA := by
    rw [e, Int.toNat_natCast, List.drop_zero, ← List.map_take, hL]
  refine toldV (v' := .sl .fz 64 (L.map actA)) (congrArg (AV.sl .fz 64) hLm) ?_
  obtain ⟨d1, o1, j1, l1, r1, u1⟩ := JOK.first 262144
  have r1 : d1.room = 262144 := r1
  refine ⟨[], [], [500], 0, rfl, _, rfl, 262144, 2000000000, Nat.le_refl _, rfl, rfl, rfl, ?_⟩
  refine ⟨[500], [], [600], 700000, rfl, _, rfl, newD 262144, 2000000000, _, (JOK.new 262144).dg, rfl, rfl, Nat.le_refl _, o1, rfl, rfl, (fun h => by cases h), ?_⟩
  rintro _ _ ⟨⟩
  refine ⟨rfl, ?_⟩
  refine ⟨fun h => Bool.noConfusion (show false = true from h), fun _ => ?_⟩
  refine ⟨fun h => Bool.noConfusion (show false = true from h), fun _ => ?_⟩
  refine ⟨(by decide : (30 : Int) ≠ 0), ?_⟩
  have hn0 := Int.tmod_nonneg 30 ha0
  have hn1 := Int.tmod_lt_of_pos arm (show (0 : Int) < 30 by decide)
  have hwn : IntKind.i64.wrap (arm.tmod 30) = arm.tmod 30 := wrap_of (by omega) (by omega)
  obtain ⟨da, hda⟩ : ∃ da, armD d1 (IntKind.i64.wrap (arm.tmod 30)) = da := ⟨_, rfl⟩
  have ja : JOK ⟨0, [], [], false⟩ da := by rw [← hda, hwn]; exact j1.arm hn0 (by omega)
  have ra : da.room = 262144 := by rw [← hda]; exact r1
  have ua : da.used = 0 := by rw [← hda]; exact u1
  refine ⟨[500], [], [], 0, rfl, _, rfl, d1, 2000000000, IntKind.i64.wrap (arm.tmod 30), rfl, rfl, rfl, ?_⟩
  rw [hda]
  refine ⟨fun mm st => ∃ (i : Nat) (turn : Int) (base : List Int) (recs : List (List Int)) (d : Dk), (i ≤ L.length ∧ StI i turn base recs d) ∧ L.length - i = mm ∧ st.t 2 = .int .i64 keep ∧ st.t 3 = .int .u8 again ∧ st.t 9 = .ptr 500 0 ∧ st.t 10 = .ptr 600 0 ∧ st.t 12 = .str (strOf base) ∧ st.t 13 = .int .i64 turn ∧ st.t 14 = sss (.own 14000) recs ∧ st.t 50 = .sl .fz 64 (L.map actA) ∧ st.t 51 = .int .i64 ((L.map actA).length : Nat) ∧ st.t 52 = .int .i64 (i : Int) ∧ st.h 500 = some (dkB d 2000000000) ∧ st.h 600 = some (jBc 500 700000 ⟨turn, base, recs, false⟩),
    ⟨_, 0, 0, [], [], da, ⟨Nat.zero_le _, ⟨ja, ra, by omega, by decide⟩⟩, rfl, rfl, rfl, rfl, rfl, rfl, rfl, rfl, rfl, rfl, rfl, rfl, rfl⟩, ?_⟩
  rintro _ ⟨t1, h1⟩ ⟨i, turn, base, recs, d, ⟨hi, hJ⟩, rfl, e2, e3, e9, e10, e12, e13, e14, e50, e51, e52, b500, b600⟩
  have e2 : t1 2 = .int .i64 keep := e2
  have e3 : t1 3 = .int .u8 again := e3
  have e9 : t1 9 = .ptr 500 0 := e9
  have e10 : t1 10 = .ptr 600 0 := e10
  have e12 : t1 12 = .str (strOf base) := e12
  have e13 : t1 13 = .int .i64 turn := e13
  have e14 : t1 14 = sss (.own 14000) recs := e14
  have e50 : t1 50 = .sl .fz 64 (L.map actA) := e50
  have e51 : t1 51 = .int .i64 ((L.map actA).length : Nat) := e51
  have e52 : t1 52 = .int .i64 (i : Int) := e52
  have b500 : h1 500 = some (dkB d 2000000000) := b500
  have b600 : h1 600 = some (jBc 500 700000 ⟨turn, base, recs, false⟩) := b600
  rw [← updL_has t1 [(2, .int .i64 keep), (3, .int .u8 again), (9, .ptr 500 0), (10, .ptr 600 0), (12, .str (strOf base)), (13, .int .i64 turn), (14, sss (.own 14000) recs), (50, .sl .fz 64 (L.map actA)), (51, .int .i64 ((L.map actA).length : Nat)), (52, .int .i64 (i : Int))] ⟨e2, e3, e9, e10, e12, e13, e14, e50, e51, e52, trivial⟩, ← updL_has h1 [(500, some (dkB d 2000000000)), (600, some (jBc 500 700000 ⟨turn, base, recs, false⟩))] ⟨b500, b600, trivial⟩]
  constructor
  · intro hb
    have hi' : i < L.length := by
      have : (i : Int) < ((L.map actA).length : Nat) := by simpa using hb
      simp at this; omega
    have w : IntKind.i64.wrap ((i : Int) + 1) = ((i + 1 : Nat) : Int) := by rw [wrap_of] <;> omega
    have hlt : L.length - (i + 1) < L.length - i := by omega
    obtain ⟨a, hx⟩ : ∃ x, L[i]? = some x := ⟨_, List.getElem?_eq_getElem hi'⟩
    have hm := List.mem_of_getElem? hx
    refine ⟨_, Int.natCast_nonneg i, map_of hx, ?_⟩
    obtain ⟨op, arecs, abytes⟩ := a
    have hA := hLin _ hm
    obtain ⟨hf1, hf2, hf3⟩ := hA.few
    obtain ⟨hb1, hb2⟩ := hA.byt
    obtain ⟨B, hBe⟩ : ∃ B, ActM.byt ⟨op, arecs, abytes⟩ = B := ⟨_, rfl⟩
    obtain ⟨F, hFe⟩ : ∃ F, ActM.few ⟨op, arecs, abytes⟩ = F := ⟨_, rfl⟩
    rw [hBe] at hb1 hb2
    rw [hFe] at hf1 hf2 hf3
    have hj := hJ.j
    have ht0 := hj.t0
    have ht1 := hJ.t
    simp only at ht0
    have hpl := putI_len (turn + 1)
    have hw1 : IntKind.i64.wrap (turn + 1) = turn + 1 := wrap_of (by omega) (by omega)
    refine ⟨(by decide : (4 : Int) ≠ 0), ?_⟩
    refine ⟨fun h0 => ?_, fun h0 => ?_⟩
    · refine ⟨rfl, ⟨op, arecs, abytes⟩, B, hBe, rfl, ?_⟩
      refine ⟨[600, 500], [700000], [], 700000, rfl, _, rfl, [.ptr 1000000000 0, by8 B], ⟨.inl rfl, .inl rfl, trivial⟩, .inl ⟨⟨turn, base, recs, false⟩, d, 2000000000, B, hj, Nat.le_refl _, (show turn + 1 < 4611686018427387904 by omega), (by omega), hb1, rfl, rfl, fun h => absurd h (by simp only [List.length_append]; omega), fun _ => ⟨fun d' j' r' u' l' _ => ⟨rfl, ?_⟩, fun h => absurd h (by rw [hJ.r, frame_len]; have := hJ.u; simp only [List.length_append]; omega), fun m' d' _ hr hb hc _ => ⟨rfl, ?_⟩⟩⟩⟩
      · refine ⟨fun _ => ?_, fun h => Bool.noConfusion (show true = false from h)⟩
        refine ⟨rfl, ⟨op, arecs, abytes⟩, B, hBe, rfl, ?_⟩
        refine ⟨B, rfl, ?_⟩
        have hJ' : StI (i + 1) (turn + 1) B [] d' := ⟨j', r'.trans hJ.r, by rw [u', frame_len]; simp only [List.length_append]; omega, by omega⟩
        exact ⟨_, hlt, i + 1, turn + 1, B, [], d', ⟨hi', hJ'⟩, rfl, rfl, rfl, rfl, rfl, rfl, congrArg (AV.int .i64) hw1, rfl, rfl, rfl, congrArg (AV.int .i64) w, rfl, rfl⟩
      · obtain ⟨m2, d2, o2, j2, l2, r2, u2, hP⟩ := hc.go keep
        refine ⟨fun h => Bool.noConfusion (show false = true from h), fun _ => ?_⟩
        refine ⟨rfl, .inr ⟨12, rfl, ?_⟩⟩
        refine ⟨fun h => Bool.noConfusion (show false = true from h), fun _ => ?_⟩
        refine ⟨[600, 500], [700000], [], 700000, rfl, _, rfl, m', d', 2000000000, rfl, rfl, rfl, ?_⟩
        refine ⟨fun h => absurd (show (!m'.broken) = true from h) (by rw [hb]; decide), fun _ => ?_⟩
        refine ⟨[500], [], [], 0, rfl, _, rfl, d', 2000000000, rfl, rfl, rfl, ?_⟩
        refine ⟨fun h => absurd (show (!d'.stop) = true from h) (by rw [hc.stop]; decide), fun _ => ?_⟩
        refine ⟨[500], [], [], 0, rfl, _, rfl, d', 2000000000, keep, _, hc.dg.ok, Nat.le_refl _, rfl, rfl, rfl, rfl, ?_⟩
        refine ⟨[500], [], [800], 900000, rfl, _, rfl, restartD d' keep, 2000000000, _, hc.dg.restart keep, rfl, rfl, Nat.le_refl _, o2, rfl, rfl, (fun h => by cases h), ?_⟩
        rintro _ _ ⟨⟩
        refine ⟨rfl, ?_⟩
        refine ⟨fun _ => ?_, fun h => Bool.noConfusion (show true = false from h)⟩
        refine ⟨fun _ => ?_, fun h => Bool.noConfusion (show true = false from h)⟩
        rcases hP with rfl | rfl
        · refine ⟨[800, 500], [900000], [], 900000, rfl, _, rfl, ⟨turn, base, recs, false⟩, d2, 2000000000, rfl, rfl, (Nat.le_trans (recs_few j2).1 (by decide)), (fun r hr => Nat.le_trans ((recs_few j2).2.1 r hr) (by decide)), rfl, ?_⟩
          refine ⟨[800, 500], [900000], [], 900000, rfl, _, rfl, ⟨turn, base, recs, false⟩, d2, 2000000000, rfl, rfl, (Nat.le_trans (recs_few j2).2.2 (by decide)), rfl, ?_⟩
          refine ⟨base, rfl, ?_⟩
          refine ⟨fun h => absurd (show (!(strOf base == strOf base)) = true from h) (by rw [str_refl]; decide), fun _ => ?_⟩
          refine ⟨[800, 500], [900000], [], 900000, rfl, _, rfl, ⟨turn, base, recs, false⟩, d2, 2000000000, rfl, rfl, rfl, ?_⟩
          refine ⟨fun h => absurd (show ((turn : Int) != turn) = true from h) (by simp), fun _ => ?_⟩
          refine ⟨fun h => absurd (bne_iff_ne.1 h) (by simp), fun _ => ?_⟩
          refine ⟨fun mm st => ∃ (kk : Nat), (kk ≤ recs.length) ∧ recs.length - kk = mm ∧ st.t 9 = bss .fz recs ∧ st.t 2 = sss (.own 14000) recs ∧ st.t 32 = .int .i64 ((recs.map by8).length : Nat) ∧ st.t 33 = .int .i64 (kk : Int) ∧ st.t 1000099 = .bool true,
            ⟨_, 0, Nat.zero_le _, rfl, rfl, rfl, rfl, rfl, rfl⟩, ?_⟩
          rintro _ ⟨q1, p1⟩ ⟨kk, hi, rfl, e9, e2, e32, e33, e1000099⟩
          have e9 : q1 9 = bss .fz recs := e9
          have e2 : q1 2 = sss (.own 14000) recs := e2
          have e32 : q1 32 = .int .i64 ((recs.map by8).length : Nat) := e32
          have e33 : q1 33 = .int .i64 (kk : Int) := e33
          have e1000099 : q1 1000099 = .bool true := e1000099
          rw [← updL_has q1 [(9, bss .fz recs), (2, sss (.own 14000) recs), (32, .int .i64 ((recs.map by8).length : Nat)), (33, .int .i64 (kk : Int)), (1000099, .bool true)] ⟨e9, e2, e32, e33, e1000099, trivial⟩]
          have hrl0 : recs.length ≤ 1000000000000 := (Nat.le_trans (recs_few j2).1 (by decide))
          constructor
          · intro hb
            have hi' : kk < recs.length := by
              have : (kk : Int) < ((recs.map by8).length : Nat) := by simpa using hb
              simp at this; omega
            have w : IntKind.i64.wrap ((kk : Int) + 1) = ((kk + 1 : Nat) : Int) := by rw [wrap_of] <;> omega
            have hlt : recs.length - (kk + 1) < recs.length - kk := by omega
            obtain ⟨r, hx⟩ : ∃ x, recs[kk]? = some x := ⟨_, List.getElem?_eq_getElem hi'⟩
            have hm := List.mem_of_getElem? hx
            refine ⟨_, Int.natCast_nonneg kk, map_of hx, ?_⟩
            refine ⟨_, Int.natCast_nonneg kk, map_of hx, ?_⟩
            refine ⟨r, rfl, ?_⟩
            refine ⟨fun h => absurd (show (!(strOf r == strOf r)) = true from h) (by rw [str_refl]; decide), fun _ => ?_⟩
            exact ⟨_, hlt, kk + 1, hi', rfl, rfl, rfl, rfl, congrArg (AV.int .i64) w, rfl⟩
          · intro hb
            have hi' : kk = recs.length := by
              have : ¬ (kk : Int) < ((recs.map by8).length : Nat) := by simpa using hb
              simp at this; omega
            subst hi'
            refine ⟨_, rfl, ?_⟩
            refine ⟨fun _ => ?_, fun h => Bool.noConfusion (show true = false from h)⟩
            exact hK
        · refine ⟨[800, 500], [900000], [], 900000, rfl, _, rfl, ⟨turn + 1, B, [], false⟩, d2, 2000000000, rfl, rfl, (Nat.le_trans (recs_few j2).1 (by decide)), (fun r hr => Nat.le_trans ((recs_few j2).2.1 r hr) (by decide)), rfl, ?_⟩
          refine ⟨[800, 500], [900000], [], 900000, rfl, _, rfl, ⟨turn + 1, B, [], false⟩, d2, 2000000000, rfl, rfl, (Nat.le_trans (recs_few j2).2.2 (by decide)), rfl, ?_⟩
          refine ⟨B, rfl, ?_⟩
          refine ⟨fun hb => ?_, fun hb => ?_⟩
          · refine ⟨fun _ => ?_, fun h => Bool.noConfusion (show true = false from h)⟩
            refine ⟨fun _ => ?_, fun h => Bool.noConfusion (show true = false from h)⟩
            refine ⟨_, rfl, ?_⟩
            refine ⟨fun h => Bool.noConfusion (show false = true from h), fun _ => ?_⟩
            refine ⟨rfl, ⟨op, arecs, abytes⟩, B, hBe, rfl, ?_⟩
            refine ⟨B, rfl, ?_⟩
            refine ⟨[800, 500], [900000], [], 900000, rfl, _, rfl, ⟨turn + 1, B, [], false⟩, d2, 2000000000, rfl, rfl, (Nat.le_trans (recs_few j2).1 (by decide)), (fun r hr => Nat.le_trans ((recs_few j2).2.1 r hr) (by decide)), rfl, ?_⟩
            refine ⟨[800, 500], [900000], [], 900000, rfl, _, rfl, ⟨turn + 1, B, [], false⟩, d2, 2000000000, rfl, rfl, (Nat.le_trans (recs_few j2).2.2 (by decide)), rfl, ?_⟩
            refine ⟨B, rfl, ?_⟩
            refine ⟨fun h => absurd (show (!(strOf B == strOf B)) = true from h) (by rw [str_refl]; decide), fun _ => ?_⟩
            refine ⟨[800, 500], [900000], [], 900000, rfl, _, rfl, ⟨turn + 1, B, [], false⟩, d2, 2000000000, rfl, rfl, rfl, ?_⟩
            refine ⟨fun h => absurd (show ((turn + 1 : Int) != IntKind.i64.wrap (turn + 1)) = true from h) (by rw [hw1]; simp), fun _ => ?_⟩
            refine ⟨fun h => absurd (bne_iff_ne.1 h) (by simp), fun _ => ?_⟩
            refine loopR 1 (roundsR_succ ?_)
            refine ⟨fun h => Bool.noConfusion (show false = true from h), fun _ => ?_⟩
            refine ⟨_, rfl, ?_⟩
            exact hK
          · refine ⟨[800, 500], [900000], [], 900000, rfl, _, rfl, ⟨turn + 1, B, [], false⟩, d2, 2000000000, rfl, rfl, rfl, ?_⟩
            refine ⟨fun _ => ?_, fun h => absurd (show ((turn + 1 : Int) != turn) = false from h) (by rw [bne_eq_false_iff_eq]; omega)⟩
            refine ⟨fun _ => ?_, fun h => Bool.noConfusion (show true = false from h)⟩
            refine ⟨_, rfl, ?_⟩
            refine ⟨fun h => Bool.noConfusion (show false = true from h), fun _ => ?_⟩
            refine ⟨rfl, ⟨op, arecs, abytes⟩, B, hBe, rfl, ?_⟩
            refine ⟨B, rfl, ?_⟩
            refine ⟨[800, 500], [900000], [], 900000, rfl, _, rfl, ⟨turn + 1, B, [], false⟩, d2, 2000000000, rfl, rfl, (Nat.le_trans (recs_few j2).1 (by decide)), (fun r hr => Nat.le_trans ((recs_few j2).2.1 r hr) (by decide)), rfl, ?_⟩
            refine ⟨[800, 500], [900000], [], 900000, rfl, _, rfl, ⟨turn + 1, B, [], false⟩, d2, 2000000000, rfl, rfl, (Nat.le_trans (recs_few j2).2.2 (by decide)), rfl, ?_⟩
            refine ⟨B, rfl, ?_⟩
            refine ⟨fun h => absurd (show (!(strOf B == strOf B)) = true from h) (by rw [str_refl]; decide), fun _ => ?_⟩
            refine ⟨[800, 500], [900000], [], 900000, rfl, _, rfl, ⟨turn + 1, B, [], false⟩, d2, 2000000000, rfl, rfl, rfl, ?_⟩
            refine ⟨fun h => absurd (show ((turn + 1 : Int) != IntKind.i64.wrap (turn + 1)) = true from h) (by rw [hw1]; simp), fun _ => ?_⟩
            refine ⟨fun h => absurd (bne_iff_ne.1 h) (by simp), fun _ => ?_⟩
            refine loopR 1 (roundsR_succ ?_)
            refine ⟨fun h => Bool.noConfusion (show false = true from h), fun _ => ?_⟩
            refine ⟨_, rfl, ?_⟩
            exact hK
    · refine ⟨rfl, ⟨op, arecs, abytes⟩, F, hFe, rfl, ?_⟩
      refine ⟨[600, 500], [700000], [], 700000, rfl, _, rfl, [.ptr 1000000000 0, bss .fz F], ⟨.inl rfl, .inl rfl, trivial⟩, .inl ⟨⟨turn, base, recs, false⟩, d, 2000000000, F, hj, Nat.le_refl _, (by omega), hf1, rfl, rfl, fun d' j' r' u' l' _ => ⟨rfl, ?_⟩, fun h => absurd h (by rw [hJ.r]; have := hJ.u; omega), fun d' _ hr hu hc _ => ⟨rfl, ?_⟩⟩⟩
      · refine ⟨fun _ => ?_, fun h => Bool.noConfusion (show true = false from h)⟩
        refine ⟨rfl, ⟨op, arecs, abytes⟩, F, hFe, rfl, ?_⟩
        have hJ' : StI (i + 1) turn base (recs ++ F) d' := ⟨j', r'.trans hJ.r, by have := hJ.u; omega, by omega⟩
        refine ⟨fun mm st => ∃ (k : Nat), (k ≤ F.length) ∧ F.length - k = mm ∧ st.t 2 = .int .i64 keep ∧ st.t 3 = .int .u8 again ∧ st.t 9 = .ptr 500 0 ∧ st.t 10 = .ptr 600 0 ∧ st.t 12 = .str (strOf base) ∧ st.t 13 = .int .i64 turn ∧ st.t 14 = sss (.own 14000) (recs ++ F.take k) ∧ st.t 50 = .sl .fz 64 (L.map actA) ∧ st.t 51 = .int .i64 ((L.map actA).length : Nat) ∧ st.t 52 = .int .i64 (i : Int) ∧ st.t 122 = bss (.own 122000) F ∧ st.t 123 = .int .i64 ((F.map by8).length : Nat) ∧ st.t 124 = .int .i64 (k : Int) ∧ st.h 500 = some (dkB d' 2000000000) ∧ st.h 600 = some (jBc 500 700000 ⟨turn, base, recs ++ F, false⟩),
          ⟨_, 0, Nat.zero_le _, rfl, rfl, rfl, rfl, rfl, rfl, rfl, (show sss (.own 14000) recs = sss (.own 14000) (recs ++ F.take 0) by rw [List.take_zero, List.append_nil]), rfl, rfl, rfl, rfl, rfl, rfl, rfl, rfl⟩, ?_⟩
        rintro _ ⟨t2, h2⟩ ⟨k, hk, rfl, e2, e3, e9, e10, e12, e13, e14, e50, e51, e52, e122, e123, e124, b500, b600⟩
        have e2 : t2 2 = .int .i64 keep := e2
        have e3 : t2 3 = .int .u8 again := e3
        have e9 : t2 9 = .ptr 500 0 := e9
        have e10 : t2 10 = .ptr 600 0 := e10
        have e12 : t2 12 = .str (strOf base) := e12
        have e13 : t2 13 = .int .i64 turn := e13
        have e14 : t2 14 = sss (.own 14000) (recs ++ F.take k) := e14
        have e50 : t2 50 = .sl .fz 64 (L.map actA) := e50
        have e51 : t2 51 = .int .i64 ((L.map actA).length : Nat) := e51
        have e52 : t2 52 = .int .i64 (i : Int) := e52
        have e122 : t2 122 = bss (.own 122000) F := e122
        have e123 : t2 123 = .int .i64 ((F.map by8).length : Nat) := e123
        have e124 : t2 124 = .int .i64 (k : Int) := e124
        have b500 : h2 500 = some (dkB d' 2000000000) := b500
        have b600 : h2 600 = some (jBc 500 700000 ⟨turn, base, recs ++ F, false⟩) := b600
        rw [← updL_has t2 [(2, .int .i64 keep), (3, .int .u8 again), (9, .ptr 500 0), (10, .ptr 600 0), (12, .str (strOf base)), (13, .int .i64 turn), (14, sss (.own 14000) (recs ++ F.take k)), (50, .sl .fz 64 (L.map actA)), (51, .int .i64 ((L.map actA).length : Nat)), (52, .int .i64 (i : Int)), (122, bss (.own 122000) F), (123, .int .i64 ((F.map by8).length : Nat)), (124, .int .i64 (k : Int))] ⟨e2, e3, e9, e10, e12, e13, e14, e50, e51, e52, e122, e123, e124, trivial⟩, ← updL_has h2 [(500, some (dkB d' 2000000000)), (600, some (jBc 500 700000 ⟨turn, base, recs ++ F, false⟩))] ⟨b500, b600, trivial⟩]
        constructor
        · intro hb
          have hk' : k < F.length := by
            have : (k : Int) < ((F.map by8).length : Nat) := by simpa using hb
            simp at this; omega
          have w2 : IntKind.i64.wrap ((k : Int) + 1) = ((k + 1 : Nat) : Int) := by rw [wrap_of] <;> omega
          have hlt2 : F.length - (k + 1) < F.length - k := by omega
          obtain ⟨r, hx2⟩ : ∃ x, F[k]? = some x := ⟨_, List.getElem?_eq_getElem hk'⟩
          skip
          refine ⟨_, Int.natCast_nonneg k, map_of hx2, ?_⟩
          have hs : F.take (k + 1) = F.take k ++ [r] := by rw [List.take_add_one, hx2]; rfl
          have hfew := (recs_few hj).1
          simp only at hfew
          refine ⟨r, rfl, ?_⟩
          refine ⟨(show (((recs ++ F.take k).map fun r => AV.str (strOf r)).length + 1) * 16 ≤ 140737488355328 by rw [List.length_map, List.length_append, List.length_take]; omega), ?_⟩
          exact ⟨_, hlt2, k + 1, hk', rfl, rfl, rfl, rfl, rfl, rfl, rfl, (show AV.sl (.own 14000) 9 ((recs ++ F.take k).map (fun r => AV.str (strOf r)) ++ [AV.str (strOf r)]) = sss (.own 14000) (recs ++ F.take (k + 1)) by rw [hs, ← List.append_assoc, sss, List.map_append (l₁ := recs ++ F.take k)]; rfl), rfl, rfl, rfl, rfl, rfl, congrArg (AV.int .i64) w2, rfl, rfl⟩
        · intro hb
          have hk' : k = F.length := by
            have : ¬ (k : Int) < ((F.map by8).length : Nat) := by simpa using hb
            simp at this; omega
          subst hk'
          rw [List.take_length]
          exact ⟨_, hlt, i + 1, turn, base, recs ++ F, d', ⟨hi', hJ'⟩, rfl, rfl, rfl, rfl, rfl, rfl, rfl, rfl, rfl, rfl, congrArg (AV.int .i64) w, rfl, rfl⟩
      · obtain ⟨m2, d2, o2, j2, l2, r2, u2, N, hN, hm2⟩ := hc.go (IntKind.i64.wrap (keep + (i : Int)))
        subst hm2
        refine ⟨fun h => Bool.noConfusion (show false = true from h), fun _ => ?_⟩
        refine ⟨rfl, .inr ⟨12, rfl, ?_⟩⟩
        refine ⟨fun h => Bool.noConfusion (show false = true from h), fun _ => ?_⟩
        refine ⟨[600, 500], [700000], [], 700000, rfl, _, rfl, ⟨turn, base, recs, true⟩, d', 2000000000, rfl, rfl, rfl, ?_⟩
        refine ⟨fun h => Bool.noConfusion (show false = true from h), fun _ => ?_⟩
        have hfew := (recs_few hj).1
        refine ⟨[600, 500], [700000], [], 700000, rfl, _, rfl, [.ptr 1000000000 0, bss .fz []], ⟨.inl rfl, .inr ⟨_, _, rfl, rfl⟩, trivial⟩, .inr (.inl ⟨⟨turn, base, recs, true⟩, d', 2000000000, [], hc.dg.ok, Nat.le_refl _, rfl, ⟨hj.t0, hj.t1⟩, Nat.le_trans hfew (by decide), (by simp), (by simp), rfl, rfl, rfl, ?_⟩)⟩
        refine ⟨rfl, .inr ⟨12, rfl, ?_⟩⟩
        refine ⟨fun h => Bool.noConfusion (show false = true from h), fun _ => ?_⟩
        refine ⟨[600, 500], [700000], [], 700000, rfl, _, rfl, [.ptr 1000000000 0, by8 []], ⟨.inl rfl, .inr ⟨_, _, rfl, rfl⟩, trivial⟩, .inr ⟨⟨turn, base, recs, true⟩, d', 2000000000, [], hc.dg.ok, Nat.le_refl _, rfl, ⟨hj.t0, hj.t1⟩, (by simp), rfl, rfl, rfl, ?_⟩⟩
        refine ⟨rfl, .inr ⟨12, rfl, ?_⟩⟩
        refine ⟨fun h => Bool.noConfusion (show false = true from h), fun _ => ?_⟩
        refine ⟨[500], [], [], 0, rfl, _, rfl, d', 2000000000, _, _, hc.dg.ok, Nat.le_refl _, rfl, rfl, rfl, rfl, ?_⟩
        refine ⟨[500], [], [800], 900000, rfl, _, rfl, restartD d' (IntKind.i64.wrap (keep + (i : Int))), 2000000000, _, hc.dg.restart _, rfl, rfl, Nat.le_refl _, o2, rfl, rfl, (fun h => by cases h), ?_⟩
        rintro _ _ ⟨⟩
        refine ⟨rfl, ?_⟩
        refine ⟨fun h => Bool.noConfusion (show false = true from h), fun _ => ?_⟩
        refine ⟨fun h => Bool.noConfusion (show false = true from h), fun _ => ?_⟩
        refine ⟨fun mm st => ∃ (k : Nat), (k ≤ N) ∧ N + 1 - k = mm ∧ st.t 3 = .int .u8 again ∧ st.t 12 = .str (strOf base) ∧ st.t 13 = .int .i64 turn ∧ st.t 14 = sss (.own 14000) (recs ++ F.take (k - 1)) ∧ st.t 16 = .ptr 16 0 ∧ st.t 23 = .ptr 800 0 ∧ st.t 25 = .int .i64 (k : Int) ∧ st.h 16 = some (.cells 64 [.int .u8 op, bss .fz arecs, by8 abytes]) ∧ st.h 500 = some (dkB d2 2000000000) ∧ st.h 800 = some (jBc 500 900000 ⟨turn, base, recs ++ F.take N, false⟩),
          ⟨_, 0, Nat.zero_le _, rfl, rfl, rfl, rfl, (show sss (.own 14000) recs = sss (.own 14000) (recs ++ F.take (0 - 1)) by rw [Nat.zero_sub, List.take_zero, List.append_nil]), rfl, rfl, rfl, rfl, rfl, rfl⟩, ?_⟩
        rintro _ ⟨t3, h3⟩ ⟨k, hk, rfl, e3, e12, e13, e14, e16, e23, e25, b16, b500, b800⟩
        have e3 : t3 3 = .int .u8 again := e3
        have e12 : t3 12 = .str (strOf base) := e12
        have e13 : t3 13 = .int .i64 turn := e13
        have e14 : t3 14 = sss (.own 14000) (recs ++ F.take (k - 1)) := e14
        have e16 : t3 16 = .ptr 16 0 := e16
        have e23 : t3 23 = .ptr 800 0 := e23
        have e25 : t3 25 = .int .i64 (k : Int) := e25
        have b16 : h3 16 = some (.cells 64 [.int .u8 op, bss .fz arecs, by8 abytes]) := b16
        have b500 : h3 500 = some (dkB d2 2000000000) := b500
        have b800 : h3 800 = some (jBc 500 900000 ⟨turn, base, recs ++ F.take N, false⟩) := b800
        rw [← updL_has t3 [(3, .int .u8 again), (12, .str (strOf base)), (13, .int .i64 turn), (14, sss (.own 14000) (recs ++ F.take (k - 1))), (16, .ptr 16 0), (23, .ptr 800 0), (25, .int .i64 (k : Int))] ⟨e3, e12, e13, e14, e16, e23, e25, trivial⟩, ← updL_has h3 [(16, some (.cells 64 [.int .u8 op, bss .fz arecs, by8 abytes])), (500, some (dkB d2 2000000000)), (800, some (jBc 500 900000 ⟨turn, base, recs ++ F.take N, false⟩))] ⟨b16, b500, b800, trivial⟩]
        refine ⟨rfl, ⟨op, arecs, abytes⟩, F, hFe, rfl, ?_⟩
        refine ⟨fun _ => ?_, fun h => absurd (of_decide_eq_false h) (by rw [List.length_map]; omega)⟩
        have wk : IntKind.i64.wrap ((k : Int) + 1) = ((k + 1 : Nat) : Int) := by rw [wrap_of] <;> omega
        have hroom7 : ¬ ¬ (d2.used : Int) + (frames [[again]]).length ≤ d2.room := by rw [frames_1, r2, hr, hJ.r]; have := hJ.u; omega
        have hrec1 : ∀ r ∈ [[again]], Rec r := fun r hr => by
          rw [List.mem_singleton.1 hr]
          exact ⟨by simp, fun c hc => by rw [List.mem_singleton.1 hc]; exact ⟨hg0, hg1⟩⟩
        simp only at hfew
        refine ⟨fun hk0 => ?_, fun hk0 => ?_⟩
        · have hk0 : (0 : Int) < k := of_decide_eq_true hk0
          obtain ⟨p, rfl⟩ : ∃ p, k = p + 1 := ⟨k - 1, by omega⟩
          have hp : p < F.length := by omega
          obtain ⟨r, hr⟩ : ∃ r, F[p]? = some r := ⟨_, List.getElem?_eq_getElem hp⟩
          have wp : IntKind.i64.wrap (((p + 1 : Nat) : Int) - 1) = (p : Int) := by rw [wrap_of] <;> omega
          have hs : F.take (p + 1) = F.take (p + 1 - 1) ++ [r] := by show F.take (p + 1) = F.take p ++ [r]; rw [List.take_add_one, hr]; rfl
          obtain ⟨X, hX⟩ : ∃ X, recs ++ F.take (p + 1) = X := ⟨_, rfl⟩
          have hlt3 : N + 1 - (p + 1 + 1) < N + 1 - (p + 1) := by omega
          have hsl : AV.sl (.own 14000) 9 ((recs ++ F.take (p + 1 - 1)).map (fun r => AV.str (strOf r)) ++ [AV.str (strOf r)]) = sss (.own 14000) X := by rw [← hX, hs, ← List.append_assoc, sss, List.map_append (l₁ := recs ++ F.take (p + 1 - 1))]; rfl
          have hXl : X.length = recs.length + (p + 1) := by rw [← hX, List.length_append, List.length_take]; omega
          refine ⟨rfl, ⟨op, arecs, abytes⟩, F, hFe, rfl, ?_⟩
          refine ⟨_, (show 0 ≤ IntKind.i64.wrap (((p + 1 : Nat) : Int) - 1) by rw [wp]; omega), (show (F.map by8)[(IntKind.i64.wrap (((p + 1 : Nat) : Int) - 1)).toNat]? = some (by8 r) by rw [wp]; exact map_of hr), ?_⟩
          refine ⟨r, rfl, ?_⟩
          refine ⟨(show (((recs ++ F.take (p + 1 - 1)).map fun r => AV.str (strOf r)).length + 1) * 16 ≤ 140737488355328 by rw [List.length_map, List.length_append, List.length_take]; omega), ?_⟩
          refine toldV hsl ?_
          by_cases hkN : p + 1 = N
          · subst hkN
            have j2 : JOK ⟨turn, base, X, false⟩ d2 := by rw [← hX]; exact j2
            rw [hX]
            refine ⟨[800, 500], [900000], [], 900000, rfl, _, rfl, ⟨turn, base, X, false⟩, d2, 2000000000, rfl, rfl, (Nat.le_trans (recs_few j2).1 (by decide)), (fun r hr => Nat.le_trans ((recs_few j2).2.1 r hr) (by decide)), rfl, ?_⟩
            refine ⟨[800, 500], [900000], [], 900000, rfl, _, rfl, ⟨turn, base, X, false⟩, d2, 2000000000, rfl, rfl, (Nat.le_trans (recs_few j2).2.2 (by decide)), rfl, ?_⟩
            refine ⟨base, rfl, ?_⟩
            refine ⟨fun h => absurd (show (!(strOf base == strOf base)) = true from h) (by rw [str_refl]; decide), fun _ => ?_⟩
            refine ⟨[800, 500], [900000], [], 900000, rfl, _, rfl, ⟨turn, base, X, false⟩, d2, 2000000000, rfl, rfl, rfl, ?_⟩
            refine ⟨fun h => absurd (show ((turn : Int) != turn) = true from h) (by simp), fun _ => ?_⟩
            refine ⟨fun h => absurd (bne_iff_ne.1 h) (by simp), fun _ => ?_⟩
            refine ⟨fun mm st => ∃ (kk : Nat), (kk ≤ X.length) ∧ X.length - kk = mm ∧ st.t 9 = bss .fz X ∧ st.t 2 = sss (.own 14000) X ∧ st.t 32 = .int .i64 ((X.map by8).length : Nat) ∧ st.t 33 = .int .i64 (kk : Int) ∧ st.t 1000003 = .int .u8 again ∧ st.t 1000012 = .str (strOf base) ∧ st.t 1000013 = .int .i64 turn ∧ st.t 1000014 = sss (.own 14000) X ∧ st.t 1000023 = .ptr 800 0 ∧ st.h 500 = some (dkB d2 2000000000) ∧ st.h 800 = some (jBc 500 900000 ⟨turn, base, X, false⟩),
              ⟨_, 0, Nat.zero_le _, rfl, rfl, rfl, rfl, rfl, rfl, rfl, rfl, rfl, rfl, rfl, rfl⟩, ?_⟩
            rintro _ ⟨q1, p1⟩ ⟨kk, hi, rfl, e9, e2, e32, e33, e1000003, e1000012, e1000013, e1000014, e1000023, b500, b800⟩
            have e9 : q1 9 = bss .fz X := e9
            have e2 : q1 2 = sss (.own 14000) X := e2
            have e32 : q1 32 = .int .i64 ((X.map by8).length : Nat) := e32
            have e33 : q1 33 = .int .i64 (kk : Int) := e33
            have e1000003 : q1 1000003 = .int .u8 again := e1000003
            have e1000012 : q1 1000012 = .str (strOf base) := e1000012
            have e1000013 : q1 1000013 = .int .i64 turn := e1000013
            have e1000014 : q1 1000014 = sss (.own 14000) X := e1000014
            have e1000023 : q1 1000023 = .ptr 800 0 := e1000023
            have b500 : p1 500 = some (dkB d2 2000000000) := b500
            have b800 : p1 800 = some (jBc 500 900000 ⟨turn, base, X, false⟩) := b800
            rw [← updL_has q1 [(9, bss .fz X), (2, sss (.own 14000) X), (32, .int .i64 ((X.map by8).length : Nat)), (33, .int .i64 (kk : Int)), (1000003, .int .u8 again), (1000012, .str (strOf base)), (1000013, .int .i64 turn), (1000014, sss (.own 14000) X), (1000023, .ptr 800 0)] ⟨e9, e2, e32, e33, e1000003, e1000012, e1000013, e1000014, e1000023, trivial⟩, ← updL_has p1 [(500, some (dkB d2 2000000000)), (800, some (jBc 500 900000 ⟨turn, base, X, false⟩))] ⟨b500, b800, trivial⟩]
            have hrl0 : X.length ≤ 1000000000000 := (Nat.le_trans (recs_few j2).1 (by decide))
            constructor
            · intro hb
              have hi' : kk < X.length := by
                have : (kk : Int) < ((X.map by8).length : Nat) := by simpa using hb
                simp at this; omega
              have w : IntKind.i64.wrap ((kk : Int) + 1) = ((kk + 1 : Nat) : Int) := by rw [wrap_of] <;> omega
              have hlt : X.length - (kk + 1) < X.length - kk := by omega
              obtain ⟨r, hx⟩ : ∃ x, X[kk]? = some x := ⟨_, List.getElem?_eq_getElem hi'⟩
              have hm := List.mem_of_getElem? hx
              refine ⟨_, Int.natCast_nonneg kk, map_of hx, ?_⟩
              refine ⟨_, Int.natCast_nonneg kk, map_of hx, ?_⟩
              refine ⟨r, rfl, ?_⟩
              refine ⟨fun h => absurd (show (!(strOf r == strOf r)) = true from h) (by rw [str_refl]; decide), fun _ => ?_⟩
              exact ⟨_, hlt, kk + 1, hi', rfl, rfl, rfl, rfl, congrArg (AV.int .i64) w, rfl, rfl, rfl, rfl, rfl, rfl, rfl⟩
            · intro hb
              have hi' : kk = X.length := by
                have : ¬ (kk : Int) < ((X.map by8).length : Nat) := by simpa using hb
                simp at this; omega
              subst hi'
              refine ⟨_, rfl, ?_⟩
              refine ⟨fun _ => ?_, fun h => Bool.noConfusion (show true = false from h)⟩
              refine ⟨[800, 500], [900000], [], 900000, rfl, _, rfl, [.ptr 1000000000 0, bss .fz [[again]]], ⟨.inl rfl, .inl rfl, trivial⟩, .inl ⟨⟨turn, base, X, false⟩, d2, 2000000000, [[again]], j2, Nat.le_refl _, (by simp), hrec1, rfl, rfl, fun d5 j5 r5 u5 l5 _ => ⟨rfl, ?_⟩, fun h => absurd h hroom7, fun _ h => absurd l2 h⟩⟩
              obtain ⟨Z, hZ⟩ : ∃ Z, X ++ [[again]] = Z := ⟨_, rfl⟩
              have j5 : JOK ⟨turn, base, Z, false⟩ d5 := by rw [← hZ]; exact j5
              refine ⟨fun _ => ?_, fun h => Bool.noConfusion (show true = false from h)⟩
              refine ⟨[again], rfl, ?_⟩
              have hXb := (recs_few j2).1
              refine ⟨(show ((X.map fun r => AV.str (strOf r)).length + 1) * 16 ≤ 140737488355328 by rw [List.length_map]; simp only at hXb; omega), ?_⟩
              refine toldV (show AV.sl (.own 14000) 9 (X.map (fun r => AV.str (strOf r)) ++ [AV.str (strOf [again])]) = sss (.own 14000) Z by rw [← hZ, sss, List.map_append]; rfl) ?_
              rw [hZ]
              refine ⟨[800, 500], [900000], [], 900000, rfl, _, rfl, ⟨turn, base, Z, false⟩, d5, 2000000000, rfl, rfl, (Nat.le_trans (recs_few j5).1 (by decide)), (fun r hr => Nat.le_trans ((recs_few j5).2.1 r hr) (by decide)), rfl, ?_⟩
              refine ⟨[800, 500], [900000], [], 900000, rfl, _, rfl, ⟨turn, base, Z, false⟩, d5, 2000000000, rfl, rfl, (Nat.le_trans (recs_few j5).2.2 (by decide)), rfl, ?_⟩
              refine ⟨base, rfl, ?_⟩
              refine ⟨fun h => absurd (show (!(strOf base == strOf base)) = true from h) (by rw [str_refl]; decide), fun _ => ?_⟩
              refine ⟨[800, 500], [900000], [], 900000, rfl, _, rfl, ⟨turn, base, Z, false⟩, d5, 2000000000, rfl, rfl, rfl, ?_⟩
              refine ⟨fun h => absurd (show ((turn : Int) != turn) = true from h) (by simp), fun _ => ?_⟩
              refine ⟨fun h => absurd (bne_iff_ne.1 h) (by simp), fun _ => ?_⟩
              refine ⟨fun mm st => ∃ (kk : Nat), (kk ≤ Z.length) ∧ Z.length - kk = mm ∧ st.t 9 = bss .fz Z ∧ st.t 2 = sss (.own 14000) Z ∧ st.t 32 = .int .i64 ((Z.map by8).length : Nat) ∧ st.t 33 = .int .i64 (kk : Int) ∧ st.t 1000200 = .bool true,
                ⟨_, 0, Nat.zero_le _, rfl, rfl, rfl, rfl, rfl, rfl⟩, ?_⟩
              rintro _ ⟨q1, p1⟩ ⟨kk, hi, rfl, e9, e2, e32, e33, e1000200⟩
              have e9 : q1 9 = bss .fz Z := e9
              have e2 : q1 2 = sss (.own 14000) Z := e2
              have e32 : q1 32 = .int .i64 ((Z.map by8).length : Nat) := e32
              have e33 : q1 33 = .int .i64 (kk : Int) := e33
              have e1000200 : q1 1000200 = .bool true := e1000200
              rw [← updL_has q1 [(9, bss .fz Z), (2, sss (.own 14000) Z), (32, .int .i64 ((Z.map by8).length : Nat)), (33, .int .i64 (kk : Int)), (1000200, .bool true)] ⟨e9, e2, e32, e33, e1000200, trivial⟩]
              have hrl0 : Z.length ≤ 1000000000000 := (Nat.le_trans (recs_few j5).1 (by decide))
              constructor
              · intro hb
                have hi' : kk < Z.length := by
                  have : (kk : Int) < ((Z.map by8).length : Nat) := by simpa using hb
                  simp at this; omega
                have w : IntKind.i64.wrap ((kk : Int) + 1) = ((kk + 1 : Nat) : Int) := by rw [wrap_of] <;> omega
                have hlt : Z.length - (kk + 1) < Z.length - kk := by omega
                obtain ⟨r, hx⟩ : ∃ x, Z[kk]? = some x := ⟨_, List.getElem?_eq_getElem hi'⟩
                have hm := List.mem_of_getElem? hx
                refine ⟨_, Int.natCast_nonneg kk, map_of hx, ?_⟩
                refine ⟨_, Int.natCast_nonneg kk, map_of hx, ?_⟩
                refine ⟨r, rfl, ?_⟩
                refine ⟨fun h => absurd (show (!(strOf r == strOf r)) = true from h) (by rw [str_refl]; decide), fun _ => ?_⟩
                exact ⟨_, hlt, kk + 1, hi', rfl, rfl, rfl, rfl, congrArg (AV.int .i64) w, rfl⟩
              · intro hb
                have hi' : kk = Z.length := by
                  have : ¬ (kk : Int) < ((Z.map by8).length : Nat) := by simpa using hb
                  simp at this; omega
                subst hi'
                refine ⟨_, rfl, ?_⟩
                exact hK
          · refine ⟨[800, 500], [900000], [], 900000, rfl, _, rfl, ⟨turn, base, recs ++ F.take N, false⟩, d2, 2000000000, rfl, rfl, (Nat.le_trans (recs_few j2).1 (by decide)), (fun r hr => Nat.le_trans ((recs_few j2).2.1 r hr) (by decide)), rfl, ?_⟩
            refine ⟨[800, 500], [900000], [], 900000, rfl, _, rfl, ⟨turn, base, recs ++ F.take N, false⟩, d2, 2000000000, rfl, rfl, (Nat.le_trans (recs_few j2).2.2 (by decide)), rfl, ?_⟩
            refine ⟨base, rfl, ?_⟩
            refine ⟨fun h => absurd (show (!(strOf base == strOf base)) = true from h) (by rw [str_refl]; decide), fun _ => ?_⟩
            refine ⟨[800, 500], [900000], [], 900000, rfl, _, rfl, ⟨turn, base, recs ++ F.take N, false⟩, d2, 2000000000, rfl, rfl, rfl, ?_⟩
            refine ⟨fun h => absurd (show ((turn : Int) != turn) = true from h) (by simp), fun _ => ?_⟩
            refine ⟨fun _ => ?_, fun h => absurd h (by rw [bne_eq_false_iff_eq]; simp only [List.length_map, List.length_append, List.length_take]; omega)⟩
            refine ⟨_, rfl, ?_⟩
            refine ⟨fun h => Bool.noConfusion (show false = true from h), fun _ => ?_⟩
            exact ⟨_, hlt3, p + 1 + 1, (by omega), rfl, rfl, rfl, rfl, (by show sss (.own 14000) X = sss (.own 14000) (recs ++ F.take (p + 1)); rw [hX]), rfl, rfl, congrArg (AV.int .i64) wk, rfl, rfl, rfl⟩
        · have hk0 : ¬ (0 : Int) < k := of_decide_eq_false hk0
          obtain rfl : k = 0 := by omega
          have hlt3 : N + 1 - (0 + 1) < N + 1 - 0 := by omega
          obtain ⟨X, hX⟩ : ∃ X, recs ++ F.take (0 - 1) = X := ⟨_, rfl⟩
          have hXr : X = recs := by rw [← hX]; simp
          by_cases hkN : 0 = N
          · subst hkN
            have hX0 : recs ++ F.take 0 = X := by rw [hXr]; simp
            have j2 : JOK ⟨turn, base, X, false⟩ d2 := by rw [← hX0]; exact j2
            rw [hX]
            try rw [hX0]
            refine ⟨[800, 500], [900000], [], 900000, rfl, _, rfl, ⟨turn, base, X, false⟩, d2, 2000000000, rfl, rfl, (Nat.le_trans (recs_few j2).1 (by decide)), (fun r hr => Nat.le_trans ((recs_few j2).2.1 r hr) (by decide)), rfl, ?_⟩
            refine ⟨[800, 500], [900000], [], 900000, rfl, _, rfl, ⟨turn, base, X, false⟩, d2, 2000000000, rfl, rfl, (Nat.le_trans (recs_few j2).2.2 (by decide)), rfl, ?_⟩
            refine ⟨base, rfl, ?_⟩
            refine ⟨fun h => absurd (show (!(strOf base == strOf base)) = true from h) (by rw [str_refl]; decide), fun _ => ?_⟩
            refine ⟨[800, 500], [900000], [], 900000, rfl, _, rfl, ⟨turn, base, X, false⟩, d2, 2000000000, rfl, rfl, rfl, ?_⟩
            refine ⟨fun h => absurd (show ((turn : Int) != turn) = true from h) (by simp), fun _ => ?_⟩
            refine ⟨fun h => absurd (bne_iff_ne.1 h) (by simp), fun _ => ?_⟩
            refine ⟨fun mm st => ∃ (kk : Nat), (kk ≤ X.length) ∧ X.length - kk = mm ∧ st.t 9 = bss .fz X ∧ st.t 2 = sss (.own 14000) X ∧ st.t 32 = .int .i64 ((X.map by8).length : Nat) ∧ st.t 33 = .int .i64 (kk : Int) ∧ st.t 1000003 = .int .u8 again ∧ st.t 1000012 = .str (strOf base) ∧ st.t 1000013 = .int .i64 turn ∧ st.t 1000014 = sss (.own 14000) X ∧ st.t 1000023 = .ptr 800 0 ∧ st.h 500 = some (dkB d2 2000000000) ∧ st.h 800 = some (jBc 500 900000 ⟨turn, base, X, false⟩),
              ⟨_, 0, Nat.zero_le _, rfl, rfl, rfl, rfl, rfl, rfl, rfl, rfl, rfl, rfl, rfl, rfl⟩, ?_⟩
            rintro _ ⟨q1, p1⟩ ⟨kk, hi, rfl, e9, e2, e32, e33, e1000003, e1000012, e1000013, e1000014, e1000023, b500, b800⟩
            have e9 : q1 9 = bss .fz X := e9
            have e2 : q1 2 = sss (.own 14000) X := e2
            have e32 : q1 32 = .int .i64 ((X.map by8).length : Nat) := e32
            have e33 : q1 33 = .int .i64 (kk : Int) := e33
            have e1000003 : q1 1000003 = .int .u8 again := e1000003
            have e1000012 : q1 1000012 = .str (strOf base) := e1000012
            have e1000013 : q1 1000013 = .int .i64 turn := e1000013
            have e1000014 : q1 1000014 = sss (.own 14000) X := e1000014
            have e1000023 : q1 1000023 = .ptr 800 0 := e1000023
            have b500 : p1 500 = some (dkB d2 2000000000) := b500
            have b800 : p1 800 = some (jBc 500 900000 ⟨turn, base, X, false⟩) := b800
            rw [← updL_has q1 [(9, bss .fz X), (2, sss (.own 14000) X), (32, .int .i64 ((X.map by8).length : Nat)), (33, .int .i64 (kk : Int)), (1000003, .int .u8 again), (1000012, .str (strOf base)), (1000013, .int .i64 turn), (1000014, sss (.own 14000) X), (1000023, .ptr 800 0)] ⟨e9, e2, e32, e33, e1000003, e1000012, e1000013, e1000014, e1000023, trivial⟩, ← updL_has p1 [(500, some (dkB d2 2000000000)), (800, some (jBc 500 900000 ⟨turn, base, X, false⟩))] ⟨b500, b800, trivial⟩]
            have hrl0 : X.length ≤ 1000000000000 := (Nat.le_trans (recs_few j2).1 (by decide))
            constructor
            · intro hb
              have hi' : kk < X.length := by
                have : (kk : Int) < ((X.map by8).length : Nat) := by simpa using hb
                simp at this; omega
              have w : IntKind.i64.wrap ((kk : Int) + 1) = ((kk + 1 : Nat) : Int) := by rw [wrap_of] <;> omega
              have hlt : X.length - (kk + 1) < X.length - kk := by omega
              obtain ⟨r, hx⟩ : ∃ x, X[kk]? = some x := ⟨_, List.getElem?_eq_getElem hi'⟩
              have hm := List.mem_of_getElem? hx
              refine ⟨_, Int.natCast_nonneg kk, map_of hx, ?_⟩
              refine ⟨_, Int.natCast_nonneg kk, map_of hx, ?_⟩
              refine ⟨r, rfl, ?_⟩
              refine ⟨fun h => absurd (show (!(strOf r == strOf r)) = true from h) (by rw [str_refl]; decide), fun _ => ?_⟩
              exact ⟨_, hlt, kk + 1, hi', rfl, rfl, rfl, rfl, congrArg (AV.int .i64) w, rfl, rfl, rfl, rfl, rfl, rfl, rfl⟩
            · intro hb
              have hi' : kk = X.length := by
                have : ¬ (kk : Int) < ((X.map by8).length : Nat) := by simpa using hb
                simp at this; omega
              subst hi'
              refine ⟨_, rfl, ?_⟩
              refine ⟨fun _ => ?_, fun h => Bool.noConfusion (show true = false from h)⟩
              refine ⟨[800, 500], [900000], [], 900000, rfl, _, rfl, [.ptr 1000000000 0, bss .fz [[again]]], ⟨.inl rfl, .inl rfl, trivial⟩, .inl ⟨⟨turn, base, X, false⟩, d2, 2000000000, [[again]], j2, Nat.le_refl _, (by simp), hrec1, rfl, rfl, fun d5 j5 r5 u5 l5 _ => ⟨rfl, ?_⟩, fun h => absurd h hroom7, fun _ h => absurd l2 h⟩⟩
              obtain ⟨Z, hZ⟩ : ∃ Z, X ++ [[again]] = Z := ⟨_, rfl⟩
              have j5 : JOK ⟨turn, base, Z, false⟩ d5 := by rw [← hZ]; exact j5
              refine ⟨fun _ => ?_, fun h => Bool.noConfusion (show true = false from h)⟩
              refine ⟨[again], rfl, ?_⟩
              have hXb := (recs_few j2).1
              refine ⟨(show ((X.map fun r => AV.str (strOf r)).length + 1) * 16 ≤ 140737488355328 by rw [List.length_map]; simp only at hXb; omega), ?_⟩
              refine toldV (show AV.sl (.own 14000) 9 (X.map (fun r => AV.str (strOf r)) ++ [AV.str (strOf [again])]) = sss (.own 14000) Z by rw [← hZ, sss, List.map_append]; rfl) ?_
              rw [hZ]
              refine ⟨[800, 500], [900000], [], 900000, rfl, _, rfl, ⟨turn, base, Z, false⟩, d5, 2000000000, rfl, rfl, (Nat.le_trans (recs_few j5).1 (by decide)), (fun r hr => Nat.le_trans ((recs_few j5).2.1 r hr) (by decide)), rfl, ?_⟩
              refine ⟨[800, 500], [900000], [], 900000, rfl, _, rfl, ⟨turn, base, Z, false⟩, d5, 2000000000, rfl, rfl, (Nat.le_trans (recs_few j5).2.2 (by decide)), rfl, ?_⟩
              refine ⟨base, rfl, ?_⟩
              refine ⟨fun h => absurd (show (!(strOf base == strOf base)) = true from h) (by rw [str_refl]; decide), fun _ => ?_⟩
              refine ⟨[800, 500], [900000], [], 900000, rfl, _, rfl, ⟨turn, base, Z, false⟩, d5, 2000000000, rfl, rfl, rfl, ?_⟩
              refine ⟨fun h => absurd (show ((turn : Int) != turn) = true from h) (by simp), fun _ => ?_⟩
              refine ⟨fun h => absurd (bne_iff_ne.1 h) (by simp), fun _ => ?_⟩
              refine ⟨fun mm st => ∃ (kk : Nat), (kk ≤ Z.length) ∧ Z.length - kk = mm ∧ st.t 9 = bss .fz Z ∧ st.t 2 = sss (.own 14000) Z ∧ st.t 32 = .int .i64 ((Z.map by8).length : Nat) ∧ st.t 33 = .int .i64 (kk : Int) ∧ st.t 1000200 = .bool true,
                ⟨_, 0, Nat.zero_le _, rfl, rfl, rfl, rfl, rfl, rfl⟩, ?_⟩
              rintro _ ⟨q1, p1⟩ ⟨kk, hi, rfl, e9, e2, e32, e33, e1000200⟩
              have e9 : q1 9 = bss .fz Z := e9
              have e2 : q1 2 = sss (.own 14000) Z := e2
              have e32 : q1 32 = .int .i64 ((Z.map by8).length : Nat) := e32
              have e33 : q1 33 = .int .i64 (kk : Int) := e33
              have e1000200 : q1 1000200 = .bool true := e1000200
              rw [← updL_has q1 [(9, bss .fz Z), (2, sss (.own 14000) Z), (32, .int .i64 ((Z.map by8).length : Nat)), (33, .int .i64 (kk : Int)), (1000200, .bool true)] ⟨e9, e2, e32, e33, e1000200, trivial⟩]
              have hrl0 : Z.length ≤ 1000000000000 := (Nat.le_trans (recs_few j5).1 (by decide))
              constructor
              · intro hb
                have hi' : kk < Z.length := by
                  have : (kk : Int) < ((Z.map by8).length : Nat) := by simpa using hb
                  simp at this; omega
                have w : IntKind.i64.wrap ((kk : Int) + 1) = ((kk + 1 : Nat) : Int) := by rw [wrap_of] <;> omega
                have hlt : Z.length - (kk + 1) < Z.length - kk := by omega
                obtain ⟨r, hx⟩ : ∃ x, Z[kk]? = some x := ⟨_, List.getElem?_eq_getElem hi'⟩
                have hm := List.mem_of_getElem? hx
                refine ⟨_, Int.natCast_nonneg kk, map_of hx, ?_⟩
                refine ⟨_, Int.natCast_nonneg kk, map_of hx, ?_⟩
                refine ⟨r, rfl, ?_⟩
                refine ⟨fun h => absurd (show (!(strOf r == strOf r)) = true from h) (by rw [str_refl]; decide), fun _ => ?_⟩
                exact ⟨_, hlt, kk + 1, hi', rfl, rfl, rfl, rfl, congrArg (AV.int .i64) w, rfl⟩
              · intro hb
                have hi' : kk = Z.length := by
                  have : ¬ (kk : Int) < ((Z.map by8).length : Nat) := by simpa using hb
                  simp at this; omega
                subst hi'
                refine ⟨_, rfl, ?_⟩
                exact hK
          · rw [hX]
            refine ⟨[800, 500], [900000], [], 900000, rfl, _, rfl, ⟨turn, base, recs ++ F.take N, false⟩, d2, 2000000000, rfl, rfl, (Nat.le_trans (recs_few j2).1 (by decide)), (fun r hr => Nat.le_trans ((recs_few j2).2.1 r hr) (by decide)), rfl, ?_⟩
            refine ⟨[800, 500], [900000], [], 900000, rfl, _, rfl, ⟨turn, base, recs ++ F.take N, false⟩, d2, 2000000000, rfl, rfl, (Nat.le_trans (recs_few j2).2.2 (by decide)), rfl, ?_⟩
            refine ⟨base, rfl, ?_⟩
            refine ⟨fun h => absurd (show (!(strOf base == strOf base)) = true from h) (by rw [str_refl]; decide), fun _ => ?_⟩
            refine ⟨[800, 500], [900000], [], 900000, rfl, _, rfl, ⟨turn, base, recs ++ F.take N, false⟩, d2, 2000000000, rfl, rfl, rfl, ?_⟩
            refine ⟨fun h => absurd (show ((turn : Int) != turn) = true from h) (by simp), fun _ => ?_⟩
            refine ⟨fun _ => ?_, fun h => absurd h (by rw [bne_eq_false_iff_eq, hXr]; simp only [List.length_map, List.length_append, List.length_take]; omega)⟩
            refine ⟨_, rfl, ?_⟩
            refine ⟨fun h => Bool.noConfusion (show false = true from h), fun _ => ?_⟩
            exact ⟨_, hlt3, 0 + 1, (by omega), rfl, rfl, rfl, rfl, (by show sss (.own 14000) X = sss (.own 14000) (recs ++ F.take 0); rw [hXr]; simp), rfl, rfl, congrArg (AV.int .i64) wk, rfl, rfl, rfl⟩
  · intro hb
    have hi' : i = L.length := by
      have : ¬ (i : Int) < ((L.map actA).length : Nat) := by simpa using hb
      simp at this; omega
    subst hi'
    refine ⟨[600, 500], [700000], [], 700000, rfl, _, rfl, ⟨turn, base, recs, false⟩, d, 2000000000, rfl, rfl, (Nat.le_trans (recs_few hJ.j).1 (by decide)), (fun r hr => Nat.le_trans ((recs_few hJ.j).2.1 r hr) (by decide)), rfl, ?_⟩
    refine ⟨[600, 500], [700000], [], 700000, rfl, _, rfl, ⟨turn, base, recs, false⟩, d, 2000000000, rfl, rfl, (Nat.le_trans (recs_few hJ.j).2.2 (by decide)), rfl, ?_⟩
    refine ⟨base, rfl, ?_⟩
    refine ⟨fun h => absurd (show (!(strOf base == strOf base)) = true from h) (by rw [str_refl]; decide), fun _ => ?_⟩
    refine ⟨[600, 500], [700000], [], 700000, rfl, _, rfl, ⟨turn, base, recs, false⟩, d, 2000000000, rfl, rfl, rfl, ?_⟩
    refine ⟨fun h => absurd (show ((turn : Int) != turn) = true from h) (by simp), fun _ => ?_⟩
    refine ⟨fun h => absurd (bne_iff_ne.1 h) (by simp), fun _ => ?_⟩
    refine ⟨fun mm st => ∃ (i : Nat), (i ≤ recs.length) ∧ recs.length - i = mm ∧ st.t 9 = bss .fz recs ∧ st.t 2 = sss (.own 14000) recs ∧ st.t 32 = .int .i64 ((recs.map by8).length : Nat) ∧ st.t 33 = .int .i64 (i : Int),
      ⟨_, 0, Nat.zero_le _, rfl, rfl, rfl, rfl, rfl⟩, ?_⟩
    rintro _ ⟨q1, p1⟩ ⟨i, hi, rfl, e9, e2, e32, e33⟩
    have e9 : q1 9 = bss .fz recs := e9
    have e2 : q1 2 = sss (.own 14000) recs := e2
    have e32 : q1 32 = .int .i64 ((recs.map by8).length : Nat) := e32
    have e33 : q1 33 = .int .i64 (i : Int) := e33
    rw [← updL_has q1 [(9, bss .fz recs), (2, sss (.own 14000) recs), (32, .int .i64 ((recs.map by8).length : Nat)), (33, .int .i64 (i : Int))] ⟨e9, e2, e32, e33, trivial⟩]
    have hrl0 : recs.length ≤ 1000000000000 := (Nat.le_trans (recs_few hJ.j).1 (by decide))
    constructor
    · intro hb
      have hi' : i < recs.length := by
        have : (i : Int) < ((recs.map by8).length : Nat) := by simpa using hb
        simp at this; omega
      have w : IntKind.i64.wrap ((i : Int) + 1) = ((i + 1 : Nat) : Int) := by rw [wrap_of] <;> omega
      have hlt : recs.length - (i + 1) < recs.length - i := by omega
      obtain ⟨r, hx⟩ : ∃ x, recs[i]? = some x := ⟨_, List.getElem?_eq_getElem hi'⟩
      have hm := List.mem_of_getElem? hx
      refine ⟨_, Int.natCast_nonneg i, map_of hx, ?_⟩
      refine ⟨_, Int.natCast_nonneg i, map_of hx, ?_⟩
      refine ⟨r, rfl, ?_⟩
      refine ⟨fun h => absurd (show (!(strOf r == strOf r)) = true from h) (by rw [str_refl]; decide), fun _ => ?_⟩
      exact ⟨_, hlt, i + 1, hi', rfl, rfl, rfl, rfl, congrArg (AV.int .i64) w⟩
    · intro hb
      have hi' : i = recs.length := by
        have : ¬ (i : Int) < ((recs.map by8).length : Nat) := by simpa using hb
        simp at this; omega
      subst hi'
      refine ⟨_, rfl, ?_⟩
      exact hK
end Go.Proofs.YtbpcofnhndgoeaaDoor.A
