/- JournalScript, walked. -/
import Derived.Test.YtbpcofnhndgoeaaJL0
namespace Go.Proofs.Ytbpcofnhndgoeaa.A
open Go Q
structure ActM where
  op : Int
  recs : List (List Int)
  bytes : List Int
/-- An act of these numbers is right. -/
def ActM.In (a : ActM) : Prop := (0 ≤ a.op ∧ a.op < 256) ∧ (∀ r ∈ a.recs, byteL r) ∧ byteL a.bytes
abbrev actA (a : ActM) : AV := .agg [.int .u8 a.op, bss .fz a.recs, by8 a.bytes]
def ActM.few (a : ActM) : List (List Int) := fewM (a.recs.take 4)
def ActM.byt (a : ActM) : List Int := a.bytes.take 500
def RFa : Contract
  | 7 => fewC1
  | _ => fun _ _ _ => False
theorem RFa_ok : CallOk Try.prog tab RFa := by
  intro f args bs K h
  unfold RFa at h
  split at h
  · exact ⟨_, h, few_ok1⟩
  · exact h.elim
def RFa_E (pl : Nat → Plan) : En := ⟨tab, RFa, fun _ => none, 0, pl⟩
theorem RFa_J (pl : Nat → Plan) : JOk Try.prog (RFa_E pl).T (RFa_E pl).J := fun _ _ h => by cases h
def fewAC (args : List AV) (bs : List Box) (K : Kon) : Prop := bs = [] ∧ ∃ (a : ActM) (l : List (List Int)), a.few = l ∧ args = [actA a] ∧ K (bss (.own 10000) l) []
theorem min_n (n : Nat) (l : Nat) : (if (n : Int) < (l : Int) then (n : Int) else (l : Int)) = ((min n l : Nat) : Int) := by split <;> omega
set_option maxRecDepth 200000 in
theorem fewA_ok : FnOk Try.prog tab 21 fewAC := by
  refine fn_ok (E := RFa_E pl21) tab_is RFa_ok (RFa_J _) Try.func21 rfl rfl (by kernel_rfl) ?_
  rintro args bs K ⟨rfl, ⟨op, recs, bytes⟩, l, hl, rfl, hK⟩
  refine ⟨rfl, ?_⟩
  have e : (if (4 : Int) < (((recs.map by8).length : Nat) : Int) then (4 : Int) else (((recs.map by8).length : Nat) : Int)) = ((min 4 recs.length : Nat) : Int) := by rw [List.length_map]; exact min_n 4 _
  refine ⟨(by rw [e]; omega), Nat.zero_le _, (show (if (4 : Int) < (((recs.map by8).length : Nat) : Int) then (4 : Int) else (((recs.map by8).length : Nat) : Int)).toNat ≤ (recs.map by8).length by rw [e, List.length_map]; omega), ?_⟩
  have hs : AV.sl .fz 29 (((recs.map by8).take (if (4 : Int) < (((recs.map by8).length : Nat) : Int) then (4 : Int) else (((recs.map by8).length : Nat) : Int)).toNat).drop 0) = bss .fz (recs.take 4) := by
    rw [e, Int.toNat_natCast, List.drop_zero, ← List.map_take, bss]
    congr 2
    rcases Nat.le_total 4 recs.length with h | h
    · rw [Nat.min_eq_left h]
    · rw [Nat.min_eq_right h, List.take_length, List.take_of_length_le h]
  refine ⟨rfl, recs.take 4, congrArg (fun v => [v]) hs, (by rw [List.length_take]; omega), ?_⟩
  have hl : fewM (recs.take 4) = l := hl
  rw [hl]
  exact hK
def bytAC (args : List AV) (bs : List Box) (K : Kon) : Prop := bs = [] ∧ ∃ (a : ActM) (l : List Int), a.byt = l ∧ args = [actA a] ∧ K (by8 l) []
set_option maxRecDepth 200000 in
theorem bytA_ok : FnOk Try.prog tab 20 bytAC := by
  refine fn_ok (E := RFa_E pl20) tab_is RFa_ok (RFa_J _) Try.func20 rfl rfl (by kernel_rfl) ?_
  rintro args bs K ⟨rfl, ⟨op, recs, bytes⟩, l, hl, rfl, hK⟩
  refine ⟨rfl, ?_⟩
  obtain ⟨hb, hbe, hb1, hb2, hb3⟩ := min500 bytes
  rw [hbe] at hb1 hb2
  refine ⟨hb3, Nat.zero_le _, hb2, ?_⟩
  have hl : bytes.take 500 = l := hl
  have fin : ∀ v, v = by8 l → K v [] := fun v h => h ▸ hK
  refine fin _ ?_
  rw [← hl, ← take500 bytes]
  exact cut8.symm
theorem ActM.In.few {a : ActM} (h : a.In) : (∀ r ∈ a.few, Rec r) ∧ a.few.length ≤ 4 ∧ (frames a.few).length ≤ 2024 := by
  have h1 : ∀ r ∈ a.few, Rec r := few_rec fun r hr => h.2.1 r (List.mem_of_mem_take hr)
  have h2 : a.few.length ≤ 4 := by
    unfold ActM.few fewM
    rw [List.length_map, List.length_take, List.length_take]; omega
  refine ⟨h1, h2, ?_⟩
  have h3 : ∀ l : List (List Int), (∀ r ∈ l, r.length ≤ 500) → (frames l).length ≤ 506 * l.length := fun l => by
    induction l with
    | nil => intro _; simp [frames]
    | cons r l ih =>
      intro h
      have : frames (r :: l) = frameB r ++ frames l := by simp [frames]
      rw [this, List.length_append, frame_len]
      have h1 := h r (.head _)
      have h2 := ih fun q hq => h q (.tail _ hq)
      simp only [List.length_cons]
      omega
  have := h3 a.few few_each
  omega
theorem ActM.In.byt {a : ActM} (h : a.In) : byteL a.byt ∧ a.byt.length ≤ 500 := ⟨byteL_take h.2.2 _, by unfold ActM.byt; rw [List.length_take]; omega⟩
def RSc4 : Contract
  | 14 => awake6C
  | 21 => fewAC
  | 20 => bytAC
  | _ => fun _ _ _ => False
theorem RSc4_ok : CallOk Try.prog tab RSc4 := by
  intro f args bs K h
  unfold RSc4 at h
  split at h
  · exact ⟨_, h, awake6_ok⟩
  · exact ⟨_, h, fewA_ok⟩
  · exact ⟨_, h, bytA_ok⟩
  · exact h.elim
def RSc4_E (pl : Nat → Plan) : En := ⟨tab, RSc4, fun _ => none, 0, pl⟩
theorem RSc4_J (pl : Nat → Plan) : JOk Try.prog (RSc4_E pl).T (RSc4_E pl).J := fun _ _ h => by cases h
noncomputable def S4_E (pl : Nat → Plan) : En := ⟨tab, RSc4, JLw, 0, pl⟩
def scriptL (args : List AV) (bs : List Box) (K : Kon) : Prop := bs = [] ∧ ∃ acts : List ActM, args = [.sl .fz 49 (acts.map actA)] ∧ (∀ a ∈ acts, a.In) ∧ K (.bool true) []
/-- A script's journal: what was there is there. -/
structure ScI (i : Nat) (turn : Int) (base : List Int) (recs : List (List Int)) (d : Dk) : Prop where
  j : JOK ⟨turn, base, recs, false⟩ d
  l : d.left = -1
  r : d.room = 262144
  u : d.used ≤ 2100 * i
  t : turn ≤ i
set_option maxRecDepth 200000 in
set_option maxHeartbeats 16000000 in
theorem script_ok : FnOk Try.prog tab 5 scriptL := by
  refine fn_ok (E := S4_E pl5) tab_is RSc4_ok JLw_ok Try.func5 rfl rfl (by kernel_rfl) ?_
  rintro args bs K ⟨rfl, acts, rfl, hin, hK⟩
  refine ⟨rfl, ?_⟩
  refine ⟨rfl, rfl, ?_⟩
  refine ⟨fun h => Bool.noConfusion (show false = true from h), fun _ => ?_⟩
  have e : (if (60 : Int) < (((acts.map actA).length : Nat) : Int) then (60 : Int) else (((acts.map actA).length : Nat) : Int)) = ((min 60 acts.length : Nat) : Int) := by rw [List.length_map]; exact min_n 60 _
  refine ⟨(by rw [e]; omega), Nat.zero_le _, (show (if (60 : Int) < (((acts.map actA).length : Nat) : Int) then (60 : Int) else (((acts.map actA).length : Nat) : Int)).toNat ≤ (acts.map actA).length by rw [e, List.length_map]; omega), ?_⟩
  obtain ⟨L, hL⟩ : ∃ L, acts.take (min 60 acts.length) = L := ⟨_, rfl⟩
  have hL60 : L.length ≤ 60 := by rw [← hL, List.length_take]; omega
  have hLin : ∀ a ∈ L, a.In := fun a ha => hin a (by rw [← hL] at ha; exact List.mem_of_mem_take ha)
  have hLm : ((acts.map actA).take (if (60 : Int) < (((acts.map actA).length : Nat) : Int) then (60 : Int) else (((acts.map actA).length : Nat) : Int)).toNat).drop 0 = L.map actA := by
    rw [e, Int.toNat_natCast, List.drop_zero, ← List.map_take, hL]
  refine toldV (v' := .sl .fz 49 (L.map actA)) (congrArg (AV.sl .fz 49) hLm) ?_
  obtain ⟨d1, o1, j1, l1, r1, u1⟩ := JOK.first 262144
  have r1 : d1.room = 262144 := r1
  refine ⟨[], [], [500], 0, rfl, _, rfl, 262144, 2000000000, Nat.le_refl _, rfl, rfl, rfl, ?_⟩
  refine ⟨[500], [], [600], 700000, rfl, _, rfl, newD 262144, 2000000000, _, (JOK.new 262144).dg, rfl, rfl, Nat.le_refl _, o1, rfl, rfl, (fun h => by cases h), ?_⟩
  rintro _ _ ⟨⟩
  refine ⟨rfl, ?_⟩
  refine ⟨fun h => Bool.noConfusion (show false = true from h), fun _ => ?_⟩
  refine ⟨fun h => Bool.noConfusion (show false = true from h), fun _ => ?_⟩
  refine ⟨[600, 500], [700000], [], 700000, rfl, _, rfl, ⟨0, [], [], false⟩, d1, 2000000000, rfl, rfl, (Nat.le_trans (recs_few j1).1 (by decide)), (fun r hr => Nat.le_trans ((recs_few j1).2.1 r hr) (by decide)), rfl, ?_⟩
  refine ⟨[600, 500], [700000], [], 700000, rfl, _, rfl, ⟨0, [], [], false⟩, d1, 2000000000, rfl, rfl, (by simp), rfl, ?_⟩
  refine ⟨[], rfl, ?_⟩
  refine ⟨fun h => absurd (show (!(strOf [] == strOf [])) = true from h) (by rw [str_refl]; decide), fun _ => ?_⟩
  refine ⟨[600, 500], [700000], [], 700000, rfl, _, rfl, ⟨0, [], [], false⟩, d1, 2000000000, rfl, rfl, rfl, ?_⟩
  refine ⟨fun h => absurd (show ((0 : Int) != 0) = true from h) (by simp), fun _ => ?_⟩
  refine ⟨fun h => absurd (bne_iff_ne.1 h) (by simp), fun _ => ?_⟩
  refine loopR 1 (roundsR_succ ?_)
  refine ⟨fun h => Bool.noConfusion (show false = true from h), fun _ => ?_⟩
  refine ⟨_, rfl, ?_⟩
  refine ⟨fun h => Bool.noConfusion (show false = true from h), fun _ => ?_⟩
  refine ⟨fun mm st => ∃ (i : Nat) (turn : Int) (base : List Int) (recs : List (List Int)) (d : Dk), (i ≤ L.length ∧ ScI i turn base recs d) ∧ L.length - i = mm ∧ st.t 3 = .ptr 500 0 ∧ st.t 4 = .ptr 600 0 ∧ st.t 6 = .str (strOf base) ∧ st.t 7 = .int .i64 turn ∧ st.t 8 = sO 62000 recs ∧ st.t 37 = .sl .fz 49 (L.map actA) ∧ st.t 38 = .int .i64 ((L.map actA).length : Nat) ∧ st.t 39 = .int .i64 (i : Int) ∧ st.h 500 = some (dkB d 2000000000) ∧ st.h 600 = some (jBc 500 700000 ⟨turn, base, recs, false⟩),
    ⟨_, 0, 0, [], [], d1, ⟨Nat.zero_le _, ⟨j1, l1, r1, by omega, by decide⟩⟩, rfl, rfl, rfl, rfl, rfl, rfl, rfl, rfl, rfl, rfl, rfl⟩, ?_⟩
  rintro _ ⟨t1, h1⟩ ⟨i, turn, base, recs, d, ⟨hi, hJ⟩, rfl, e3, e4, e6, e7, e8, e37, e38, e39, b500, b600⟩
  have e3 : t1 3 = .ptr 500 0 := e3
  have e4 : t1 4 = .ptr 600 0 := e4
  have e6 : t1 6 = .str (strOf base) := e6
  have e7 : t1 7 = .int .i64 turn := e7
  have e8 : t1 8 = sO 62000 recs := e8
  have e37 : t1 37 = .sl .fz 49 (L.map actA) := e37
  have e38 : t1 38 = .int .i64 ((L.map actA).length : Nat) := e38
  have e39 : t1 39 = .int .i64 (i : Int) := e39
  have b500 : h1 500 = some (dkB d 2000000000) := b500
  have b600 : h1 600 = some (jBc 500 700000 ⟨turn, base, recs, false⟩) := b600
  rw [← updL_has t1 [(3, .ptr 500 0), (4, .ptr 600 0), (6, .str (strOf base)), (7, .int .i64 turn), (8, sO 62000 recs), (37, .sl .fz 49 (L.map actA)), (38, .int .i64 ((L.map actA).length : Nat)), (39, .int .i64 (i : Int))] ⟨e3, e4, e6, e7, e8, e37, e38, e39, trivial⟩, ← updL_has h1 [(500, some (dkB d 2000000000)), (600, some (jBc 500 700000 ⟨turn, base, recs, false⟩))] ⟨b500, b600, trivial⟩]
  constructor
  · intro hb
    have hi' : i < L.length := by
      have : (i : Int) < ((L.map actA).length : Nat) := by simpa using hb
      simp at this; omega
    have w : IntKind.i64.wrap ((i : Int) + 1) = ((i + 1 : Nat) : Int) := by rw [wrap_of] <;> omega
    have hlt : L.length - (i + 1) < L.length - i := by omega
    obtain ⟨a, hx⟩ : ∃ x, L[i]? = some x := ⟨_, List.getElem?_eq_getElem hi'⟩
    have hm := List.mem_of_getElem? hx
    refine ⟨_, Int.natCast_nonneg i, map_of hx, ?_⟩
    obtain ⟨op, arecs, abytes⟩ := a
    have hA := hLin _ hm
    obtain ⟨hf1, hf2, hf3⟩ := hA.few
    obtain ⟨hb1, hb2⟩ := hA.byt
    obtain ⟨B, hBe⟩ : ∃ B, ActM.byt ⟨op, arecs, abytes⟩ = B := ⟨_, rfl⟩
    obtain ⟨F, hFe⟩ : ∃ F, ActM.few ⟨op, arecs, abytes⟩ = F := ⟨_, rfl⟩
    rw [hBe] at hb1 hb2
    rw [hFe] at hf1 hf2 hf3
    have hj := hJ.j
    have ht0 := hj.t0
    have ht1 := hJ.t
    simp only at ht0
    have hpl := putI_len (turn + 1)
    refine ⟨(by decide : (4 : Int) ≠ 0), ?_⟩
    refine ⟨fun h0 => ?_, fun h0 => ?_⟩
    · refine ⟨rfl, ⟨op, arecs, abytes⟩, B, hBe, rfl, ?_⟩
      refine ⟨[600, 500], [700000], [], 700000, rfl, _, rfl, [.ptr 1000000000 0, by8 B], ⟨.inl rfl, .inl rfl, trivial⟩, .inl ⟨⟨turn, base, recs, false⟩, d, 2000000000, B, hj, Nat.le_refl _, (show turn + 1 < 4611686018427387904 by omega), (by omega), hb1, rfl, rfl, fun h => absurd h (by simp only [List.length_append]; omega), fun _ => ⟨fun d' j' r' u' l' _ => ⟨rfl, ?_⟩, fun h => absurd h (by rw [hJ.r, frame_len]; have := hJ.u; simp only [List.length_append]; omega), fun _ _ h => absurd hJ.l h⟩⟩⟩
      refine ⟨fun h => Bool.noConfusion (show false = true from h), fun _ => ?_⟩
      refine ⟨rfl, ⟨op, arecs, abytes⟩, B, hBe, rfl, ?_⟩
      refine ⟨B, rfl, ?_⟩
      have hw1 : IntKind.i64.wrap (turn + 1) = turn + 1 := wrap_of (by omega) (by omega)
      have hJ' : ScI (i + 1) (turn + 1) B [] d' := ⟨j', l' hJ.l, r'.trans hJ.r, by rw [u', frame_len]; simp only [List.length_append]; omega, by omega⟩
      refine ⟨[600, 500], [700000], [], 700000, rfl, _, rfl, ⟨turn + 1, B, [], false⟩, d', 2000000000, rfl, rfl, (Nat.le_trans (recs_few hJ'.j).1 (by decide)), (fun r hr => Nat.le_trans ((recs_few hJ'.j).2.1 r hr) (by decide)), rfl, ?_⟩
      refine ⟨[600, 500], [700000], [], 700000, rfl, _, rfl, ⟨turn + 1, B, [], false⟩, d', 2000000000, rfl, rfl, (Nat.le_trans (recs_few hJ'.j).2.2 (by decide)), rfl, ?_⟩
      refine ⟨B, rfl, ?_⟩
      refine ⟨fun h => absurd (show (!(strOf B == strOf B)) = true from h) (by rw [str_refl]; decide), fun _ => ?_⟩
      refine ⟨[600, 500], [700000], [], 700000, rfl, _, rfl, ⟨turn + 1, B, [], false⟩, d', 2000000000, rfl, rfl, rfl, ?_⟩
      refine ⟨fun h => absurd (show ((turn + 1 : Int) != IntKind.i64.wrap (turn + 1)) = true from h) (by rw [hw1]; simp), fun _ => ?_⟩
      refine ⟨fun h => absurd (bne_iff_ne.1 h) (by simp), fun _ => ?_⟩
      refine loopR 1 (roundsR_succ ?_)
      refine ⟨fun h => Bool.noConfusion (show false = true from h), fun _ => ?_⟩
      refine ⟨_, rfl, ?_⟩
      refine ⟨fun h => Bool.noConfusion (show false = true from h), fun _ => ?_⟩
      refine ⟨[600, 500], [700000], [], 700000, rfl, _, rfl, ⟨turn + 1, B, [], false⟩, d', 2000000000, rfl, rfl, rfl, ?_⟩
      refine ⟨fun h => Bool.noConfusion (show false = true from h), fun _ => ?_⟩
      exact ⟨_, hlt, i + 1, turn + 1, B, [], d', ⟨hi', hJ'⟩, rfl, rfl, rfl, rfl, congrArg (AV.int .i64) hw1, rfl, rfl, rfl, congrArg (AV.int .i64) w, rfl, rfl⟩
    · refine ⟨fun h1 => ?_, fun h1 => ?_⟩
      · obtain ⟨d2, o2, j2, l2, r2, u2⟩ := hj.shut (IntKind.i64.wrap op)
        refine ⟨[500], [], [], 0, rfl, _, rfl, d, 2000000000, _, _, hj.dg.ok, Nat.le_refl _, rfl, rfl, rfl, rfl, ?_⟩
        refine ⟨[500], [], [600], 700000, rfl, _, rfl, restartD d (IntKind.i64.wrap op), 2000000000, _, (hj.restart _).dg, rfl, rfl, Nat.le_refl _, o2, rfl, rfl, (fun h => by cases h), ?_⟩
        rintro _ _ ⟨⟩
        refine ⟨rfl, ?_⟩
        refine ⟨fun h => Bool.noConfusion (show false = true from h), fun _ => ?_⟩
        refine ⟨fun h => Bool.noConfusion (show false = true from h), fun _ => ?_⟩
        have hJ' : ScI (i + 1) turn base recs d2 := ⟨j2, l2, r2.trans hJ.r, by have := hJ.u; omega, by omega⟩
        by_cases hne : recs = []
        · rw [hne] at hJ' ⊢
          refine ⟨[600, 500], [700000], [], 700000, rfl, _, rfl, ⟨turn, base, [], false⟩, d2, 2000000000, rfl, rfl, (Nat.le_trans (recs_few hJ'.j).1 (by decide)), (fun r hr => Nat.le_trans ((recs_few hJ'.j).2.1 r hr) (by decide)), rfl, ?_⟩
          refine ⟨[600, 500], [700000], [], 700000, rfl, _, rfl, ⟨turn, base, [], false⟩, d2, 2000000000, rfl, rfl, (Nat.le_trans (recs_few hJ'.j).2.2 (by decide)), rfl, ?_⟩
          refine ⟨base, rfl, ?_⟩
          refine ⟨fun h => absurd (show (!(strOf base == strOf base)) = true from h) (by rw [str_refl]; decide), fun _ => ?_⟩
          refine ⟨[600, 500], [700000], [], 700000, rfl, _, rfl, ⟨turn, base, [], false⟩, d2, 2000000000, rfl, rfl, rfl, ?_⟩
          refine ⟨fun h => absurd (show ((turn : Int) != turn) = true from h) (by simp), fun _ => ?_⟩
          refine ⟨fun h => absurd (bne_iff_ne.1 h) (by simp), fun _ => ?_⟩
          refine loopR 1 (roundsR_succ ?_)
          refine ⟨fun h => Bool.noConfusion (show false = true from h), fun _ => ?_⟩
          refine ⟨_, rfl, ?_⟩
          refine ⟨fun h => Bool.noConfusion (show false = true from h), fun _ => ?_⟩
          refine ⟨[600, 500], [700000], [], 700000, rfl, _, rfl, ⟨turn, base, [], false⟩, d2, 2000000000, rfl, rfl, rfl, ?_⟩
          refine ⟨fun h => Bool.noConfusion (show false = true from h), fun _ => ?_⟩
          exact ⟨_, hlt, i + 1, turn, base, [], d2, ⟨hi', hJ'⟩, rfl, rfl, rfl, rfl, rfl, rfl, rfl, rfl, congrArg (AV.int .i64) w, rfl, rfl⟩
        · rw [sO_own hne]
          refine ⟨[600, 500], [700000], [], 700000, rfl, _, rfl, ⟨turn, base, recs, false⟩, d2, 2000000000, rfl, rfl, (Nat.le_trans (recs_few hJ'.j).1 (by decide)), (fun r hr => Nat.le_trans ((recs_few hJ'.j).2.1 r hr) (by decide)), rfl, ?_⟩
          refine ⟨[600, 500], [700000], [], 700000, rfl, _, rfl, ⟨turn, base, recs, false⟩, d2, 2000000000, rfl, rfl, (Nat.le_trans (recs_few hJ'.j).2.2 (by decide)), rfl, ?_⟩
          refine ⟨base, rfl, ?_⟩
          refine ⟨fun h => absurd (show (!(strOf base == strOf base)) = true from h) (by rw [str_refl]; decide), fun _ => ?_⟩
          refine ⟨[600, 500], [700000], [], 700000, rfl, _, rfl, ⟨turn, base, recs, false⟩, d2, 2000000000, rfl, rfl, rfl, ?_⟩
          refine ⟨fun h => absurd (show ((turn : Int) != turn) = true from h) (by simp), fun _ => ?_⟩
          refine ⟨fun h => absurd (bne_iff_ne.1 h) (by simp), fun _ => ?_⟩
          refine ⟨fun mm st => ∃ (kk : Nat), (kk ≤ recs.length) ∧ recs.length - kk = mm ∧ st.t 9 = bss .fz recs ∧ st.t 2 = sss (.own 62000) recs ∧ st.t 32 = .int .i64 ((recs.map by8).length : Nat) ∧ st.t 33 = .int .i64 (kk : Int) ∧ st.t 1000003 = .ptr 500 0 ∧ st.t 1000004 = .ptr 600 0 ∧ st.t 1000006 = .str (strOf base) ∧ st.t 1000007 = .int .i64 turn ∧ st.t 1000008 = sss (.own 62000) recs ∧ st.t 1000037 = .sl .fz 49 (L.map actA) ∧ st.t 1000038 = .int .i64 ((L.map actA).length : Nat) ∧ st.t 1000039 = .int .i64 (i : Int) ∧ st.h 500 = some (dkB d2 2000000000) ∧ st.h 600 = some (jBc 500 700000 ⟨turn, base, recs, false⟩),
            ⟨_, 0, Nat.zero_le _, rfl, rfl, rfl, rfl, rfl, rfl, rfl, rfl, rfl, rfl, rfl, rfl, rfl, rfl, rfl⟩, ?_⟩
          rintro _ ⟨q1, p1⟩ ⟨kk, hi, rfl, e9, e2, e32, e33, e1000003, e1000004, e1000006, e1000007, e1000008, e1000037, e1000038, e1000039, b500, b600⟩
          have e9 : q1 9 = bss .fz recs := e9
          have e2 : q1 2 = sss (.own 62000) recs := e2
          have e32 : q1 32 = .int .i64 ((recs.map by8).length : Nat) := e32
          have e33 : q1 33 = .int .i64 (kk : Int) := e33
          have e1000003 : q1 1000003 = .ptr 500 0 := e1000003
          have e1000004 : q1 1000004 = .ptr 600 0 := e1000004
          have e1000006 : q1 1000006 = .str (strOf base) := e1000006
          have e1000007 : q1 1000007 = .int .i64 turn := e1000007
          have e1000008 : q1 1000008 = sss (.own 62000) recs := e1000008
          have e1000037 : q1 1000037 = .sl .fz 49 (L.map actA) := e1000037
          have e1000038 : q1 1000038 = .int .i64 ((L.map actA).length : Nat) := e1000038
          have e1000039 : q1 1000039 = .int .i64 (i : Int) := e1000039
          have b500 : p1 500 = some (dkB d2 2000000000) := b500
          have b600 : p1 600 = some (jBc 500 700000 ⟨turn, base, recs, false⟩) := b600
          rw [← updL_has q1 [(9, bss .fz recs), (2, sss (.own 62000) recs), (32, .int .i64 ((recs.map by8).length : Nat)), (33, .int .i64 (kk : Int)), (1000003, .ptr 500 0), (1000004, .ptr 600 0), (1000006, .str (strOf base)), (1000007, .int .i64 turn), (1000008, sss (.own 62000) recs), (1000037, .sl .fz 49 (L.map actA)), (1000038, .int .i64 ((L.map actA).length : Nat)), (1000039, .int .i64 (i : Int))] ⟨e9, e2, e32, e33, e1000003, e1000004, e1000006, e1000007, e1000008, e1000037, e1000038, e1000039, trivial⟩, ← updL_has p1 [(500, some (dkB d2 2000000000)), (600, some (jBc 500 700000 ⟨turn, base, recs, false⟩))] ⟨b500, b600, trivial⟩]
          have hrl0 : recs.length ≤ 1000000000000 := (Nat.le_trans (recs_few hJ'.j).1 (by decide))
          constructor
          · intro hb
            have hk3 : kk < recs.length := by
              have : (kk : Int) < ((recs.map by8).length : Nat) := by simpa using hb
              simp at this; omega
            have w3 : IntKind.i64.wrap ((kk : Int) + 1) = ((kk + 1 : Nat) : Int) := by rw [wrap_of] <;> omega
            have hlt3 : recs.length - (kk + 1) < recs.length - kk := by omega
            obtain ⟨r, hx⟩ : ∃ x, recs[kk]? = some x := ⟨_, List.getElem?_eq_getElem hk3⟩
            have hm3 := List.mem_of_getElem? hx
            refine ⟨_, Int.natCast_nonneg kk, map_of hx, ?_⟩
            refine ⟨_, Int.natCast_nonneg kk, map_of hx, ?_⟩
            refine ⟨r, rfl, ?_⟩
            refine ⟨fun h => absurd (show (!(strOf r == strOf r)) = true from h) (by rw [str_refl]; decide), fun _ => ?_⟩
            exact ⟨_, hlt3, kk + 1, hk3, rfl, rfl, rfl, rfl, congrArg (AV.int .i64) w3, rfl, rfl, rfl, rfl, rfl, rfl, rfl, rfl, rfl, rfl⟩
          · intro hb
            have hk3 : kk = recs.length := by
              have : ¬ (kk : Int) < ((recs.map by8).length : Nat) := by simpa using hb
              simp at this; omega
            subst hk3
            refine ⟨_, rfl, ?_⟩
            refine ⟨fun h => Bool.noConfusion (show false = true from h), fun _ => ?_⟩
            refine ⟨[600, 500], [700000], [], 700000, rfl, _, rfl, ⟨turn, base, recs, false⟩, d2, 2000000000, rfl, rfl, rfl, ?_⟩
            refine ⟨fun h => Bool.noConfusion (show false = true from h), fun _ => ?_⟩
            exact ⟨_, hlt, i + 1, turn, base, recs, d2, ⟨hi', hJ'⟩, rfl, rfl, rfl, rfl, rfl, (sO_own hne).symm, rfl, rfl, congrArg (AV.int .i64) w, rfl, rfl⟩
      · refine ⟨rfl, ⟨op, arecs, abytes⟩, F, hFe, rfl, ?_⟩
        refine ⟨[600, 500], [700000], [], 700000, rfl, _, rfl, [.ptr 1000000000 0, bss .fz F], ⟨.inl rfl, .inl rfl, trivial⟩, .inl ⟨⟨turn, base, recs, false⟩, d, 2000000000, F, hj, Nat.le_refl _, (by omega), hf1, rfl, rfl, fun d' j' r' u' l' _ => ⟨rfl, ?_⟩, fun h => absurd h (by rw [hJ.r]; have := hJ.u; omega), fun _ h => absurd hJ.l h⟩⟩
        refine ⟨fun h => Bool.noConfusion (show false = true from h), fun _ => ?_⟩
        refine ⟨rfl, ⟨op, arecs, abytes⟩, F, hFe, rfl, ?_⟩
        have hJ' : ScI (i + 1) turn base (recs ++ F) d' := ⟨j', l' hJ.l, r'.trans hJ.r, by have := hJ.u; omega, by omega⟩
        by_cases hr0 : recs = []
        · subst hr0
          refine ⟨fun mm st => ∃ (k : Nat), (k ≤ F.length) ∧ F.length - k = mm ∧ st.t 3 = .ptr 500 0 ∧ st.t 4 = .ptr 600 0 ∧ st.t 6 = .str (strOf base) ∧ st.t 7 = .int .i64 turn ∧ st.t 8 = sO 62000 ([] ++ F.take k) ∧ st.t 37 = .sl .fz 49 (L.map actA) ∧ st.t 38 = .int .i64 ((L.map actA).length : Nat) ∧ st.t 39 = .int .i64 (i : Int) ∧ st.t 52 = bss (.own 52000) F ∧ st.t 53 = .int .i64 ((F.map by8).length : Nat) ∧ st.t 54 = .int .i64 (k : Int) ∧ st.h 500 = some (dkB d' 2000000000) ∧ st.h 600 = some (jBc 500 700000 ⟨turn, base, [] ++ F, false⟩),
            ⟨_, 0, Nat.zero_le _, rfl, rfl, rfl, rfl, rfl, rfl, rfl, rfl, rfl, rfl, rfl, rfl, rfl, rfl⟩, ?_⟩
          rintro _ ⟨t2, h2⟩ ⟨k, hk, rfl, e3, e4, e6, e7, e8, e37, e38, e39, e52, e53, e54, b500, b600⟩
          have e3 : t2 3 = .ptr 500 0 := e3
          have e4 : t2 4 = .ptr 600 0 := e4
          have e6 : t2 6 = .str (strOf base) := e6
          have e7 : t2 7 = .int .i64 turn := e7
          have e8 : t2 8 = sO 62000 ([] ++ F.take k) := e8
          have e37 : t2 37 = .sl .fz 49 (L.map actA) := e37
          have e38 : t2 38 = .int .i64 ((L.map actA).length : Nat) := e38
          have e39 : t2 39 = .int .i64 (i : Int) := e39
          have e52 : t2 52 = bss (.own 52000) F := e52
          have e53 : t2 53 = .int .i64 ((F.map by8).length : Nat) := e53
          have e54 : t2 54 = .int .i64 (k : Int) := e54
          have b500 : h2 500 = some (dkB d' 2000000000) := b500
          have b600 : h2 600 = some (jBc 500 700000 ⟨turn, base, [] ++ F, false⟩) := b600
          rw [← updL_has t2 [(3, .ptr 500 0), (4, .ptr 600 0), (6, .str (strOf base)), (7, .int .i64 turn), (8, sO 62000 ([] ++ F.take k)), (37, .sl .fz 49 (L.map actA)), (38, .int .i64 ((L.map actA).length : Nat)), (39, .int .i64 (i : Int)), (52, bss (.own 52000) F), (53, .int .i64 ((F.map by8).length : Nat)), (54, .int .i64 (k : Int))] ⟨e3, e4, e6, e7, e8, e37, e38, e39, e52, e53, e54, trivial⟩, ← updL_has h2 [(500, some (dkB d' 2000000000)), (600, some (jBc 500 700000 ⟨turn, base, [] ++ F, false⟩))] ⟨b500, b600, trivial⟩]
          constructor
          · intro hb
            have hk' : k < F.length := by
              have : (k : Int) < ((F.map by8).length : Nat) := by simpa using hb
              simp at this; omega
            have w2 : IntKind.i64.wrap ((k : Int) + 1) = ((k + 1 : Nat) : Int) := by rw [wrap_of] <;> omega
            have hlt2 : F.length - (k + 1) < F.length - k := by omega
            obtain ⟨r, hx2⟩ : ∃ x, F[k]? = some x := ⟨_, List.getElem?_eq_getElem hk'⟩
            skip
            refine ⟨_, Int.natCast_nonneg k, map_of hx2, ?_⟩
            have hs : F.take (k + 1) = F.take k ++ [r] := by rw [List.take_add_one, hx2]; rfl
            have hfew := (recs_few hj).1
            simp only at hfew
            cases hq : [] ++ F.take k with
            | nil =>
              refine ⟨r, rfl, ?_⟩
              refine ⟨(by decide : 1 * 16 ≤ 140737488355328), ?_⟩
              exact ⟨_, hlt2, k + 1, hk', rfl, rfl, rfl, rfl, rfl, (by rw [hs, ← List.append_assoc, hq]; rfl), rfl, rfl, rfl, rfl, rfl, congrArg (AV.int .i64) w2, rfl, rfl⟩
            | cons a l =>
              have htk : (a :: l).length ≤ 262148 := by rw [← hq, List.length_append, List.length_take]; omega
              refine ⟨r, rfl, ?_⟩
              refine ⟨(show (((a :: l).map fun r => AV.str (strOf r)).length + 1) * 16 ≤ 140737488355328 by rw [List.length_map]; omega), ?_⟩
              exact ⟨_, hlt2, k + 1, hk', rfl, rfl, rfl, rfl, rfl, (by rw [hs, ← List.append_assoc, hq, ← sO_snoc, sss, List.map_append]; rfl), rfl, rfl, rfl, rfl, rfl, congrArg (AV.int .i64) w2, rfl, rfl⟩
          · intro hb
            have hk' : k = F.length := by
              have : ¬ (k : Int) < ((F.map by8).length : Nat) := by simpa using hb
              simp at this; omega
            subst hk'
            rw [List.take_length]
            obtain ⟨R, hR⟩ : ∃ R, [] ++ F = R := ⟨_, rfl⟩
            rw [hR] at hJ' ⊢
            by_cases hne : R = []
            · rw [hne] at hJ' ⊢
              refine ⟨[600, 500], [700000], [], 700000, rfl, _, rfl, ⟨turn, base, [], false⟩, d', 2000000000, rfl, rfl, (Nat.le_trans (recs_few hJ'.j).1 (by decide)), (fun r hr => Nat.le_trans ((recs_few hJ'.j).2.1 r hr) (by decide)), rfl, ?_⟩
              refine ⟨[600, 500], [700000], [], 700000, rfl, _, rfl, ⟨turn, base, [], false⟩, d', 2000000000, rfl, rfl, (Nat.le_trans (recs_few hJ'.j).2.2 (by decide)), rfl, ?_⟩
              refine ⟨base, rfl, ?_⟩
              refine ⟨fun h => absurd (show (!(strOf base == strOf base)) = true from h) (by rw [str_refl]; decide), fun _ => ?_⟩
              refine ⟨[600, 500], [700000], [], 700000, rfl, _, rfl, ⟨turn, base, [], false⟩, d', 2000000000, rfl, rfl, rfl, ?_⟩
              refine ⟨fun h => absurd (show ((turn : Int) != turn) = true from h) (by simp), fun _ => ?_⟩
              refine ⟨fun h => absurd (bne_iff_ne.1 h) (by simp), fun _ => ?_⟩
              refine loopR 1 (roundsR_succ ?_)
              refine ⟨fun h => Bool.noConfusion (show false = true from h), fun _ => ?_⟩
              refine ⟨_, rfl, ?_⟩
              refine ⟨fun h => Bool.noConfusion (show false = true from h), fun _ => ?_⟩
              refine ⟨[600, 500], [700000], [], 700000, rfl, _, rfl, ⟨turn, base, [], false⟩, d', 2000000000, rfl, rfl, rfl, ?_⟩
              refine ⟨fun h => Bool.noConfusion (show false = true from h), fun _ => ?_⟩
              exact ⟨_, hlt, i + 1, turn, base, [], d', ⟨hi', hJ'⟩, rfl, rfl, rfl, rfl, rfl, rfl, rfl, rfl, congrArg (AV.int .i64) w, rfl, rfl⟩
            · rw [sO_own hne]
              refine ⟨[600, 500], [700000], [], 700000, rfl, _, rfl, ⟨turn, base, R, false⟩, d', 2000000000, rfl, rfl, (Nat.le_trans (recs_few hJ'.j).1 (by decide)), (fun r hr => Nat.le_trans ((recs_few hJ'.j).2.1 r hr) (by decide)), rfl, ?_⟩
              refine ⟨[600, 500], [700000], [], 700000, rfl, _, rfl, ⟨turn, base, R, false⟩, d', 2000000000, rfl, rfl, (Nat.le_trans (recs_few hJ'.j).2.2 (by decide)), rfl, ?_⟩
              refine ⟨base, rfl, ?_⟩
              refine ⟨fun h => absurd (show (!(strOf base == strOf base)) = true from h) (by rw [str_refl]; decide), fun _ => ?_⟩
              refine ⟨[600, 500], [700000], [], 700000, rfl, _, rfl, ⟨turn, base, R, false⟩, d', 2000000000, rfl, rfl, rfl, ?_⟩
              refine ⟨fun h => absurd (show ((turn : Int) != turn) = true from h) (by simp), fun _ => ?_⟩
              refine ⟨fun h => absurd (bne_iff_ne.1 h) (by simp), fun _ => ?_⟩
              refine ⟨fun mm st => ∃ (kk : Nat), (kk ≤ R.length) ∧ R.length - kk = mm ∧ st.t 9 = bss .fz R ∧ st.t 2 = sss (.own 62000) R ∧ st.t 32 = .int .i64 ((R.map by8).length : Nat) ∧ st.t 33 = .int .i64 (kk : Int) ∧ st.t 1000003 = .ptr 500 0 ∧ st.t 1000004 = .ptr 600 0 ∧ st.t 1000006 = .str (strOf base) ∧ st.t 1000007 = .int .i64 turn ∧ st.t 1000008 = sss (.own 62000) R ∧ st.t 1000037 = .sl .fz 49 (L.map actA) ∧ st.t 1000038 = .int .i64 ((L.map actA).length : Nat) ∧ st.t 1000039 = .int .i64 (i : Int) ∧ st.h 500 = some (dkB d' 2000000000) ∧ st.h 600 = some (jBc 500 700000 ⟨turn, base, R, false⟩),
                ⟨_, 0, Nat.zero_le _, rfl, rfl, rfl, rfl, rfl, rfl, rfl, rfl, rfl, rfl, rfl, rfl, rfl, rfl, rfl⟩, ?_⟩
              rintro _ ⟨q1, p1⟩ ⟨kk, hi, rfl, e9, e2, e32, e33, e1000003, e1000004, e1000006, e1000007, e1000008, e1000037, e1000038, e1000039, b500, b600⟩
              have e9 : q1 9 = bss .fz R := e9
              have e2 : q1 2 = sss (.own 62000) R := e2
              have e32 : q1 32 = .int .i64 ((R.map by8).length : Nat) := e32
              have e33 : q1 33 = .int .i64 (kk : Int) := e33
              have e1000003 : q1 1000003 = .ptr 500 0 := e1000003
              have e1000004 : q1 1000004 = .ptr 600 0 := e1000004
              have e1000006 : q1 1000006 = .str (strOf base) := e1000006
              have e1000007 : q1 1000007 = .int .i64 turn := e1000007
              have e1000008 : q1 1000008 = sss (.own 62000) R := e1000008
              have e1000037 : q1 1000037 = .sl .fz 49 (L.map actA) := e1000037
              have e1000038 : q1 1000038 = .int .i64 ((L.map actA).length : Nat) := e1000038
              have e1000039 : q1 1000039 = .int .i64 (i : Int) := e1000039
              have b500 : p1 500 = some (dkB d' 2000000000) := b500
              have b600 : p1 600 = some (jBc 500 700000 ⟨turn, base, R, false⟩) := b600
              rw [← updL_has q1 [(9, bss .fz R), (2, sss (.own 62000) R), (32, .int .i64 ((R.map by8).length : Nat)), (33, .int .i64 (kk : Int)), (1000003, .ptr 500 0), (1000004, .ptr 600 0), (1000006, .str (strOf base)), (1000007, .int .i64 turn), (1000008, sss (.own 62000) R), (1000037, .sl .fz 49 (L.map actA)), (1000038, .int .i64 ((L.map actA).length : Nat)), (1000039, .int .i64 (i : Int))] ⟨e9, e2, e32, e33, e1000003, e1000004, e1000006, e1000007, e1000008, e1000037, e1000038, e1000039, trivial⟩, ← updL_has p1 [(500, some (dkB d' 2000000000)), (600, some (jBc 500 700000 ⟨turn, base, R, false⟩))] ⟨b500, b600, trivial⟩]
              have hrl0 : R.length ≤ 1000000000000 := (Nat.le_trans (recs_few hJ'.j).1 (by decide))
              constructor
              · intro hb
                have hk3 : kk < R.length := by
                  have : (kk : Int) < ((R.map by8).length : Nat) := by simpa using hb
                  simp at this; omega
                have w3 : IntKind.i64.wrap ((kk : Int) + 1) = ((kk + 1 : Nat) : Int) := by rw [wrap_of] <;> omega
                have hlt3 : R.length - (kk + 1) < R.length - kk := by omega
                obtain ⟨r, hx⟩ : ∃ x, R[kk]? = some x := ⟨_, List.getElem?_eq_getElem hk3⟩
                have hm3 := List.mem_of_getElem? hx
                refine ⟨_, Int.natCast_nonneg kk, map_of hx, ?_⟩
                refine ⟨_, Int.natCast_nonneg kk, map_of hx, ?_⟩
                refine ⟨r, rfl, ?_⟩
                refine ⟨fun h => absurd (show (!(strOf r == strOf r)) = true from h) (by rw [str_refl]; decide), fun _ => ?_⟩
                exact ⟨_, hlt3, kk + 1, hk3, rfl, rfl, rfl, rfl, congrArg (AV.int .i64) w3, rfl, rfl, rfl, rfl, rfl, rfl, rfl, rfl, rfl, rfl⟩
              · intro hb
                have hk3 : kk = R.length := by
                  have : ¬ (kk : Int) < ((R.map by8).length : Nat) := by simpa using hb
                  simp at this; omega
                subst hk3
                refine ⟨_, rfl, ?_⟩
                refine ⟨fun h => Bool.noConfusion (show false = true from h), fun _ => ?_⟩
                refine ⟨[600, 500], [700000], [], 700000, rfl, _, rfl, ⟨turn, base, R, false⟩, d', 2000000000, rfl, rfl, rfl, ?_⟩
                refine ⟨fun h => Bool.noConfusion (show false = true from h), fun _ => ?_⟩
                exact ⟨_, hlt, i + 1, turn, base, R, d', ⟨hi', hJ'⟩, rfl, rfl, rfl, rfl, rfl, (sO_own hne).symm, rfl, rfl, congrArg (AV.int .i64) w, rfl, rfl⟩
        · rw [sO_own hr0]
          refine ⟨fun mm st => ∃ (k : Nat), (k ≤ F.length) ∧ F.length - k = mm ∧ st.t 3 = .ptr 500 0 ∧ st.t 4 = .ptr 600 0 ∧ st.t 6 = .str (strOf base) ∧ st.t 7 = .int .i64 turn ∧ st.t 8 = sO 62000 (recs ++ F.take k) ∧ st.t 37 = .sl .fz 49 (L.map actA) ∧ st.t 38 = .int .i64 ((L.map actA).length : Nat) ∧ st.t 39 = .int .i64 (i : Int) ∧ st.t 52 = bss (.own 52000) F ∧ st.t 53 = .int .i64 ((F.map by8).length : Nat) ∧ st.t 54 = .int .i64 (k : Int) ∧ st.h 500 = some (dkB d' 2000000000) ∧ st.h 600 = some (jBc 500 700000 ⟨turn, base, recs ++ F, false⟩),
            ⟨_, 0, Nat.zero_le _, rfl, rfl, rfl, rfl, rfl, (show sss (.own 62000) recs = sO 62000 (recs ++ F.take 0) by rw [List.take_zero, List.append_nil, sO_own hr0]), rfl, rfl, rfl, rfl, rfl, rfl, rfl, rfl⟩, ?_⟩
          rintro _ ⟨t2, h2⟩ ⟨k, hk, rfl, e3, e4, e6, e7, e8, e37, e38, e39, e52, e53, e54, b500, b600⟩
          have e3 : t2 3 = .ptr 500 0 := e3
          have e4 : t2 4 = .ptr 600 0 := e4
          have e6 : t2 6 = .str (strOf base) := e6
          have e7 : t2 7 = .int .i64 turn := e7
          have e8 : t2 8 = sO 62000 (recs ++ F.take k) := e8
          have e37 : t2 37 = .sl .fz 49 (L.map actA) := e37
          have e38 : t2 38 = .int .i64 ((L.map actA).length : Nat) := e38
          have e39 : t2 39 = .int .i64 (i : Int) := e39
          have e52 : t2 52 = bss (.own 52000) F := e52
          have e53 : t2 53 = .int .i64 ((F.map by8).length : Nat) := e53
          have e54 : t2 54 = .int .i64 (k : Int) := e54
          have b500 : h2 500 = some (dkB d' 2000000000) := b500
          have b600 : h2 600 = some (jBc 500 700000 ⟨turn, base, recs ++ F, false⟩) := b600
          rw [← updL_has t2 [(3, .ptr 500 0), (4, .ptr 600 0), (6, .str (strOf base)), (7, .int .i64 turn), (8, sO 62000 (recs ++ F.take k)), (37, .sl .fz 49 (L.map actA)), (38, .int .i64 ((L.map actA).length : Nat)), (39, .int .i64 (i : Int)), (52, bss (.own 52000) F), (53, .int .i64 ((F.map by8).length : Nat)), (54, .int .i64 (k : Int))] ⟨e3, e4, e6, e7, e8, e37, e38, e39, e52, e53, e54, trivial⟩, ← updL_has h2 [(500, some (dkB d' 2000000000)), (600, some (jBc 500 700000 ⟨turn, base, recs ++ F, false⟩))] ⟨b500, b600, trivial⟩]
          constructor
          · intro hb
            have hk' : k < F.length := by
              have : (k : Int) < ((F.map by8).length : Nat) := by simpa using hb
              simp at this; omega
            have w2 : IntKind.i64.wrap ((k : Int) + 1) = ((k + 1 : Nat) : Int) := by rw [wrap_of] <;> omega
            have hlt2 : F.length - (k + 1) < F.length - k := by omega
            obtain ⟨r, hx2⟩ : ∃ x, F[k]? = some x := ⟨_, List.getElem?_eq_getElem hk'⟩
            skip
            refine ⟨_, Int.natCast_nonneg k, map_of hx2, ?_⟩
            have hs : F.take (k + 1) = F.take k ++ [r] := by rw [List.take_add_one, hx2]; rfl
            have hfew := (recs_few hj).1
            simp only at hfew
            cases hq : recs ++ F.take k with
            | nil =>
              refine ⟨r, rfl, ?_⟩
              refine ⟨(by decide : 1 * 16 ≤ 140737488355328), ?_⟩
              exact ⟨_, hlt2, k + 1, hk', rfl, rfl, rfl, rfl, rfl, (by rw [hs, ← List.append_assoc, hq]; rfl), rfl, rfl, rfl, rfl, rfl, congrArg (AV.int .i64) w2, rfl, rfl⟩
            | cons a l =>
              have htk : (a :: l).length ≤ 262148 := by rw [← hq, List.length_append, List.length_take]; omega
              refine ⟨r, rfl, ?_⟩
              refine ⟨(show (((a :: l).map fun r => AV.str (strOf r)).length + 1) * 16 ≤ 140737488355328 by rw [List.length_map]; omega), ?_⟩
              exact ⟨_, hlt2, k + 1, hk', rfl, rfl, rfl, rfl, rfl, (by rw [hs, ← List.append_assoc, hq, ← sO_snoc, sss, List.map_append]; rfl), rfl, rfl, rfl, rfl, rfl, congrArg (AV.int .i64) w2, rfl, rfl⟩
          · intro hb
            have hk' : k = F.length := by
              have : ¬ (k : Int) < ((F.map by8).length : Nat) := by simpa using hb
              simp at this; omega
            subst hk'
            rw [List.take_length]
            obtain ⟨R, hR⟩ : ∃ R, recs ++ F = R := ⟨_, rfl⟩
            rw [hR] at hJ' ⊢
            by_cases hne : R = []
            · rw [hne] at hJ' ⊢
              refine ⟨[600, 500], [700000], [], 700000, rfl, _, rfl, ⟨turn, base, [], false⟩, d', 2000000000, rfl, rfl, (Nat.le_trans (recs_few hJ'.j).1 (by decide)), (fun r hr => Nat.le_trans ((recs_few hJ'.j).2.1 r hr) (by decide)), rfl, ?_⟩
              refine ⟨[600, 500], [700000], [], 700000, rfl, _, rfl, ⟨turn, base, [], false⟩, d', 2000000000, rfl, rfl, (Nat.le_trans (recs_few hJ'.j).2.2 (by decide)), rfl, ?_⟩
              refine ⟨base, rfl, ?_⟩
              refine ⟨fun h => absurd (show (!(strOf base == strOf base)) = true from h) (by rw [str_refl]; decide), fun _ => ?_⟩
              refine ⟨[600, 500], [700000], [], 700000, rfl, _, rfl, ⟨turn, base, [], false⟩, d', 2000000000, rfl, rfl, rfl, ?_⟩
              refine ⟨fun h => absurd (show ((turn : Int) != turn) = true from h) (by simp), fun _ => ?_⟩
              refine ⟨fun h => absurd (bne_iff_ne.1 h) (by simp), fun _ => ?_⟩
              refine loopR 1 (roundsR_succ ?_)
              refine ⟨fun h => Bool.noConfusion (show false = true from h), fun _ => ?_⟩
              refine ⟨_, rfl, ?_⟩
              refine ⟨fun h => Bool.noConfusion (show false = true from h), fun _ => ?_⟩
              refine ⟨[600, 500], [700000], [], 700000, rfl, _, rfl, ⟨turn, base, [], false⟩, d', 2000000000, rfl, rfl, rfl, ?_⟩
              refine ⟨fun h => Bool.noConfusion (show false = true from h), fun _ => ?_⟩
              exact ⟨_, hlt, i + 1, turn, base, [], d', ⟨hi', hJ'⟩, rfl, rfl, rfl, rfl, rfl, rfl, rfl, rfl, congrArg (AV.int .i64) w, rfl, rfl⟩
            · rw [sO_own hne]
              refine ⟨[600, 500], [700000], [], 700000, rfl, _, rfl, ⟨turn, base, R, false⟩, d', 2000000000, rfl, rfl, (Nat.le_trans (recs_few hJ'.j).1 (by decide)), (fun r hr => Nat.le_trans ((recs_few hJ'.j).2.1 r hr) (by decide)), rfl, ?_⟩
              refine ⟨[600, 500], [700000], [], 700000, rfl, _, rfl, ⟨turn, base, R, false⟩, d', 2000000000, rfl, rfl, (Nat.le_trans (recs_few hJ'.j).2.2 (by decide)), rfl, ?_⟩
              refine ⟨base, rfl, ?_⟩
              refine ⟨fun h => absurd (show (!(strOf base == strOf base)) = true from h) (by rw [str_refl]; decide), fun _ => ?_⟩
              refine ⟨[600, 500], [700000], [], 700000, rfl, _, rfl, ⟨turn, base, R, false⟩, d', 2000000000, rfl, rfl, rfl, ?_⟩
              refine ⟨fun h => absurd (show ((turn : Int) != turn) = true from h) (by simp), fun _ => ?_⟩
              refine ⟨fun h => absurd (bne_iff_ne.1 h) (by simp), fun _ => ?_⟩
              refine ⟨fun mm st => ∃ (kk : Nat), (kk ≤ R.length) ∧ R.length - kk = mm ∧ st.t 9 = bss .fz R ∧ st.t 2 = sss (.own 62000) R ∧ st.t 32 = .int .i64 ((R.map by8).length : Nat) ∧ st.t 33 = .int .i64 (kk : Int) ∧ st.t 1000003 = .ptr 500 0 ∧ st.t 1000004 = .ptr 600 0 ∧ st.t 1000006 = .str (strOf base) ∧ st.t 1000007 = .int .i64 turn ∧ st.t 1000008 = sss (.own 62000) R ∧ st.t 1000037 = .sl .fz 49 (L.map actA) ∧ st.t 1000038 = .int .i64 ((L.map actA).length : Nat) ∧ st.t 1000039 = .int .i64 (i : Int) ∧ st.h 500 = some (dkB d' 2000000000) ∧ st.h 600 = some (jBc 500 700000 ⟨turn, base, R, false⟩),
                ⟨_, 0, Nat.zero_le _, rfl, rfl, rfl, rfl, rfl, rfl, rfl, rfl, rfl, rfl, rfl, rfl, rfl, rfl, rfl⟩, ?_⟩
              rintro _ ⟨q1, p1⟩ ⟨kk, hi, rfl, e9, e2, e32, e33, e1000003, e1000004, e1000006, e1000007, e1000008, e1000037, e1000038, e1000039, b500, b600⟩
              have e9 : q1 9 = bss .fz R := e9
              have e2 : q1 2 = sss (.own 62000) R := e2
              have e32 : q1 32 = .int .i64 ((R.map by8).length : Nat) := e32
              have e33 : q1 33 = .int .i64 (kk : Int) := e33
              have e1000003 : q1 1000003 = .ptr 500 0 := e1000003
              have e1000004 : q1 1000004 = .ptr 600 0 := e1000004
              have e1000006 : q1 1000006 = .str (strOf base) := e1000006
              have e1000007 : q1 1000007 = .int .i64 turn := e1000007
              have e1000008 : q1 1000008 = sss (.own 62000) R := e1000008
              have e1000037 : q1 1000037 = .sl .fz 49 (L.map actA) := e1000037
              have e1000038 : q1 1000038 = .int .i64 ((L.map actA).length : Nat) := e1000038
              have e1000039 : q1 1000039 = .int .i64 (i : Int) := e1000039
              have b500 : p1 500 = some (dkB d' 2000000000) := b500
              have b600 : p1 600 = some (jBc 500 700000 ⟨turn, base, R, false⟩) := b600
              rw [← updL_has q1 [(9, bss .fz R), (2, sss (.own 62000) R), (32, .int .i64 ((R.map by8).length : Nat)), (33, .int .i64 (kk : Int)), (1000003, .ptr 500 0), (1000004, .ptr 600 0), (1000006, .str (strOf base)), (1000007, .int .i64 turn), (1000008, sss (.own 62000) R), (1000037, .sl .fz 49 (L.map actA)), (1000038, .int .i64 ((L.map actA).length : Nat)), (1000039, .int .i64 (i : Int))] ⟨e9, e2, e32, e33, e1000003, e1000004, e1000006, e1000007, e1000008, e1000037, e1000038, e1000039, trivial⟩, ← updL_has p1 [(500, some (dkB d' 2000000000)), (600, some (jBc 500 700000 ⟨turn, base, R, false⟩))] ⟨b500, b600, trivial⟩]
              have hrl0 : R.length ≤ 1000000000000 := (Nat.le_trans (recs_few hJ'.j).1 (by decide))
              constructor
              · intro hb
                have hk3 : kk < R.length := by
                  have : (kk : Int) < ((R.map by8).length : Nat) := by simpa using hb
                  simp at this; omega
                have w3 : IntKind.i64.wrap ((kk : Int) + 1) = ((kk + 1 : Nat) : Int) := by rw [wrap_of] <;> omega
                have hlt3 : R.length - (kk + 1) < R.length - kk := by omega
                obtain ⟨r, hx⟩ : ∃ x, R[kk]? = some x := ⟨_, List.getElem?_eq_getElem hk3⟩
                have hm3 := List.mem_of_getElem? hx
                refine ⟨_, Int.natCast_nonneg kk, map_of hx, ?_⟩
                refine ⟨_, Int.natCast_nonneg kk, map_of hx, ?_⟩
                refine ⟨r, rfl, ?_⟩
                refine ⟨fun h => absurd (show (!(strOf r == strOf r)) = true from h) (by rw [str_refl]; decide), fun _ => ?_⟩
                exact ⟨_, hlt3, kk + 1, hk3, rfl, rfl, rfl, rfl, congrArg (AV.int .i64) w3, rfl, rfl, rfl, rfl, rfl, rfl, rfl, rfl, rfl, rfl⟩
              · intro hb
                have hk3 : kk = R.length := by
                  have : ¬ (kk : Int) < ((R.map by8).length : Nat) := by simpa using hb
                  simp at this; omega
                subst hk3
                refine ⟨_, rfl, ?_⟩
                refine ⟨fun h => Bool.noConfusion (show false = true from h), fun _ => ?_⟩
                refine ⟨[600, 500], [700000], [], 700000, rfl, _, rfl, ⟨turn, base, R, false⟩, d', 2000000000, rfl, rfl, rfl, ?_⟩
                refine ⟨fun h => Bool.noConfusion (show false = true from h), fun _ => ?_⟩
                exact ⟨_, hlt, i + 1, turn, base, R, d', ⟨hi', hJ'⟩, rfl, rfl, rfl, rfl, rfl, (sO_own hne).symm, rfl, rfl, congrArg (AV.int .i64) w, rfl, rfl⟩
  · intro hb
    have hi' : i = L.length := by
      have : ¬ (i : Int) < ((L.map actA).length : Nat) := by simpa using hb
      simp at this; omega
    subst hi'
    exact hK
end Go.Proofs.Ytbpcofnhndgoeaa.A
