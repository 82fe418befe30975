/- hawalalaw17: awake, EngineRun. -/
import Derived.Test.YtkeafcjdejmohaaGreatDoorM35
import Derived.Test.YtkeafcjdejmohaaGreatDoorGY
namespace Go.Proofs.YtkeafcjdejmohaaGreatDoor.A
open Go Q
theorem state_lp' {b : Book} {ps : List Paid} {now : Int} (hl : ps.length ≤ 1999900) : (stateM b ps now).pays.length ≤ 1999900 := by
  have := putGo_len (ps := ps) (t := (bookL (curs6 b) b.has, [])) (k := 0)
  show (putGo (bookL (curs6 b) b.has, []) 0 ps).2.length ≤ 1999900
  simp at this
  omega
theorem state_eng {b : Book} {ps : List Paid} {now : Int} (hb : b.Ok) (hp : ∀ p ∈ ps, p.In) (hl : ps.length ≤ 1999900) : EngS (stateM b ps now) :=
  ⟨⟨⟨by rw [(state_I now hb hp).l]; decide, state_lp' hl, Nat.zero_le _⟩, Nat.zero_le _⟩, fun i j a b h => by simp [stateM] at h, fun i j a b h => by simp [stateM] at h, fun k g h => by simp [stateM] at h⟩
/-! ### the document's example -/
def b17 : Book := ⟨[], [500, 500, 500, 500], []⟩
def r17 : Req := ⟨1, 2, 9, 12, 5, 1, 0⟩
def es17 : List Evt := [⟨0, r17, 0, false⟩, ⟨1, req0, 1, true⟩, ⟨1, req0, 1, false⟩]
def sta17 : Sta := ⟨[⟨0, -1000, 0⟩, ⟨0, 0, 0⟩, ⟨0, 0, 0⟩, ⟨1, -500, 0⟩, ⟨1, 0, 0⟩, ⟨1, 0, 0⟩, ⟨2, -500, 0⟩, ⟨2, 0, 0⟩, ⟨2, 0, 0⟩, ⟨0, 500, 0⟩, ⟨1, 500, 0⟩, ⟨2, 500, 0⟩, ⟨0, 500, 0⟩, ⟨1, 0, 0⟩, ⟨0, 0, 0⟩], [], [], [], 0⟩
def sta17b : Sta := ⟨[⟨0, -1000, 0⟩, ⟨0, 0, 0⟩, ⟨0, 0, 0⟩, ⟨1, -500, 0⟩, ⟨1, 0, 0⟩, ⟨1, 0, 0⟩, ⟨2, -500, 0⟩, ⟨2, 0, 0⟩, ⟨2, 0, 0⟩, ⟨0, 495, 0⟩, ⟨1, 500, 0⟩, ⟨2, 500, 0⟩, ⟨0, 505, 0⟩, ⟨1, 0, 0⟩, ⟨0, 0, 0⟩], [], [], [⟨r17, 0, 0, true⟩], 0⟩
theorem aw17_0 : stateM b17 [] 0 = sta17 := by kernel_rfl
theorem aw17_1 : runE sta17 es17 = (sta17b, [(10, 0), (10, 0), (0, 0)]) := by kernel_rfl
theorem b17_in : b17.Ok := ⟨⟨fun _ h => (by cases h), by decide, by decide⟩, by decide⟩
def awake17C (args : List AV) (bs : List Box) (K : AV → List Box → Prop) : Prop := bs = [] ∧ args = [] ∧ K (.bool true) []
def RA17 : Contract
  | 8 => nil2C stateC
  | 12 => runC
  | _ => fun _ _ _ => False
theorem RA17_ok : CallOk Tryz.prog tab RA17 := by
  intro f args bs K h
  unfold RA17 at h
  split at h
  · exact ⟨_, h, state_ok.nil2⟩
  · exact ⟨_, h, run_ok⟩
  · exact h.elim
def RA17_E (pl : Nat → Plan) : En := ⟨tab, RA17, fun _ => none, 0, pl⟩
theorem RA17_J (pl : Nat → Plan) : JOk Tryz.prog (RA17_E pl).T (RA17_E pl).J := fun _ _ h => by cases h
set_option maxRecDepth 200000 in
set_option maxHeartbeats 6400000 in
theorem awake17_ok : FnOk Tryz.prog tab 7 awake17C := by
  refine fn_ok (E := RA17_E pl7) tab_is RA17_ok (RA17_J _) Tryz.func7 rfl rfl (by kernel_rfl) ?_
  rintro args bs K ⟨rfl, rfl, hK⟩
  refine ⟨rfl, ?_⟩
  have hS : EngS sta17 := by rw [← aw17_0]; exact state_eng b17_in (fun _ h => by cases h) (Nat.zero_le _)
  refine ⟨[bkA b17, padS [], .int .u8 0], ⟨.inr ⟨_, [u8S [], u32S [500, 500, 500, 500], u8S []], rfl, rfl, .inr ⟨_, _, rfl, rfl⟩, .inl rfl, .inr ⟨_, _, rfl, rfl⟩, trivial⟩, .inl (.inr ⟨_, _, rfl, rfl⟩), .inl (.inl rfl), trivial⟩, rfl, b17, [], 0, rfl, b17_in.toIn, (fun _ h => by cases h), by decide, ?_⟩
  rw [aw17_0]
  refine ⟨rfl, sta17, es17, rfl, hS.run _, by decide, ?_⟩
  rw [aw17_1]
  repeat' first
    | (exact hK)
    | (refine ⟨_, (by decide), rfl, ?_⟩)
    | (refine ⟨fun _ => ?_, fun h => Bool.noConfusion (show true = false from h)⟩)
    | (refine ⟨fun h => Bool.noConfusion (show false = true from h), fun _ => ?_⟩)
    | (refine And.intro ?_ ?_)
theorem runE_snoc (s : Sta) (es : List Evt) (e : Evt) : runE s (es ++ [e]) = ((engM (runE s es).1 e).1, (runE s es).2 ++ [(engM (runE s es).1 e).2]) := by
  induction es generalizing s with
  | nil => rfl
  | cons x es ih =>
    show ((runE (engM s x).1 (es ++ [e])).1, (engM s x).2 :: (runE (engM s x).1 (es ++ [e])).2) = _
    rw [ih]
    rfl
abbrev evsO (F : Nat) : List Evt → AV
  | [] => .sl .nl 0 []
  | o :: l => .sl (.own F) 48 (evtA o :: l.map evtA)
theorem evs_snoc (F : Nat) (l : List Evt) (x : Evt) : AV.sl (.own F) 48 (l.map evtA ++ [evtA x]) = evsO F (l ++ [x]) := by
  cases l <;> simp [evsO]
abbrev actsS (l : List Act) : AV := .sl .fz 45 (l.map actA)
/-! ### EngineRun -/
def erunC (args : List AV) (bs : List Box) (K : AV → List Box → Prop) : Prop := bs = [] ∧ ∃ (b : Book) (l : List Act), args = [bkA b, actsS l] ∧ b.Ok ∧ (∀ a ∈ l, a.In) ∧ l.length ≤ 1999900 ∧ K (.bool true) []
def REr17 : Contract
  | 7 => awake17C
  | 8 => nil2C stateC
  | 9 => eventC
  | 10 => engC
  | 12 => nil2C runC
  | 11 => same17C
  | 13 => sameKC
  | _ => fun _ _ _ => False
theorem REr17_ok : CallOk Tryz.prog tab REr17 := by
  intro f args bs K h
  unfold REr17 at h
  split at h
  · exact ⟨_, h, awake17_ok⟩
  · exact ⟨_, h, state_ok.nil2⟩
  · exact ⟨_, h, event_ok⟩
  · exact ⟨_, h, eng_ok⟩
  · exact ⟨_, h, run_ok.nil2⟩
  · exact ⟨_, h, same17_ok⟩
  · exact ⟨_, h, sameK_ok⟩
  · exact h.elim
def REr17_E (pl : Nat → Plan) : En := ⟨tab, REr17, fun _ => none, 0, pl⟩
theorem REr17_J (pl : Nat → Plan) : JOk Tryz.prog (REr17_E pl).T (REr17_E pl).J := fun _ _ h => by cases h
set_option maxRecDepth 200000 in
set_option maxHeartbeats 12800000 in
theorem erun_ok : FnOk Tryz.prog tab 4 erunC := by
  refine fn_ok (E := REr17_E pl4) tab_is REr17_ok (REr17_J _) Tryz.func4 rfl rfl (by kernel_rfl) ?_
  rintro args bs K ⟨rfl, b, l, rfl, hb, hl, hll, hK⟩
  refine ⟨rfl, ?_⟩
  refine ⟨rfl, rfl, ?_⟩
  refine ⟨fun h => Bool.noConfusion (show false = true from h), fun _ => ?_⟩
  refine ⟨[bkA b, padS [], .int .u8 0], ⟨.inl (.inl rfl), .inl (.inr ⟨_, _, rfl, rfl⟩), .inl (.inl rfl), trivial⟩, rfl, b, [], 0, rfl, hb.toIn, (fun _ h => by cases h), by decide, ?_⟩
  have hS0 : EngS (stateM b [] 0) := state_eng hb (fun _ h => by cases h) (Nat.zero_le _)
  generalize stateM b [] 0 = s0 at hS0 ⊢
  refine ⟨fun mm st => ∃ (i : Nat) (s : Sta) (E : List Evt) (P : List Rep), (i ≤ l.length ∧ EngS s ∧ E.length ≤ i ∧ P.length = E.length ∧ runE s0 E = (s, P)) ∧ l.length - i = mm ∧ st.t 22 = actsS l ∧ st.t 23 = .int .i64 ((l.map actA).length : Nat) ∧ st.t 24 = .int .i64 i ∧ st.t 7 = evsO 41000 E ∧ st.t 8 = repsO 45000 P ∧ st.t 5 = .ptr 5 0 ∧ st.t 6 = .ptr 6 0 ∧ st.h 5 = staB s0 ∧ st.h 6 = staB s,
    ⟨_, 0, s0, [], [], ⟨Nat.zero_le _, hS0, Nat.le_refl _, rfl, rfl⟩, rfl, rfl, rfl, rfl, rfl, rfl, rfl, rfl, rfl, rfl⟩, ?_⟩
  rintro _ ⟨t1, h1⟩ ⟨i, s, E, P, ⟨hi, hS, hEl, hPl, hT⟩, rfl, e22, e23, e24, e7, e8, e5, e6, b5, b6⟩
  have e22 : t1 22 = actsS l := e22
  have e23 : t1 23 = .int .i64 ((l.map actA).length : Nat) := e23
  have e24 : t1 24 = .int .i64 i := e24
  have e7 : t1 7 = evsO 41000 E := e7
  have e8 : t1 8 = repsO 45000 P := e8
  have e5 : t1 5 = .ptr 5 0 := e5
  have e6 : t1 6 = .ptr 6 0 := e6
  have b5 : h1 5 = staB s0 := b5
  have b6 : h1 6 = staB s := b6
  rw [← updL_has t1 [(22, actsS l), (23, .int .i64 ((l.map actA).length : Nat)), (24, .int .i64 i), (7, evsO 41000 E), (8, repsO 45000 P), (5, .ptr 5 0), (6, .ptr 6 0)] ⟨e22, e23, e24, e7, e8, e5, e6, trivial⟩, ← updL_has h1 [(5, staB s0), (6, staB s)] ⟨b5, b6, trivial⟩]
  cases E with
  | nil =>
    cases P with
    | cons p P => cases hPl
    | nil =>
      have bdE : 1 * 80 ≤ 140737488355328 := by decide
      have bdP : 1 * 16 ≤ 140737488355328 := by decide
      constructor
      · intro hb
        have hi' : i < l.length := by
          have : (i : Int) < ((l.map actA).length : Nat) := by simpa using hb
          simp at this; omega
        have w : IntKind.i64.wrap ((i : Int) + 1) = ((i + 1 : Nat) : Int) := by rw [wrap_of] <;> omega
        have hlt : l.length - (i + 1) < l.length - i := by omega
        obtain ⟨a, hx⟩ : ∃ x, l[i]? = some x := ⟨_, List.getElem?_eq_getElem hi'⟩
        have hm := List.mem_of_getElem? hx
        have hdr := drop_at hx
        have hS17 := hS.z.ls
        refine ⟨_, Int.natCast_nonneg i, map_of hx, ?_⟩
        refine ⟨rfl, a, s, rfl, hl a hm, by omega, ?_⟩
        generalize eventM a s = e
        refine ⟨rfl, s, e, rfl, hS.z, fun _ => hS.tell, ?_⟩
        have hT2 := runE_snoc s0 ([]:List Evt) e
        rw [hT] at hT2
        have hS2 := hS.eng e
        generalize engM s e = o at hT2 hS2 ⊢
        obtain ⟨x, q⟩ := o
        simp only at hT2 hS2
        have hEn : (([]:List Evt) ++ [e]).length ≤ i + 1 := by first | (simp; done) | (simp at hEl ⊢; omega)
        have hPn : (([]:List Rep) ++ [q]).length = (([]:List Evt) ++ [e]).length := by first | (simp; done) | (simp at hPl ⊢; omega)
        repeat' first
          | (refine ⟨bdE, ?_⟩)
          | (refine ⟨bdP, ?_⟩)
          | (exact ⟨_, hlt, i + 1, x, ([]:List Evt) ++ [e], ([]:List Rep) ++ [q], ⟨hi', hS2, hEn, hPn, hT2⟩, rfl, rfl, rfl, congrArg (AV.int .i64) w, by rw [← evs_snoc] <;> rfl, by rw [← reps_snoc] <;> rfl, rfl, rfl, rfl, rfl⟩)
          | (refine ⟨fun _ => ?_, fun h => Bool.noConfusion (show true = false from h)⟩)
          | (refine ⟨fun h => Bool.noConfusion (show false = true from h), fun _ => ?_⟩)
          | (refine And.intro ?_ ?_)
      · intro _
        have hE6 : (([]:List Evt)).length ≤ 1000000000000 := by omega
        refine ⟨[staA s0, .sl .fz 48 ((([]:List Evt)).map evtA)], ⟨.inl (.inl rfl), .inl (.inr ⟨_, _, rfl, rfl⟩), trivial⟩, rfl, s0, ([]:List Evt), rfl, hS0.run _, hE6, ?_⟩
        rw [hT]
        refine ⟨rfl, s, rfl, hS, ?_⟩
        refine ⟨fun h => Bool.noConfusion (show false = true from h), fun _ => ?_⟩
        refine ⟨fun h => absurd h (by simp), fun _ => ?_⟩
        refine ⟨fun mm st => ∃ (k : Nat), (k ≤ (([]:List Rep)).length) ∧ (([]:List Rep)).length - k = mm ∧ st.t 64 = repsS (([]:List Rep)) ∧ st.t 65 = .int .i64 (((([]:List Rep)).map repV).length : Nat) ∧ st.t 66 = .int .i64 k ∧ st.t 15 = repsS (([]:List Rep)) ∧ st.t 8 = repsO 45000 (([]:List Rep)) ∧ st.t 6 = .ptr 6 0 ∧ st.t 14 = .ptr 14 0 ∧ st.h 6 = staB s ∧ st.h 14 = staB s,
          ⟨_, 0, Nat.zero_le _, rfl, rfl, rfl, rfl, rfl, rfl, rfl, rfl, rfl, rfl⟩, ?_⟩
        rintro _ ⟨t2, h2⟩ ⟨k, hk, rfl, e64, e65, e66, e15, e8, e6, e14, b6, b14⟩
        have e64 : t2 64 = repsS (([]:List Rep)) := e64
        have e65 : t2 65 = .int .i64 (((([]:List Rep)).map repV).length : Nat) := e65
        have e66 : t2 66 = .int .i64 k := e66
        have e15 : t2 15 = repsS (([]:List Rep)) := e15
        have e8 : t2 8 = repsO 45000 (([]:List Rep)) := e8
        have e6 : t2 6 = .ptr 6 0 := e6
        have e14 : t2 14 = .ptr 14 0 := e14
        have b6 : h2 6 = staB s := b6
        have b14 : h2 14 = staB s := b14
        rw [← updL_has t2 [(64, repsS (([]:List Rep))), (65, .int .i64 (((([]:List Rep)).map repV).length : Nat)), (66, .int .i64 k), (15, repsS (([]:List Rep))), (8, repsO 45000 (([]:List Rep))), (6, .ptr 6 0), (14, .ptr 14 0)] ⟨e64, e65, e66, e15, e8, e6, e14, trivial⟩, ← updL_has h2 [(6, staB s), (14, staB s)] ⟨b6, b14, trivial⟩]
        constructor
        · intro hb
          have hi' : k < (([]:List Rep)).length := by
            have : (k : Int) < (((([]:List Rep)).map repV).length : Nat) := by simpa using hb
            first | (simp at this; omega) | (simp at this ⊢; omega)
          have w : IntKind.i64.wrap ((k : Int) + 1) = ((k + 1 : Nat) : Int) := by rw [wrap_of] <;> omega
          have hlt : (([]:List Rep)).length - (k + 1) < (([]:List Rep)).length - k := by omega
          obtain ⟨x, hx⟩ : ∃ x, (([]:List Rep))[k]? = some x := ⟨_, List.getElem?_eq_getElem hi'⟩
          have hm := List.mem_of_getElem? hx
          have hdr := drop_at hx
          exact absurd hi' (Nat.not_lt_zero _)
        · intro _
          exact ⟨rfl, s.kns, s.kns, rfl, (by have := hS.z.lk; omega), fun _ => hK, fun h => absurd rfl h⟩
  | cons e0 E =>
    cases P with
    | nil => cases hPl
    | cons p P =>
      have bdE : ((evtA e0 :: E.map evtA).length + 1) * 80 ≤ 140737488355328 := by
        simp only [List.length_cons, List.length_map] at hEl ⊢; omega
      have bdP : ((repV p :: P.map repV).length + 1) * 16 ≤ 140737488355328 := by
        simp only [List.length_cons, List.length_map] at hEl hPl ⊢; omega
      constructor
      · intro hb
        have hi' : i < l.length := by
          have : (i : Int) < ((l.map actA).length : Nat) := by simpa using hb
          simp at this; omega
        have w : IntKind.i64.wrap ((i : Int) + 1) = ((i + 1 : Nat) : Int) := by rw [wrap_of] <;> omega
        have hlt : l.length - (i + 1) < l.length - i := by omega
        obtain ⟨a, hx⟩ : ∃ x, l[i]? = some x := ⟨_, List.getElem?_eq_getElem hi'⟩
        have hm := List.mem_of_getElem? hx
        have hdr := drop_at hx
        have hS17 := hS.z.ls
        refine ⟨_, Int.natCast_nonneg i, map_of hx, ?_⟩
        refine ⟨rfl, a, s, rfl, hl a hm, by omega, ?_⟩
        generalize eventM a s = e
        refine ⟨rfl, s, e, rfl, hS.z, fun _ => hS.tell, ?_⟩
        have hT2 := runE_snoc s0 (e0::E) e
        rw [hT] at hT2
        have hS2 := hS.eng e
        generalize engM s e = o at hT2 hS2 ⊢
        obtain ⟨x, q⟩ := o
        simp only at hT2 hS2
        have hEn : ((e0::E) ++ [e]).length ≤ i + 1 := by first | (simp; done) | (simp at hEl ⊢; omega)
        have hPn : ((p::P) ++ [q]).length = ((e0::E) ++ [e]).length := by first | (simp; done) | (simp at hPl ⊢; omega)
        repeat' first
          | (refine ⟨bdE, ?_⟩)
          | (refine ⟨bdP, ?_⟩)
          | (exact ⟨_, hlt, i + 1, x, (e0::E) ++ [e], (p::P) ++ [q], ⟨hi', hS2, hEn, hPn, hT2⟩, rfl, rfl, rfl, congrArg (AV.int .i64) w, by rw [← evs_snoc] <;> rfl, by rw [← reps_snoc] <;> rfl, rfl, rfl, rfl, rfl⟩)
          | (refine ⟨fun _ => ?_, fun h => Bool.noConfusion (show true = false from h)⟩)
          | (refine ⟨fun h => Bool.noConfusion (show false = true from h), fun _ => ?_⟩)
          | (refine And.intro ?_ ?_)
      · intro _
        have hE6 : ((e0::E)).length ≤ 1000000000000 := by omega
        refine ⟨[staA s0, .sl .fz 48 (((e0::E)).map evtA)], ⟨.inl (.inl rfl), .inl (.inl rfl), trivial⟩, rfl, s0, (e0::E), rfl, hS0.run _, hE6, ?_⟩
        rw [hT]
        refine ⟨rfl, s, rfl, hS, ?_⟩
        refine ⟨fun h => Bool.noConfusion (show false = true from h), fun _ => ?_⟩
        refine ⟨fun h => absurd h (by simp), fun _ => ?_⟩
        refine ⟨fun mm st => ∃ (k : Nat), (k ≤ ((p::P)).length) ∧ ((p::P)).length - k = mm ∧ st.t 64 = repsS ((p::P)) ∧ st.t 65 = .int .i64 ((((p::P)).map repV).length : Nat) ∧ st.t 66 = .int .i64 k ∧ st.t 15 = repsS ((p::P)) ∧ st.t 8 = repsO 45000 ((p::P)) ∧ st.t 6 = .ptr 6 0 ∧ st.t 14 = .ptr 14 0 ∧ st.h 6 = staB s ∧ st.h 14 = staB s,
          ⟨_, 0, Nat.zero_le _, rfl, rfl, rfl, rfl, rfl, rfl, rfl, rfl, rfl, rfl⟩, ?_⟩
        rintro _ ⟨t2, h2⟩ ⟨k, hk, rfl, e64, e65, e66, e15, e8, e6, e14, b6, b14⟩
        have e64 : t2 64 = repsS ((p::P)) := e64
        have e65 : t2 65 = .int .i64 ((((p::P)).map repV).length : Nat) := e65
        have e66 : t2 66 = .int .i64 k := e66
        have e15 : t2 15 = repsS ((p::P)) := e15
        have e8 : t2 8 = repsO 45000 ((p::P)) := e8
        have e6 : t2 6 = .ptr 6 0 := e6
        have e14 : t2 14 = .ptr 14 0 := e14
        have b6 : h2 6 = staB s := b6
        have b14 : h2 14 = staB s := b14
        rw [← updL_has t2 [(64, repsS ((p::P))), (65, .int .i64 ((((p::P)).map repV).length : Nat)), (66, .int .i64 k), (15, repsS ((p::P))), (8, repsO 45000 ((p::P))), (6, .ptr 6 0), (14, .ptr 14 0)] ⟨e64, e65, e66, e15, e8, e6, e14, trivial⟩, ← updL_has h2 [(6, staB s), (14, staB s)] ⟨b6, b14, trivial⟩]
        constructor
        · intro hb
          have hi' : k < ((p::P)).length := by
            have : (k : Int) < ((((p::P)).map repV).length : Nat) := by simpa using hb
            first | (simp at this; omega) | (simp at this ⊢; omega)
          have w : IntKind.i64.wrap ((k : Int) + 1) = ((k + 1 : Nat) : Int) := by rw [wrap_of] <;> omega
          have hlt : ((p::P)).length - (k + 1) < ((p::P)).length - k := by omega
          obtain ⟨x, hx⟩ : ∃ x, ((p::P))[k]? = some x := ⟨_, List.getElem?_eq_getElem hi'⟩
          have hm := List.mem_of_getElem? hx
          have hdr := drop_at hx
          refine ⟨_, Int.natCast_nonneg k, map_of hx, ?_⟩; refine ⟨_, Int.natCast_nonneg k, map_of hx, ?_⟩; refine ⟨fun h => absurd h (by simp), fun _ => ?_⟩; exact ⟨_, hlt, k + 1, hi', rfl, rfl, rfl, congrArg (AV.int .i64) w, rfl, rfl, rfl, rfl, rfl, rfl⟩
        · intro _
          exact ⟨rfl, s.kns, s.kns, rfl, (by have := hS.z.lk; omega), fun _ => hK, fun h => absurd rfl h⟩
end Go.Proofs.YtkeafcjdejmohaaGreatDoor.A
