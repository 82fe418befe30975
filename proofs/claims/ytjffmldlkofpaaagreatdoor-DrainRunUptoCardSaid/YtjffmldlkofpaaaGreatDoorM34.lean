/- engine: Run. -/
import Derived.Test.YtjffmldlkofpaaaGreatDoorM33
namespace Go.Proofs.YtjffmldlkofpaaaGreatDoor.A
open Go Q
def runE : Sta → List Evt → Sta × List Rep
  | s, [] => (s, [])
  | s, e :: es => ((runE (engM s e).1 es).1, (engM s e).2 :: (runE (engM s e).1 es).2)
/-- The machine may be handed these events. -/
def RunOk : Sta → List Evt → Prop
  | _, [] => True
  | s, e :: es => SzE s ∧ (e.what = 1 → TellOk s) ∧ RunOk (engM s e).1 es
def runC0 (args : List AV) (bs : List Box) (K : AV → List Box → Prop) : Prop := bs = [] ∧ ∃ (s : Sta) (es : List Evt), args = [staA s, .sl .fz 52 (es.map evtA)] ∧ RunOk s es ∧ es.length ≤ 1000000000000 ∧
  K (.tup [staA (runE s es).1, repsO 27000 (runE s es).2]) []
def REr : Contract
  | 19 => engC
  | _ => fun _ _ _ => False
theorem REr_ok : CallOk Tryz.prog tab REr := by
  intro f args bs K h
  unfold REr at h
  split at h
  · exact ⟨_, h, eng_ok⟩
  · exact h.elim
def REr_E (pl : Nat → Plan) : En := ⟨tab, REr, fun _ => none, 0, pl⟩
theorem REr_J (pl : Nat → Plan) : JOk Tryz.prog (REr_E pl).T (REr_E pl).J := fun _ _ h => by cases h
set_option maxRecDepth 200000 in
set_option maxHeartbeats 12800000 in
theorem run_ok0 : FnOk Tryz.prog tab 40 runC0 := by
  refine fn_ok (E := REr_E pl40) tab_is REr_ok (REr_J _) Tryz.func40 rfl rfl (by kernel_rfl) ?_
  rintro args bs K ⟨rfl, s0, es, rfl, hR0, hrl, hK⟩
  refine ⟨rfl, ?_⟩
  refine ⟨fun mm st => ∃ (i : Nat) (s : Sta) (P : List Rep), (i ≤ es.length ∧ RunOk s (es.drop i) ∧ P.length ≤ i ∧ runE s0 es = ((runE s (es.drop i)).1, P ++ (runE s (es.drop i)).2)) ∧ es.length - i = mm ∧ st.t 11 = .sl .fz 52 (es.map evtA) ∧ st.t 12 = .int .i64 ((es.map evtA).length : Nat) ∧ st.t 13 = .int .i64 i ∧ st.t 2 = .ptr 2 0 ∧ st.t 6 = repsO 27000 P ∧ st.t 4 = .ptr 4 0 ∧ st.h 2 = staB s ∧ st.h 4 = some (.cells 36 [.sl .nl 0 [], .sl .nl 0 [], .sl .nl 0 [], .sl .nl 0 [], .int .i64 0]),
    ⟨_, 0, s0, [], ⟨Nat.zero_le _, hR0, Nat.le_refl _, rfl⟩, rfl, rfl, rfl, rfl, rfl, rfl, rfl, rfl, rfl⟩, ?_⟩
  rintro _ ⟨t1, h1⟩ ⟨i, s, P, ⟨hi, hR, hPl, hT⟩, rfl, e11, e12, e13, e2, e6, e4, b2, b4⟩
  have e11 : t1 11 = .sl .fz 52 (es.map evtA) := e11
  have e12 : t1 12 = .int .i64 ((es.map evtA).length : Nat) := e12
  have e13 : t1 13 = .int .i64 i := e13
  have e2 : t1 2 = .ptr 2 0 := e2
  have e6 : t1 6 = repsO 27000 P := e6
  have e4 : t1 4 = .ptr 4 0 := e4
  have b2 : h1 2 = staB s := b2
  have b4 : h1 4 = some (.cells 36 [.sl .nl 0 [], .sl .nl 0 [], .sl .nl 0 [], .sl .nl 0 [], .int .i64 0]) := b4
  rw [← updL_has t1 [(11, .sl .fz 52 (es.map evtA)), (12, .int .i64 ((es.map evtA).length : Nat)), (13, .int .i64 i), (2, .ptr 2 0), (6, repsO 27000 P), (4, .ptr 4 0)] ⟨e11, e12, e13, e2, e6, e4, trivial⟩, ← updL_has h1 [(2, staB s), (4, some (.cells 36 [.sl .nl 0 [], .sl .nl 0 [], .sl .nl 0 [], .sl .nl 0 [], .int .i64 0]))] ⟨b2, b4, trivial⟩]
  cases P with
  | nil =>
    have bd : 1 * 16 ≤ 140737488355328 := by decide
    constructor
    · intro hb
      have hi' : i < es.length := by
        have : (i : Int) < ((es.map evtA).length : Nat) := by simpa using hb
        simp at this; omega
      have w : IntKind.i64.wrap ((i : Int) + 1) = ((i + 1 : Nat) : Int) := by rw [wrap_of] <;> omega
      have hlt : es.length - (i + 1) < es.length - i := by omega
      obtain ⟨e, hx⟩ : ∃ x, es[i]? = some x := ⟨_, List.getElem?_eq_getElem hi'⟩
      have hm := List.mem_of_getElem? hx
      have hdr := drop_at hx
      rw [hdr] at hT hR
      obtain ⟨z1, z2, z3⟩ := hR
      have hT : runE s0 es = ((runE (engM s e).1 (es.drop (i + 1))).1, (([]:List Rep) ++ [(engM s e).2]) ++ (runE (engM s e).1 (es.drop (i + 1))).2) := by
        rw [hT, List.append_assoc]; rfl
      refine ⟨_, Int.natCast_nonneg i, map_of hx, ?_⟩
      refine ⟨rfl, s, e, rfl, z1, z2, ?_⟩
      generalize engM s e = o at hT z3 ⊢
      obtain ⟨x, q⟩ := o
      simp only at hT z3
      refine ⟨bd, ?_⟩
      exact ⟨_, hlt, i + 1, x, ([]:List Rep) ++ [q], ⟨hi', z3, by simp only [List.length_append, List.length_cons, List.length_nil] at hPl ⊢; omega, hT⟩, rfl, rfl, rfl, congrArg (AV.int .i64) w, rfl, by rw [← reps_snoc] <;> rfl, rfl, rfl, rfl⟩
    · intro hb
      have hi' : i = es.length := by
        have : ¬ (i : Int) < ((es.map evtA).length : Nat) := by simpa using hb
        simp at this; omega
      subst hi'
      rw [List.drop_length] at hT
      have hT : runE s0 es = (s, ([]:List Rep)) := by rw [hT]; show (s, _ ++ []) = _; rw [List.append_nil]
      rw [hT] at hK
      exact hK
  | cons p P =>
    have bd : ((repV p :: P.map repV).length + 1) * 16 ≤ 140737488355328 := by
      simp only [List.length_cons, List.length_map] at hPl ⊢; omega
    constructor
    · intro hb
      have hi' : i < es.length := by
        have : (i : Int) < ((es.map evtA).length : Nat) := by simpa using hb
        simp at this; omega
      have w : IntKind.i64.wrap ((i : Int) + 1) = ((i + 1 : Nat) : Int) := by rw [wrap_of] <;> omega
      have hlt : es.length - (i + 1) < es.length - i := by omega
      obtain ⟨e, hx⟩ : ∃ x, es[i]? = some x := ⟨_, List.getElem?_eq_getElem hi'⟩
      have hm := List.mem_of_getElem? hx
      have hdr := drop_at hx
      rw [hdr] at hT hR
      obtain ⟨z1, z2, z3⟩ := hR
      have hT : runE s0 es = ((runE (engM s e).1 (es.drop (i + 1))).1, ((p::P) ++ [(engM s e).2]) ++ (runE (engM s e).1 (es.drop (i + 1))).2) := by
        rw [hT, List.append_assoc]; rfl
      refine ⟨_, Int.natCast_nonneg i, map_of hx, ?_⟩
      refine ⟨rfl, s, e, rfl, z1, z2, ?_⟩
      generalize engM s e = o at hT z3 ⊢
      obtain ⟨x, q⟩ := o
      simp only at hT z3
      refine ⟨bd, ?_⟩
      exact ⟨_, hlt, i + 1, x, (p::P) ++ [q], ⟨hi', z3, by simp only [List.length_append, List.length_cons, List.length_nil] at hPl ⊢; omega, hT⟩, rfl, rfl, rfl, congrArg (AV.int .i64) w, rfl, by rw [← reps_snoc] <;> rfl, rfl, rfl, rfl⟩
    · intro hb
      have hi' : i = es.length := by
        have : ¬ (i : Int) < ((es.map evtA).length : Nat) := by simpa using hb
        simp at this; omega
      subst hi'
      rw [List.drop_length] at hT
      have hT : runE s0 es = (s, (p::P)) := by rw [hT]; show (s, _ ++ []) = _; rw [List.append_nil]
      rw [hT] at hK
      exact hK
end Go.Proofs.YtjffmldlkofpaaaGreatDoor.A
