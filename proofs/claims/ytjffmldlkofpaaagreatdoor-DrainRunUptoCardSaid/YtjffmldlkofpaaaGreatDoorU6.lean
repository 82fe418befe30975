/- chart.New, audit.Check. -/
import Derived.Test.YtjffmldlkofpaaaGreatDoorU5
import Derived.Test.YtjffmldlkofpaaaGreatDoorGD
namespace Go.Proofs.YtjffmldlkofpaaaGreatDoor.A
open Go Q
def zeroT (t : Tri) : Bool := t.1 == 0 && (t.2.1 == 0 && (t.2.2 == 0 && true))
def cks (s : Sta) : List (Bool × Int) := [(zeroT (sumsL s.accs), 1), (rightL s.accs, 2), (paysOk s, 3), (sagsOk s, 4), (holdsOk s, 5), (knownB s, 6)]
def faultsOf (l : List (Bool × Int)) : List Int := (l.filter (fun c => !c.1)).map (·.2)
def faults (s : Sta) : List Int := faultsOf (cks s)
theorem faults_len (s : Sta) : (faults s).length ≤ 6 := by
  unfold faults faultsOf
  rw [List.length_map]
  exact List.Sublist.length_le List.filter_sublist
def ckA (c : Bool × Int) : AV := .agg [.bool c.1, .int .i64 c.2]
def fltA (F : Nat) : List Int → AV
  | [] => .sl .nl 0 []
  | n :: l => .sl (.own F) 86 (.int .i64 n :: iA l)
def checkC0 (args : List AV) (bs : List Box) (K : AV → List Box → Prop) : Prop := bs = [] ∧ ∃ (s : Sta), args = [staA s] ∧ Small s ∧ K (fltA 41000 (faults s)) []
def checkC (args : List AV) (bs : List Box) (K : AV → List Box → Prop) : Prop := bs = [] ∧ ∃ (s : Sta), args = [staA s] ∧ Small s ∧ K (.sl .fz 86 (iA (faults s))) []
def R8 : Contract
  | 55 => sumsC
  | 56 => rightLC
  | 57 => paysC
  | 58 => sagsC
  | 59 => holdsC
  | 60 => knownC
  | _ => fun _ _ _ => False
theorem R8_ok : CallOk Tryz.prog tab R8 := by
  intro f args bs K h
  unfold R8 at h
  split at h
  · exact ⟨_, h, sums_ok⟩
  · exact ⟨_, h, rightL_ok⟩
  · exact ⟨_, h, pays_ok⟩
  · exact ⟨_, h, sags_ok⟩
  · exact ⟨_, h, holds_ok⟩
  · exact ⟨_, h, known_ok⟩
  · exact h.elim
def R8_E (pl : Nat → Plan) : En := ⟨tab, R8, fun _ => none, 0, pl⟩
theorem R8_J (pl : Nat → Plan) : JOk Tryz.prog (R8_E pl).T (R8_E pl).J := fun _ _ h => by cases h
theorem faults_next {l : List (Bool × Int)} {i : Nat} {c : Bool × Int} (h : l[i]? = some c) : faultsOf (l.take (i + 1)) = faultsOf (l.take i) ++ (if c.1 then [] else [c.2]) := by
  unfold faultsOf
  rw [List.take_add_one, h, List.filter_append, List.map_append]
  congr 1
  cases hc : c.1 <;> simp [hc]
set_option maxRecDepth 200000 in
set_option maxHeartbeats 6400000 in
theorem check_ok0 : FnOk Tryz.prog tab 28 checkC0 := by
  refine fn_ok (E := R8_E pl28) tab_is R8_ok (R8_J _) Tryz.func28 rfl rfl (by kernel_rfl) ?_
  rintro args bs K ⟨rfl, s, rfl, hS, hK⟩
  refine ⟨rfl, ?_⟩
  have hSa := hS.a
  have hSp := hS.p
  have hSg := hS.g
  have hSk := hS.k
  refine ⟨rfl, s.accs, rfl, by omega, ?_⟩
  refine ⟨rfl, s.accs, rfl, ?_⟩
  refine ⟨rfl, s, rfl, by omega, ?_⟩
  refine ⟨rfl, s, rfl, by omega, by omega, ?_⟩
  refine ⟨rfl, s, rfl, hS, ?_⟩
  refine ⟨rfl, s, rfl, hS, ?_⟩
  unfold faults at hK
  have hcl : (cks s).length = 6 := rfl
  have hel : ((cks s).map ckA) = [.agg [.bool (zeroT (sumsL s.accs)), .int .i64 1], .agg [.bool (rightL s.accs), .int .i64 2], .agg [.bool (paysOk s), .int .i64 3], .agg [.bool (sagsOk s), .int .i64 4], .agg [.bool (holdsOk s), .int .i64 5], .agg [.bool (knownB s), .int .i64 6]] := rfl
  refine ⟨fun m st => ∃ (i : Nat) (out : List Int), (i ≤ 6 ∧ out = faultsOf ((cks s).take i)) ∧ 6 - i = m ∧ st.t 28 = .sl (.own 28000) 125 ((cks s).map ckA) ∧ st.t 29 = .int .i64 6 ∧ st.t 30 = .int .i64 i ∧ st.t 3 = fltA 41000 out,
    ⟨_, 0, [], ⟨Nat.zero_le _, rfl⟩, rfl, rfl, rfl, rfl, rfl⟩, ?_⟩
  generalize cks s = cl at hcl hK ⊢
  rintro _ ⟨t1, h1⟩ ⟨i, out, ⟨hi, hO⟩, rfl, e28, e29, e30, e3⟩
  have e28 : t1 28 = .sl (.own 28000) 125 (cl.map ckA) := e28
  have e29 : t1 29 = .int .i64 6 := e29
  have e30 : t1 30 = .int .i64 i := e30
  have w : IntKind.i64.wrap ((i : Int) + 1) = ((i + 1 : Nat) : Int) := by rw [wrap_of] <;> omega
  have hol : out.length ≤ 6 := by
    rw [hO]
    unfold faultsOf
    rw [List.length_map]
    refine Nat.le_trans (List.Sublist.length_le List.filter_sublist) ?_
    rw [List.length_take]; omega
  cases out with
  | nil =>
    have e3 : t1 3 = .sl .nl 0 [] := e3
    rw [← updL_has t1 [(28, .sl (.own 28000) 125 (cl.map ckA)), (29, .int .i64 6), (30, .int .i64 i), (3, .sl .nl 0 [])] ⟨e28, e29, e30, e3, trivial⟩]
    constructor
    · intro hb
      have hi' : i < 6 := by
        have : (i : Int) < 6 := by simpa using hb
        omega
      obtain ⟨c, hc⟩ : ∃ c, cl[i]? = some c := ⟨_, List.getElem?_eq_getElem (by omega)⟩
      have hst := faults_next hc
      have hlt : 6 - (i + 1) < 6 - i := by omega
      refine ⟨_, Int.natCast_nonneg i, map_of hc, ?_⟩
      constructor
      · intro hn
        have hn : c.1 = false := by simpa using hn
        rw [hn, if_neg (by simp), ← hO] at hst
        refine ⟨(by decide : 1 * 8 ≤ 140737488355328), ?_⟩
        exact ⟨_, hlt, i + 1, [] ++ [c.2], ⟨hi', hst.symm⟩, rfl, rfl, rfl, congrArg (AV.int .i64) w, rfl⟩
      · intro hn
        have hn : c.1 = true := by simpa using hn
        rw [hn, if_pos rfl, List.append_nil, ← hO] at hst
        exact ⟨_, hlt, i + 1, [], ⟨hi', hst.symm⟩, rfl, rfl, rfl, congrArg (AV.int .i64) w, rfl⟩
    · intro hb
      have hi' : i = 6 := by
        have : ¬ (i : Int) < 6 := by simpa using hb
        omega
      subst hi'
      rw [List.take_of_length_le (by omega)] at hO
      rw [← hO] at hK
      exact hK
  | cons o os =>
    have e3 : t1 3 = .sl (.own 41000) 86 (.int .i64 o :: iA os) := e3
    rw [← updL_has t1 [(28, .sl (.own 28000) 125 (cl.map ckA)), (29, .int .i64 6), (30, .int .i64 i), (3, .sl (.own 41000) 86 (.int .i64 o :: iA os))] ⟨e28, e29, e30, e3, trivial⟩]
    constructor
    · intro hb
      have hi' : i < 6 := by
        have : (i : Int) < 6 := by simpa using hb
        omega
      obtain ⟨c, hc⟩ : ∃ c, cl[i]? = some c := ⟨_, List.getElem?_eq_getElem (by omega)⟩
      have hst := faults_next hc
      have hlt : 6 - (i + 1) < 6 - i := by omega
      refine ⟨_, Int.natCast_nonneg i, map_of hc, ?_⟩
      constructor
      · intro hn
        have hn : c.1 = false := by simpa using hn
        rw [hn, if_neg (by simp), ← hO] at hst
        have hb2 : ((AV.int .i64 o :: iA os).length + 1) * 8 ≤ 140737488355328 := by simp [iA] at hol ⊢; omega
        have heq : AV.sl (.own 41000) 86 ((.int .i64 o :: iA os) ++ [.int .i64 c.2]) = fltA 41000 ((o :: os) ++ [c.2]) := by simp [fltA, iA]
        refine ⟨hb2, ?_⟩
        exact ⟨_, hlt, i + 1, (o :: os) ++ [c.2], ⟨hi', hst.symm⟩, rfl, rfl, rfl, congrArg (AV.int .i64) w, heq⟩
      · intro hn
        have hn : c.1 = true := by simpa using hn
        rw [hn, if_pos rfl, List.append_nil, ← hO] at hst
        exact ⟨_, hlt, i + 1, (o :: os), ⟨hi', hst.symm⟩, rfl, rfl, rfl, congrArg (AV.int .i64) w, rfl⟩
    · intro hb
      have hi' : i = 6 := by
        have : ¬ (i : Int) < 6 := by simpa using hb
        omega
      subst hi'
      rw [List.take_of_length_le (by omega)] at hO
      rw [← hO] at hK
      exact hK
theorem fz_flt (F : Nat) (l : List Int) : Fz (fltA F l) (.sl .fz 86 (iA l)) := by
  cases l with
  | nil => exact .inr ⟨_, _, rfl, rfl⟩
  | cons n l => exact .inl ⟨_, _, _, rfl, rfl⟩
theorem check_ok : FnOk Tryz.prog tab 28 checkC := check_ok0.fz.mono (by
  rintro args bs K ⟨rfl, s, rfl, hS, hK⟩
  exact ⟨rfl, rfl, s, rfl, hS, _, fz_flt _ _, hK⟩)
end Go.Proofs.YtjffmldlkofpaaaGreatDoor.A
