/- entry: Balanced, Back, Move. -/
import Derived.Test.YtmlgkojmbnjfbaaDoorU2
import Derived.Test.YtmlgkojmbnjfbaaDoorM0
namespace Go.Proofs.YtmlgkojmbnjfbaaDoor.Q
structure Ent where
  (acct amt : Int)
end Go.Proofs.YtmlgkojmbnjfbaaDoor.Q
namespace Go.Proofs.YtmlgkojmbnjfbaaDoor.A
open Go Q
def entA (e : Ent) : AV := .agg [.int .i64 e.acct, .int .i64 e.amt]
abbrev entsS (g : Tag) (l : List Ent) : AV := .sl g 93 (l.map entA)
abbrev entsA (l : List Ent) : AV := entsS .fz l
theorem drop_at {α : Type} {l : List α} {i : Nat} {x : α} (h : l[i]? = some x) : l.drop i = x :: l.drop (i + 1) := by
  obtain ⟨hi, rfl⟩ := List.getElem?_eq_some_iff.1 h
  exact List.drop_eq_getElem_cons hi
/-- One entry more in the sums. -/
def balStep (al : List Acc) (t : Tri) (e : Ent) : Option Tri :=
  if (ofN al.length e.acct).2 = false ∨ mayB e.amt = false then none else
  match al[e.acct.toNat]? with
  | none => none
  | some a => if a.cur = 0 then (match addM t.1 e.amt with | .ok s => some (s, t.2.1, t.2.2) | .error _ => none)
    else if a.cur = 1 then (match addM t.2.1 e.amt with | .ok s => some (t.1, s, t.2.2) | .error _ => none)
    else if a.cur = 2 then (match addM t.2.2 e.amt with | .ok s => some (t.1, t.2.1, s) | .error _ => none) else none
def balGo (al : List Acc) : Tri → List Ent → Option Tri
  | t, [] => some t
  | t, e :: es => match balStep al t e with
    | some t' => balGo al t' es
    | none => none
def balM (al : List Acc) (es : List Ent) : Bool := match balGo al (0, 0, 0) es with
  | some t => (t.1 == 0) && ((t.2.1 == 0) && (t.2.2 == 0))
  | none => false
theorem balGo_cons (al : List Acc) (t : Tri) (e : Ent) (es : List Ent) : balGo al t (e :: es) = (match balStep al t e with
    | some t' => balGo al t' es
    | none => none) := rfl
def balC (args : List AV) (bs : List Box) (K : AV → List Box → Prop) : Prop := bs = [] ∧ ∃ (al : List Acc) (es : List Ent), args = [accsA al, entsA es] ∧ al.length ≤ 1000000 ∧ es.length ≤ 1000000 ∧ K (.bool (balM al es)) []
def RB : Contract
  | 50 => ofC
  | 70 => maysC
  | 56 => addMC
  | _ => fun _ _ _ => False
theorem RB_ok : CallOk Tryd.prog tab RB := by
  intro f args bs K h
  unfold RB at h
  split at h
  · exact ⟨_, h, of_ok⟩
  · exact ⟨_, h, mays_ok⟩
  · exact ⟨_, h, addM_ok⟩
  · exact h.elim
def RB_E (pl : Nat → Plan) : En := ⟨tab, RB, fun _ => none, 0, pl⟩
theorem RB_J (pl : Nat → Plan) : JOk Tryd.prog (RB_E pl).T (RB_E pl).J := fun _ _ h => by cases h
theorem of_true {n : Nat} {k : Int} (h : (ofN n k).2 = true) : 0 ≤ k ∧ k < n := by
  unfold ofN at h
  split at h
  · cases h
  · omega
set_option maxRecDepth 200000 in
set_option maxHeartbeats 3200000 in
theorem bal_ok : FnOk Tryd.prog tab 55 balC := by
  refine fn_ok (E := RB_E pl55) tab_is RB_ok (RB_J _) Tryd.func55 rfl rfl (by kernel_rfl) ?_
  rintro args bs K ⟨rfl, al, es, rfl, hla, hle, hK⟩
  refine ⟨rfl, ?_⟩
  refine ⟨fun mm st => ∃ (i : Nat) (t : Tri), (i ≤ es.length ∧ balGo al (0, 0, 0) es = balGo al t (es.drop i)) ∧ es.length - i = mm ∧ st.t 0 = accsA al ∧ st.t 13 = entsA es ∧ st.t 14 = .int .i64 ((es.map entA).length : Nat) ∧ st.t 15 = .int .i64 i ∧ st.t 5 = .ptr 5 0 ∧ st.h 5 = triB t,
    ⟨_, 0, (0, 0, 0), ⟨Nat.zero_le _, rfl⟩, rfl, rfl, rfl, rfl, rfl, rfl, (by kernel_rfl)⟩, ?_⟩
  rintro _ ⟨t1, h1⟩ ⟨i, t, ⟨hi, hT⟩, rfl, e0, e13, e14, e15, e5, b5⟩
  have e0 : t1 0 = accsA al := e0
  have e13 : t1 13 = entsA es := e13
  have e14 : t1 14 = .int .i64 ((es.map entA).length : Nat) := e14
  have e15 : t1 15 = .int .i64 i := e15
  have e5 : t1 5 = .ptr 5 0 := e5
  have b5 : h1 5 = triB t := b5
  rw [← updL_has t1 [(0, accsA al), (13, entsA es), (14, .int .i64 ((es.map entA).length : Nat)), (15, .int .i64 i), (5, .ptr 5 0)] ⟨e0, e13, e14, e15, e5, trivial⟩, ← updL_has h1 [(5, triB t)] ⟨b5, trivial⟩]
  obtain ⟨s0, s1, s2⟩ := t
  constructor
  · intro hb
    have hi' : i < es.length := by
      have : (i : Int) < ((es.map entA).length : Nat) := by simpa using hb
      simp at this; omega
    have w : IntKind.i64.wrap ((i : Int) + 1) = ((i + 1 : Nat) : Int) := by rw [wrap_of] <;> omega
    have hlt : es.length - (i + 1) < es.length - i := by omega
    obtain ⟨e, hx⟩ : ∃ x, es[i]? = some x := ⟨_, List.getElem?_eq_getElem hi'⟩
    have hm := List.mem_of_getElem? hx
    have hdr := drop_at hx
    rw [hdr, balGo_cons] at hT
    have no : balStep al (s0, s1, s2) e = none → K (.bool false) [] := fun h => by
      rw [h] at hT
      have : balM al es = false := by unfold balM; rw [hT]
      rw [this] at hK; exact hK
    refine ⟨_, Int.natCast_nonneg i, map_of hx, ?_⟩
    refine ⟨rfl, al, e.acct, rfl, ?_⟩
    cases ho : (ofN al.length e.acct).2 with
    | false =>
      have no := no (by unfold balStep; rw [if_pos (.inl ho)])
      refine ⟨fun _ => ?_, fun h => Bool.noConfusion (show true = false from h)⟩
      exact ⟨fun _ => no, fun h => Bool.noConfusion (show true = false from h)⟩
    | true =>
      refine ⟨fun h => Bool.noConfusion (show false = true from h), fun _ => ?_⟩
      refine ⟨rfl, e.amt, rfl, ?_⟩
      cases hmy : mayB e.amt with
      | false =>
        have no := no (by unfold balStep; rw [if_pos (.inr hmy)])
        exact ⟨fun _ => no, fun h => Bool.noConfusion (show true = false from h)⟩
      | true =>
        refine ⟨fun h => Bool.noConfusion (show false = true from h), fun _ => ?_⟩
        obtain ⟨k0, k1⟩ := of_true ho
        obtain ⟨a, ha⟩ : ∃ a, al[e.acct.toNat]? = some a := ⟨_, List.getElem?_eq_getElem (by omega)⟩
        have hst : balStep al (s0, s1, s2) e = (if a.cur = 0 then (match addM s0 e.amt with | .ok s => some (s, s1, s2) | .error _ => none)
            else if a.cur = 1 then (match addM s1 e.amt with | .ok s => some (s0, s, s2) | .error _ => none)
            else if a.cur = 2 then (match addM s2 e.amt with | .ok s => some (s0, s1, s) | .error _ => none) else none) := by
          unfold balStep; rw [if_neg (by simp [ho, hmy]), ha]
        refine ⟨_, k0, map_of ha, ?_⟩
        obtain ⟨cur, bal, held⟩ := a
        by_cases c0 : cur = 0
        · subst c0
          rw [if_pos rfl] at hst
          refine ⟨fun h => Bool.noConfusion (show false = true from h), fun _ => ?_⟩
          refine ⟨fun h => Bool.noConfusion (show false = true from h), fun _ => ?_⟩
          repeat' first
            | (refine ⟨0, rfl, (by decide : 0 < 3), ?_⟩)
            | (refine ⟨rfl, s0, e.amt, rfl, fun s hs => ?_, fun x hx2 => ?_⟩)
            | (refine ⟨fun h => Bool.noConfusion (show false = true from h), fun _ => ?_⟩)
            | (refine ⟨fun _ => ?_, fun h => Bool.noConfusion (show true = false from h)⟩)
            | exact no (by rw [hst, hx2])
            | (rw [hst, hs] at hT; exact ⟨_, hlt, i + 1, _, ⟨hi', hT⟩, rfl, rfl, rfl, rfl, congrArg (AV.int .i64) w, rfl, rfl⟩)
            | (refine And.intro ?_ ?_)
            | fail
        · rw [if_neg c0] at hst
          by_cases c1 : cur = 1
          · subst c1
            rw [if_pos rfl] at hst
            refine ⟨fun h => Bool.noConfusion (show false = true from h), fun _ => ?_⟩
            refine ⟨fun h => Bool.noConfusion (show false = true from h), fun _ => ?_⟩
            repeat' first
              | (refine ⟨1, rfl, (by decide : 1 < 3), ?_⟩)
              | (refine ⟨rfl, s1, e.amt, rfl, fun s hs => ?_, fun x hx2 => ?_⟩)
              | (refine ⟨fun h => Bool.noConfusion (show false = true from h), fun _ => ?_⟩)
              | (refine ⟨fun _ => ?_, fun h => Bool.noConfusion (show true = false from h)⟩)
              | exact no (by rw [hst, hx2])
              | (rw [hst, hs] at hT; exact ⟨_, hlt, i + 1, _, ⟨hi', hT⟩, rfl, rfl, rfl, rfl, congrArg (AV.int .i64) w, rfl, rfl⟩)
              | (refine And.intro ?_ ?_)
              | fail
          · rw [if_neg c1] at hst
            by_cases c2 : cur = 2
            · subst c2
              rw [if_pos rfl] at hst
              refine ⟨fun h => Bool.noConfusion (show false = true from h), fun _ => ?_⟩
              refine ⟨fun h => Bool.noConfusion (show false = true from h), fun _ => ?_⟩
              repeat' first
                | (refine ⟨2, rfl, (by decide : 2 < 3), ?_⟩)
                | (refine ⟨rfl, s2, e.amt, rfl, fun s hs => ?_, fun x hx2 => ?_⟩)
                | (refine ⟨fun h => Bool.noConfusion (show false = true from h), fun _ => ?_⟩)
                | (refine ⟨fun _ => ?_, fun h => Bool.noConfusion (show true = false from h)⟩)
                | exact no (by rw [hst, hx2])
                | (rw [hst, hs] at hT; exact ⟨_, hlt, i + 1, _, ⟨hi', hT⟩, rfl, rfl, rfl, rfl, congrArg (AV.int .i64) w, rfl, rfl⟩)
                | (refine And.intro ?_ ?_)
                | fail
            · rw [if_neg c2] at hst
              have no := no hst
              have bad : ¬ (cur ≥ 0 ∧ cur < 3) := by omega
              refine ⟨fun h => ?_, fun h => ?_⟩
              · exact ⟨fun _ => no, fun h => Bool.noConfusion (show true = false from h)⟩
              · refine ⟨fun _ => no, fun h2 => ?_⟩
                exact absurd ⟨by simpa using h, by simpa using h2⟩ bad
  · intro hb
    have hi' : i = es.length := by
      have : ¬ (i : Int) < ((es.map entA).length : Nat) := by simpa using hb
      simp at this; omega
    subst hi'
    rw [List.drop_length] at hT
    have hT : balGo al (0, 0, 0) es = some (s0, s1, s2) := hT
    have fin : ∀ b, b = balM al es → K (.bool b) [] := fun b e => e ▸ hK
    refine fin _ ?_
    unfold balM
    rw [hT]
    simp
/-- Entries the other way round. -/
def negE (e : Ent) : Ent := ⟨e.acct, w64 (0 - e.amt)⟩
def backM (es : List Ent) : List Ent := es.reverse.map negE
def entsN (F : Nat) : List Ent → AV
  | [] => .sl .nl 0 []
  | l => entsS (.own F) l
theorem entsN_cons (F : Nat) (e : Ent) (l : List Ent) : entsN F (e :: l) = entsS (.own F) (e :: l) := rfl
def backC (args : List AV) (bs : List Box) (K : AV → List Box → Prop) : Prop := bs = [] ∧ ∃ es : List Ent, args = [entsA es] ∧ es.length ≤ 1000000 ∧ K (entsN 26000 (backM es)) []
theorem ents_snoc (F : Nat) (l : List Ent) (x : Ent) : AV.sl (.own F) 93 (l.map entA ++ [entA x]) = entsN F (l ++ [x]) := by
  cases l <;> simp [entsN]
theorem backM_len (es : List Ent) : (backM es).length = es.length := by simp [backM]
theorem backM_at {es : List Ent} {j : Nat} {x : Ent} (hj : j < es.length) (hx : es[es.length - 1 - j]? = some x) : (backM es).take (j + 1) = (backM es).take j ++ [negE x] := by
  rw [List.take_add_one]
  have : (backM es)[j]? = some (negE x) := by
    unfold backM
    rw [List.getElem?_map, List.getElem?_reverse hj, hx]; rfl
  rw [this]; rfl
set_option maxRecDepth 200000 in
set_option maxHeartbeats 1600000 in
theorem back_ok : FnOk Tryd.prog tab 35 backC := by
  refine fn_ok (E := R0_E pl35) tab_is R0_ok (R0_J _) Tryd.func35 rfl rfl (by kernel_rfl) ?_
  rintro args bs K ⟨rfl, es, rfl, hle, hK⟩
  refine ⟨rfl, ?_⟩
  have w0 : IntKind.i64.wrap (((es.map entA).length : Nat) - 1 : Int) = (es.length : Int) - 1 := by rw [List.length_map, wrap_of] <;> omega
  refine ⟨fun mm st => ∃ (j : Nat) (k : Int) (L : List Ent), (j ≤ es.length ∧ k = (es.length : Int) - 1 - j ∧ L = (backM es).take j) ∧ es.length - j = mm ∧ st.t 0 = entsA es ∧ st.t 4 = .int .i64 k ∧ st.t 3 = entsN 26000 L,
    ⟨_, 0, (es.length : Int) - 1, [], ⟨Nat.zero_le _, by omega, rfl⟩, rfl, rfl, congrArg (AV.int .i64) w0, rfl⟩, ?_⟩
  rintro _ ⟨t1, h1⟩ ⟨j, k, L, ⟨hj, hk, hL⟩, rfl, e0, e4, e3⟩
  have e0 : t1 0 = entsA es := e0
  have e4 : t1 4 = .int .i64 k := e4
  have e3 : t1 3 = entsN 26000 L := e3
  rw [← updL_has t1 [(0, entsA es), (4, .int .i64 k), (3, entsN 26000 L)] ⟨e0, e4, e3, trivial⟩]
  have w : IntKind.i64.wrap (k - 1) = k - 1 := by rw [wrap_of] <;> omega
  have hLl : L.length = j := by rw [hL, List.length_take, backM_len]; omega
  cases L with
  | nil =>
    have bd : 1 * 16 ≤ 140737488355328 := by decide
    constructor
    · intro hb
      have hb : k ≥ 0 := by simpa using hb
      have hlt : es.length - (j + 1) < es.length - j := by omega
      have hkn : k.toNat = es.length - 1 - j := by omega
      obtain ⟨x, hx⟩ : ∃ x, es[es.length - 1 - j]? = some x := ⟨_, List.getElem?_eq_getElem (by omega)⟩
      have hnx := backM_at (by omega) hx
      rw [← hkn] at hx
      rw [← hL] at hnx
      repeat' first
        | (refine ⟨_, hb, map_of hx, ?_⟩)
        | (refine ⟨bd, ?_⟩)
        | (refine ⟨_, hlt, j + 1, k - 1, _, ⟨by omega, by omega, hnx.symm⟩, rfl, rfl, congrArg (AV.int .i64) w, ents_snoc 26000 [] (negE x)⟩)
        | (refine And.intro ?_ ?_)
        | fail
    · intro hb
      have hb : ¬ k ≥ 0 := by simpa using hb
      have hjn : j = es.length := by omega
      rw [hjn, ← backM_len es, List.take_length] at hL
      rw [← hL] at hK
      exact hK
  | cons e1 L =>
    have bd : (((e1 :: L).map entA).length + 1) * 16 ≤ 140737488355328 := by
      rw [List.length_map]; omega
    constructor
    · intro hb
      have hb : k ≥ 0 := by simpa using hb
      have hlt : es.length - (j + 1) < es.length - j := by omega
      have hkn : k.toNat = es.length - 1 - j := by omega
      obtain ⟨x, hx⟩ : ∃ x, es[es.length - 1 - j]? = some x := ⟨_, List.getElem?_eq_getElem (by omega)⟩
      have hnx := backM_at (by omega) hx
      rw [← hkn] at hx
      rw [← hL] at hnx
      repeat' first
        | (refine ⟨_, hb, map_of hx, ?_⟩)
        | (refine ⟨bd, ?_⟩)
        | (refine ⟨_, hlt, j + 1, k - 1, _, ⟨by omega, by omega, hnx.symm⟩, rfl, rfl, congrArg (AV.int .i64) w, ents_snoc 26000 (e1 :: L) (negE x)⟩)
        | (refine And.intro ?_ ?_)
        | fail
    · intro hb
      have hb : ¬ k ≥ 0 := by simpa using hb
      have hjn : j = es.length := by omega
      rw [hjn, ← backM_len es, List.take_length] at hL
      rw [← hL] at hK
      exact hK
end Go.Proofs.YtmlgkojmbnjfbaaDoor.A
