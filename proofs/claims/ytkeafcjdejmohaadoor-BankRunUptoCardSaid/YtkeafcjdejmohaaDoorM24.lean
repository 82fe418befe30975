/- bank: next, whole, Do. -/
import Derived.Test.YtkeafcjdejmohaaDoorGS
namespace Go.Proofs.YtkeafcjdejmohaaDoor.A
open Go Q
abbrev legsA (l : List Bool) : AV := .sl .fz 4 (l.map AV.bool)
abbrev legsB (l : List Bool) : Box := .cells 112 [legsA l]
def nextC (args : List AV) (bs : List Box) (K : AV → List Box → Prop) : Prop := ∃ l : List Bool, bs = [legsB l] ∧ args = [.ptr 1000000000 0] ∧ K (.bool (l.headD true)) [legsB l.tail]
set_option maxRecDepth 200000 in
set_option maxHeartbeats 1600000 in
theorem next_ok : FnOk Tryd.prog tab 78 nextC := by
  refine fn_ok (E := R0_E pl78) tab_is R0_ok (R0_J _) Tryd.func78 rfl rfl (by kernel_rfl) ?_
  rintro args bs K ⟨l, rfl, rfl, hK⟩
  refine ⟨rfl, ?_⟩
  cases l with
  | nil =>
    refine ⟨fun _ => ?_, fun h => Bool.noConfusion (show true = false from h)⟩
    exact hK
  | cons b l =>
    have hl : ((((b :: l).map AV.bool).length : Nat) : Int) = (l.length : Int) + 1 := by simp
    have hn : (((((b :: l).map AV.bool).length : Nat) : Int) == 0) = false := by rw [hl]; simp; omega
    refine ⟨fun h => absurd (hn.symm.trans h) (by decide), fun _ => ?_⟩
    refine ⟨_, Int.le_refl 0, rfl, ?_⟩
    have h1 : (0 : Int) ≤ 1 := by decide
    have h2 : (1 : Int).toNat ≤ ((b :: l).map AV.bool).length := by simp
    have h3 : ((b :: l).map AV.bool).length ≤ ((b :: l).map AV.bool).length := Nat.le_refl _
    have e : (((b :: l).map AV.bool).take ((b :: l).map AV.bool).length).drop (1 : Int).toNat = l.map AV.bool := by rw [List.take_length]; rfl
    have hend : K (.bool b) [.cells 112 [.sl .fz 4 ((((b :: l).map AV.bool).take ((b :: l).map AV.bool).length).drop (1 : Int).toNat)]] := by rw [e]; exact hK
    exact ⟨h1, h2, h3, hend⟩
def wholeGo : Nat → Sag → List Bool → Nat → Sag × Nat
  | 0, g, _, k => (g, k)
  | f + 1, g, ls, k => if g.phase = 0 ∧ readyM g = false then wholeGo f (legM g (ls.headD true)) ls.tail (k + 1) else (g, k)
abbrev fuel : Nat := 30
def wholeM (s : Sta) (r : Req) (legs : List Bool) : Sta × Rep × Nat := match reserveM s r with
  | .error e => (s, (e, 0), 0)
  | .ok t => if (wholeGo fuel (beginM r) legs 0).1.phase = 0 then (match settleM t r with
      | .ok u => (u, (0, 0), min (wholeGo fuel (beginM r) legs 0).2 legs.length)
      | .error e => (undoD t r, (e, 0), min (wholeGo fuel (beginM r) legs 0).2 legs.length))
    else (undoD t r, ((wholeGo fuel (beginM r) legs 0).1.why, 0), min (wholeGo fuel (beginM r) legs 0).2 legs.length)
def wholeC (args : List AV) (bs : List Box) (K : AV → List Box → Prop) : Prop := bs = [] ∧ ∃ (s : Sta) (r : Req) (legs : List Bool), args = [staA s, reqA r, legsA legs] ∧ SzA s ∧ (0 ≤ r.legs ∧ r.legs ≤ 4) ∧ legs.length ≤ 4611686018427387904 ∧
  K (.tup [staA (wholeM s r legs).1, repA (wholeM s r legs).2.1.1 (wholeM s r legs).2.1.2, .int .i64 ((wholeM s r legs).2.2 : Nat)]) []
def plWh : Nat → Plan
  | 9 => .take 1 (.alt 0 (.last 2 (.cut 3 (.cut 4 .done))) (.last 2 (.last 0 (.cut 3 (.cut 4 .done)))))
  | k => pl49 k
def RWh : Contract
  | 77 => (srC reserveM)
  | 82 => (srC settleM)
  | 84 => (srC undoM)
  | 47 => numberC
  | 79 => beginC
  | 80 => readyC
  | 81 => legC
  | 83 => turnC
  | _ => fun _ _ _ => False
theorem RWh_ok : CallOk Tryd.prog tab RWh := by
  intro f args bs K h
  unfold RWh at h
  split at h
  · exact ⟨_, h, reserve_ok⟩
  · exact ⟨_, h, settle_ok⟩
  · exact ⟨_, h, undo_ok⟩
  · exact ⟨_, h, number_ok⟩
  · exact ⟨_, h, begin_ok⟩
  · exact ⟨_, h, ready_ok⟩
  · exact ⟨_, h, leg_ok⟩
  · exact ⟨_, h, turn_ok⟩
  · exact h.elim
def RWh_E (pl : Nat → Plan) : En := ⟨tab, RWh, fun _ => none, 0, pl⟩
theorem RWh_J (pl : Nat → Plan) : JOk Tryd.prog (RWh_E pl).T (RWh_E pl).J := fun _ _ h => by cases h
noncomputable def JWh : FuncId → Option StSpec
  | 78 => some (ptrJ nextC)
  | _ => none
theorem JWh_ok : JOk Tryd.prog tab JWh := by
  intro f j h
  unfold JWh at h
  split at h
  · cases h; exact ptr_ok next_ok
  · cases h
noncomputable def EWh_E (pl : Nat → Plan) : En := ⟨tab, RWh, JWh, 0, pl⟩
theorem min_nat (a b : Nat) : (if (b : Int) < (a : Int) then (b : Int) else (a : Int)) = ((min a b : Nat) : Int) := by
  split <;> omega
set_option maxRecDepth 2000000 in
set_option maxHeartbeats 12800000 in
theorem whole_ok : FnOk Tryd.prog tab 49 wholeC := by
  refine fn_ok (E := EWh_E plWh) tab_is RWh_ok JWh_ok Tryd.func49 rfl rfl (by kernel_rfl) ?_
  rintro args bs K ⟨rfl, s, r, legs, rfl, hz, hlg, hll, hK⟩
  refine ⟨rfl, ?_⟩
  unfold wholeM at hK
  refine ⟨rfl, s, r, rfl, hz, fun t hR => ?_, fun e hR => ?_⟩
  · simp only [hR] at hK
    have hzt := sz_of hz (reserve_len hR)
    refine ⟨fun h => Bool.noConfusion (show false = true from h), fun _ => ?_⟩
    refine ⟨rfl, r, rfl, ?_⟩
    refine ⟨fun mm st => ∃ (g : Sag) (ls : List Bool) (k f : Nat), (SagI g ∧ muG g < f ∧ k + f = fuel ∧ wholeGo fuel (beginM r) legs 0 = wholeGo f g ls k) ∧ f = mm ∧ st.t 12 = .fn (.func 78) [.ptr 5 0] [] ∧ st.t 11 = .int .i64 (legs.length : Nat) ∧ st.t 14 = .int .i64 k ∧ st.t 3 = .ptr 3 0 ∧ st.t 4 = .ptr 4 0 ∧ st.t 5 = .ptr 5 0 ∧ st.t 6 = .ptr 6 0 ∧ st.t 7 = .ptr 7 0 ∧ st.t 9 = .ptr 9 0 ∧ st.t 13 = .ptr 13 0 ∧ st.h 5 = some (legsB ls) ∧ st.h 13 = some (.cells 156 (sagA g).cells) ∧ st.h 4 = some (.cells 29 (reqA r).cells) ∧ st.h 9 = staB t ∧ st.h 6 = some (.cells 36 [.sl .nl 0 [], .sl .nl 0 [], .sl .nl 0 [], .sl .nl 0 [], .int .i64 0]) ∧ st.h 7 = some (.cells 40 [.int .i64 0, .int .i64 0]),
      ⟨_, beginM r, legs, 0, fuel, ⟨begin_I hlg.1 hlg.2, by show ((r.legs - 0) * 5 + (4 - 0)).toNat < fuel; show _ < 30; omega, rfl, rfl⟩, rfl, rfl, congrArg (fun n : Nat => AV.int .i64 (n : Int)) (List.length_map ..), rfl, rfl, rfl, rfl, rfl, rfl, rfl, rfl, rfl, rfl, rfl, rfl, rfl, rfl⟩, ?_⟩
    rintro _ ⟨t1, h1⟩ ⟨g, ls, k, f, ⟨hI, hmu, hk, hW⟩, rfl, e12, e11, e14, e3, e4, e5, e6, e7, e9, e13, b5, b13, b4, b9, b6, b7⟩
    have e12 : t1 12 = .fn (.func 78) [.ptr 5 0] [] := e12
    have e11 : t1 11 = .int .i64 (legs.length : Nat) := e11
    have e14 : t1 14 = .int .i64 k := e14
    have e3 : t1 3 = .ptr 3 0 := e3
    have e4 : t1 4 = .ptr 4 0 := e4
    have e5 : t1 5 = .ptr 5 0 := e5
    have e6 : t1 6 = .ptr 6 0 := e6
    have e7 : t1 7 = .ptr 7 0 := e7
    have e9 : t1 9 = .ptr 9 0 := e9
    have e13 : t1 13 = .ptr 13 0 := e13
    have b5 : h1 5 = some (legsB ls) := b5
    have b13 : h1 13 = some (.cells 156 (sagA g).cells) := b13
    have b4 : h1 4 = some (.cells 29 (reqA r).cells) := b4
    have b9 : h1 9 = staB t := b9
    have b6 : h1 6 = some (.cells 36 [.sl .nl 0 [], .sl .nl 0 [], .sl .nl 0 [], .sl .nl 0 [], .int .i64 0]) := b6
    have b7 : h1 7 = some (.cells 40 [.int .i64 0, .int .i64 0]) := b7
    rw [← updL_has t1 [(12, .fn (.func 78) [.ptr 5 0] []), (11, .int .i64 (legs.length : Nat)), (14, .int .i64 k), (3, .ptr 3 0), (4, .ptr 4 0), (5, .ptr 5 0), (6, .ptr 6 0), (7, .ptr 7 0), (9, .ptr 9 0), (13, .ptr 13 0)] ⟨e12, e11, e14, e3, e4, e5, e6, e7, e9, e13, trivial⟩, ← updL_has h1 [(5, some (legsB ls)), (13, some (.cells 156 (sagA g).cells)), (4, some (.cells 29 (reqA r).cells)), (9, staB t), (6, some (.cells 36 [.sl .nl 0 [], .sl .nl 0 [], .sl .nl 0 [], .sl .nl 0 [], .int .i64 0])), (7, some (.cells 40 [.int .i64 0, .int .i64 0]))] ⟨b5, b13, b4, b9, b6, b7, trivial⟩]
    have hE : ¬ (g.phase = 0 ∧ readyM g = false) → wholeGo fuel (beginM r) legs 0 = (g, k) := fun hc => by
      rw [hW]
      cases f with
      | zero => exact absurd hmu (Nat.not_lt_zero _)
      | succ f => unfold wholeGo; rw [if_neg hc]
    refine ⟨fun h0 => ?_, fun h0 => ?_⟩
    · have h0' : g.phase = 0 := beqT h0
      refine ⟨rfl, g, rfl, ?_⟩
      cases hr : readyM g with
      | false =>
        refine ⟨fun _ => ?_, fun h => Bool.noConfusion (show true = false from h)⟩
        obtain ⟨q1, q2, q3⟩ := sagI_leg hI h0' hr (ls.headD true)
        have hk30 : k + f = 30 := hk
        have wk : IntKind.i64.wrap ((k : Int) + 1) = ((k + 1 : Nat) : Int) := wrap_of (by omega) (by omega)
        obtain ⟨f', rfl⟩ : ∃ f', f = f' + 1 := ⟨f - 1, by omega⟩
        have hW' : wholeGo fuel (beginM r) legs 0 = wholeGo f' (legM g (ls.headD true)) ls.tail (k + 1) := by rw [hW, wholeGo, if_pos ⟨h0', hr⟩]
        have hend : ∀ {P : Prop}, P → P := id
        refine ⟨?_, ?_⟩
        · refine ⟨5, 112, [legsA ls], [], rfl, rfl, rfl, rfl, ls, rfl, rfl, ⟨[legsA ls.tail], rfl, rfl, rfl, ?_⟩⟩
          refine ⟨rfl, g, ls.headD true, rfl, ?_⟩
          exact ⟨f', by omega, legM g (ls.headD true), ls.tail, k + 1, f', ⟨q1, by omega, by omega, hW'⟩, rfl, rfl, rfl, congrArg (AV.int .i64) wk, rfl, rfl, rfl, rfl, rfl, rfl, rfl, rfl, rfl, rfl, rfl, rfl, rfl⟩
        · refine ⟨5, 112, [legsA ls], [], rfl, rfl, rfl, rfl, ls, rfl, rfl, ⟨[legsA ls.tail], rfl, rfl, rfl, ?_⟩⟩
          refine ⟨rfl, g, ls.headD true, rfl, ?_⟩
          exact ⟨f', by omega, legM g (ls.headD true), ls.tail, k + 1, f', ⟨q1, by omega, by omega, hW'⟩, rfl, rfl, rfl, congrArg (AV.int .i64) wk, rfl, rfl, rfl, rfl, rfl, rfl, rfl, rfl, rfl, rfl, rfl, rfl, rfl⟩
      | true =>
        refine ⟨fun h => Bool.noConfusion (show false = true from h), fun _ => ?_⟩
        have hE := hE (by simp [hr])
        rw [hE] at hK
        rw [if_pos h0'] at hK
        refine ⟨fun _ => ?_, fun h => absurd (h0.symm.trans h) (by decide)⟩
        refine ⟨rfl, t, r, rfl, hzt, fun u hu => ?_, fun e hu => ?_⟩
        · simp only [hu] at hK
          rw [← min_nat] at hK
          refine ⟨fun _ => ?_, fun h => Bool.noConfusion (show true = false from h)⟩
          exact hK
        · simp only [hu] at hK
          have hT : turnM g e = ⟨g.req, 1, g.leg, g.tries, e⟩ := by unfold turnM; rw [if_pos h0']
          refine ⟨fun h => Bool.noConfusion (show false = true from h), fun _ => ?_⟩
          refine ⟨?_, ?_⟩
          · refine ⟨rfl, .inr ⟨e, rfl, ?_⟩⟩
            refine ⟨rfl, g, e, rfl, ?_⟩
            rw [hT]
            refine ⟨rfl, t, r, rfl, hzt, fun u hu => ?_, fun e hu => ?_⟩
            · have hD : undoD t r = u := by unfold undoD; rw [hu]
              rw [hD] at hK
              rw [← min_nat] at hK
              repeat' first
                | exact hK
                | (refine And.intro ?_ ?_)
                | fail
            · have hD : undoD t r = t := by unfold undoD; rw [hu]
              rw [hD] at hK
              rw [← min_nat] at hK
              repeat' first
                | exact hK
                | (refine And.intro ?_ ?_)
                | fail
          · refine ⟨rfl, .inr ⟨e, rfl, ?_⟩⟩
            refine ⟨rfl, g, e, rfl, ?_⟩
            rw [hT]
            refine ⟨rfl, t, r, rfl, hzt, fun u hu => ?_, fun e hu => ?_⟩
            · have hD : undoD t r = u := by unfold undoD; rw [hu]
              rw [hD] at hK
              rw [← min_nat] at hK
              repeat' first
                | exact hK
                | (refine And.intro ?_ ?_)
                | fail
            · have hD : undoD t r = t := by unfold undoD; rw [hu]
              rw [hD] at hK
              rw [← min_nat] at hK
              repeat' first
                | exact hK
                | (refine And.intro ?_ ?_)
                | fail
    · have h0' : ¬ g.phase = 0 := beqF h0
      refine ⟨fun h => Bool.noConfusion (show false = true from h), fun _ => ?_⟩
      have hE := hE (fun h => h0' h.1)
      rw [hE] at hK
      rw [if_neg h0'] at hK
      refine ⟨fun h => absurd (h0.symm.trans h) (by decide), fun _ => ?_⟩
      refine ⟨rfl, t, r, rfl, hzt, fun u hu => ?_, fun e hu => ?_⟩
      · have hD : undoD t r = u := by unfold undoD; rw [hu]
        rw [hD] at hK
        rw [← min_nat] at hK
        repeat' first
          | exact hK
          | (refine And.intro ?_ ?_)
          | fail
      · have hD : undoD t r = t := by unfold undoD; rw [hu]
        rw [hD] at hK
        rw [← min_nat] at hK
        repeat' first
          | exact hK
          | (refine And.intro ?_ ?_)
          | fail
  · simp only [hR] at hK
    refine ⟨fun _ => ?_, fun h => Bool.noConfusion (show true = false from h)⟩
    repeat' first
      | exact ⟨rfl, .inr ⟨e, rfl, hK⟩⟩
      | (refine And.intro ?_ ?_)
      | fail
end Go.Proofs.YtkeafcjdejmohaaDoor.A
