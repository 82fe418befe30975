/- hawalalaw18: Some; saga.Most; drain: Bound, Run, All; hawalalaw21: awake. -/
import Derived.Test.YtjffmldlkofpaaaGreatDoorM36
import Derived.Test.YtjffmldlkofpaaaGreatDoorY16
namespace Go.Proofs.YtjffmldlkofpaaaGreatDoor.A
open Go Q
/-! ### some state -/
def someC (args : List AV) (bs : List Box) (K : AV → List Box → Prop) : Prop := bs = [] ∧ ∃ (b : Book) (ps : List Paid) (l : List Act), args = [bkA b, padS ps, actsS l] ∧ b.Ok ∧ (∀ p ∈ ps, p.In) ∧ ps.length ≤ 1999900 ∧ (∀ a ∈ l, a.In) ∧ l.length ≤ 1999900 ∧ K (staA (someM b ps l)) []
theorem state_B {b : Book} {ps : List Paid} {now : Int} (hb : b.Ok) (hp : ∀ p ∈ ps, p.In) : EngB 600000 (stateM b ps now) :=
  ⟨fun i a ha => (accs_bound (state_I now hb hp) i a ha).1, fun g hg => (by cases hg), fun g hg => (by cases hg)⟩
theorem some_GB {b : Book} {ps : List Paid} {l : List Act} (hb : b.Ok) (hp : ∀ p ∈ ps, p.In) (hl : ps.length ≤ 1999900) (ha : ∀ a ∈ l, a.In) : EngG (someM b ps l) ∧ EngB (600000 + 1600000 * l.length) (someM b ps l) :=
  acts_fold ha (state_engG hb hp hl (Int.le_refl 0)) (state_B hb hp) (by decide)
theorem some_next {b : Book} {ps : List Paid} {l : List Act} {i : Nat} {a : Act} (h : l[i]? = some a) : someM b ps (l.take (i + 1)) = (engM (someM b ps (l.take i)) (eventM a (someM b ps (l.take i)))).1 := by
  unfold someM
  rw [List.take_add_one, h, List.foldl_append]; rfl
def RSo : Contract
  | 23 => stateC
  | 36 => eventC
  | 19 => engC
  | _ => fun _ _ _ => False
theorem RSo_ok : CallOk Tryz.prog tab RSo := by
  intro f args bs K h
  unfold RSo at h
  split at h
  · exact ⟨_, h, state_ok⟩
  · exact ⟨_, h, event_ok⟩
  · exact ⟨_, h, eng_ok⟩
  · exact h.elim
def RSo_E (pl : Nat → Plan) : En := ⟨tab, RSo, fun _ => none, 0, pl⟩
theorem RSo_J (pl : Nat → Plan) : JOk Tryz.prog (RSo_E pl).T (RSo_E pl).J := fun _ _ h => by cases h
set_option maxRecDepth 200000 in
set_option maxHeartbeats 6400000 in
theorem some_ok : FnOk Tryz.prog tab 15 someC := by
  refine fn_ok (E := RSo_E pl15) tab_is RSo_ok (RSo_J _) Tryz.func15 rfl rfl (by kernel_rfl) ?_
  rintro args bs K ⟨rfl, b, ps, l, rfl, hb, hps, hpl, hl, hll, hK⟩
  refine ⟨rfl, ?_⟩
  refine ⟨rfl, b, ps, 0, rfl, hb.toIn, hps, hpl, ?_⟩
  have h0 : stateM b ps 0 = someM b ps (l.take 0) := by rw [List.take_zero]; rfl
  rw [h0]
  refine ⟨fun mm st => ∃ (i : Nat), (i ≤ l.length) ∧ l.length - i = mm ∧ st.t 13 = actsS l ∧ st.t 14 = .int .i64 ((l.map actA).length : Nat) ∧ st.t 15 = .int .i64 i ∧ st.t 7 = .ptr 7 0 ∧ st.t 6 = .ptr 6 0 ∧ st.h 7 = staB (someM b ps (l.take i)) ∧ st.h 6 = some (.cells 36 [.sl .nl 0 [], .sl .nl 0 [], .sl .nl 0 [], .sl .nl 0 [], .int .i64 0]),
    ⟨_, 0, Nat.zero_le _, rfl, rfl, rfl, rfl, rfl, rfl, rfl, rfl⟩, ?_⟩
  rintro _ ⟨t1, h1⟩ ⟨i, hi, rfl, e13, e14, e15, e7, e6, b7, b6⟩
  have e13 : t1 13 = actsS l := e13
  have e14 : t1 14 = .int .i64 ((l.map actA).length : Nat) := e14
  have e15 : t1 15 = .int .i64 i := e15
  have e7 : t1 7 = .ptr 7 0 := e7
  have e6 : t1 6 = .ptr 6 0 := e6
  have b7 : h1 7 = staB (someM b ps (l.take i)) := b7
  have b6 : h1 6 = some (.cells 36 [.sl .nl 0 [], .sl .nl 0 [], .sl .nl 0 [], .sl .nl 0 [], .int .i64 0]) := b6
  rw [← updL_has t1 [(13, actsS l), (14, .int .i64 ((l.map actA).length : Nat)), (15, .int .i64 i), (7, .ptr 7 0), (6, .ptr 6 0)] ⟨e13, e14, e15, e7, e6, trivial⟩, ← updL_has h1 [(7, staB (someM b ps (l.take i))), (6, some (.cells 36 [.sl .nl 0 [], .sl .nl 0 [], .sl .nl 0 [], .sl .nl 0 [], .int .i64 0]))] ⟨b7, b6, trivial⟩]
  have hS := (some_GB hb hps hpl (l := l.take i) (fun a ha => hl a (List.mem_of_mem_take ha))).1
  constructor
  · intro hb
    have hi' : i < l.length := by
      have : (i : Int) < ((l.map actA).length : Nat) := by simpa using hb
      simp at this; omega
    have w : IntKind.i64.wrap ((i : Int) + 1) = ((i + 1 : Nat) : Int) := by rw [wrap_of] <;> omega
    have hlt : l.length - (i + 1) < l.length - i := by omega
    obtain ⟨a, hx⟩ : ∃ x, l[i]? = some x := ⟨_, List.getElem?_eq_getElem hi'⟩
    have hm := List.mem_of_getElem? hx
    have hdr := drop_at hx
    have hnx := some_next (b := b) (ps := ps) hx
    generalize someM b ps (l.take i) = s at hS hnx ⊢
    have hS17 := hS.e.z.ls
    refine ⟨_, Int.natCast_nonneg i, map_of hx, ?_⟩
    refine ⟨rfl, a, s, rfl, hl a hm, by omega, ?_⟩
    refine ⟨rfl, s, eventM a s, rfl, hS.e.z, fun _ => hS.e.tell, ?_⟩
    rw [← hnx]
    exact ⟨_, hlt, i + 1, hi', rfl, rfl, rfl, congrArg (AV.int .i64) w, rfl, rfl, rfl, rfl⟩
  · intro hb
    have hi' : i = l.length := by
      have : ¬ (i : Int) < ((l.map actA).length : Nat) := by simpa using hb
      simp at this; omega
    subst hi'
    rw [List.take_length]
    exact hK
/-! ### how many steps -/
def mostC (args : List AV) (bs : List Box) (K : AV → List Box → Prop) : Prop := bs = [] ∧ ∃ g : Sag, args = [sagA g] ∧ SagI g ∧ K (.int .i64 (mostM g)) []
set_option maxRecDepth 200000 in
set_option maxHeartbeats 3200000 in
theorem most_ok : FnOk Tryz.prog tab 17 mostC := by
  refine fn_ok (E := R0_E pl17) tab_is R0_ok (R0_J _) Tryz.func17 rfl rfl (by kernel_rfl) ?_
  rintro args bs K ⟨rfl, g, rfl, hI, hK⟩
  refine ⟨rfl, ?_⟩
  have fin : ∀ n, n = mostM g → K (.int .i64 n) [] := fun n e => e ▸ hK
  have l := hI.l
  have n := hI.n
  have t := hI.t
  refine ⟨fun h => ?_, fun h => ?_⟩
  · have h0 : g.phase = 0 := beqT h
    refine fin _ ?_
    have w1 : IntKind.i64.wrap (g.req.legs - g.leg) = g.req.legs - g.leg := wrap_of (by omega) (by omega)
    have hmx : (if IntKind.i64.wrap (g.req.legs - g.leg) > 0 then IntKind.i64.wrap (g.req.legs - g.leg) else 0) = g.req.legs - g.leg := by rw [w1]; split <;> omega
    unfold mostM
    rw [if_pos h0, hmx, wrap_of (n := (g.req.legs - g.leg) * 4) (by omega) (by omega), wrap_of (n := (g.req.legs - g.leg) * 4 - g.tries) (by omega) (by omega), wrap_of (by omega) (by omega)]
  · have h0 : ¬ g.phase = 0 := beqF h
    have h1 : g.phase = 1 := hI.p.resolve_left h0
    refine ⟨fun _ => ?_, fun h => absurd h1 (beqF h)⟩
    exact fin 1 (by unfold mostM; rw [if_neg h0, if_pos h1])
def boundC (args : List AV) (bs : List Box) (K : AV → List Box → Prop) : Prop := bs = [] ∧ ∃ s : Sta, args = [staA s] ∧ EngG s ∧ K (.int .i64 (boundM s)) []
theorem sumI_le {α : Type} (f : α → Int) {n : Int} : ∀ {l : List α}, (∀ x ∈ l, 0 ≤ f x ∧ f x ≤ n) → 0 ≤ sumI (l.map f) ∧ sumI (l.map f) ≤ n * l.length
  | [], _ => by simp [sumI]
  | x :: l, h => by
    have h1 := h x (List.mem_cons_self ..)
    have h2 := sumI_le f (l := l) (fun y hy => h y (List.mem_cons_of_mem _ hy))
    simp only [List.map_cons, sumI, List.length_cons]
    have : n * ((l.length + 1 : Nat) : Int) = n * (l.length : Int) + n := by rw [Int.natCast_add, Int.mul_add]; simp
    omega
def RBn : Contract
  | 17 => mostC
  | _ => fun _ _ _ => False
theorem RBn_ok : CallOk Tryz.prog tab RBn := by
  intro f args bs K h
  unfold RBn at h
  split at h
  · exact ⟨_, h, most_ok⟩
  · exact h.elim
def RBn_E (pl : Nat → Plan) : En := ⟨tab, RBn, fun _ => none, 0, pl⟩
theorem RBn_J (pl : Nat → Plan) : JOk Tryz.prog (RBn_E pl).T (RBn_E pl).J := fun _ _ h => by cases h
set_option maxRecDepth 200000 in
set_option maxHeartbeats 3200000 in
theorem bound_ok : FnOk Tryz.prog tab 18 boundC := by
  refine fn_ok (E := RBn_E pl18) tab_is RBn_ok (RBn_J _) Tryz.func18 rfl rfl (by kernel_rfl) ?_
  rintro args bs K ⟨rfl, s, rfl, hG, hK⟩
  refine ⟨rfl, ?_⟩
  have hls := hG.e.z.ls
  refine ⟨fun mm st => ∃ (i : Nat), (i ≤ s.sags.length) ∧ s.sags.length - i = mm ∧ st.t 7 = sagsA s.sags ∧ st.t 8 = .int .i64 ((s.sags.map sagA).length : Nat) ∧ st.t 9 = .int .i64 i ∧ st.t 3 = .int .i64 (sumI ((s.sags.take i).map mostM)),
    ⟨_, 0, Nat.zero_le _, rfl, rfl, rfl, rfl, rfl⟩, ?_⟩
  rintro _ ⟨t1, h1⟩ ⟨i, hi, rfl, e7, e8, e9, e3⟩
  have e7 : t1 7 = sagsA s.sags := e7
  have e8 : t1 8 = .int .i64 ((s.sags.map sagA).length : Nat) := e8
  have e9 : t1 9 = .int .i64 i := e9
  have e3 : t1 3 = .int .i64 (sumI ((s.sags.take i).map mostM)) := e3
  rw [← updL_has t1 [(7, sagsA s.sags), (8, .int .i64 ((s.sags.map sagA).length : Nat)), (9, .int .i64 i), (3, .int .i64 (sumI ((s.sags.take i).map mostM)))] ⟨e7, e8, e9, e3, trivial⟩]
  constructor
  · intro hb
    have hi' : i < s.sags.length := by
      have : (i : Int) < ((s.sags.map sagA).length : Nat) := by simpa using hb
      simp at this; omega
    have w : IntKind.i64.wrap ((i : Int) + 1) = ((i + 1 : Nat) : Int) := by rw [wrap_of] <;> omega
    have hlt : s.sags.length - (i + 1) < s.sags.length - i := by omega
    obtain ⟨g, hx⟩ : ∃ x, s.sags[i]? = some x := ⟨_, List.getElem?_eq_getElem hi'⟩
    have hm := List.mem_of_getElem? hx
    have hdr := drop_at hx
    have hR := hG.sr g hm
    have hmo := hR.most
    have hsm := sumI_le mostM (n := 18) (l := s.sags.take i) (fun x hx => by have := (hG.sr x (List.mem_of_mem_take hx)).most; omega)
    have hlt2 : (s.sags.take i).length ≤ 16 := by rw [List.length_take]; omega
    have wv : IntKind.i64.wrap (sumI ((s.sags.take i).map mostM) + mostM g) = sumI ((s.sags.take (i + 1)).map mostM) := by
      rw [List.take_add_one, hx, List.map_append, sumI_append, wrap_of (by omega) (by omega)]
      simp [sumI]
    refine ⟨_, Int.natCast_nonneg i, map_of hx, ?_⟩
    refine ⟨rfl, g, rfl, hR.toSagI, ?_⟩
    exact ⟨_, hlt, i + 1, hi', rfl, rfl, rfl, congrArg (AV.int .i64) w, congrArg (AV.int .i64) wv⟩
  · intro hb
    have hi' : i = s.sags.length := by
      have : ¬ (i : Int) < ((s.sags.map sagA).length : Nat) := by simpa using hb
      simp at this; omega
    subst hi'
    rw [List.take_length]
    exact hK
/-! ### drain.Run -/
abbrev intsS (l : List Int) : AV := .sl .fz 3 (l.map (AV.int .i64))
abbrev ansS (l : List Bool) : AV := .sl .fz 4 (l.map AV.bool)
def runDC0 (args : List AV) (bs : List Box) (K : AV → List Box → Prop) : Prop := bs = [] ∧ ∃ (s : Sta) (picks : List Int) (answers : List Bool) (most : Int), args = [staA s, intsS picks, ansS answers, .int .i64 most] ∧ EngS s ∧ most ≤ 100000 ∧ K (.tup [staA (drainM s picks answers most).1, evsO 75000 (drainM s picks answers most).2]) []
theorem pick_some {s : Sta} {picks : List Int} {n : Nat} {x : Int} (h : picks[n % picks.length]? = some x) : pickD s picks n = if x.tmod s.sags.length < 0 then x.tmod s.sags.length + s.sags.length else x.tmod s.sags.length := by
  unfold pickD
  rw [h]
def RDr : Contract
  | 19 => engC
  | _ => fun _ _ _ => False
theorem RDr_ok : CallOk Tryz.prog tab RDr := by
  intro f args bs K h
  unfold RDr at h
  split at h
  · exact ⟨_, h, eng_ok⟩
  · exact h.elim
def RDr_E (pl : Nat → Plan) : En := ⟨tab, RDr, fun _ => none, 0, pl⟩
theorem RDr_J (pl : Nat → Plan) : JOk Tryz.prog (RDr_E pl).T (RDr_E pl).J := fun _ _ h => by cases h
set_option maxRecDepth 200000 in
set_option maxHeartbeats 25600000 in
theorem runD_ok0 : FnOk Tryz.prog tab 16 runDC0 := by
  refine fn_ok (E := RDr_E pl16) tab_is RDr_ok (RDr_J _) Tryz.func16 rfl rfl (by kernel_rfl) ?_
  rintro args bs K ⟨rfl, s0, picks, answers, most, rfl, hS0, hmo, hK⟩
  refine ⟨rfl, ?_⟩
  refine ⟨fun mm st => ∃ (n : Nat) (s : Sta) (P : List Evt), (EngS s ∧ drainM s0 picks answers most = ((drainGo picks answers (most.toNat - n) n s).1, P ++ (drainGo picks answers (most.toNat - n) n s).2) ∧ P.length = n ∧ n ≤ most.toNat) ∧ most.toNat - n = mm ∧ st.t 11 = .int .i64 n ∧ st.t 3 = .int .i64 most ∧ st.t 1 = intsS picks ∧ st.t 2 = ansS answers ∧ st.t 4 = .ptr 4 0 ∧ st.t 10 = evsO 75000 P ∧ st.t 8 = .ptr 8 0 ∧ st.h 4 = staB s ∧ st.h 8 = some (.cells 36 [.sl .nl 0 [], .sl .nl 0 [], .sl .nl 0 [], .sl .nl 0 [], .int .i64 0]),
    ⟨_, 0, s0, [], ⟨hS0, rfl, rfl, Nat.zero_le _⟩, rfl, rfl, rfl, rfl, rfl, rfl, rfl, rfl, rfl, rfl⟩, ?_⟩
  rintro _ ⟨t1, h1⟩ ⟨n, s, P, ⟨hS, hT, hPl, hnm⟩, rfl, e11, e3, e1, e2, e4, e10, e8, b4, b8⟩
  have e11 : t1 11 = .int .i64 n := e11
  have e3 : t1 3 = .int .i64 most := e3
  have e1 : t1 1 = intsS picks := e1
  have e2 : t1 2 = ansS answers := e2
  have e4 : t1 4 = .ptr 4 0 := e4
  have e10 : t1 10 = evsO 75000 P := e10
  have e8 : t1 8 = .ptr 8 0 := e8
  have b4 : h1 4 = staB s := b4
  have b8 : h1 8 = some (.cells 36 [.sl .nl 0 [], .sl .nl 0 [], .sl .nl 0 [], .sl .nl 0 [], .int .i64 0]) := b8
  rw [← updL_has t1 [(11, .int .i64 n), (3, .int .i64 most), (1, intsS picks), (2, ansS answers), (4, .ptr 4 0), (10, evsO 75000 P), (8, .ptr 8 0)] ⟨e11, e3, e1, e2, e4, e10, e8, trivial⟩, ← updL_has h1 [(4, staB s), (8, some (.cells 36 [.sl .nl 0 [], .sl .nl 0 [], .sl .nl 0 [], .sl .nl 0 [], .int .i64 0]))] ⟨b4, b8, trivial⟩]
  cases P with
  | nil =>
    have bd : 1 * 80 ≤ 140737488355328 := by decide
    refine ⟨fun hn => ?_, fun hn => ?_⟩
    · have hn : (n : Int) < most := decT hn
      have hlt : most.toNat - (n + 1) < most.toNat - n := by omega
      have wn : IntKind.i64.wrap ((n : Int) + 1) = ((n + 1 : Nat) : Int) := wrap_of (by omega) (by omega)
      refine ⟨fun hl => ?_, fun hl => ?_⟩
      · have hl : 0 < s.sags.length := by have := decT hl; rw [List.length_map] at this; omega
        have h0 : ¬ s.sags.length = 0 := by omega
        obtain ⟨k, g, hk, hg, -, -⟩ := evD_sag hl picks answers n
        have hgp : s.sags[(pickD s picks n).toNat]? = some g := by rw [← hk, show ((k : Nat) : Int).toNat = k by omega]; exact hg
        obtain ⟨p0, p1⟩ := pickD_in hl picks n
        have hsl : (((s.sags.map sagA).length : Nat) : Int) = (s.sags.length : Int) := by rw [List.length_map]
        refine ⟨fun hp => ?_, fun hp => ?_⟩
        · have hp : 0 < picks.length := by have := decT hp; rw [List.length_map] at this; omega
          have hml := Nat.mod_lt n hp
          have hpx := List.getElem?_eq_getElem hml
          generalize picks[n % picks.length]'hml = x at hpx
          have hpk := pick_some (s := s) hpx
          have hx1 : (picks.map (AV.int .i64))[(((n : Nat) : Int).tmod (((picks.map (AV.int .i64)).length : Nat) : Int)).toNat]? = some (.int .i64 x) := by
            rw [List.length_map, show (((n : Nat) : Int).tmod ((picks.length : Nat) : Int)).toNat = n % picks.length from rfl, List.getElem?_map, hpx]; rfl
          have hx0 : (0 : Int) ≤ ((n : Nat) : Int).tmod (((picks.map (AV.int .i64)).length : Nat) : Int) := Int.tmod_nonneg _ (Int.natCast_nonneg n)
          have hxn : (((picks.map (AV.int .i64)).length : Nat) : Int) ≠ 0 := by rw [List.length_map]; omega
          have hsn : (((s.sags.map sagA).length : Nat) : Int) ≠ 0 := by rw [List.length_map]; omega
          refine ⟨hxn, ?_⟩
          refine ⟨_, hx0, hx1, ?_⟩
          refine ⟨hsn, ?_⟩
          refine ⟨fun hneg => ?_, fun hneg => ?_⟩
          · have hneg : x.tmod s.sags.length < 0 := by have := decT hneg; rw [hsl] at this; exact this
            have hKE : IntKind.i64.wrap (x.tmod (((s.sags.map sagA).length : Nat) : Int) + (((s.sags.map sagA).length : Nat) : Int)) = pickD s picks n := by
              have q0 := p0
              have q1 := p1
              have q2 := hS.z.ls
              rw [hpk, if_pos hneg] at q0 q1
              rw [hpk, if_pos hneg, hsl, wrap_of (by omega) (by omega)]
            have hA9 : 0 ≤ IntKind.i64.wrap (x.tmod (((s.sags.map sagA).length : Nat) : Int) + (((s.sags.map sagA).length : Nat) : Int)) := by rw [hKE]; exact p0
            have hB9 : (s.sags.map sagA)[(IntKind.i64.wrap (x.tmod (((s.sags.map sagA).length : Nat) : Int) + (((s.sags.map sagA).length : Nat) : Int))).toNat]? = some (sagA g) := by rw [hKE]; exact map_of hgp
            refine ⟨fun ha => ?_, fun ha => ?_⟩
            · have ha : 0 < answers.length := by have := decT ha; rw [List.length_map] at this; omega
              have hml := Nat.mod_lt n ha
              have hbx := List.getElem?_eq_getElem hml
              generalize answers[n % answers.length]'hml = bo at hbx
              have hok : ansD answers n = bo := by unfold ansD; rw [hbx]
              have hb1 : (answers.map AV.bool)[(((n : Nat) : Int).tmod (((answers.map AV.bool).length : Nat) : Int)).toNat]? = some (.bool bo) := by
                rw [List.length_map, show (((n : Nat) : Int).tmod ((answers.length : Nat) : Int)).toNat = n % answers.length from rfl, List.getElem?_map, hbx]; rfl
              have hb0 : (0 : Int) ≤ ((n : Nat) : Int).tmod (((answers.map AV.bool).length : Nat) : Int) := Int.tmod_nonneg _ (Int.natCast_nonneg n)
              have hbn : (((answers.map AV.bool).length : Nat) : Int) ≠ 0 := by rw [List.length_map]; omega
              refine ⟨hbn, ?_⟩
              refine ⟨_, hb0, hb1, ?_⟩
              have hev : evD s picks answers n = ⟨1, ⟨0, 0, 0, 0, 0, 0, 0⟩, g.req.key, bo⟩ := by
                unfold evD
                rw [hgp]
                simp only [hok]
              have hT2 : drainM s0 picks answers most = ((drainGo picks answers (most.toNat - (n + 1)) (n + 1) (engM s (evD s picks answers n)).1).1, (([]:List Evt) ++ [evD s picks answers n]) ++ (drainGo picks answers (most.toNat - (n + 1)) (n + 1) (engM s (evD s picks answers n)).1).2) := by
                rw [hT, show most.toNat - n = (most.toNat - (n + 1)) + 1 by omega, drainGo, if_neg h0, List.append_assoc]; rfl
              have hS2 := hS.eng (evD s picks answers n)
              refine ⟨_, hA9, hB9, ?_⟩
              refine ⟨rfl, s, evD s picks answers n, (by rw [hev]; rfl), hS.z, fun _ => hS.tell, ?_⟩
              generalize engM s (evD s picks answers n) = y at hT2 hS2 ⊢
              obtain ⟨y, o⟩ := y
              dsimp only at hT2 hS2
              refine ⟨bd, ?_⟩
              exact ⟨_, hlt, n + 1, y, ([]:List Evt) ++ [evD s picks answers n], ⟨hS2, hT2, by rw [List.length_append, hPl]; rfl, by omega⟩, rfl, congrArg (AV.int .i64) wn, rfl, rfl, rfl, rfl, by (rw [hev, ← evs_snoc] <;> rfl), rfl, rfl, rfl⟩
            · have ha : answers = [] := by have := decF ha; rw [List.length_map] at this; exact List.length_eq_zero_iff.1 (by omega)
              have hok : ansD answers n = true := by rw [ha]; rfl
              have hev : evD s picks answers n = ⟨1, ⟨0, 0, 0, 0, 0, 0, 0⟩, g.req.key, true⟩ := by
                unfold evD
                rw [hgp]
                simp only [hok]
              have hT2 : drainM s0 picks answers most = ((drainGo picks answers (most.toNat - (n + 1)) (n + 1) (engM s (evD s picks answers n)).1).1, (([]:List Evt) ++ [evD s picks answers n]) ++ (drainGo picks answers (most.toNat - (n + 1)) (n + 1) (engM s (evD s picks answers n)).1).2) := by
                rw [hT, show most.toNat - n = (most.toNat - (n + 1)) + 1 by omega, drainGo, if_neg h0, List.append_assoc]; rfl
              have hS2 := hS.eng (evD s picks answers n)
              refine ⟨_, hA9, hB9, ?_⟩
              refine ⟨rfl, s, evD s picks answers n, (by rw [hev]; rfl), hS.z, fun _ => hS.tell, ?_⟩
              generalize engM s (evD s picks answers n) = y at hT2 hS2 ⊢
              obtain ⟨y, o⟩ := y
              dsimp only at hT2 hS2
              refine ⟨bd, ?_⟩
              exact ⟨_, hlt, n + 1, y, ([]:List Evt) ++ [evD s picks answers n], ⟨hS2, hT2, by rw [List.length_append, hPl]; rfl, by omega⟩, rfl, congrArg (AV.int .i64) wn, rfl, rfl, rfl, rfl, by (rw [hev, ← evs_snoc] <;> rfl), rfl, rfl, rfl⟩
          · have hneg : ¬ x.tmod s.sags.length < 0 := by have := decF hneg; rw [hsl] at this; exact this
            have hKE : x.tmod (((s.sags.map sagA).length : Nat) : Int) = pickD s picks n := by rw [hpk, if_neg hneg, hsl]
            have hA9 : 0 ≤ x.tmod (((s.sags.map sagA).length : Nat) : Int) := by rw [hKE]; exact p0
            have hB9 : (s.sags.map sagA)[(x.tmod (((s.sags.map sagA).length : Nat) : Int)).toNat]? = some (sagA g) := by rw [hKE]; exact map_of hgp
            refine ⟨fun ha => ?_, fun ha => ?_⟩
            · have ha : 0 < answers.length := by have := decT ha; rw [List.length_map] at this; omega
              have hml := Nat.mod_lt n ha
              have hbx := List.getElem?_eq_getElem hml
              generalize answers[n % answers.length]'hml = bo at hbx
              have hok : ansD answers n = bo := by unfold ansD; rw [hbx]
              have hb1 : (answers.map AV.bool)[(((n : Nat) : Int).tmod (((answers.map AV.bool).length : Nat) : Int)).toNat]? = some (.bool bo) := by
                rw [List.length_map, show (((n : Nat) : Int).tmod ((answers.length : Nat) : Int)).toNat = n % answers.length from rfl, List.getElem?_map, hbx]; rfl
              have hb0 : (0 : Int) ≤ ((n : Nat) : Int).tmod (((answers.map AV.bool).length : Nat) : Int) := Int.tmod_nonneg _ (Int.natCast_nonneg n)
              have hbn : (((answers.map AV.bool).length : Nat) : Int) ≠ 0 := by rw [List.length_map]; omega
              refine ⟨hbn, ?_⟩
              refine ⟨_, hb0, hb1, ?_⟩
              have hev : evD s picks answers n = ⟨1, ⟨0, 0, 0, 0, 0, 0, 0⟩, g.req.key, bo⟩ := by
                unfold evD
                rw [hgp]
                simp only [hok]
              have hT2 : drainM s0 picks answers most = ((drainGo picks answers (most.toNat - (n + 1)) (n + 1) (engM s (evD s picks answers n)).1).1, (([]:List Evt) ++ [evD s picks answers n]) ++ (drainGo picks answers (most.toNat - (n + 1)) (n + 1) (engM s (evD s picks answers n)).1).2) := by
                rw [hT, show most.toNat - n = (most.toNat - (n + 1)) + 1 by omega, drainGo, if_neg h0, List.append_assoc]; rfl
              have hS2 := hS.eng (evD s picks answers n)
              refine ⟨_, hA9, hB9, ?_⟩
              refine ⟨rfl, s, evD s picks answers n, (by rw [hev]; rfl), hS.z, fun _ => hS.tell, ?_⟩
              generalize engM s (evD s picks answers n) = y at hT2 hS2 ⊢
              obtain ⟨y, o⟩ := y
              dsimp only at hT2 hS2
              refine ⟨bd, ?_⟩
              exact ⟨_, hlt, n + 1, y, ([]:List Evt) ++ [evD s picks answers n], ⟨hS2, hT2, by rw [List.length_append, hPl]; rfl, by omega⟩, rfl, congrArg (AV.int .i64) wn, rfl, rfl, rfl, rfl, by (rw [hev, ← evs_snoc] <;> rfl), rfl, rfl, rfl⟩
            · have ha : answers = [] := by have := decF ha; rw [List.length_map] at this; exact List.length_eq_zero_iff.1 (by omega)
              have hok : ansD answers n = true := by rw [ha]; rfl
              have hev : evD s picks answers n = ⟨1, ⟨0, 0, 0, 0, 0, 0, 0⟩, g.req.key, true⟩ := by
                unfold evD
                rw [hgp]
                simp only [hok]
              have hT2 : drainM s0 picks answers most = ((drainGo picks answers (most.toNat - (n + 1)) (n + 1) (engM s (evD s picks answers n)).1).1, (([]:List Evt) ++ [evD s picks answers n]) ++ (drainGo picks answers (most.toNat - (n + 1)) (n + 1) (engM s (evD s picks answers n)).1).2) := by
                rw [hT, show most.toNat - n = (most.toNat - (n + 1)) + 1 by omega, drainGo, if_neg h0, List.append_assoc]; rfl
              have hS2 := hS.eng (evD s picks answers n)
              refine ⟨_, hA9, hB9, ?_⟩
              refine ⟨rfl, s, evD s picks answers n, (by rw [hev]; rfl), hS.z, fun _ => hS.tell, ?_⟩
              generalize engM s (evD s picks answers n) = y at hT2 hS2 ⊢
              obtain ⟨y, o⟩ := y
              dsimp only at hT2 hS2
              refine ⟨bd, ?_⟩
              exact ⟨_, hlt, n + 1, y, ([]:List Evt) ++ [evD s picks answers n], ⟨hS2, hT2, by rw [List.length_append, hPl]; rfl, by omega⟩, rfl, congrArg (AV.int .i64) wn, rfl, rfl, rfl, rfl, by (rw [hev, ← evs_snoc] <;> rfl), rfl, rfl, rfl⟩
        · have hp : picks = [] := by have := decF hp; rw [List.length_map] at this; exact List.length_eq_zero_iff.1 (by omega)
          have hpk : pickD s picks n = 0 := by rw [hp]; rfl
          refine ⟨fun h => Bool.noConfusion (show false = true from h), fun _ => ?_⟩
          have hA9 : (0 : Int) ≤ 0 := Int.le_refl 0
          have hB9 : (s.sags.map sagA)[(0 : Int).toNat]? = some (sagA g) := by rw [hpk] at hgp; exact map_of hgp
          refine ⟨fun ha => ?_, fun ha => ?_⟩
          · have ha : 0 < answers.length := by have := decT ha; rw [List.length_map] at this; omega
            have hml := Nat.mod_lt n ha
            have hbx := List.getElem?_eq_getElem hml
            generalize answers[n % answers.length]'hml = bo at hbx
            have hok : ansD answers n = bo := by unfold ansD; rw [hbx]
            have hb1 : (answers.map AV.bool)[(((n : Nat) : Int).tmod (((answers.map AV.bool).length : Nat) : Int)).toNat]? = some (.bool bo) := by
              rw [List.length_map, show (((n : Nat) : Int).tmod ((answers.length : Nat) : Int)).toNat = n % answers.length from rfl, List.getElem?_map, hbx]; rfl
            have hb0 : (0 : Int) ≤ ((n : Nat) : Int).tmod (((answers.map AV.bool).length : Nat) : Int) := Int.tmod_nonneg _ (Int.natCast_nonneg n)
            have hbn : (((answers.map AV.bool).length : Nat) : Int) ≠ 0 := by rw [List.length_map]; omega
            refine ⟨hbn, ?_⟩
            refine ⟨_, hb0, hb1, ?_⟩
            have hev : evD s picks answers n = ⟨1, ⟨0, 0, 0, 0, 0, 0, 0⟩, g.req.key, bo⟩ := by
              unfold evD
              rw [hgp]
              simp only [hok]
            have hT2 : drainM s0 picks answers most = ((drainGo picks answers (most.toNat - (n + 1)) (n + 1) (engM s (evD s picks answers n)).1).1, (([]:List Evt) ++ [evD s picks answers n]) ++ (drainGo picks answers (most.toNat - (n + 1)) (n + 1) (engM s (evD s picks answers n)).1).2) := by
              rw [hT, show most.toNat - n = (most.toNat - (n + 1)) + 1 by omega, drainGo, if_neg h0, List.append_assoc]; rfl
            have hS2 := hS.eng (evD s picks answers n)
            refine ⟨_, hA9, hB9, ?_⟩
            refine ⟨rfl, s, evD s picks answers n, (by rw [hev]; rfl), hS.z, fun _ => hS.tell, ?_⟩
            generalize engM s (evD s picks answers n) = y at hT2 hS2 ⊢
            obtain ⟨y, o⟩ := y
            dsimp only at hT2 hS2
            refine ⟨bd, ?_⟩
            exact ⟨_, hlt, n + 1, y, ([]:List Evt) ++ [evD s picks answers n], ⟨hS2, hT2, by rw [List.length_append, hPl]; rfl, by omega⟩, rfl, congrArg (AV.int .i64) wn, rfl, rfl, rfl, rfl, by (rw [hev, ← evs_snoc] <;> rfl), rfl, rfl, rfl⟩
          · have ha : answers = [] := by have := decF ha; rw [List.length_map] at this; exact List.length_eq_zero_iff.1 (by omega)
            have hok : ansD answers n = true := by rw [ha]; rfl
            have hev : evD s picks answers n = ⟨1, ⟨0, 0, 0, 0, 0, 0, 0⟩, g.req.key, true⟩ := by
              unfold evD
              rw [hgp]
              simp only [hok]
            have hT2 : drainM s0 picks answers most = ((drainGo picks answers (most.toNat - (n + 1)) (n + 1) (engM s (evD s picks answers n)).1).1, (([]:List Evt) ++ [evD s picks answers n]) ++ (drainGo picks answers (most.toNat - (n + 1)) (n + 1) (engM s (evD s picks answers n)).1).2) := by
              rw [hT, show most.toNat - n = (most.toNat - (n + 1)) + 1 by omega, drainGo, if_neg h0, List.append_assoc]; rfl
            have hS2 := hS.eng (evD s picks answers n)
            refine ⟨_, hA9, hB9, ?_⟩
            refine ⟨rfl, s, evD s picks answers n, (by rw [hev]; rfl), hS.z, fun _ => hS.tell, ?_⟩
            generalize engM s (evD s picks answers n) = y at hT2 hS2 ⊢
            obtain ⟨y, o⟩ := y
            dsimp only at hT2 hS2
            refine ⟨bd, ?_⟩
            exact ⟨_, hlt, n + 1, y, ([]:List Evt) ++ [evD s picks answers n], ⟨hS2, hT2, by rw [List.length_append, hPl]; rfl, by omega⟩, rfl, congrArg (AV.int .i64) wn, rfl, rfl, rfl, rfl, by (rw [hev, ← evs_snoc] <;> rfl), rfl, rfl, rfl⟩
      · have hl : s.sags.length = 0 := by have := decF hl; rw [List.length_map] at this; omega
        have hd : drainGo picks answers (most.toNat - n) n s = (s, []) := by
          cases most.toNat - n with
          | zero => rfl
          | succ f => rw [drainGo, if_pos hl]
        rw [hd] at hT
        have hT : drainM s0 picks answers most = (s, ([]:List Evt)) := by rw [hT, List.append_nil]
        rw [hT] at hK
        exact hK
    · have hn : ¬ (n : Int) < most := decF hn
      refine ⟨fun h => Bool.noConfusion (show false = true from h), fun _ => ?_⟩
      have hd : drainGo picks answers (most.toNat - n) n s = (s, []) := by
        rw [show most.toNat - n = 0 by omega]; rfl
      rw [hd] at hT
      have hT : drainM s0 picks answers most = (s, ([]:List Evt)) := by rw [hT, List.append_nil]
      rw [hT] at hK
      exact hK
  | cons p P =>
    have bd : ((evtA p :: P.map evtA).length + 1) * 80 ≤ 140737488355328 := by
      simp only [List.length_cons, List.length_map] at hPl ⊢; omega
    refine ⟨fun hn => ?_, fun hn => ?_⟩
    · have hn : (n : Int) < most := decT hn
      have hlt : most.toNat - (n + 1) < most.toNat - n := by omega
      have wn : IntKind.i64.wrap ((n : Int) + 1) = ((n + 1 : Nat) : Int) := wrap_of (by omega) (by omega)
      refine ⟨fun hl => ?_, fun hl => ?_⟩
      · have hl : 0 < s.sags.length := by have := decT hl; rw [List.length_map] at this; omega
        have h0 : ¬ s.sags.length = 0 := by omega
        obtain ⟨k, g, hk, hg, -, -⟩ := evD_sag hl picks answers n
        have hgp : s.sags[(pickD s picks n).toNat]? = some g := by rw [← hk, show ((k : Nat) : Int).toNat = k by omega]; exact hg
        obtain ⟨p0, p1⟩ := pickD_in hl picks n
        have hsl : (((s.sags.map sagA).length : Nat) : Int) = (s.sags.length : Int) := by rw [List.length_map]
        refine ⟨fun hp => ?_, fun hp => ?_⟩
        · have hp : 0 < picks.length := by have := decT hp; rw [List.length_map] at this; omega
          have hml := Nat.mod_lt n hp
          have hpx := List.getElem?_eq_getElem hml
          generalize picks[n % picks.length]'hml = x at hpx
          have hpk := pick_some (s := s) hpx
          have hx1 : (picks.map (AV.int .i64))[(((n : Nat) : Int).tmod (((picks.map (AV.int .i64)).length : Nat) : Int)).toNat]? = some (.int .i64 x) := by
            rw [List.length_map, show (((n : Nat) : Int).tmod ((picks.length : Nat) : Int)).toNat = n % picks.length from rfl, List.getElem?_map, hpx]; rfl
          have hx0 : (0 : Int) ≤ ((n : Nat) : Int).tmod (((picks.map (AV.int .i64)).length : Nat) : Int) := Int.tmod_nonneg _ (Int.natCast_nonneg n)
          have hxn : (((picks.map (AV.int .i64)).length : Nat) : Int) ≠ 0 := by rw [List.length_map]; omega
          have hsn : (((s.sags.map sagA).length : Nat) : Int) ≠ 0 := by rw [List.length_map]; omega
          refine ⟨hxn, ?_⟩
          refine ⟨_, hx0, hx1, ?_⟩
          refine ⟨hsn, ?_⟩
          refine ⟨fun hneg => ?_, fun hneg => ?_⟩
          · have hneg : x.tmod s.sags.length < 0 := by have := decT hneg; rw [hsl] at this; exact this
            have hKE : IntKind.i64.wrap (x.tmod (((s.sags.map sagA).length : Nat) : Int) + (((s.sags.map sagA).length : Nat) : Int)) = pickD s picks n := by
              have q0 := p0
              have q1 := p1
              have q2 := hS.z.ls
              rw [hpk, if_pos hneg] at q0 q1
              rw [hpk, if_pos hneg, hsl, wrap_of (by omega) (by omega)]
            have hA9 : 0 ≤ IntKind.i64.wrap (x.tmod (((s.sags.map sagA).length : Nat) : Int) + (((s.sags.map sagA).length : Nat) : Int)) := by rw [hKE]; exact p0
            have hB9 : (s.sags.map sagA)[(IntKind.i64.wrap (x.tmod (((s.sags.map sagA).length : Nat) : Int) + (((s.sags.map sagA).length : Nat) : Int))).toNat]? = some (sagA g) := by rw [hKE]; exact map_of hgp
            refine ⟨fun ha => ?_, fun ha => ?_⟩
            · have ha : 0 < answers.length := by have := decT ha; rw [List.length_map] at this; omega
              have hml := Nat.mod_lt n ha
              have hbx := List.getElem?_eq_getElem hml
              generalize answers[n % answers.length]'hml = bo at hbx
              have hok : ansD answers n = bo := by unfold ansD; rw [hbx]
              have hb1 : (answers.map AV.bool)[(((n : Nat) : Int).tmod (((answers.map AV.bool).length : Nat) : Int)).toNat]? = some (.bool bo) := by
                rw [List.length_map, show (((n : Nat) : Int).tmod ((answers.length : Nat) : Int)).toNat = n % answers.length from rfl, List.getElem?_map, hbx]; rfl
              have hb0 : (0 : Int) ≤ ((n : Nat) : Int).tmod (((answers.map AV.bool).length : Nat) : Int) := Int.tmod_nonneg _ (Int.natCast_nonneg n)
              have hbn : (((answers.map AV.bool).length : Nat) : Int) ≠ 0 := by rw [List.length_map]; omega
              refine ⟨hbn, ?_⟩
              refine ⟨_, hb0, hb1, ?_⟩
              have hev : evD s picks answers n = ⟨1, ⟨0, 0, 0, 0, 0, 0, 0⟩, g.req.key, bo⟩ := by
                unfold evD
                rw [hgp]
                simp only [hok]
              have hT2 : drainM s0 picks answers most = ((drainGo picks answers (most.toNat - (n + 1)) (n + 1) (engM s (evD s picks answers n)).1).1, ((p::P) ++ [evD s picks answers n]) ++ (drainGo picks answers (most.toNat - (n + 1)) (n + 1) (engM s (evD s picks answers n)).1).2) := by
                rw [hT, show most.toNat - n = (most.toNat - (n + 1)) + 1 by omega, drainGo, if_neg h0, List.append_assoc]; rfl
              have hS2 := hS.eng (evD s picks answers n)
              refine ⟨_, hA9, hB9, ?_⟩
              refine ⟨rfl, s, evD s picks answers n, (by rw [hev]; rfl), hS.z, fun _ => hS.tell, ?_⟩
              generalize engM s (evD s picks answers n) = y at hT2 hS2 ⊢
              obtain ⟨y, o⟩ := y
              dsimp only at hT2 hS2
              refine ⟨bd, ?_⟩
              exact ⟨_, hlt, n + 1, y, (p::P) ++ [evD s picks answers n], ⟨hS2, hT2, by rw [List.length_append, hPl]; rfl, by omega⟩, rfl, congrArg (AV.int .i64) wn, rfl, rfl, rfl, rfl, by (rw [hev, ← evs_snoc] <;> rfl), rfl, rfl, rfl⟩
            · have ha : answers = [] := by have := decF ha; rw [List.length_map] at this; exact List.length_eq_zero_iff.1 (by omega)
              have hok : ansD answers n = true := by rw [ha]; rfl
              have hev : evD s picks answers n = ⟨1, ⟨0, 0, 0, 0, 0, 0, 0⟩, g.req.key, true⟩ := by
                unfold evD
                rw [hgp]
                simp only [hok]
              have hT2 : drainM s0 picks answers most = ((drainGo picks answers (most.toNat - (n + 1)) (n + 1) (engM s (evD s picks answers n)).1).1, ((p::P) ++ [evD s picks answers n]) ++ (drainGo picks answers (most.toNat - (n + 1)) (n + 1) (engM s (evD s picks answers n)).1).2) := by
                rw [hT, show most.toNat - n = (most.toNat - (n + 1)) + 1 by omega, drainGo, if_neg h0, List.append_assoc]; rfl
              have hS2 := hS.eng (evD s picks answers n)
              refine ⟨_, hA9, hB9, ?_⟩
              refine ⟨rfl, s, evD s picks answers n, (by rw [hev]; rfl), hS.z, fun _ => hS.tell, ?_⟩
              generalize engM s (evD s picks answers n) = y at hT2 hS2 ⊢
              obtain ⟨y, o⟩ := y
              dsimp only at hT2 hS2
              refine ⟨bd, ?_⟩
              exact ⟨_, hlt, n + 1, y, (p::P) ++ [evD s picks answers n], ⟨hS2, hT2, by rw [List.length_append, hPl]; rfl, by omega⟩, rfl, congrArg (AV.int .i64) wn, rfl, rfl, rfl, rfl, by (rw [hev, ← evs_snoc] <;> rfl), rfl, rfl, rfl⟩
          · have hneg : ¬ x.tmod s.sags.length < 0 := by have := decF hneg; rw [hsl] at this; exact this
            have hKE : x.tmod (((s.sags.map sagA).length : Nat) : Int) = pickD s picks n := by rw [hpk, if_neg hneg, hsl]
            have hA9 : 0 ≤ x.tmod (((s.sags.map sagA).length : Nat) : Int) := by rw [hKE]; exact p0
            have hB9 : (s.sags.map sagA)[(x.tmod (((s.sags.map sagA).length : Nat) : Int)).toNat]? = some (sagA g) := by rw [hKE]; exact map_of hgp
            refine ⟨fun ha => ?_, fun ha => ?_⟩
            · have ha : 0 < answers.length := by have := decT ha; rw [List.length_map] at this; omega
              have hml := Nat.mod_lt n ha
              have hbx := List.getElem?_eq_getElem hml
              generalize answers[n % answers.length]'hml = bo at hbx
              have hok : ansD answers n = bo := by unfold ansD; rw [hbx]
              have hb1 : (answers.map AV.bool)[(((n : Nat) : Int).tmod (((answers.map AV.bool).length : Nat) : Int)).toNat]? = some (.bool bo) := by
                rw [List.length_map, show (((n : Nat) : Int).tmod ((answers.length : Nat) : Int)).toNat = n % answers.length from rfl, List.getElem?_map, hbx]; rfl
              have hb0 : (0 : Int) ≤ ((n : Nat) : Int).tmod (((answers.map AV.bool).length : Nat) : Int) := Int.tmod_nonneg _ (Int.natCast_nonneg n)
              have hbn : (((answers.map AV.bool).length : Nat) : Int) ≠ 0 := by rw [List.length_map]; omega
              refine ⟨hbn, ?_⟩
              refine ⟨_, hb0, hb1, ?_⟩
              have hev : evD s picks answers n = ⟨1, ⟨0, 0, 0, 0, 0, 0, 0⟩, g.req.key, bo⟩ := by
                unfold evD
                rw [hgp]
                simp only [hok]
              have hT2 : drainM s0 picks answers most = ((drainGo picks answers (most.toNat - (n + 1)) (n + 1) (engM s (evD s picks answers n)).1).1, ((p::P) ++ [evD s picks answers n]) ++ (drainGo picks answers (most.toNat - (n + 1)) (n + 1) (engM s (evD s picks answers n)).1).2) := by
                rw [hT, show most.toNat - n = (most.toNat - (n + 1)) + 1 by omega, drainGo, if_neg h0, List.append_assoc]; rfl
              have hS2 := hS.eng (evD s picks answers n)
              refine ⟨_, hA9, hB9, ?_⟩
              refine ⟨rfl, s, evD s picks answers n, (by rw [hev]; rfl), hS.z, fun _ => hS.tell, ?_⟩
              generalize engM s (evD s picks answers n) = y at hT2 hS2 ⊢
              obtain ⟨y, o⟩ := y
              dsimp only at hT2 hS2
              refine ⟨bd, ?_⟩
              exact ⟨_, hlt, n + 1, y, (p::P) ++ [evD s picks answers n], ⟨hS2, hT2, by rw [List.length_append, hPl]; rfl, by omega⟩, rfl, congrArg (AV.int .i64) wn, rfl, rfl, rfl, rfl, by (rw [hev, ← evs_snoc] <;> rfl), rfl, rfl, rfl⟩
            · have ha : answers = [] := by have := decF ha; rw [List.length_map] at this; exact List.length_eq_zero_iff.1 (by omega)
              have hok : ansD answers n = true := by rw [ha]; rfl
              have hev : evD s picks answers n = ⟨1, ⟨0, 0, 0, 0, 0, 0, 0⟩, g.req.key, true⟩ := by
                unfold evD
                rw [hgp]
                simp only [hok]
              have hT2 : drainM s0 picks answers most = ((drainGo picks answers (most.toNat - (n + 1)) (n + 1) (engM s (evD s picks answers n)).1).1, ((p::P) ++ [evD s picks answers n]) ++ (drainGo picks answers (most.toNat - (n + 1)) (n + 1) (engM s (evD s picks answers n)).1).2) := by
                rw [hT, show most.toNat - n = (most.toNat - (n + 1)) + 1 by omega, drainGo, if_neg h0, List.append_assoc]; rfl
              have hS2 := hS.eng (evD s picks answers n)
              refine ⟨_, hA9, hB9, ?_⟩
              refine ⟨rfl, s, evD s picks answers n, (by rw [hev]; rfl), hS.z, fun _ => hS.tell, ?_⟩
              generalize engM s (evD s picks answers n) = y at hT2 hS2 ⊢
              obtain ⟨y, o⟩ := y
              dsimp only at hT2 hS2
              refine ⟨bd, ?_⟩
              exact ⟨_, hlt, n + 1, y, (p::P) ++ [evD s picks answers n], ⟨hS2, hT2, by rw [List.length_append, hPl]; rfl, by omega⟩, rfl, congrArg (AV.int .i64) wn, rfl, rfl, rfl, rfl, by (rw [hev, ← evs_snoc] <;> rfl), rfl, rfl, rfl⟩
        · have hp : picks = [] := by have := decF hp; rw [List.length_map] at this; exact List.length_eq_zero_iff.1 (by omega)
          have hpk : pickD s picks n = 0 := by rw [hp]; rfl
          refine ⟨fun h => Bool.noConfusion (show false = true from h), fun _ => ?_⟩
          have hA9 : (0 : Int) ≤ 0 := Int.le_refl 0
          have hB9 : (s.sags.map sagA)[(0 : Int).toNat]? = some (sagA g) := by rw [hpk] at hgp; exact map_of hgp
          refine ⟨fun ha => ?_, fun ha => ?_⟩
          · have ha : 0 < answers.length := by have := decT ha; rw [List.length_map] at this; omega
            have hml := Nat.mod_lt n ha
            have hbx := List.getElem?_eq_getElem hml
            generalize answers[n % answers.length]'hml = bo at hbx
            have hok : ansD answers n = bo := by unfold ansD; rw [hbx]
            have hb1 : (answers.map AV.bool)[(((n : Nat) : Int).tmod (((answers.map AV.bool).length : Nat) : Int)).toNat]? = some (.bool bo) := by
              rw [List.length_map, show (((n : Nat) : Int).tmod ((answers.length : Nat) : Int)).toNat = n % answers.length from rfl, List.getElem?_map, hbx]; rfl
            have hb0 : (0 : Int) ≤ ((n : Nat) : Int).tmod (((answers.map AV.bool).length : Nat) : Int) := Int.tmod_nonneg _ (Int.natCast_nonneg n)
            have hbn : (((answers.map AV.bool).length : Nat) : Int) ≠ 0 := by rw [List.length_map]; omega
            refine ⟨hbn, ?_⟩
            refine ⟨_, hb0, hb1, ?_⟩
            have hev : evD s picks answers n = ⟨1, ⟨0, 0, 0, 0, 0, 0, 0⟩, g.req.key, bo⟩ := by
              unfold evD
              rw [hgp]
              simp only [hok]
            have hT2 : drainM s0 picks answers most = ((drainGo picks answers (most.toNat - (n + 1)) (n + 1) (engM s (evD s picks answers n)).1).1, ((p::P) ++ [evD s picks answers n]) ++ (drainGo picks answers (most.toNat - (n + 1)) (n + 1) (engM s (evD s picks answers n)).1).2) := by
              rw [hT, show most.toNat - n = (most.toNat - (n + 1)) + 1 by omega, drainGo, if_neg h0, List.append_assoc]; rfl
            have hS2 := hS.eng (evD s picks answers n)
            refine ⟨_, hA9, hB9, ?_⟩
            refine ⟨rfl, s, evD s picks answers n, (by rw [hev]; rfl), hS.z, fun _ => hS.tell, ?_⟩
            generalize engM s (evD s picks answers n) = y at hT2 hS2 ⊢
            obtain ⟨y, o⟩ := y
            dsimp only at hT2 hS2
            refine ⟨bd, ?_⟩
            exact ⟨_, hlt, n + 1, y, (p::P) ++ [evD s picks answers n], ⟨hS2, hT2, by rw [List.length_append, hPl]; rfl, by omega⟩, rfl, congrArg (AV.int .i64) wn, rfl, rfl, rfl, rfl, by (rw [hev, ← evs_snoc] <;> rfl), rfl, rfl, rfl⟩
          · have ha : answers = [] := by have := decF ha; rw [List.length_map] at this; exact List.length_eq_zero_iff.1 (by omega)
            have hok : ansD answers n = true := by rw [ha]; rfl
            have hev : evD s picks answers n = ⟨1, ⟨0, 0, 0, 0, 0, 0, 0⟩, g.req.key, true⟩ := by
              unfold evD
              rw [hgp]
              simp only [hok]
            have hT2 : drainM s0 picks answers most = ((drainGo picks answers (most.toNat - (n + 1)) (n + 1) (engM s (evD s picks answers n)).1).1, ((p::P) ++ [evD s picks answers n]) ++ (drainGo picks answers (most.toNat - (n + 1)) (n + 1) (engM s (evD s picks answers n)).1).2) := by
              rw [hT, show most.toNat - n = (most.toNat - (n + 1)) + 1 by omega, drainGo, if_neg h0, List.append_assoc]; rfl
            have hS2 := hS.eng (evD s picks answers n)
            refine ⟨_, hA9, hB9, ?_⟩
            refine ⟨rfl, s, evD s picks answers n, (by rw [hev]; rfl), hS.z, fun _ => hS.tell, ?_⟩
            generalize engM s (evD s picks answers n) = y at hT2 hS2 ⊢
            obtain ⟨y, o⟩ := y
            dsimp only at hT2 hS2
            refine ⟨bd, ?_⟩
            exact ⟨_, hlt, n + 1, y, (p::P) ++ [evD s picks answers n], ⟨hS2, hT2, by rw [List.length_append, hPl]; rfl, by omega⟩, rfl, congrArg (AV.int .i64) wn, rfl, rfl, rfl, rfl, by (rw [hev, ← evs_snoc] <;> rfl), rfl, rfl, rfl⟩
      · have hl : s.sags.length = 0 := by have := decF hl; rw [List.length_map] at this; omega
        have hd : drainGo picks answers (most.toNat - n) n s = (s, []) := by
          cases most.toNat - n with
          | zero => rfl
          | succ f => rw [drainGo, if_pos hl]
        rw [hd] at hT
        have hT : drainM s0 picks answers most = (s, (p::P)) := by rw [hT, List.append_nil]
        rw [hT] at hK
        exact hK
    · have hn : ¬ (n : Int) < most := decF hn
      refine ⟨fun h => Bool.noConfusion (show false = true from h), fun _ => ?_⟩
      have hd : drainGo picks answers (most.toNat - n) n s = (s, []) := by
        rw [show most.toNat - n = 0 by omega]; rfl
      rw [hd] at hT
      have hT : drainM s0 picks answers most = (s, (p::P)) := by rw [hT, List.append_nil]
      rw [hT] at hK
      exact hK
abbrev evsS (l : List Evt) : AV := .sl .fz 52 (l.map evtA)
def runDC (args : List AV) (bs : List Box) (K : AV → List Box → Prop) : Prop := bs = [] ∧ ∃ (s : Sta) (picks : List Int) (answers : List Bool) (most : Int), args = [staA s, intsS picks, ansS answers, .int .i64 most] ∧ EngS s ∧ most ≤ 100000 ∧ K (.tup [staA (drainM s picks answers most).1, evsS (drainM s picks answers most).2]) []
theorem runD_ok : FnOk Tryz.prog tab 16 runDC := runD_ok0.frz.nilT.mono (by
  rintro args bs K ⟨rfl, s, picks, answers, most, rfl, hS, hmo, hK⟩
  refine ⟨rfl, rfl, s, picks, answers, most, rfl, hS, hmo, ?_⟩
  generalize drainM s picks answers most = o at hK
  obtain ⟨x, q⟩ := o
  cases q with
  | nil => exact ⟨_, rfl, [staA x, .sl .nl 0 []], [staA x, evsS []], rfl, ⟨.inl (.inl rfl), .inl (.inr ⟨_, _, rfl, rfl⟩), trivial⟩, hK⟩
  | cons p q => exact ⟨_, rfl, [staA x, evsS (p :: q)], [staA x, evsS (p :: q)], rfl, ⟨.inl (.inl rfl), .inl (.inl rfl), trivial⟩, hK⟩)
end Go.Proofs.YtjffmldlkofpaaaGreatDoor.A
