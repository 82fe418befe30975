/- Journals: Save. -/
import Derived.Test.YtbpcofnhndgoeaaDoorJR1
import Derived.Test.YtbpcofnhndgoeaaDoorJF1
import Derived.Test.YtbpcofnhndgoeaaDoorW1
namespace Go.Proofs.YtbpcofnhndgoeaaDoor.A
open Go Q
def dk2C2 (F : Dk → Int → Int → Int × Dk) (args : List AV) (bs : List Box) (K : Kon) : Prop := ∃ d nb k n e d' v, DOk d ∧ 2000000000 ≤ nb ∧ F d k n = (e, d') ∧ erA e = v ∧ args = [.ptr 1000000000 0, .int .i64 k, .int .i64 n] ∧ bs = [dkB d nb] ∧ K v [dkB d' nb]
theorem dk2_mono2 {f : FuncId} {F : Dk → Int → Int → Int × Dk} (h : FnOkN Tryd.prog tab f (dk2C1 F)) : FnOkN Tryd.prog tab f (dk2C2 F) := h.mono fun args bs K ⟨d, nb, k, n, e, d', v, h1, h2, h3, hv, h4, h5, h6⟩ => ⟨d, nb, k, n, e, d', h1, h2, h3, h4, h5, by rw [hv]; exact h6⟩
def readC2 (args : List AV) (bs : List Box) (K : Kon) : Prop := ∃ d nb k l ok v, DOk d ∧ 2000000000 ≤ nb ∧ readD d k = (l, ok) ∧ rdA (l, ok) = v ∧ args = [.ptr 1000000000 0, .int .i64 k] ∧ bs = [dkB d nb] ∧ K (.tup [v, .bool ok]) [dkB d nb]
theorem read_ok2 : FnOkN Tryd.prog tab 16 readC2 := read_ok1.mono fun args bs K ⟨d, nb, k, l, ok, v, h1, h2, h3, hv, h4, h5, h6⟩ => ⟨d, nb, k, l, ok, h1, h2, h3, h4, h5, by rw [hv]; exact h6⟩
/-- What Save does, plain. -/
def saveJ (m : Jn) (d : Dk) (b : List Int) : Int × Jn × Dk :=
  if m.broken = true then (12, m, d) else if 16384 < (putI (m.turn + 1) ++ b).length then (13, m, d) else
  if (putJ m d 1 (frameB (putI (m.turn + 1) ++ b))).1 = 0 then
    if (renameD (putJ m d 1 (frameB (putI (m.turn + 1) ++ b))).2.2 1 0).1 = 0 then
      if (readD (renameD (putJ m d 1 (frameB (putI (m.turn + 1) ++ b))).2.2 1 0).2 (2 + m.turn)).2 = true then
        ((removeD (renameD (putJ m d 1 (frameB (putI (m.turn + 1) ++ b))).2.2 1 0).2 (2 + m.turn)).1, failJ ⟨m.turn + 1, b, [], false⟩ (removeD (renameD (putJ m d 1 (frameB (putI (m.turn + 1) ++ b))).2.2 1 0).2 (2 + m.turn)).1, (removeD (renameD (putJ m d 1 (frameB (putI (m.turn + 1) ++ b))).2.2 1 0).2 (2 + m.turn)).2)
      else (0, ⟨m.turn + 1, b, [], false⟩, (renameD (putJ m d 1 (frameB (putI (m.turn + 1) ++ b))).2.2 1 0).2)
    else ((renameD (putJ m d 1 (frameB (putI (m.turn + 1) ++ b))).2.2 1 0).1, failJ m (renameD (putJ m d 1 (frameB (putI (m.turn + 1) ++ b))).2.2 1 0).1, (renameD (putJ m d 1 (frameB (putI (m.turn + 1) ++ b))).2.2 1 0).2)
  else putJ m d 1 (frameB (putI (m.turn + 1) ++ b))
theorem putI_all (n : Int) : allB [n] = putI n := by simp [allB]
theorem putJ_m4 {m m' : Jn} {d d' : Dk} {k e : Int} {b : List Int} (h : putJ m d k b = (e, m', d')) : m' = failJ m e := by
  unfold putJ at h
  split at h <;> (simp only [Prod.mk.injEq] at h; obtain ⟨rfl, rfl, rfl⟩ := h; rfl)
/-- A journal's box in the midst of Save: what is own is its base. -/
abbrev jS (turn : Int) (b : List Int) (q : Bool) : Box := .cells 82 [.ptr 1000000001 0, .int .i64 turn, by8g (.own 900000000) b, .sl .nl 0 [], .bool q]
def failD (args : List AV) (bs : List Box) (K : Kon) : Prop := ∃ turn b q q' d nb e v, (if e = 12 then true else q) = q' ∧ erA e = v ∧ args = [.ptr 1000000000 0, v] ∧ bs = [jS turn b q, dkB d nb] ∧ K v [jS turn b q', dkB d nb]
set_option maxRecDepth 200000 in
theorem fail_okD : FnOkN Tryd.prog tab 47 failD := by
  refine fn_okN (E := D0_E pl47) tab_is (D0_C _) (D0_J _) Tryd.func47 rfl rfl (by kernel_rfl) ?_
  rintro args bs K ⟨turn, b, q, q', d, nb, e, v, hm, hv, rfl, rfl, hK⟩
  refine ⟨rfl, [], ?_⟩
  by_cases h0 : e = 0
  · subst h0
    obtain rfl : v = .nilifc := hv.symm
    rw [if_neg (by decide)] at hm
    subst hm
    refine ⟨fun h => Bool.noConfusion (show false = true from h), fun _ => ?_⟩
    exact ⟨[], 2, rfl, hK⟩
  · obtain rfl : v = .ifc 34 (.int .i64 e) := by rw [← hv, erA_n h0]
    refine ⟨fun h => ?_, fun h => ?_⟩
    · have h : e = 12 := eq_of_beq (show (e == 12) = true from h)
      rw [if_pos h] at hm
      subst hm
      exact ⟨[], 2, rfl, hK⟩
    · have h : ¬ e = 12 := beq_eq_false_iff_ne.1 (show (e == 12) = false from h)
      rw [if_neg h] at hm
      subst hm
      exact ⟨[], 2, rfl, hK⟩
def failU (args : List AV) (bs : List Box) (K : Kon) : Prop := failC args bs K ∨ ∃ turn b q q' d nb e v, (if e = 12 then true else q) = q' ∧ erA e = v ∧ args = [.ptr 1000000000 0, v] ∧ bs = [jS turn b q, dkB d nb] ∧ K v [jS turn b q', dkB d nb]
set_option maxRecDepth 200000 in
theorem fail_okU : FnOkN Tryd.prog tab 47 failU := by
  refine ⟨fail_ok.1, fun args bs K h => ?_⟩
  rcases h with h | h
  · exact fail_ok.2 args bs K h
  · exact fail_okD.2 args bs K h
def RSv : Contract
  | 23 => allC0
  | 22 => makeC
  | _ => fun _ _ _ => False
theorem RSv_ok : CallOk Tryd.prog tab RSv := by
  intro f args bs K h
  unfold RSv at h
  split at h
  · exact ⟨_, h, all_ok⟩
  · exact ⟨_, h, make_ok⟩
  · exact h.elim
def RSv_E (pl : Nat → Plan) : En := ⟨tab, RSv, fun _ => none, 0, pl⟩
theorem RSv_J (pl : Nat → Plan) : JOk Tryd.prog (RSv_E pl).T (RSv_E pl).J := fun _ _ h => by cases h
noncomputable def JSv : FuncId → Option StSpec
  | 46 => some (frzJ (liftJ (nilC putJC)))
  | 47 => some (liftJ failU)
  | 14 => some (liftJ (dk2C2 renameD))
  | 16 => some (liftJ readC2)
  | 44 => some (liftJ (dk1C2 removeD))
  | _ => none
theorem JSv_ok : JOk Tryd.prog tab JSv := by
  intro f j h
  unfold JSv at h
  split at h
  · cases h; exact frz_ok (lift_ok putJ_ok.nil)
  · cases h; exact lift_ok fail_okU
  · cases h; exact lift_ok (dk2_mono2 (dk2_mono rename_ok))
  · cases h; exact lift_ok read_ok2
  · cases h; exact lift_ok (dk1_mono2 (dk1_mono remove_ok))
  · cases h
noncomputable def Sv_E (pl : Nat → Plan) : En := ⟨tab, RSv, JSv, 0, pl⟩
def saveC (args : List AV) (bs : List Box) (K : Kon) : Prop := ∃ m d nb b, DOk d ∧ 2000000000 ≤ nb ∧ (0 ≤ m.turn ∧ m.turn < 4611686018427387904) ∧ b.length ≤ 1000000000000 ∧
  args = [.ptr 1000000000 0, by8 b] ∧ bs = [jB m, dkB d nb] ∧
  (m.broken = false → (putI (m.turn + 1) ++ b).length ≤ 16384 → DOk (appendD d 1 (frameB (putI (m.turn + 1) ++ b))).2 ∧ DOk (putJ m d 1 (frameB (putI (m.turn + 1) ++ b))).2.2 ∧ DOk (renameD (putJ m d 1 (frameB (putI (m.turn + 1) ++ b))).2.2 1 0).2) ∧
  ∃ e m' d', saveJ m d b = (e, m', d') ∧ (e = 0 → K .nilifc [jB m', dkB d' nb]) ∧ (e ≠ 0 → K (.ifc 34 (.int .i64 e)) [jB m', dkB d' nb])
set_option maxRecDepth 200000 in
set_option maxHeartbeats 6400000 in
theorem save_ok : FnOkN Tryd.prog tab 30 saveC := by
  refine fn_okN (E := Sv_E pl30) tab_is RSv_ok JSv_ok Tryd.func30 rfl rfl (by kernel_rfl) ?_
  rintro args bs K ⟨⟨turn, base, recs, broken⟩, d, nb, b, hd, hnb, ⟨ht0, ht1⟩, hbl, rfl, rfl, hD, e, m', d', hS, hK0, hK1⟩
  refine ⟨rfl, [], ?_⟩
  have ht0 : 0 ≤ turn := ht0
  have ht1 : turn < 4611686018427387904 := ht1
  have hw : IntKind.i64.wrap (turn + 1) = turn + 1 := wrap_of (by omega) (by omega)
  have hpl := putI_len (turn + 1)
  unfold saveJ at hS
  cases broken with
  | true =>
    rw [if_pos rfl] at hS
    simp only [Prod.mk.injEq] at hS
    obtain ⟨rfl, rfl, rfl⟩ := hS
    have hK1 := hK1 (by decide)
    refine ⟨fun _ => ?_, fun h => Bool.noConfusion (show true = false from h)⟩
    exact ⟨[], 2, rfl, hK1⟩
  | false =>
    rw [if_neg (show ¬ (false = true) by decide)] at hS
    simp only at hS hD
    have hxl : (((allB [IntKind.i64.wrap (turn + 1)]).map (AV.int .u8)).length + (b.map (AV.int .u8)).length) * 1 ≤ 140737488355328 := by
      rw [hw, putI_all, List.length_map, List.length_map]; omega
    obtain ⟨x, hx⟩ : ∃ x, putI (turn + 1) ++ b = x := ⟨_, rfl⟩
    rw [hx] at hS hD
    have hargs : [AV.sl .fz 5 ((allB [IntKind.i64.wrap (turn + 1)]).map (AV.int .u8) ++ b.map (AV.int .u8))] = [by8 x] := by rw [hw, putI_all, ← List.map_append, hx]
    have hxn : x.length ≤ 1000000000020 := by rw [← hx, List.length_append]; omega
    have hns : ∀ n ∈ [IntKind.i64.wrap (turn + 1)], i64 n := by rw [hw]; intro n hn; obtain rfl : n = turn + 1 := (by simpa using hn); exact ⟨by omega, by omega⟩
    by_cases hlong : 16384 < x.length
    · rw [if_pos hlong] at hS
      simp only [Prod.mk.injEq] at hS
      obtain ⟨rfl, rfl, rfl⟩ := hS
      have hK1 := hK1 (by decide)
      refine ⟨fun h => Bool.noConfusion (show false = true from h), fun _ => ?_⟩
      refine ⟨rfl, [IntKind.i64.wrap (turn + 1)], rfl, (by simp), (by simp), hns, ?_⟩
      refine ⟨hxl, ?_⟩
      refine ⟨rfl, x, hargs, (by omega), fun _ => ?_, fun h => absurd hlong (by omega)⟩
      refine ⟨fun _ => ?_, fun h => Bool.noConfusion (show true = false from h)⟩
      exact ⟨[], 2, rfl, hK1⟩
    · rw [if_neg hlong] at hS
      obtain ⟨hD1, hD2, hD3⟩ := hD trivial (by omega)
      have hfl : (frameB x).length ≤ 4611686018427387904 := by rw [frame_len]; omega
      obtain ⟨e1, m1, d1, hp⟩ : ∃ e1 m1 d1, putJ ⟨turn, base, recs, false⟩ d 1 (frameB x) = (e1, m1, d1) := ⟨_, _, _, rfl⟩
      have hmm : m1 = failJ ⟨turn, base, recs, false⟩ e1 := putJ_m4 hp
      rw [hp] at hS hD2 hD3
      simp only at hS hD2 hD3
      by_cases h1 : e1 = 0
      · subst h1
        rw [failJ, if_neg (by decide)] at hmm
        subst hmm
        rw [if_pos rfl] at hS
        obtain ⟨e2, d2, h2⟩ : ∃ e2 d2, renameD d1 1 0 = (e2, d2) := ⟨_, _, rfl⟩
        rw [h2] at hS hD3
        simp only at hS hD3
        by_cases h20 : e2 = 0
        · subst h20
          rw [if_pos rfl] at hS
          have hw2 : IntKind.i64.wrap (2 + turn) = 2 + turn := wrap_of (by omega) (by omega)
          have hbb : (b.map (AV.int .u8)).length * 1 ≤ 140737488355328 := by rw [List.length_map]; omega
          obtain ⟨l, ok, hrd⟩ : ∃ l ok, readD d2 (2 + turn) = (l, ok) := ⟨_, _, rfl⟩
          rw [hrd] at hS
          rw [← hw2] at hrd
          cases ok with
          | false =>
            rw [if_neg (show ¬ (false = true) by decide)] at hS
            simp only [Prod.mk.injEq] at hS
            obtain ⟨rfl, rfl, rfl⟩ := hS
            have hK0 := hK0 rfl
            rw [← hw] at hK0
            refine ⟨fun h => Bool.noConfusion (show false = true from h), fun _ => ?_⟩
            refine ⟨rfl, [IntKind.i64.wrap (turn + 1)], rfl, (by simp), (by simp), hns, ?_⟩
            refine ⟨hxl, ?_⟩
            refine ⟨rfl, x, hargs, (by omega), fun h => absurd h hlong, fun _ => ?_⟩
            refine ⟨fun h => Bool.noConfusion (show false = true from h), fun _ => ?_⟩
            refine ⟨[1000000000, 1000000001], [900000000], [], 900000000, rfl, _, rfl, [.ptr 1000000000 0, .int .i64 1, by8 (frameB x)], ⟨.inl rfl, .inl rfl, .inl rfl, trivial⟩, _, d, nb, 1, frameB x, _, _, d1, _, hd, hnb, hfl, hD1, hp, erA_0, rfl, rfl, rfl, ?_⟩
            refine ⟨fun h => Bool.noConfusion (show false = true from h), fun _ => ?_⟩
            refine ⟨[1000000001], [], [], 0, rfl, _, rfl, d1, nb, 1, 0, 0, d2, _, hD2, hnb, h2, erA_0, rfl, rfl, rfl, ?_⟩
            refine ⟨fun h => Bool.noConfusion (show false = true from h), fun _ => ?_⟩
            refine ⟨hbb, ?_⟩
            refine ⟨[1000000001], [], [], 0, rfl, _, rfl, d2, nb, _, l, _, _, hD3, hnb, hrd, rfl, rfl, rfl, rfl, ?_⟩
            refine ⟨fun h => Bool.noConfusion (show false = true from h), fun _ => ?_⟩
            exact ⟨[.frz 64000, .emp 1000000000 3 (.own 900000000) 22], 2, rfl, hK0⟩
          | true =>
            rw [if_pos rfl] at hS
            obtain ⟨e3, d3, h3⟩ : ∃ e3 d3, removeD d2 (2 + turn) = (e3, d3) := ⟨_, _, rfl⟩
            rw [h3] at hS
            rw [← hw2] at h3
            simp only [Prod.mk.injEq] at hS
            obtain ⟨rfl, hm, rfl⟩ := hS
            by_cases h30 : e3 = 0
            · subst h30
              rw [failJ, if_neg (by decide)] at hm
              subst hm
              have hK0 := hK0 rfl
              rw [← hw] at hK0
              refine ⟨fun h => Bool.noConfusion (show false = true from h), fun _ => ?_⟩
              refine ⟨rfl, [IntKind.i64.wrap (turn + 1)], rfl, (by simp), (by simp), hns, ?_⟩
              refine ⟨hxl, ?_⟩
              refine ⟨rfl, x, hargs, (by omega), fun h => absurd h hlong, fun _ => ?_⟩
              refine ⟨fun h => Bool.noConfusion (show false = true from h), fun _ => ?_⟩
              refine ⟨[1000000000, 1000000001], [900000000], [], 900000000, rfl, _, rfl, [.ptr 1000000000 0, .int .i64 1, by8 (frameB x)], ⟨.inl rfl, .inl rfl, .inl rfl, trivial⟩, _, d, nb, 1, frameB x, _, _, d1, _, hd, hnb, hfl, hD1, hp, erA_0, rfl, rfl, rfl, ?_⟩
              refine ⟨fun h => Bool.noConfusion (show false = true from h), fun _ => ?_⟩
              refine ⟨[1000000001], [], [], 0, rfl, _, rfl, d1, nb, 1, 0, 0, d2, _, hD2, hnb, h2, erA_0, rfl, rfl, rfl, ?_⟩
              refine ⟨fun h => Bool.noConfusion (show false = true from h), fun _ => ?_⟩
              refine ⟨hbb, ?_⟩
              refine ⟨[1000000001], [], [], 0, rfl, _, rfl, d2, nb, _, l, _, _, hD3, hnb, hrd, rfl, rfl, rfl, rfl, ?_⟩
              refine ⟨fun _ => ?_, fun h => Bool.noConfusion (show true = false from h)⟩
              refine ⟨[1000000001], [], [], 0, rfl, _, rfl, d2, nb, _, _, d3, _, hD3, hnb, h3, erA_0, rfl, rfl, rfl, ?_⟩
              refine ⟨[1000000000, 1000000001], [64000], [], 64000, rfl, _, rfl, .inr ⟨_, _, _, _, d3, nb, _, _, if_neg (by decide), erA_0, rfl, rfl, rfl, ?_⟩⟩
              exact ⟨[.frz 64000, .emp 1000000000 3 (.own 900000000) 22], 2, rfl, hK0⟩
            · have hK1 := hK1 h30
              by_cases h12 : e3 = 12
              · rw [failJ, if_pos h12] at hm
                subst hm
                rw [← hw] at hK1
                refine ⟨fun h => Bool.noConfusion (show false = true from h), fun _ => ?_⟩
                refine ⟨rfl, [IntKind.i64.wrap (turn + 1)], rfl, (by simp), (by simp), hns, ?_⟩
                refine ⟨hxl, ?_⟩
                refine ⟨rfl, x, hargs, (by omega), fun h => absurd h hlong, fun _ => ?_⟩
                refine ⟨fun h => Bool.noConfusion (show false = true from h), fun _ => ?_⟩
                refine ⟨[1000000000, 1000000001], [900000000], [], 900000000, rfl, _, rfl, [.ptr 1000000000 0, .int .i64 1, by8 (frameB x)], ⟨.inl rfl, .inl rfl, .inl rfl, trivial⟩, _, d, nb, 1, frameB x, _, _, d1, _, hd, hnb, hfl, hD1, hp, erA_0, rfl, rfl, rfl, ?_⟩
                refine ⟨fun h => Bool.noConfusion (show false = true from h), fun _ => ?_⟩
                refine ⟨[1000000001], [], [], 0, rfl, _, rfl, d1, nb, 1, 0, 0, d2, _, hD2, hnb, h2, erA_0, rfl, rfl, rfl, ?_⟩
                refine ⟨fun h => Bool.noConfusion (show false = true from h), fun _ => ?_⟩
                refine ⟨hbb, ?_⟩
                refine ⟨[1000000001], [], [], 0, rfl, _, rfl, d2, nb, _, l, _, _, hD3, hnb, hrd, rfl, rfl, rfl, rfl, ?_⟩
                refine ⟨fun _ => ?_, fun h => Bool.noConfusion (show true = false from h)⟩
                refine ⟨[1000000001], [], [], 0, rfl, _, rfl, d2, nb, _, _, d3, _, hD3, hnb, h3, erA_n h30, rfl, rfl, rfl, ?_⟩
                refine ⟨[1000000000, 1000000001], [64000], [], 64000, rfl, _, rfl, .inr ⟨_, _, _, _, d3, nb, _, _, if_pos h12, erA_n h30, rfl, rfl, rfl, ?_⟩⟩
                exact ⟨[.frz 64000, .emp 1000000000 3 (.own 900000000) 22], 2, rfl, hK1⟩
              · rw [failJ, if_neg h12] at hm
                subst hm
                rw [← hw] at hK1
                refine ⟨fun h => Bool.noConfusion (show false = true from h), fun _ => ?_⟩
                refine ⟨rfl, [IntKind.i64.wrap (turn + 1)], rfl, (by simp), (by simp), hns, ?_⟩
                refine ⟨hxl, ?_⟩
                refine ⟨rfl, x, hargs, (by omega), fun h => absurd h hlong, fun _ => ?_⟩
                refine ⟨fun h => Bool.noConfusion (show false = true from h), fun _ => ?_⟩
                refine ⟨[1000000000, 1000000001], [900000000], [], 900000000, rfl, _, rfl, [.ptr 1000000000 0, .int .i64 1, by8 (frameB x)], ⟨.inl rfl, .inl rfl, .inl rfl, trivial⟩, _, d, nb, 1, frameB x, _, _, d1, _, hd, hnb, hfl, hD1, hp, erA_0, rfl, rfl, rfl, ?_⟩
                refine ⟨fun h => Bool.noConfusion (show false = true from h), fun _ => ?_⟩
                refine ⟨[1000000001], [], [], 0, rfl, _, rfl, d1, nb, 1, 0, 0, d2, _, hD2, hnb, h2, erA_0, rfl, rfl, rfl, ?_⟩
                refine ⟨fun h => Bool.noConfusion (show false = true from h), fun _ => ?_⟩
                refine ⟨hbb, ?_⟩
                refine ⟨[1000000001], [], [], 0, rfl, _, rfl, d2, nb, _, l, _, _, hD3, hnb, hrd, rfl, rfl, rfl, rfl, ?_⟩
                refine ⟨fun _ => ?_, fun h => Bool.noConfusion (show true = false from h)⟩
                refine ⟨[1000000001], [], [], 0, rfl, _, rfl, d2, nb, _, _, d3, _, hD3, hnb, h3, erA_n h30, rfl, rfl, rfl, ?_⟩
                refine ⟨[1000000000, 1000000001], [64000], [], 64000, rfl, _, rfl, .inr ⟨_, _, _, _, d3, nb, _, _, if_neg h12, erA_n h30, rfl, rfl, rfl, ?_⟩⟩
                exact ⟨[.frz 64000, .emp 1000000000 3 (.own 900000000) 22], 2, rfl, hK1⟩
        · rw [if_neg h20] at hS
          simp only [Prod.mk.injEq] at hS
          obtain ⟨rfl, hm, rfl⟩ := hS
          have hK1 := hK1 h20
          by_cases h12 : e2 = 12
          · rw [failJ, if_pos h12] at hm
            subst hm
            refine ⟨fun h => Bool.noConfusion (show false = true from h), fun _ => ?_⟩
            refine ⟨rfl, [IntKind.i64.wrap (turn + 1)], rfl, (by simp), (by simp), hns, ?_⟩
            refine ⟨hxl, ?_⟩
            refine ⟨rfl, x, hargs, (by omega), fun h => absurd h hlong, fun _ => ?_⟩
            refine ⟨fun h => Bool.noConfusion (show false = true from h), fun _ => ?_⟩
            refine ⟨[1000000000, 1000000001], [900000000], [], 900000000, rfl, _, rfl, [.ptr 1000000000 0, .int .i64 1, by8 (frameB x)], ⟨.inl rfl, .inl rfl, .inl rfl, trivial⟩, _, d, nb, 1, frameB x, _, _, d1, _, hd, hnb, hfl, hD1, hp, erA_0, rfl, rfl, rfl, ?_⟩
            refine ⟨fun h => Bool.noConfusion (show false = true from h), fun _ => ?_⟩
            refine ⟨[1000000001], [], [], 0, rfl, _, rfl, d1, nb, 1, 0, e2, d2, _, hD2, hnb, h2, erA_n h20, rfl, rfl, rfl, ?_⟩
            refine ⟨fun _ => ?_, fun h => Bool.noConfusion (show true = false from h)⟩
            refine ⟨[1000000000, 1000000001], [900000000], [], 900000000, rfl, _, rfl, .inl ⟨_, d2, nb, e2, _, _, if_pos h12, erA_n h20, rfl, rfl, rfl, ?_⟩⟩
            exact ⟨[], 2, rfl, hK1⟩
          · rw [failJ, if_neg h12] at hm
            subst hm
            refine ⟨fun h => Bool.noConfusion (show false = true from h), fun _ => ?_⟩
            refine ⟨rfl, [IntKind.i64.wrap (turn + 1)], rfl, (by simp), (by simp), hns, ?_⟩
            refine ⟨hxl, ?_⟩
            refine ⟨rfl, x, hargs, (by omega), fun h => absurd h hlong, fun _ => ?_⟩
            refine ⟨fun h => Bool.noConfusion (show false = true from h), fun _ => ?_⟩
            refine ⟨[1000000000, 1000000001], [900000000], [], 900000000, rfl, _, rfl, [.ptr 1000000000 0, .int .i64 1, by8 (frameB x)], ⟨.inl rfl, .inl rfl, .inl rfl, trivial⟩, _, d, nb, 1, frameB x, _, _, d1, _, hd, hnb, hfl, hD1, hp, erA_0, rfl, rfl, rfl, ?_⟩
            refine ⟨fun h => Bool.noConfusion (show false = true from h), fun _ => ?_⟩
            refine ⟨[1000000001], [], [], 0, rfl, _, rfl, d1, nb, 1, 0, e2, d2, _, hD2, hnb, h2, erA_n h20, rfl, rfl, rfl, ?_⟩
            refine ⟨fun _ => ?_, fun h => Bool.noConfusion (show true = false from h)⟩
            refine ⟨[1000000000, 1000000001], [900000000], [], 900000000, rfl, _, rfl, .inl ⟨_, d2, nb, e2, _, _, if_neg h12, erA_n h20, rfl, rfl, rfl, ?_⟩⟩
            exact ⟨[], 2, rfl, hK1⟩
      · rw [if_neg h1] at hS
        simp only [Prod.mk.injEq] at hS
        obtain ⟨rfl, rfl, rfl⟩ := hS
        have hK1 := hK1 h1
        by_cases h12 : e1 = 12
        · rw [failJ, if_pos h12] at hmm
          subst hmm
          refine ⟨fun h => Bool.noConfusion (show false = true from h), fun _ => ?_⟩
          refine ⟨rfl, [IntKind.i64.wrap (turn + 1)], rfl, (by simp), (by simp), hns, ?_⟩
          refine ⟨hxl, ?_⟩
          refine ⟨rfl, x, hargs, (by omega), fun h => absurd h hlong, fun _ => ?_⟩
          refine ⟨fun h => Bool.noConfusion (show false = true from h), fun _ => ?_⟩
          refine ⟨[1000000000, 1000000001], [900000000], [], 900000000, rfl, _, rfl, [.ptr 1000000000 0, .int .i64 1, by8 (frameB x)], ⟨.inl rfl, .inl rfl, .inl rfl, trivial⟩, _, d, nb, 1, frameB x, _, _, d1, _, hd, hnb, hfl, hD1, hp, erA_n h1, rfl, rfl, rfl, ?_⟩
          refine ⟨fun _ => ?_, fun h => Bool.noConfusion (show true = false from h)⟩
          exact ⟨[], 2, rfl, hK1⟩
        · rw [failJ, if_neg h12] at hmm
          subst hmm
          refine ⟨fun h => Bool.noConfusion (show false = true from h), fun _ => ?_⟩
          refine ⟨rfl, [IntKind.i64.wrap (turn + 1)], rfl, (by simp), (by simp), hns, ?_⟩
          refine ⟨hxl, ?_⟩
          refine ⟨rfl, x, hargs, (by omega), fun h => absurd h hlong, fun _ => ?_⟩
          refine ⟨fun h => Bool.noConfusion (show false = true from h), fun _ => ?_⟩
          refine ⟨[1000000000, 1000000001], [900000000], [], 900000000, rfl, _, rfl, [.ptr 1000000000 0, .int .i64 1, by8 (frameB x)], ⟨.inl rfl, .inl rfl, .inl rfl, trivial⟩, _, d, nb, 1, frameB x, _, _, d1, _, hd, hnb, hfl, hD1, hp, erA_n h1, rfl, rfl, rfl, ?_⟩
          refine ⟨fun _ => ?_, fun h => Bool.noConfusion (show true = false from h)⟩
          exact ⟨[], 2, rfl, hK1⟩
end Go.Proofs.YtbpcofnhndgoeaaDoor.A
