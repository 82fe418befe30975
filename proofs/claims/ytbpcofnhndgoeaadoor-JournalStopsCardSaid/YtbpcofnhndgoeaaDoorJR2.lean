/- Journals: Append. -/
import Derived.Test.YtbpcofnhndgoeaaDoorJR1
import Derived.Test.YtbpcofnhndgoeaaDoorJF1
namespace Go.Proofs.YtbpcofnhndgoeaaDoor.A
open Go Q
def byO (F : Nat) : List Int → AV
  | [] => .sl .nl 0 []
  | l => by8g (.own F) l
theorem frame_cons (r : List Int) : ∃ a l, frameB r = a :: l := ⟨_, _, rfl⟩
theorem byO_snoc {F : Nat} {l r : List Int} : by8g (.own F) (l ++ frameB r) = byO F (l ++ frameB r) := by
  obtain ⟨a, t, h⟩ := frame_cons r
  rw [h]
  cases l <;> rfl
theorem frames_snoc {rs : List (List Int)} {i : Nat} {r : List Int} (h : rs[i]? = some r) : frames (rs.take (i + 1)) = frames (rs.take i) ++ frameB r := by
  unfold frames
  rw [List.take_add_one, h, List.flatMap_append]
  simp
theorem frames_le {rs : List (List Int)} (i : Nat) : (frames (rs.take i)).length ≤ (frames rs).length := by
  have : frames rs = frames (rs.take i) ++ frames (rs.drop i) := by
    unfold frames; rw [← List.flatMap_append, List.take_append_drop]
  rw [this, List.length_append]; omega
theorem putJ_m {m m' : Jn} {d d' : Dk} {k e : Int} {b : List Int} (h : putJ m d k b = (e, m', d')) : m' = failJ m e := by
  unfold putJ at h
  split at h <;> (simp only [Prod.mk.injEq] at h; obtain ⟨rfl, rfl, rfl⟩ := h; rfl)
theorem bss_snoc {g : Tag} {L rs : List (List Int)} {i : Nat} {r : List Int} (h : rs[i]? = some r) : AV.sl g 22 ((L ++ rs.take i).map by8 ++ [by8 r]) = bss g (L ++ rs.take (i + 1)) := by
  rw [List.take_add_one, h]
  simp
theorem jB_rec {g : Nat} {turn : Int} {base : List Int} {X : List (List Int)} {v : AV} {q : Bool} (h : bss (.own g) X = v) : some (Box.cells 82 [.ptr 1000000001 0, .int .i64 turn, by8 base, v, .bool q]) = some (jBg g ⟨turn, base, X, q⟩) := by rw [← h]
def RAp : Contract
  | 22 => makeC
  | _ => fun _ _ _ => False
theorem RAp_ok : CallOk Tryd.prog tab RAp := by
  intro f args bs K h
  unfold RAp at h
  split at h
  · exact ⟨_, h, make_ok⟩
  · exact h.elim
def RAp_E (pl : Nat → Plan) : En := ⟨tab, RAp, fun _ => none, 0, pl⟩
theorem RAp_J (pl : Nat → Plan) : JOk Tryd.prog (RAp_E pl).T (RAp_E pl).J := fun _ _ h => by cases h
noncomputable def JAp : FuncId → Option StSpec
  | 46 => some (frzJ (liftJ (nilC putJC)))
  | _ => none
theorem JAp_ok : JOk Tryd.prog tab JAp := by
  intro f j h
  unfold JAp at h
  split at h
  · cases h; exact frz_ok (lift_ok putJ_ok.nil)
  · cases h
noncomputable def Ap_E (pl : Nat → Plan) : En := ⟨tab, RAp, JAp, 0, pl⟩
def appJC (args : List AV) (bs : List Box) (K : Kon) : Prop := ∃ m d nb rs, DOk d ∧ 2000000000 ≤ nb ∧ (0 ≤ m.turn ∧ m.turn < 4611686018427387904) ∧ rs.length ≤ 1000000000000 ∧ m.recs.length ≤ 1000000000000 ∧ (∀ r ∈ rs, r.length ≤ 1000000000000) ∧ (frames rs).length ≤ 100000000000000 ∧
  args = [.ptr 1000000000 0, bss .fz rs] ∧ bs = [jB m, dkB d nb] ∧ (m.broken = true → K (.ifc 34 (.int .i64 12)) [jB m, dkB d nb]) ∧
  (m.broken = false → (∃ r ∈ rs, 16384 < r.length) → K (.ifc 34 (.int .i64 13)) [jB m, dkB d nb]) ∧
  (m.broken = false → (∀ r ∈ rs, r.length ≤ 16384) → DOk (appendD d (2 + m.turn) (frames rs)).2 ∧ ∃ e m' d', putJ m d (2 + m.turn) (frames rs) = (e, m', d') ∧ (e ≠ 0 → K (.ifc 34 (.int .i64 e)) [jB m', dkB d' nb]) ∧
    (e = 0 → K .nilifc [jB ⟨m.turn, m.base, m.recs ++ rs, false⟩, dkB d' nb]))
set_option maxRecDepth 200000 in
set_option maxHeartbeats 6400000 in
theorem appJ_ok : FnOkN Tryd.prog tab 29 appJC := by
  refine fn_okN (E := Ap_E pl29) tab_is RAp_ok JAp_ok Tryd.func29 rfl rfl (by kernel_rfl) ?_
  rintro args bs K ⟨⟨turn, base, recs, broken⟩, d, nb, rs, hd, hnb, ⟨ht0, ht1⟩, hrl, hml, hrs, hfs, rfl, rfl, hK0, hK1, hK2⟩
  refine ⟨rfl, [], ?_⟩
  have ht0 : 0 ≤ turn := ht0
  have ht1 : turn < 4611686018427387904 := ht1
  cases broken with
  | true =>
    refine ⟨fun _ => ?_, fun h => Bool.noConfusion (show true = false from h)⟩
    exact ⟨[], 2, rfl, hK0 rfl⟩
  | false =>
    clear hK0
    refine ⟨fun h => Bool.noConfusion (show false = true from h), fun _ => ?_⟩
    refine ⟨fun mm st => ∃ (i : Nat), (i ≤ rs.length ∧ ∀ r ∈ rs.take i, r.length ≤ 16384) ∧ rs.length - i = mm ∧ st.t 0 = .ptr 1000000000 0 ∧ st.t 1 = bss .fz rs ∧ st.t 5 = byO 34000 (frames (rs.take i)) ∧ st.t 18 = bss .fz rs ∧ st.t 19 = .int .i64 ((rs.map by8).length : Nat) ∧ st.t 20 = .int .i64 (i : Int) ∧ st.h 1000000000 = some (jB ⟨turn, base, recs, false⟩) ∧ st.h 1000000001 = some (dkB d nb),
      ⟨_, 0, ⟨Nat.zero_le _, (by simp)⟩, rfl, rfl, rfl, rfl, rfl, rfl, rfl, rfl, rfl⟩, ?_⟩
    rintro _ ⟨t1, h1⟩ ⟨i, ⟨hi, hsh⟩, rfl, e0, e1, e5, e18, e19, e20, b1000000000, b1000000001⟩
    have e0 : t1 0 = .ptr 1000000000 0 := e0
    have e1 : t1 1 = bss .fz rs := e1
    have e5 : t1 5 = byO 34000 (frames (rs.take i)) := e5
    have e18 : t1 18 = bss .fz rs := e18
    have e19 : t1 19 = .int .i64 ((rs.map by8).length : Nat) := e19
    have e20 : t1 20 = .int .i64 (i : Int) := e20
    have b1000000000 : h1 1000000000 = some (jB ⟨turn, base, recs, false⟩) := b1000000000
    have b1000000001 : h1 1000000001 = some (dkB d nb) := b1000000001
    rw [← updL_has t1 [(0, .ptr 1000000000 0), (1, bss .fz rs), (5, byO 34000 (frames (rs.take i))), (18, bss .fz rs), (19, .int .i64 ((rs.map by8).length : Nat)), (20, .int .i64 (i : Int))] ⟨e0, e1, e5, e18, e19, e20, trivial⟩, ← updL_has h1 [(1000000000, some (jB ⟨turn, base, recs, false⟩)), (1000000001, some (dkB d nb))] ⟨b1000000000, b1000000001, trivial⟩]
    have hfl := frames_le (rs := rs) i
    constructor
    · intro hb
      have hi' : i < rs.length := by
        have : (i : Int) < ((rs.map by8).length : Nat) := by simpa using hb
        simp at this; omega
      have w : IntKind.i64.wrap ((i : Int) + 1) = ((i + 1 : Nat) : Int) := by rw [wrap_of] <;> omega
      have hlt : rs.length - (i + 1) < rs.length - i := by omega
      obtain ⟨r, hx⟩ : ∃ x, rs[i]? = some x := ⟨_, List.getElem?_eq_getElem hi'⟩
      have hm := List.mem_of_getElem? hx
      have hrl := hrs r hm
      refine ⟨_, Int.natCast_nonneg i, map_of hx, ?_⟩
      refine ⟨rfl, r, rfl, (by omega), fun hlong => ?_, fun hok => ?_⟩
      · refine ⟨fun _ => ?_, fun h => Bool.noConfusion (show true = false from h)⟩
        exact ⟨[], 2, rfl, hK1 rfl ⟨r, hm, hlong⟩⟩
      · refine ⟨fun h => Bool.noConfusion (show false = true from h), fun _ => ?_⟩
        have hfr := frame_len r
        have hsh' : ∀ q ∈ rs.take (i + 1), q.length ≤ 16384 := by
          rw [List.take_add_one, hx]
          intro q hq
          rcases List.mem_append.1 hq with hq | hq
          · exact hsh q hq
          · obtain rfl : q = r := by simpa using hq
            exact hok
        have hsn := frames_snoc hx
        cases hq : frames (rs.take i) with
        | nil =>
          rw [hq] at hsn
          refine ⟨(show ((frameB r).map (AV.int .u8)).length * 1 ≤ 140737488355328 by rw [List.length_map]; omega), ?_⟩
          exact ⟨_, hlt, i + 1, ⟨(by omega), hsh'⟩, rfl, rfl, rfl, (by rw [hsn]; exact byO_snoc (l := [])), rfl, rfl, congrArg (AV.int .i64) w, rfl, rfl⟩
        | cons a l =>
          rw [hq] at hsn hfl
          refine ⟨(show (((a :: l).map (AV.int .u8)).length + ((frameB r).map (AV.int .u8)).length) * 1 ≤ 140737488355328 by rw [List.length_map, List.length_map]; omega), ?_⟩
          exact ⟨_, hlt, i + 1, ⟨(by omega), hsh'⟩, rfl, rfl, rfl, (show AV.sl (.own 34000) 5 ((a :: l).map (AV.int .u8) ++ (frameB r).map (AV.int .u8)) = byO 34000 (frames (rs.take (i + 1))) by rw [hsn, ← byO_snoc, ← List.map_append]), rfl, rfl, congrArg (AV.int .i64) w, rfl, rfl⟩
    · intro hb
      have hi' : i = rs.length := by
        have : ¬ (i : Int) < ((rs.map by8).length : Nat) := by simpa using hb
        simp at this; omega
      subst hi'
      have hall : rs.take rs.length = rs := List.take_length
      rw [hall] at hsh
      obtain ⟨hd1, e, m', d', hp, hKe, hKa⟩ := hK2 rfl hsh
      have hw : IntKind.i64.wrap (2 + turn) = 2 + turn := wrap_of (by omega) (by omega)
      have hd1' : DOk (appendD d (IntKind.i64.wrap (2 + turn)) (frames rs)).2 := by rw [hw]; exact hd1
      have hp' : putJ ⟨turn, base, recs, false⟩ d (IntKind.i64.wrap (2 + turn)) (frames rs) = (e, m', d') := by rw [hw]; exact hp
      have hmm := putJ_m hp
      have hee : frames (rs.take rs.length) = frames rs := by rw [hall]
      by_cases h0 : e = 0
      · subst h0
        rw [failJ, if_neg (by decide)] at hmm
        subst hmm
        clear hKe
        cases hq : frames (rs.take rs.length) with
        | nil =>
          rw [hee] at hq
          rw [hq] at hp' hd1'
          refine ⟨[1000000000, 1000000001], [900000000], [], 900000000, rfl, _, rfl, [.ptr 1000000000 0, .int .i64 (IntKind.i64.wrap (2 + turn)), by8 []], ⟨.inl rfl, .inl rfl, .inr ⟨_, _, rfl, rfl⟩, trivial⟩, _, d, nb, _, [], 0, _, d', _, hd, hnb, (by decide), hd1', hp', rfl, rfl, rfl, rfl, ?_⟩
          refine ⟨fun h => Bool.noConfusion (show false = true from h), fun _ => ?_⟩
          refine ⟨fun mm st => ∃ (i : Nat), (i ≤ rs.length) ∧ rs.length - i = mm ∧ st.t 0 = .ptr 1000000000 0 ∧ st.t 47 = bss .fz rs ∧ st.t 48 = .int .i64 ((rs.map by8).length : Nat) ∧ st.t 49 = .int .i64 (i : Int) ∧ st.h 1000000000 = some (jB ⟨turn, base, recs ++ rs.take i, false⟩) ∧ st.h 1000000001 = some (dkB d' nb),
            ⟨_, 0, Nat.zero_le _, rfl, rfl, rfl, rfl, rfl, (show some (jB ⟨turn, base, recs, false⟩) = some (jB ⟨turn, base, recs ++ rs.take 0, false⟩) by rw [List.take_zero, List.append_nil]), rfl⟩, ?_⟩
          rintro _ ⟨t1, h1⟩ ⟨i, hi, rfl, e0, e47, e48, e49, b1000000000, b1000000001⟩
          have e0 : t1 0 = .ptr 1000000000 0 := e0
          have e47 : t1 47 = bss .fz rs := e47
          have e48 : t1 48 = .int .i64 ((rs.map by8).length : Nat) := e48
          have e49 : t1 49 = .int .i64 (i : Int) := e49
          have b1000000000 : h1 1000000000 = some (jB ⟨turn, base, recs ++ rs.take i, false⟩) := b1000000000
          have b1000000001 : h1 1000000001 = some (dkB d' nb) := b1000000001
          rw [← updL_has t1 [(0, .ptr 1000000000 0), (47, bss .fz rs), (48, .int .i64 ((rs.map by8).length : Nat)), (49, .int .i64 (i : Int))] ⟨e0, e47, e48, e49, trivial⟩, ← updL_has h1 [(1000000000, some (jB ⟨turn, base, recs ++ rs.take i, false⟩)), (1000000001, some (dkB d' nb))] ⟨b1000000000, b1000000001, trivial⟩]
          constructor
          · intro hb
            have hi' : i < rs.length := by
              have : (i : Int) < ((rs.map by8).length : Nat) := by simpa using hb
              simp at this; omega
            have w : IntKind.i64.wrap ((i : Int) + 1) = ((i + 1 : Nat) : Int) := by rw [wrap_of] <;> omega
            have hlt : rs.length - (i + 1) < rs.length - i := by omega
            obtain ⟨r, hx⟩ : ∃ x, rs[i]? = some x := ⟨_, List.getElem?_eq_getElem hi'⟩
            have hm := List.mem_of_getElem? hx
            refine ⟨_, Int.natCast_nonneg i, map_of hx, ?_⟩
            have hrl := hrs r hm
            have hb1 : (r.map (AV.int .u8)).length * 1 ≤ 140737488355328 := by rw [List.length_map]; omega
            have htl : (rs.take i).length ≤ i := List.length_take_le ..
            have hml : recs.length ≤ 1000000000000 := hml
            refine ⟨hb1, ?_⟩
            refine ⟨(show (((recs ++ rs.take i).map by8).length + 1) * 24 ≤ 140737488355328 by rw [List.length_map, List.length_append]; omega), ?_⟩
            exact ⟨_, hlt, i + 1, (by omega), rfl, rfl, rfl, rfl, congrArg (AV.int .i64) w, jB_rec (base := base) (X := recs ++ rs.take (i + 1)) (bss_snoc hx).symm, rfl⟩
          · intro hb
            have hi' : i = rs.length := by
              have : ¬ (i : Int) < ((rs.map by8).length : Nat) := by simpa using hb
              simp at this; omega
            subst hi'
            have hK' : K .nilifc [jB ⟨turn, base, recs ++ rs.take rs.length, false⟩, dkB d' nb] := by rw [hall]; exact hKa rfl
            exact ⟨[], 2, rfl, hK'⟩
        | cons a l =>
          rw [hee] at hq
          rw [hq] at hp' hd1' hfs
          refine ⟨[1000000000, 1000000001], [900000000], [], 900000000, rfl, _, rfl, [.ptr 1000000000 0, .int .i64 (IntKind.i64.wrap (2 + turn)), by8 (a :: l)], ⟨.inl rfl, .inl rfl, .inl rfl, trivial⟩, _, d, nb, _, a :: l, 0, _, d', _, hd, hnb, (by omega), hd1', hp', rfl, rfl, rfl, rfl, ?_⟩
          refine ⟨fun h => Bool.noConfusion (show false = true from h), fun _ => ?_⟩
          refine ⟨fun mm st => ∃ (i : Nat), (i ≤ rs.length) ∧ rs.length - i = mm ∧ st.t 0 = .ptr 1000000000 0 ∧ st.t 47 = bss .fz rs ∧ st.t 48 = .int .i64 ((rs.map by8).length : Nat) ∧ st.t 49 = .int .i64 (i : Int) ∧ st.h 1000000000 = some (jB ⟨turn, base, recs ++ rs.take i, false⟩) ∧ st.h 1000000001 = some (dkB d' nb),
            ⟨_, 0, Nat.zero_le _, rfl, rfl, rfl, rfl, rfl, (show some (jB ⟨turn, base, recs, false⟩) = some (jB ⟨turn, base, recs ++ rs.take 0, false⟩) by rw [List.take_zero, List.append_nil]), rfl⟩, ?_⟩
          rintro _ ⟨t1, h1⟩ ⟨i, hi, rfl, e0, e47, e48, e49, b1000000000, b1000000001⟩
          have e0 : t1 0 = .ptr 1000000000 0 := e0
          have e47 : t1 47 = bss .fz rs := e47
          have e48 : t1 48 = .int .i64 ((rs.map by8).length : Nat) := e48
          have e49 : t1 49 = .int .i64 (i : Int) := e49
          have b1000000000 : h1 1000000000 = some (jB ⟨turn, base, recs ++ rs.take i, false⟩) := b1000000000
          have b1000000001 : h1 1000000001 = some (dkB d' nb) := b1000000001
          rw [← updL_has t1 [(0, .ptr 1000000000 0), (47, bss .fz rs), (48, .int .i64 ((rs.map by8).length : Nat)), (49, .int .i64 (i : Int))] ⟨e0, e47, e48, e49, trivial⟩, ← updL_has h1 [(1000000000, some (jB ⟨turn, base, recs ++ rs.take i, false⟩)), (1000000001, some (dkB d' nb))] ⟨b1000000000, b1000000001, trivial⟩]
          constructor
          · intro hb
            have hi' : i < rs.length := by
              have : (i : Int) < ((rs.map by8).length : Nat) := by simpa using hb
              simp at this; omega
            have w : IntKind.i64.wrap ((i : Int) + 1) = ((i + 1 : Nat) : Int) := by rw [wrap_of] <;> omega
            have hlt : rs.length - (i + 1) < rs.length - i := by omega
            obtain ⟨r, hx⟩ : ∃ x, rs[i]? = some x := ⟨_, List.getElem?_eq_getElem hi'⟩
            have hm := List.mem_of_getElem? hx
            refine ⟨_, Int.natCast_nonneg i, map_of hx, ?_⟩
            have hrl := hrs r hm
            have hb1 : (r.map (AV.int .u8)).length * 1 ≤ 140737488355328 := by rw [List.length_map]; omega
            have htl : (rs.take i).length ≤ i := List.length_take_le ..
            have hml : recs.length ≤ 1000000000000 := hml
            refine ⟨hb1, ?_⟩
            refine ⟨(show (((recs ++ rs.take i).map by8).length + 1) * 24 ≤ 140737488355328 by rw [List.length_map, List.length_append]; omega), ?_⟩
            exact ⟨_, hlt, i + 1, (by omega), rfl, rfl, rfl, rfl, congrArg (AV.int .i64) w, jB_rec (base := base) (X := recs ++ rs.take (i + 1)) (bss_snoc hx).symm, rfl⟩
          · intro hb
            have hi' : i = rs.length := by
              have : ¬ (i : Int) < ((rs.map by8).length : Nat) := by simpa using hb
              simp at this; omega
            subst hi'
            have hK' : K .nilifc [jB ⟨turn, base, recs ++ rs.take rs.length, false⟩, dkB d' nb] := by rw [hall]; exact hKa rfl
            exact ⟨[], 2, rfl, hK'⟩
      · have hKe := hKe h0
        clear hKa
        by_cases h12 : e = 12
        · rw [failJ, if_pos h12] at hmm
          subst hmm
          cases hq : frames (rs.take rs.length) with
          | nil =>
            rw [hee] at hq
            rw [hq] at hp' hd1'
            refine ⟨[1000000000, 1000000001], [900000000], [], 900000000, rfl, _, rfl, [.ptr 1000000000 0, .int .i64 (IntKind.i64.wrap (2 + turn)), by8 []], ⟨.inl rfl, .inl rfl, .inr ⟨_, _, rfl, rfl⟩, trivial⟩, _, d, nb, _, [], e, _, d', _, hd, hnb, (by decide), hd1', hp', erA_n h0, rfl, rfl, rfl, ?_⟩
            refine ⟨fun _ => ?_, fun h => Bool.noConfusion (show true = false from h)⟩
            exact ⟨[], 2, rfl, hKe⟩
          | cons a l =>
            rw [hee] at hq
            rw [hq] at hp' hd1' hfs
            refine ⟨[1000000000, 1000000001], [900000000], [], 900000000, rfl, _, rfl, [.ptr 1000000000 0, .int .i64 (IntKind.i64.wrap (2 + turn)), by8 (a :: l)], ⟨.inl rfl, .inl rfl, .inl rfl, trivial⟩, _, d, nb, _, a :: l, e, _, d', _, hd, hnb, (by omega), hd1', hp', erA_n h0, rfl, rfl, rfl, ?_⟩
            refine ⟨fun _ => ?_, fun h => Bool.noConfusion (show true = false from h)⟩
            exact ⟨[], 2, rfl, hKe⟩
        · rw [failJ, if_neg h12] at hmm
          subst hmm
          cases hq : frames (rs.take rs.length) with
          | nil =>
            rw [hee] at hq
            rw [hq] at hp' hd1'
            refine ⟨[1000000000, 1000000001], [900000000], [], 900000000, rfl, _, rfl, [.ptr 1000000000 0, .int .i64 (IntKind.i64.wrap (2 + turn)), by8 []], ⟨.inl rfl, .inl rfl, .inr ⟨_, _, rfl, rfl⟩, trivial⟩, _, d, nb, _, [], e, _, d', _, hd, hnb, (by decide), hd1', hp', erA_n h0, rfl, rfl, rfl, ?_⟩
            refine ⟨fun _ => ?_, fun h => Bool.noConfusion (show true = false from h)⟩
            exact ⟨[], 2, rfl, hKe⟩
          | cons a l =>
            rw [hee] at hq
            rw [hq] at hp' hd1' hfs
            refine ⟨[1000000000, 1000000001], [900000000], [], 900000000, rfl, _, rfl, [.ptr 1000000000 0, .int .i64 (IntKind.i64.wrap (2 + turn)), by8 (a :: l)], ⟨.inl rfl, .inl rfl, .inl rfl, trivial⟩, _, d, nb, _, a :: l, e, _, d', _, hd, hnb, (by omega), hd1', hp', erA_n h0, rfl, rfl, rfl, ?_⟩
            refine ⟨fun _ => ?_, fun h => Bool.noConfusion (show true = false from h)⟩
            exact ⟨[], 2, rfl, hKe⟩
end Go.Proofs.YtbpcofnhndgoeaaDoor.A
