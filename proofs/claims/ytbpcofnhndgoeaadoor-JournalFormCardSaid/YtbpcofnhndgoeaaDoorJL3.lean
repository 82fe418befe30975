/- JournalForm, walked. -/
import Derived.Test.YtbpcofnhndgoeaaDoorJL0
import Derived.Test.YtbpcofnhndgoeaaDoorGD
namespace Go.Proofs.YtbpcofnhndgoeaaDoor.A
open Go Q
def RFo : Contract
  | 21 => awake6C
  | 17 => numberC
  | 23 => allC0
  | 22 => makeC
  | 24 => oneC
  | 26 => getC1
  | _ => fun _ _ _ => False
theorem RFo_ok : CallOk Tryd.prog tab RFo := by
  intro f args bs K h
  unfold RFo at h
  split at h
  · exact ⟨_, h, awake6_ok⟩
  · exact ⟨_, h, number_ok⟩
  · exact ⟨_, h, all_ok⟩
  · exact ⟨_, h, make_ok⟩
  · exact ⟨_, h, one_ok⟩
  · exact ⟨_, h, get_ok1⟩
  · exact h.elim
def RFo_E (pl : Nat → Plan) : En := ⟨tab, RFo, fun _ => none, 0, pl⟩
theorem RFo_J (pl : Nat → Plan) : JOk Tryd.prog (RFo_E pl).T (RFo_E pl).J := fun _ _ h => by cases h
noncomputable def Fo_E (pl : Nat → Plan) : En := ⟨tab, RFo, JLw, 0, pl⟩
def formL (args : List AV) (bs : List Box) (K : Kon) : Prop := bs = [] ∧ ∃ b turn rest extra, args = [by8 b, .int .i64 turn, by8 rest, .bool extra] ∧ byteL b ∧ i64 turn ∧ byteL rest ∧ K (.bool true) []
theorem headD_of (x : List Int) (s r l : Int) (q : Bool) : headD ⟨[(0, x, s)], r, l, q⟩ = match oneB x with
    | none => none
    | some (y, n) => if n = x.length then match getB y with
        | none => none
        | some (t, rest) => if t < 1 then none else some (t, rest)
      else none := by
  have e : readD ⟨[(0, x, s)], r, l, q⟩ 0 = (x, true) := by simp [readD, fget]
  unfold headD
  rw [e]
  rfl
theorem openD_no {d : Dk} (h : headD d = none) : openD d = none := by unfold openD; rw [h]
theorem openD_one {x left : List Int} {t s r l : Int} {q : Bool} (ht : 1 ≤ t) (ht' : t < 9223372036854775808) (h : headD ⟨[(0, x, s)], r, l, q⟩ = some (t, left)) : ∃ d', openD ⟨[(0, x, s)], r, l, q⟩ = some (⟨t, left, [], false⟩, d') := by
  have hf : fileN t ≠ 0 := by
    unfold fileN IntKind.wrap
    simp only [IntKind.signed, IntKind.bits]
    intro hq
    simp at hq
    omega
  have hr : readD (sweepD ⟨[(0, x, s)], r, l, q⟩ (fileN t)) (fileN t) = ([], false) := by
    unfold readD
    have : fget (sweepD ⟨[(0, x, s)], r, l, q⟩ (fileN t)).fs (fileN t) = fget [(0, x, s)] (fileN t) := by
      show fget (keepFs _ _) _ = _
      rw [fget_keep, if_pos (.inr rfl)]
    rw [this]
    simp [fget, hf]
  unfold openD
  rw [h]
  simp only [hr]
  exact ⟨_, rfl⟩
set_option maxRecDepth 200000 in
set_option maxHeartbeats 16000000 in
theorem form_ok : FnOk Tryd.prog tab 6 formL := by
  refine fn_ok (E := Fo_E pl6) tab_is RFo_ok JLw_ok Tryd.func6 rfl rfl (by kernel_rfl) ?_
  rintro args bs K ⟨rfl, b0, turn, rest0, extra, rfl, hbb0, ht, hrb0, hK⟩
  refine ⟨rfl, ?_⟩
  obtain ⟨hb, hbe, hb1, hb2, hb3⟩ := min500 b0
  obtain ⟨hc, hce, hc1, hc2, hc3⟩ := min500 rest0
  rw [hbe] at hb1 hb2
  rw [hce] at hc1 hc2
  obtain ⟨b, hbl⟩ : ∃ a, a = b0.take (if (500 : Int) < (((b0.map (AV.int .u8)).length : Nat) : Int) then (500 : Int) else (((b0.map (AV.int .u8)).length : Nat) : Int)).toNat := ⟨_, rfl⟩
  obtain ⟨c, hcl⟩ : ∃ a, a = rest0.take (if (500 : Int) < (((rest0.map (AV.int .u8)).length : Nat) : Int) then (500 : Int) else (((rest0.map (AV.int .u8)).length : Nat) : Int)).toNat := ⟨_, rfl⟩
  have hbn : b.length ≤ 500 := by rw [hbl, List.length_take]; omega
  have hcn : c.length ≤ 500 := by rw [hcl, List.length_take]; omega
  have hbb : byteL b := by rw [hbl]; exact byteL_take hbb0 _
  have hcb : byteL c := by rw [hcl]; exact byteL_take hrb0 _
  have rest2 : ∀ x, byteL x → x.length ≤ 600 → ∀ t h, wpA (Fo_E pl6) (rst 7 (bodyOf Tryd.f6)) (bodyA tab Tryd.f6 [] K) ⟨updL t [(9, .ptr 500 0), (10, by8 x)], updL h [(500, some (dkB ⟨[(0, x, 0)], 262144, -1, false⟩ 2000000000))]⟩ := by
    intro x hxb hxl t h
    have hg2 : DG ⟨[(0, x, 0)], 262144, -1, false⟩ := by
      have hA : appendD (newD 262144) 0 x = (0, ⟨[(0, x, 0)], 262144, -1, false⟩) := app0 (r := 262144) (by omega)
      have := (JOK.new 262144).dg.append (k := 0) hxb (by rw [hA]; simp)
      rw [hA] at this
      exact this
    cases ho : oneB x with
    | none =>
      refine ⟨rfl, x, none, ho, rfl, hxb, (by omega), ?_⟩
      refine ⟨[500], [], [], 0, rfl, _, rfl, ⟨[(0, x, 0)], 262144, -1, false⟩, 2000000000, none, hg2, rfl, rfl, Nat.le_refl _, openD_no (by rw [headD_of]; rw [ho]), rfl, rfl, fun _ => ⟨rfl, ?_⟩, fun _ _ h => (by cases h)⟩
      refine ⟨fun _ => ?_, fun h => Bool.noConfusion (show true = false from h)⟩
      refine ⟨fun _ => ?_, fun h => Bool.noConfusion (show true = false from h)⟩
      refine ⟨fun _ => ?_, fun h => Bool.noConfusion (show true = false from h)⟩
      refine ⟨rfl, .inr ⟨11, rfl, ?_⟩⟩
      exact hK
    | some q =>
      obtain ⟨y, n⟩ := q
      obtain ⟨hn1, hn2, hn3, hn4⟩ := oneB_len ho
      have hyb : byteL y := by rw [hn4]; exact fun c hc => hxb c (List.mem_of_mem_take (List.mem_of_mem_drop hc))
      refine ⟨rfl, x, some (y, n), ho, rfl, hxb, (by omega), ?_⟩
      have hlm : (((x.map (AV.int .u8)).length : Nat) : Int) = x.length := by rw [List.length_map]
      by_cases hn : n = x.length
      · cases hg : getB y with
        | none =>
          refine ⟨[500], [], [], 0, rfl, _, rfl, ⟨[(0, x, 0)], 262144, -1, false⟩, 2000000000, none, hg2, rfl, rfl, Nat.le_refl _, openD_no (by rw [headD_of]; simp only [ho, hg, hn, if_true]), rfl, rfl, fun _ => ⟨rfl, ?_⟩, fun _ _ h => (by cases h)⟩
          refine ⟨fun h => Bool.noConfusion (show false = true from h), fun _ => ?_⟩
          refine ⟨fun h => absurd (bne_iff_ne.1 h) (by rw [hlm]; omega), fun _ => ?_⟩
          refine ⟨rfl, y, none, hg, rfl, hyb, (by omega), ?_⟩
          refine ⟨fun _ => ?_, fun h => Bool.noConfusion (show true = false from h)⟩
          refine ⟨fun _ => ?_, fun h => Bool.noConfusion (show true = false from h)⟩
          refine ⟨fun _ => ?_, fun h => Bool.noConfusion (show true = false from h)⟩
          refine ⟨rfl, .inr ⟨11, rfl, ?_⟩⟩
          exact hK
        | some q =>
          obtain ⟨t1, left⟩ := q
          have hll := getB_len5 hg
          by_cases h1 : t1 < 1
          · refine ⟨[500], [], [], 0, rfl, _, rfl, ⟨[(0, x, 0)], 262144, -1, false⟩, 2000000000, none, hg2, rfl, rfl, Nat.le_refl _, openD_no (by rw [headD_of]; simp only [ho, hg, hn, if_true, h1]), rfl, rfl, fun _ => ⟨rfl, ?_⟩, fun _ _ h => (by cases h)⟩
            refine ⟨fun h => Bool.noConfusion (show false = true from h), fun _ => ?_⟩
            refine ⟨fun h => absurd (bne_iff_ne.1 h) (by rw [hlm]; omega), fun _ => ?_⟩
            refine ⟨rfl, y, some (t1, left), hg, rfl, hyb, (by omega), ?_⟩
            refine ⟨fun h => Bool.noConfusion (show false = true from h), fun _ => ?_⟩
            refine ⟨fun _ => ?_, fun h => absurd (of_decide_eq_false h) (by omega)⟩
            refine ⟨fun _ => ?_, fun h => Bool.noConfusion (show true = false from h)⟩
            refine ⟨rfl, .inr ⟨11, rfl, ?_⟩⟩
            exact hK
          · obtain ⟨_, _, hi2⟩ := put_get hyb hg
            obtain ⟨d', hop⟩ := openD_one (x := x) (s := 0) (r := 262144) (l := -1) (q := false) (t := t1) (left := left) (by omega) hi2 (by rw [headD_of]; simp only [ho, hg, hn, if_true, h1, if_false])
            refine ⟨[500], [], [600], 700000, rfl, _, rfl, ⟨[(0, x, 0)], 262144, -1, false⟩, 2000000000, _, hg2, rfl, rfl, Nat.le_refl _, hop, rfl, rfl, (fun h => by cases h), ?_⟩
            rintro _ _ ⟨⟩
            refine ⟨rfl, ?_⟩
            refine ⟨fun h => Bool.noConfusion (show false = true from h), fun _ => ?_⟩
            refine ⟨fun h => absurd (bne_iff_ne.1 h) (by rw [hlm]; omega), fun _ => ?_⟩
            refine ⟨rfl, y, some (t1, left), hg, rfl, hyb, (by omega), ?_⟩
            refine ⟨fun h => Bool.noConfusion (show false = true from h), fun _ => ?_⟩
            refine ⟨fun h => absurd (of_decide_eq_true h) (by omega), fun _ => ?_⟩
            refine ⟨fun _ => ?_, fun h => Bool.noConfusion (show true = false from h)⟩
            refine ⟨fun _ => ?_, fun h => Bool.noConfusion (show true = false from h)⟩
            refine ⟨left, rfl, ?_⟩
            refine ⟨[600, 500], [700000], [], 700000, rfl, _, rfl, ⟨t1, left, [], false⟩, d', 2000000000, rfl, rfl, (by simp), (fun r hr => absurd hr List.not_mem_nil), rfl, ?_⟩
            refine ⟨[600, 500], [700000], [], 700000, rfl, _, rfl, ⟨t1, left, [], false⟩, d', 2000000000, rfl, rfl, (show left.length ≤ 100000000000000 by omega), rfl, ?_⟩
            refine ⟨left, rfl, ?_⟩
            refine ⟨fun h => absurd (show (!(strOf left == strOf left)) = true from h) (by rw [str_refl]; decide), fun _ => ?_⟩
            refine ⟨[600, 500], [700000], [], 700000, rfl, _, rfl, ⟨t1, left, [], false⟩, d', 2000000000, rfl, rfl, rfl, ?_⟩
            refine ⟨fun h => absurd (show ((t1 : Int) != t1) = true from h) (by simp), fun _ => ?_⟩
            refine ⟨fun h => absurd (bne_iff_ne.1 h) (by simp), fun _ => ?_⟩
            refine loopR 1 (roundsR_succ ?_)
            refine ⟨fun h => Bool.noConfusion (show false = true from h), fun _ => ?_⟩
            refine ⟨_, rfl, ?_⟩
            exact hK
      · refine ⟨[500], [], [], 0, rfl, _, rfl, ⟨[(0, x, 0)], 262144, -1, false⟩, 2000000000, none, hg2, rfl, rfl, Nat.le_refl _, openD_no (by rw [headD_of]; simp only [ho, hn, if_false]), rfl, rfl, fun _ => ⟨rfl, ?_⟩, fun _ _ h => (by cases h)⟩
        refine ⟨fun h => Bool.noConfusion (show false = true from h), fun _ => ?_⟩
        refine ⟨fun _ => ?_, fun h => absurd (show ((n : Int) != (((x.map (AV.int .u8)).length : Nat) : Int)) = false from h) (by rw [hlm]; simp; omega)⟩
        refine ⟨fun _ => ?_, fun h => Bool.noConfusion (show true = false from h)⟩
        refine ⟨rfl, .inr ⟨11, rfl, ?_⟩⟩
        exact hK
  have rest : ∀ t h, wpA (Fo_E pl6) (rst 3 (bodyOf Tryd.f6)) (bodyA tab Tryd.f6 [] K) ⟨updL t [(0, by8 b), (1, .int .i64 turn), (2, by8 c), (3, .bool extra)], h⟩ := by
    intro t h
    refine ⟨[], [], [500], 0, rfl, _, rfl, 262144, 2000000000, Nat.le_refl _, rfl, rfl, rfl, ?_⟩
    have go : ∀ x : List Int, byteL x → x.length ≤ 600 → appendD (newD 262144) 0 x = (0, ⟨[(0, x, 0)], 262144, -1, false⟩) := fun x _ hxl => app0 (r := 262144) (by omega)
    have hok : DOk (newD 262144) := (JOK.new 262144).dg.ok
    cases extra with
    | false =>
      refine ⟨fun h => Bool.noConfusion (show false = true from h), fun _ => ?_⟩
      refine ⟨[500], [], [], 0, rfl, _, rfl, [.ptr 1000000000 0, .int .i64 0, by8 b], ⟨.inl rfl, .inl rfl, .inl rfl, trivial⟩, newD 262144, 2000000000, 0, b, 0, _, _, hok, Nat.le_refl _, (by omega), go b hbb (by omega), (by simp), erA_0, rfl, rfl, rfl, ?_⟩
      refine ⟨fun h => Bool.noConfusion (show false = true from h), fun _ => ?_⟩
      exact wp_told2 (c := rst 7 (bodyOf Tryd.f6)) [(9, .ptr 500 0), (10, by8 b)] [(500, some (dkB ⟨[(0, b, 0)], 262144, -1, false⟩ 2000000000))] ⟨rfl, rfl, trivial⟩ ⟨rfl, trivial⟩ (rest2 b hbb (by omega) _ _)
    | true =>
      refine ⟨fun _ => ?_, fun h => Bool.noConfusion (show true = false from h)⟩
      refine ⟨rfl, [turn], rfl, (by simp), (by simp), (fun n hn => by rw [List.mem_singleton.1 hn]; exact ht), ?_⟩
      have hpl := putI_len turn
      have hal : (allB [turn]).length ≤ 10 := by rw [putI_all]; exact hpl
      have hpb : byteL (allB [turn] ++ c) := fun q hq => by
        rcases List.mem_append.1 hq with hq | hq
        · rw [putI_all] at hq; exact putI_byte ht.1 ht.2 q hq
        · exact hcb q hq
      have hpn : (allB [turn] ++ c).length ≤ 510 := by rw [List.length_append]; omega
      refine ⟨(show (((allB [turn]).map (AV.int .u8)).length + (c.map (AV.int .u8)).length) * 1 ≤ 140737488355328 by rw [List.length_map, List.length_map]; omega), ?_⟩
      refine ⟨rfl, allB [turn] ++ c, (show [AV.sl .fz 5 ((allB [turn]).map (AV.int .u8) ++ c.map (AV.int .u8))] = [AV.sl .fz 5 ((allB [turn] ++ c).map (AV.int .u8))] by rw [List.map_append]), (by omega), fun h => absurd h (by omega), fun _ => ?_⟩
      have hfl : (frameB (allB [turn] ++ c)).length ≤ 516 := by rw [frame_len]; omega
      refine ⟨[500], [], [], 0, rfl, _, rfl, [.ptr 1000000000 0, .int .i64 0, by8 (frameB (allB [turn] ++ c))], ⟨.inl rfl, .inl rfl, .inl rfl, trivial⟩, newD 262144, 2000000000, 0, frameB (allB [turn] ++ c), 0, _, _, hok, Nat.le_refl _, (by omega), go _ (frame_byte hpb) (by omega), (by simp), erA_0, rfl, rfl, rfl, ?_⟩
      refine ⟨fun h => Bool.noConfusion (show false = true from h), fun _ => ?_⟩
      exact wp_told2 (c := rst 7 (bodyOf Tryd.f6)) [(9, .ptr 500 0), (10, by8 (frameB (allB [turn] ++ c)))] [(500, some (dkB ⟨[(0, frameB (allB [turn] ++ c), 0)], 262144, -1, false⟩ 2000000000))] ⟨rfl, rfl, trivial⟩ ⟨rfl, trivial⟩ (rest2 _ (frame_byte hpb) (by omega) _ _)
  refine ⟨rfl, rfl, ?_⟩
  refine ⟨fun h => Bool.noConfusion (show false = true from h), fun _ => ?_⟩
  have e1 : ∀ a b', AV.sl .fz 5 (((b0.map (AV.int .u8)).take (if (500 : Int) < (((b0.map (AV.int .u8)).length : Nat) : Int) then (500 : Int) else (((b0.map (AV.int .u8)).length : Nat) : Int)).toNat).drop 0) = a → b' = by8 b → a = b' := fun a b' ha hb => by rw [← ha, hb, hbl]; exact cut8.symm
  have e2 : ∀ a b', AV.sl .fz 5 (((rest0.map (AV.int .u8)).take (if (500 : Int) < (((rest0.map (AV.int .u8)).length : Nat) : Int) then (500 : Int) else (((rest0.map (AV.int .u8)).length : Nat) : Int)).toNat).drop 0) = a → b' = by8 c → a = b' := fun a b' ha hb => by rw [← ha, hb, hcl]; exact cut8.symm
  repeat' first
    | exact wp_told' (c := rst 3 (bodyOf Tryd.f6)) [(0, by8 b), (1, .int .i64 turn), (2, by8 c), (3, .bool extra)] ⟨e1 _ _ rfl rfl, rfl, e2 _ _ rfl rfl, rfl, trivial⟩ (rest _ _)
    | (refine ⟨hb3, Nat.zero_le _, hb2, ?_⟩)
    | (refine ⟨hc3, Nat.zero_le _, hc2, ?_⟩)
    | (refine And.intro ?_ ?_)
end Go.Proofs.YtbpcofnhndgoeaaDoor.A
