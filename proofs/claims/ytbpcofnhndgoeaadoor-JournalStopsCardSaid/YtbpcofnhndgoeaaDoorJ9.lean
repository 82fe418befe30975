/- sort.Ints; a disk's names. -/
import Derived.Test.YtbpcofnhndgoeaaDoorJ8
namespace Go.Proofs.YtbpcofnhndgoeaaDoor.A
open Go Q
def pdqC (args : List AV) (K : AV → List AV → Prop) : Prop := (∃ (l : List Int) (q : Int), 1 ≤ l.length ∧ l.length ≤ 3 ∧ args = [intS (.own 0) l, .int .i64 0, .int .i64 (l.length : Int), .int .i64 q] ∧ ∀ l', l'.Perm l → K (.tup []) [intS (.own 0) l', .int .i64 0, .int .i64 (l.length : Int), .int .i64 q]) ∨
  ∃ e q, args = [.sl .nl e [], .int .i64 0, .int .i64 0, .int .i64 q] ∧ K (.tup []) [.sl .nl e [], .int .i64 0, .int .i64 0, .int .i64 q]
def srtC (args : List AV) (K : AV → List AV → Prop) : Prop := (∃ l : List Int, 1 ≤ l.length ∧ l.length ≤ 3 ∧ args = [intS (.own 0) l] ∧ ∀ l', l'.Perm l → K (.tup []) [intS (.own 0) l']) ∨
  ∃ e, args = [.sl .nl e []] ∧ K (.tup []) [.sl .nl e []]
theorem size_int : 1 ≤ tab.size 3 := Nat.le_of_eq (show tab.size 3 = 1 by kernel_rfl).symm
theorem ins_sz : ∀ e F x xs rest K, insC (.sl (.own F) e (x :: xs) :: rest) K → 1 ≤ tab.size e := by
  rintro e F x xs rest K (⟨l, _, _, h, _⟩ | ⟨e', h, _⟩)
  · injection h with h _
    injection h with _ h _
    rw [h]; exact size_int
  · injection h with h _
    injection h with h _ _
    cases h
theorem pdq_sz : ∀ e F x xs rest K, pdqC (.sl (.own F) e (x :: xs) :: rest) K → 1 ≤ tab.size e := by
  rintro e F x xs rest K (⟨l, q, _, _, h, _⟩ | ⟨e', q, h, _⟩)
  · injection h with h _
    injection h with _ h _
    rw [h]; exact size_int
  · injection h with h _
    injection h with h _ _
    cases h
theorem srt_sz : ∀ e F x xs rest K, srtC (.sl (.own F) e (x :: xs) :: rest) K → 1 ≤ tab.size e := by
  rintro e F x xs rest K (⟨l, _, _, h, _⟩ | ⟨e', h, _⟩)
  · injection h with h _
    injection h with _ h _
    rw [h]; exact size_int
  · injection h with h _
    injection h with h _ _
    cases h
noncomputable def JIn : FuncId → Option StSpec
  | 59 => some (inpJ insC)
  | _ => none
theorem JIn_ok : JOk Tryd.prog tab JIn := by
  intro f j h
  unfold JIn at h
  split at h
  · cases h; exact inp_ok ins_ok ins_sz
  · cases h
noncomputable def D3_E (pl : Nat → Plan) : En := ⟨tab, fun _ _ _ _ => False, JIn, 0, pl⟩
theorem D3_C (pl : Nat → Plan) : CallOk Tryd.prog (D3_E pl).T (D3_E pl).R := fun _ _ _ _ h => h.elim
set_option maxRecDepth 200000 in
theorem pdq_ok : FnOkI Tryd.prog tab 57 pdqC := by
  refine fn_okI (E := D3_E pl57) tab_is (D3_C _) JIn_ok Tryd.func57 rfl rfl (by kernel_rfl) ?_
  rintro args K (⟨l, q, hl0, hl, rfl, hK⟩ | ⟨e, q, rfl, hK⟩)
  · refine ⟨rfl, ?_⟩
    refine loopR 1 (roundsR_succ ?_)
    refine ⟨fun _ => ?_, fun h => absurd (show IntKind.i64.wrap ((l.length : Int) - 0) ≤ 12 by rw [wrap_of (by omega) (by omega)]; omega) (of_decide_eq_false h)⟩
    rcases len3 hl with rfl | ⟨a, rfl⟩ | ⟨a, b, rfl⟩ | ⟨a, b, c, rfl⟩
    · simp at hl0
    all_goals
      refine .inl ⟨_, _, _, _, _, rfl, ⟨⟨_, _, rfl⟩, ⟨_, _, rfl⟩, trivial⟩, .inl ⟨_, hl0, hl, rfl, fun l' hp => ⟨_, _, _, rfl, (by rw [List.length_map, hp.length_eq]; rfl), rfl, ?_⟩⟩⟩
      exact hK l' hp
  · refine ⟨rfl, ?_⟩
    refine loopR 1 (roundsR_succ ?_)
    refine ⟨fun _ => ?_, fun h => Bool.noConfusion (show true = false from h)⟩
    refine .inr ⟨_, _, rfl, ⟨⟨_, _, rfl⟩, ⟨_, _, rfl⟩, trivial⟩, .inr ⟨_, rfl, rfl, ?_⟩⟩
    exact hK
def RSo : Contract
  | 58 => lenC
  | _ => fun _ _ _ => False
theorem RSo_ok : CallOk Tryd.prog tab RSo := by
  intro f args bs K h
  unfold RSo at h
  split at h
  · exact ⟨_, h, len_ok⟩
  · exact h.elim
def RSo_E (pl : Nat → Plan) : En := ⟨tab, RSo, fun _ => none, 0, pl⟩
theorem RSo_J (pl : Nat → Plan) : JOk Tryd.prog (RSo_E pl).T (RSo_E pl).J := fun _ _ h => by cases h
noncomputable def JSo : FuncId → Option StSpec
  | 57 => some (inpJ pdqC)
  | _ => none
theorem JSo_ok : JOk Tryd.prog tab JSo := by
  intro f j h
  unfold JSo at h
  split at h
  · cases h; exact inp_ok pdq_ok pdq_sz
  · cases h
noncomputable def Sr_E (pl : Nat → Plan) : En := ⟨tab, RSo, JSo, 0, pl⟩
set_option maxRecDepth 200000 in
theorem slsort_ok : FnOkI Tryd.prog tab 52 srtC := by
  refine fn_okI (E := Sr_E pl52) tab_is RSo_ok JSo_ok Tryd.func52 rfl rfl (by kernel_rfl) ?_
  rintro args K (⟨l, hl0, hl, rfl, hK⟩ | ⟨e, rfl, hK⟩)
  · refine ⟨rfl, ?_⟩
    have hw : IntKind.u64.wrap (((l.map (AV.int .i64)).length : Nat) : Int) = (l.length : Int) := by
      rw [List.length_map]
      simp [IntKind.wrap, IntKind.signed, IntKind.bits]
      omega
    refine ⟨rfl, _, rfl, (by rw [hw]; omega), (by rw [hw]; omega), fun v => ?_⟩
    rcases len3 hl with rfl | ⟨a, rfl⟩ | ⟨a, b, rfl⟩ | ⟨a, b, c, rfl⟩
    · simp at hl0
    all_goals
      refine .inl ⟨_, _, _, _, _, rfl, ⟨⟨_, _, rfl⟩, ⟨_, _, rfl⟩, ⟨_, _, rfl⟩, trivial⟩, .inl ⟨_, v, hl0, hl, rfl, fun l' hp => ⟨_, _, _, rfl, (by rw [List.length_map, hp.length_eq]; rfl), rfl, ?_⟩⟩⟩
      exact hK l' hp
  · refine ⟨rfl, ?_⟩
    refine ⟨rfl, 0, rfl, (by decide), (by decide), fun v => ?_⟩
    refine .inr ⟨_, _, rfl, ⟨⟨_, _, rfl⟩, ⟨_, _, rfl⟩, ⟨_, _, rfl⟩, trivial⟩, .inr ⟨_, v, rfl, rfl, ?_⟩⟩
    exact hK
noncomputable def JSt : FuncId → Option StSpec
  | 52 => some (inpJ srtC)
  | _ => none
theorem JSt_ok : JOk Tryd.prog tab JSt := by
  intro f j h
  unfold JSt at h
  split at h
  · cases h; exact inp_ok slsort_ok srt_sz
  · cases h
noncomputable def D4_E (pl : Nat → Plan) : En := ⟨tab, fun _ _ _ _ => False, JSt, 0, pl⟩
theorem D4_C (pl : Nat → Plan) : CallOk Tryd.prog (D4_E pl).T (D4_E pl).R := fun _ _ _ _ h => h.elim
set_option maxRecDepth 200000 in
theorem ints_ok : FnOkI Tryd.prog tab 38 srtC := by
  refine fn_okI (E := D4_E pl38) tab_is (D4_C _) JSt_ok Tryd.func38 rfl rfl (by kernel_rfl) ?_
  rintro args K (⟨l, hl0, hl, rfl, hK⟩ | ⟨e, rfl, hK⟩)
  · refine ⟨rfl, ?_⟩
    rcases len3 hl with rfl | ⟨a, rfl⟩ | ⟨a, b, rfl⟩ | ⟨a, b, c, rfl⟩
    · simp at hl0
    all_goals
      refine .inl ⟨_, _, _, _, _, rfl, trivial, .inl ⟨_, hl0, hl, rfl, fun l' hp => ⟨_, _, _, rfl, (by rw [List.length_map, hp.length_eq]; rfl), rfl, ?_⟩⟩⟩
      exact hK l' hp
  · refine ⟨rfl, ?_⟩
    refine .inr ⟨_, _, rfl, trivial, .inr ⟨_, rfl, rfl, ?_⟩⟩
    exact hK
noncomputable def JNm : FuncId → Option StSpec
  | 38 => some (inpJ srtC)
  | _ => none
theorem JNm_ok : JOk Tryd.prog tab JNm := by
  intro f j h
  unfold JNm at h
  split at h
  · cases h; exact inp_ok ints_ok srt_sz
  · cases h
noncomputable def D5_E (pl : Nat → Plan) : En := ⟨tab, fun _ _ _ _ => False, JNm, 0, pl⟩
theorem D5_C (pl : Nat → Plan) : CallOk Tryd.prog (D5_E pl).T (D5_E pl).R := fun _ _ _ _ h => h.elim
def namesC (args : List AV) (bs : List Box) (K : AV → List Box → Prop) : Prop := args = [.ptr 1000000000 0] ∧ ∃ d nb, DOk d ∧ 2000000000 ≤ nb ∧ bs = [dkB d nb] ∧ (d.fs = [] → K (.sl .nl 0 []) [dkB d nb]) ∧ (d.fs ≠ [] → ∀ l, l.Perm (d.fs.map (·.1)) → K (intS .fz l) [dkB d nb])
set_option maxRecDepth 200000 in
set_option maxHeartbeats 16000000 in
theorem names_ok : FnOkN Tryd.prog tab 19 namesC := by
  refine fn_okN (E := D5_E pl19) tab_is (D5_C _) JNm_ok Tryd.func19 rfl rfl (by kernel_rfl) ?_
  rintro args bs K ⟨rfl, ⟨fs, room, left, stop⟩, nb, hd, hnb, rfl, hK0, hK⟩
  refine ⟨rfl, [], ?_⟩
  rcases len3 hd.n with h | ⟨⟨n0, b0, s0⟩, h⟩ | ⟨⟨n0, b0, s0⟩, ⟨n1, b1, s1⟩, h⟩ | ⟨⟨n0, b0, s0⟩, ⟨n1, b1, s1⟩, ⟨n2, b2, s2⟩, h⟩
  all_goals
    have h : fs = _ := h
    subst h
  · have hK := hK0 rfl
    intro st clock hl hp0 hc
    obtain rfl := lenE0 hl
    have hfr := (show ∀ e ∈ ([] : List (Nat × AV × AV)), e.1 < clock from fun e he => absurd he List.not_mem_nil)
    skip
    refine loopR 1 (roundsR_succ ?_)
    refine ⟨hfr, Nat.le_refl _, ?_, ?_⟩
    · intro _
      refine ⟨fun h => Bool.noConfusion (show false = true from h), fun _ => ?_⟩
      refine .inr ⟨_, _, rfl, trivial, .inr ⟨_, rfl, rfl, ?_⟩⟩
      refine ⟨[.cls 1000000000 999000000 ⟨70, 73, 5, [], room, left, stop, nb⟩ [] []], ?_⟩
      refine ⟨rfl, _, rfl, trivial, by kernel_rfl, hnb, ?_⟩
      refine ⟨1, rfl, ?_⟩
      exact hK
    · intro e he hn
      exfalso
      exact absurd he List.not_mem_nil
  all_goals have hK := hK (by simp)
  · intro st clock hl hp0 hc
    obtain ⟨st0, rfl⟩ := lenE1 hl
    have hfr := fresh1 (x := (.int .i64 n0, .ptr 999000001 0)) hc
    skip
    refine loopR 2 (roundsR_succ ?_)
    refine ⟨hfr, Nat.le_refl _, ?_, ?_⟩
    · intro ha
      exfalso
      have ha := ha _ (List.Mem.head _)
      exact absurd ha List.not_mem_nil
    · intro e he hn
      rcases List.mem_cons.1 he with rfl | he
      · refine ⟨fun _ => ?_, fun h => Bool.noConfusion (show true = false from h)⟩
        refine ⟨rfl, [], _, rfl, (List.Mem.head _), ?_⟩
        refine ⟨(by decide : 1 * 8 ≤ 140737488355328), ?_⟩
        refine roundsR_succ ?_
        refine ⟨hfr, Nat.le_refl _, ?_, ?_⟩
        · intro _
          refine ⟨fun h => Bool.noConfusion (show false = true from h), fun _ => ?_⟩
          refine .inl ⟨_, _, _, _, _, rfl, trivial, .inl ⟨[n0], (by simp), (by simp), rfl, fun l' hp => ⟨_, _, _, rfl, (by rw [List.length_map, hp.length_eq]; rfl), rfl, ?_⟩⟩⟩
          refine ⟨[.frz 17000, .cls 1000000000 999000000 ⟨70, 73, 5, [(n0, b0, s0)], room, left, stop, nb⟩ [999000001] [.own 999000000]], ?_⟩
          refine ⟨rfl, _, rfl, ⟨rfl, rfl, (fun h => by cases h), trivial⟩, by kernel_rfl, hnb, ?_⟩
          refine ⟨1, rfl, ?_⟩
          exact hK l' (hp.trans (.refl _))
        · intro e he hn
          exfalso
          rcases List.mem_cons.1 he with rfl | he
          · exact hn (List.Mem.head _)
          · exact absurd he List.not_mem_nil
      · exact absurd he List.not_mem_nil
  · intro st clock hl hp0 hc
    obtain ⟨st0, st1, rfl⟩ := lenE2 hl
    have hfr := fresh2 (x := (.int .i64 n0, .ptr 999000001 0)) (y := (.int .i64 n1, .ptr 999000002 0)) hc
    simp only [List.pairwise_cons, List.mem_cons, List.not_mem_nil, or_false, forall_eq] at hp0
    refine loopR 3 (roundsR_succ ?_)
    refine ⟨hfr, Nat.le_refl _, ?_, ?_⟩
    · intro ha
      exfalso
      have ha := ha _ (List.Mem.head _)
      exact absurd ha List.not_mem_nil
    · intro e he hn
      rcases List.mem_cons.1 he with rfl | he
      · refine ⟨fun _ => ?_, fun h => Bool.noConfusion (show true = false from h)⟩
        refine ⟨rfl, [], _, rfl, (List.Mem.head _), ?_⟩
        refine ⟨(by decide : 1 * 8 ≤ 140737488355328), ?_⟩
        refine roundsR_succ ?_
        refine ⟨hfr, Nat.le_refl _, ?_, ?_⟩
        · intro ha
          exfalso
          have ha := ha _ (.tail _ (List.Mem.head _))
          simp only [List.mem_append, List.mem_singleton, List.not_mem_nil, false_or] at ha
          omega
        · intro e he hn
          rcases List.mem_cons.1 he with rfl | he
          · exact absurd (List.Mem.head _) hn
          · rcases List.mem_cons.1 he with rfl | he
            · refine ⟨fun _ => ?_, fun h => Bool.noConfusion (show true = false from h)⟩
              refine ⟨rfl, [st0], _, rfl, (.tail _ (List.Mem.head _)), ?_⟩
              refine ⟨(by decide : (1 + 1) * 8 ≤ 140737488355328), ?_⟩
              refine roundsR_succ ?_
              refine ⟨hfr, Nat.le_refl _, ?_, ?_⟩
              · intro _
                refine ⟨fun h => Bool.noConfusion (show false = true from h), fun _ => ?_⟩
                refine .inl ⟨_, _, _, _, _, rfl, trivial, .inl ⟨[n0, n1], (by simp), (by simp), rfl, fun l' hp => ⟨_, _, _, rfl, (by rw [List.length_map, hp.length_eq]; rfl), rfl, ?_⟩⟩⟩
                refine ⟨[.frz 17000, .cls 1000000000 999000000 ⟨70, 73, 5, [(n0, b0, s0), (n1, b1, s1)], room, left, stop, nb⟩ [999000001, 999000002] [.own 999000000, .own 999000001]], ?_⟩
                refine ⟨rfl, _, rfl, ⟨rfl, rfl, (fun h => by cases h), ⟨rfl, rfl, (fun h => by cases h), trivial⟩⟩, by kernel_rfl, hnb, ?_⟩
                refine ⟨1, rfl, ?_⟩
                exact hK l' (hp.trans (.refl _))
              · intro e he hn
                exfalso
                rcases List.mem_cons.1 he with rfl | he
                · exact hn (List.Mem.head _)
                · rcases List.mem_cons.1 he with rfl | he
                  · exact hn (.tail _ (List.Mem.head _))
                  · exact absurd he List.not_mem_nil
            · exact absurd he List.not_mem_nil
      · rcases List.mem_cons.1 he with rfl | he
        · refine ⟨fun _ => ?_, fun h => Bool.noConfusion (show true = false from h)⟩
          refine ⟨rfl, [], _, rfl, (.tail _ (List.Mem.head _)), ?_⟩
          refine ⟨(by decide : 1 * 8 ≤ 140737488355328), ?_⟩
          refine roundsR_succ ?_
          refine ⟨hfr, Nat.le_refl _, ?_, ?_⟩
          · intro ha
            exfalso
            have ha := ha _ (List.Mem.head _)
            simp only [List.mem_append, List.mem_singleton, List.not_mem_nil, false_or] at ha
            omega
          · intro e he hn
            rcases List.mem_cons.1 he with rfl | he
            · refine ⟨fun _ => ?_, fun h => Bool.noConfusion (show true = false from h)⟩
              refine ⟨rfl, [st1], _, rfl, (List.Mem.head _), ?_⟩
              refine ⟨(by decide : (1 + 1) * 8 ≤ 140737488355328), ?_⟩
              refine roundsR_succ ?_
              refine ⟨hfr, Nat.le_refl _, ?_, ?_⟩
              · intro _
                refine ⟨fun h => Bool.noConfusion (show false = true from h), fun _ => ?_⟩
                refine .inl ⟨_, _, _, _, _, rfl, trivial, .inl ⟨[n1, n0], (by simp), (by simp), rfl, fun l' hp => ⟨_, _, _, rfl, (by rw [List.length_map, hp.length_eq]; rfl), rfl, ?_⟩⟩⟩
                refine ⟨[.frz 17000, .cls 1000000000 999000000 ⟨70, 73, 5, [(n0, b0, s0), (n1, b1, s1)], room, left, stop, nb⟩ [999000001, 999000002] [.own 999000000, .own 999000001]], ?_⟩
                refine ⟨rfl, _, rfl, ⟨rfl, rfl, (fun h => by cases h), ⟨rfl, rfl, (fun h => by cases h), trivial⟩⟩, by kernel_rfl, hnb, ?_⟩
                refine ⟨1, rfl, ?_⟩
                exact hK l' (hp.trans (.swap ..))
              · intro e he hn
                exfalso
                rcases List.mem_cons.1 he with rfl | he
                · exact hn (.tail _ (List.Mem.head _))
                · rcases List.mem_cons.1 he with rfl | he
                  · exact hn (List.Mem.head _)
                  · exact absurd he List.not_mem_nil
            · rcases List.mem_cons.1 he with rfl | he
              · exact absurd (List.Mem.head _) hn
              · exact absurd he List.not_mem_nil
        · exact absurd he List.not_mem_nil
  · intro st clock hl hp0 hc
    obtain ⟨st0, st1, st2, rfl⟩ := lenE3 hl
    have hfr := fresh3 (x := (.int .i64 n0, .ptr 999000001 0)) (y := (.int .i64 n1, .ptr 999000002 0)) (z := (.int .i64 n2, .ptr 999000003 0)) hc
    simp only [List.pairwise_cons, List.mem_cons, List.not_mem_nil, or_false, forall_eq_or_imp, forall_eq] at hp0
    refine loopR 4 (roundsR_succ ?_)
    refine ⟨hfr, Nat.le_refl _, ?_, ?_⟩
    · intro ha
      exfalso
      have ha := ha _ (List.Mem.head _)
      exact absurd ha List.not_mem_nil
    · intro e he hn
      rcases List.mem_cons.1 he with rfl | he
      · refine ⟨fun _ => ?_, fun h => Bool.noConfusion (show true = false from h)⟩
        refine ⟨rfl, [], _, rfl, (List.Mem.head _), ?_⟩
        refine ⟨(by decide : 1 * 8 ≤ 140737488355328), ?_⟩
        refine roundsR_succ ?_
        refine ⟨hfr, Nat.le_refl _, ?_, ?_⟩
        · intro ha
          exfalso
          have ha := ha _ (.tail _ (List.Mem.head _))
          simp only [List.mem_append, List.mem_singleton, List.not_mem_nil, false_or] at ha
          omega
        · intro e he hn
          rcases List.mem_cons.1 he with rfl | he
          · exact absurd (List.Mem.head _) hn
          · rcases List.mem_cons.1 he with rfl | he
            · refine ⟨fun _ => ?_, fun h => Bool.noConfusion (show true = false from h)⟩
              refine ⟨rfl, [st0], _, rfl, (.tail _ (List.Mem.head _)), ?_⟩
              refine ⟨(by decide : (1 + 1) * 8 ≤ 140737488355328), ?_⟩
              refine roundsR_succ ?_
              refine ⟨hfr, Nat.le_refl _, ?_, ?_⟩
              · intro ha
                exfalso
                have ha := ha _ (.tail _ (.tail _ (List.Mem.head _)))
                simp only [List.mem_append, List.mem_singleton, List.not_mem_nil, false_or] at ha
                omega
              · intro e he hn
                rcases List.mem_cons.1 he with rfl | he
                · exact absurd (List.Mem.head _) hn
                · rcases List.mem_cons.1 he with rfl | he
                  · exact absurd (.tail _ (List.Mem.head _)) hn
                  · rcases List.mem_cons.1 he with rfl | he
                    · refine ⟨fun _ => ?_, fun h => Bool.noConfusion (show true = false from h)⟩
                      refine ⟨rfl, [st0, st1], _, rfl, (.tail _ (.tail _ (List.Mem.head _))), ?_⟩
                      refine ⟨(by decide : (2 + 1) * 8 ≤ 140737488355328), ?_⟩
                      refine roundsR_succ ?_
                      refine ⟨hfr, Nat.le_refl _, ?_, ?_⟩
                      · intro _
                        refine ⟨fun h => Bool.noConfusion (show false = true from h), fun _ => ?_⟩
                        refine .inl ⟨_, _, _, _, _, rfl, trivial, .inl ⟨[n0, n1, n2], (by simp), (by simp), rfl, fun l' hp => ⟨_, _, _, rfl, (by rw [List.length_map, hp.length_eq]; rfl), rfl, ?_⟩⟩⟩
                        refine ⟨[.frz 17000, .cls 1000000000 999000000 ⟨70, 73, 5, [(n0, b0, s0), (n1, b1, s1), (n2, b2, s2)], room, left, stop, nb⟩ [999000001, 999000002, 999000003] [.own 999000000, .own 999000001, .own 999000002]], ?_⟩
                        refine ⟨rfl, _, rfl, ⟨rfl, rfl, (fun h => by cases h), ⟨rfl, rfl, (fun h => by cases h), ⟨rfl, rfl, (fun h => by cases h), trivial⟩⟩⟩, by kernel_rfl, hnb, ?_⟩
                        refine ⟨1, rfl, ?_⟩
                        exact hK l' (hp.trans (perm3.1))
                      · intro e he hn
                        exfalso
                        rcases List.mem_cons.1 he with rfl | he
                        · exact hn (List.Mem.head _)
                        · rcases List.mem_cons.1 he with rfl | he
                          · exact hn (.tail _ (List.Mem.head _))
                          · rcases List.mem_cons.1 he with rfl | he
                            · exact hn (.tail _ (.tail _ (List.Mem.head _)))
                            · exact absurd he List.not_mem_nil
                    · exact absurd he List.not_mem_nil
            · rcases List.mem_cons.1 he with rfl | he
              · refine ⟨fun _ => ?_, fun h => Bool.noConfusion (show true = false from h)⟩
                refine ⟨rfl, [st0], _, rfl, (.tail _ (.tail _ (List.Mem.head _))), ?_⟩
                refine ⟨(by decide : (1 + 1) * 8 ≤ 140737488355328), ?_⟩
                refine roundsR_succ ?_
                refine ⟨hfr, Nat.le_refl _, ?_, ?_⟩
                · intro ha
                  exfalso
                  have ha := ha _ (.tail _ (List.Mem.head _))
                  simp only [List.mem_append, List.mem_singleton, List.not_mem_nil, false_or] at ha
                  omega
                · intro e he hn
                  rcases List.mem_cons.1 he with rfl | he
                  · exact absurd (List.Mem.head _) hn
                  · rcases List.mem_cons.1 he with rfl | he
                    · refine ⟨fun _ => ?_, fun h => Bool.noConfusion (show true = false from h)⟩
                      refine ⟨rfl, [st0, st2], _, rfl, (.tail _ (List.Mem.head _)), ?_⟩
                      refine ⟨(by decide : (2 + 1) * 8 ≤ 140737488355328), ?_⟩
                      refine roundsR_succ ?_
                      refine ⟨hfr, Nat.le_refl _, ?_, ?_⟩
                      · intro _
                        refine ⟨fun h => Bool.noConfusion (show false = true from h), fun _ => ?_⟩
                        refine .inl ⟨_, _, _, _, _, rfl, trivial, .inl ⟨[n0, n2, n1], (by simp), (by simp), rfl, fun l' hp => ⟨_, _, _, rfl, (by rw [List.length_map, hp.length_eq]; rfl), rfl, ?_⟩⟩⟩
                        refine ⟨[.frz 17000, .cls 1000000000 999000000 ⟨70, 73, 5, [(n0, b0, s0), (n1, b1, s1), (n2, b2, s2)], room, left, stop, nb⟩ [999000001, 999000002, 999000003] [.own 999000000, .own 999000001, .own 999000002]], ?_⟩
                        refine ⟨rfl, _, rfl, ⟨rfl, rfl, (fun h => by cases h), ⟨rfl, rfl, (fun h => by cases h), ⟨rfl, rfl, (fun h => by cases h), trivial⟩⟩⟩, by kernel_rfl, hnb, ?_⟩
                        refine ⟨1, rfl, ?_⟩
                        exact hK l' (hp.trans (perm3.2.1))
                      · intro e he hn
                        exfalso
                        rcases List.mem_cons.1 he with rfl | he
                        · exact hn (List.Mem.head _)
                        · rcases List.mem_cons.1 he with rfl | he
                          · exact hn (.tail _ (.tail _ (List.Mem.head _)))
                          · rcases List.mem_cons.1 he with rfl | he
                            · exact hn (.tail _ (List.Mem.head _))
                            · exact absurd he List.not_mem_nil
                    · rcases List.mem_cons.1 he with rfl | he
                      · exact absurd (.tail _ (List.Mem.head _)) hn
                      · exact absurd he List.not_mem_nil
              · exact absurd he List.not_mem_nil
      · rcases List.mem_cons.1 he with rfl | he
        · refine ⟨fun _ => ?_, fun h => Bool.noConfusion (show true = false from h)⟩
          refine ⟨rfl, [], _, rfl, (.tail _ (List.Mem.head _)), ?_⟩
          refine ⟨(by decide : 1 * 8 ≤ 140737488355328), ?_⟩
          refine roundsR_succ ?_
          refine ⟨hfr, Nat.le_refl _, ?_, ?_⟩
          · intro ha
            exfalso
            have ha := ha _ (List.Mem.head _)
            simp only [List.mem_append, List.mem_singleton, List.not_mem_nil, false_or] at ha
            omega
          · intro e he hn
            rcases List.mem_cons.1 he with rfl | he
            · refine ⟨fun _ => ?_, fun h => Bool.noConfusion (show true = false from h)⟩
              refine ⟨rfl, [st1], _, rfl, (List.Mem.head _), ?_⟩
              refine ⟨(by decide : (1 + 1) * 8 ≤ 140737488355328), ?_⟩
              refine roundsR_succ ?_
              refine ⟨hfr, Nat.le_refl _, ?_, ?_⟩
              · intro ha
                exfalso
                have ha := ha _ (.tail _ (.tail _ (List.Mem.head _)))
                simp only [List.mem_append, List.mem_singleton, List.not_mem_nil, false_or] at ha
                omega
              · intro e he hn
                rcases List.mem_cons.1 he with rfl | he
                · exact absurd (.tail _ (List.Mem.head _)) hn
                · rcases List.mem_cons.1 he with rfl | he
                  · exact absurd (List.Mem.head _) hn
                  · rcases List.mem_cons.1 he with rfl | he
                    · refine ⟨fun _ => ?_, fun h => Bool.noConfusion (show true = false from h)⟩
                      refine ⟨rfl, [st1, st0], _, rfl, (.tail _ (.tail _ (List.Mem.head _))), ?_⟩
                      refine ⟨(by decide : (2 + 1) * 8 ≤ 140737488355328), ?_⟩
                      refine roundsR_succ ?_
                      refine ⟨hfr, Nat.le_refl _, ?_, ?_⟩
                      · intro _
                        refine ⟨fun h => Bool.noConfusion (show false = true from h), fun _ => ?_⟩
                        refine .inl ⟨_, _, _, _, _, rfl, trivial, .inl ⟨[n1, n0, n2], (by simp), (by simp), rfl, fun l' hp => ⟨_, _, _, rfl, (by rw [List.length_map, hp.length_eq]; rfl), rfl, ?_⟩⟩⟩
                        refine ⟨[.frz 17000, .cls 1000000000 999000000 ⟨70, 73, 5, [(n0, b0, s0), (n1, b1, s1), (n2, b2, s2)], room, left, stop, nb⟩ [999000001, 999000002, 999000003] [.own 999000000, .own 999000001, .own 999000002]], ?_⟩
                        refine ⟨rfl, _, rfl, ⟨rfl, rfl, (fun h => by cases h), ⟨rfl, rfl, (fun h => by cases h), ⟨rfl, rfl, (fun h => by cases h), trivial⟩⟩⟩, by kernel_rfl, hnb, ?_⟩
                        refine ⟨1, rfl, ?_⟩
                        exact hK l' (hp.trans (perm3.2.2.1))
                      · intro e he hn
                        exfalso
                        rcases List.mem_cons.1 he with rfl | he
                        · exact hn (.tail _ (List.Mem.head _))
                        · rcases List.mem_cons.1 he with rfl | he
                          · exact hn (List.Mem.head _)
                          · rcases List.mem_cons.1 he with rfl | he
                            · exact hn (.tail _ (.tail _ (List.Mem.head _)))
                            · exact absurd he List.not_mem_nil
                    · exact absurd he List.not_mem_nil
            · rcases List.mem_cons.1 he with rfl | he
              · exact absurd (List.Mem.head _) hn
              · rcases List.mem_cons.1 he with rfl | he
                · refine ⟨fun _ => ?_, fun h => Bool.noConfusion (show true = false from h)⟩
                  refine ⟨rfl, [st1], _, rfl, (.tail _ (.tail _ (List.Mem.head _))), ?_⟩
                  refine ⟨(by decide : (1 + 1) * 8 ≤ 140737488355328), ?_⟩
                  refine roundsR_succ ?_
                  refine ⟨hfr, Nat.le_refl _, ?_, ?_⟩
                  · intro ha
                    exfalso
                    have ha := ha _ (List.Mem.head _)
                    simp only [List.mem_append, List.mem_singleton, List.not_mem_nil, false_or] at ha
                    omega
                  · intro e he hn
                    rcases List.mem_cons.1 he with rfl | he
                    · refine ⟨fun _ => ?_, fun h => Bool.noConfusion (show true = false from h)⟩
                      refine ⟨rfl, [st1, st2], _, rfl, (List.Mem.head _), ?_⟩
                      refine ⟨(by decide : (2 + 1) * 8 ≤ 140737488355328), ?_⟩
                      refine roundsR_succ ?_
                      refine ⟨hfr, Nat.le_refl _, ?_, ?_⟩
                      · intro _
                        refine ⟨fun h => Bool.noConfusion (show false = true from h), fun _ => ?_⟩
                        refine .inl ⟨_, _, _, _, _, rfl, trivial, .inl ⟨[n1, n2, n0], (by simp), (by simp), rfl, fun l' hp => ⟨_, _, _, rfl, (by rw [List.length_map, hp.length_eq]; rfl), rfl, ?_⟩⟩⟩
                        refine ⟨[.frz 17000, .cls 1000000000 999000000 ⟨70, 73, 5, [(n0, b0, s0), (n1, b1, s1), (n2, b2, s2)], room, left, stop, nb⟩ [999000001, 999000002, 999000003] [.own 999000000, .own 999000001, .own 999000002]], ?_⟩
                        refine ⟨rfl, _, rfl, ⟨rfl, rfl, (fun h => by cases h), ⟨rfl, rfl, (fun h => by cases h), ⟨rfl, rfl, (fun h => by cases h), trivial⟩⟩⟩, by kernel_rfl, hnb, ?_⟩
                        refine ⟨1, rfl, ?_⟩
                        exact hK l' (hp.trans (perm3.2.2.2.1))
                      · intro e he hn
                        exfalso
                        rcases List.mem_cons.1 he with rfl | he
                        · exact hn (.tail _ (.tail _ (List.Mem.head _)))
                        · rcases List.mem_cons.1 he with rfl | he
                          · exact hn (List.Mem.head _)
                          · rcases List.mem_cons.1 he with rfl | he
                            · exact hn (.tail _ (List.Mem.head _))
                            · exact absurd he List.not_mem_nil
                    · rcases List.mem_cons.1 he with rfl | he
                      · exact absurd (List.Mem.head _) hn
                      · rcases List.mem_cons.1 he with rfl | he
                        · exact absurd (.tail _ (List.Mem.head _)) hn
                        · exact absurd he List.not_mem_nil
                · exact absurd he List.not_mem_nil
        · rcases List.mem_cons.1 he with rfl | he
          · refine ⟨fun _ => ?_, fun h => Bool.noConfusion (show true = false from h)⟩
            refine ⟨rfl, [], _, rfl, (.tail _ (.tail _ (List.Mem.head _))), ?_⟩
            refine ⟨(by decide : 1 * 8 ≤ 140737488355328), ?_⟩
            refine roundsR_succ ?_
            refine ⟨hfr, Nat.le_refl _, ?_, ?_⟩
            · intro ha
              exfalso
              have ha := ha _ (List.Mem.head _)
              simp only [List.mem_append, List.mem_singleton, List.not_mem_nil, false_or] at ha
              omega
            · intro e he hn
              rcases List.mem_cons.1 he with rfl | he
              · refine ⟨fun _ => ?_, fun h => Bool.noConfusion (show true = false from h)⟩
                refine ⟨rfl, [st2], _, rfl, (List.Mem.head _), ?_⟩
                refine ⟨(by decide : (1 + 1) * 8 ≤ 140737488355328), ?_⟩
                refine roundsR_succ ?_
                refine ⟨hfr, Nat.le_refl _, ?_, ?_⟩
                · intro ha
                  exfalso
                  have ha := ha _ (.tail _ (List.Mem.head _))
                  simp only [List.mem_append, List.mem_singleton, List.not_mem_nil, false_or] at ha
                  omega
                · intro e he hn
                  rcases List.mem_cons.1 he with rfl | he
                  · exact absurd (.tail _ (List.Mem.head _)) hn
                  · rcases List.mem_cons.1 he with rfl | he
                    · refine ⟨fun _ => ?_, fun h => Bool.noConfusion (show true = false from h)⟩
                      refine ⟨rfl, [st2, st0], _, rfl, (.tail _ (List.Mem.head _)), ?_⟩
                      refine ⟨(by decide : (2 + 1) * 8 ≤ 140737488355328), ?_⟩
                      refine roundsR_succ ?_
                      refine ⟨hfr, Nat.le_refl _, ?_, ?_⟩
                      · intro _
                        refine ⟨fun h => Bool.noConfusion (show false = true from h), fun _ => ?_⟩
                        refine .inl ⟨_, _, _, _, _, rfl, trivial, .inl ⟨[n2, n0, n1], (by simp), (by simp), rfl, fun l' hp => ⟨_, _, _, rfl, (by rw [List.length_map, hp.length_eq]; rfl), rfl, ?_⟩⟩⟩
                        refine ⟨[.frz 17000, .cls 1000000000 999000000 ⟨70, 73, 5, [(n0, b0, s0), (n1, b1, s1), (n2, b2, s2)], room, left, stop, nb⟩ [999000001, 999000002, 999000003] [.own 999000000, .own 999000001, .own 999000002]], ?_⟩
                        refine ⟨rfl, _, rfl, ⟨rfl, rfl, (fun h => by cases h), ⟨rfl, rfl, (fun h => by cases h), ⟨rfl, rfl, (fun h => by cases h), trivial⟩⟩⟩, by kernel_rfl, hnb, ?_⟩
                        refine ⟨1, rfl, ?_⟩
                        exact hK l' (hp.trans (perm3.2.2.2.2.1))
                      · intro e he hn
                        exfalso
                        rcases List.mem_cons.1 he with rfl | he
                        · exact hn (.tail _ (List.Mem.head _))
                        · rcases List.mem_cons.1 he with rfl | he
                          · exact hn (.tail _ (.tail _ (List.Mem.head _)))
                          · rcases List.mem_cons.1 he with rfl | he
                            · exact hn (List.Mem.head _)
                            · exact absurd he List.not_mem_nil
                    · rcases List.mem_cons.1 he with rfl | he
                      · exact absurd (List.Mem.head _) hn
                      · exact absurd he List.not_mem_nil
              · rcases List.mem_cons.1 he with rfl | he
                · refine ⟨fun _ => ?_, fun h => Bool.noConfusion (show true = false from h)⟩
                  refine ⟨rfl, [st2], _, rfl, (.tail _ (List.Mem.head _)), ?_⟩
                  refine ⟨(by decide : (1 + 1) * 8 ≤ 140737488355328), ?_⟩
                  refine roundsR_succ ?_
                  refine ⟨hfr, Nat.le_refl _, ?_, ?_⟩
                  · intro ha
                    exfalso
                    have ha := ha _ (List.Mem.head _)
                    simp only [List.mem_append, List.mem_singleton, List.not_mem_nil, false_or] at ha
                    omega
                  · intro e he hn
                    rcases List.mem_cons.1 he with rfl | he
                    · refine ⟨fun _ => ?_, fun h => Bool.noConfusion (show true = false from h)⟩
                      refine ⟨rfl, [st2, st1], _, rfl, (List.Mem.head _), ?_⟩
                      refine ⟨(by decide : (2 + 1) * 8 ≤ 140737488355328), ?_⟩
                      refine roundsR_succ ?_
                      refine ⟨hfr, Nat.le_refl _, ?_, ?_⟩
                      · intro _
                        refine ⟨fun h => Bool.noConfusion (show false = true from h), fun _ => ?_⟩
                        refine .inl ⟨_, _, _, _, _, rfl, trivial, .inl ⟨[n2, n1, n0], (by simp), (by simp), rfl, fun l' hp => ⟨_, _, _, rfl, (by rw [List.length_map, hp.length_eq]; rfl), rfl, ?_⟩⟩⟩
                        refine ⟨[.frz 17000, .cls 1000000000 999000000 ⟨70, 73, 5, [(n0, b0, s0), (n1, b1, s1), (n2, b2, s2)], room, left, stop, nb⟩ [999000001, 999000002, 999000003] [.own 999000000, .own 999000001, .own 999000002]], ?_⟩
                        refine ⟨rfl, _, rfl, ⟨rfl, rfl, (fun h => by cases h), ⟨rfl, rfl, (fun h => by cases h), ⟨rfl, rfl, (fun h => by cases h), trivial⟩⟩⟩, by kernel_rfl, hnb, ?_⟩
                        refine ⟨1, rfl, ?_⟩
                        exact hK l' (hp.trans (perm3.2.2.2.2.2))
                      · intro e he hn
                        exfalso
                        rcases List.mem_cons.1 he with rfl | he
                        · exact hn (.tail _ (.tail _ (List.Mem.head _)))
                        · rcases List.mem_cons.1 he with rfl | he
                          · exact hn (.tail _ (List.Mem.head _))
                          · rcases List.mem_cons.1 he with rfl | he
                            · exact hn (List.Mem.head _)
                            · exact absurd he List.not_mem_nil
                    · rcases List.mem_cons.1 he with rfl | he
                      · exact absurd (.tail _ (List.Mem.head _)) hn
                      · rcases List.mem_cons.1 he with rfl | he
                        · exact absurd (List.Mem.head _) hn
                        · exact absurd he List.not_mem_nil
                · rcases List.mem_cons.1 he with rfl | he
                  · exact absurd (List.Mem.head _) hn
                  · exact absurd he List.not_mem_nil
          · exact absurd he List.not_mem_nil
end Go.Proofs.YtbpcofnhndgoeaaDoor.A
