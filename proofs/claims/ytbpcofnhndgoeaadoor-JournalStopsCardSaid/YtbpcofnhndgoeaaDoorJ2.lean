/- Disks: Used. -/
import Derived.Test.YtbpcofnhndgoeaaDoorJ1
namespace Go.Proofs.YtbpcofnhndgoeaaDoor.A
open Go Q
theorem len3 {α : Type} {l : List α} (h : l.length ≤ 3) : l = [] ∨ (∃ a, l = [a]) ∨ (∃ a b, l = [a, b]) ∨ ∃ a b c, l = [a, b, c] := by
  match l, h with
  | [], _ => exact .inl rfl
  | [a], _ => exact .inr (.inl ⟨a, rfl⟩)
  | [a, b], _ => exact .inr (.inr (.inl ⟨a, b, rfl⟩))
  | [a, b, c], _ => exact .inr (.inr (.inr ⟨a, b, c, rfl⟩))
  | a :: b :: c :: d :: l, h => simp at h
theorem lenE0 {α : Type} {l : List α} (h : l.length = 0) : l = [] := List.eq_nil_of_length_eq_zero h
theorem lenE1 {α : Type} {l : List α} (h : l.length = 1) : ∃ a, l = [a] := List.length_eq_one_iff.1 h
theorem lenE2 {α : Type} {l : List α} (h : l.length = 2) : ∃ a b, l = [a, b] := by
  match l, h with
  | [a, b], _ => exact ⟨a, b, rfl⟩
theorem lenE3 {α : Type} {l : List α} (h : l.length = 3) : ∃ a b c, l = [a, b, c] := by
  match l, h with
  | [a, b, c], _ => exact ⟨a, b, c, rfl⟩
theorem fresh1 {n c : Nat} {x : AV × AV} (h : ∀ y ∈ [n], y < c) : ∀ e ∈ List.zipWith Prod.mk [n] [x], e.1 < c := fun e he => by
  rcases List.mem_cons.1 he with rfl | he
  · exact h _ (List.Mem.head _)
  · exact absurd he List.not_mem_nil
theorem fresh2 {n m c : Nat} {x y : AV × AV} (h : ∀ y ∈ [n, m], y < c) : ∀ e ∈ List.zipWith Prod.mk [n, m] [x, y], e.1 < c := fun e he => by
  rcases List.mem_cons.1 he with rfl | he
  · exact h _ (List.Mem.head _)
  · rcases List.mem_cons.1 he with rfl | he
    · exact h _ (.tail _ (List.Mem.head _))
    · exact absurd he List.not_mem_nil
theorem fresh3 {n m k c : Nat} {x y z : AV × AV} (h : ∀ y ∈ [n, m, k], y < c) : ∀ e ∈ List.zipWith Prod.mk [n, m, k] [x, y, z], e.1 < c := fun e he => by
  rcases List.mem_cons.1 he with rfl | he
  · exact h _ (List.Mem.head _)
  · rcases List.mem_cons.1 he with rfl | he
    · exact h _ (.tail _ (List.Mem.head _))
    · rcases List.mem_cons.1 he with rfl | he
      · exact h _ (.tail _ (.tail _ (List.Mem.head _)))
      · exact absurd he List.not_mem_nil
theorem wr1 {a : Nat} (h : a < 9223372036854775808) : IntKind.i64.wrap (0 + (a : Int)) = (a : Int) := by rw [wrap_of (by omega) (by omega)]; omega
theorem wr2 {a b : Nat} (h : a + b < 9223372036854775808) : IntKind.i64.wrap (IntKind.i64.wrap (0 + (a : Int)) + b) = ((a + b : Nat) : Int) := by rw [wr1 (by omega), wrap_of (by omega) (by omega)]; omega
theorem wr3 {a b c : Nat} (h : a + b + c < 9223372036854775808) : IntKind.i64.wrap (IntKind.i64.wrap (IntKind.i64.wrap (0 + (a : Int)) + b) + c) = ((a + b + c : Nat) : Int) := by rw [wr2 (by omega), wrap_of (by omega) (by omega)]; omega
def usedC (args : List AV) (bs : List Box) (K : AV → List Box → Prop) : Prop := args = [.ptr 1000000000 0] ∧ ∃ d nb, DOk d ∧ 2000000000 ≤ nb ∧ bs = [dkB d nb] ∧ K (.int .i64 (d.used : Int)) [dkB d nb]
set_option maxRecDepth 200000 in
set_option maxHeartbeats 6400000 in
theorem used_ok : FnOkN Tryd.prog tab 20 usedC := by
  refine fn_okN (E := D0_E pl20) tab_is (D0_C _) (D0_J _) Tryd.func20 rfl rfl (by kernel_rfl) ?_
  rintro args bs K ⟨rfl, ⟨fs, room, left, stop⟩, nb, hd, hnb, rfl, hK⟩
  refine ⟨rfl, [], ?_⟩
  have hu := hd.us
  have fin : ∀ v : Int, v = ((Dk.used ⟨fs, room, left, stop⟩ : Nat) : Int) → K (.int .i64 v) [dkB ⟨fs, room, left, stop⟩ nb] := fun v e => by rw [e]; exact hK
  rcases len3 hd.n with h | ⟨⟨n0, b0, s0⟩, h⟩ | ⟨⟨n0, b0, s0⟩, ⟨n1, b1, s1⟩, h⟩ | ⟨⟨n0, b0, s0⟩, ⟨n1, b1, s1⟩, ⟨n2, b2, s2⟩, h⟩
  all_goals
    have h : fs = _ := h
    subst h
    have hu := hd.us
    simp only [Dk.used, usedF] at hu fin
  · intro st clock hl hp hc
    obtain rfl := lenE0 hl
    have hfr := (show ∀ e ∈ ([] : List (Nat × AV × AV)), e.1 < clock from fun e he => absurd he List.not_mem_nil)
    skip
    refine loopR 1 (roundsR_succ ?_)
    refine ⟨hfr, Nat.le_refl _, ?_, ?_⟩
    · intro _
      refine ⟨fun h => Bool.noConfusion (show false = true from h), fun _ => ?_⟩
      refine ⟨[.cls 1000000000 999000000 ⟨70, 73, 5, [], room, left, stop, nb⟩ [] []], ?_⟩
      refine ⟨rfl, _, rfl, trivial, by kernel_rfl, hnb, ?_⟩
      refine ⟨1, rfl, ?_⟩
      exact fin _ rfl
    · intro e he hn
      exfalso
      exact absurd he List.not_mem_nil
  · intro st clock hl hp hc
    obtain ⟨st0, rfl⟩ := lenE1 hl
    have hfr := fresh1 (x := (.int .i64 n0, .ptr 999000001 0)) hc
    skip
    refine loopR 2 (roundsR_succ ?_)
    refine ⟨hfr, Nat.le_refl _, ?_, ?_⟩
    · intro ha
      exfalso
      have ha := ha _ (List.Mem.head _)
      exact absurd ha List.not_mem_nil
    · intro e he hn
      rcases List.mem_cons.1 he with rfl | he
      · refine ⟨fun _ => ?_, fun h => Bool.noConfusion (show true = false from h)⟩
        refine ⟨rfl, [], _, rfl, (List.Mem.head _), ?_⟩
        refine roundsR_succ ?_
        refine ⟨hfr, Nat.le_refl _, ?_, ?_⟩
        · intro _
          refine ⟨fun h => Bool.noConfusion (show false = true from h), fun _ => ?_⟩
          refine ⟨[.cls 1000000000 999000000 ⟨70, 73, 5, [(n0, b0, s0)], room, left, stop, nb⟩ [999000001] [.own 999000000]], ?_⟩
          refine ⟨rfl, _, rfl, ⟨rfl, rfl, (fun h => by cases h), trivial⟩, by kernel_rfl, hnb, ?_⟩
          refine ⟨1, rfl, ?_⟩
          refine fin _ ?_
          simp only [List.length_map]
          rw [wr1 (a := b0.length) (by omega)]
          omega
        · intro e he hn
          exfalso
          rcases List.mem_cons.1 he with rfl | he
          · exact hn (List.Mem.head _)
          · exact absurd he List.not_mem_nil
      · exact absurd he List.not_mem_nil
  · intro st clock hl hp hc
    obtain ⟨st0, st1, rfl⟩ := lenE2 hl
    have hfr := fresh2 (x := (.int .i64 n0, .ptr 999000001 0)) (y := (.int .i64 n1, .ptr 999000002 0)) hc
    simp only [List.pairwise_cons, List.mem_cons, List.not_mem_nil, or_false, forall_eq] at hp
    refine loopR 3 (roundsR_succ ?_)
    refine ⟨hfr, Nat.le_refl _, ?_, ?_⟩
    · intro ha
      exfalso
      have ha := ha _ (List.Mem.head _)
      exact absurd ha List.not_mem_nil
    · intro e he hn
      rcases List.mem_cons.1 he with rfl | he
      · refine ⟨fun _ => ?_, fun h => Bool.noConfusion (show true = false from h)⟩
        refine ⟨rfl, [], _, rfl, (List.Mem.head _), ?_⟩
        refine roundsR_succ ?_
        refine ⟨hfr, Nat.le_refl _, ?_, ?_⟩
        · intro ha
          exfalso
          have ha := ha _ (.tail _ (List.Mem.head _))
          simp only [List.mem_append, List.mem_singleton, List.not_mem_nil, false_or] at ha
          omega
        · intro e he hn
          rcases List.mem_cons.1 he with rfl | he
          · exact absurd (List.Mem.head _) hn
          · rcases List.mem_cons.1 he with rfl | he
            · refine ⟨fun _ => ?_, fun h => Bool.noConfusion (show true = false from h)⟩
              refine ⟨rfl, [st0], _, rfl, (.tail _ (List.Mem.head _)), ?_⟩
              refine roundsR_succ ?_
              refine ⟨hfr, Nat.le_refl _, ?_, ?_⟩
              · intro _
                refine ⟨fun h => Bool.noConfusion (show false = true from h), fun _ => ?_⟩
                refine ⟨[.cls 1000000000 999000000 ⟨70, 73, 5, [(n0, b0, s0), (n1, b1, s1)], room, left, stop, nb⟩ [999000001, 999000002] [.own 999000000, .own 999000001]], ?_⟩
                refine ⟨rfl, _, rfl, ⟨rfl, rfl, (fun h => by cases h), ⟨rfl, rfl, (fun h => by cases h), trivial⟩⟩, by kernel_rfl, hnb, ?_⟩
                refine ⟨1, rfl, ?_⟩
                refine fin _ ?_
                simp only [List.length_map]
                rw [wr2 (a := b0.length) (b := b1.length) (by omega)]
                omega
              · intro e he hn
                exfalso
                rcases List.mem_cons.1 he with rfl | he
                · exact hn (List.Mem.head _)
                · rcases List.mem_cons.1 he with rfl | he
                  · exact hn (.tail _ (List.Mem.head _))
                  · exact absurd he List.not_mem_nil
            · exact absurd he List.not_mem_nil
      · rcases List.mem_cons.1 he with rfl | he
        · refine ⟨fun _ => ?_, fun h => Bool.noConfusion (show true = false from h)⟩
          refine ⟨rfl, [], _, rfl, (.tail _ (List.Mem.head _)), ?_⟩
          refine roundsR_succ ?_
          refine ⟨hfr, Nat.le_refl _, ?_, ?_⟩
          · intro ha
            exfalso
            have ha := ha _ (List.Mem.head _)
            simp only [List.mem_append, List.mem_singleton, List.not_mem_nil, false_or] at ha
            omega
          · intro e he hn
            rcases List.mem_cons.1 he with rfl | he
            · refine ⟨fun _ => ?_, fun h => Bool.noConfusion (show true = false from h)⟩
              refine ⟨rfl, [st1], _, rfl, (List.Mem.head _), ?_⟩
              refine roundsR_succ ?_
              refine ⟨hfr, Nat.le_refl _, ?_, ?_⟩
              · intro _
                refine ⟨fun h => Bool.noConfusion (show false = true from h), fun _ => ?_⟩
                refine ⟨[.cls 1000000000 999000000 ⟨70, 73, 5, [(n0, b0, s0), (n1, b1, s1)], room, left, stop, nb⟩ [999000001, 999000002] [.own 999000000, .own 999000001]], ?_⟩
                refine ⟨rfl, _, rfl, ⟨rfl, rfl, (fun h => by cases h), ⟨rfl, rfl, (fun h => by cases h), trivial⟩⟩, by kernel_rfl, hnb, ?_⟩
                refine ⟨1, rfl, ?_⟩
                refine fin _ ?_
                simp only [List.length_map]
                rw [wr2 (a := b1.length) (b := b0.length) (by omega)]
                omega
              · intro e he hn
                exfalso
                rcases List.mem_cons.1 he with rfl | he
                · exact hn (.tail _ (List.Mem.head _))
                · rcases List.mem_cons.1 he with rfl | he
                  · exact hn (List.Mem.head _)
                  · exact absurd he List.not_mem_nil
            · rcases List.mem_cons.1 he with rfl | he
              · exact absurd (List.Mem.head _) hn
              · exact absurd he List.not_mem_nil
        · exact absurd he List.not_mem_nil
  · intro st clock hl hp hc
    obtain ⟨st0, st1, st2, rfl⟩ := lenE3 hl
    have hfr := fresh3 (x := (.int .i64 n0, .ptr 999000001 0)) (y := (.int .i64 n1, .ptr 999000002 0)) (z := (.int .i64 n2, .ptr 999000003 0)) hc
    simp only [List.pairwise_cons, List.mem_cons, List.not_mem_nil, or_false, forall_eq_or_imp, forall_eq] at hp
    refine loopR 4 (roundsR_succ ?_)
    refine ⟨hfr, Nat.le_refl _, ?_, ?_⟩
    · intro ha
      exfalso
      have ha := ha _ (List.Mem.head _)
      exact absurd ha List.not_mem_nil
    · intro e he hn
      rcases List.mem_cons.1 he with rfl | he
      · refine ⟨fun _ => ?_, fun h => Bool.noConfusion (show true = false from h)⟩
        refine ⟨rfl, [], _, rfl, (List.Mem.head _), ?_⟩
        refine roundsR_succ ?_
        refine ⟨hfr, Nat.le_refl _, ?_, ?_⟩
        · intro ha
          exfalso
          have ha := ha _ (.tail _ (List.Mem.head _))
          simp only [List.mem_append, List.mem_singleton, List.not_mem_nil, false_or] at ha
          omega
        · intro e he hn
          rcases List.mem_cons.1 he with rfl | he
          · exact absurd (List.Mem.head _) hn
          · rcases List.mem_cons.1 he with rfl | he
            · refine ⟨fun _ => ?_, fun h => Bool.noConfusion (show true = false from h)⟩
              refine ⟨rfl, [st0], _, rfl, (.tail _ (List.Mem.head _)), ?_⟩
              refine roundsR_succ ?_
              refine ⟨hfr, Nat.le_refl _, ?_, ?_⟩
              · intro ha
                exfalso
                have ha := ha _ (.tail _ (.tail _ (List.Mem.head _)))
                simp only [List.mem_append, List.mem_singleton, List.not_mem_nil, false_or] at ha
                omega
              · intro e he hn
                rcases List.mem_cons.1 he with rfl | he
                · exact absurd (List.Mem.head _) hn
                · rcases List.mem_cons.1 he with rfl | he
                  · exact absurd (.tail _ (List.Mem.head _)) hn
                  · rcases List.mem_cons.1 he with rfl | he
                    · refine ⟨fun _ => ?_, fun h => Bool.noConfusion (show true = false from h)⟩
                      refine ⟨rfl, [st0, st1], _, rfl, (.tail _ (.tail _ (List.Mem.head _))), ?_⟩
                      refine roundsR_succ ?_
                      refine ⟨hfr, Nat.le_refl _, ?_, ?_⟩
                      · intro _
                        refine ⟨fun h => Bool.noConfusion (show false = true from h), fun _ => ?_⟩
                        refine ⟨[.cls 1000000000 999000000 ⟨70, 73, 5, [(n0, b0, s0), (n1, b1, s1), (n2, b2, s2)], room, left, stop, nb⟩ [999000001, 999000002, 999000003] [.own 999000000, .own 999000001, .own 999000002]], ?_⟩
                        refine ⟨rfl, _, rfl, ⟨rfl, rfl, (fun h => by cases h), ⟨rfl, rfl, (fun h => by cases h), ⟨rfl, rfl, (fun h => by cases h), trivial⟩⟩⟩, by kernel_rfl, hnb, ?_⟩
                        refine ⟨1, rfl, ?_⟩
                        refine fin _ ?_
                        simp only [List.length_map]
                        rw [wr3 (a := b0.length) (b := b1.length) (c := b2.length) (by omega)]
                        omega
                      · intro e he hn
                        exfalso
                        rcases List.mem_cons.1 he with rfl | he
                        · exact hn (List.Mem.head _)
                        · rcases List.mem_cons.1 he with rfl | he
                          · exact hn (.tail _ (List.Mem.head _))
                          · rcases List.mem_cons.1 he with rfl | he
                            · exact hn (.tail _ (.tail _ (List.Mem.head _)))
                            · exact absurd he List.not_mem_nil
                    · exact absurd he List.not_mem_nil
            · rcases List.mem_cons.1 he with rfl | he
              · refine ⟨fun _ => ?_, fun h => Bool.noConfusion (show true = false from h)⟩
                refine ⟨rfl, [st0], _, rfl, (.tail _ (.tail _ (List.Mem.head _))), ?_⟩
                refine roundsR_succ ?_
                refine ⟨hfr, Nat.le_refl _, ?_, ?_⟩
                · intro ha
                  exfalso
                  have ha := ha _ (.tail _ (List.Mem.head _))
                  simp only [List.mem_append, List.mem_singleton, List.not_mem_nil, false_or] at ha
                  omega
                · intro e he hn
                  rcases List.mem_cons.1 he with rfl | he
                  · exact absurd (List.Mem.head _) hn
                  · rcases List.mem_cons.1 he with rfl | he
                    · refine ⟨fun _ => ?_, fun h => Bool.noConfusion (show true = false from h)⟩
                      refine ⟨rfl, [st0, st2], _, rfl, (.tail _ (List.Mem.head _)), ?_⟩
                      refine roundsR_succ ?_
                      refine ⟨hfr, Nat.le_refl _, ?_, ?_⟩
                      · intro _
                        refine ⟨fun h => Bool.noConfusion (show false = true from h), fun _ => ?_⟩
                        refine ⟨[.cls 1000000000 999000000 ⟨70, 73, 5, [(n0, b0, s0), (n1, b1, s1), (n2, b2, s2)], room, left, stop, nb⟩ [999000001, 999000002, 999000003] [.own 999000000, .own 999000001, .own 999000002]], ?_⟩
                        refine ⟨rfl, _, rfl, ⟨rfl, rfl, (fun h => by cases h), ⟨rfl, rfl, (fun h => by cases h), ⟨rfl, rfl, (fun h => by cases h), trivial⟩⟩⟩, by kernel_rfl, hnb, ?_⟩
                        refine ⟨1, rfl, ?_⟩
                        refine fin _ ?_
                        simp only [List.length_map]
                        rw [wr3 (a := b0.length) (b := b2.length) (c := b1.length) (by omega)]
                        omega
                      · intro e he hn
                        exfalso
                        rcases List.mem_cons.1 he with rfl | he
                        · exact hn (List.Mem.head _)
                        · rcases List.mem_cons.1 he with rfl | he
                          · exact hn (.tail _ (.tail _ (List.Mem.head _)))
                          · rcases List.mem_cons.1 he with rfl | he
                            · exact hn (.tail _ (List.Mem.head _))
                            · exact absurd he List.not_mem_nil
                    · rcases List.mem_cons.1 he with rfl | he
                      · exact absurd (.tail _ (List.Mem.head _)) hn
                      · exact absurd he List.not_mem_nil
              · exact absurd he List.not_mem_nil
      · rcases List.mem_cons.1 he with rfl | he
        · refine ⟨fun _ => ?_, fun h => Bool.noConfusion (show true = false from h)⟩
          refine ⟨rfl, [], _, rfl, (.tail _ (List.Mem.head _)), ?_⟩
          refine roundsR_succ ?_
          refine ⟨hfr, Nat.le_refl _, ?_, ?_⟩
          · intro ha
            exfalso
            have ha := ha _ (List.Mem.head _)
            simp only [List.mem_append, List.mem_singleton, List.not_mem_nil, false_or] at ha
            omega
          · intro e he hn
            rcases List.mem_cons.1 he with rfl | he
            · refine ⟨fun _ => ?_, fun h => Bool.noConfusion (show true = false from h)⟩
              refine ⟨rfl, [st1], _, rfl, (List.Mem.head _), ?_⟩
              refine roundsR_succ ?_
              refine ⟨hfr, Nat.le_refl _, ?_, ?_⟩
              · intro ha
                exfalso
                have ha := ha _ (.tail _ (.tail _ (List.Mem.head _)))
                simp only [List.mem_append, List.mem_singleton, List.not_mem_nil, false_or] at ha
                omega
              · intro e he hn
                rcases List.mem_cons.1 he with rfl | he
                · exact absurd (.tail _ (List.Mem.head _)) hn
                · rcases List.mem_cons.1 he with rfl | he
                  · exact absurd (List.Mem.head _) hn
                  · rcases List.mem_cons.1 he with rfl | he
                    · refine ⟨fun _ => ?_, fun h => Bool.noConfusion (show true = false from h)⟩
                      refine ⟨rfl, [st1, st0], _, rfl, (.tail _ (.tail _ (List.Mem.head _))), ?_⟩
                      refine roundsR_succ ?_
                      refine ⟨hfr, Nat.le_refl _, ?_, ?_⟩
                      · intro _
                        refine ⟨fun h => Bool.noConfusion (show false = true from h), fun _ => ?_⟩
                        refine ⟨[.cls 1000000000 999000000 ⟨70, 73, 5, [(n0, b0, s0), (n1, b1, s1), (n2, b2, s2)], room, left, stop, nb⟩ [999000001, 999000002, 999000003] [.own 999000000, .own 999000001, .own 999000002]], ?_⟩
                        refine ⟨rfl, _, rfl, ⟨rfl, rfl, (fun h => by cases h), ⟨rfl, rfl, (fun h => by cases h), ⟨rfl, rfl, (fun h => by cases h), trivial⟩⟩⟩, by kernel_rfl, hnb, ?_⟩
                        refine ⟨1, rfl, ?_⟩
                        refine fin _ ?_
                        simp only [List.length_map]
                        rw [wr3 (a := b1.length) (b := b0.length) (c := b2.length) (by omega)]
                        omega
                      · intro e he hn
                        exfalso
                        rcases List.mem_cons.1 he with rfl | he
                        · exact hn (.tail _ (List.Mem.head _))
                        · rcases List.mem_cons.1 he with rfl | he
                          · exact hn (List.Mem.head _)
                          · rcases List.mem_cons.1 he with rfl | he
                            · exact hn (.tail _ (.tail _ (List.Mem.head _)))
                            · exact absurd he List.not_mem_nil
                    · exact absurd he List.not_mem_nil
            · rcases List.mem_cons.1 he with rfl | he
              · exact absurd (List.Mem.head _) hn
              · rcases List.mem_cons.1 he with rfl | he
                · refine ⟨fun _ => ?_, fun h => Bool.noConfusion (show true = false from h)⟩
                  refine ⟨rfl, [st1], _, rfl, (.tail _ (.tail _ (List.Mem.head _))), ?_⟩
                  refine roundsR_succ ?_
                  refine ⟨hfr, Nat.le_refl _, ?_, ?_⟩
                  · intro ha
                    exfalso
                    have ha := ha _ (List.Mem.head _)
                    simp only [List.mem_append, List.mem_singleton, List.not_mem_nil, false_or] at ha
                    omega
                  · intro e he hn
                    rcases List.mem_cons.1 he with rfl | he
                    · refine ⟨fun _ => ?_, fun h => Bool.noConfusion (show true = false from h)⟩
                      refine ⟨rfl, [st1, st2], _, rfl, (List.Mem.head _), ?_⟩
                      refine roundsR_succ ?_
                      refine ⟨hfr, Nat.le_refl _, ?_, ?_⟩
                      · intro _
                        refine ⟨fun h => Bool.noConfusion (show false = true from h), fun _ => ?_⟩
                        refine ⟨[.cls 1000000000 999000000 ⟨70, 73, 5, [(n0, b0, s0), (n1, b1, s1), (n2, b2, s2)], room, left, stop, nb⟩ [999000001, 999000002, 999000003] [.own 999000000, .own 999000001, .own 999000002]], ?_⟩
                        refine ⟨rfl, _, rfl, ⟨rfl, rfl, (fun h => by cases h), ⟨rfl, rfl, (fun h => by cases h), ⟨rfl, rfl, (fun h => by cases h), trivial⟩⟩⟩, by kernel_rfl, hnb, ?_⟩
                        refine ⟨1, rfl, ?_⟩
                        refine fin _ ?_
                        simp only [List.length_map]
                        rw [wr3 (a := b1.length) (b := b2.length) (c := b0.length) (by omega)]
                        omega
                      · intro e he hn
                        exfalso
                        rcases List.mem_cons.1 he with rfl | he
                        · exact hn (.tail _ (.tail _ (List.Mem.head _)))
                        · rcases List.mem_cons.1 he with rfl | he
                          · exact hn (List.Mem.head _)
                          · rcases List.mem_cons.1 he with rfl | he
                            · exact hn (.tail _ (List.Mem.head _))
                            · exact absurd he List.not_mem_nil
                    · rcases List.mem_cons.1 he with rfl | he
                      · exact absurd (List.Mem.head _) hn
                      · rcases List.mem_cons.1 he with rfl | he
                        · exact absurd (.tail _ (List.Mem.head _)) hn
                        · exact absurd he List.not_mem_nil
                · exact absurd he List.not_mem_nil
        · rcases List.mem_cons.1 he with rfl | he
          · refine ⟨fun _ => ?_, fun h => Bool.noConfusion (show true = false from h)⟩
            refine ⟨rfl, [], _, rfl, (.tail _ (.tail _ (List.Mem.head _))), ?_⟩
            refine roundsR_succ ?_
            refine ⟨hfr, Nat.le_refl _, ?_, ?_⟩
            · intro ha
              exfalso
              have ha := ha _ (List.Mem.head _)
              simp only [List.mem_append, List.mem_singleton, List.not_mem_nil, false_or] at ha
              omega
            · intro e he hn
              rcases List.mem_cons.1 he with rfl | he
              · refine ⟨fun _ => ?_, fun h => Bool.noConfusion (show true = false from h)⟩
                refine ⟨rfl, [st2], _, rfl, (List.Mem.head _), ?_⟩
                refine roundsR_succ ?_
                refine ⟨hfr, Nat.le_refl _, ?_, ?_⟩
                · intro ha
                  exfalso
                  have ha := ha _ (.tail _ (List.Mem.head _))
                  simp only [List.mem_append, List.mem_singleton, List.not_mem_nil, false_or] at ha
                  omega
                · intro e he hn
                  rcases List.mem_cons.1 he with rfl | he
                  · exact absurd (.tail _ (List.Mem.head _)) hn
                  · rcases List.mem_cons.1 he with rfl | he
                    · refine ⟨fun _ => ?_, fun h => Bool.noConfusion (show true = false from h)⟩
                      refine ⟨rfl, [st2, st0], _, rfl, (.tail _ (List.Mem.head _)), ?_⟩
                      refine roundsR_succ ?_
                      refine ⟨hfr, Nat.le_refl _, ?_, ?_⟩
                      · intro _
                        refine ⟨fun h => Bool.noConfusion (show false = true from h), fun _ => ?_⟩
                        refine ⟨[.cls 1000000000 999000000 ⟨70, 73, 5, [(n0, b0, s0), (n1, b1, s1), (n2, b2, s2)], room, left, stop, nb⟩ [999000001, 999000002, 999000003] [.own 999000000, .own 999000001, .own 999000002]], ?_⟩
                        refine ⟨rfl, _, rfl, ⟨rfl, rfl, (fun h => by cases h), ⟨rfl, rfl, (fun h => by cases h), ⟨rfl, rfl, (fun h => by cases h), trivial⟩⟩⟩, by kernel_rfl, hnb, ?_⟩
                        refine ⟨1, rfl, ?_⟩
                        refine fin _ ?_
                        simp only [List.length_map]
                        rw [wr3 (a := b2.length) (b := b0.length) (c := b1.length) (by omega)]
                        omega
                      · intro e he hn
                        exfalso
                        rcases List.mem_cons.1 he with rfl | he
                        · exact hn (.tail _ (List.Mem.head _))
                        · rcases List.mem_cons.1 he with rfl | he
                          · exact hn (.tail _ (.tail _ (List.Mem.head _)))
                          · rcases List.mem_cons.1 he with rfl | he
                            · exact hn (List.Mem.head _)
                            · exact absurd he List.not_mem_nil
                    · rcases List.mem_cons.1 he with rfl | he
                      · exact absurd (List.Mem.head _) hn
                      · exact absurd he List.not_mem_nil
              · rcases List.mem_cons.1 he with rfl | he
                · refine ⟨fun _ => ?_, fun h => Bool.noConfusion (show true = false from h)⟩
                  refine ⟨rfl, [st2], _, rfl, (.tail _ (List.Mem.head _)), ?_⟩
                  refine roundsR_succ ?_
                  refine ⟨hfr, Nat.le_refl _, ?_, ?_⟩
                  · intro ha
                    exfalso
                    have ha := ha _ (List.Mem.head _)
                    simp only [List.mem_append, List.mem_singleton, List.not_mem_nil, false_or] at ha
                    omega
                  · intro e he hn
                    rcases List.mem_cons.1 he with rfl | he
                    · refine ⟨fun _ => ?_, fun h => Bool.noConfusion (show true = false from h)⟩
                      refine ⟨rfl, [st2, st1], _, rfl, (List.Mem.head _), ?_⟩
                      refine roundsR_succ ?_
                      refine ⟨hfr, Nat.le_refl _, ?_, ?_⟩
                      · intro _
                        refine ⟨fun h => Bool.noConfusion (show false = true from h), fun _ => ?_⟩
                        refine ⟨[.cls 1000000000 999000000 ⟨70, 73, 5, [(n0, b0, s0), (n1, b1, s1), (n2, b2, s2)], room, left, stop, nb⟩ [999000001, 999000002, 999000003] [.own 999000000, .own 999000001, .own 999000002]], ?_⟩
                        refine ⟨rfl, _, rfl, ⟨rfl, rfl, (fun h => by cases h), ⟨rfl, rfl, (fun h => by cases h), ⟨rfl, rfl, (fun h => by cases h), trivial⟩⟩⟩, by kernel_rfl, hnb, ?_⟩
                        refine ⟨1, rfl, ?_⟩
                        refine fin _ ?_
                        simp only [List.length_map]
                        rw [wr3 (a := b2.length) (b := b1.length) (c := b0.length) (by omega)]
                        omega
                      · intro e he hn
                        exfalso
                        rcases List.mem_cons.1 he with rfl | he
                        · exact hn (.tail _ (.tail _ (List.Mem.head _)))
                        · rcases List.mem_cons.1 he with rfl | he
                          · exact hn (.tail _ (List.Mem.head _))
                          · rcases List.mem_cons.1 he with rfl | he
                            · exact hn (List.Mem.head _)
                            · exact absurd he List.not_mem_nil
                    · rcases List.mem_cons.1 he with rfl | he
                      · exact absurd (.tail _ (List.Mem.head _)) hn
                      · rcases List.mem_cons.1 he with rfl | he
                        · exact absurd (List.Mem.head _) hn
                        · exact absurd he List.not_mem_nil
                · rcases List.mem_cons.1 he with rfl | he
                  · exact absurd (List.Mem.head _) hn
                  · exact absurd he List.not_mem_nil
          · exact absurd he List.not_mem_nil
end Go.Proofs.YtbpcofnhndgoeaaDoor.A
