/- Disks: Read, Restart. -/
import Derived.Test.YtbpcofnhndgoeaaDoorJ3
namespace Go.Proofs.YtbpcofnhndgoeaaDoor.A
open Go Q
def rdA (r : List Int × Bool) : AV := match r.2 with
  | true => by8 r.1
  | false => .sl .nl 0 []
def readDC (args : List AV) (bs : List Box) (K : AV → List Box → Prop) : Prop := ∃ d nb k, DOk d ∧ 2000000000 ≤ nb ∧ args = [.ptr 1000000000 0, .int .i64 k] ∧ bs = [dkB d nb] ∧ K (.tup [rdA (readD d k), .bool (readD d k).2]) [dkB d nb]
set_option maxRecDepth 200000 in
set_option maxHeartbeats 6400000 in
theorem readD_ok : FnOkN Tryd.prog tab 16 readDC := by
  refine fn_okN (E := D0_E pl16) tab_is (D0_C _) (D0_J _) Tryd.func16 rfl rfl (by kernel_rfl) ?_
  rintro args bs K ⟨⟨fs, room, left, stop⟩, nb, k, hd, hnb, rfl, rfl, hK⟩
  refine ⟨rfl, [], ?_⟩
  have hu0 := hd.us
  rcases len3 hd.n with h | ⟨⟨n0, b0, s0⟩, h⟩ | ⟨⟨n0, b0, s0⟩, ⟨n1, b1, s1⟩, h⟩ | ⟨⟨n0, b0, s0⟩, ⟨n1, b1, s1⟩, ⟨n2, b2, s2⟩, h⟩
  all_goals
    have h : fs = _ := h
    subst h
    simp only [Dk.used, usedF] at hu0
  · have hA : readD ⟨[], room, left, stop⟩ k = ([], false) := by simp [readD, fget]
    rw [hA] at hK
    clear hA
    refine ⟨none, mfind_nil, ?_⟩
    refine ⟨fun _ => ?_, fun h => Bool.noConfusion (show true = false from h)⟩
    refine ⟨[.cls 1000000000 999000000 ⟨70, 73, 5, [], room, left, stop, nb⟩ [] []], ?_⟩
    refine ⟨rfl, _, rfl, trivial, by kernel_rfl, hnb, ?_⟩
    refine ⟨1, rfl, ?_⟩
    exact hK
  · by_cases h0 : k = n0
    · subst h0
      have hA : readD ⟨[(k, b0, s0)], room, left, stop⟩ k = (b0, true) := by simp [readD, fget]
      rw [hA] at hK
      clear hA
      refine ⟨some (.ptr 999000001 0), mfind_hit, ?_⟩
      refine ⟨fun h => Bool.noConfusion (show false = true from h), fun _ => ?_⟩
      refine ⟨(show (b0.map (AV.int .u8)).length * 1 ≤ 140737488355328 by simp only [List.length_map]; omega), ?_⟩
      refine ⟨[.frz 19000, .cls 1000000000 999000000 ⟨70, 73, 5, [(k, b0, s0)], room, left, stop, nb⟩ [999000001] [.own 999000000]], ?_⟩
      refine ⟨rfl, _, rfl, ⟨rfl, rfl, (fun h => by cases h), trivial⟩, by kernel_rfl, hnb, ?_⟩
      refine ⟨1, rfl, ?_⟩
      exact hK
    · have hA : readD ⟨[(n0, b0, s0)], room, left, stop⟩ k = ([], false) := by simp [readD, fget, h0]
      rw [hA] at hK
      clear hA
      refine ⟨none, (mfind_miss h0).trans mfind_nil, ?_⟩
      refine ⟨fun _ => ?_, fun h => Bool.noConfusion (show true = false from h)⟩
      refine ⟨[.cls 1000000000 999000000 ⟨70, 73, 5, [(n0, b0, s0)], room, left, stop, nb⟩ [999000001] [.own 999000000]], ?_⟩
      refine ⟨rfl, _, rfl, ⟨rfl, rfl, (fun h => by cases h), trivial⟩, by kernel_rfl, hnb, ?_⟩
      refine ⟨1, rfl, ?_⟩
      exact hK
  · by_cases h0 : k = n0
    · subst h0
      have hA : readD ⟨[(k, b0, s0), (n1, b1, s1)], room, left, stop⟩ k = (b0, true) := by simp [readD, fget]
      rw [hA] at hK
      clear hA
      refine ⟨some (.ptr 999000001 0), mfind_hit, ?_⟩
      refine ⟨fun h => Bool.noConfusion (show false = true from h), fun _ => ?_⟩
      refine ⟨(show (b0.map (AV.int .u8)).length * 1 ≤ 140737488355328 by simp only [List.length_map]; omega), ?_⟩
      refine ⟨[.frz 19000, .cls 1000000000 999000000 ⟨70, 73, 5, [(k, b0, s0), (n1, b1, s1)], room, left, stop, nb⟩ [999000001, 999000002] [.own 999000000, .own 999000001]], ?_⟩
      refine ⟨rfl, _, rfl, ⟨rfl, rfl, (fun h => by cases h), ⟨rfl, rfl, (fun h => by cases h), trivial⟩⟩, by kernel_rfl, hnb, ?_⟩
      refine ⟨1, rfl, ?_⟩
      exact hK
    · by_cases h1 : k = n1
      · subst h1
        have hA : readD ⟨[(n0, b0, s0), (k, b1, s1)], room, left, stop⟩ k = (b1, true) := by simp [readD, fget, h0]
        rw [hA] at hK
        clear hA
        refine ⟨some (.ptr 999000002 0), (mfind_miss h0).trans mfind_hit, ?_⟩
        refine ⟨fun h => Bool.noConfusion (show false = true from h), fun _ => ?_⟩
        refine ⟨(show (b1.map (AV.int .u8)).length * 1 ≤ 140737488355328 by simp only [List.length_map]; omega), ?_⟩
        refine ⟨[.frz 19000, .cls 1000000000 999000000 ⟨70, 73, 5, [(n0, b0, s0), (k, b1, s1)], room, left, stop, nb⟩ [999000001, 999000002] [.own 999000000, .own 999000001]], ?_⟩
        refine ⟨rfl, _, rfl, ⟨rfl, rfl, (fun h => by cases h), ⟨rfl, rfl, (fun h => by cases h), trivial⟩⟩, by kernel_rfl, hnb, ?_⟩
        refine ⟨1, rfl, ?_⟩
        exact hK
      · have hA : readD ⟨[(n0, b0, s0), (n1, b1, s1)], room, left, stop⟩ k = ([], false) := by simp [readD, fget, h0, h1]
        rw [hA] at hK
        clear hA
        refine ⟨none, (mfind_miss h0).trans ((mfind_miss h1).trans mfind_nil), ?_⟩
        refine ⟨fun _ => ?_, fun h => Bool.noConfusion (show true = false from h)⟩
        refine ⟨[.cls 1000000000 999000000 ⟨70, 73, 5, [(n0, b0, s0), (n1, b1, s1)], room, left, stop, nb⟩ [999000001, 999000002] [.own 999000000, .own 999000001]], ?_⟩
        refine ⟨rfl, _, rfl, ⟨rfl, rfl, (fun h => by cases h), ⟨rfl, rfl, (fun h => by cases h), trivial⟩⟩, by kernel_rfl, hnb, ?_⟩
        refine ⟨1, rfl, ?_⟩
        exact hK
  · by_cases h0 : k = n0
    · subst h0
      have hA : readD ⟨[(k, b0, s0), (n1, b1, s1), (n2, b2, s2)], room, left, stop⟩ k = (b0, true) := by simp [readD, fget]
      rw [hA] at hK
      clear hA
      refine ⟨some (.ptr 999000001 0), mfind_hit, ?_⟩
      refine ⟨fun h => Bool.noConfusion (show false = true from h), fun _ => ?_⟩
      refine ⟨(show (b0.map (AV.int .u8)).length * 1 ≤ 140737488355328 by simp only [List.length_map]; omega), ?_⟩
      refine ⟨[.frz 19000, .cls 1000000000 999000000 ⟨70, 73, 5, [(k, b0, s0), (n1, b1, s1), (n2, b2, s2)], room, left, stop, nb⟩ [999000001, 999000002, 999000003] [.own 999000000, .own 999000001, .own 999000002]], ?_⟩
      refine ⟨rfl, _, rfl, ⟨rfl, rfl, (fun h => by cases h), ⟨rfl, rfl, (fun h => by cases h), ⟨rfl, rfl, (fun h => by cases h), trivial⟩⟩⟩, by kernel_rfl, hnb, ?_⟩
      refine ⟨1, rfl, ?_⟩
      exact hK
    · by_cases h1 : k = n1
      · subst h1
        have hA : readD ⟨[(n0, b0, s0), (k, b1, s1), (n2, b2, s2)], room, left, stop⟩ k = (b1, true) := by simp [readD, fget, h0]
        rw [hA] at hK
        clear hA
        refine ⟨some (.ptr 999000002 0), (mfind_miss h0).trans mfind_hit, ?_⟩
        refine ⟨fun h => Bool.noConfusion (show false = true from h), fun _ => ?_⟩
        refine ⟨(show (b1.map (AV.int .u8)).length * 1 ≤ 140737488355328 by simp only [List.length_map]; omega), ?_⟩
        refine ⟨[.frz 19000, .cls 1000000000 999000000 ⟨70, 73, 5, [(n0, b0, s0), (k, b1, s1), (n2, b2, s2)], room, left, stop, nb⟩ [999000001, 999000002, 999000003] [.own 999000000, .own 999000001, .own 999000002]], ?_⟩
        refine ⟨rfl, _, rfl, ⟨rfl, rfl, (fun h => by cases h), ⟨rfl, rfl, (fun h => by cases h), ⟨rfl, rfl, (fun h => by cases h), trivial⟩⟩⟩, by kernel_rfl, hnb, ?_⟩
        refine ⟨1, rfl, ?_⟩
        exact hK
      · by_cases h2 : k = n2
        · subst h2
          have hA : readD ⟨[(n0, b0, s0), (n1, b1, s1), (k, b2, s2)], room, left, stop⟩ k = (b2, true) := by simp [readD, fget, h0, h1]
          rw [hA] at hK
          clear hA
          refine ⟨some (.ptr 999000003 0), (mfind_miss h0).trans ((mfind_miss h1).trans mfind_hit), ?_⟩
          refine ⟨fun h => Bool.noConfusion (show false = true from h), fun _ => ?_⟩
          refine ⟨(show (b2.map (AV.int .u8)).length * 1 ≤ 140737488355328 by simp only [List.length_map]; omega), ?_⟩
          refine ⟨[.frz 19000, .cls 1000000000 999000000 ⟨70, 73, 5, [(n0, b0, s0), (n1, b1, s1), (k, b2, s2)], room, left, stop, nb⟩ [999000001, 999000002, 999000003] [.own 999000000, .own 999000001, .own 999000002]], ?_⟩
          refine ⟨rfl, _, rfl, ⟨rfl, rfl, (fun h => by cases h), ⟨rfl, rfl, (fun h => by cases h), ⟨rfl, rfl, (fun h => by cases h), trivial⟩⟩⟩, by kernel_rfl, hnb, ?_⟩
          refine ⟨1, rfl, ?_⟩
          exact hK
        · have hA : readD ⟨[(n0, b0, s0), (n1, b1, s1), (n2, b2, s2)], room, left, stop⟩ k = ([], false) := by simp [readD, fget, h0, h1, h2]
          rw [hA] at hK
          clear hA
          refine ⟨none, (mfind_miss h0).trans ((mfind_miss h1).trans ((mfind_miss h2).trans mfind_nil)), ?_⟩
          refine ⟨fun _ => ?_, fun h => Bool.noConfusion (show true = false from h)⟩
          refine ⟨[.cls 1000000000 999000000 ⟨70, 73, 5, [(n0, b0, s0), (n1, b1, s1), (n2, b2, s2)], room, left, stop, nb⟩ [999000001, 999000002, 999000003] [.own 999000000, .own 999000001, .own 999000002]], ?_⟩
          refine ⟨rfl, _, rfl, ⟨rfl, rfl, (fun h => by cases h), ⟨rfl, rfl, (fun h => by cases h), ⟨rfl, rfl, (fun h => by cases h), trivial⟩⟩⟩, by kernel_rfl, hnb, ?_⟩
          refine ⟨1, rfl, ?_⟩
          exact hK
abbrev rM (x : List Int) (s : Int) : Int := IntKind.i64.wrap (IntKind.i64.wrap ((((x.map (AV.int .u8)).length : Nat) : Int) - s) + 1)
theorem rM_eq {x : List Int} {s : Int} (hs : 0 ≤ s ∧ s ≤ x.length) (hb : x.length ≤ 262144) : rM x s = x.length - s + 1 := by
  unfold rM
  rw [List.length_map, wrap_of (n := (x.length : Int) - s) (by omega) (by omega), wrap_of (by omega) (by omega)]
theorem tmod_lt {k m : Int} (hm : 0 < m) : -m < k.tmod m ∧ k.tmod m < m := by
  have h1 := Int.tmod_lt_of_pos k hm
  refine ⟨?_, h1⟩
  have h2 := Int.tmod_lt_of_pos (-k) hm
  rw [Int.neg_tmod] at h2
  omega
theorem rW0 {n : Int} {x : List Int} {s keep : Int} (hs : 0 ≤ s ∧ s ≤ x.length) (hb : x.length ≤ 262144) (hk : ¬ keep.tmod (rM x s) < 0) :
    IntKind.i64.wrap (s + keep.tmod (rM x s)) = keptF (n, x, s) keep ∧ 0 ≤ IntKind.i64.wrap (s + keep.tmod (rM x s)) ∧ (IntKind.i64.wrap (s + keep.tmod (rM x s))).toNat ≤ x.length := by
  rw [rM_eq hs hb] at hk ⊢
  have := tmod_lt (k := keep) (m := (x.length : Int) - s + 1) (by omega)
  rw [wrap_of (by omega) (by omega)]
  refine ⟨?_, by omega, by omega⟩
  simp only [keptF]
  rw [if_neg hk]
theorem rW1 {n : Int} {x : List Int} {s keep : Int} (hs : 0 ≤ s ∧ s ≤ x.length) (hb : x.length ≤ 262144) (hk : keep.tmod (rM x s) < 0) :
    IntKind.i64.wrap (s + IntKind.i64.wrap (keep.tmod (rM x s) + rM x s)) = keptF (n, x, s) keep ∧ 0 ≤ IntKind.i64.wrap (s + IntKind.i64.wrap (keep.tmod (rM x s) + rM x s)) ∧ (IntKind.i64.wrap (s + IntKind.i64.wrap (keep.tmod (rM x s) + rM x s))).toNat ≤ x.length := by
  rw [rM_eq hs hb] at hk ⊢
  have := tmod_lt (k := keep) (m := (x.length : Int) - s + 1) (by omega)
  rw [wrap_of (n := keep.tmod _ + _) (by omega) (by omega), wrap_of (by omega) (by omega)]
  refine ⟨?_, by omega, by omega⟩
  simp only [keptF]
  rw [if_pos hk]
theorem lmle {n : Nat} {x : List Int} (h : n ≤ x.length) : n ≤ (x.map (AV.int .u8)).length := by rw [List.length_map]; exact h
theorem rst_box {tf tb : TypeId} {g : Tag} {n : Int} {x : List Int} {s keep W : Int} (hW : W = keptF (n, x, s) keep) (h0 : 0 ≤ W) (h1 : W.toNat ≤ x.length) :
    some (Box.cells tf [.sl g tb ((x.map (AV.int .u8)).take W.toNat), .int .i64 (((x.map (AV.int .u8)).take W.toNat).length : Nat)]) = some (.cells tf [.sl g tb ((x.take (keptF (n, x, s) keep).toNat).map (AV.int .u8)), .int .i64 (keptF (n, x, s) keep)]) := by
  rw [← hW, List.map_take, List.length_take, List.length_map, Nat.min_eq_left h1, Int.toNat_of_nonneg h0]
def restartC (args : List AV) (bs : List Box) (K : AV → List Box → Prop) : Prop := ∃ d nb k, DOk d ∧ 2000000000 ≤ nb ∧ args = [.ptr 1000000000 0, .int .i64 k] ∧ bs = [dkB d nb] ∧ K (.tup []) [dkB (restartD d k) nb]
set_option maxRecDepth 200000 in
set_option maxHeartbeats 16000000 in
theorem restart_ok : FnOkN Tryd.prog tab 15 restartC := by
  refine fn_okN (E := D0_E pl15) tab_is (D0_C _) (D0_J _) Tryd.func15 rfl rfl (by kernel_rfl) ?_
  rintro args bs K ⟨⟨fs, room, left, stop⟩, nb, keep, hd, hnb, rfl, rfl, hK⟩
  refine ⟨rfl, [], ?_⟩
  have hu0 := hd.us
  have hsafe := hd.safe
  rcases len3 hd.n with h | ⟨⟨n0, b0, s0⟩, h⟩ | ⟨⟨n0, b0, s0⟩, ⟨n1, b1, s1⟩, h⟩ | ⟨⟨n0, b0, s0⟩, ⟨n1, b1, s1⟩, ⟨n2, b2, s2⟩, h⟩
  all_goals
    have h : fs = _ := h
    subst h
    simp only [Dk.used, usedF] at hu0
  · intro st clock hl hp hc
    obtain rfl := lenE0 hl
    have hfr := (show ∀ e ∈ ([] : List (Nat × AV × AV)), e.1 < clock from fun e he => absurd he List.not_mem_nil)
    skip
    refine loopR 1 (roundsR_succ ?_)
    refine ⟨hfr, Nat.le_refl _, ?_, ?_⟩
    · intro _
      refine ⟨fun h => Bool.noConfusion (show false = true from h), fun _ => ?_⟩
      refine ⟨[.cls 1000000000 999000000 ⟨70, 73, 5, [], room, -1, false, nb⟩ [] []], ?_⟩
      refine ⟨rfl, _, rfl, trivial, by kernel_rfl, hnb, ?_⟩
      refine ⟨1, rfl, ?_⟩
      exact hK
    · intro e he hn
      exfalso
      exact absurd he List.not_mem_nil
  all_goals
    have hS0 : 0 ≤ s0 ∧ s0 ≤ b0.length := hsafe _ (List.Mem.head _)
    have hB0 : b0.length ≤ 262144 := by omega
    have hM0 : rM b0 s0 ≠ 0 := by rw [rM_eq hS0 hB0]; have := hS0.2; omega
  · intro st clock hl hp hc
    obtain ⟨st0, rfl⟩ := lenE1 hl
    have hfr := fresh1 (x := (.int .i64 n0, .ptr 999000001 0)) hc
    skip
    refine loopR 2 (roundsR_succ ?_)
    refine ⟨hfr, Nat.le_refl _, ?_, ?_⟩
    · intro ha
      exfalso
      have ha := ha _ (List.Mem.head _)
      exact absurd ha List.not_mem_nil
    · intro e he hn
      rcases List.mem_cons.1 he with rfl | he
      · refine ⟨fun _ => ?_, fun h => Bool.noConfusion (show true = false from h)⟩
        refine ⟨rfl, [], _, rfl, (List.Mem.head _), ?_⟩
        refine ⟨hM0, ?_⟩
        refine ⟨fun hk => ?_, fun hk => ?_⟩
        · have hk : keep.tmod (rM b0 s0) < 0 := of_decide_eq_true hk
          obtain ⟨hW0, h0W0, h1W0⟩ := rW1 (n := n0) hS0 hB0 hk
          refine ⟨h0W0, Nat.zero_le _, lmle h1W0, ?_⟩
          refine roundsR_succ ?_
          refine ⟨hfr, Nat.le_refl _, ?_, ?_⟩
          · intro _
            refine ⟨fun h => Bool.noConfusion (show false = true from h), fun _ => ?_⟩
            refine ⟨[.cls 1000000000 999000000 ⟨70, 73, 5, [fcut (n0, b0, s0) keep], room, -1, false, nb⟩ [999000001] [.own 999000000]], ?_⟩
            refine ⟨rfl, _, rfl, ⟨rfl, rst_box hW0 h0W0 h1W0, (fun h => by cases h), trivial⟩, by kernel_rfl, hnb, ?_⟩
            refine ⟨1, rfl, ?_⟩
            exact hK
          · intro e he hn
            exfalso
            rcases List.mem_cons.1 he with rfl | he
            · exact hn (List.Mem.head _)
            · exact absurd he List.not_mem_nil
        · have hk : ¬ keep.tmod (rM b0 s0) < 0 := of_decide_eq_false hk
          obtain ⟨hW0, h0W0, h1W0⟩ := rW0 (n := n0) hS0 hB0 hk
          refine ⟨h0W0, Nat.zero_le _, lmle h1W0, ?_⟩
          refine roundsR_succ ?_
          refine ⟨hfr, Nat.le_refl _, ?_, ?_⟩
          · intro _
            refine ⟨fun h => Bool.noConfusion (show false = true from h), fun _ => ?_⟩
            refine ⟨[.cls 1000000000 999000000 ⟨70, 73, 5, [fcut (n0, b0, s0) keep], room, -1, false, nb⟩ [999000001] [.own 999000000]], ?_⟩
            refine ⟨rfl, _, rfl, ⟨rfl, rst_box hW0 h0W0 h1W0, (fun h => by cases h), trivial⟩, by kernel_rfl, hnb, ?_⟩
            refine ⟨1, rfl, ?_⟩
            exact hK
          · intro e he hn
            exfalso
            rcases List.mem_cons.1 he with rfl | he
            · exact hn (List.Mem.head _)
            · exact absurd he List.not_mem_nil
      · exact absurd he List.not_mem_nil
  all_goals
    have hS1 : 0 ≤ s1 ∧ s1 ≤ b1.length := hsafe _ (.tail _ (List.Mem.head _))
    have hB1 : b1.length ≤ 262144 := by omega
    have hM1 : rM b1 s1 ≠ 0 := by rw [rM_eq hS1 hB1]; have := hS1.2; omega
  · intro st clock hl hp hc
    obtain ⟨st0, st1, rfl⟩ := lenE2 hl
    have hfr := fresh2 (x := (.int .i64 n0, .ptr 999000001 0)) (y := (.int .i64 n1, .ptr 999000002 0)) hc
    simp only [List.pairwise_cons, List.mem_cons, List.not_mem_nil, or_false, forall_eq] at hp
    refine loopR 3 (roundsR_succ ?_)
    refine ⟨hfr, Nat.le_refl _, ?_, ?_⟩
    · intro ha
      exfalso
      have ha := ha _ (List.Mem.head _)
      exact absurd ha List.not_mem_nil
    · intro e he hn
      rcases List.mem_cons.1 he with rfl | he
      · refine ⟨fun _ => ?_, fun h => Bool.noConfusion (show true = false from h)⟩
        refine ⟨rfl, [], _, rfl, (List.Mem.head _), ?_⟩
        refine ⟨hM0, ?_⟩
        refine ⟨fun hk => ?_, fun hk => ?_⟩
        · have hk : keep.tmod (rM b0 s0) < 0 := of_decide_eq_true hk
          obtain ⟨hW0, h0W0, h1W0⟩ := rW1 (n := n0) hS0 hB0 hk
          refine ⟨h0W0, Nat.zero_le _, lmle h1W0, ?_⟩
          refine roundsR_succ ?_
          refine ⟨hfr, Nat.le_refl _, ?_, ?_⟩
          · intro ha
            exfalso
            have ha := ha _ (.tail _ (List.Mem.head _))
            simp only [List.mem_append, List.mem_singleton, List.not_mem_nil, false_or] at ha
            omega
          · intro e he hn
            rcases List.mem_cons.1 he with rfl | he
            · exact absurd (List.Mem.head _) hn
            · rcases List.mem_cons.1 he with rfl | he
              · refine ⟨fun _ => ?_, fun h => Bool.noConfusion (show true = false from h)⟩
                refine ⟨rfl, [st0], _, rfl, (.tail _ (List.Mem.head _)), ?_⟩
                refine ⟨hM1, ?_⟩
                refine ⟨fun hk => ?_, fun hk => ?_⟩
                · have hk : keep.tmod (rM b1 s1) < 0 := of_decide_eq_true hk
                  obtain ⟨hW1, h0W1, h1W1⟩ := rW1 (n := n1) hS1 hB1 hk
                  refine ⟨h0W1, Nat.zero_le _, lmle h1W1, ?_⟩
                  refine roundsR_succ ?_
                  refine ⟨hfr, Nat.le_refl _, ?_, ?_⟩
                  · intro _
                    refine ⟨fun h => Bool.noConfusion (show false = true from h), fun _ => ?_⟩
                    refine ⟨[.cls 1000000000 999000000 ⟨70, 73, 5, [fcut (n0, b0, s0) keep, fcut (n1, b1, s1) keep], room, -1, false, nb⟩ [999000001, 999000002] [.own 999000000, .own 999000001]], ?_⟩
                    refine ⟨rfl, _, rfl, ⟨rfl, rst_box hW0 h0W0 h1W0, (fun h => by cases h), ⟨rfl, rst_box hW1 h0W1 h1W1, (fun h => by cases h), trivial⟩⟩, by kernel_rfl, hnb, ?_⟩
                    refine ⟨1, rfl, ?_⟩
                    exact hK
                  · intro e he hn
                    exfalso
                    rcases List.mem_cons.1 he with rfl | he
                    · exact hn (List.Mem.head _)
                    · rcases List.mem_cons.1 he with rfl | he
                      · exact hn (.tail _ (List.Mem.head _))
                      · exact absurd he List.not_mem_nil
                · have hk : ¬ keep.tmod (rM b1 s1) < 0 := of_decide_eq_false hk
                  obtain ⟨hW1, h0W1, h1W1⟩ := rW0 (n := n1) hS1 hB1 hk
                  refine ⟨h0W1, Nat.zero_le _, lmle h1W1, ?_⟩
                  refine roundsR_succ ?_
                  refine ⟨hfr, Nat.le_refl _, ?_, ?_⟩
                  · intro _
                    refine ⟨fun h => Bool.noConfusion (show false = true from h), fun _ => ?_⟩
                    refine ⟨[.cls 1000000000 999000000 ⟨70, 73, 5, [fcut (n0, b0, s0) keep, fcut (n1, b1, s1) keep], room, -1, false, nb⟩ [999000001, 999000002] [.own 999000000, .own 999000001]], ?_⟩
                    refine ⟨rfl, _, rfl, ⟨rfl, rst_box hW0 h0W0 h1W0, (fun h => by cases h), ⟨rfl, rst_box hW1 h0W1 h1W1, (fun h => by cases h), trivial⟩⟩, by kernel_rfl, hnb, ?_⟩
                    refine ⟨1, rfl, ?_⟩
                    exact hK
                  · intro e he hn
                    exfalso
                    rcases List.mem_cons.1 he with rfl | he
                    · exact hn (List.Mem.head _)
                    · rcases List.mem_cons.1 he with rfl | he
                      · exact hn (.tail _ (List.Mem.head _))
                      · exact absurd he List.not_mem_nil
              · exact absurd he List.not_mem_nil
        · have hk : ¬ keep.tmod (rM b0 s0) < 0 := of_decide_eq_false hk
          obtain ⟨hW0, h0W0, h1W0⟩ := rW0 (n := n0) hS0 hB0 hk
          refine ⟨h0W0, Nat.zero_le _, lmle h1W0, ?_⟩
          refine roundsR_succ ?_
          refine ⟨hfr, Nat.le_refl _, ?_, ?_⟩
          · intro ha
            exfalso
            have ha := ha _ (.tail _ (List.Mem.head _))
            simp only [List.mem_append, List.mem_singleton, List.not_mem_nil, false_or] at ha
            omega
          · intro e he hn
            rcases List.mem_cons.1 he with rfl | he
            · exact absurd (List.Mem.head _) hn
            · rcases List.mem_cons.1 he with rfl | he
              · refine ⟨fun _ => ?_, fun h => Bool.noConfusion (show true = false from h)⟩
                refine ⟨rfl, [st0], _, rfl, (.tail _ (List.Mem.head _)), ?_⟩
                refine ⟨hM1, ?_⟩
                refine ⟨fun hk => ?_, fun hk => ?_⟩
                · have hk : keep.tmod (rM b1 s1) < 0 := of_decide_eq_true hk
                  obtain ⟨hW1, h0W1, h1W1⟩ := rW1 (n := n1) hS1 hB1 hk
                  refine ⟨h0W1, Nat.zero_le _, lmle h1W1, ?_⟩
                  refine roundsR_succ ?_
                  refine ⟨hfr, Nat.le_refl _, ?_, ?_⟩
                  · intro _
                    refine ⟨fun h => Bool.noConfusion (show false = true from h), fun _ => ?_⟩
                    refine ⟨[.cls 1000000000 999000000 ⟨70, 73, 5, [fcut (n0, b0, s0) keep, fcut (n1, b1, s1) keep], room, -1, false, nb⟩ [999000001, 999000002] [.own 999000000, .own 999000001]], ?_⟩
                    refine ⟨rfl, _, rfl, ⟨rfl, rst_box hW0 h0W0 h1W0, (fun h => by cases h), ⟨rfl, rst_box hW1 h0W1 h1W1, (fun h => by cases h), trivial⟩⟩, by kernel_rfl, hnb, ?_⟩
                    refine ⟨1, rfl, ?_⟩
                    exact hK
                  · intro e he hn
                    exfalso
                    rcases List.mem_cons.1 he with rfl | he
                    · exact hn (List.Mem.head _)
                    · rcases List.mem_cons.1 he with rfl | he
                      · exact hn (.tail _ (List.Mem.head _))
                      · exact absurd he List.not_mem_nil
                · have hk : ¬ keep.tmod (rM b1 s1) < 0 := of_decide_eq_false hk
                  obtain ⟨hW1, h0W1, h1W1⟩ := rW0 (n := n1) hS1 hB1 hk
                  refine ⟨h0W1, Nat.zero_le _, lmle h1W1, ?_⟩
                  refine roundsR_succ ?_
                  refine ⟨hfr, Nat.le_refl _, ?_, ?_⟩
                  · intro _
                    refine ⟨fun h => Bool.noConfusion (show false = true from h), fun _ => ?_⟩
                    refine ⟨[.cls 1000000000 999000000 ⟨70, 73, 5, [fcut (n0, b0, s0) keep, fcut (n1, b1, s1) keep], room, -1, false, nb⟩ [999000001, 999000002] [.own 999000000, .own 999000001]], ?_⟩
                    refine ⟨rfl, _, rfl, ⟨rfl, rst_box hW0 h0W0 h1W0, (fun h => by cases h), ⟨rfl, rst_box hW1 h0W1 h1W1, (fun h => by cases h), trivial⟩⟩, by kernel_rfl, hnb, ?_⟩
                    refine ⟨1, rfl, ?_⟩
                    exact hK
                  · intro e he hn
                    exfalso
                    rcases List.mem_cons.1 he with rfl | he
                    · exact hn (List.Mem.head _)
                    · rcases List.mem_cons.1 he with rfl | he
                      · exact hn (.tail _ (List.Mem.head _))
                      · exact absurd he List.not_mem_nil
              · exact absurd he List.not_mem_nil
      · rcases List.mem_cons.1 he with rfl | he
        · refine ⟨fun _ => ?_, fun h => Bool.noConfusion (show true = false from h)⟩
          refine ⟨rfl, [], _, rfl, (.tail _ (List.Mem.head _)), ?_⟩
          refine ⟨hM1, ?_⟩
          refine ⟨fun hk => ?_, fun hk => ?_⟩
          · have hk : keep.tmod (rM b1 s1) < 0 := of_decide_eq_true hk
            obtain ⟨hW1, h0W1, h1W1⟩ := rW1 (n := n1) hS1 hB1 hk
            refine ⟨h0W1, Nat.zero_le _, lmle h1W1, ?_⟩
            refine roundsR_succ ?_
            refine ⟨hfr, Nat.le_refl _, ?_, ?_⟩
            · intro ha
              exfalso
              have ha := ha _ (List.Mem.head _)
              simp only [List.mem_append, List.mem_singleton, List.not_mem_nil, false_or] at ha
              omega
            · intro e he hn
              rcases List.mem_cons.1 he with rfl | he
              · refine ⟨fun _ => ?_, fun h => Bool.noConfusion (show true = false from h)⟩
                refine ⟨rfl, [st1], _, rfl, (List.Mem.head _), ?_⟩
                refine ⟨hM0, ?_⟩
                refine ⟨fun hk => ?_, fun hk => ?_⟩
                · have hk : keep.tmod (rM b0 s0) < 0 := of_decide_eq_true hk
                  obtain ⟨hW0, h0W0, h1W0⟩ := rW1 (n := n0) hS0 hB0 hk
                  refine ⟨h0W0, Nat.zero_le _, lmle h1W0, ?_⟩
                  refine roundsR_succ ?_
                  refine ⟨hfr, Nat.le_refl _, ?_, ?_⟩
                  · intro _
                    refine ⟨fun h => Bool.noConfusion (show false = true from h), fun _ => ?_⟩
                    refine ⟨[.cls 1000000000 999000000 ⟨70, 73, 5, [fcut (n0, b0, s0) keep, fcut (n1, b1, s1) keep], room, -1, false, nb⟩ [999000001, 999000002] [.own 999000000, .own 999000001]], ?_⟩
                    refine ⟨rfl, _, rfl, ⟨rfl, rst_box hW0 h0W0 h1W0, (fun h => by cases h), ⟨rfl, rst_box hW1 h0W1 h1W1, (fun h => by cases h), trivial⟩⟩, by kernel_rfl, hnb, ?_⟩
                    refine ⟨1, rfl, ?_⟩
                    exact hK
                  · intro e he hn
                    exfalso
                    rcases List.mem_cons.1 he with rfl | he
                    · exact hn (.tail _ (List.Mem.head _))
                    · rcases List.mem_cons.1 he with rfl | he
                      · exact hn (List.Mem.head _)
                      · exact absurd he List.not_mem_nil
                · have hk : ¬ keep.tmod (rM b0 s0) < 0 := of_decide_eq_false hk
                  obtain ⟨hW0, h0W0, h1W0⟩ := rW0 (n := n0) hS0 hB0 hk
                  refine ⟨h0W0, Nat.zero_le _, lmle h1W0, ?_⟩
                  refine roundsR_succ ?_
                  refine ⟨hfr, Nat.le_refl _, ?_, ?_⟩
                  · intro _
                    refine ⟨fun h => Bool.noConfusion (show false = true from h), fun _ => ?_⟩
                    refine ⟨[.cls 1000000000 999000000 ⟨70, 73, 5, [fcut (n0, b0, s0) keep, fcut (n1, b1, s1) keep], room, -1, false, nb⟩ [999000001, 999000002] [.own 999000000, .own 999000001]], ?_⟩
                    refine ⟨rfl, _, rfl, ⟨rfl, rst_box hW0 h0W0 h1W0, (fun h => by cases h), ⟨rfl, rst_box hW1 h0W1 h1W1, (fun h => by cases h), trivial⟩⟩, by kernel_rfl, hnb, ?_⟩
                    refine ⟨1, rfl, ?_⟩
                    exact hK
                  · intro e he hn
                    exfalso
                    rcases List.mem_cons.1 he with rfl | he
                    · exact hn (.tail _ (List.Mem.head _))
                    · rcases List.mem_cons.1 he with rfl | he
                      · exact hn (List.Mem.head _)
                      · exact absurd he List.not_mem_nil
              · rcases List.mem_cons.1 he with rfl | he
                · exact absurd (List.Mem.head _) hn
                · exact absurd he List.not_mem_nil
          · have hk : ¬ keep.tmod (rM b1 s1) < 0 := of_decide_eq_false hk
            obtain ⟨hW1, h0W1, h1W1⟩ := rW0 (n := n1) hS1 hB1 hk
            refine ⟨h0W1, Nat.zero_le _, lmle h1W1, ?_⟩
            refine roundsR_succ ?_
            refine ⟨hfr, Nat.le_refl _, ?_, ?_⟩
            · intro ha
              exfalso
              have ha := ha _ (List.Mem.head _)
              simp only [List.mem_append, List.mem_singleton, List.not_mem_nil, false_or] at ha
              omega
            · intro e he hn
              rcases List.mem_cons.1 he with rfl | he
              · refine ⟨fun _ => ?_, fun h => Bool.noConfusion (show true = false from h)⟩
                refine ⟨rfl, [st1], _, rfl, (List.Mem.head _), ?_⟩
                refine ⟨hM0, ?_⟩
                refine ⟨fun hk => ?_, fun hk => ?_⟩
                · have hk : keep.tmod (rM b0 s0) < 0 := of_decide_eq_true hk
                  obtain ⟨hW0, h0W0, h1W0⟩ := rW1 (n := n0) hS0 hB0 hk
                  refine ⟨h0W0, Nat.zero_le _, lmle h1W0, ?_⟩
                  refine roundsR_succ ?_
                  refine ⟨hfr, Nat.le_refl _, ?_, ?_⟩
                  · intro _
                    refine ⟨fun h => Bool.noConfusion (show false = true from h), fun _ => ?_⟩
                    refine ⟨[.cls 1000000000 999000000 ⟨70, 73, 5, [fcut (n0, b0, s0) keep, fcut (n1, b1, s1) keep], room, -1, false, nb⟩ [999000001, 999000002] [.own 999000000, .own 999000001]], ?_⟩
                    refine ⟨rfl, _, rfl, ⟨rfl, rst_box hW0 h0W0 h1W0, (fun h => by cases h), ⟨rfl, rst_box hW1 h0W1 h1W1, (fun h => by cases h), trivial⟩⟩, by kernel_rfl, hnb, ?_⟩
                    refine ⟨1, rfl, ?_⟩
                    exact hK
                  · intro e he hn
                    exfalso
                    rcases List.mem_cons.1 he with rfl | he
                    · exact hn (.tail _ (List.Mem.head _))
                    · rcases List.mem_cons.1 he with rfl | he
                      · exact hn (List.Mem.head _)
                      · exact absurd he List.not_mem_nil
                · have hk : ¬ keep.tmod (rM b0 s0) < 0 := of_decide_eq_false hk
                  obtain ⟨hW0, h0W0, h1W0⟩ := rW0 (n := n0) hS0 hB0 hk
                  refine ⟨h0W0, Nat.zero_le _, lmle h1W0, ?_⟩
                  refine roundsR_succ ?_
                  refine ⟨hfr, Nat.le_refl _, ?_, ?_⟩
                  · intro _
                    refine ⟨fun h => Bool.noConfusion (show false = true from h), fun _ => ?_⟩
                    refine ⟨[.cls 1000000000 999000000 ⟨70, 73, 5, [fcut (n0, b0, s0) keep, fcut (n1, b1, s1) keep], room, -1, false, nb⟩ [999000001, 999000002] [.own 999000000, .own 999000001]], ?_⟩
                    refine ⟨rfl, _, rfl, ⟨rfl, rst_box hW0 h0W0 h1W0, (fun h => by cases h), ⟨rfl, rst_box hW1 h0W1 h1W1, (fun h => by cases h), trivial⟩⟩, by kernel_rfl, hnb, ?_⟩
                    refine ⟨1, rfl, ?_⟩
                    exact hK
                  · intro e he hn
                    exfalso
                    rcases List.mem_cons.1 he with rfl | he
                    · exact hn (.tail _ (List.Mem.head _))
                    · rcases List.mem_cons.1 he with rfl | he
                      · exact hn (List.Mem.head _)
                      · exact absurd he List.not_mem_nil
              · rcases List.mem_cons.1 he with rfl | he
                · exact absurd (List.Mem.head _) hn
                · exact absurd he List.not_mem_nil
        · exact absurd he List.not_mem_nil
  have hS2 : 0 ≤ s2 ∧ s2 ≤ b2.length := hsafe _ (.tail _ (.tail _ (List.Mem.head _)))
  have hB2 : b2.length ≤ 262144 := by omega
  have hM2 : rM b2 s2 ≠ 0 := by rw [rM_eq hS2 hB2]; have := hS2.2; omega
  intro st clock hl hp hc
  obtain ⟨st0, st1, st2, rfl⟩ := lenE3 hl
  have hfr := fresh3 (x := (.int .i64 n0, .ptr 999000001 0)) (y := (.int .i64 n1, .ptr 999000002 0)) (z := (.int .i64 n2, .ptr 999000003 0)) hc
  simp only [List.pairwise_cons, List.mem_cons, List.not_mem_nil, or_false, forall_eq_or_imp, forall_eq] at hp
  refine loopR 4 (roundsR_succ ?_)
  refine ⟨hfr, Nat.le_refl _, ?_, ?_⟩
  · intro ha
    exfalso
    have ha := ha _ (List.Mem.head _)
    exact absurd ha List.not_mem_nil
  · intro e he hn
    rcases List.mem_cons.1 he with rfl | he
    · refine ⟨fun _ => ?_, fun h => Bool.noConfusion (show true = false from h)⟩
      refine ⟨rfl, [], _, rfl, (List.Mem.head _), ?_⟩
      refine ⟨hM0, ?_⟩
      refine ⟨fun hk => ?_, fun hk => ?_⟩
      · have hk : keep.tmod (rM b0 s0) < 0 := of_decide_eq_true hk
        obtain ⟨hW0, h0W0, h1W0⟩ := rW1 (n := n0) hS0 hB0 hk
        refine ⟨h0W0, Nat.zero_le _, lmle h1W0, ?_⟩
        refine roundsR_succ ?_
        refine ⟨hfr, Nat.le_refl _, ?_, ?_⟩
        · intro ha
          exfalso
          have ha := ha _ (.tail _ (List.Mem.head _))
          simp only [List.mem_append, List.mem_singleton, List.not_mem_nil, false_or] at ha
          omega
        · intro e he hn
          rcases List.mem_cons.1 he with rfl | he
          · exact absurd (List.Mem.head _) hn
          · rcases List.mem_cons.1 he with rfl | he
            · refine ⟨fun _ => ?_, fun h => Bool.noConfusion (show true = false from h)⟩
              refine ⟨rfl, [st0], _, rfl, (.tail _ (List.Mem.head _)), ?_⟩
              refine ⟨hM1, ?_⟩
              refine ⟨fun hk => ?_, fun hk => ?_⟩
              · have hk : keep.tmod (rM b1 s1) < 0 := of_decide_eq_true hk
                obtain ⟨hW1, h0W1, h1W1⟩ := rW1 (n := n1) hS1 hB1 hk
                refine ⟨h0W1, Nat.zero_le _, lmle h1W1, ?_⟩
                refine roundsR_succ ?_
                refine ⟨hfr, Nat.le_refl _, ?_, ?_⟩
                · intro ha
                  exfalso
                  have ha := ha _ (.tail _ (.tail _ (List.Mem.head _)))
                  simp only [List.mem_append, List.mem_singleton, List.not_mem_nil, false_or] at ha
                  omega
                · intro e he hn
                  rcases List.mem_cons.1 he with rfl | he
                  · exact absurd (List.Mem.head _) hn
                  · rcases List.mem_cons.1 he with rfl | he
                    · exact absurd (.tail _ (List.Mem.head _)) hn
                    · rcases List.mem_cons.1 he with rfl | he
                      · refine ⟨fun _ => ?_, fun h => Bool.noConfusion (show true = false from h)⟩
                        refine ⟨rfl, [st0, st1], _, rfl, (.tail _ (.tail _ (List.Mem.head _))), ?_⟩
                        refine ⟨hM2, ?_⟩
                        refine ⟨fun hk => ?_, fun hk => ?_⟩
                        · have hk : keep.tmod (rM b2 s2) < 0 := of_decide_eq_true hk
                          obtain ⟨hW2, h0W2, h1W2⟩ := rW1 (n := n2) hS2 hB2 hk
                          refine ⟨h0W2, Nat.zero_le _, lmle h1W2, ?_⟩
                          refine roundsR_succ ?_
                          refine ⟨hfr, Nat.le_refl _, ?_, ?_⟩
                          · intro _
                            refine ⟨fun h => Bool.noConfusion (show false = true from h), fun _ => ?_⟩
                            refine ⟨[.cls 1000000000 999000000 ⟨70, 73, 5, [fcut (n0, b0, s0) keep, fcut (n1, b1, s1) keep, fcut (n2, b2, s2) keep], room, -1, false, nb⟩ [999000001, 999000002, 999000003] [.own 999000000, .own 999000001, .own 999000002]], ?_⟩
                            refine ⟨rfl, _, rfl, ⟨rfl, rst_box hW0 h0W0 h1W0, (fun h => by cases h), ⟨rfl, rst_box hW1 h0W1 h1W1, (fun h => by cases h), ⟨rfl, rst_box hW2 h0W2 h1W2, (fun h => by cases h), trivial⟩⟩⟩, by kernel_rfl, hnb, ?_⟩
                            refine ⟨1, rfl, ?_⟩
                            exact hK
                          · intro e he hn
                            exfalso
                            rcases List.mem_cons.1 he with rfl | he
                            · exact hn (List.Mem.head _)
                            · rcases List.mem_cons.1 he with rfl | he
                              · exact hn (.tail _ (List.Mem.head _))
                              · rcases List.mem_cons.1 he with rfl | he
                                · exact hn (.tail _ (.tail _ (List.Mem.head _)))
                                · exact absurd he List.not_mem_nil
                        · have hk : ¬ keep.tmod (rM b2 s2) < 0 := of_decide_eq_false hk
                          obtain ⟨hW2, h0W2, h1W2⟩ := rW0 (n := n2) hS2 hB2 hk
                          refine ⟨h0W2, Nat.zero_le _, lmle h1W2, ?_⟩
                          refine roundsR_succ ?_
                          refine ⟨hfr, Nat.le_refl _, ?_, ?_⟩
                          · intro _
                            refine ⟨fun h => Bool.noConfusion (show false = true from h), fun _ => ?_⟩
                            refine ⟨[.cls 1000000000 999000000 ⟨70, 73, 5, [fcut (n0, b0, s0) keep, fcut (n1, b1, s1) keep, fcut (n2, b2, s2) keep], room, -1, false, nb⟩ [999000001, 999000002, 999000003] [.own 999000000, .own 999000001, .own 999000002]], ?_⟩
                            refine ⟨rfl, _, rfl, ⟨rfl, rst_box hW0 h0W0 h1W0, (fun h => by cases h), ⟨rfl, rst_box hW1 h0W1 h1W1, (fun h => by cases h), ⟨rfl, rst_box hW2 h0W2 h1W2, (fun h => by cases h), trivial⟩⟩⟩, by kernel_rfl, hnb, ?_⟩
                            refine ⟨1, rfl, ?_⟩
                            exact hK
                          · intro e he hn
                            exfalso
                            rcases List.mem_cons.1 he with rfl | he
                            · exact hn (List.Mem.head _)
                            · rcases List.mem_cons.1 he with rfl | he
                              · exact hn (.tail _ (List.Mem.head _))
                              · rcases List.mem_cons.1 he with rfl | he
                                · exact hn (.tail _ (.tail _ (List.Mem.head _)))
                                · exact absurd he List.not_mem_nil
                      · exact absurd he List.not_mem_nil
              · have hk : ¬ keep.tmod (rM b1 s1) < 0 := of_decide_eq_false hk
                obtain ⟨hW1, h0W1, h1W1⟩ := rW0 (n := n1) hS1 hB1 hk
                refine ⟨h0W1, Nat.zero_le _, lmle h1W1, ?_⟩
                refine roundsR_succ ?_
                refine ⟨hfr, Nat.le_refl _, ?_, ?_⟩
                · intro ha
                  exfalso
                  have ha := ha _ (.tail _ (.tail _ (List.Mem.head _)))
                  simp only [List.mem_append, List.mem_singleton, List.not_mem_nil, false_or] at ha
                  omega
                · intro e he hn
                  rcases List.mem_cons.1 he with rfl | he
                  · exact absurd (List.Mem.head _) hn
                  · rcases List.mem_cons.1 he with rfl | he
                    · exact absurd (.tail _ (List.Mem.head _)) hn
                    · rcases List.mem_cons.1 he with rfl | he
                      · refine ⟨fun _ => ?_, fun h => Bool.noConfusion (show true = false from h)⟩
                        refine ⟨rfl, [st0, st1], _, rfl, (.tail _ (.tail _ (List.Mem.head _))), ?_⟩
                        refine ⟨hM2, ?_⟩
                        refine ⟨fun hk => ?_, fun hk => ?_⟩
                        · have hk : keep.tmod (rM b2 s2) < 0 := of_decide_eq_true hk
                          obtain ⟨hW2, h0W2, h1W2⟩ := rW1 (n := n2) hS2 hB2 hk
                          refine ⟨h0W2, Nat.zero_le _, lmle h1W2, ?_⟩
                          refine roundsR_succ ?_
                          refine ⟨hfr, Nat.le_refl _, ?_, ?_⟩
                          · intro _
                            refine ⟨fun h => Bool.noConfusion (show false = true from h), fun _ => ?_⟩
                            refine ⟨[.cls 1000000000 999000000 ⟨70, 73, 5, [fcut (n0, b0, s0) keep, fcut (n1, b1, s1) keep, fcut (n2, b2, s2) keep], room, -1, false, nb⟩ [999000001, 999000002, 999000003] [.own 999000000, .own 999000001, .own 999000002]], ?_⟩
                            refine ⟨rfl, _, rfl, ⟨rfl, rst_box hW0 h0W0 h1W0, (fun h => by cases h), ⟨rfl, rst_box hW1 h0W1 h1W1, (fun h => by cases h), ⟨rfl, rst_box hW2 h0W2 h1W2, (fun h => by cases h), trivial⟩⟩⟩, by kernel_rfl, hnb, ?_⟩
                            refine ⟨1, rfl, ?_⟩
                            exact hK
                          · intro e he hn
                            exfalso
                            rcases List.mem_cons.1 he with rfl | he
                            · exact hn (List.Mem.head _)
                            · rcases List.mem_cons.1 he with rfl | he
                              · exact hn (.tail _ (List.Mem.head _))
                              · rcases List.mem_cons.1 he with rfl | he
                                · exact hn (.tail _ (.tail _ (List.Mem.head _)))
                                · exact absurd he List.not_mem_nil
                        · have hk : ¬ keep.tmod (rM b2 s2) < 0 := of_decide_eq_false hk
                          obtain ⟨hW2, h0W2, h1W2⟩ := rW0 (n := n2) hS2 hB2 hk
                          refine ⟨h0W2, Nat.zero_le _, lmle h1W2, ?_⟩
                          refine roundsR_succ ?_
                          refine ⟨hfr, Nat.le_refl _, ?_, ?_⟩
                          · intro _
                            refine ⟨fun h => Bool.noConfusion (show false = true from h), fun _ => ?_⟩
                            refine ⟨[.cls 1000000000 999000000 ⟨70, 73, 5, [fcut (n0, b0, s0) keep, fcut (n1, b1, s1) keep, fcut (n2, b2, s2) keep], room, -1, false, nb⟩ [999000001, 999000002, 999000003] [.own 999000000, .own 999000001, .own 999000002]], ?_⟩
                            refine ⟨rfl, _, rfl, ⟨rfl, rst_box hW0 h0W0 h1W0, (fun h => by cases h), ⟨rfl, rst_box hW1 h0W1 h1W1, (fun h => by cases h), ⟨rfl, rst_box hW2 h0W2 h1W2, (fun h => by cases h), trivial⟩⟩⟩, by kernel_rfl, hnb, ?_⟩
                            refine ⟨1, rfl, ?_⟩
                            exact hK
                          · intro e he hn
                            exfalso
                            rcases List.mem_cons.1 he with rfl | he
                            · exact hn (List.Mem.head _)
                            · rcases List.mem_cons.1 he with rfl | he
                              · exact hn (.tail _ (List.Mem.head _))
                              · rcases List.mem_cons.1 he with rfl | he
                                · exact hn (.tail _ (.tail _ (List.Mem.head _)))
                                · exact absurd he List.not_mem_nil
                      · exact absurd he List.not_mem_nil
            · rcases List.mem_cons.1 he with rfl | he
              · refine ⟨fun _ => ?_, fun h => Bool.noConfusion (show true = false from h)⟩
                refine ⟨rfl, [st0], _, rfl, (.tail _ (.tail _ (List.Mem.head _))), ?_⟩
                refine ⟨hM2, ?_⟩
                refine ⟨fun hk => ?_, fun hk => ?_⟩
                · have hk : keep.tmod (rM b2 s2) < 0 := of_decide_eq_true hk
                  obtain ⟨hW2, h0W2, h1W2⟩ := rW1 (n := n2) hS2 hB2 hk
                  refine ⟨h0W2, Nat.zero_le _, lmle h1W2, ?_⟩
                  refine roundsR_succ ?_
                  refine ⟨hfr, Nat.le_refl _, ?_, ?_⟩
                  · intro ha
                    exfalso
                    have ha := ha _ (.tail _ (List.Mem.head _))
                    simp only [List.mem_append, List.mem_singleton, List.not_mem_nil, false_or] at ha
                    omega
                  · intro e he hn
                    rcases List.mem_cons.1 he with rfl | he
                    · exact absurd (List.Mem.head _) hn
                    · rcases List.mem_cons.1 he with rfl | he
                      · refine ⟨fun _ => ?_, fun h => Bool.noConfusion (show true = false from h)⟩
                        refine ⟨rfl, [st0, st2], _, rfl, (.tail _ (List.Mem.head _)), ?_⟩
                        refine ⟨hM1, ?_⟩
                        refine ⟨fun hk => ?_, fun hk => ?_⟩
                        · have hk : keep.tmod (rM b1 s1) < 0 := of_decide_eq_true hk
                          obtain ⟨hW1, h0W1, h1W1⟩ := rW1 (n := n1) hS1 hB1 hk
                          refine ⟨h0W1, Nat.zero_le _, lmle h1W1, ?_⟩
                          refine roundsR_succ ?_
                          refine ⟨hfr, Nat.le_refl _, ?_, ?_⟩
                          · intro _
                            refine ⟨fun h => Bool.noConfusion (show false = true from h), fun _ => ?_⟩
                            refine ⟨[.cls 1000000000 999000000 ⟨70, 73, 5, [fcut (n0, b0, s0) keep, fcut (n1, b1, s1) keep, fcut (n2, b2, s2) keep], room, -1, false, nb⟩ [999000001, 999000002, 999000003] [.own 999000000, .own 999000001, .own 999000002]], ?_⟩
                            refine ⟨rfl, _, rfl, ⟨rfl, rst_box hW0 h0W0 h1W0, (fun h => by cases h), ⟨rfl, rst_box hW1 h0W1 h1W1, (fun h => by cases h), ⟨rfl, rst_box hW2 h0W2 h1W2, (fun h => by cases h), trivial⟩⟩⟩, by kernel_rfl, hnb, ?_⟩
                            refine ⟨1, rfl, ?_⟩
                            exact hK
                          · intro e he hn
                            exfalso
                            rcases List.mem_cons.1 he with rfl | he
                            · exact hn (List.Mem.head _)
                            · rcases List.mem_cons.1 he with rfl | he
                              · exact hn (.tail _ (.tail _ (List.Mem.head _)))
                              · rcases List.mem_cons.1 he with rfl | he
                                · exact hn (.tail _ (List.Mem.head _))
                                · exact absurd he List.not_mem_nil
                        · have hk : ¬ keep.tmod (rM b1 s1) < 0 := of_decide_eq_false hk
                          obtain ⟨hW1, h0W1, h1W1⟩ := rW0 (n := n1) hS1 hB1 hk
                          refine ⟨h0W1, Nat.zero_le _, lmle h1W1, ?_⟩
                          refine roundsR_succ ?_
                          refine ⟨hfr, Nat.le_refl _, ?_, ?_⟩
                          · intro _
                            refine ⟨fun h => Bool.noConfusion (show false = true from h), fun _ => ?_⟩
                            refine ⟨[.cls 1000000000 999000000 ⟨70, 73, 5, [fcut (n0, b0, s0) keep, fcut (n1, b1, s1) keep, fcut (n2, b2, s2) keep], room, -1, false, nb⟩ [999000001, 999000002, 999000003] [.own 999000000, .own 999000001, .own 999000002]], ?_⟩
                            refine ⟨rfl, _, rfl, ⟨rfl, rst_box hW0 h0W0 h1W0, (fun h => by cases h), ⟨rfl, rst_box hW1 h0W1 h1W1, (fun h => by cases h), ⟨rfl, rst_box hW2 h0W2 h1W2, (fun h => by cases h), trivial⟩⟩⟩, by kernel_rfl, hnb, ?_⟩
                            refine ⟨1, rfl, ?_⟩
                            exact hK
                          · intro e he hn
                            exfalso
                            rcases List.mem_cons.1 he with rfl | he
                            · exact hn (List.Mem.head _)
                            · rcases List.mem_cons.1 he with rfl | he
                              · exact hn (.tail _ (.tail _ (List.Mem.head _)))
                              · rcases List.mem_cons.1 he with rfl | he
                                · exact hn (.tail _ (List.Mem.head _))
                                · exact absurd he List.not_mem_nil
                      · rcases List.mem_cons.1 he with rfl | he
                        · exact absurd (.tail _ (List.Mem.head _)) hn
                        · exact absurd he List.not_mem_nil
                · have hk : ¬ keep.tmod (rM b2 s2) < 0 := of_decide_eq_false hk
                  obtain ⟨hW2, h0W2, h1W2⟩ := rW0 (n := n2) hS2 hB2 hk
                  refine ⟨h0W2, Nat.zero_le _, lmle h1W2, ?_⟩
                  refine roundsR_succ ?_
                  refine ⟨hfr, Nat.le_refl _, ?_, ?_⟩
                  · intro ha
                    exfalso
                    have ha := ha _ (.tail _ (List.Mem.head _))
                    simp only [List.mem_append, List.mem_singleton, List.not_mem_nil, false_or] at ha
                    omega
                  · intro e he hn
                    rcases List.mem_cons.1 he with rfl | he
                    · exact absurd (List.Mem.head _) hn
                    · rcases List.mem_cons.1 he with rfl | he
                      · refine ⟨fun _ => ?_, fun h => Bool.noConfusion (show true = false from h)⟩
                        refine ⟨rfl, [st0, st2], _, rfl, (.tail _ (List.Mem.head _)), ?_⟩
                        refine ⟨hM1, ?_⟩
                        refine ⟨fun hk => ?_, fun hk => ?_⟩
                        · have hk : keep.tmod (rM b1 s1) < 0 := of_decide_eq_true hk
                          obtain ⟨hW1, h0W1, h1W1⟩ := rW1 (n := n1) hS1 hB1 hk
                          refine ⟨h0W1, Nat.zero_le _, lmle h1W1, ?_⟩
                          refine roundsR_succ ?_
                          refine ⟨hfr, Nat.le_refl _, ?_, ?_⟩
                          · intro _
                            refine ⟨fun h => Bool.noConfusion (show false = true from h), fun _ => ?_⟩
                            refine ⟨[.cls 1000000000 999000000 ⟨70, 73, 5, [fcut (n0, b0, s0) keep, fcut (n1, b1, s1) keep, fcut (n2, b2, s2) keep], room, -1, false, nb⟩ [999000001, 999000002, 999000003] [.own 999000000, .own 999000001, .own 999000002]], ?_⟩
                            refine ⟨rfl, _, rfl, ⟨rfl, rst_box hW0 h0W0 h1W0, (fun h => by cases h), ⟨rfl, rst_box hW1 h0W1 h1W1, (fun h => by cases h), ⟨rfl, rst_box hW2 h0W2 h1W2, (fun h => by cases h), trivial⟩⟩⟩, by kernel_rfl, hnb, ?_⟩
                            refine ⟨1, rfl, ?_⟩
                            exact hK
                          · intro e he hn
                            exfalso
                            rcases List.mem_cons.1 he with rfl | he
                            · exact hn (List.Mem.head _)
                            · rcases List.mem_cons.1 he with rfl | he
                              · exact hn (.tail _ (.tail _ (List.Mem.head _)))
                              · rcases List.mem_cons.1 he with rfl | he
                                · exact hn (.tail _ (List.Mem.head _))
                                · exact absurd he List.not_mem_nil
                        · have hk : ¬ keep.tmod (rM b1 s1) < 0 := of_decide_eq_false hk
                          obtain ⟨hW1, h0W1, h1W1⟩ := rW0 (n := n1) hS1 hB1 hk
                          refine ⟨h0W1, Nat.zero_le _, lmle h1W1, ?_⟩
                          refine roundsR_succ ?_
                          refine ⟨hfr, Nat.le_refl _, ?_, ?_⟩
                          · intro _
                            refine ⟨fun h => Bool.noConfusion (show false = true from h), fun _ => ?_⟩
                            refine ⟨[.cls 1000000000 999000000 ⟨70, 73, 5, [fcut (n0, b0, s0) keep, fcut (n1, b1, s1) keep, fcut (n2, b2, s2) keep], room, -1, false, nb⟩ [999000001, 999000002, 999000003] [.own 999000000, .own 999000001, .own 999000002]], ?_⟩
                            refine ⟨rfl, _, rfl, ⟨rfl, rst_box hW0 h0W0 h1W0, (fun h => by cases h), ⟨rfl, rst_box hW1 h0W1 h1W1, (fun h => by cases h), ⟨rfl, rst_box hW2 h0W2 h1W2, (fun h => by cases h), trivial⟩⟩⟩, by kernel_rfl, hnb, ?_⟩
                            refine ⟨1, rfl, ?_⟩
                            exact hK
                          · intro e he hn
                            exfalso
                            rcases List.mem_cons.1 he with rfl | he
                            · exact hn (List.Mem.head _)
                            · rcases List.mem_cons.1 he with rfl | he
                              · exact hn (.tail _ (.tail _ (List.Mem.head _)))
                              · rcases List.mem_cons.1 he with rfl | he
                                · exact hn (.tail _ (List.Mem.head _))
                                · exact absurd he List.not_mem_nil
                      · rcases List.mem_cons.1 he with rfl | he
                        · exact absurd (.tail _ (List.Mem.head _)) hn
                        · exact absurd he List.not_mem_nil
              · exact absurd he List.not_mem_nil
      · have hk : ¬ keep.tmod (rM b0 s0) < 0 := of_decide_eq_false hk
        obtain ⟨hW0, h0W0, h1W0⟩ := rW0 (n := n0) hS0 hB0 hk
        refine ⟨h0W0, Nat.zero_le _, lmle h1W0, ?_⟩
        refine roundsR_succ ?_
        refine ⟨hfr, Nat.le_refl _, ?_, ?_⟩
        · intro ha
          exfalso
          have ha := ha _ (.tail _ (List.Mem.head _))
          simp only [List.mem_append, List.mem_singleton, List.not_mem_nil, false_or] at ha
          omega
        · intro e he hn
          rcases List.mem_cons.1 he with rfl | he
          · exact absurd (List.Mem.head _) hn
          · rcases List.mem_cons.1 he with rfl | he
            · refine ⟨fun _ => ?_, fun h => Bool.noConfusion (show true = false from h)⟩
              refine ⟨rfl, [st0], _, rfl, (.tail _ (List.Mem.head _)), ?_⟩
              refine ⟨hM1, ?_⟩
              refine ⟨fun hk => ?_, fun hk => ?_⟩
              · have hk : keep.tmod (rM b1 s1) < 0 := of_decide_eq_true hk
                obtain ⟨hW1, h0W1, h1W1⟩ := rW1 (n := n1) hS1 hB1 hk
                refine ⟨h0W1, Nat.zero_le _, lmle h1W1, ?_⟩
                refine roundsR_succ ?_
                refine ⟨hfr, Nat.le_refl _, ?_, ?_⟩
                · intro ha
                  exfalso
                  have ha := ha _ (.tail _ (.tail _ (List.Mem.head _)))
                  simp only [List.mem_append, List.mem_singleton, List.not_mem_nil, false_or] at ha
                  omega
                · intro e he hn
                  rcases List.mem_cons.1 he with rfl | he
                  · exact absurd (List.Mem.head _) hn
                  · rcases List.mem_cons.1 he with rfl | he
                    · exact absurd (.tail _ (List.Mem.head _)) hn
                    · rcases List.mem_cons.1 he with rfl | he
                      · refine ⟨fun _ => ?_, fun h => Bool.noConfusion (show true = false from h)⟩
                        refine ⟨rfl, [st0, st1], _, rfl, (.tail _ (.tail _ (List.Mem.head _))), ?_⟩
                        refine ⟨hM2, ?_⟩
                        refine ⟨fun hk => ?_, fun hk => ?_⟩
                        · have hk : keep.tmod (rM b2 s2) < 0 := of_decide_eq_true hk
                          obtain ⟨hW2, h0W2, h1W2⟩ := rW1 (n := n2) hS2 hB2 hk
                          refine ⟨h0W2, Nat.zero_le _, lmle h1W2, ?_⟩
                          refine roundsR_succ ?_
                          refine ⟨hfr, Nat.le_refl _, ?_, ?_⟩
                          · intro _
                            refine ⟨fun h => Bool.noConfusion (show false = true from h), fun _ => ?_⟩
                            refine ⟨[.cls 1000000000 999000000 ⟨70, 73, 5, [fcut (n0, b0, s0) keep, fcut (n1, b1, s1) keep, fcut (n2, b2, s2) keep], room, -1, false, nb⟩ [999000001, 999000002, 999000003] [.own 999000000, .own 999000001, .own 999000002]], ?_⟩
                            refine ⟨rfl, _, rfl, ⟨rfl, rst_box hW0 h0W0 h1W0, (fun h => by cases h), ⟨rfl, rst_box hW1 h0W1 h1W1, (fun h => by cases h), ⟨rfl, rst_box hW2 h0W2 h1W2, (fun h => by cases h), trivial⟩⟩⟩, by kernel_rfl, hnb, ?_⟩
                            refine ⟨1, rfl, ?_⟩
                            exact hK
                          · intro e he hn
                            exfalso
                            rcases List.mem_cons.1 he with rfl | he
                            · exact hn (List.Mem.head _)
                            · rcases List.mem_cons.1 he with rfl | he
                              · exact hn (.tail _ (List.Mem.head _))
                              · rcases List.mem_cons.1 he with rfl | he
                                · exact hn (.tail _ (.tail _ (List.Mem.head _)))
                                · exact absurd he List.not_mem_nil
                        · have hk : ¬ keep.tmod (rM b2 s2) < 0 := of_decide_eq_false hk
                          obtain ⟨hW2, h0W2, h1W2⟩ := rW0 (n := n2) hS2 hB2 hk
                          refine ⟨h0W2, Nat.zero_le _, lmle h1W2, ?_⟩
                          refine roundsR_succ ?_
                          refine ⟨hfr, Nat.le_refl _, ?_, ?_⟩
                          · intro _
                            refine ⟨fun h => Bool.noConfusion (show false = true from h), fun _ => ?_⟩
                            refine ⟨[.cls 1000000000 999000000 ⟨70, 73, 5, [fcut (n0, b0, s0) keep, fcut (n1, b1, s1) keep, fcut (n2, b2, s2) keep], room, -1, false, nb⟩ [999000001, 999000002, 999000003] [.own 999000000, .own 999000001, .own 999000002]], ?_⟩
                            refine ⟨rfl, _, rfl, ⟨rfl, rst_box hW0 h0W0 h1W0, (fun h => by cases h), ⟨rfl, rst_box hW1 h0W1 h1W1, (fun h => by cases h), ⟨rfl, rst_box hW2 h0W2 h1W2, (fun h => by cases h), trivial⟩⟩⟩, by kernel_rfl, hnb, ?_⟩
                            refine ⟨1, rfl, ?_⟩
                            exact hK
                          · intro e he hn
                            exfalso
                            rcases List.mem_cons.1 he with rfl | he
                            · exact hn (List.Mem.head _)
                            · rcases List.mem_cons.1 he with rfl | he
                              · exact hn (.tail _ (List.Mem.head _))
                              · rcases List.mem_cons.1 he with rfl | he
                                · exact hn (.tail _ (.tail _ (List.Mem.head _)))
                                · exact absurd he List.not_mem_nil
                      · exact absurd he List.not_mem_nil
              · have hk : ¬ keep.tmod (rM b1 s1) < 0 := of_decide_eq_false hk
                obtain ⟨hW1, h0W1, h1W1⟩ := rW0 (n := n1) hS1 hB1 hk
                refine ⟨h0W1, Nat.zero_le _, lmle h1W1, ?_⟩
                refine roundsR_succ ?_
                refine ⟨hfr, Nat.le_refl _, ?_, ?_⟩
                · intro ha
                  exfalso
                  have ha := ha _ (.tail _ (.tail _ (List.Mem.head _)))
                  simp only [List.mem_append, List.mem_singleton, List.not_mem_nil, false_or] at ha
                  omega
                · intro e he hn
                  rcases List.mem_cons.1 he with rfl | he
                  · exact absurd (List.Mem.head _) hn
                  · rcases List.mem_cons.1 he with rfl | he
                    · exact absurd (.tail _ (List.Mem.head _)) hn
                    · rcases List.mem_cons.1 he with rfl | he
                      · refine ⟨fun _ => ?_, fun h => Bool.noConfusion (show true = false from h)⟩
                        refine ⟨rfl, [st0, st1], _, rfl, (.tail _ (.tail _ (List.Mem.head _))), ?_⟩
                        refine ⟨hM2, ?_⟩
                        refine ⟨fun hk => ?_, fun hk => ?_⟩
                        · have hk : keep.tmod (rM b2 s2) < 0 := of_decide_eq_true hk
                          obtain ⟨hW2, h0W2, h1W2⟩ := rW1 (n := n2) hS2 hB2 hk
                          refine ⟨h0W2, Nat.zero_le _, lmle h1W2, ?_⟩
                          refine roundsR_succ ?_
                          refine ⟨hfr, Nat.le_refl _, ?_, ?_⟩
                          · intro _
                            refine ⟨fun h => Bool.noConfusion (show false = true from h), fun _ => ?_⟩
                            refine ⟨[.cls 1000000000 999000000 ⟨70, 73, 5, [fcut (n0, b0, s0) keep, fcut (n1, b1, s1) keep, fcut (n2, b2, s2) keep], room, -1, false, nb⟩ [999000001, 999000002, 999000003] [.own 999000000, .own 999000001, .own 999000002]], ?_⟩
                            refine ⟨rfl, _, rfl, ⟨rfl, rst_box hW0 h0W0 h1W0, (fun h => by cases h), ⟨rfl, rst_box hW1 h0W1 h1W1, (fun h => by cases h), ⟨rfl, rst_box hW2 h0W2 h1W2, (fun h => by cases h), trivial⟩⟩⟩, by kernel_rfl, hnb, ?_⟩
                            refine ⟨1, rfl, ?_⟩
                            exact hK
                          · intro e he hn
                            exfalso
                            rcases List.mem_cons.1 he with rfl | he
                            · exact hn (List.Mem.head _)
                            · rcases List.mem_cons.1 he with rfl | he
                              · exact hn (.tail _ (List.Mem.head _))
                              · rcases List.mem_cons.1 he with rfl | he
                                · exact hn (.tail _ (.tail _ (List.Mem.head _)))
                                · exact absurd he List.not_mem_nil
                        · have hk : ¬ keep.tmod (rM b2 s2) < 0 := of_decide_eq_false hk
                          obtain ⟨hW2, h0W2, h1W2⟩ := rW0 (n := n2) hS2 hB2 hk
                          refine ⟨h0W2, Nat.zero_le _, lmle h1W2, ?_⟩
                          refine roundsR_succ ?_
                          refine ⟨hfr, Nat.le_refl _, ?_, ?_⟩
                          · intro _
                            refine ⟨fun h => Bool.noConfusion (show false = true from h), fun _ => ?_⟩
                            refine ⟨[.cls 1000000000 999000000 ⟨70, 73, 5, [fcut (n0, b0, s0) keep, fcut (n1, b1, s1) keep, fcut (n2, b2, s2) keep], room, -1, false, nb⟩ [999000001, 999000002, 999000003] [.own 999000000, .own 999000001, .own 999000002]], ?_⟩
                            refine ⟨rfl, _, rfl, ⟨rfl, rst_box hW0 h0W0 h1W0, (fun h => by cases h), ⟨rfl, rst_box hW1 h0W1 h1W1, (fun h => by cases h), ⟨rfl, rst_box hW2 h0W2 h1W2, (fun h => by cases h), trivial⟩⟩⟩, by kernel_rfl, hnb, ?_⟩
                            refine ⟨1, rfl, ?_⟩
                            exact hK
                          · intro e he hn
                            exfalso
                            rcases List.mem_cons.1 he with rfl | he
                            · exact hn (List.Mem.head _)
                            · rcases List.mem_cons.1 he with rfl | he
                              · exact hn (.tail _ (List.Mem.head _))
                              · rcases List.mem_cons.1 he with rfl | he
                                · exact hn (.tail _ (.tail _ (List.Mem.head _)))
                                · exact absurd he List.not_mem_nil
                      · exact absurd he List.not_mem_nil
            · rcases List.mem_cons.1 he with rfl | he
              · refine ⟨fun _ => ?_, fun h => Bool.noConfusion (show true = false from h)⟩
                refine ⟨rfl, [st0], _, rfl, (.tail _ (.tail _ (List.Mem.head _))), ?_⟩
                refine ⟨hM2, ?_⟩
                refine ⟨fun hk => ?_, fun hk => ?_⟩
                · have hk : keep.tmod (rM b2 s2) < 0 := of_decide_eq_true hk
                  obtain ⟨hW2, h0W2, h1W2⟩ := rW1 (n := n2) hS2 hB2 hk
                  refine ⟨h0W2, Nat.zero_le _, lmle h1W2, ?_⟩
                  refine roundsR_succ ?_
                  refine ⟨hfr, Nat.le_refl _, ?_, ?_⟩
                  · intro ha
                    exfalso
                    have ha := ha _ (.tail _ (List.Mem.head _))
                    simp only [List.mem_append, List.mem_singleton, List.not_mem_nil, false_or] at ha
                    omega
                  · intro e he hn
                    rcases List.mem_cons.1 he with rfl | he
                    · exact absurd (List.Mem.head _) hn
                    · rcases List.mem_cons.1 he with rfl | he
                      · refine ⟨fun _ => ?_, fun h => Bool.noConfusion (show true = false from h)⟩
                        refine ⟨rfl, [st0, st2], _, rfl, (.tail _ (List.Mem.head _)), ?_⟩
                        refine ⟨hM1, ?_⟩
                        refine ⟨fun hk => ?_, fun hk => ?_⟩
                        · have hk : keep.tmod (rM b1 s1) < 0 := of_decide_eq_true hk
                          obtain ⟨hW1, h0W1, h1W1⟩ := rW1 (n := n1) hS1 hB1 hk
                          refine ⟨h0W1, Nat.zero_le _, lmle h1W1, ?_⟩
                          refine roundsR_succ ?_
                          refine ⟨hfr, Nat.le_refl _, ?_, ?_⟩
                          · intro _
                            refine ⟨fun h => Bool.noConfusion (show false = true from h), fun _ => ?_⟩
                            refine ⟨[.cls 1000000000 999000000 ⟨70, 73, 5, [fcut (n0, b0, s0) keep, fcut (n1, b1, s1) keep, fcut (n2, b2, s2) keep], room, -1, false, nb⟩ [999000001, 999000002, 999000003] [.own 999000000, .own 999000001, .own 999000002]], ?_⟩
                            refine ⟨rfl, _, rfl, ⟨rfl, rst_box hW0 h0W0 h1W0, (fun h => by cases h), ⟨rfl, rst_box hW1 h0W1 h1W1, (fun h => by cases h), ⟨rfl, rst_box hW2 h0W2 h1W2, (fun h => by cases h), trivial⟩⟩⟩, by kernel_rfl, hnb, ?_⟩
                            refine ⟨1, rfl, ?_⟩
                            exact hK
                          · intro e he hn
                            exfalso
                            rcases List.mem_cons.1 he with rfl | he
                            · exact hn (List.Mem.head _)
                            · rcases List.mem_cons.1 he with rfl | he
                              · exact hn (.tail _ (.tail _ (List.Mem.head _)))
                              · rcases List.mem_cons.1 he with rfl | he
                                · exact hn (.tail _ (List.Mem.head _))
                                · exact absurd he List.not_mem_nil
                        · have hk : ¬ keep.tmod (rM b1 s1) < 0 := of_decide_eq_false hk
                          obtain ⟨hW1, h0W1, h1W1⟩ := rW0 (n := n1) hS1 hB1 hk
                          refine ⟨h0W1, Nat.zero_le _, lmle h1W1, ?_⟩
                          refine roundsR_succ ?_
                          refine ⟨hfr, Nat.le_refl _, ?_, ?_⟩
                          · intro _
                            refine ⟨fun h => Bool.noConfusion (show false = true from h), fun _ => ?_⟩
                            refine ⟨[.cls 1000000000 999000000 ⟨70, 73, 5, [fcut (n0, b0, s0) keep, fcut (n1, b1, s1) keep, fcut (n2, b2, s2) keep], room, -1, false, nb⟩ [999000001, 999000002, 999000003] [.own 999000000, .own 999000001, .own 999000002]], ?_⟩
                            refine ⟨rfl, _, rfl, ⟨rfl, rst_box hW0 h0W0 h1W0, (fun h => by cases h), ⟨rfl, rst_box hW1 h0W1 h1W1, (fun h => by cases h), ⟨rfl, rst_box hW2 h0W2 h1W2, (fun h => by cases h), trivial⟩⟩⟩, by kernel_rfl, hnb, ?_⟩
                            refine ⟨1, rfl, ?_⟩
                            exact hK
                          · intro e he hn
                            exfalso
                            rcases List.mem_cons.1 he with rfl | he
                            · exact hn (List.Mem.head _)
                            · rcases List.mem_cons.1 he with rfl | he
                              · exact hn (.tail _ (.tail _ (List.Mem.head _)))
                              · rcases List.mem_cons.1 he with rfl | he
                                · exact hn (.tail _ (List.Mem.head _))
                                · exact absurd he List.not_mem_nil
                      · rcases List.mem_cons.1 he with rfl | he
                        · exact absurd (.tail _ (List.Mem.head _)) hn
                        · exact absurd he List.not_mem_nil
                · have hk : ¬ keep.tmod (rM b2 s2) < 0 := of_decide_eq_false hk
                  obtain ⟨hW2, h0W2, h1W2⟩ := rW0 (n := n2) hS2 hB2 hk
                  refine ⟨h0W2, Nat.zero_le _, lmle h1W2, ?_⟩
                  refine roundsR_succ ?_
                  refine ⟨hfr, Nat.le_refl _, ?_, ?_⟩
                  · intro ha
                    exfalso
                    have ha := ha _ (.tail _ (List.Mem.head _))
                    simp only [List.mem_append, List.mem_singleton, List.not_mem_nil, false_or] at ha
                    omega
                  · intro e he hn
                    rcases List.mem_cons.1 he with rfl | he
                    · exact absurd (List.Mem.head _) hn
                    · rcases List.mem_cons.1 he with rfl | he
                      · refine ⟨fun _ => ?_, fun h => Bool.noConfusion (show true = false from h)⟩
                        refine ⟨rfl, [st0, st2], _, rfl, (.tail _ (List.Mem.head _)), ?_⟩
                        refine ⟨hM1, ?_⟩
                        refine ⟨fun hk => ?_, fun hk => ?_⟩
                        · have hk : keep.tmod (rM b1 s1) < 0 := of_decide_eq_true hk
                          obtain ⟨hW1, h0W1, h1W1⟩ := rW1 (n := n1) hS1 hB1 hk
                          refine ⟨h0W1, Nat.zero_le _, lmle h1W1, ?_⟩
                          refine roundsR_succ ?_
                          refine ⟨hfr, Nat.le_refl _, ?_, ?_⟩
                          · intro _
                            refine ⟨fun h => Bool.noConfusion (show false = true from h), fun _ => ?_⟩
                            refine ⟨[.cls 1000000000 999000000 ⟨70, 73, 5, [fcut (n0, b0, s0) keep, fcut (n1, b1, s1) keep, fcut (n2, b2, s2) keep], room, -1, false, nb⟩ [999000001, 999000002, 999000003] [.own 999000000, .own 999000001, .own 999000002]], ?_⟩
                            refine ⟨rfl, _, rfl, ⟨rfl, rst_box hW0 h0W0 h1W0, (fun h => by cases h), ⟨rfl, rst_box hW1 h0W1 h1W1, (fun h => by cases h), ⟨rfl, rst_box hW2 h0W2 h1W2, (fun h => by cases h), trivial⟩⟩⟩, by kernel_rfl, hnb, ?_⟩
                            refine ⟨1, rfl, ?_⟩
                            exact hK
                          · intro e he hn
                            exfalso
                            rcases List.mem_cons.1 he with rfl | he
                            · exact hn (List.Mem.head _)
                            · rcases List.mem_cons.1 he with rfl | he
                              · exact hn (.tail _ (.tail _ (List.Mem.head _)))
                              · rcases List.mem_cons.1 he with rfl | he
                                · exact hn (.tail _ (List.Mem.head _))
                                · exact absurd he List.not_mem_nil
                        · have hk : ¬ keep.tmod (rM b1 s1) < 0 := of_decide_eq_false hk
                          obtain ⟨hW1, h0W1, h1W1⟩ := rW0 (n := n1) hS1 hB1 hk
                          refine ⟨h0W1, Nat.zero_le _, lmle h1W1, ?_⟩
                          refine roundsR_succ ?_
                          refine ⟨hfr, Nat.le_refl _, ?_, ?_⟩
                          · intro _
                            refine ⟨fun h => Bool.noConfusion (show false = true from h), fun _ => ?_⟩
                            refine ⟨[.cls 1000000000 999000000 ⟨70, 73, 5, [fcut (n0, b0, s0) keep, fcut (n1, b1, s1) keep, fcut (n2, b2, s2) keep], room, -1, false, nb⟩ [999000001, 999000002, 999000003] [.own 999000000, .own 999000001, .own 999000002]], ?_⟩
                            refine ⟨rfl, _, rfl, ⟨rfl, rst_box hW0 h0W0 h1W0, (fun h => by cases h), ⟨rfl, rst_box hW1 h0W1 h1W1, (fun h => by cases h), ⟨rfl, rst_box hW2 h0W2 h1W2, (fun h => by cases h), trivial⟩⟩⟩, by kernel_rfl, hnb, ?_⟩
                            refine ⟨1, rfl, ?_⟩
                            exact hK
                          · intro e he hn
                            exfalso
                            rcases List.mem_cons.1 he with rfl | he
                            · exact hn (List.Mem.head _)
                            · rcases List.mem_cons.1 he with rfl | he
                              · exact hn (.tail _ (.tail _ (List.Mem.head _)))
                              · rcases List.mem_cons.1 he with rfl | he
                                · exact hn (.tail _ (List.Mem.head _))
                                · exact absurd he List.not_mem_nil
                      · rcases List.mem_cons.1 he with rfl | he
                        · exact absurd (.tail _ (List.Mem.head _)) hn
                        · exact absurd he List.not_mem_nil
              · exact absurd he List.not_mem_nil
    · rcases List.mem_cons.1 he with rfl | he
      · refine ⟨fun _ => ?_, fun h => Bool.noConfusion (show true = false from h)⟩
        refine ⟨rfl, [], _, rfl, (.tail _ (List.Mem.head _)), ?_⟩
        refine ⟨hM1, ?_⟩
        refine ⟨fun hk => ?_, fun hk => ?_⟩
        · have hk : keep.tmod (rM b1 s1) < 0 := of_decide_eq_true hk
          obtain ⟨hW1, h0W1, h1W1⟩ := rW1 (n := n1) hS1 hB1 hk
          refine ⟨h0W1, Nat.zero_le _, lmle h1W1, ?_⟩
          refine roundsR_succ ?_
          refine ⟨hfr, Nat.le_refl _, ?_, ?_⟩
          · intro ha
            exfalso
            have ha := ha _ (List.Mem.head _)
            simp only [List.mem_append, List.mem_singleton, List.not_mem_nil, false_or] at ha
            omega
          · intro e he hn
            rcases List.mem_cons.1 he with rfl | he
            · refine ⟨fun _ => ?_, fun h => Bool.noConfusion (show true = false from h)⟩
              refine ⟨rfl, [st1], _, rfl, (List.Mem.head _), ?_⟩
              refine ⟨hM0, ?_⟩
              refine ⟨fun hk => ?_, fun hk => ?_⟩
              · have hk : keep.tmod (rM b0 s0) < 0 := of_decide_eq_true hk
                obtain ⟨hW0, h0W0, h1W0⟩ := rW1 (n := n0) hS0 hB0 hk
                refine ⟨h0W0, Nat.zero_le _, lmle h1W0, ?_⟩
                refine roundsR_succ ?_
                refine ⟨hfr, Nat.le_refl _, ?_, ?_⟩
                · intro ha
                  exfalso
                  have ha := ha _ (.tail _ (.tail _ (List.Mem.head _)))
                  simp only [List.mem_append, List.mem_singleton, List.not_mem_nil, false_or] at ha
                  omega
                · intro e he hn
                  rcases List.mem_cons.1 he with rfl | he
                  · exact absurd (.tail _ (List.Mem.head _)) hn
                  · rcases List.mem_cons.1 he with rfl | he
                    · exact absurd (List.Mem.head _) hn
                    · rcases List.mem_cons.1 he with rfl | he
                      · refine ⟨fun _ => ?_, fun h => Bool.noConfusion (show true = false from h)⟩
                        refine ⟨rfl, [st1, st0], _, rfl, (.tail _ (.tail _ (List.Mem.head _))), ?_⟩
                        refine ⟨hM2, ?_⟩
                        refine ⟨fun hk => ?_, fun hk => ?_⟩
                        · have hk : keep.tmod (rM b2 s2) < 0 := of_decide_eq_true hk
                          obtain ⟨hW2, h0W2, h1W2⟩ := rW1 (n := n2) hS2 hB2 hk
                          refine ⟨h0W2, Nat.zero_le _, lmle h1W2, ?_⟩
                          refine roundsR_succ ?_
                          refine ⟨hfr, Nat.le_refl _, ?_, ?_⟩
                          · intro _
                            refine ⟨fun h => Bool.noConfusion (show false = true from h), fun _ => ?_⟩
                            refine ⟨[.cls 1000000000 999000000 ⟨70, 73, 5, [fcut (n0, b0, s0) keep, fcut (n1, b1, s1) keep, fcut (n2, b2, s2) keep], room, -1, false, nb⟩ [999000001, 999000002, 999000003] [.own 999000000, .own 999000001, .own 999000002]], ?_⟩
                            refine ⟨rfl, _, rfl, ⟨rfl, rst_box hW0 h0W0 h1W0, (fun h => by cases h), ⟨rfl, rst_box hW1 h0W1 h1W1, (fun h => by cases h), ⟨rfl, rst_box hW2 h0W2 h1W2, (fun h => by cases h), trivial⟩⟩⟩, by kernel_rfl, hnb, ?_⟩
                            refine ⟨1, rfl, ?_⟩
                            exact hK
                          · intro e he hn
                            exfalso
                            rcases List.mem_cons.1 he with rfl | he
                            · exact hn (.tail _ (List.Mem.head _))
                            · rcases List.mem_cons.1 he with rfl | he
                              · exact hn (List.Mem.head _)
                              · rcases List.mem_cons.1 he with rfl | he
                                · exact hn (.tail _ (.tail _ (List.Mem.head _)))
                                · exact absurd he List.not_mem_nil
                        · have hk : ¬ keep.tmod (rM b2 s2) < 0 := of_decide_eq_false hk
                          obtain ⟨hW2, h0W2, h1W2⟩ := rW0 (n := n2) hS2 hB2 hk
                          refine ⟨h0W2, Nat.zero_le _, lmle h1W2, ?_⟩
                          refine roundsR_succ ?_
                          refine ⟨hfr, Nat.le_refl _, ?_, ?_⟩
                          · intro _
                            refine ⟨fun h => Bool.noConfusion (show false = true from h), fun _ => ?_⟩
                            refine ⟨[.cls 1000000000 999000000 ⟨70, 73, 5, [fcut (n0, b0, s0) keep, fcut (n1, b1, s1) keep, fcut (n2, b2, s2) keep], room, -1, false, nb⟩ [999000001, 999000002, 999000003] [.own 999000000, .own 999000001, .own 999000002]], ?_⟩
                            refine ⟨rfl, _, rfl, ⟨rfl, rst_box hW0 h0W0 h1W0, (fun h => by cases h), ⟨rfl, rst_box hW1 h0W1 h1W1, (fun h => by cases h), ⟨rfl, rst_box hW2 h0W2 h1W2, (fun h => by cases h), trivial⟩⟩⟩, by kernel_rfl, hnb, ?_⟩
                            refine ⟨1, rfl, ?_⟩
                            exact hK
                          · intro e he hn
                            exfalso
                            rcases List.mem_cons.1 he with rfl | he
                            · exact hn (.tail _ (List.Mem.head _))
                            · rcases List.mem_cons.1 he with rfl | he
                              · exact hn (List.Mem.head _)
                              · rcases List.mem_cons.1 he with rfl | he
                                · exact hn (.tail _ (.tail _ (List.Mem.head _)))
                                · exact absurd he List.not_mem_nil
                      · exact absurd he List.not_mem_nil
              · have hk : ¬ keep.tmod (rM b0 s0) < 0 := of_decide_eq_false hk
                obtain ⟨hW0, h0W0, h1W0⟩ := rW0 (n := n0) hS0 hB0 hk
                refine ⟨h0W0, Nat.zero_le _, lmle h1W0, ?_⟩
                refine roundsR_succ ?_
                refine ⟨hfr, Nat.le_refl _, ?_, ?_⟩
                · intro ha
                  exfalso
                  have ha := ha _ (.tail _ (.tail _ (List.Mem.head _)))
                  simp only [List.mem_append, List.mem_singleton, List.not_mem_nil, false_or] at ha
                  omega
                · intro e he hn
                  rcases List.mem_cons.1 he with rfl | he
                  · exact absurd (.tail _ (List.Mem.head _)) hn
                  · rcases List.mem_cons.1 he with rfl | he
                    · exact absurd (List.Mem.head _) hn
                    · rcases List.mem_cons.1 he with rfl | he
                      · refine ⟨fun _ => ?_, fun h => Bool.noConfusion (show true = false from h)⟩
                        refine ⟨rfl, [st1, st0], _, rfl, (.tail _ (.tail _ (List.Mem.head _))), ?_⟩
                        refine ⟨hM2, ?_⟩
                        refine ⟨fun hk => ?_, fun hk => ?_⟩
                        · have hk : keep.tmod (rM b2 s2) < 0 := of_decide_eq_true hk
                          obtain ⟨hW2, h0W2, h1W2⟩ := rW1 (n := n2) hS2 hB2 hk
                          refine ⟨h0W2, Nat.zero_le _, lmle h1W2, ?_⟩
                          refine roundsR_succ ?_
                          refine ⟨hfr, Nat.le_refl _, ?_, ?_⟩
                          · intro _
                            refine ⟨fun h => Bool.noConfusion (show false = true from h), fun _ => ?_⟩
                            refine ⟨[.cls 1000000000 999000000 ⟨70, 73, 5, [fcut (n0, b0, s0) keep, fcut (n1, b1, s1) keep, fcut (n2, b2, s2) keep], room, -1, false, nb⟩ [999000001, 999000002, 999000003] [.own 999000000, .own 999000001, .own 999000002]], ?_⟩
                            refine ⟨rfl, _, rfl, ⟨rfl, rst_box hW0 h0W0 h1W0, (fun h => by cases h), ⟨rfl, rst_box hW1 h0W1 h1W1, (fun h => by cases h), ⟨rfl, rst_box hW2 h0W2 h1W2, (fun h => by cases h), trivial⟩⟩⟩, by kernel_rfl, hnb, ?_⟩
                            refine ⟨1, rfl, ?_⟩
                            exact hK
                          · intro e he hn
                            exfalso
                            rcases List.mem_cons.1 he with rfl | he
                            · exact hn (.tail _ (List.Mem.head _))
                            · rcases List.mem_cons.1 he with rfl | he
                              · exact hn (List.Mem.head _)
                              · rcases List.mem_cons.1 he with rfl | he
                                · exact hn (.tail _ (.tail _ (List.Mem.head _)))
                                · exact absurd he List.not_mem_nil
                        · have hk : ¬ keep.tmod (rM b2 s2) < 0 := of_decide_eq_false hk
                          obtain ⟨hW2, h0W2, h1W2⟩ := rW0 (n := n2) hS2 hB2 hk
                          refine ⟨h0W2, Nat.zero_le _, lmle h1W2, ?_⟩
                          refine roundsR_succ ?_
                          refine ⟨hfr, Nat.le_refl _, ?_, ?_⟩
                          · intro _
                            refine ⟨fun h => Bool.noConfusion (show false = true from h), fun _ => ?_⟩
                            refine ⟨[.cls 1000000000 999000000 ⟨70, 73, 5, [fcut (n0, b0, s0) keep, fcut (n1, b1, s1) keep, fcut (n2, b2, s2) keep], room, -1, false, nb⟩ [999000001, 999000002, 999000003] [.own 999000000, .own 999000001, .own 999000002]], ?_⟩
                            refine ⟨rfl, _, rfl, ⟨rfl, rst_box hW0 h0W0 h1W0, (fun h => by cases h), ⟨rfl, rst_box hW1 h0W1 h1W1, (fun h => by cases h), ⟨rfl, rst_box hW2 h0W2 h1W2, (fun h => by cases h), trivial⟩⟩⟩, by kernel_rfl, hnb, ?_⟩
                            refine ⟨1, rfl, ?_⟩
                            exact hK
                          · intro e he hn
                            exfalso
                            rcases List.mem_cons.1 he with rfl | he
                            · exact hn (.tail _ (List.Mem.head _))
                            · rcases List.mem_cons.1 he with rfl | he
                              · exact hn (List.Mem.head _)
                              · rcases List.mem_cons.1 he with rfl | he
                                · exact hn (.tail _ (.tail _ (List.Mem.head _)))
                                · exact absurd he List.not_mem_nil
                      · exact absurd he List.not_mem_nil
            · rcases List.mem_cons.1 he with rfl | he
              · exact absurd (List.Mem.head _) hn
              · rcases List.mem_cons.1 he with rfl | he
                · refine ⟨fun _ => ?_, fun h => Bool.noConfusion (show true = false from h)⟩
                  refine ⟨rfl, [st1], _, rfl, (.tail _ (.tail _ (List.Mem.head _))), ?_⟩
                  refine ⟨hM2, ?_⟩
                  refine ⟨fun hk => ?_, fun hk => ?_⟩
                  · have hk : keep.tmod (rM b2 s2) < 0 := of_decide_eq_true hk
                    obtain ⟨hW2, h0W2, h1W2⟩ := rW1 (n := n2) hS2 hB2 hk
                    refine ⟨h0W2, Nat.zero_le _, lmle h1W2, ?_⟩
                    refine roundsR_succ ?_
                    refine ⟨hfr, Nat.le_refl _, ?_, ?_⟩
                    · intro ha
                      exfalso
                      have ha := ha _ (List.Mem.head _)
                      simp only [List.mem_append, List.mem_singleton, List.not_mem_nil, false_or] at ha
                      omega
                    · intro e he hn
                      rcases List.mem_cons.1 he with rfl | he
                      · refine ⟨fun _ => ?_, fun h => Bool.noConfusion (show true = false from h)⟩
                        refine ⟨rfl, [st1, st2], _, rfl, (List.Mem.head _), ?_⟩
                        refine ⟨hM0, ?_⟩
                        refine ⟨fun hk => ?_, fun hk => ?_⟩
                        · have hk : keep.tmod (rM b0 s0) < 0 := of_decide_eq_true hk
                          obtain ⟨hW0, h0W0, h1W0⟩ := rW1 (n := n0) hS0 hB0 hk
                          refine ⟨h0W0, Nat.zero_le _, lmle h1W0, ?_⟩
                          refine roundsR_succ ?_
                          refine ⟨hfr, Nat.le_refl _, ?_, ?_⟩
                          · intro _
                            refine ⟨fun h => Bool.noConfusion (show false = true from h), fun _ => ?_⟩
                            refine ⟨[.cls 1000000000 999000000 ⟨70, 73, 5, [fcut (n0, b0, s0) keep, fcut (n1, b1, s1) keep, fcut (n2, b2, s2) keep], room, -1, false, nb⟩ [999000001, 999000002, 999000003] [.own 999000000, .own 999000001, .own 999000002]], ?_⟩
                            refine ⟨rfl, _, rfl, ⟨rfl, rst_box hW0 h0W0 h1W0, (fun h => by cases h), ⟨rfl, rst_box hW1 h0W1 h1W1, (fun h => by cases h), ⟨rfl, rst_box hW2 h0W2 h1W2, (fun h => by cases h), trivial⟩⟩⟩, by kernel_rfl, hnb, ?_⟩
                            refine ⟨1, rfl, ?_⟩
                            exact hK
                          · intro e he hn
                            exfalso
                            rcases List.mem_cons.1 he with rfl | he
                            · exact hn (.tail _ (.tail _ (List.Mem.head _)))
                            · rcases List.mem_cons.1 he with rfl | he
                              · exact hn (List.Mem.head _)
                              · rcases List.mem_cons.1 he with rfl | he
                                · exact hn (.tail _ (List.Mem.head _))
                                · exact absurd he List.not_mem_nil
                        · have hk : ¬ keep.tmod (rM b0 s0) < 0 := of_decide_eq_false hk
                          obtain ⟨hW0, h0W0, h1W0⟩ := rW0 (n := n0) hS0 hB0 hk
                          refine ⟨h0W0, Nat.zero_le _, lmle h1W0, ?_⟩
                          refine roundsR_succ ?_
                          refine ⟨hfr, Nat.le_refl _, ?_, ?_⟩
                          · intro _
                            refine ⟨fun h => Bool.noConfusion (show false = true from h), fun _ => ?_⟩
                            refine ⟨[.cls 1000000000 999000000 ⟨70, 73, 5, [fcut (n0, b0, s0) keep, fcut (n1, b1, s1) keep, fcut (n2, b2, s2) keep], room, -1, false, nb⟩ [999000001, 999000002, 999000003] [.own 999000000, .own 999000001, .own 999000002]], ?_⟩
                            refine ⟨rfl, _, rfl, ⟨rfl, rst_box hW0 h0W0 h1W0, (fun h => by cases h), ⟨rfl, rst_box hW1 h0W1 h1W1, (fun h => by cases h), ⟨rfl, rst_box hW2 h0W2 h1W2, (fun h => by cases h), trivial⟩⟩⟩, by kernel_rfl, hnb, ?_⟩
                            refine ⟨1, rfl, ?_⟩
                            exact hK
                          · intro e he hn
                            exfalso
                            rcases List.mem_cons.1 he with rfl | he
                            · exact hn (.tail _ (.tail _ (List.Mem.head _)))
                            · rcases List.mem_cons.1 he with rfl | he
                              · exact hn (List.Mem.head _)
                              · rcases List.mem_cons.1 he with rfl | he
                                · exact hn (.tail _ (List.Mem.head _))
                                · exact absurd he List.not_mem_nil
                      · rcases List.mem_cons.1 he with rfl | he
                        · exact absurd (List.Mem.head _) hn
                        · rcases List.mem_cons.1 he with rfl | he
                          · exact absurd (.tail _ (List.Mem.head _)) hn
                          · exact absurd he List.not_mem_nil
                  · have hk : ¬ keep.tmod (rM b2 s2) < 0 := of_decide_eq_false hk
                    obtain ⟨hW2, h0W2, h1W2⟩ := rW0 (n := n2) hS2 hB2 hk
                    refine ⟨h0W2, Nat.zero_le _, lmle h1W2, ?_⟩
                    refine roundsR_succ ?_
                    refine ⟨hfr, Nat.le_refl _, ?_, ?_⟩
                    · intro ha
                      exfalso
                      have ha := ha _ (List.Mem.head _)
                      simp only [List.mem_append, List.mem_singleton, List.not_mem_nil, false_or] at ha
                      omega
                    · intro e he hn
                      rcases List.mem_cons.1 he with rfl | he
                      · refine ⟨fun _ => ?_, fun h => Bool.noConfusion (show true = false from h)⟩
                        refine ⟨rfl, [st1, st2], _, rfl, (List.Mem.head _), ?_⟩
                        refine ⟨hM0, ?_⟩
                        refine ⟨fun hk => ?_, fun hk => ?_⟩
                        · have hk : keep.tmod (rM b0 s0) < 0 := of_decide_eq_true hk
                          obtain ⟨hW0, h0W0, h1W0⟩ := rW1 (n := n0) hS0 hB0 hk
                          refine ⟨h0W0, Nat.zero_le _, lmle h1W0, ?_⟩
                          refine roundsR_succ ?_
                          refine ⟨hfr, Nat.le_refl _, ?_, ?_⟩
                          · intro _
                            refine ⟨fun h => Bool.noConfusion (show false = true from h), fun _ => ?_⟩
                            refine ⟨[.cls 1000000000 999000000 ⟨70, 73, 5, [fcut (n0, b0, s0) keep, fcut (n1, b1, s1) keep, fcut (n2, b2, s2) keep], room, -1, false, nb⟩ [999000001, 999000002, 999000003] [.own 999000000, .own 999000001, .own 999000002]], ?_⟩
                            refine ⟨rfl, _, rfl, ⟨rfl, rst_box hW0 h0W0 h1W0, (fun h => by cases h), ⟨rfl, rst_box hW1 h0W1 h1W1, (fun h => by cases h), ⟨rfl, rst_box hW2 h0W2 h1W2, (fun h => by cases h), trivial⟩⟩⟩, by kernel_rfl, hnb, ?_⟩
                            refine ⟨1, rfl, ?_⟩
                            exact hK
                          · intro e he hn
                            exfalso
                            rcases List.mem_cons.1 he with rfl | he
                            · exact hn (.tail _ (.tail _ (List.Mem.head _)))
                            · rcases List.mem_cons.1 he with rfl | he
                              · exact hn (List.Mem.head _)
                              · rcases List.mem_cons.1 he with rfl | he
                                · exact hn (.tail _ (List.Mem.head _))
                                · exact absurd he List.not_mem_nil
                        · have hk : ¬ keep.tmod (rM b0 s0) < 0 := of_decide_eq_false hk
                          obtain ⟨hW0, h0W0, h1W0⟩ := rW0 (n := n0) hS0 hB0 hk
                          refine ⟨h0W0, Nat.zero_le _, lmle h1W0, ?_⟩
                          refine roundsR_succ ?_
                          refine ⟨hfr, Nat.le_refl _, ?_, ?_⟩
                          · intro _
                            refine ⟨fun h => Bool.noConfusion (show false = true from h), fun _ => ?_⟩
                            refine ⟨[.cls 1000000000 999000000 ⟨70, 73, 5, [fcut (n0, b0, s0) keep, fcut (n1, b1, s1) keep, fcut (n2, b2, s2) keep], room, -1, false, nb⟩ [999000001, 999000002, 999000003] [.own 999000000, .own 999000001, .own 999000002]], ?_⟩
                            refine ⟨rfl, _, rfl, ⟨rfl, rst_box hW0 h0W0 h1W0, (fun h => by cases h), ⟨rfl, rst_box hW1 h0W1 h1W1, (fun h => by cases h), ⟨rfl, rst_box hW2 h0W2 h1W2, (fun h => by cases h), trivial⟩⟩⟩, by kernel_rfl, hnb, ?_⟩
                            refine ⟨1, rfl, ?_⟩
                            exact hK
                          · intro e he hn
                            exfalso
                            rcases List.mem_cons.1 he with rfl | he
                            · exact hn (.tail _ (.tail _ (List.Mem.head _)))
                            · rcases List.mem_cons.1 he with rfl | he
                              · exact hn (List.Mem.head _)
                              · rcases List.mem_cons.1 he with rfl | he
                                · exact hn (.tail _ (List.Mem.head _))
                                · exact absurd he List.not_mem_nil
                      · rcases List.mem_cons.1 he with rfl | he
                        · exact absurd (List.Mem.head _) hn
                        · rcases List.mem_cons.1 he with rfl | he
                          · exact absurd (.tail _ (List.Mem.head _)) hn
                          · exact absurd he List.not_mem_nil
                · exact absurd he List.not_mem_nil
        · have hk : ¬ keep.tmod (rM b1 s1) < 0 := of_decide_eq_false hk
          obtain ⟨hW1, h0W1, h1W1⟩ := rW0 (n := n1) hS1 hB1 hk
          refine ⟨h0W1, Nat.zero_le _, lmle h1W1, ?_⟩
          refine roundsR_succ ?_
          refine ⟨hfr, Nat.le_refl _, ?_, ?_⟩
          · intro ha
            exfalso
            have ha := ha _ (List.Mem.head _)
            simp only [List.mem_append, List.mem_singleton, List.not_mem_nil, false_or] at ha
            omega
          · intro e he hn
            rcases List.mem_cons.1 he with rfl | he
            · refine ⟨fun _ => ?_, fun h => Bool.noConfusion (show true = false from h)⟩
              refine ⟨rfl, [st1], _, rfl, (List.Mem.head _), ?_⟩
              refine ⟨hM0, ?_⟩
              refine ⟨fun hk => ?_, fun hk => ?_⟩
              · have hk : keep.tmod (rM b0 s0) < 0 := of_decide_eq_true hk
                obtain ⟨hW0, h0W0, h1W0⟩ := rW1 (n := n0) hS0 hB0 hk
                refine ⟨h0W0, Nat.zero_le _, lmle h1W0, ?_⟩
                refine roundsR_succ ?_
                refine ⟨hfr, Nat.le_refl _, ?_, ?_⟩
                · intro ha
                  exfalso
                  have ha := ha _ (.tail _ (.tail _ (List.Mem.head _)))
                  simp only [List.mem_append, List.mem_singleton, List.not_mem_nil, false_or] at ha
                  omega
                · intro e he hn
                  rcases List.mem_cons.1 he with rfl | he
                  · exact absurd (.tail _ (List.Mem.head _)) hn
                  · rcases List.mem_cons.1 he with rfl | he
                    · exact absurd (List.Mem.head _) hn
                    · rcases List.mem_cons.1 he with rfl | he
                      · refine ⟨fun _ => ?_, fun h => Bool.noConfusion (show true = false from h)⟩
                        refine ⟨rfl, [st1, st0], _, rfl, (.tail _ (.tail _ (List.Mem.head _))), ?_⟩
                        refine ⟨hM2, ?_⟩
                        refine ⟨fun hk => ?_, fun hk => ?_⟩
                        · have hk : keep.tmod (rM b2 s2) < 0 := of_decide_eq_true hk
                          obtain ⟨hW2, h0W2, h1W2⟩ := rW1 (n := n2) hS2 hB2 hk
                          refine ⟨h0W2, Nat.zero_le _, lmle h1W2, ?_⟩
                          refine roundsR_succ ?_
                          refine ⟨hfr, Nat.le_refl _, ?_, ?_⟩
                          · intro _
                            refine ⟨fun h => Bool.noConfusion (show false = true from h), fun _ => ?_⟩
                            refine ⟨[.cls 1000000000 999000000 ⟨70, 73, 5, [fcut (n0, b0, s0) keep, fcut (n1, b1, s1) keep, fcut (n2, b2, s2) keep], room, -1, false, nb⟩ [999000001, 999000002, 999000003] [.own 999000000, .own 999000001, .own 999000002]], ?_⟩
                            refine ⟨rfl, _, rfl, ⟨rfl, rst_box hW0 h0W0 h1W0, (fun h => by cases h), ⟨rfl, rst_box hW1 h0W1 h1W1, (fun h => by cases h), ⟨rfl, rst_box hW2 h0W2 h1W2, (fun h => by cases h), trivial⟩⟩⟩, by kernel_rfl, hnb, ?_⟩
                            refine ⟨1, rfl, ?_⟩
                            exact hK
                          · intro e he hn
                            exfalso
                            rcases List.mem_cons.1 he with rfl | he
                            · exact hn (.tail _ (List.Mem.head _))
                            · rcases List.mem_cons.1 he with rfl | he
                              · exact hn (List.Mem.head _)
                              · rcases List.mem_cons.1 he with rfl | he
                                · exact hn (.tail _ (.tail _ (List.Mem.head _)))
                                · exact absurd he List.not_mem_nil
                        · have hk : ¬ keep.tmod (rM b2 s2) < 0 := of_decide_eq_false hk
                          obtain ⟨hW2, h0W2, h1W2⟩ := rW0 (n := n2) hS2 hB2 hk
                          refine ⟨h0W2, Nat.zero_le _, lmle h1W2, ?_⟩
                          refine roundsR_succ ?_
                          refine ⟨hfr, Nat.le_refl _, ?_, ?_⟩
                          · intro _
                            refine ⟨fun h => Bool.noConfusion (show false = true from h), fun _ => ?_⟩
                            refine ⟨[.cls 1000000000 999000000 ⟨70, 73, 5, [fcut (n0, b0, s0) keep, fcut (n1, b1, s1) keep, fcut (n2, b2, s2) keep], room, -1, false, nb⟩ [999000001, 999000002, 999000003] [.own 999000000, .own 999000001, .own 999000002]], ?_⟩
                            refine ⟨rfl, _, rfl, ⟨rfl, rst_box hW0 h0W0 h1W0, (fun h => by cases h), ⟨rfl, rst_box hW1 h0W1 h1W1, (fun h => by cases h), ⟨rfl, rst_box hW2 h0W2 h1W2, (fun h => by cases h), trivial⟩⟩⟩, by kernel_rfl, hnb, ?_⟩
                            refine ⟨1, rfl, ?_⟩
                            exact hK
                          · intro e he hn
                            exfalso
                            rcases List.mem_cons.1 he with rfl | he
                            · exact hn (.tail _ (List.Mem.head _))
                            · rcases List.mem_cons.1 he with rfl | he
                              · exact hn (List.Mem.head _)
                              · rcases List.mem_cons.1 he with rfl | he
                                · exact hn (.tail _ (.tail _ (List.Mem.head _)))
                                · exact absurd he List.not_mem_nil
                      · exact absurd he List.not_mem_nil
              · have hk : ¬ keep.tmod (rM b0 s0) < 0 := of_decide_eq_false hk
                obtain ⟨hW0, h0W0, h1W0⟩ := rW0 (n := n0) hS0 hB0 hk
                refine ⟨h0W0, Nat.zero_le _, lmle h1W0, ?_⟩
                refine roundsR_succ ?_
                refine ⟨hfr, Nat.le_refl _, ?_, ?_⟩
                · intro ha
                  exfalso
                  have ha := ha _ (.tail _ (.tail _ (List.Mem.head _)))
                  simp only [List.mem_append, List.mem_singleton, List.not_mem_nil, false_or] at ha
                  omega
                · intro e he hn
                  rcases List.mem_cons.1 he with rfl | he
                  · exact absurd (.tail _ (List.Mem.head _)) hn
                  · rcases List.mem_cons.1 he with rfl | he
                    · exact absurd (List.Mem.head _) hn
                    · rcases List.mem_cons.1 he with rfl | he
                      · refine ⟨fun _ => ?_, fun h => Bool.noConfusion (show true = false from h)⟩
                        refine ⟨rfl, [st1, st0], _, rfl, (.tail _ (.tail _ (List.Mem.head _))), ?_⟩
                        refine ⟨hM2, ?_⟩
                        refine ⟨fun hk => ?_, fun hk => ?_⟩
                        · have hk : keep.tmod (rM b2 s2) < 0 := of_decide_eq_true hk
                          obtain ⟨hW2, h0W2, h1W2⟩ := rW1 (n := n2) hS2 hB2 hk
                          refine ⟨h0W2, Nat.zero_le _, lmle h1W2, ?_⟩
                          refine roundsR_succ ?_
                          refine ⟨hfr, Nat.le_refl _, ?_, ?_⟩
                          · intro _
                            refine ⟨fun h => Bool.noConfusion (show false = true from h), fun _ => ?_⟩
                            refine ⟨[.cls 1000000000 999000000 ⟨70, 73, 5, [fcut (n0, b0, s0) keep, fcut (n1, b1, s1) keep, fcut (n2, b2, s2) keep], room, -1, false, nb⟩ [999000001, 999000002, 999000003] [.own 999000000, .own 999000001, .own 999000002]], ?_⟩
                            refine ⟨rfl, _, rfl, ⟨rfl, rst_box hW0 h0W0 h1W0, (fun h => by cases h), ⟨rfl, rst_box hW1 h0W1 h1W1, (fun h => by cases h), ⟨rfl, rst_box hW2 h0W2 h1W2, (fun h => by cases h), trivial⟩⟩⟩, by kernel_rfl, hnb, ?_⟩
                            refine ⟨1, rfl, ?_⟩
                            exact hK
                          · intro e he hn
                            exfalso
                            rcases List.mem_cons.1 he with rfl | he
                            · exact hn (.tail _ (List.Mem.head _))
                            · rcases List.mem_cons.1 he with rfl | he
                              · exact hn (List.Mem.head _)
                              · rcases List.mem_cons.1 he with rfl | he
                                · exact hn (.tail _ (.tail _ (List.Mem.head _)))
                                · exact absurd he List.not_mem_nil
                        · have hk : ¬ keep.tmod (rM b2 s2) < 0 := of_decide_eq_false hk
                          obtain ⟨hW2, h0W2, h1W2⟩ := rW0 (n := n2) hS2 hB2 hk
                          refine ⟨h0W2, Nat.zero_le _, lmle h1W2, ?_⟩
                          refine roundsR_succ ?_
                          refine ⟨hfr, Nat.le_refl _, ?_, ?_⟩
                          · intro _
                            refine ⟨fun h => Bool.noConfusion (show false = true from h), fun _ => ?_⟩
                            refine ⟨[.cls 1000000000 999000000 ⟨70, 73, 5, [fcut (n0, b0, s0) keep, fcut (n1, b1, s1) keep, fcut (n2, b2, s2) keep], room, -1, false, nb⟩ [999000001, 999000002, 999000003] [.own 999000000, .own 999000001, .own 999000002]], ?_⟩
                            refine ⟨rfl, _, rfl, ⟨rfl, rst_box hW0 h0W0 h1W0, (fun h => by cases h), ⟨rfl, rst_box hW1 h0W1 h1W1, (fun h => by cases h), ⟨rfl, rst_box hW2 h0W2 h1W2, (fun h => by cases h), trivial⟩⟩⟩, by kernel_rfl, hnb, ?_⟩
                            refine ⟨1, rfl, ?_⟩
                            exact hK
                          · intro e he hn
                            exfalso
                            rcases List.mem_cons.1 he with rfl | he
                            · exact hn (.tail _ (List.Mem.head _))
                            · rcases List.mem_cons.1 he with rfl | he
                              · exact hn (List.Mem.head _)
                              · rcases List.mem_cons.1 he with rfl | he
                                · exact hn (.tail _ (.tail _ (List.Mem.head _)))
                                · exact absurd he List.not_mem_nil
                      · exact absurd he List.not_mem_nil
            · rcases List.mem_cons.1 he with rfl | he
              · exact absurd (List.Mem.head _) hn
              · rcases List.mem_cons.1 he with rfl | he
                · refine ⟨fun _ => ?_, fun h => Bool.noConfusion (show true = false from h)⟩
                  refine ⟨rfl, [st1], _, rfl, (.tail _ (.tail _ (List.Mem.head _))), ?_⟩
                  refine ⟨hM2, ?_⟩
                  refine ⟨fun hk => ?_, fun hk => ?_⟩
                  · have hk : keep.tmod (rM b2 s2) < 0 := of_decide_eq_true hk
                    obtain ⟨hW2, h0W2, h1W2⟩ := rW1 (n := n2) hS2 hB2 hk
                    refine ⟨h0W2, Nat.zero_le _, lmle h1W2, ?_⟩
                    refine roundsR_succ ?_
                    refine ⟨hfr, Nat.le_refl _, ?_, ?_⟩
                    · intro ha
                      exfalso
                      have ha := ha _ (List.Mem.head _)
                      simp only [List.mem_append, List.mem_singleton, List.not_mem_nil, false_or] at ha
                      omega
                    · intro e he hn
                      rcases List.mem_cons.1 he with rfl | he
                      · refine ⟨fun _ => ?_, fun h => Bool.noConfusion (show true = false from h)⟩
                        refine ⟨rfl, [st1, st2], _, rfl, (List.Mem.head _), ?_⟩
                        refine ⟨hM0, ?_⟩
                        refine ⟨fun hk => ?_, fun hk => ?_⟩
                        · have hk : keep.tmod (rM b0 s0) < 0 := of_decide_eq_true hk
                          obtain ⟨hW0, h0W0, h1W0⟩ := rW1 (n := n0) hS0 hB0 hk
                          refine ⟨h0W0, Nat.zero_le _, lmle h1W0, ?_⟩
                          refine roundsR_succ ?_
                          refine ⟨hfr, Nat.le_refl _, ?_, ?_⟩
                          · intro _
                            refine ⟨fun h => Bool.noConfusion (show false = true from h), fun _ => ?_⟩
                            refine ⟨[.cls 1000000000 999000000 ⟨70, 73, 5, [fcut (n0, b0, s0) keep, fcut (n1, b1, s1) keep, fcut (n2, b2, s2) keep], room, -1, false, nb⟩ [999000001, 999000002, 999000003] [.own 999000000, .own 999000001, .own 999000002]], ?_⟩
                            refine ⟨rfl, _, rfl, ⟨rfl, rst_box hW0 h0W0 h1W0, (fun h => by cases h), ⟨rfl, rst_box hW1 h0W1 h1W1, (fun h => by cases h), ⟨rfl, rst_box hW2 h0W2 h1W2, (fun h => by cases h), trivial⟩⟩⟩, by kernel_rfl, hnb, ?_⟩
                            refine ⟨1, rfl, ?_⟩
                            exact hK
                          · intro e he hn
                            exfalso
                            rcases List.mem_cons.1 he with rfl | he
                            · exact hn (.tail _ (.tail _ (List.Mem.head _)))
                            · rcases List.mem_cons.1 he with rfl | he
                              · exact hn (List.Mem.head _)
                              · rcases List.mem_cons.1 he with rfl | he
                                · exact hn (.tail _ (List.Mem.head _))
                                · exact absurd he List.not_mem_nil
                        · have hk : ¬ keep.tmod (rM b0 s0) < 0 := of_decide_eq_false hk
                          obtain ⟨hW0, h0W0, h1W0⟩ := rW0 (n := n0) hS0 hB0 hk
                          refine ⟨h0W0, Nat.zero_le _, lmle h1W0, ?_⟩
                          refine roundsR_succ ?_
                          refine ⟨hfr, Nat.le_refl _, ?_, ?_⟩
                          · intro _
                            refine ⟨fun h => Bool.noConfusion (show false = true from h), fun _ => ?_⟩
                            refine ⟨[.cls 1000000000 999000000 ⟨70, 73, 5, [fcut (n0, b0, s0) keep, fcut (n1, b1, s1) keep, fcut (n2, b2, s2) keep], room, -1, false, nb⟩ [999000001, 999000002, 999000003] [.own 999000000, .own 999000001, .own 999000002]], ?_⟩
                            refine ⟨rfl, _, rfl, ⟨rfl, rst_box hW0 h0W0 h1W0, (fun h => by cases h), ⟨rfl, rst_box hW1 h0W1 h1W1, (fun h => by cases h), ⟨rfl, rst_box hW2 h0W2 h1W2, (fun h => by cases h), trivial⟩⟩⟩, by kernel_rfl, hnb, ?_⟩
                            refine ⟨1, rfl, ?_⟩
                            exact hK
                          · intro e he hn
                            exfalso
                            rcases List.mem_cons.1 he with rfl | he
                            · exact hn (.tail _ (.tail _ (List.Mem.head _)))
                            · rcases List.mem_cons.1 he with rfl | he
                              · exact hn (List.Mem.head _)
                              · rcases List.mem_cons.1 he with rfl | he
                                · exact hn (.tail _ (List.Mem.head _))
                                · exact absurd he List.not_mem_nil
                      · rcases List.mem_cons.1 he with rfl | he
                        · exact absurd (List.Mem.head _) hn
                        · rcases List.mem_cons.1 he with rfl | he
                          · exact absurd (.tail _ (List.Mem.head _)) hn
                          · exact absurd he List.not_mem_nil
                  · have hk : ¬ keep.tmod (rM b2 s2) < 0 := of_decide_eq_false hk
                    obtain ⟨hW2, h0W2, h1W2⟩ := rW0 (n := n2) hS2 hB2 hk
                    refine ⟨h0W2, Nat.zero_le _, lmle h1W2, ?_⟩
                    refine roundsR_succ ?_
                    refine ⟨hfr, Nat.le_refl _, ?_, ?_⟩
                    · intro ha
                      exfalso
                      have ha := ha _ (List.Mem.head _)
                      simp only [List.mem_append, List.mem_singleton, List.not_mem_nil, false_or] at ha
                      omega
                    · intro e he hn
                      rcases List.mem_cons.1 he with rfl | he
                      · refine ⟨fun _ => ?_, fun h => Bool.noConfusion (show true = false from h)⟩
                        refine ⟨rfl, [st1, st2], _, rfl, (List.Mem.head _), ?_⟩
                        refine ⟨hM0, ?_⟩
                        refine ⟨fun hk => ?_, fun hk => ?_⟩
                        · have hk : keep.tmod (rM b0 s0) < 0 := of_decide_eq_true hk
                          obtain ⟨hW0, h0W0, h1W0⟩ := rW1 (n := n0) hS0 hB0 hk
                          refine ⟨h0W0, Nat.zero_le _, lmle h1W0, ?_⟩
                          refine roundsR_succ ?_
                          refine ⟨hfr, Nat.le_refl _, ?_, ?_⟩
                          · intro _
                            refine ⟨fun h => Bool.noConfusion (show false = true from h), fun _ => ?_⟩
                            refine ⟨[.cls 1000000000 999000000 ⟨70, 73, 5, [fcut (n0, b0, s0) keep, fcut (n1, b1, s1) keep, fcut (n2, b2, s2) keep], room, -1, false, nb⟩ [999000001, 999000002, 999000003] [.own 999000000, .own 999000001, .own 999000002]], ?_⟩
                            refine ⟨rfl, _, rfl, ⟨rfl, rst_box hW0 h0W0 h1W0, (fun h => by cases h), ⟨rfl, rst_box hW1 h0W1 h1W1, (fun h => by cases h), ⟨rfl, rst_box hW2 h0W2 h1W2, (fun h => by cases h), trivial⟩⟩⟩, by kernel_rfl, hnb, ?_⟩
                            refine ⟨1, rfl, ?_⟩
                            exact hK
                          · intro e he hn
                            exfalso
                            rcases List.mem_cons.1 he with rfl | he
                            · exact hn (.tail _ (.tail _ (List.Mem.head _)))
                            · rcases List.mem_cons.1 he with rfl | he
                              · exact hn (List.Mem.head _)
                              · rcases List.mem_cons.1 he with rfl | he
                                · exact hn (.tail _ (List.Mem.head _))
                                · exact absurd he List.not_mem_nil
                        · have hk : ¬ keep.tmod (rM b0 s0) < 0 := of_decide_eq_false hk
                          obtain ⟨hW0, h0W0, h1W0⟩ := rW0 (n := n0) hS0 hB0 hk
                          refine ⟨h0W0, Nat.zero_le _, lmle h1W0, ?_⟩
                          refine roundsR_succ ?_
                          refine ⟨hfr, Nat.le_refl _, ?_, ?_⟩
                          · intro _
                            refine ⟨fun h => Bool.noConfusion (show false = true from h), fun _ => ?_⟩
                            refine ⟨[.cls 1000000000 999000000 ⟨70, 73, 5, [fcut (n0, b0, s0) keep, fcut (n1, b1, s1) keep, fcut (n2, b2, s2) keep], room, -1, false, nb⟩ [999000001, 999000002, 999000003] [.own 999000000, .own 999000001, .own 999000002]], ?_⟩
                            refine ⟨rfl, _, rfl, ⟨rfl, rst_box hW0 h0W0 h1W0, (fun h => by cases h), ⟨rfl, rst_box hW1 h0W1 h1W1, (fun h => by cases h), ⟨rfl, rst_box hW2 h0W2 h1W2, (fun h => by cases h), trivial⟩⟩⟩, by kernel_rfl, hnb, ?_⟩
                            refine ⟨1, rfl, ?_⟩
                            exact hK
                          · intro e he hn
                            exfalso
                            rcases List.mem_cons.1 he with rfl | he
                            · exact hn (.tail _ (.tail _ (List.Mem.head _)))
                            · rcases List.mem_cons.1 he with rfl | he
                              · exact hn (List.Mem.head _)
                              · rcases List.mem_cons.1 he with rfl | he
                                · exact hn (.tail _ (List.Mem.head _))
                                · exact absurd he List.not_mem_nil
                      · rcases List.mem_cons.1 he with rfl | he
                        · exact absurd (List.Mem.head _) hn
                        · rcases List.mem_cons.1 he with rfl | he
                          · exact absurd (.tail _ (List.Mem.head _)) hn
                          · exact absurd he List.not_mem_nil
                · exact absurd he List.not_mem_nil
      · rcases List.mem_cons.1 he with rfl | he
        · refine ⟨fun _ => ?_, fun h => Bool.noConfusion (show true = false from h)⟩
          refine ⟨rfl, [], _, rfl, (.tail _ (.tail _ (List.Mem.head _))), ?_⟩
          refine ⟨hM2, ?_⟩
          refine ⟨fun hk => ?_, fun hk => ?_⟩
          · have hk : keep.tmod (rM b2 s2) < 0 := of_decide_eq_true hk
            obtain ⟨hW2, h0W2, h1W2⟩ := rW1 (n := n2) hS2 hB2 hk
            refine ⟨h0W2, Nat.zero_le _, lmle h1W2, ?_⟩
            refine roundsR_succ ?_
            refine ⟨hfr, Nat.le_refl _, ?_, ?_⟩
            · intro ha
              exfalso
              have ha := ha _ (List.Mem.head _)
              simp only [List.mem_append, List.mem_singleton, List.not_mem_nil, false_or] at ha
              omega
            · intro e he hn
              rcases List.mem_cons.1 he with rfl | he
              · refine ⟨fun _ => ?_, fun h => Bool.noConfusion (show true = false from h)⟩
                refine ⟨rfl, [st2], _, rfl, (List.Mem.head _), ?_⟩
                refine ⟨hM0, ?_⟩
                refine ⟨fun hk => ?_, fun hk => ?_⟩
                · have hk : keep.tmod (rM b0 s0) < 0 := of_decide_eq_true hk
                  obtain ⟨hW0, h0W0, h1W0⟩ := rW1 (n := n0) hS0 hB0 hk
                  refine ⟨h0W0, Nat.zero_le _, lmle h1W0, ?_⟩
                  refine roundsR_succ ?_
                  refine ⟨hfr, Nat.le_refl _, ?_, ?_⟩
                  · intro ha
                    exfalso
                    have ha := ha _ (.tail _ (List.Mem.head _))
                    simp only [List.mem_append, List.mem_singleton, List.not_mem_nil, false_or] at ha
                    omega
                  · intro e he hn
                    rcases List.mem_cons.1 he with rfl | he
                    · exact absurd (.tail _ (List.Mem.head _)) hn
                    · rcases List.mem_cons.1 he with rfl | he
                      · refine ⟨fun _ => ?_, fun h => Bool.noConfusion (show true = false from h)⟩
                        refine ⟨rfl, [st2, st0], _, rfl, (.tail _ (List.Mem.head _)), ?_⟩
                        refine ⟨hM1, ?_⟩
                        refine ⟨fun hk => ?_, fun hk => ?_⟩
                        · have hk : keep.tmod (rM b1 s1) < 0 := of_decide_eq_true hk
                          obtain ⟨hW1, h0W1, h1W1⟩ := rW1 (n := n1) hS1 hB1 hk
                          refine ⟨h0W1, Nat.zero_le _, lmle h1W1, ?_⟩
                          refine roundsR_succ ?_
                          refine ⟨hfr, Nat.le_refl _, ?_, ?_⟩
                          · intro _
                            refine ⟨fun h => Bool.noConfusion (show false = true from h), fun _ => ?_⟩
                            refine ⟨[.cls 1000000000 999000000 ⟨70, 73, 5, [fcut (n0, b0, s0) keep, fcut (n1, b1, s1) keep, fcut (n2, b2, s2) keep], room, -1, false, nb⟩ [999000001, 999000002, 999000003] [.own 999000000, .own 999000001, .own 999000002]], ?_⟩
                            refine ⟨rfl, _, rfl, ⟨rfl, rst_box hW0 h0W0 h1W0, (fun h => by cases h), ⟨rfl, rst_box hW1 h0W1 h1W1, (fun h => by cases h), ⟨rfl, rst_box hW2 h0W2 h1W2, (fun h => by cases h), trivial⟩⟩⟩, by kernel_rfl, hnb, ?_⟩
                            refine ⟨1, rfl, ?_⟩
                            exact hK
                          · intro e he hn
                            exfalso
                            rcases List.mem_cons.1 he with rfl | he
                            · exact hn (.tail _ (List.Mem.head _))
                            · rcases List.mem_cons.1 he with rfl | he
                              · exact hn (.tail _ (.tail _ (List.Mem.head _)))
                              · rcases List.mem_cons.1 he with rfl | he
                                · exact hn (List.Mem.head _)
                                · exact absurd he List.not_mem_nil
                        · have hk : ¬ keep.tmod (rM b1 s1) < 0 := of_decide_eq_false hk
                          obtain ⟨hW1, h0W1, h1W1⟩ := rW0 (n := n1) hS1 hB1 hk
                          refine ⟨h0W1, Nat.zero_le _, lmle h1W1, ?_⟩
                          refine roundsR_succ ?_
                          refine ⟨hfr, Nat.le_refl _, ?_, ?_⟩
                          · intro _
                            refine ⟨fun h => Bool.noConfusion (show false = true from h), fun _ => ?_⟩
                            refine ⟨[.cls 1000000000 999000000 ⟨70, 73, 5, [fcut (n0, b0, s0) keep, fcut (n1, b1, s1) keep, fcut (n2, b2, s2) keep], room, -1, false, nb⟩ [999000001, 999000002, 999000003] [.own 999000000, .own 999000001, .own 999000002]], ?_⟩
                            refine ⟨rfl, _, rfl, ⟨rfl, rst_box hW0 h0W0 h1W0, (fun h => by cases h), ⟨rfl, rst_box hW1 h0W1 h1W1, (fun h => by cases h), ⟨rfl, rst_box hW2 h0W2 h1W2, (fun h => by cases h), trivial⟩⟩⟩, by kernel_rfl, hnb, ?_⟩
                            refine ⟨1, rfl, ?_⟩
                            exact hK
                          · intro e he hn
                            exfalso
                            rcases List.mem_cons.1 he with rfl | he
                            · exact hn (.tail _ (List.Mem.head _))
                            · rcases List.mem_cons.1 he with rfl | he
                              · exact hn (.tail _ (.tail _ (List.Mem.head _)))
                              · rcases List.mem_cons.1 he with rfl | he
                                · exact hn (List.Mem.head _)
                                · exact absurd he List.not_mem_nil
                      · rcases List.mem_cons.1 he with rfl | he
                        · exact absurd (List.Mem.head _) hn
                        · exact absurd he List.not_mem_nil
                · have hk : ¬ keep.tmod (rM b0 s0) < 0 := of_decide_eq_false hk
                  obtain ⟨hW0, h0W0, h1W0⟩ := rW0 (n := n0) hS0 hB0 hk
                  refine ⟨h0W0, Nat.zero_le _, lmle h1W0, ?_⟩
                  refine roundsR_succ ?_
                  refine ⟨hfr, Nat.le_refl _, ?_, ?_⟩
                  · intro ha
                    exfalso
                    have ha := ha _ (.tail _ (List.Mem.head _))
                    simp only [List.mem_append, List.mem_singleton, List.not_mem_nil, false_or] at ha
                    omega
                  · intro e he hn
                    rcases List.mem_cons.1 he with rfl | he
                    · exact absurd (.tail _ (List.Mem.head _)) hn
                    · rcases List.mem_cons.1 he with rfl | he
                      · refine ⟨fun _ => ?_, fun h => Bool.noConfusion (show true = false from h)⟩
                        refine ⟨rfl, [st2, st0], _, rfl, (.tail _ (List.Mem.head _)), ?_⟩
                        refine ⟨hM1, ?_⟩
                        refine ⟨fun hk => ?_, fun hk => ?_⟩
                        · have hk : keep.tmod (rM b1 s1) < 0 := of_decide_eq_true hk
                          obtain ⟨hW1, h0W1, h1W1⟩ := rW1 (n := n1) hS1 hB1 hk
                          refine ⟨h0W1, Nat.zero_le _, lmle h1W1, ?_⟩
                          refine roundsR_succ ?_
                          refine ⟨hfr, Nat.le_refl _, ?_, ?_⟩
                          · intro _
                            refine ⟨fun h => Bool.noConfusion (show false = true from h), fun _ => ?_⟩
                            refine ⟨[.cls 1000000000 999000000 ⟨70, 73, 5, [fcut (n0, b0, s0) keep, fcut (n1, b1, s1) keep, fcut (n2, b2, s2) keep], room, -1, false, nb⟩ [999000001, 999000002, 999000003] [.own 999000000, .own 999000001, .own 999000002]], ?_⟩
                            refine ⟨rfl, _, rfl, ⟨rfl, rst_box hW0 h0W0 h1W0, (fun h => by cases h), ⟨rfl, rst_box hW1 h0W1 h1W1, (fun h => by cases h), ⟨rfl, rst_box hW2 h0W2 h1W2, (fun h => by cases h), trivial⟩⟩⟩, by kernel_rfl, hnb, ?_⟩
                            refine ⟨1, rfl, ?_⟩
                            exact hK
                          · intro e he hn
                            exfalso
                            rcases List.mem_cons.1 he with rfl | he
                            · exact hn (.tail _ (List.Mem.head _))
                            · rcases List.mem_cons.1 he with rfl | he
                              · exact hn (.tail _ (.tail _ (List.Mem.head _)))
                              · rcases List.mem_cons.1 he with rfl | he
                                · exact hn (List.Mem.head _)
                                · exact absurd he List.not_mem_nil
                        · have hk : ¬ keep.tmod (rM b1 s1) < 0 := of_decide_eq_false hk
                          obtain ⟨hW1, h0W1, h1W1⟩ := rW0 (n := n1) hS1 hB1 hk
                          refine ⟨h0W1, Nat.zero_le _, lmle h1W1, ?_⟩
                          refine roundsR_succ ?_
                          refine ⟨hfr, Nat.le_refl _, ?_, ?_⟩
                          · intro _
                            refine ⟨fun h => Bool.noConfusion (show false = true from h), fun _ => ?_⟩
                            refine ⟨[.cls 1000000000 999000000 ⟨70, 73, 5, [fcut (n0, b0, s0) keep, fcut (n1, b1, s1) keep, fcut (n2, b2, s2) keep], room, -1, false, nb⟩ [999000001, 999000002, 999000003] [.own 999000000, .own 999000001, .own 999000002]], ?_⟩
                            refine ⟨rfl, _, rfl, ⟨rfl, rst_box hW0 h0W0 h1W0, (fun h => by cases h), ⟨rfl, rst_box hW1 h0W1 h1W1, (fun h => by cases h), ⟨rfl, rst_box hW2 h0W2 h1W2, (fun h => by cases h), trivial⟩⟩⟩, by kernel_rfl, hnb, ?_⟩
                            refine ⟨1, rfl, ?_⟩
                            exact hK
                          · intro e he hn
                            exfalso
                            rcases List.mem_cons.1 he with rfl | he
                            · exact hn (.tail _ (List.Mem.head _))
                            · rcases List.mem_cons.1 he with rfl | he
                              · exact hn (.tail _ (.tail _ (List.Mem.head _)))
                              · rcases List.mem_cons.1 he with rfl | he
                                · exact hn (List.Mem.head _)
                                · exact absurd he List.not_mem_nil
                      · rcases List.mem_cons.1 he with rfl | he
                        · exact absurd (List.Mem.head _) hn
                        · exact absurd he List.not_mem_nil
              · rcases List.mem_cons.1 he with rfl | he
                · refine ⟨fun _ => ?_, fun h => Bool.noConfusion (show true = false from h)⟩
                  refine ⟨rfl, [st2], _, rfl, (.tail _ (List.Mem.head _)), ?_⟩
                  refine ⟨hM1, ?_⟩
                  refine ⟨fun hk => ?_, fun hk => ?_⟩
                  · have hk : keep.tmod (rM b1 s1) < 0 := of_decide_eq_true hk
                    obtain ⟨hW1, h0W1, h1W1⟩ := rW1 (n := n1) hS1 hB1 hk
                    refine ⟨h0W1, Nat.zero_le _, lmle h1W1, ?_⟩
                    refine roundsR_succ ?_
                    refine ⟨hfr, Nat.le_refl _, ?_, ?_⟩
                    · intro ha
                      exfalso
                      have ha := ha _ (List.Mem.head _)
                      simp only [List.mem_append, List.mem_singleton, List.not_mem_nil, false_or] at ha
                      omega
                    · intro e he hn
                      rcases List.mem_cons.1 he with rfl | he
                      · refine ⟨fun _ => ?_, fun h => Bool.noConfusion (show true = false from h)⟩
                        refine ⟨rfl, [st2, st1], _, rfl, (List.Mem.head _), ?_⟩
                        refine ⟨hM0, ?_⟩
                        refine ⟨fun hk => ?_, fun hk => ?_⟩
                        · have hk : keep.tmod (rM b0 s0) < 0 := of_decide_eq_true hk
                          obtain ⟨hW0, h0W0, h1W0⟩ := rW1 (n := n0) hS0 hB0 hk
                          refine ⟨h0W0, Nat.zero_le _, lmle h1W0, ?_⟩
                          refine roundsR_succ ?_
                          refine ⟨hfr, Nat.le_refl _, ?_, ?_⟩
                          · intro _
                            refine ⟨fun h => Bool.noConfusion (show false = true from h), fun _ => ?_⟩
                            refine ⟨[.cls 1000000000 999000000 ⟨70, 73, 5, [fcut (n0, b0, s0) keep, fcut (n1, b1, s1) keep, fcut (n2, b2, s2) keep], room, -1, false, nb⟩ [999000001, 999000002, 999000003] [.own 999000000, .own 999000001, .own 999000002]], ?_⟩
                            refine ⟨rfl, _, rfl, ⟨rfl, rst_box hW0 h0W0 h1W0, (fun h => by cases h), ⟨rfl, rst_box hW1 h0W1 h1W1, (fun h => by cases h), ⟨rfl, rst_box hW2 h0W2 h1W2, (fun h => by cases h), trivial⟩⟩⟩, by kernel_rfl, hnb, ?_⟩
                            refine ⟨1, rfl, ?_⟩
                            exact hK
                          · intro e he hn
                            exfalso
                            rcases List.mem_cons.1 he with rfl | he
                            · exact hn (.tail _ (.tail _ (List.Mem.head _)))
                            · rcases List.mem_cons.1 he with rfl | he
                              · exact hn (.tail _ (List.Mem.head _))
                              · rcases List.mem_cons.1 he with rfl | he
                                · exact hn (List.Mem.head _)
                                · exact absurd he List.not_mem_nil
                        · have hk : ¬ keep.tmod (rM b0 s0) < 0 := of_decide_eq_false hk
                          obtain ⟨hW0, h0W0, h1W0⟩ := rW0 (n := n0) hS0 hB0 hk
                          refine ⟨h0W0, Nat.zero_le _, lmle h1W0, ?_⟩
                          refine roundsR_succ ?_
                          refine ⟨hfr, Nat.le_refl _, ?_, ?_⟩
                          · intro _
                            refine ⟨fun h => Bool.noConfusion (show false = true from h), fun _ => ?_⟩
                            refine ⟨[.cls 1000000000 999000000 ⟨70, 73, 5, [fcut (n0, b0, s0) keep, fcut (n1, b1, s1) keep, fcut (n2, b2, s2) keep], room, -1, false, nb⟩ [999000001, 999000002, 999000003] [.own 999000000, .own 999000001, .own 999000002]], ?_⟩
                            refine ⟨rfl, _, rfl, ⟨rfl, rst_box hW0 h0W0 h1W0, (fun h => by cases h), ⟨rfl, rst_box hW1 h0W1 h1W1, (fun h => by cases h), ⟨rfl, rst_box hW2 h0W2 h1W2, (fun h => by cases h), trivial⟩⟩⟩, by kernel_rfl, hnb, ?_⟩
                            refine ⟨1, rfl, ?_⟩
                            exact hK
                          · intro e he hn
                            exfalso
                            rcases List.mem_cons.1 he with rfl | he
                            · exact hn (.tail _ (.tail _ (List.Mem.head _)))
                            · rcases List.mem_cons.1 he with rfl | he
                              · exact hn (.tail _ (List.Mem.head _))
                              · rcases List.mem_cons.1 he with rfl | he
                                · exact hn (List.Mem.head _)
                                · exact absurd he List.not_mem_nil
                      · rcases List.mem_cons.1 he with rfl | he
                        · exact absurd (.tail _ (List.Mem.head _)) hn
                        · rcases List.mem_cons.1 he with rfl | he
                          · exact absurd (List.Mem.head _) hn
                          · exact absurd he List.not_mem_nil
                  · have hk : ¬ keep.tmod (rM b1 s1) < 0 := of_decide_eq_false hk
                    obtain ⟨hW1, h0W1, h1W1⟩ := rW0 (n := n1) hS1 hB1 hk
                    refine ⟨h0W1, Nat.zero_le _, lmle h1W1, ?_⟩
                    refine roundsR_succ ?_
                    refine ⟨hfr, Nat.le_refl _, ?_, ?_⟩
                    · intro ha
                      exfalso
                      have ha := ha _ (List.Mem.head _)
                      simp only [List.mem_append, List.mem_singleton, List.not_mem_nil, false_or] at ha
                      omega
                    · intro e he hn
                      rcases List.mem_cons.1 he with rfl | he
                      · refine ⟨fun _ => ?_, fun h => Bool.noConfusion (show true = false from h)⟩
                        refine ⟨rfl, [st2, st1], _, rfl, (List.Mem.head _), ?_⟩
                        refine ⟨hM0, ?_⟩
                        refine ⟨fun hk => ?_, fun hk => ?_⟩
                        · have hk : keep.tmod (rM b0 s0) < 0 := of_decide_eq_true hk
                          obtain ⟨hW0, h0W0, h1W0⟩ := rW1 (n := n0) hS0 hB0 hk
                          refine ⟨h0W0, Nat.zero_le _, lmle h1W0, ?_⟩
                          refine roundsR_succ ?_
                          refine ⟨hfr, Nat.le_refl _, ?_, ?_⟩
                          · intro _
                            refine ⟨fun h => Bool.noConfusion (show false = true from h), fun _ => ?_⟩
                            refine ⟨[.cls 1000000000 999000000 ⟨70, 73, 5, [fcut (n0, b0, s0) keep, fcut (n1, b1, s1) keep, fcut (n2, b2, s2) keep], room, -1, false, nb⟩ [999000001, 999000002, 999000003] [.own 999000000, .own 999000001, .own 999000002]], ?_⟩
                            refine ⟨rfl, _, rfl, ⟨rfl, rst_box hW0 h0W0 h1W0, (fun h => by cases h), ⟨rfl, rst_box hW1 h0W1 h1W1, (fun h => by cases h), ⟨rfl, rst_box hW2 h0W2 h1W2, (fun h => by cases h), trivial⟩⟩⟩, by kernel_rfl, hnb, ?_⟩
                            refine ⟨1, rfl, ?_⟩
                            exact hK
                          · intro e he hn
                            exfalso
                            rcases List.mem_cons.1 he with rfl | he
                            · exact hn (.tail _ (.tail _ (List.Mem.head _)))
                            · rcases List.mem_cons.1 he with rfl | he
                              · exact hn (.tail _ (List.Mem.head _))
                              · rcases List.mem_cons.1 he with rfl | he
                                · exact hn (List.Mem.head _)
                                · exact absurd he List.not_mem_nil
                        · have hk : ¬ keep.tmod (rM b0 s0) < 0 := of_decide_eq_false hk
                          obtain ⟨hW0, h0W0, h1W0⟩ := rW0 (n := n0) hS0 hB0 hk
                          refine ⟨h0W0, Nat.zero_le _, lmle h1W0, ?_⟩
                          refine roundsR_succ ?_
                          refine ⟨hfr, Nat.le_refl _, ?_, ?_⟩
                          · intro _
                            refine ⟨fun h => Bool.noConfusion (show false = true from h), fun _ => ?_⟩
                            refine ⟨[.cls 1000000000 999000000 ⟨70, 73, 5, [fcut (n0, b0, s0) keep, fcut (n1, b1, s1) keep, fcut (n2, b2, s2) keep], room, -1, false, nb⟩ [999000001, 999000002, 999000003] [.own 999000000, .own 999000001, .own 999000002]], ?_⟩
                            refine ⟨rfl, _, rfl, ⟨rfl, rst_box hW0 h0W0 h1W0, (fun h => by cases h), ⟨rfl, rst_box hW1 h0W1 h1W1, (fun h => by cases h), ⟨rfl, rst_box hW2 h0W2 h1W2, (fun h => by cases h), trivial⟩⟩⟩, by kernel_rfl, hnb, ?_⟩
                            refine ⟨1, rfl, ?_⟩
                            exact hK
                          · intro e he hn
                            exfalso
                            rcases List.mem_cons.1 he with rfl | he
                            · exact hn (.tail _ (.tail _ (List.Mem.head _)))
                            · rcases List.mem_cons.1 he with rfl | he
                              · exact hn (.tail _ (List.Mem.head _))
                              · rcases List.mem_cons.1 he with rfl | he
                                · exact hn (List.Mem.head _)
                                · exact absurd he List.not_mem_nil
                      · rcases List.mem_cons.1 he with rfl | he
                        · exact absurd (.tail _ (List.Mem.head _)) hn
                        · rcases List.mem_cons.1 he with rfl | he
                          · exact absurd (List.Mem.head _) hn
                          · exact absurd he List.not_mem_nil
                · rcases List.mem_cons.1 he with rfl | he
                  · exact absurd (List.Mem.head _) hn
                  · exact absurd he List.not_mem_nil
          · have hk : ¬ keep.tmod (rM b2 s2) < 0 := of_decide_eq_false hk
            obtain ⟨hW2, h0W2, h1W2⟩ := rW0 (n := n2) hS2 hB2 hk
            refine ⟨h0W2, Nat.zero_le _, lmle h1W2, ?_⟩
            refine roundsR_succ ?_
            refine ⟨hfr, Nat.le_refl _, ?_, ?_⟩
            · intro ha
              exfalso
              have ha := ha _ (List.Mem.head _)
              simp only [List.mem_append, List.mem_singleton, List.not_mem_nil, false_or] at ha
              omega
            · intro e he hn
              rcases List.mem_cons.1 he with rfl | he
              · refine ⟨fun _ => ?_, fun h => Bool.noConfusion (show true = false from h)⟩
                refine ⟨rfl, [st2], _, rfl, (List.Mem.head _), ?_⟩
                refine ⟨hM0, ?_⟩
                refine ⟨fun hk => ?_, fun hk => ?_⟩
                · have hk : keep.tmod (rM b0 s0) < 0 := of_decide_eq_true hk
                  obtain ⟨hW0, h0W0, h1W0⟩ := rW1 (n := n0) hS0 hB0 hk
                  refine ⟨h0W0, Nat.zero_le _, lmle h1W0, ?_⟩
                  refine roundsR_succ ?_
                  refine ⟨hfr, Nat.le_refl _, ?_, ?_⟩
                  · intro ha
                    exfalso
                    have ha := ha _ (.tail _ (List.Mem.head _))
                    simp only [List.mem_append, List.mem_singleton, List.not_mem_nil, false_or] at ha
                    omega
                  · intro e he hn
                    rcases List.mem_cons.1 he with rfl | he
                    · exact absurd (.tail _ (List.Mem.head _)) hn
                    · rcases List.mem_cons.1 he with rfl | he
                      · refine ⟨fun _ => ?_, fun h => Bool.noConfusion (show true = false from h)⟩
                        refine ⟨rfl, [st2, st0], _, rfl, (.tail _ (List.Mem.head _)), ?_⟩
                        refine ⟨hM1, ?_⟩
                        refine ⟨fun hk => ?_, fun hk => ?_⟩
                        · have hk : keep.tmod (rM b1 s1) < 0 := of_decide_eq_true hk
                          obtain ⟨hW1, h0W1, h1W1⟩ := rW1 (n := n1) hS1 hB1 hk
                          refine ⟨h0W1, Nat.zero_le _, lmle h1W1, ?_⟩
                          refine roundsR_succ ?_
                          refine ⟨hfr, Nat.le_refl _, ?_, ?_⟩
                          · intro _
                            refine ⟨fun h => Bool.noConfusion (show false = true from h), fun _ => ?_⟩
                            refine ⟨[.cls 1000000000 999000000 ⟨70, 73, 5, [fcut (n0, b0, s0) keep, fcut (n1, b1, s1) keep, fcut (n2, b2, s2) keep], room, -1, false, nb⟩ [999000001, 999000002, 999000003] [.own 999000000, .own 999000001, .own 999000002]], ?_⟩
                            refine ⟨rfl, _, rfl, ⟨rfl, rst_box hW0 h0W0 h1W0, (fun h => by cases h), ⟨rfl, rst_box hW1 h0W1 h1W1, (fun h => by cases h), ⟨rfl, rst_box hW2 h0W2 h1W2, (fun h => by cases h), trivial⟩⟩⟩, by kernel_rfl, hnb, ?_⟩
                            refine ⟨1, rfl, ?_⟩
                            exact hK
                          · intro e he hn
                            exfalso
                            rcases List.mem_cons.1 he with rfl | he
                            · exact hn (.tail _ (List.Mem.head _))
                            · rcases List.mem_cons.1 he with rfl | he
                              · exact hn (.tail _ (.tail _ (List.Mem.head _)))
                              · rcases List.mem_cons.1 he with rfl | he
                                · exact hn (List.Mem.head _)
                                · exact absurd he List.not_mem_nil
                        · have hk : ¬ keep.tmod (rM b1 s1) < 0 := of_decide_eq_false hk
                          obtain ⟨hW1, h0W1, h1W1⟩ := rW0 (n := n1) hS1 hB1 hk
                          refine ⟨h0W1, Nat.zero_le _, lmle h1W1, ?_⟩
                          refine roundsR_succ ?_
                          refine ⟨hfr, Nat.le_refl _, ?_, ?_⟩
                          · intro _
                            refine ⟨fun h => Bool.noConfusion (show false = true from h), fun _ => ?_⟩
                            refine ⟨[.cls 1000000000 999000000 ⟨70, 73, 5, [fcut (n0, b0, s0) keep, fcut (n1, b1, s1) keep, fcut (n2, b2, s2) keep], room, -1, false, nb⟩ [999000001, 999000002, 999000003] [.own 999000000, .own 999000001, .own 999000002]], ?_⟩
                            refine ⟨rfl, _, rfl, ⟨rfl, rst_box hW0 h0W0 h1W0, (fun h => by cases h), ⟨rfl, rst_box hW1 h0W1 h1W1, (fun h => by cases h), ⟨rfl, rst_box hW2 h0W2 h1W2, (fun h => by cases h), trivial⟩⟩⟩, by kernel_rfl, hnb, ?_⟩
                            refine ⟨1, rfl, ?_⟩
                            exact hK
                          · intro e he hn
                            exfalso
                            rcases List.mem_cons.1 he with rfl | he
                            · exact hn (.tail _ (List.Mem.head _))
                            · rcases List.mem_cons.1 he with rfl | he
                              · exact hn (.tail _ (.tail _ (List.Mem.head _)))
                              · rcases List.mem_cons.1 he with rfl | he
                                · exact hn (List.Mem.head _)
                                · exact absurd he List.not_mem_nil
                      · rcases List.mem_cons.1 he with rfl | he
                        · exact absurd (List.Mem.head _) hn
                        · exact absurd he List.not_mem_nil
                · have hk : ¬ keep.tmod (rM b0 s0) < 0 := of_decide_eq_false hk
                  obtain ⟨hW0, h0W0, h1W0⟩ := rW0 (n := n0) hS0 hB0 hk
                  refine ⟨h0W0, Nat.zero_le _, lmle h1W0, ?_⟩
                  refine roundsR_succ ?_
                  refine ⟨hfr, Nat.le_refl _, ?_, ?_⟩
                  · intro ha
                    exfalso
                    have ha := ha _ (.tail _ (List.Mem.head _))
                    simp only [List.mem_append, List.mem_singleton, List.not_mem_nil, false_or] at ha
                    omega
                  · intro e he hn
                    rcases List.mem_cons.1 he with rfl | he
                    · exact absurd (.tail _ (List.Mem.head _)) hn
                    · rcases List.mem_cons.1 he with rfl | he
                      · refine ⟨fun _ => ?_, fun h => Bool.noConfusion (show true = false from h)⟩
                        refine ⟨rfl, [st2, st0], _, rfl, (.tail _ (List.Mem.head _)), ?_⟩
                        refine ⟨hM1, ?_⟩
                        refine ⟨fun hk => ?_, fun hk => ?_⟩
                        · have hk : keep.tmod (rM b1 s1) < 0 := of_decide_eq_true hk
                          obtain ⟨hW1, h0W1, h1W1⟩ := rW1 (n := n1) hS1 hB1 hk
                          refine ⟨h0W1, Nat.zero_le _, lmle h1W1, ?_⟩
                          refine roundsR_succ ?_
                          refine ⟨hfr, Nat.le_refl _, ?_, ?_⟩
                          · intro _
                            refine ⟨fun h => Bool.noConfusion (show false = true from h), fun _ => ?_⟩
                            refine ⟨[.cls 1000000000 999000000 ⟨70, 73, 5, [fcut (n0, b0, s0) keep, fcut (n1, b1, s1) keep, fcut (n2, b2, s2) keep], room, -1, false, nb⟩ [999000001, 999000002, 999000003] [.own 999000000, .own 999000001, .own 999000002]], ?_⟩
                            refine ⟨rfl, _, rfl, ⟨rfl, rst_box hW0 h0W0 h1W0, (fun h => by cases h), ⟨rfl, rst_box hW1 h0W1 h1W1, (fun h => by cases h), ⟨rfl, rst_box hW2 h0W2 h1W2, (fun h => by cases h), trivial⟩⟩⟩, by kernel_rfl, hnb, ?_⟩
                            refine ⟨1, rfl, ?_⟩
                            exact hK
                          · intro e he hn
                            exfalso
                            rcases List.mem_cons.1 he with rfl | he
                            · exact hn (.tail _ (List.Mem.head _))
                            · rcases List.mem_cons.1 he with rfl | he
                              · exact hn (.tail _ (.tail _ (List.Mem.head _)))
                              · rcases List.mem_cons.1 he with rfl | he
                                · exact hn (List.Mem.head _)
                                · exact absurd he List.not_mem_nil
                        · have hk : ¬ keep.tmod (rM b1 s1) < 0 := of_decide_eq_false hk
                          obtain ⟨hW1, h0W1, h1W1⟩ := rW0 (n := n1) hS1 hB1 hk
                          refine ⟨h0W1, Nat.zero_le _, lmle h1W1, ?_⟩
                          refine roundsR_succ ?_
                          refine ⟨hfr, Nat.le_refl _, ?_, ?_⟩
                          · intro _
                            refine ⟨fun h => Bool.noConfusion (show false = true from h), fun _ => ?_⟩
                            refine ⟨[.cls 1000000000 999000000 ⟨70, 73, 5, [fcut (n0, b0, s0) keep, fcut (n1, b1, s1) keep, fcut (n2, b2, s2) keep], room, -1, false, nb⟩ [999000001, 999000002, 999000003] [.own 999000000, .own 999000001, .own 999000002]], ?_⟩
                            refine ⟨rfl, _, rfl, ⟨rfl, rst_box hW0 h0W0 h1W0, (fun h => by cases h), ⟨rfl, rst_box hW1 h0W1 h1W1, (fun h => by cases h), ⟨rfl, rst_box hW2 h0W2 h1W2, (fun h => by cases h), trivial⟩⟩⟩, by kernel_rfl, hnb, ?_⟩
                            refine ⟨1, rfl, ?_⟩
                            exact hK
                          · intro e he hn
                            exfalso
                            rcases List.mem_cons.1 he with rfl | he
                            · exact hn (.tail _ (List.Mem.head _))
                            · rcases List.mem_cons.1 he with rfl | he
                              · exact hn (.tail _ (.tail _ (List.Mem.head _)))
                              · rcases List.mem_cons.1 he with rfl | he
                                · exact hn (List.Mem.head _)
                                · exact absurd he List.not_mem_nil
                      · rcases List.mem_cons.1 he with rfl | he
                        · exact absurd (List.Mem.head _) hn
                        · exact absurd he List.not_mem_nil
              · rcases List.mem_cons.1 he with rfl | he
                · refine ⟨fun _ => ?_, fun h => Bool.noConfusion (show true = false from h)⟩
                  refine ⟨rfl, [st2], _, rfl, (.tail _ (List.Mem.head _)), ?_⟩
                  refine ⟨hM1, ?_⟩
                  refine ⟨fun hk => ?_, fun hk => ?_⟩
                  · have hk : keep.tmod (rM b1 s1) < 0 := of_decide_eq_true hk
                    obtain ⟨hW1, h0W1, h1W1⟩ := rW1 (n := n1) hS1 hB1 hk
                    refine ⟨h0W1, Nat.zero_le _, lmle h1W1, ?_⟩
                    refine roundsR_succ ?_
                    refine ⟨hfr, Nat.le_refl _, ?_, ?_⟩
                    · intro ha
                      exfalso
                      have ha := ha _ (List.Mem.head _)
                      simp only [List.mem_append, List.mem_singleton, List.not_mem_nil, false_or] at ha
                      omega
                    · intro e he hn
                      rcases List.mem_cons.1 he with rfl | he
                      · refine ⟨fun _ => ?_, fun h => Bool.noConfusion (show true = false from h)⟩
                        refine ⟨rfl, [st2, st1], _, rfl, (List.Mem.head _), ?_⟩
                        refine ⟨hM0, ?_⟩
                        refine ⟨fun hk => ?_, fun hk => ?_⟩
                        · have hk : keep.tmod (rM b0 s0) < 0 := of_decide_eq_true hk
                          obtain ⟨hW0, h0W0, h1W0⟩ := rW1 (n := n0) hS0 hB0 hk
                          refine ⟨h0W0, Nat.zero_le _, lmle h1W0, ?_⟩
                          refine roundsR_succ ?_
                          refine ⟨hfr, Nat.le_refl _, ?_, ?_⟩
                          · intro _
                            refine ⟨fun h => Bool.noConfusion (show false = true from h), fun _ => ?_⟩
                            refine ⟨[.cls 1000000000 999000000 ⟨70, 73, 5, [fcut (n0, b0, s0) keep, fcut (n1, b1, s1) keep, fcut (n2, b2, s2) keep], room, -1, false, nb⟩ [999000001, 999000002, 999000003] [.own 999000000, .own 999000001, .own 999000002]], ?_⟩
                            refine ⟨rfl, _, rfl, ⟨rfl, rst_box hW0 h0W0 h1W0, (fun h => by cases h), ⟨rfl, rst_box hW1 h0W1 h1W1, (fun h => by cases h), ⟨rfl, rst_box hW2 h0W2 h1W2, (fun h => by cases h), trivial⟩⟩⟩, by kernel_rfl, hnb, ?_⟩
                            refine ⟨1, rfl, ?_⟩
                            exact hK
                          · intro e he hn
                            exfalso
                            rcases List.mem_cons.1 he with rfl | he
                            · exact hn (.tail _ (.tail _ (List.Mem.head _)))
                            · rcases List.mem_cons.1 he with rfl | he
                              · exact hn (.tail _ (List.Mem.head _))
                              · rcases List.mem_cons.1 he with rfl | he
                                · exact hn (List.Mem.head _)
                                · exact absurd he List.not_mem_nil
                        · have hk : ¬ keep.tmod (rM b0 s0) < 0 := of_decide_eq_false hk
                          obtain ⟨hW0, h0W0, h1W0⟩ := rW0 (n := n0) hS0 hB0 hk
                          refine ⟨h0W0, Nat.zero_le _, lmle h1W0, ?_⟩
                          refine roundsR_succ ?_
                          refine ⟨hfr, Nat.le_refl _, ?_, ?_⟩
                          · intro _
                            refine ⟨fun h => Bool.noConfusion (show false = true from h), fun _ => ?_⟩
                            refine ⟨[.cls 1000000000 999000000 ⟨70, 73, 5, [fcut (n0, b0, s0) keep, fcut (n1, b1, s1) keep, fcut (n2, b2, s2) keep], room, -1, false, nb⟩ [999000001, 999000002, 999000003] [.own 999000000, .own 999000001, .own 999000002]], ?_⟩
                            refine ⟨rfl, _, rfl, ⟨rfl, rst_box hW0 h0W0 h1W0, (fun h => by cases h), ⟨rfl, rst_box hW1 h0W1 h1W1, (fun h => by cases h), ⟨rfl, rst_box hW2 h0W2 h1W2, (fun h => by cases h), trivial⟩⟩⟩, by kernel_rfl, hnb, ?_⟩
                            refine ⟨1, rfl, ?_⟩
                            exact hK
                          · intro e he hn
                            exfalso
                            rcases List.mem_cons.1 he with rfl | he
                            · exact hn (.tail _ (.tail _ (List.Mem.head _)))
                            · rcases List.mem_cons.1 he with rfl | he
                              · exact hn (.tail _ (List.Mem.head _))
                              · rcases List.mem_cons.1 he with rfl | he
                                · exact hn (List.Mem.head _)
                                · exact absurd he List.not_mem_nil
                      · rcases List.mem_cons.1 he with rfl | he
                        · exact absurd (.tail _ (List.Mem.head _)) hn
                        · rcases List.mem_cons.1 he with rfl | he
                          · exact absurd (List.Mem.head _) hn
                          · exact absurd he List.not_mem_nil
                  · have hk : ¬ keep.tmod (rM b1 s1) < 0 := of_decide_eq_false hk
                    obtain ⟨hW1, h0W1, h1W1⟩ := rW0 (n := n1) hS1 hB1 hk
                    refine ⟨h0W1, Nat.zero_le _, lmle h1W1, ?_⟩
                    refine roundsR_succ ?_
                    refine ⟨hfr, Nat.le_refl _, ?_, ?_⟩
                    · intro ha
                      exfalso
                      have ha := ha _ (List.Mem.head _)
                      simp only [List.mem_append, List.mem_singleton, List.not_mem_nil, false_or] at ha
                      omega
                    · intro e he hn
                      rcases List.mem_cons.1 he with rfl | he
                      · refine ⟨fun _ => ?_, fun h => Bool.noConfusion (show true = false from h)⟩
                        refine ⟨rfl, [st2, st1], _, rfl, (List.Mem.head _), ?_⟩
                        refine ⟨hM0, ?_⟩
                        refine ⟨fun hk => ?_, fun hk => ?_⟩
                        · have hk : keep.tmod (rM b0 s0) < 0 := of_decide_eq_true hk
                          obtain ⟨hW0, h0W0, h1W0⟩ := rW1 (n := n0) hS0 hB0 hk
                          refine ⟨h0W0, Nat.zero_le _, lmle h1W0, ?_⟩
                          refine roundsR_succ ?_
                          refine ⟨hfr, Nat.le_refl _, ?_, ?_⟩
                          · intro _
                            refine ⟨fun h => Bool.noConfusion (show false = true from h), fun _ => ?_⟩
                            refine ⟨[.cls 1000000000 999000000 ⟨70, 73, 5, [fcut (n0, b0, s0) keep, fcut (n1, b1, s1) keep, fcut (n2, b2, s2) keep], room, -1, false, nb⟩ [999000001, 999000002, 999000003] [.own 999000000, .own 999000001, .own 999000002]], ?_⟩
                            refine ⟨rfl, _, rfl, ⟨rfl, rst_box hW0 h0W0 h1W0, (fun h => by cases h), ⟨rfl, rst_box hW1 h0W1 h1W1, (fun h => by cases h), ⟨rfl, rst_box hW2 h0W2 h1W2, (fun h => by cases h), trivial⟩⟩⟩, by kernel_rfl, hnb, ?_⟩
                            refine ⟨1, rfl, ?_⟩
                            exact hK
                          · intro e he hn
                            exfalso
                            rcases List.mem_cons.1 he with rfl | he
                            · exact hn (.tail _ (.tail _ (List.Mem.head _)))
                            · rcases List.mem_cons.1 he with rfl | he
                              · exact hn (.tail _ (List.Mem.head _))
                              · rcases List.mem_cons.1 he with rfl | he
                                · exact hn (List.Mem.head _)
                                · exact absurd he List.not_mem_nil
                        · have hk : ¬ keep.tmod (rM b0 s0) < 0 := of_decide_eq_false hk
                          obtain ⟨hW0, h0W0, h1W0⟩ := rW0 (n := n0) hS0 hB0 hk
                          refine ⟨h0W0, Nat.zero_le _, lmle h1W0, ?_⟩
                          refine roundsR_succ ?_
                          refine ⟨hfr, Nat.le_refl _, ?_, ?_⟩
                          · intro _
                            refine ⟨fun h => Bool.noConfusion (show false = true from h), fun _ => ?_⟩
                            refine ⟨[.cls 1000000000 999000000 ⟨70, 73, 5, [fcut (n0, b0, s0) keep, fcut (n1, b1, s1) keep, fcut (n2, b2, s2) keep], room, -1, false, nb⟩ [999000001, 999000002, 999000003] [.own 999000000, .own 999000001, .own 999000002]], ?_⟩
                            refine ⟨rfl, _, rfl, ⟨rfl, rst_box hW0 h0W0 h1W0, (fun h => by cases h), ⟨rfl, rst_box hW1 h0W1 h1W1, (fun h => by cases h), ⟨rfl, rst_box hW2 h0W2 h1W2, (fun h => by cases h), trivial⟩⟩⟩, by kernel_rfl, hnb, ?_⟩
                            refine ⟨1, rfl, ?_⟩
                            exact hK
                          · intro e he hn
                            exfalso
                            rcases List.mem_cons.1 he with rfl | he
                            · exact hn (.tail _ (.tail _ (List.Mem.head _)))
                            · rcases List.mem_cons.1 he with rfl | he
                              · exact hn (.tail _ (List.Mem.head _))
                              · rcases List.mem_cons.1 he with rfl | he
                                · exact hn (List.Mem.head _)
                                · exact absurd he List.not_mem_nil
                      · rcases List.mem_cons.1 he with rfl | he
                        · exact absurd (.tail _ (List.Mem.head _)) hn
                        · rcases List.mem_cons.1 he with rfl | he
                          · exact absurd (List.Mem.head _) hn
                          · exact absurd he List.not_mem_nil
                · rcases List.mem_cons.1 he with rfl | he
                  · exact absurd (List.Mem.head _) hn
                  · exact absurd he List.not_mem_nil
        · exact absurd he List.not_mem_nil
end Go.Proofs.YtbpcofnhndgoeaaDoor.A
