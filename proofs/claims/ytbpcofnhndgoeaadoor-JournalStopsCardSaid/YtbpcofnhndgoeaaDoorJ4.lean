/- Disks: Sync, Rename, Remove, Cut. -/
import Derived.Test.YtbpcofnhndgoeaaDoorJ3
namespace Go.Proofs.YtbpcofnhndgoeaaDoor.A
open Go Q
theorem len_box {tf tb : TypeId} {g : Tag} {x : List Int} : some (Box.cells tf [.sl g tb (x.map (AV.int .u8)), .int .i64 ((x.map (AV.int .u8)).length : Nat)]) = some (.cells tf [.sl g tb (x.map (AV.int .u8)), .int .i64 (x.length : Int)]) := by rw [List.length_map]
theorem cut_box {tf tb : TypeId} {g : Tag} {x : List Int} {m : Int} : some (Box.cells tf [.sl g tb ((x.map (AV.int .u8)).take m.toNat), .int .i64 m]) = some (.cells tf [.sl g tb ((x.take m.toNat).map (AV.int .u8)), .int .i64 m]) := by rw [List.map_take]
def dk1C (F : Dk → Int → Int × Dk) (args : List AV) (bs : List Box) (K : AV → List Box → Prop) : Prop := ∃ d nb k, DOk d ∧ 2000000000 ≤ nb ∧ args = [.ptr 1000000000 0, .int .i64 k] ∧ bs = [dkB d nb] ∧ K (erA (F d k).1) [dkB (F d k).2 nb]
def dk2C (F : Dk → Int → Int → Int × Dk) (args : List AV) (bs : List Box) (K : AV → List Box → Prop) : Prop := ∃ d nb k m, DOk d ∧ 2000000000 ≤ nb ∧ args = [.ptr 1000000000 0, .int .i64 k, .int .i64 m] ∧ bs = [dkB d nb] ∧ K (erA (F d k m).1) [dkB (F d k m).2 nb]
set_option maxRecDepth 200000 in
set_option maxHeartbeats 6400000 in
theorem sync_ok : FnOkN Tryd.prog tab 13 (dk1C syncD) := by
  refine fn_okN (E := D1_E pl13) tab_is (D1_C _) JDk_ok Tryd.func13 rfl rfl (by kernel_rfl) ?_
  rintro args bs K ⟨⟨fs, room, left, stop⟩, nb, k, hd, hnb, rfl, rfl, hK⟩
  refine ⟨rfl, [], ?_⟩
  rcases len3 hd.n with h | ⟨⟨n0, b0, s0⟩, h⟩ | ⟨⟨n0, b0, s0⟩, ⟨n1, b1, s1⟩, h⟩ | ⟨⟨n0, b0, s0⟩, ⟨n1, b1, s1⟩, ⟨n2, b2, s2⟩, h⟩
  all_goals
    have h : fs = _ := h
    subst h
  · refine ⟨none, mfind_nil, ?_⟩
    cases stop with
    | true =>
      have hA : syncD ⟨[], room, left, true⟩ k = (12, ⟨[], room, left, true⟩) := by simp [syncD]
      rw [hA] at hK
      clear hA
      refine ⟨fun _ => ?_, fun h => Bool.noConfusion (show true = false from h)⟩
      refine ⟨[.cls 1000000000 999000000 ⟨70, 73, 5, [], room, left, true, nb⟩ [] []], ?_⟩
      refine ⟨rfl, _, rfl, trivial, by kernel_rfl, hnb, ?_⟩
      refine ⟨1, rfl, ?_⟩
      exact hK
    | false =>
      refine ⟨fun h => Bool.noConfusion (show false = true from h), fun _ => ?_⟩
      have hA : syncD ⟨[], room, left, false⟩ k = (2, ⟨[], room, left, false⟩) := by simp [syncD, fget]
      rw [hA] at hK
      clear hA
      refine ⟨fun _ => ?_, fun h => Bool.noConfusion (show true = false from h)⟩
      refine ⟨[.cls 1000000000 999000000 ⟨70, 73, 5, [], room, left, false, nb⟩ [] []], ?_⟩
      refine ⟨rfl, _, rfl, trivial, by kernel_rfl, hnb, ?_⟩
      refine ⟨1, rfl, ?_⟩
      exact hK
  · by_cases h0 : k = n0
    · subst h0
      refine ⟨some (.ptr 999000001 0), mfind_hit, ?_⟩
      cases stop with
      | true =>
        have hA : syncD ⟨[(k, b0, s0)], room, left, true⟩ k = (12, ⟨[(k, b0, s0)], room, left, true⟩) := by simp [syncD]
        rw [hA] at hK
        clear hA
        refine ⟨fun _ => ?_, fun h => Bool.noConfusion (show true = false from h)⟩
        refine ⟨[.cls 1000000000 999000000 ⟨70, 73, 5, [(k, b0, s0)], room, left, true, nb⟩ [999000001] [.own 999000000]], ?_⟩
        refine ⟨rfl, _, rfl, ⟨rfl, rfl, (fun h => by cases h), trivial⟩, by kernel_rfl, hnb, ?_⟩
        refine ⟨1, rfl, ?_⟩
        exact hK
      | false =>
        refine ⟨fun h => Bool.noConfusion (show false = true from h), fun _ => ?_⟩
        refine ⟨fun h => Bool.noConfusion (show false = true from h), fun _ => ?_⟩
        refine ⟨[1000000000, 999000000, 999000001], [999000000], [], 100000000, rfl, _, rfl, rfl, ⟨[(k, b0, s0)], room, left, false⟩, ⟨hd.l0, hd.l1⟩, .inr ⟨_, _, (by exact Nat.le_of_ble_eq_true rfl), rfl, rfl, ?_⟩⟩
        refine ⟨fun hw => ?_, fun hw => ?_⟩
        · have hw : Dk.wk ⟨[(k, b0, s0)], room, left, false⟩ = false := by simpa using hw
          have hA : syncD ⟨[(k, b0, s0)], room, left, false⟩ k = (12, ⟨[(k, b0, s0)], room, Dk.lf ⟨[(k, b0, s0)], room, left, false⟩, Dk.st ⟨[(k, b0, s0)], room, left, false⟩⟩) := by simp [syncD, fget, worksD, hw]
          rw [hA] at hK
          clear hA
          refine ⟨[.cls 1000000000 999000000 ⟨70, 73, 5, [(k, b0, s0)], room, Dk.lf ⟨[(k, b0, s0)], room, left, false⟩, Dk.st ⟨[(k, b0, s0)], room, left, false⟩, nb⟩ [999000001] [.own 100000000]], ?_⟩
          refine ⟨rfl, _, rfl, ⟨rfl, rfl, (fun h => by cases h), trivial⟩, by kernel_rfl, hnb, ?_⟩
          refine ⟨1, rfl, ?_⟩
          exact hK
        · have hw : Dk.wk ⟨[(k, b0, s0)], room, left, false⟩ = true := by simpa using hw
          have hA : syncD ⟨[(k, b0, s0)], room, left, false⟩ k = (0, ⟨[(k, b0, b0.length)], room, Dk.lf ⟨[(k, b0, s0)], room, left, false⟩, Dk.st ⟨[(k, b0, s0)], room, left, false⟩⟩) := by simp [syncD, fget, fset, hw]
          rw [hA] at hK
          clear hA
          refine ⟨[.cls 1000000000 999000000 ⟨70, 73, 5, [(k, b0, b0.length)], room, Dk.lf ⟨[(k, b0, s0)], room, left, false⟩, Dk.st ⟨[(k, b0, s0)], room, left, false⟩, nb⟩ [999000001] [.own 100000000]], ?_⟩
          refine ⟨rfl, _, rfl, ⟨rfl, len_box, (fun h => by cases h), trivial⟩, by kernel_rfl, hnb, ?_⟩
          refine ⟨1, rfl, ?_⟩
          exact hK
    · refine ⟨none, (mfind_miss h0).trans mfind_nil, ?_⟩
      cases stop with
      | true =>
        have hA : syncD ⟨[(n0, b0, s0)], room, left, true⟩ k = (12, ⟨[(n0, b0, s0)], room, left, true⟩) := by simp [syncD]
        rw [hA] at hK
        clear hA
        refine ⟨fun _ => ?_, fun h => Bool.noConfusion (show true = false from h)⟩
        refine ⟨[.cls 1000000000 999000000 ⟨70, 73, 5, [(n0, b0, s0)], room, left, true, nb⟩ [999000001] [.own 999000000]], ?_⟩
        refine ⟨rfl, _, rfl, ⟨rfl, rfl, (fun h => by cases h), trivial⟩, by kernel_rfl, hnb, ?_⟩
        refine ⟨1, rfl, ?_⟩
        exact hK
      | false =>
        refine ⟨fun h => Bool.noConfusion (show false = true from h), fun _ => ?_⟩
        have hA : syncD ⟨[(n0, b0, s0)], room, left, false⟩ k = (2, ⟨[(n0, b0, s0)], room, left, false⟩) := by simp [syncD, fget, h0]
        rw [hA] at hK
        clear hA
        refine ⟨fun _ => ?_, fun h => Bool.noConfusion (show true = false from h)⟩
        refine ⟨[.cls 1000000000 999000000 ⟨70, 73, 5, [(n0, b0, s0)], room, left, false, nb⟩ [999000001] [.own 999000000]], ?_⟩
        refine ⟨rfl, _, rfl, ⟨rfl, rfl, (fun h => by cases h), trivial⟩, by kernel_rfl, hnb, ?_⟩
        refine ⟨1, rfl, ?_⟩
        exact hK
  · by_cases h0 : k = n0
    · subst h0
      refine ⟨some (.ptr 999000001 0), mfind_hit, ?_⟩
      cases stop with
      | true =>
        have hA : syncD ⟨[(k, b0, s0), (n1, b1, s1)], room, left, true⟩ k = (12, ⟨[(k, b0, s0), (n1, b1, s1)], room, left, true⟩) := by simp [syncD]
        rw [hA] at hK
        clear hA
        refine ⟨fun _ => ?_, fun h => Bool.noConfusion (show true = false from h)⟩
        refine ⟨[.cls 1000000000 999000000 ⟨70, 73, 5, [(k, b0, s0), (n1, b1, s1)], room, left, true, nb⟩ [999000001, 999000002] [.own 999000000, .own 999000001]], ?_⟩
        refine ⟨rfl, _, rfl, ⟨rfl, rfl, (fun h => by cases h), ⟨rfl, rfl, (fun h => by cases h), trivial⟩⟩, by kernel_rfl, hnb, ?_⟩
        refine ⟨1, rfl, ?_⟩
        exact hK
      | false =>
        refine ⟨fun h => Bool.noConfusion (show false = true from h), fun _ => ?_⟩
        refine ⟨fun h => Bool.noConfusion (show false = true from h), fun _ => ?_⟩
        refine ⟨[1000000000, 999000000, 999000001, 999000002], [999000000, 999000001], [], 100000000, rfl, _, rfl, rfl, ⟨[(k, b0, s0), (n1, b1, s1)], room, left, false⟩, ⟨hd.l0, hd.l1⟩, .inr ⟨_, _, (by exact Nat.le_of_ble_eq_true rfl), rfl, rfl, ?_⟩⟩
        refine ⟨fun hw => ?_, fun hw => ?_⟩
        · have hw : Dk.wk ⟨[(k, b0, s0), (n1, b1, s1)], room, left, false⟩ = false := by simpa using hw
          have hA : syncD ⟨[(k, b0, s0), (n1, b1, s1)], room, left, false⟩ k = (12, ⟨[(k, b0, s0), (n1, b1, s1)], room, Dk.lf ⟨[(k, b0, s0), (n1, b1, s1)], room, left, false⟩, Dk.st ⟨[(k, b0, s0), (n1, b1, s1)], room, left, false⟩⟩) := by simp [syncD, fget, worksD, hw]
          rw [hA] at hK
          clear hA
          refine ⟨[.cls 1000000000 999000000 ⟨70, 73, 5, [(k, b0, s0), (n1, b1, s1)], room, Dk.lf ⟨[(k, b0, s0), (n1, b1, s1)], room, left, false⟩, Dk.st ⟨[(k, b0, s0), (n1, b1, s1)], room, left, false⟩, nb⟩ [999000001, 999000002] [.own 100000000, .own 100000001]], ?_⟩
          refine ⟨rfl, _, rfl, ⟨rfl, rfl, (fun h => by cases h), ⟨rfl, rfl, (fun h => by cases h), trivial⟩⟩, by kernel_rfl, hnb, ?_⟩
          refine ⟨1, rfl, ?_⟩
          exact hK
        · have hw : Dk.wk ⟨[(k, b0, s0), (n1, b1, s1)], room, left, false⟩ = true := by simpa using hw
          have hA : syncD ⟨[(k, b0, s0), (n1, b1, s1)], room, left, false⟩ k = (0, ⟨[(k, b0, b0.length), (n1, b1, s1)], room, Dk.lf ⟨[(k, b0, s0), (n1, b1, s1)], room, left, false⟩, Dk.st ⟨[(k, b0, s0), (n1, b1, s1)], room, left, false⟩⟩) := by simp [syncD, fget, fset, hw]
          rw [hA] at hK
          clear hA
          refine ⟨[.cls 1000000000 999000000 ⟨70, 73, 5, [(k, b0, b0.length), (n1, b1, s1)], room, Dk.lf ⟨[(k, b0, s0), (n1, b1, s1)], room, left, false⟩, Dk.st ⟨[(k, b0, s0), (n1, b1, s1)], room, left, false⟩, nb⟩ [999000001, 999000002] [.own 100000000, .own 100000001]], ?_⟩
          refine ⟨rfl, _, rfl, ⟨rfl, len_box, (fun h => by cases h), ⟨rfl, rfl, (fun h => by cases h), trivial⟩⟩, by kernel_rfl, hnb, ?_⟩
          refine ⟨1, rfl, ?_⟩
          exact hK
    · by_cases h1 : k = n1
      · subst h1
        refine ⟨some (.ptr 999000002 0), (mfind_miss h0).trans mfind_hit, ?_⟩
        cases stop with
        | true =>
          have hA : syncD ⟨[(n0, b0, s0), (k, b1, s1)], room, left, true⟩ k = (12, ⟨[(n0, b0, s0), (k, b1, s1)], room, left, true⟩) := by simp [syncD]
          rw [hA] at hK
          clear hA
          refine ⟨fun _ => ?_, fun h => Bool.noConfusion (show true = false from h)⟩
          refine ⟨[.cls 1000000000 999000000 ⟨70, 73, 5, [(n0, b0, s0), (k, b1, s1)], room, left, true, nb⟩ [999000001, 999000002] [.own 999000000, .own 999000001]], ?_⟩
          refine ⟨rfl, _, rfl, ⟨rfl, rfl, (fun h => by cases h), ⟨rfl, rfl, (fun h => by cases h), trivial⟩⟩, by kernel_rfl, hnb, ?_⟩
          refine ⟨1, rfl, ?_⟩
          exact hK
        | false =>
          refine ⟨fun h => Bool.noConfusion (show false = true from h), fun _ => ?_⟩
          refine ⟨fun h => Bool.noConfusion (show false = true from h), fun _ => ?_⟩
          refine ⟨[1000000000, 999000000, 999000001, 999000002], [999000000, 999000001], [], 100000000, rfl, _, rfl, rfl, ⟨[(n0, b0, s0), (k, b1, s1)], room, left, false⟩, ⟨hd.l0, hd.l1⟩, .inr ⟨_, _, (by exact Nat.le_of_ble_eq_true rfl), rfl, rfl, ?_⟩⟩
          refine ⟨fun hw => ?_, fun hw => ?_⟩
          · have hw : Dk.wk ⟨[(n0, b0, s0), (k, b1, s1)], room, left, false⟩ = false := by simpa using hw
            have hA : syncD ⟨[(n0, b0, s0), (k, b1, s1)], room, left, false⟩ k = (12, ⟨[(n0, b0, s0), (k, b1, s1)], room, Dk.lf ⟨[(n0, b0, s0), (k, b1, s1)], room, left, false⟩, Dk.st ⟨[(n0, b0, s0), (k, b1, s1)], room, left, false⟩⟩) := by simp [syncD, fget, h0, worksD, hw]
            rw [hA] at hK
            clear hA
            refine ⟨[.cls 1000000000 999000000 ⟨70, 73, 5, [(n0, b0, s0), (k, b1, s1)], room, Dk.lf ⟨[(n0, b0, s0), (k, b1, s1)], room, left, false⟩, Dk.st ⟨[(n0, b0, s0), (k, b1, s1)], room, left, false⟩, nb⟩ [999000001, 999000002] [.own 100000000, .own 100000001]], ?_⟩
            refine ⟨rfl, _, rfl, ⟨rfl, rfl, (fun h => by cases h), ⟨rfl, rfl, (fun h => by cases h), trivial⟩⟩, by kernel_rfl, hnb, ?_⟩
            refine ⟨1, rfl, ?_⟩
            exact hK
          · have hw : Dk.wk ⟨[(n0, b0, s0), (k, b1, s1)], room, left, false⟩ = true := by simpa using hw
            have hA : syncD ⟨[(n0, b0, s0), (k, b1, s1)], room, left, false⟩ k = (0, ⟨[(n0, b0, s0), (k, b1, b1.length)], room, Dk.lf ⟨[(n0, b0, s0), (k, b1, s1)], room, left, false⟩, Dk.st ⟨[(n0, b0, s0), (k, b1, s1)], room, left, false⟩⟩) := by simp [syncD, fget, h0, fset, hw]
            rw [hA] at hK
            clear hA
            refine ⟨[.cls 1000000000 999000000 ⟨70, 73, 5, [(n0, b0, s0), (k, b1, b1.length)], room, Dk.lf ⟨[(n0, b0, s0), (k, b1, s1)], room, left, false⟩, Dk.st ⟨[(n0, b0, s0), (k, b1, s1)], room, left, false⟩, nb⟩ [999000001, 999000002] [.own 100000000, .own 100000001]], ?_⟩
            refine ⟨rfl, _, rfl, ⟨rfl, rfl, (fun h => by cases h), ⟨rfl, len_box, (fun h => by cases h), trivial⟩⟩, by kernel_rfl, hnb, ?_⟩
            refine ⟨1, rfl, ?_⟩
            exact hK
      · refine ⟨none, (mfind_miss h0).trans ((mfind_miss h1).trans mfind_nil), ?_⟩
        cases stop with
        | true =>
          have hA : syncD ⟨[(n0, b0, s0), (n1, b1, s1)], room, left, true⟩ k = (12, ⟨[(n0, b0, s0), (n1, b1, s1)], room, left, true⟩) := by simp [syncD]
          rw [hA] at hK
          clear hA
          refine ⟨fun _ => ?_, fun h => Bool.noConfusion (show true = false from h)⟩
          refine ⟨[.cls 1000000000 999000000 ⟨70, 73, 5, [(n0, b0, s0), (n1, b1, s1)], room, left, true, nb⟩ [999000001, 999000002] [.own 999000000, .own 999000001]], ?_⟩
          refine ⟨rfl, _, rfl, ⟨rfl, rfl, (fun h => by cases h), ⟨rfl, rfl, (fun h => by cases h), trivial⟩⟩, by kernel_rfl, hnb, ?_⟩
          refine ⟨1, rfl, ?_⟩
          exact hK
        | false =>
          refine ⟨fun h => Bool.noConfusion (show false = true from h), fun _ => ?_⟩
          have hA : syncD ⟨[(n0, b0, s0), (n1, b1, s1)], room, left, false⟩ k = (2, ⟨[(n0, b0, s0), (n1, b1, s1)], room, left, false⟩) := by simp [syncD, fget, h0, h1]
          rw [hA] at hK
          clear hA
          refine ⟨fun _ => ?_, fun h => Bool.noConfusion (show true = false from h)⟩
          refine ⟨[.cls 1000000000 999000000 ⟨70, 73, 5, [(n0, b0, s0), (n1, b1, s1)], room, left, false, nb⟩ [999000001, 999000002] [.own 999000000, .own 999000001]], ?_⟩
          refine ⟨rfl, _, rfl, ⟨rfl, rfl, (fun h => by cases h), ⟨rfl, rfl, (fun h => by cases h), trivial⟩⟩, by kernel_rfl, hnb, ?_⟩
          refine ⟨1, rfl, ?_⟩
          exact hK
  · by_cases h0 : k = n0
    · subst h0
      refine ⟨some (.ptr 999000001 0), mfind_hit, ?_⟩
      cases stop with
      | true =>
        have hA : syncD ⟨[(k, b0, s0), (n1, b1, s1), (n2, b2, s2)], room, left, true⟩ k = (12, ⟨[(k, b0, s0), (n1, b1, s1), (n2, b2, s2)], room, left, true⟩) := by simp [syncD]
        rw [hA] at hK
        clear hA
        refine ⟨fun _ => ?_, fun h => Bool.noConfusion (show true = false from h)⟩
        refine ⟨[.cls 1000000000 999000000 ⟨70, 73, 5, [(k, b0, s0), (n1, b1, s1), (n2, b2, s2)], room, left, true, nb⟩ [999000001, 999000002, 999000003] [.own 999000000, .own 999000001, .own 999000002]], ?_⟩
        refine ⟨rfl, _, rfl, ⟨rfl, rfl, (fun h => by cases h), ⟨rfl, rfl, (fun h => by cases h), ⟨rfl, rfl, (fun h => by cases h), trivial⟩⟩⟩, by kernel_rfl, hnb, ?_⟩
        refine ⟨1, rfl, ?_⟩
        exact hK
      | false =>
        refine ⟨fun h => Bool.noConfusion (show false = true from h), fun _ => ?_⟩
        refine ⟨fun h => Bool.noConfusion (show false = true from h), fun _ => ?_⟩
        refine ⟨[1000000000, 999000000, 999000001, 999000002, 999000003], [999000000, 999000001, 999000002], [], 100000000, rfl, _, rfl, rfl, ⟨[(k, b0, s0), (n1, b1, s1), (n2, b2, s2)], room, left, false⟩, ⟨hd.l0, hd.l1⟩, .inr ⟨_, _, (by exact Nat.le_of_ble_eq_true rfl), rfl, rfl, ?_⟩⟩
        refine ⟨fun hw => ?_, fun hw => ?_⟩
        · have hw : Dk.wk ⟨[(k, b0, s0), (n1, b1, s1), (n2, b2, s2)], room, left, false⟩ = false := by simpa using hw
          have hA : syncD ⟨[(k, b0, s0), (n1, b1, s1), (n2, b2, s2)], room, left, false⟩ k = (12, ⟨[(k, b0, s0), (n1, b1, s1), (n2, b2, s2)], room, Dk.lf ⟨[(k, b0, s0), (n1, b1, s1), (n2, b2, s2)], room, left, false⟩, Dk.st ⟨[(k, b0, s0), (n1, b1, s1), (n2, b2, s2)], room, left, false⟩⟩) := by simp [syncD, fget, worksD, hw]
          rw [hA] at hK
          clear hA
          refine ⟨[.cls 1000000000 999000000 ⟨70, 73, 5, [(k, b0, s0), (n1, b1, s1), (n2, b2, s2)], room, Dk.lf ⟨[(k, b0, s0), (n1, b1, s1), (n2, b2, s2)], room, left, false⟩, Dk.st ⟨[(k, b0, s0), (n1, b1, s1), (n2, b2, s2)], room, left, false⟩, nb⟩ [999000001, 999000002, 999000003] [.own 100000000, .own 100000001, .own 100000002]], ?_⟩
          refine ⟨rfl, _, rfl, ⟨rfl, rfl, (fun h => by cases h), ⟨rfl, rfl, (fun h => by cases h), ⟨rfl, rfl, (fun h => by cases h), trivial⟩⟩⟩, by kernel_rfl, hnb, ?_⟩
          refine ⟨1, rfl, ?_⟩
          exact hK
        · have hw : Dk.wk ⟨[(k, b0, s0), (n1, b1, s1), (n2, b2, s2)], room, left, false⟩ = true := by simpa using hw
          have hA : syncD ⟨[(k, b0, s0), (n1, b1, s1), (n2, b2, s2)], room, left, false⟩ k = (0, ⟨[(k, b0, b0.length), (n1, b1, s1), (n2, b2, s2)], room, Dk.lf ⟨[(k, b0, s0), (n1, b1, s1), (n2, b2, s2)], room, left, false⟩, Dk.st ⟨[(k, b0, s0), (n1, b1, s1), (n2, b2, s2)], room, left, false⟩⟩) := by simp [syncD, fget, fset, hw]
          rw [hA] at hK
          clear hA
          refine ⟨[.cls 1000000000 999000000 ⟨70, 73, 5, [(k, b0, b0.length), (n1, b1, s1), (n2, b2, s2)], room, Dk.lf ⟨[(k, b0, s0), (n1, b1, s1), (n2, b2, s2)], room, left, false⟩, Dk.st ⟨[(k, b0, s0), (n1, b1, s1), (n2, b2, s2)], room, left, false⟩, nb⟩ [999000001, 999000002, 999000003] [.own 100000000, .own 100000001, .own 100000002]], ?_⟩
          refine ⟨rfl, _, rfl, ⟨rfl, len_box, (fun h => by cases h), ⟨rfl, rfl, (fun h => by cases h), ⟨rfl, rfl, (fun h => by cases h), trivial⟩⟩⟩, by kernel_rfl, hnb, ?_⟩
          refine ⟨1, rfl, ?_⟩
          exact hK
    · by_cases h1 : k = n1
      · subst h1
        refine ⟨some (.ptr 999000002 0), (mfind_miss h0).trans mfind_hit, ?_⟩
        cases stop with
        | true =>
          have hA : syncD ⟨[(n0, b0, s0), (k, b1, s1), (n2, b2, s2)], room, left, true⟩ k = (12, ⟨[(n0, b0, s0), (k, b1, s1), (n2, b2, s2)], room, left, true⟩) := by simp [syncD]
          rw [hA] at hK
          clear hA
          refine ⟨fun _ => ?_, fun h => Bool.noConfusion (show true = false from h)⟩
          refine ⟨[.cls 1000000000 999000000 ⟨70, 73, 5, [(n0, b0, s0), (k, b1, s1), (n2, b2, s2)], room, left, true, nb⟩ [999000001, 999000002, 999000003] [.own 999000000, .own 999000001, .own 999000002]], ?_⟩
          refine ⟨rfl, _, rfl, ⟨rfl, rfl, (fun h => by cases h), ⟨rfl, rfl, (fun h => by cases h), ⟨rfl, rfl, (fun h => by cases h), trivial⟩⟩⟩, by kernel_rfl, hnb, ?_⟩
          refine ⟨1, rfl, ?_⟩
          exact hK
        | false =>
          refine ⟨fun h => Bool.noConfusion (show false = true from h), fun _ => ?_⟩
          refine ⟨fun h => Bool.noConfusion (show false = true from h), fun _ => ?_⟩
          refine ⟨[1000000000, 999000000, 999000001, 999000002, 999000003], [999000000, 999000001, 999000002], [], 100000000, rfl, _, rfl, rfl, ⟨[(n0, b0, s0), (k, b1, s1), (n2, b2, s2)], room, left, false⟩, ⟨hd.l0, hd.l1⟩, .inr ⟨_, _, (by exact Nat.le_of_ble_eq_true rfl), rfl, rfl, ?_⟩⟩
          refine ⟨fun hw => ?_, fun hw => ?_⟩
          · have hw : Dk.wk ⟨[(n0, b0, s0), (k, b1, s1), (n2, b2, s2)], room, left, false⟩ = false := by simpa using hw
            have hA : syncD ⟨[(n0, b0, s0), (k, b1, s1), (n2, b2, s2)], room, left, false⟩ k = (12, ⟨[(n0, b0, s0), (k, b1, s1), (n2, b2, s2)], room, Dk.lf ⟨[(n0, b0, s0), (k, b1, s1), (n2, b2, s2)], room, left, false⟩, Dk.st ⟨[(n0, b0, s0), (k, b1, s1), (n2, b2, s2)], room, left, false⟩⟩) := by simp [syncD, fget, h0, worksD, hw]
            rw [hA] at hK
            clear hA
            refine ⟨[.cls 1000000000 999000000 ⟨70, 73, 5, [(n0, b0, s0), (k, b1, s1), (n2, b2, s2)], room, Dk.lf ⟨[(n0, b0, s0), (k, b1, s1), (n2, b2, s2)], room, left, false⟩, Dk.st ⟨[(n0, b0, s0), (k, b1, s1), (n2, b2, s2)], room, left, false⟩, nb⟩ [999000001, 999000002, 999000003] [.own 100000000, .own 100000001, .own 100000002]], ?_⟩
            refine ⟨rfl, _, rfl, ⟨rfl, rfl, (fun h => by cases h), ⟨rfl, rfl, (fun h => by cases h), ⟨rfl, rfl, (fun h => by cases h), trivial⟩⟩⟩, by kernel_rfl, hnb, ?_⟩
            refine ⟨1, rfl, ?_⟩
            exact hK
          · have hw : Dk.wk ⟨[(n0, b0, s0), (k, b1, s1), (n2, b2, s2)], room, left, false⟩ = true := by simpa using hw
            have hA : syncD ⟨[(n0, b0, s0), (k, b1, s1), (n2, b2, s2)], room, left, false⟩ k = (0, ⟨[(n0, b0, s0), (k, b1, b1.length), (n2, b2, s2)], room, Dk.lf ⟨[(n0, b0, s0), (k, b1, s1), (n2, b2, s2)], room, left, false⟩, Dk.st ⟨[(n0, b0, s0), (k, b1, s1), (n2, b2, s2)], room, left, false⟩⟩) := by simp [syncD, fget, h0, fset, hw]
            rw [hA] at hK
            clear hA
            refine ⟨[.cls 1000000000 999000000 ⟨70, 73, 5, [(n0, b0, s0), (k, b1, b1.length), (n2, b2, s2)], room, Dk.lf ⟨[(n0, b0, s0), (k, b1, s1), (n2, b2, s2)], room, left, false⟩, Dk.st ⟨[(n0, b0, s0), (k, b1, s1), (n2, b2, s2)], room, left, false⟩, nb⟩ [999000001, 999000002, 999000003] [.own 100000000, .own 100000001, .own 100000002]], ?_⟩
            refine ⟨rfl, _, rfl, ⟨rfl, rfl, (fun h => by cases h), ⟨rfl, len_box, (fun h => by cases h), ⟨rfl, rfl, (fun h => by cases h), trivial⟩⟩⟩, by kernel_rfl, hnb, ?_⟩
            refine ⟨1, rfl, ?_⟩
            exact hK
      · by_cases h2 : k = n2
        · subst h2
          refine ⟨some (.ptr 999000003 0), (mfind_miss h0).trans ((mfind_miss h1).trans mfind_hit), ?_⟩
          cases stop with
          | true =>
            have hA : syncD ⟨[(n0, b0, s0), (n1, b1, s1), (k, b2, s2)], room, left, true⟩ k = (12, ⟨[(n0, b0, s0), (n1, b1, s1), (k, b2, s2)], room, left, true⟩) := by simp [syncD]
            rw [hA] at hK
            clear hA
            refine ⟨fun _ => ?_, fun h => Bool.noConfusion (show true = false from h)⟩
            refine ⟨[.cls 1000000000 999000000 ⟨70, 73, 5, [(n0, b0, s0), (n1, b1, s1), (k, b2, s2)], room, left, true, nb⟩ [999000001, 999000002, 999000003] [.own 999000000, .own 999000001, .own 999000002]], ?_⟩
            refine ⟨rfl, _, rfl, ⟨rfl, rfl, (fun h => by cases h), ⟨rfl, rfl, (fun h => by cases h), ⟨rfl, rfl, (fun h => by cases h), trivial⟩⟩⟩, by kernel_rfl, hnb, ?_⟩
            refine ⟨1, rfl, ?_⟩
            exact hK
          | false =>
            refine ⟨fun h => Bool.noConfusion (show false = true from h), fun _ => ?_⟩
            refine ⟨fun h => Bool.noConfusion (show false = true from h), fun _ => ?_⟩
            refine ⟨[1000000000, 999000000, 999000001, 999000002, 999000003], [999000000, 999000001, 999000002], [], 100000000, rfl, _, rfl, rfl, ⟨[(n0, b0, s0), (n1, b1, s1), (k, b2, s2)], room, left, false⟩, ⟨hd.l0, hd.l1⟩, .inr ⟨_, _, (by exact Nat.le_of_ble_eq_true rfl), rfl, rfl, ?_⟩⟩
            refine ⟨fun hw => ?_, fun hw => ?_⟩
            · have hw : Dk.wk ⟨[(n0, b0, s0), (n1, b1, s1), (k, b2, s2)], room, left, false⟩ = false := by simpa using hw
              have hA : syncD ⟨[(n0, b0, s0), (n1, b1, s1), (k, b2, s2)], room, left, false⟩ k = (12, ⟨[(n0, b0, s0), (n1, b1, s1), (k, b2, s2)], room, Dk.lf ⟨[(n0, b0, s0), (n1, b1, s1), (k, b2, s2)], room, left, false⟩, Dk.st ⟨[(n0, b0, s0), (n1, b1, s1), (k, b2, s2)], room, left, false⟩⟩) := by simp [syncD, fget, h0, h1, worksD, hw]
              rw [hA] at hK
              clear hA
              refine ⟨[.cls 1000000000 999000000 ⟨70, 73, 5, [(n0, b0, s0), (n1, b1, s1), (k, b2, s2)], room, Dk.lf ⟨[(n0, b0, s0), (n1, b1, s1), (k, b2, s2)], room, left, false⟩, Dk.st ⟨[(n0, b0, s0), (n1, b1, s1), (k, b2, s2)], room, left, false⟩, nb⟩ [999000001, 999000002, 999000003] [.own 100000000, .own 100000001, .own 100000002]], ?_⟩
              refine ⟨rfl, _, rfl, ⟨rfl, rfl, (fun h => by cases h), ⟨rfl, rfl, (fun h => by cases h), ⟨rfl, rfl, (fun h => by cases h), trivial⟩⟩⟩, by kernel_rfl, hnb, ?_⟩
              refine ⟨1, rfl, ?_⟩
              exact hK
            · have hw : Dk.wk ⟨[(n0, b0, s0), (n1, b1, s1), (k, b2, s2)], room, left, false⟩ = true := by simpa using hw
              have hA : syncD ⟨[(n0, b0, s0), (n1, b1, s1), (k, b2, s2)], room, left, false⟩ k = (0, ⟨[(n0, b0, s0), (n1, b1, s1), (k, b2, b2.length)], room, Dk.lf ⟨[(n0, b0, s0), (n1, b1, s1), (k, b2, s2)], room, left, false⟩, Dk.st ⟨[(n0, b0, s0), (n1, b1, s1), (k, b2, s2)], room, left, false⟩⟩) := by simp [syncD, fget, h0, h1, fset, hw]
              rw [hA] at hK
              clear hA
              refine ⟨[.cls 1000000000 999000000 ⟨70, 73, 5, [(n0, b0, s0), (n1, b1, s1), (k, b2, b2.length)], room, Dk.lf ⟨[(n0, b0, s0), (n1, b1, s1), (k, b2, s2)], room, left, false⟩, Dk.st ⟨[(n0, b0, s0), (n1, b1, s1), (k, b2, s2)], room, left, false⟩, nb⟩ [999000001, 999000002, 999000003] [.own 100000000, .own 100000001, .own 100000002]], ?_⟩
              refine ⟨rfl, _, rfl, ⟨rfl, rfl, (fun h => by cases h), ⟨rfl, rfl, (fun h => by cases h), ⟨rfl, len_box, (fun h => by cases h), trivial⟩⟩⟩, by kernel_rfl, hnb, ?_⟩
              refine ⟨1, rfl, ?_⟩
              exact hK
        · refine ⟨none, (mfind_miss h0).trans ((mfind_miss h1).trans ((mfind_miss h2).trans mfind_nil)), ?_⟩
          cases stop with
          | true =>
            have hA : syncD ⟨[(n0, b0, s0), (n1, b1, s1), (n2, b2, s2)], room, left, true⟩ k = (12, ⟨[(n0, b0, s0), (n1, b1, s1), (n2, b2, s2)], room, left, true⟩) := by simp [syncD]
            rw [hA] at hK
            clear hA
            refine ⟨fun _ => ?_, fun h => Bool.noConfusion (show true = false from h)⟩
            refine ⟨[.cls 1000000000 999000000 ⟨70, 73, 5, [(n0, b0, s0), (n1, b1, s1), (n2, b2, s2)], room, left, true, nb⟩ [999000001, 999000002, 999000003] [.own 999000000, .own 999000001, .own 999000002]], ?_⟩
            refine ⟨rfl, _, rfl, ⟨rfl, rfl, (fun h => by cases h), ⟨rfl, rfl, (fun h => by cases h), ⟨rfl, rfl, (fun h => by cases h), trivial⟩⟩⟩, by kernel_rfl, hnb, ?_⟩
            refine ⟨1, rfl, ?_⟩
            exact hK
          | false =>
            refine ⟨fun h => Bool.noConfusion (show false = true from h), fun _ => ?_⟩
            have hA : syncD ⟨[(n0, b0, s0), (n1, b1, s1), (n2, b2, s2)], room, left, false⟩ k = (2, ⟨[(n0, b0, s0), (n1, b1, s1), (n2, b2, s2)], room, left, false⟩) := by simp [syncD, fget, h0, h1, h2]
            rw [hA] at hK
            clear hA
            refine ⟨fun _ => ?_, fun h => Bool.noConfusion (show true = false from h)⟩
            refine ⟨[.cls 1000000000 999000000 ⟨70, 73, 5, [(n0, b0, s0), (n1, b1, s1), (n2, b2, s2)], room, left, false, nb⟩ [999000001, 999000002, 999000003] [.own 999000000, .own 999000001, .own 999000002]], ?_⟩
            refine ⟨rfl, _, rfl, ⟨rfl, rfl, (fun h => by cases h), ⟨rfl, rfl, (fun h => by cases h), ⟨rfl, rfl, (fun h => by cases h), trivial⟩⟩⟩, by kernel_rfl, hnb, ?_⟩
            refine ⟨1, rfl, ?_⟩
            exact hK
set_option maxRecDepth 200000 in
set_option maxHeartbeats 6400000 in
theorem remove_ok : FnOkN Tryd.prog tab 44 (dk1C removeD) := by
  refine fn_okN (E := D1_E pl44) tab_is (D1_C _) JDk_ok Tryd.func44 rfl rfl (by kernel_rfl) ?_
  rintro args bs K ⟨⟨fs, room, left, stop⟩, nb, k, hd, hnb, rfl, rfl, hK⟩
  refine ⟨rfl, [], ?_⟩
  cases stop with
  | true =>
    have hA : removeD ⟨fs, room, left, true⟩ k = (12, ⟨fs, room, left, true⟩) := by simp [removeD]
    rw [hA] at hK
    refine ⟨fun _ => ?_, fun h => Bool.noConfusion (show true = false from h)⟩
    exact ⟨[], 1, rfl, hK⟩
  | false =>
    refine ⟨fun h => Bool.noConfusion (show false = true from h), fun _ => ?_⟩
    rcases len3 hd.n with h | ⟨⟨n0, b0, s0⟩, h⟩ | ⟨⟨n0, b0, s0⟩, ⟨n1, b1, s1⟩, h⟩ | ⟨⟨n0, b0, s0⟩, ⟨n1, b1, s1⟩, ⟨n2, b2, s2⟩, h⟩
    all_goals
      have h : fs = _ := h
      subst h
    · refine ⟨none, mfind_nil, ?_⟩
      have hA : removeD ⟨[], room, left, false⟩ k = (2, ⟨[], room, left, false⟩) := by simp [removeD, fget]
      rw [hA] at hK
      clear hA
      refine ⟨fun _ => ?_, fun h => Bool.noConfusion (show true = false from h)⟩
      refine ⟨[.cls 1000000000 999000000 ⟨70, 73, 5, [], room, left, false, nb⟩ [] []], ?_⟩
      refine ⟨rfl, _, rfl, trivial, by kernel_rfl, hnb, ?_⟩
      refine ⟨1, rfl, ?_⟩
      exact hK
    · by_cases h0 : k = n0
      · subst h0
        refine ⟨some (.ptr 999000001 0), mfind_hit, ?_⟩
        refine ⟨fun h => Bool.noConfusion (show false = true from h), fun _ => ?_⟩
        refine ⟨[1000000000, 999000000, 999000001], [999000000], [], 100000000, rfl, _, rfl, rfl, ⟨[(k, b0, s0)], room, left, false⟩, ⟨hd.l0, hd.l1⟩, .inr ⟨_, _, (by exact Nat.le_of_ble_eq_true rfl), rfl, rfl, ?_⟩⟩
        refine ⟨fun hw => ?_, fun hw => ?_⟩
        · have hw : Dk.wk ⟨[(k, b0, s0)], room, left, false⟩ = false := by simpa using hw
          have hA : removeD ⟨[(k, b0, s0)], room, left, false⟩ k = (12, ⟨[(k, b0, s0)], room, Dk.lf ⟨[(k, b0, s0)], room, left, false⟩, Dk.st ⟨[(k, b0, s0)], room, left, false⟩⟩) := by simp [removeD, fget, worksD, hw]
          rw [hA] at hK
          clear hA
          refine ⟨[.cls 1000000000 999000000 ⟨70, 73, 5, [(k, b0, s0)], room, Dk.lf ⟨[(k, b0, s0)], room, left, false⟩, Dk.st ⟨[(k, b0, s0)], room, left, false⟩, nb⟩ [999000001] [.own 100000000]], ?_⟩
          refine ⟨rfl, _, rfl, ⟨rfl, rfl, (fun h => by cases h), trivial⟩, by kernel_rfl, hnb, ?_⟩
          refine ⟨1, rfl, ?_⟩
          exact hK
        · have hw : Dk.wk ⟨[(k, b0, s0)], room, left, false⟩ = true := by simpa using hw
          have hA : removeD ⟨[(k, b0, s0)], room, left, false⟩ k = (0, ⟨[], room, Dk.lf ⟨[(k, b0, s0)], room, left, false⟩, Dk.st ⟨[(k, b0, s0)], room, left, false⟩⟩) := by simp [removeD, fget, fdel, hw]
          rw [hA] at hK
          clear hA
          refine ⟨_, mdel_hit, ?_⟩
          refine ⟨[.cls 1000000000 999000000 ⟨70, 73, 5, [], room, Dk.lf ⟨[(k, b0, s0)], room, left, false⟩, Dk.st ⟨[(k, b0, s0)], room, left, false⟩, nb⟩ [] []], ?_⟩
          refine ⟨rfl, _, rfl, trivial, by kernel_rfl, hnb, ?_⟩
          refine ⟨1, rfl, ?_⟩
          exact hK
      · refine ⟨none, (mfind_miss h0).trans mfind_nil, ?_⟩
        have hA : removeD ⟨[(n0, b0, s0)], room, left, false⟩ k = (2, ⟨[(n0, b0, s0)], room, left, false⟩) := by simp [removeD, fget, h0]
        rw [hA] at hK
        clear hA
        refine ⟨fun _ => ?_, fun h => Bool.noConfusion (show true = false from h)⟩
        refine ⟨[.cls 1000000000 999000000 ⟨70, 73, 5, [(n0, b0, s0)], room, left, false, nb⟩ [999000001] [.own 999000000]], ?_⟩
        refine ⟨rfl, _, rfl, ⟨rfl, rfl, (fun h => by cases h), trivial⟩, by kernel_rfl, hnb, ?_⟩
        refine ⟨1, rfl, ?_⟩
        exact hK
    · by_cases h0 : k = n0
      · subst h0
        refine ⟨some (.ptr 999000001 0), mfind_hit, ?_⟩
        refine ⟨fun h => Bool.noConfusion (show false = true from h), fun _ => ?_⟩
        refine ⟨[1000000000, 999000000, 999000001, 999000002], [999000000, 999000001], [], 100000000, rfl, _, rfl, rfl, ⟨[(k, b0, s0), (n1, b1, s1)], room, left, false⟩, ⟨hd.l0, hd.l1⟩, .inr ⟨_, _, (by exact Nat.le_of_ble_eq_true rfl), rfl, rfl, ?_⟩⟩
        refine ⟨fun hw => ?_, fun hw => ?_⟩
        · have hw : Dk.wk ⟨[(k, b0, s0), (n1, b1, s1)], room, left, false⟩ = false := by simpa using hw
          have hA : removeD ⟨[(k, b0, s0), (n1, b1, s1)], room, left, false⟩ k = (12, ⟨[(k, b0, s0), (n1, b1, s1)], room, Dk.lf ⟨[(k, b0, s0), (n1, b1, s1)], room, left, false⟩, Dk.st ⟨[(k, b0, s0), (n1, b1, s1)], room, left, false⟩⟩) := by simp [removeD, fget, worksD, hw]
          rw [hA] at hK
          clear hA
          refine ⟨[.cls 1000000000 999000000 ⟨70, 73, 5, [(k, b0, s0), (n1, b1, s1)], room, Dk.lf ⟨[(k, b0, s0), (n1, b1, s1)], room, left, false⟩, Dk.st ⟨[(k, b0, s0), (n1, b1, s1)], room, left, false⟩, nb⟩ [999000001, 999000002] [.own 100000000, .own 100000001]], ?_⟩
          refine ⟨rfl, _, rfl, ⟨rfl, rfl, (fun h => by cases h), ⟨rfl, rfl, (fun h => by cases h), trivial⟩⟩, by kernel_rfl, hnb, ?_⟩
          refine ⟨1, rfl, ?_⟩
          exact hK
        · have hw : Dk.wk ⟨[(k, b0, s0), (n1, b1, s1)], room, left, false⟩ = true := by simpa using hw
          have hA : removeD ⟨[(k, b0, s0), (n1, b1, s1)], room, left, false⟩ k = (0, ⟨[(n1, b1, s1)], room, Dk.lf ⟨[(k, b0, s0), (n1, b1, s1)], room, left, false⟩, Dk.st ⟨[(k, b0, s0), (n1, b1, s1)], room, left, false⟩⟩) := by simp [removeD, fget, fdel, hw]
          rw [hA] at hK
          clear hA
          refine ⟨_, mdel_hit, ?_⟩
          refine ⟨[.cls 1000000000 999000000 ⟨70, 73, 5, [(n1, b1, s1)], room, Dk.lf ⟨[(k, b0, s0), (n1, b1, s1)], room, left, false⟩, Dk.st ⟨[(k, b0, s0), (n1, b1, s1)], room, left, false⟩, nb⟩ [999000002] [.own 100000001]], ?_⟩
          refine ⟨rfl, _, rfl, ⟨rfl, rfl, (fun h => by cases h), trivial⟩, by kernel_rfl, hnb, ?_⟩
          refine ⟨1, rfl, ?_⟩
          exact hK
      · by_cases h1 : k = n1
        · subst h1
          refine ⟨some (.ptr 999000002 0), (mfind_miss h0).trans mfind_hit, ?_⟩
          refine ⟨fun h => Bool.noConfusion (show false = true from h), fun _ => ?_⟩
          refine ⟨[1000000000, 999000000, 999000001, 999000002], [999000000, 999000001], [], 100000000, rfl, _, rfl, rfl, ⟨[(n0, b0, s0), (k, b1, s1)], room, left, false⟩, ⟨hd.l0, hd.l1⟩, .inr ⟨_, _, (by exact Nat.le_of_ble_eq_true rfl), rfl, rfl, ?_⟩⟩
          refine ⟨fun hw => ?_, fun hw => ?_⟩
          · have hw : Dk.wk ⟨[(n0, b0, s0), (k, b1, s1)], room, left, false⟩ = false := by simpa using hw
            have hA : removeD ⟨[(n0, b0, s0), (k, b1, s1)], room, left, false⟩ k = (12, ⟨[(n0, b0, s0), (k, b1, s1)], room, Dk.lf ⟨[(n0, b0, s0), (k, b1, s1)], room, left, false⟩, Dk.st ⟨[(n0, b0, s0), (k, b1, s1)], room, left, false⟩⟩) := by simp [removeD, fget, h0, worksD, hw]
            rw [hA] at hK
            clear hA
            refine ⟨[.cls 1000000000 999000000 ⟨70, 73, 5, [(n0, b0, s0), (k, b1, s1)], room, Dk.lf ⟨[(n0, b0, s0), (k, b1, s1)], room, left, false⟩, Dk.st ⟨[(n0, b0, s0), (k, b1, s1)], room, left, false⟩, nb⟩ [999000001, 999000002] [.own 100000000, .own 100000001]], ?_⟩
            refine ⟨rfl, _, rfl, ⟨rfl, rfl, (fun h => by cases h), ⟨rfl, rfl, (fun h => by cases h), trivial⟩⟩, by kernel_rfl, hnb, ?_⟩
            refine ⟨1, rfl, ?_⟩
            exact hK
          · have hw : Dk.wk ⟨[(n0, b0, s0), (k, b1, s1)], room, left, false⟩ = true := by simpa using hw
            have hA : removeD ⟨[(n0, b0, s0), (k, b1, s1)], room, left, false⟩ k = (0, ⟨[(n0, b0, s0)], room, Dk.lf ⟨[(n0, b0, s0), (k, b1, s1)], room, left, false⟩, Dk.st ⟨[(n0, b0, s0), (k, b1, s1)], room, left, false⟩⟩) := by simp [removeD, fget, h0, fdel, hw]
            rw [hA] at hK
            clear hA
            refine ⟨_, mdel_miss h0 (mdel_hit), ?_⟩
            refine ⟨[.cls 1000000000 999000000 ⟨70, 73, 5, [(n0, b0, s0)], room, Dk.lf ⟨[(n0, b0, s0), (k, b1, s1)], room, left, false⟩, Dk.st ⟨[(n0, b0, s0), (k, b1, s1)], room, left, false⟩, nb⟩ [999000001] [.own 100000000]], ?_⟩
            refine ⟨rfl, _, rfl, ⟨rfl, rfl, (fun h => by cases h), trivial⟩, by kernel_rfl, hnb, ?_⟩
            refine ⟨1, rfl, ?_⟩
            exact hK
        · refine ⟨none, (mfind_miss h0).trans ((mfind_miss h1).trans mfind_nil), ?_⟩
          have hA : removeD ⟨[(n0, b0, s0), (n1, b1, s1)], room, left, false⟩ k = (2, ⟨[(n0, b0, s0), (n1, b1, s1)], room, left, false⟩) := by simp [removeD, fget, h0, h1]
          rw [hA] at hK
          clear hA
          refine ⟨fun _ => ?_, fun h => Bool.noConfusion (show true = false from h)⟩
          refine ⟨[.cls 1000000000 999000000 ⟨70, 73, 5, [(n0, b0, s0), (n1, b1, s1)], room, left, false, nb⟩ [999000001, 999000002] [.own 999000000, .own 999000001]], ?_⟩
          refine ⟨rfl, _, rfl, ⟨rfl, rfl, (fun h => by cases h), ⟨rfl, rfl, (fun h => by cases h), trivial⟩⟩, by kernel_rfl, hnb, ?_⟩
          refine ⟨1, rfl, ?_⟩
          exact hK
    · by_cases h0 : k = n0
      · subst h0
        refine ⟨some (.ptr 999000001 0), mfind_hit, ?_⟩
        refine ⟨fun h => Bool.noConfusion (show false = true from h), fun _ => ?_⟩
        refine ⟨[1000000000, 999000000, 999000001, 999000002, 999000003], [999000000, 999000001, 999000002], [], 100000000, rfl, _, rfl, rfl, ⟨[(k, b0, s0), (n1, b1, s1), (n2, b2, s2)], room, left, false⟩, ⟨hd.l0, hd.l1⟩, .inr ⟨_, _, (by exact Nat.le_of_ble_eq_true rfl), rfl, rfl, ?_⟩⟩
        refine ⟨fun hw => ?_, fun hw => ?_⟩
        · have hw : Dk.wk ⟨[(k, b0, s0), (n1, b1, s1), (n2, b2, s2)], room, left, false⟩ = false := by simpa using hw
          have hA : removeD ⟨[(k, b0, s0), (n1, b1, s1), (n2, b2, s2)], room, left, false⟩ k = (12, ⟨[(k, b0, s0), (n1, b1, s1), (n2, b2, s2)], room, Dk.lf ⟨[(k, b0, s0), (n1, b1, s1), (n2, b2, s2)], room, left, false⟩, Dk.st ⟨[(k, b0, s0), (n1, b1, s1), (n2, b2, s2)], room, left, false⟩⟩) := by simp [removeD, fget, worksD, hw]
          rw [hA] at hK
          clear hA
          refine ⟨[.cls 1000000000 999000000 ⟨70, 73, 5, [(k, b0, s0), (n1, b1, s1), (n2, b2, s2)], room, Dk.lf ⟨[(k, b0, s0), (n1, b1, s1), (n2, b2, s2)], room, left, false⟩, Dk.st ⟨[(k, b0, s0), (n1, b1, s1), (n2, b2, s2)], room, left, false⟩, nb⟩ [999000001, 999000002, 999000003] [.own 100000000, .own 100000001, .own 100000002]], ?_⟩
          refine ⟨rfl, _, rfl, ⟨rfl, rfl, (fun h => by cases h), ⟨rfl, rfl, (fun h => by cases h), ⟨rfl, rfl, (fun h => by cases h), trivial⟩⟩⟩, by kernel_rfl, hnb, ?_⟩
          refine ⟨1, rfl, ?_⟩
          exact hK
        · have hw : Dk.wk ⟨[(k, b0, s0), (n1, b1, s1), (n2, b2, s2)], room, left, false⟩ = true := by simpa using hw
          have hA : removeD ⟨[(k, b0, s0), (n1, b1, s1), (n2, b2, s2)], room, left, false⟩ k = (0, ⟨[(n1, b1, s1), (n2, b2, s2)], room, Dk.lf ⟨[(k, b0, s0), (n1, b1, s1), (n2, b2, s2)], room, left, false⟩, Dk.st ⟨[(k, b0, s0), (n1, b1, s1), (n2, b2, s2)], room, left, false⟩⟩) := by simp [removeD, fget, fdel, hw]
          rw [hA] at hK
          clear hA
          refine ⟨_, mdel_hit, ?_⟩
          refine ⟨[.cls 1000000000 999000000 ⟨70, 73, 5, [(n1, b1, s1), (n2, b2, s2)], room, Dk.lf ⟨[(k, b0, s0), (n1, b1, s1), (n2, b2, s2)], room, left, false⟩, Dk.st ⟨[(k, b0, s0), (n1, b1, s1), (n2, b2, s2)], room, left, false⟩, nb⟩ [999000002, 999000003] [.own 100000001, .own 100000002]], ?_⟩
          refine ⟨rfl, _, rfl, ⟨rfl, rfl, (fun h => by cases h), ⟨rfl, rfl, (fun h => by cases h), trivial⟩⟩, by kernel_rfl, hnb, ?_⟩
          refine ⟨1, rfl, ?_⟩
          exact hK
      · by_cases h1 : k = n1
        · subst h1
          refine ⟨some (.ptr 999000002 0), (mfind_miss h0).trans mfind_hit, ?_⟩
          refine ⟨fun h => Bool.noConfusion (show false = true from h), fun _ => ?_⟩
          refine ⟨[1000000000, 999000000, 999000001, 999000002, 999000003], [999000000, 999000001, 999000002], [], 100000000, rfl, _, rfl, rfl, ⟨[(n0, b0, s0), (k, b1, s1), (n2, b2, s2)], room, left, false⟩, ⟨hd.l0, hd.l1⟩, .inr ⟨_, _, (by exact Nat.le_of_ble_eq_true rfl), rfl, rfl, ?_⟩⟩
          refine ⟨fun hw => ?_, fun hw => ?_⟩
          · have hw : Dk.wk ⟨[(n0, b0, s0), (k, b1, s1), (n2, b2, s2)], room, left, false⟩ = false := by simpa using hw
            have hA : removeD ⟨[(n0, b0, s0), (k, b1, s1), (n2, b2, s2)], room, left, false⟩ k = (12, ⟨[(n0, b0, s0), (k, b1, s1), (n2, b2, s2)], room, Dk.lf ⟨[(n0, b0, s0), (k, b1, s1), (n2, b2, s2)], room, left, false⟩, Dk.st ⟨[(n0, b0, s0), (k, b1, s1), (n2, b2, s2)], room, left, false⟩⟩) := by simp [removeD, fget, h0, worksD, hw]
            rw [hA] at hK
            clear hA
            refine ⟨[.cls 1000000000 999000000 ⟨70, 73, 5, [(n0, b0, s0), (k, b1, s1), (n2, b2, s2)], room, Dk.lf ⟨[(n0, b0, s0), (k, b1, s1), (n2, b2, s2)], room, left, false⟩, Dk.st ⟨[(n0, b0, s0), (k, b1, s1), (n2, b2, s2)], room, left, false⟩, nb⟩ [999000001, 999000002, 999000003] [.own 100000000, .own 100000001, .own 100000002]], ?_⟩
            refine ⟨rfl, _, rfl, ⟨rfl, rfl, (fun h => by cases h), ⟨rfl, rfl, (fun h => by cases h), ⟨rfl, rfl, (fun h => by cases h), trivial⟩⟩⟩, by kernel_rfl, hnb, ?_⟩
            refine ⟨1, rfl, ?_⟩
            exact hK
          · have hw : Dk.wk ⟨[(n0, b0, s0), (k, b1, s1), (n2, b2, s2)], room, left, false⟩ = true := by simpa using hw
            have hA : removeD ⟨[(n0, b0, s0), (k, b1, s1), (n2, b2, s2)], room, left, false⟩ k = (0, ⟨[(n0, b0, s0), (n2, b2, s2)], room, Dk.lf ⟨[(n0, b0, s0), (k, b1, s1), (n2, b2, s2)], room, left, false⟩, Dk.st ⟨[(n0, b0, s0), (k, b1, s1), (n2, b2, s2)], room, left, false⟩⟩) := by simp [removeD, fget, h0, fdel, hw]
            rw [hA] at hK
            clear hA
            refine ⟨_, mdel_miss h0 (mdel_hit), ?_⟩
            refine ⟨[.cls 1000000000 999000000 ⟨70, 73, 5, [(n0, b0, s0), (n2, b2, s2)], room, Dk.lf ⟨[(n0, b0, s0), (k, b1, s1), (n2, b2, s2)], room, left, false⟩, Dk.st ⟨[(n0, b0, s0), (k, b1, s1), (n2, b2, s2)], room, left, false⟩, nb⟩ [999000001, 999000003] [.own 100000000, .own 100000002]], ?_⟩
            refine ⟨rfl, _, rfl, ⟨rfl, rfl, (fun h => by cases h), ⟨rfl, rfl, (fun h => by cases h), trivial⟩⟩, by kernel_rfl, hnb, ?_⟩
            refine ⟨1, rfl, ?_⟩
            exact hK
        · by_cases h2 : k = n2
          · subst h2
            refine ⟨some (.ptr 999000003 0), (mfind_miss h0).trans ((mfind_miss h1).trans mfind_hit), ?_⟩
            refine ⟨fun h => Bool.noConfusion (show false = true from h), fun _ => ?_⟩
            refine ⟨[1000000000, 999000000, 999000001, 999000002, 999000003], [999000000, 999000001, 999000002], [], 100000000, rfl, _, rfl, rfl, ⟨[(n0, b0, s0), (n1, b1, s1), (k, b2, s2)], room, left, false⟩, ⟨hd.l0, hd.l1⟩, .inr ⟨_, _, (by exact Nat.le_of_ble_eq_true rfl), rfl, rfl, ?_⟩⟩
            refine ⟨fun hw => ?_, fun hw => ?_⟩
            · have hw : Dk.wk ⟨[(n0, b0, s0), (n1, b1, s1), (k, b2, s2)], room, left, false⟩ = false := by simpa using hw
              have hA : removeD ⟨[(n0, b0, s0), (n1, b1, s1), (k, b2, s2)], room, left, false⟩ k = (12, ⟨[(n0, b0, s0), (n1, b1, s1), (k, b2, s2)], room, Dk.lf ⟨[(n0, b0, s0), (n1, b1, s1), (k, b2, s2)], room, left, false⟩, Dk.st ⟨[(n0, b0, s0), (n1, b1, s1), (k, b2, s2)], room, left, false⟩⟩) := by simp [removeD, fget, h0, h1, worksD, hw]
              rw [hA] at hK
              clear hA
              refine ⟨[.cls 1000000000 999000000 ⟨70, 73, 5, [(n0, b0, s0), (n1, b1, s1), (k, b2, s2)], room, Dk.lf ⟨[(n0, b0, s0), (n1, b1, s1), (k, b2, s2)], room, left, false⟩, Dk.st ⟨[(n0, b0, s0), (n1, b1, s1), (k, b2, s2)], room, left, false⟩, nb⟩ [999000001, 999000002, 999000003] [.own 100000000, .own 100000001, .own 100000002]], ?_⟩
              refine ⟨rfl, _, rfl, ⟨rfl, rfl, (fun h => by cases h), ⟨rfl, rfl, (fun h => by cases h), ⟨rfl, rfl, (fun h => by cases h), trivial⟩⟩⟩, by kernel_rfl, hnb, ?_⟩
              refine ⟨1, rfl, ?_⟩
              exact hK
            · have hw : Dk.wk ⟨[(n0, b0, s0), (n1, b1, s1), (k, b2, s2)], room, left, false⟩ = true := by simpa using hw
              have hA : removeD ⟨[(n0, b0, s0), (n1, b1, s1), (k, b2, s2)], room, left, false⟩ k = (0, ⟨[(n0, b0, s0), (n1, b1, s1)], room, Dk.lf ⟨[(n0, b0, s0), (n1, b1, s1), (k, b2, s2)], room, left, false⟩, Dk.st ⟨[(n0, b0, s0), (n1, b1, s1), (k, b2, s2)], room, left, false⟩⟩) := by simp [removeD, fget, h0, h1, fdel, hw]
              rw [hA] at hK
              clear hA
              refine ⟨_, mdel_miss h0 (mdel_miss h1 (mdel_hit)), ?_⟩
              refine ⟨[.cls 1000000000 999000000 ⟨70, 73, 5, [(n0, b0, s0), (n1, b1, s1)], room, Dk.lf ⟨[(n0, b0, s0), (n1, b1, s1), (k, b2, s2)], room, left, false⟩, Dk.st ⟨[(n0, b0, s0), (n1, b1, s1), (k, b2, s2)], room, left, false⟩, nb⟩ [999000001, 999000002] [.own 100000000, .own 100000001]], ?_⟩
              refine ⟨rfl, _, rfl, ⟨rfl, rfl, (fun h => by cases h), ⟨rfl, rfl, (fun h => by cases h), trivial⟩⟩, by kernel_rfl, hnb, ?_⟩
              refine ⟨1, rfl, ?_⟩
              exact hK
          · refine ⟨none, (mfind_miss h0).trans ((mfind_miss h1).trans ((mfind_miss h2).trans mfind_nil)), ?_⟩
            have hA : removeD ⟨[(n0, b0, s0), (n1, b1, s1), (n2, b2, s2)], room, left, false⟩ k = (2, ⟨[(n0, b0, s0), (n1, b1, s1), (n2, b2, s2)], room, left, false⟩) := by simp [removeD, fget, h0, h1, h2]
            rw [hA] at hK
            clear hA
            refine ⟨fun _ => ?_, fun h => Bool.noConfusion (show true = false from h)⟩
            refine ⟨[.cls 1000000000 999000000 ⟨70, 73, 5, [(n0, b0, s0), (n1, b1, s1), (n2, b2, s2)], room, left, false, nb⟩ [999000001, 999000002, 999000003] [.own 999000000, .own 999000001, .own 999000002]], ?_⟩
            refine ⟨rfl, _, rfl, ⟨rfl, rfl, (fun h => by cases h), ⟨rfl, rfl, (fun h => by cases h), ⟨rfl, rfl, (fun h => by cases h), trivial⟩⟩⟩, by kernel_rfl, hnb, ?_⟩
            refine ⟨1, rfl, ?_⟩
            exact hK
set_option maxRecDepth 200000 in
set_option maxHeartbeats 6400000 in
theorem rename_ok : FnOkN Tryd.prog tab 14 (dk2C renameD) := by
  refine fn_okN (E := D1_E pl14) tab_is (D1_C _) JDk_ok Tryd.func14 rfl rfl (by kernel_rfl) ?_
  rintro args bs K ⟨⟨fs, room, left, stop⟩, nb, a, b, hd, hnb, rfl, rfl, hK⟩
  refine ⟨rfl, [], ?_⟩
  rcases len3 hd.n with h | ⟨⟨n0, b0, s0⟩, h⟩ | ⟨⟨n0, b0, s0⟩, ⟨n1, b1, s1⟩, h⟩ | ⟨⟨n0, b0, s0⟩, ⟨n1, b1, s1⟩, ⟨n2, b2, s2⟩, h⟩
  all_goals
    have h : fs = _ := h
    subst h
  · refine ⟨none, mfind_nil, ?_⟩
    cases stop with
    | true =>
      have hA : renameD ⟨[], room, left, true⟩ a b = (12, ⟨[], room, left, true⟩) := by simp [renameD]
      rw [hA] at hK
      clear hA
      refine ⟨fun _ => ?_, fun h => Bool.noConfusion (show true = false from h)⟩
      refine ⟨[.cls 1000000000 999000000 ⟨70, 73, 5, [], room, left, true, nb⟩ [] []], ?_⟩
      refine ⟨rfl, _, rfl, trivial, by kernel_rfl, hnb, ?_⟩
      refine ⟨1, rfl, ?_⟩
      exact hK
    | false =>
      refine ⟨fun h => Bool.noConfusion (show false = true from h), fun _ => ?_⟩
      have hA : renameD ⟨[], room, left, false⟩ a b = (2, ⟨[], room, left, false⟩) := by simp [renameD, fget]
      rw [hA] at hK
      clear hA
      refine ⟨fun _ => ?_, fun h => Bool.noConfusion (show true = false from h)⟩
      refine ⟨[.cls 1000000000 999000000 ⟨70, 73, 5, [], room, left, false, nb⟩ [] []], ?_⟩
      refine ⟨rfl, _, rfl, trivial, by kernel_rfl, hnb, ?_⟩
      refine ⟨1, rfl, ?_⟩
      exact hK
  · by_cases h0 : a = n0
    · subst h0
      refine ⟨some (.ptr 999000001 0), mfind_hit, ?_⟩
      cases stop with
      | true =>
        have hA : renameD ⟨[(a, b0, s0)], room, left, true⟩ a b = (12, ⟨[(a, b0, s0)], room, left, true⟩) := by simp [renameD]
        rw [hA] at hK
        clear hA
        refine ⟨fun _ => ?_, fun h => Bool.noConfusion (show true = false from h)⟩
        refine ⟨[.cls 1000000000 999000000 ⟨70, 73, 5, [(a, b0, s0)], room, left, true, nb⟩ [999000001] [.own 999000000]], ?_⟩
        refine ⟨rfl, _, rfl, ⟨rfl, rfl, (fun h => by cases h), trivial⟩, by kernel_rfl, hnb, ?_⟩
        refine ⟨1, rfl, ?_⟩
        exact hK
      | false =>
        refine ⟨fun h => Bool.noConfusion (show false = true from h), fun _ => ?_⟩
        refine ⟨fun h => Bool.noConfusion (show false = true from h), fun _ => ?_⟩
        refine ⟨[1000000000, 999000000, 999000001], [999000000], [], 100000000, rfl, _, rfl, rfl, ⟨[(a, b0, s0)], room, left, false⟩, ⟨hd.l0, hd.l1⟩, .inr ⟨_, _, (by exact Nat.le_of_ble_eq_true rfl), rfl, rfl, ?_⟩⟩
        refine ⟨fun hw => ?_, fun hw => ?_⟩
        · have hw : Dk.wk ⟨[(a, b0, s0)], room, left, false⟩ = false := by simpa using hw
          have hA : renameD ⟨[(a, b0, s0)], room, left, false⟩ a b = (12, ⟨[(a, b0, s0)], room, Dk.lf ⟨[(a, b0, s0)], room, left, false⟩, Dk.st ⟨[(a, b0, s0)], room, left, false⟩⟩) := by simp [renameD, fget, worksD, hw]
          rw [hA] at hK
          clear hA
          refine ⟨[.cls 1000000000 999000000 ⟨70, 73, 5, [(a, b0, s0)], room, Dk.lf ⟨[(a, b0, s0)], room, left, false⟩, Dk.st ⟨[(a, b0, s0)], room, left, false⟩, nb⟩ [999000001] [.own 100000000]], ?_⟩
          refine ⟨rfl, _, rfl, ⟨rfl, rfl, (fun h => by cases h), trivial⟩, by kernel_rfl, hnb, ?_⟩
          refine ⟨1, rfl, ?_⟩
          exact hK
        · have hw : Dk.wk ⟨[(a, b0, s0)], room, left, false⟩ = true := by simpa using hw
          refine ⟨_, mdel_hit, ?_⟩
          have hA : renameD ⟨[(a, b0, s0)], room, left, false⟩ a b = (0, ⟨[(b, b0, s0)], room, Dk.lf ⟨[(a, b0, s0)], room, left, false⟩, Dk.st ⟨[(a, b0, s0)], room, left, false⟩⟩) := by simp [renameD, fget, fset, fdel, hw]
          rw [hA] at hK
          clear hA
          refine ⟨_, mset_nil, ?_⟩
          refine ⟨[.cls 1000000000 999000000 ⟨70, 73, 5, [(b, b0, s0)], room, Dk.lf ⟨[(a, b0, s0)], room, left, false⟩, Dk.st ⟨[(a, b0, s0)], room, left, false⟩, nb⟩ [999000001] [.own 100000000]], ?_⟩
          refine ⟨rfl, _, rfl, ⟨rfl, rfl, (fun h => by cases h), trivial⟩, by kernel_rfl, hnb, ?_⟩
          refine ⟨1, rfl, ?_⟩
          exact hK
    · refine ⟨none, (mfind_miss h0).trans mfind_nil, ?_⟩
      cases stop with
      | true =>
        have hA : renameD ⟨[(n0, b0, s0)], room, left, true⟩ a b = (12, ⟨[(n0, b0, s0)], room, left, true⟩) := by simp [renameD]
        rw [hA] at hK
        clear hA
        refine ⟨fun _ => ?_, fun h => Bool.noConfusion (show true = false from h)⟩
        refine ⟨[.cls 1000000000 999000000 ⟨70, 73, 5, [(n0, b0, s0)], room, left, true, nb⟩ [999000001] [.own 999000000]], ?_⟩
        refine ⟨rfl, _, rfl, ⟨rfl, rfl, (fun h => by cases h), trivial⟩, by kernel_rfl, hnb, ?_⟩
        refine ⟨1, rfl, ?_⟩
        exact hK
      | false =>
        refine ⟨fun h => Bool.noConfusion (show false = true from h), fun _ => ?_⟩
        have hA : renameD ⟨[(n0, b0, s0)], room, left, false⟩ a b = (2, ⟨[(n0, b0, s0)], room, left, false⟩) := by simp [renameD, fget, h0]
        rw [hA] at hK
        clear hA
        refine ⟨fun _ => ?_, fun h => Bool.noConfusion (show true = false from h)⟩
        refine ⟨[.cls 1000000000 999000000 ⟨70, 73, 5, [(n0, b0, s0)], room, left, false, nb⟩ [999000001] [.own 999000000]], ?_⟩
        refine ⟨rfl, _, rfl, ⟨rfl, rfl, (fun h => by cases h), trivial⟩, by kernel_rfl, hnb, ?_⟩
        refine ⟨1, rfl, ?_⟩
        exact hK
  · by_cases h0 : a = n0
    · subst h0
      refine ⟨some (.ptr 999000001 0), mfind_hit, ?_⟩
      cases stop with
      | true =>
        have hA : renameD ⟨[(a, b0, s0), (n1, b1, s1)], room, left, true⟩ a b = (12, ⟨[(a, b0, s0), (n1, b1, s1)], room, left, true⟩) := by simp [renameD]
        rw [hA] at hK
        clear hA
        refine ⟨fun _ => ?_, fun h => Bool.noConfusion (show true = false from h)⟩
        refine ⟨[.cls 1000000000 999000000 ⟨70, 73, 5, [(a, b0, s0), (n1, b1, s1)], room, left, true, nb⟩ [999000001, 999000002] [.own 999000000, .own 999000001]], ?_⟩
        refine ⟨rfl, _, rfl, ⟨rfl, rfl, (fun h => by cases h), ⟨rfl, rfl, (fun h => by cases h), trivial⟩⟩, by kernel_rfl, hnb, ?_⟩
        refine ⟨1, rfl, ?_⟩
        exact hK
      | false =>
        refine ⟨fun h => Bool.noConfusion (show false = true from h), fun _ => ?_⟩
        refine ⟨fun h => Bool.noConfusion (show false = true from h), fun _ => ?_⟩
        refine ⟨[1000000000, 999000000, 999000001, 999000002], [999000000, 999000001], [], 100000000, rfl, _, rfl, rfl, ⟨[(a, b0, s0), (n1, b1, s1)], room, left, false⟩, ⟨hd.l0, hd.l1⟩, .inr ⟨_, _, (by exact Nat.le_of_ble_eq_true rfl), rfl, rfl, ?_⟩⟩
        refine ⟨fun hw => ?_, fun hw => ?_⟩
        · have hw : Dk.wk ⟨[(a, b0, s0), (n1, b1, s1)], room, left, false⟩ = false := by simpa using hw
          have hA : renameD ⟨[(a, b0, s0), (n1, b1, s1)], room, left, false⟩ a b = (12, ⟨[(a, b0, s0), (n1, b1, s1)], room, Dk.lf ⟨[(a, b0, s0), (n1, b1, s1)], room, left, false⟩, Dk.st ⟨[(a, b0, s0), (n1, b1, s1)], room, left, false⟩⟩) := by simp [renameD, fget, worksD, hw]
          rw [hA] at hK
          clear hA
          refine ⟨[.cls 1000000000 999000000 ⟨70, 73, 5, [(a, b0, s0), (n1, b1, s1)], room, Dk.lf ⟨[(a, b0, s0), (n1, b1, s1)], room, left, false⟩, Dk.st ⟨[(a, b0, s0), (n1, b1, s1)], room, left, false⟩, nb⟩ [999000001, 999000002] [.own 100000000, .own 100000001]], ?_⟩
          refine ⟨rfl, _, rfl, ⟨rfl, rfl, (fun h => by cases h), ⟨rfl, rfl, (fun h => by cases h), trivial⟩⟩, by kernel_rfl, hnb, ?_⟩
          refine ⟨1, rfl, ?_⟩
          exact hK
        · have hw : Dk.wk ⟨[(a, b0, s0), (n1, b1, s1)], room, left, false⟩ = true := by simpa using hw
          refine ⟨_, mdel_hit, ?_⟩
          by_cases g1 : b = n1
          · subst g1
            have hA : renameD ⟨[(a, b0, s0), (b, b1, s1)], room, left, false⟩ a b = (0, ⟨[(b, b0, s0)], room, Dk.lf ⟨[(a, b0, s0), (b, b1, s1)], room, left, false⟩, Dk.st ⟨[(a, b0, s0), (b, b1, s1)], room, left, false⟩⟩) := by simp [renameD, fget, fset, fdel, hw]
            rw [hA] at hK
            clear hA
            refine ⟨_, mset_hit, ?_⟩
            refine ⟨[.cls 1000000000 999000000 ⟨70, 73, 5, [(b, b0, s0)], room, Dk.lf ⟨[(a, b0, s0), (b, b1, s1)], room, left, false⟩, Dk.st ⟨[(a, b0, s0), (b, b1, s1)], room, left, false⟩, nb⟩ [999000001] [.own 100000000]], ?_⟩
            refine ⟨rfl, _, rfl, ⟨rfl, rfl, (fun h => by cases h), trivial⟩, by kernel_rfl, hnb, ?_⟩
            refine ⟨1, rfl, ?_⟩
            exact hK
          · have hA : renameD ⟨[(a, b0, s0), (n1, b1, s1)], room, left, false⟩ a b = (0, ⟨[(n1, b1, s1), (b, b0, s0)], room, Dk.lf ⟨[(a, b0, s0), (n1, b1, s1)], room, left, false⟩, Dk.st ⟨[(a, b0, s0), (n1, b1, s1)], room, left, false⟩⟩) := by simp [renameD, fget, fset, fdel, hw, g1]
            rw [hA] at hK
            clear hA
            refine ⟨_, mset_miss g1 (mset_nil), ?_⟩
            refine ⟨[.cls 1000000000 999000000 ⟨70, 73, 5, [(n1, b1, s1), (b, b0, s0)], room, Dk.lf ⟨[(a, b0, s0), (n1, b1, s1)], room, left, false⟩, Dk.st ⟨[(a, b0, s0), (n1, b1, s1)], room, left, false⟩, nb⟩ [999000002, 999000001] [.own 100000001, .own 100000000]], ?_⟩
            refine ⟨rfl, _, rfl, ⟨rfl, rfl, (fun h => by cases h), ⟨rfl, rfl, (fun h => by cases h), trivial⟩⟩, by kernel_rfl, hnb, ?_⟩
            refine ⟨1, rfl, ?_⟩
            exact hK
    · by_cases h1 : a = n1
      · subst h1
        refine ⟨some (.ptr 999000002 0), (mfind_miss h0).trans mfind_hit, ?_⟩
        cases stop with
        | true =>
          have hA : renameD ⟨[(n0, b0, s0), (a, b1, s1)], room, left, true⟩ a b = (12, ⟨[(n0, b0, s0), (a, b1, s1)], room, left, true⟩) := by simp [renameD]
          rw [hA] at hK
          clear hA
          refine ⟨fun _ => ?_, fun h => Bool.noConfusion (show true = false from h)⟩
          refine ⟨[.cls 1000000000 999000000 ⟨70, 73, 5, [(n0, b0, s0), (a, b1, s1)], room, left, true, nb⟩ [999000001, 999000002] [.own 999000000, .own 999000001]], ?_⟩
          refine ⟨rfl, _, rfl, ⟨rfl, rfl, (fun h => by cases h), ⟨rfl, rfl, (fun h => by cases h), trivial⟩⟩, by kernel_rfl, hnb, ?_⟩
          refine ⟨1, rfl, ?_⟩
          exact hK
        | false =>
          refine ⟨fun h => Bool.noConfusion (show false = true from h), fun _ => ?_⟩
          refine ⟨fun h => Bool.noConfusion (show false = true from h), fun _ => ?_⟩
          refine ⟨[1000000000, 999000000, 999000001, 999000002], [999000000, 999000001], [], 100000000, rfl, _, rfl, rfl, ⟨[(n0, b0, s0), (a, b1, s1)], room, left, false⟩, ⟨hd.l0, hd.l1⟩, .inr ⟨_, _, (by exact Nat.le_of_ble_eq_true rfl), rfl, rfl, ?_⟩⟩
          refine ⟨fun hw => ?_, fun hw => ?_⟩
          · have hw : Dk.wk ⟨[(n0, b0, s0), (a, b1, s1)], room, left, false⟩ = false := by simpa using hw
            have hA : renameD ⟨[(n0, b0, s0), (a, b1, s1)], room, left, false⟩ a b = (12, ⟨[(n0, b0, s0), (a, b1, s1)], room, Dk.lf ⟨[(n0, b0, s0), (a, b1, s1)], room, left, false⟩, Dk.st ⟨[(n0, b0, s0), (a, b1, s1)], room, left, false⟩⟩) := by simp [renameD, fget, h0, worksD, hw]
            rw [hA] at hK
            clear hA
            refine ⟨[.cls 1000000000 999000000 ⟨70, 73, 5, [(n0, b0, s0), (a, b1, s1)], room, Dk.lf ⟨[(n0, b0, s0), (a, b1, s1)], room, left, false⟩, Dk.st ⟨[(n0, b0, s0), (a, b1, s1)], room, left, false⟩, nb⟩ [999000001, 999000002] [.own 100000000, .own 100000001]], ?_⟩
            refine ⟨rfl, _, rfl, ⟨rfl, rfl, (fun h => by cases h), ⟨rfl, rfl, (fun h => by cases h), trivial⟩⟩, by kernel_rfl, hnb, ?_⟩
            refine ⟨1, rfl, ?_⟩
            exact hK
          · have hw : Dk.wk ⟨[(n0, b0, s0), (a, b1, s1)], room, left, false⟩ = true := by simpa using hw
            refine ⟨_, mdel_miss h0 (mdel_hit), ?_⟩
            by_cases g0 : b = n0
            · subst g0
              have hA : renameD ⟨[(b, b0, s0), (a, b1, s1)], room, left, false⟩ a b = (0, ⟨[(b, b1, s1)], room, Dk.lf ⟨[(b, b0, s0), (a, b1, s1)], room, left, false⟩, Dk.st ⟨[(b, b0, s0), (a, b1, s1)], room, left, false⟩⟩) := by simp [renameD, fget, fset, fdel, h0, hw]
              rw [hA] at hK
              clear hA
              refine ⟨_, mset_hit, ?_⟩
              refine ⟨[.cls 1000000000 999000000 ⟨70, 73, 5, [(b, b1, s1)], room, Dk.lf ⟨[(b, b0, s0), (a, b1, s1)], room, left, false⟩, Dk.st ⟨[(b, b0, s0), (a, b1, s1)], room, left, false⟩, nb⟩ [999000002] [.own 100000001]], ?_⟩
              refine ⟨rfl, _, rfl, ⟨rfl, rfl, (fun h => by cases h), trivial⟩, by kernel_rfl, hnb, ?_⟩
              refine ⟨1, rfl, ?_⟩
              exact hK
            · have hA : renameD ⟨[(n0, b0, s0), (a, b1, s1)], room, left, false⟩ a b = (0, ⟨[(n0, b0, s0), (b, b1, s1)], room, Dk.lf ⟨[(n0, b0, s0), (a, b1, s1)], room, left, false⟩, Dk.st ⟨[(n0, b0, s0), (a, b1, s1)], room, left, false⟩⟩) := by simp [renameD, fget, fset, fdel, h0, hw, g0]
              rw [hA] at hK
              clear hA
              refine ⟨_, mset_miss g0 (mset_nil), ?_⟩
              refine ⟨[.cls 1000000000 999000000 ⟨70, 73, 5, [(n0, b0, s0), (b, b1, s1)], room, Dk.lf ⟨[(n0, b0, s0), (a, b1, s1)], room, left, false⟩, Dk.st ⟨[(n0, b0, s0), (a, b1, s1)], room, left, false⟩, nb⟩ [999000001, 999000002] [.own 100000000, .own 100000001]], ?_⟩
              refine ⟨rfl, _, rfl, ⟨rfl, rfl, (fun h => by cases h), ⟨rfl, rfl, (fun h => by cases h), trivial⟩⟩, by kernel_rfl, hnb, ?_⟩
              refine ⟨1, rfl, ?_⟩
              exact hK
      · refine ⟨none, (mfind_miss h0).trans ((mfind_miss h1).trans mfind_nil), ?_⟩
        cases stop with
        | true =>
          have hA : renameD ⟨[(n0, b0, s0), (n1, b1, s1)], room, left, true⟩ a b = (12, ⟨[(n0, b0, s0), (n1, b1, s1)], room, left, true⟩) := by simp [renameD]
          rw [hA] at hK
          clear hA
          refine ⟨fun _ => ?_, fun h => Bool.noConfusion (show true = false from h)⟩
          refine ⟨[.cls 1000000000 999000000 ⟨70, 73, 5, [(n0, b0, s0), (n1, b1, s1)], room, left, true, nb⟩ [999000001, 999000002] [.own 999000000, .own 999000001]], ?_⟩
          refine ⟨rfl, _, rfl, ⟨rfl, rfl, (fun h => by cases h), ⟨rfl, rfl, (fun h => by cases h), trivial⟩⟩, by kernel_rfl, hnb, ?_⟩
          refine ⟨1, rfl, ?_⟩
          exact hK
        | false =>
          refine ⟨fun h => Bool.noConfusion (show false = true from h), fun _ => ?_⟩
          have hA : renameD ⟨[(n0, b0, s0), (n1, b1, s1)], room, left, false⟩ a b = (2, ⟨[(n0, b0, s0), (n1, b1, s1)], room, left, false⟩) := by simp [renameD, fget, h0, h1]
          rw [hA] at hK
          clear hA
          refine ⟨fun _ => ?_, fun h => Bool.noConfusion (show true = false from h)⟩
          refine ⟨[.cls 1000000000 999000000 ⟨70, 73, 5, [(n0, b0, s0), (n1, b1, s1)], room, left, false, nb⟩ [999000001, 999000002] [.own 999000000, .own 999000001]], ?_⟩
          refine ⟨rfl, _, rfl, ⟨rfl, rfl, (fun h => by cases h), ⟨rfl, rfl, (fun h => by cases h), trivial⟩⟩, by kernel_rfl, hnb, ?_⟩
          refine ⟨1, rfl, ?_⟩
          exact hK
  · by_cases h0 : a = n0
    · subst h0
      refine ⟨some (.ptr 999000001 0), mfind_hit, ?_⟩
      cases stop with
      | true =>
        have hA : renameD ⟨[(a, b0, s0), (n1, b1, s1), (n2, b2, s2)], room, left, true⟩ a b = (12, ⟨[(a, b0, s0), (n1, b1, s1), (n2, b2, s2)], room, left, true⟩) := by simp [renameD]
        rw [hA] at hK
        clear hA
        refine ⟨fun _ => ?_, fun h => Bool.noConfusion (show true = false from h)⟩
        refine ⟨[.cls 1000000000 999000000 ⟨70, 73, 5, [(a, b0, s0), (n1, b1, s1), (n2, b2, s2)], room, left, true, nb⟩ [999000001, 999000002, 999000003] [.own 999000000, .own 999000001, .own 999000002]], ?_⟩
        refine ⟨rfl, _, rfl, ⟨rfl, rfl, (fun h => by cases h), ⟨rfl, rfl, (fun h => by cases h), ⟨rfl, rfl, (fun h => by cases h), trivial⟩⟩⟩, by kernel_rfl, hnb, ?_⟩
        refine ⟨1, rfl, ?_⟩
        exact hK
      | false =>
        refine ⟨fun h => Bool.noConfusion (show false = true from h), fun _ => ?_⟩
        refine ⟨fun h => Bool.noConfusion (show false = true from h), fun _ => ?_⟩
        refine ⟨[1000000000, 999000000, 999000001, 999000002, 999000003], [999000000, 999000001, 999000002], [], 100000000, rfl, _, rfl, rfl, ⟨[(a, b0, s0), (n1, b1, s1), (n2, b2, s2)], room, left, false⟩, ⟨hd.l0, hd.l1⟩, .inr ⟨_, _, (by exact Nat.le_of_ble_eq_true rfl), rfl, rfl, ?_⟩⟩
        refine ⟨fun hw => ?_, fun hw => ?_⟩
        · have hw : Dk.wk ⟨[(a, b0, s0), (n1, b1, s1), (n2, b2, s2)], room, left, false⟩ = false := by simpa using hw
          have hA : renameD ⟨[(a, b0, s0), (n1, b1, s1), (n2, b2, s2)], room, left, false⟩ a b = (12, ⟨[(a, b0, s0), (n1, b1, s1), (n2, b2, s2)], room, Dk.lf ⟨[(a, b0, s0), (n1, b1, s1), (n2, b2, s2)], room, left, false⟩, Dk.st ⟨[(a, b0, s0), (n1, b1, s1), (n2, b2, s2)], room, left, false⟩⟩) := by simp [renameD, fget, worksD, hw]
          rw [hA] at hK
          clear hA
          refine ⟨[.cls 1000000000 999000000 ⟨70, 73, 5, [(a, b0, s0), (n1, b1, s1), (n2, b2, s2)], room, Dk.lf ⟨[(a, b0, s0), (n1, b1, s1), (n2, b2, s2)], room, left, false⟩, Dk.st ⟨[(a, b0, s0), (n1, b1, s1), (n2, b2, s2)], room, left, false⟩, nb⟩ [999000001, 999000002, 999000003] [.own 100000000, .own 100000001, .own 100000002]], ?_⟩
          refine ⟨rfl, _, rfl, ⟨rfl, rfl, (fun h => by cases h), ⟨rfl, rfl, (fun h => by cases h), ⟨rfl, rfl, (fun h => by cases h), trivial⟩⟩⟩, by kernel_rfl, hnb, ?_⟩
          refine ⟨1, rfl, ?_⟩
          exact hK
        · have hw : Dk.wk ⟨[(a, b0, s0), (n1, b1, s1), (n2, b2, s2)], room, left, false⟩ = true := by simpa using hw
          refine ⟨_, mdel_hit, ?_⟩
          by_cases g1 : b = n1
          · subst g1
            have hA : renameD ⟨[(a, b0, s0), (b, b1, s1), (n2, b2, s2)], room, left, false⟩ a b = (0, ⟨[(b, b0, s0), (n2, b2, s2)], room, Dk.lf ⟨[(a, b0, s0), (b, b1, s1), (n2, b2, s2)], room, left, false⟩, Dk.st ⟨[(a, b0, s0), (b, b1, s1), (n2, b2, s2)], room, left, false⟩⟩) := by simp [renameD, fget, fset, fdel, hw]
            rw [hA] at hK
            clear hA
            refine ⟨_, mset_hit, ?_⟩
            refine ⟨[.cls 1000000000 999000000 ⟨70, 73, 5, [(b, b0, s0), (n2, b2, s2)], room, Dk.lf ⟨[(a, b0, s0), (b, b1, s1), (n2, b2, s2)], room, left, false⟩, Dk.st ⟨[(a, b0, s0), (b, b1, s1), (n2, b2, s2)], room, left, false⟩, nb⟩ [999000001, 999000003] [.own 100000000, .own 100000002]], ?_⟩
            refine ⟨rfl, _, rfl, ⟨rfl, rfl, (fun h => by cases h), ⟨rfl, rfl, (fun h => by cases h), trivial⟩⟩, by kernel_rfl, hnb, ?_⟩
            refine ⟨1, rfl, ?_⟩
            exact hK
          · by_cases g2 : b = n2
            · subst g2
              have hA : renameD ⟨[(a, b0, s0), (n1, b1, s1), (b, b2, s2)], room, left, false⟩ a b = (0, ⟨[(n1, b1, s1), (b, b0, s0)], room, Dk.lf ⟨[(a, b0, s0), (n1, b1, s1), (b, b2, s2)], room, left, false⟩, Dk.st ⟨[(a, b0, s0), (n1, b1, s1), (b, b2, s2)], room, left, false⟩⟩) := by simp [renameD, fget, fset, fdel, hw, g1]
              rw [hA] at hK
              clear hA
              refine ⟨_, mset_miss g1 (mset_hit), ?_⟩
              refine ⟨[.cls 1000000000 999000000 ⟨70, 73, 5, [(n1, b1, s1), (b, b0, s0)], room, Dk.lf ⟨[(a, b0, s0), (n1, b1, s1), (b, b2, s2)], room, left, false⟩, Dk.st ⟨[(a, b0, s0), (n1, b1, s1), (b, b2, s2)], room, left, false⟩, nb⟩ [999000002, 999000001] [.own 100000001, .own 100000000]], ?_⟩
              refine ⟨rfl, _, rfl, ⟨rfl, rfl, (fun h => by cases h), ⟨rfl, rfl, (fun h => by cases h), trivial⟩⟩, by kernel_rfl, hnb, ?_⟩
              refine ⟨1, rfl, ?_⟩
              exact hK
            · have hA : renameD ⟨[(a, b0, s0), (n1, b1, s1), (n2, b2, s2)], room, left, false⟩ a b = (0, ⟨[(n1, b1, s1), (n2, b2, s2), (b, b0, s0)], room, Dk.lf ⟨[(a, b0, s0), (n1, b1, s1), (n2, b2, s2)], room, left, false⟩, Dk.st ⟨[(a, b0, s0), (n1, b1, s1), (n2, b2, s2)], room, left, false⟩⟩) := by simp [renameD, fget, fset, fdel, hw, g1, g2]
              rw [hA] at hK
              clear hA
              refine ⟨_, mset_miss g1 (mset_miss g2 (mset_nil)), ?_⟩
              refine ⟨[.cls 1000000000 999000000 ⟨70, 73, 5, [(n1, b1, s1), (n2, b2, s2), (b, b0, s0)], room, Dk.lf ⟨[(a, b0, s0), (n1, b1, s1), (n2, b2, s2)], room, left, false⟩, Dk.st ⟨[(a, b0, s0), (n1, b1, s1), (n2, b2, s2)], room, left, false⟩, nb⟩ [999000002, 999000003, 999000001] [.own 100000001, .own 100000002, .own 100000000]], ?_⟩
              refine ⟨rfl, _, rfl, ⟨rfl, rfl, (fun h => by cases h), ⟨rfl, rfl, (fun h => by cases h), ⟨rfl, rfl, (fun h => by cases h), trivial⟩⟩⟩, by kernel_rfl, hnb, ?_⟩
              refine ⟨1, rfl, ?_⟩
              exact hK
    · by_cases h1 : a = n1
      · subst h1
        refine ⟨some (.ptr 999000002 0), (mfind_miss h0).trans mfind_hit, ?_⟩
        cases stop with
        | true =>
          have hA : renameD ⟨[(n0, b0, s0), (a, b1, s1), (n2, b2, s2)], room, left, true⟩ a b = (12, ⟨[(n0, b0, s0), (a, b1, s1), (n2, b2, s2)], room, left, true⟩) := by simp [renameD]
          rw [hA] at hK
          clear hA
          refine ⟨fun _ => ?_, fun h => Bool.noConfusion (show true = false from h)⟩
          refine ⟨[.cls 1000000000 999000000 ⟨70, 73, 5, [(n0, b0, s0), (a, b1, s1), (n2, b2, s2)], room, left, true, nb⟩ [999000001, 999000002, 999000003] [.own 999000000, .own 999000001, .own 999000002]], ?_⟩
          refine ⟨rfl, _, rfl, ⟨rfl, rfl, (fun h => by cases h), ⟨rfl, rfl, (fun h => by cases h), ⟨rfl, rfl, (fun h => by cases h), trivial⟩⟩⟩, by kernel_rfl, hnb, ?_⟩
          refine ⟨1, rfl, ?_⟩
          exact hK
        | false =>
          refine ⟨fun h => Bool.noConfusion (show false = true from h), fun _ => ?_⟩
          refine ⟨fun h => Bool.noConfusion (show false = true from h), fun _ => ?_⟩
          refine ⟨[1000000000, 999000000, 999000001, 999000002, 999000003], [999000000, 999000001, 999000002], [], 100000000, rfl, _, rfl, rfl, ⟨[(n0, b0, s0), (a, b1, s1), (n2, b2, s2)], room, left, false⟩, ⟨hd.l0, hd.l1⟩, .inr ⟨_, _, (by exact Nat.le_of_ble_eq_true rfl), rfl, rfl, ?_⟩⟩
          refine ⟨fun hw => ?_, fun hw => ?_⟩
          · have hw : Dk.wk ⟨[(n0, b0, s0), (a, b1, s1), (n2, b2, s2)], room, left, false⟩ = false := by simpa using hw
            have hA : renameD ⟨[(n0, b0, s0), (a, b1, s1), (n2, b2, s2)], room, left, false⟩ a b = (12, ⟨[(n0, b0, s0), (a, b1, s1), (n2, b2, s2)], room, Dk.lf ⟨[(n0, b0, s0), (a, b1, s1), (n2, b2, s2)], room, left, false⟩, Dk.st ⟨[(n0, b0, s0), (a, b1, s1), (n2, b2, s2)], room, left, false⟩⟩) := by simp [renameD, fget, h0, worksD, hw]
            rw [hA] at hK
            clear hA
            refine ⟨[.cls 1000000000 999000000 ⟨70, 73, 5, [(n0, b0, s0), (a, b1, s1), (n2, b2, s2)], room, Dk.lf ⟨[(n0, b0, s0), (a, b1, s1), (n2, b2, s2)], room, left, false⟩, Dk.st ⟨[(n0, b0, s0), (a, b1, s1), (n2, b2, s2)], room, left, false⟩, nb⟩ [999000001, 999000002, 999000003] [.own 100000000, .own 100000001, .own 100000002]], ?_⟩
            refine ⟨rfl, _, rfl, ⟨rfl, rfl, (fun h => by cases h), ⟨rfl, rfl, (fun h => by cases h), ⟨rfl, rfl, (fun h => by cases h), trivial⟩⟩⟩, by kernel_rfl, hnb, ?_⟩
            refine ⟨1, rfl, ?_⟩
            exact hK
          · have hw : Dk.wk ⟨[(n0, b0, s0), (a, b1, s1), (n2, b2, s2)], room, left, false⟩ = true := by simpa using hw
            refine ⟨_, mdel_miss h0 (mdel_hit), ?_⟩
            by_cases g0 : b = n0
            · subst g0
              have hA : renameD ⟨[(b, b0, s0), (a, b1, s1), (n2, b2, s2)], room, left, false⟩ a b = (0, ⟨[(b, b1, s1), (n2, b2, s2)], room, Dk.lf ⟨[(b, b0, s0), (a, b1, s1), (n2, b2, s2)], room, left, false⟩, Dk.st ⟨[(b, b0, s0), (a, b1, s1), (n2, b2, s2)], room, left, false⟩⟩) := by simp [renameD, fget, fset, fdel, h0, hw]
              rw [hA] at hK
              clear hA
              refine ⟨_, mset_hit, ?_⟩
              refine ⟨[.cls 1000000000 999000000 ⟨70, 73, 5, [(b, b1, s1), (n2, b2, s2)], room, Dk.lf ⟨[(b, b0, s0), (a, b1, s1), (n2, b2, s2)], room, left, false⟩, Dk.st ⟨[(b, b0, s0), (a, b1, s1), (n2, b2, s2)], room, left, false⟩, nb⟩ [999000002, 999000003] [.own 100000001, .own 100000002]], ?_⟩
              refine ⟨rfl, _, rfl, ⟨rfl, rfl, (fun h => by cases h), ⟨rfl, rfl, (fun h => by cases h), trivial⟩⟩, by kernel_rfl, hnb, ?_⟩
              refine ⟨1, rfl, ?_⟩
              exact hK
            · by_cases g2 : b = n2
              · subst g2
                have hA : renameD ⟨[(n0, b0, s0), (a, b1, s1), (b, b2, s2)], room, left, false⟩ a b = (0, ⟨[(n0, b0, s0), (b, b1, s1)], room, Dk.lf ⟨[(n0, b0, s0), (a, b1, s1), (b, b2, s2)], room, left, false⟩, Dk.st ⟨[(n0, b0, s0), (a, b1, s1), (b, b2, s2)], room, left, false⟩⟩) := by simp [renameD, fget, fset, fdel, h0, hw, g0]
                rw [hA] at hK
                clear hA
                refine ⟨_, mset_miss g0 (mset_hit), ?_⟩
                refine ⟨[.cls 1000000000 999000000 ⟨70, 73, 5, [(n0, b0, s0), (b, b1, s1)], room, Dk.lf ⟨[(n0, b0, s0), (a, b1, s1), (b, b2, s2)], room, left, false⟩, Dk.st ⟨[(n0, b0, s0), (a, b1, s1), (b, b2, s2)], room, left, false⟩, nb⟩ [999000001, 999000002] [.own 100000000, .own 100000001]], ?_⟩
                refine ⟨rfl, _, rfl, ⟨rfl, rfl, (fun h => by cases h), ⟨rfl, rfl, (fun h => by cases h), trivial⟩⟩, by kernel_rfl, hnb, ?_⟩
                refine ⟨1, rfl, ?_⟩
                exact hK
              · have hA : renameD ⟨[(n0, b0, s0), (a, b1, s1), (n2, b2, s2)], room, left, false⟩ a b = (0, ⟨[(n0, b0, s0), (n2, b2, s2), (b, b1, s1)], room, Dk.lf ⟨[(n0, b0, s0), (a, b1, s1), (n2, b2, s2)], room, left, false⟩, Dk.st ⟨[(n0, b0, s0), (a, b1, s1), (n2, b2, s2)], room, left, false⟩⟩) := by simp [renameD, fget, fset, fdel, h0, hw, g0, g2]
                rw [hA] at hK
                clear hA
                refine ⟨_, mset_miss g0 (mset_miss g2 (mset_nil)), ?_⟩
                refine ⟨[.cls 1000000000 999000000 ⟨70, 73, 5, [(n0, b0, s0), (n2, b2, s2), (b, b1, s1)], room, Dk.lf ⟨[(n0, b0, s0), (a, b1, s1), (n2, b2, s2)], room, left, false⟩, Dk.st ⟨[(n0, b0, s0), (a, b1, s1), (n2, b2, s2)], room, left, false⟩, nb⟩ [999000001, 999000003, 999000002] [.own 100000000, .own 100000002, .own 100000001]], ?_⟩
                refine ⟨rfl, _, rfl, ⟨rfl, rfl, (fun h => by cases h), ⟨rfl, rfl, (fun h => by cases h), ⟨rfl, rfl, (fun h => by cases h), trivial⟩⟩⟩, by kernel_rfl, hnb, ?_⟩
                refine ⟨1, rfl, ?_⟩
                exact hK
      · by_cases h2 : a = n2
        · subst h2
          refine ⟨some (.ptr 999000003 0), (mfind_miss h0).trans ((mfind_miss h1).trans mfind_hit), ?_⟩
          cases stop with
          | true =>
            have hA : renameD ⟨[(n0, b0, s0), (n1, b1, s1), (a, b2, s2)], room, left, true⟩ a b = (12, ⟨[(n0, b0, s0), (n1, b1, s1), (a, b2, s2)], room, left, true⟩) := by simp [renameD]
            rw [hA] at hK
            clear hA
            refine ⟨fun _ => ?_, fun h => Bool.noConfusion (show true = false from h)⟩
            refine ⟨[.cls 1000000000 999000000 ⟨70, 73, 5, [(n0, b0, s0), (n1, b1, s1), (a, b2, s2)], room, left, true, nb⟩ [999000001, 999000002, 999000003] [.own 999000000, .own 999000001, .own 999000002]], ?_⟩
            refine ⟨rfl, _, rfl, ⟨rfl, rfl, (fun h => by cases h), ⟨rfl, rfl, (fun h => by cases h), ⟨rfl, rfl, (fun h => by cases h), trivial⟩⟩⟩, by kernel_rfl, hnb, ?_⟩
            refine ⟨1, rfl, ?_⟩
            exact hK
          | false =>
            refine ⟨fun h => Bool.noConfusion (show false = true from h), fun _ => ?_⟩
            refine ⟨fun h => Bool.noConfusion (show false = true from h), fun _ => ?_⟩
            refine ⟨[1000000000, 999000000, 999000001, 999000002, 999000003], [999000000, 999000001, 999000002], [], 100000000, rfl, _, rfl, rfl, ⟨[(n0, b0, s0), (n1, b1, s1), (a, b2, s2)], room, left, false⟩, ⟨hd.l0, hd.l1⟩, .inr ⟨_, _, (by exact Nat.le_of_ble_eq_true rfl), rfl, rfl, ?_⟩⟩
            refine ⟨fun hw => ?_, fun hw => ?_⟩
            · have hw : Dk.wk ⟨[(n0, b0, s0), (n1, b1, s1), (a, b2, s2)], room, left, false⟩ = false := by simpa using hw
              have hA : renameD ⟨[(n0, b0, s0), (n1, b1, s1), (a, b2, s2)], room, left, false⟩ a b = (12, ⟨[(n0, b0, s0), (n1, b1, s1), (a, b2, s2)], room, Dk.lf ⟨[(n0, b0, s0), (n1, b1, s1), (a, b2, s2)], room, left, false⟩, Dk.st ⟨[(n0, b0, s0), (n1, b1, s1), (a, b2, s2)], room, left, false⟩⟩) := by simp [renameD, fget, h0, h1, worksD, hw]
              rw [hA] at hK
              clear hA
              refine ⟨[.cls 1000000000 999000000 ⟨70, 73, 5, [(n0, b0, s0), (n1, b1, s1), (a, b2, s2)], room, Dk.lf ⟨[(n0, b0, s0), (n1, b1, s1), (a, b2, s2)], room, left, false⟩, Dk.st ⟨[(n0, b0, s0), (n1, b1, s1), (a, b2, s2)], room, left, false⟩, nb⟩ [999000001, 999000002, 999000003] [.own 100000000, .own 100000001, .own 100000002]], ?_⟩
              refine ⟨rfl, _, rfl, ⟨rfl, rfl, (fun h => by cases h), ⟨rfl, rfl, (fun h => by cases h), ⟨rfl, rfl, (fun h => by cases h), trivial⟩⟩⟩, by kernel_rfl, hnb, ?_⟩
              refine ⟨1, rfl, ?_⟩
              exact hK
            · have hw : Dk.wk ⟨[(n0, b0, s0), (n1, b1, s1), (a, b2, s2)], room, left, false⟩ = true := by simpa using hw
              refine ⟨_, mdel_miss h0 (mdel_miss h1 (mdel_hit)), ?_⟩
              by_cases g0 : b = n0
              · subst g0
                have hA : renameD ⟨[(b, b0, s0), (n1, b1, s1), (a, b2, s2)], room, left, false⟩ a b = (0, ⟨[(b, b2, s2), (n1, b1, s1)], room, Dk.lf ⟨[(b, b0, s0), (n1, b1, s1), (a, b2, s2)], room, left, false⟩, Dk.st ⟨[(b, b0, s0), (n1, b1, s1), (a, b2, s2)], room, left, false⟩⟩) := by simp [renameD, fget, fset, fdel, h0, h1, hw]
                rw [hA] at hK
                clear hA
                refine ⟨_, mset_hit, ?_⟩
                refine ⟨[.cls 1000000000 999000000 ⟨70, 73, 5, [(b, b2, s2), (n1, b1, s1)], room, Dk.lf ⟨[(b, b0, s0), (n1, b1, s1), (a, b2, s2)], room, left, false⟩, Dk.st ⟨[(b, b0, s0), (n1, b1, s1), (a, b2, s2)], room, left, false⟩, nb⟩ [999000003, 999000002] [.own 100000002, .own 100000001]], ?_⟩
                refine ⟨rfl, _, rfl, ⟨rfl, rfl, (fun h => by cases h), ⟨rfl, rfl, (fun h => by cases h), trivial⟩⟩, by kernel_rfl, hnb, ?_⟩
                refine ⟨1, rfl, ?_⟩
                exact hK
              · by_cases g1 : b = n1
                · subst g1
                  have hA : renameD ⟨[(n0, b0, s0), (b, b1, s1), (a, b2, s2)], room, left, false⟩ a b = (0, ⟨[(n0, b0, s0), (b, b2, s2)], room, Dk.lf ⟨[(n0, b0, s0), (b, b1, s1), (a, b2, s2)], room, left, false⟩, Dk.st ⟨[(n0, b0, s0), (b, b1, s1), (a, b2, s2)], room, left, false⟩⟩) := by simp [renameD, fget, fset, fdel, h0, h1, hw, g0]
                  rw [hA] at hK
                  clear hA
                  refine ⟨_, mset_miss g0 (mset_hit), ?_⟩
                  refine ⟨[.cls 1000000000 999000000 ⟨70, 73, 5, [(n0, b0, s0), (b, b2, s2)], room, Dk.lf ⟨[(n0, b0, s0), (b, b1, s1), (a, b2, s2)], room, left, false⟩, Dk.st ⟨[(n0, b0, s0), (b, b1, s1), (a, b2, s2)], room, left, false⟩, nb⟩ [999000001, 999000003] [.own 100000000, .own 100000002]], ?_⟩
                  refine ⟨rfl, _, rfl, ⟨rfl, rfl, (fun h => by cases h), ⟨rfl, rfl, (fun h => by cases h), trivial⟩⟩, by kernel_rfl, hnb, ?_⟩
                  refine ⟨1, rfl, ?_⟩
                  exact hK
                · have hA : renameD ⟨[(n0, b0, s0), (n1, b1, s1), (a, b2, s2)], room, left, false⟩ a b = (0, ⟨[(n0, b0, s0), (n1, b1, s1), (b, b2, s2)], room, Dk.lf ⟨[(n0, b0, s0), (n1, b1, s1), (a, b2, s2)], room, left, false⟩, Dk.st ⟨[(n0, b0, s0), (n1, b1, s1), (a, b2, s2)], room, left, false⟩⟩) := by simp [renameD, fget, fset, fdel, h0, h1, hw, g0, g1]
                  rw [hA] at hK
                  clear hA
                  refine ⟨_, mset_miss g0 (mset_miss g1 (mset_nil)), ?_⟩
                  refine ⟨[.cls 1000000000 999000000 ⟨70, 73, 5, [(n0, b0, s0), (n1, b1, s1), (b, b2, s2)], room, Dk.lf ⟨[(n0, b0, s0), (n1, b1, s1), (a, b2, s2)], room, left, false⟩, Dk.st ⟨[(n0, b0, s0), (n1, b1, s1), (a, b2, s2)], room, left, false⟩, nb⟩ [999000001, 999000002, 999000003] [.own 100000000, .own 100000001, .own 100000002]], ?_⟩
                  refine ⟨rfl, _, rfl, ⟨rfl, rfl, (fun h => by cases h), ⟨rfl, rfl, (fun h => by cases h), ⟨rfl, rfl, (fun h => by cases h), trivial⟩⟩⟩, by kernel_rfl, hnb, ?_⟩
                  refine ⟨1, rfl, ?_⟩
                  exact hK
        · refine ⟨none, (mfind_miss h0).trans ((mfind_miss h1).trans ((mfind_miss h2).trans mfind_nil)), ?_⟩
          cases stop with
          | true =>
            have hA : renameD ⟨[(n0, b0, s0), (n1, b1, s1), (n2, b2, s2)], room, left, true⟩ a b = (12, ⟨[(n0, b0, s0), (n1, b1, s1), (n2, b2, s2)], room, left, true⟩) := by simp [renameD]
            rw [hA] at hK
            clear hA
            refine ⟨fun _ => ?_, fun h => Bool.noConfusion (show true = false from h)⟩
            refine ⟨[.cls 1000000000 999000000 ⟨70, 73, 5, [(n0, b0, s0), (n1, b1, s1), (n2, b2, s2)], room, left, true, nb⟩ [999000001, 999000002, 999000003] [.own 999000000, .own 999000001, .own 999000002]], ?_⟩
            refine ⟨rfl, _, rfl, ⟨rfl, rfl, (fun h => by cases h), ⟨rfl, rfl, (fun h => by cases h), ⟨rfl, rfl, (fun h => by cases h), trivial⟩⟩⟩, by kernel_rfl, hnb, ?_⟩
            refine ⟨1, rfl, ?_⟩
            exact hK
          | false =>
            refine ⟨fun h => Bool.noConfusion (show false = true from h), fun _ => ?_⟩
            have hA : renameD ⟨[(n0, b0, s0), (n1, b1, s1), (n2, b2, s2)], room, left, false⟩ a b = (2, ⟨[(n0, b0, s0), (n1, b1, s1), (n2, b2, s2)], room, left, false⟩) := by simp [renameD, fget, h0, h1, h2]
            rw [hA] at hK
            clear hA
            refine ⟨fun _ => ?_, fun h => Bool.noConfusion (show true = false from h)⟩
            refine ⟨[.cls 1000000000 999000000 ⟨70, 73, 5, [(n0, b0, s0), (n1, b1, s1), (n2, b2, s2)], room, left, false, nb⟩ [999000001, 999000002, 999000003] [.own 999000000, .own 999000001, .own 999000002]], ?_⟩
            refine ⟨rfl, _, rfl, ⟨rfl, rfl, (fun h => by cases h), ⟨rfl, rfl, (fun h => by cases h), ⟨rfl, rfl, (fun h => by cases h), trivial⟩⟩⟩, by kernel_rfl, hnb, ?_⟩
            refine ⟨1, rfl, ?_⟩
            exact hK
set_option maxRecDepth 200000 in
set_option maxHeartbeats 6400000 in
theorem cut_ok : FnOkN Tryd.prog tab 18 (dk2C cutD) := by
  refine fn_okN (E := D1_E pl18) tab_is (D1_C _) JDk_ok Tryd.func18 rfl rfl (by kernel_rfl) ?_
  rintro args bs K ⟨⟨fs, room, left, stop⟩, nb, k, m, hd, hnb, rfl, rfl, hK⟩
  refine ⟨rfl, [], ?_⟩
  rcases len3 hd.n with h | ⟨⟨n0, b0, s0⟩, h⟩ | ⟨⟨n0, b0, s0⟩, ⟨n1, b1, s1⟩, h⟩ | ⟨⟨n0, b0, s0⟩, ⟨n1, b1, s1⟩, ⟨n2, b2, s2⟩, h⟩
  all_goals
    have h : fs = _ := h
    subst h
  · refine ⟨none, mfind_nil, ?_⟩
    cases stop with
    | true =>
      have hA : cutD ⟨[], room, left, true⟩ k m = (12, ⟨[], room, left, true⟩) := by simp [cutD]
      rw [hA] at hK
      clear hA
      refine ⟨fun _ => ?_, fun h => Bool.noConfusion (show true = false from h)⟩
      refine ⟨[.cls 1000000000 999000000 ⟨70, 73, 5, [], room, left, true, nb⟩ [] []], ?_⟩
      refine ⟨rfl, _, rfl, trivial, by kernel_rfl, hnb, ?_⟩
      refine ⟨1, rfl, ?_⟩
      exact hK
    | false =>
      refine ⟨fun h => Bool.noConfusion (show false = true from h), fun _ => ?_⟩
      have hA : cutD ⟨[], room, left, false⟩ k m = (2, ⟨[], room, left, false⟩) := by simp [cutD, fget]
      rw [hA] at hK
      clear hA
      refine ⟨fun _ => ?_, fun h => Bool.noConfusion (show true = false from h)⟩
      refine ⟨[.cls 1000000000 999000000 ⟨70, 73, 5, [], room, left, false, nb⟩ [] []], ?_⟩
      refine ⟨rfl, _, rfl, trivial, by kernel_rfl, hnb, ?_⟩
      refine ⟨1, rfl, ?_⟩
      exact hK
  · by_cases h0 : k = n0
    · subst h0
      refine ⟨some (.ptr 999000001 0), mfind_hit, ?_⟩
      cases stop with
      | true =>
        have hA : cutD ⟨[(k, b0, s0)], room, left, true⟩ k m = (12, ⟨[(k, b0, s0)], room, left, true⟩) := by simp [cutD]
        rw [hA] at hK
        clear hA
        refine ⟨fun _ => ?_, fun h => Bool.noConfusion (show true = false from h)⟩
        refine ⟨[.cls 1000000000 999000000 ⟨70, 73, 5, [(k, b0, s0)], room, left, true, nb⟩ [999000001] [.own 999000000]], ?_⟩
        refine ⟨rfl, _, rfl, ⟨rfl, rfl, (fun h => by cases h), trivial⟩, by kernel_rfl, hnb, ?_⟩
        refine ⟨1, rfl, ?_⟩
        exact hK
      | false =>
        refine ⟨fun h => Bool.noConfusion (show false = true from h), fun _ => ?_⟩
        refine ⟨fun h => Bool.noConfusion (show false = true from h), fun _ => ?_⟩
        have hbl : ((b0.map (AV.int .u8)).length : Int) = b0.length := by rw [List.length_map]
        refine ⟨fun hc => ?_, fun hc => ?_⟩
        · have hc : m < 0 := of_decide_eq_true hc
          refine ⟨fun _ => ?_, fun h => Bool.noConfusion (show true = false from h)⟩
          have hA : cutD ⟨[(k, b0, s0)], room, left, false⟩ k m = (13, ⟨[(k, b0, s0)], room, left, false⟩) := by simp [cutD, fget, hc]
          rw [hA] at hK
          clear hA
          refine ⟨[.cls 1000000000 999000000 ⟨70, 73, 5, [(k, b0, s0)], room, left, false, nb⟩ [999000001] [.own 999000000]], ?_⟩
          refine ⟨rfl, _, rfl, ⟨rfl, rfl, (fun h => by cases h), trivial⟩, by kernel_rfl, hnb, ?_⟩
          refine ⟨1, rfl, ?_⟩
          exact hK
        · have hc : ¬ m < 0 := of_decide_eq_false hc
          have hm0 : 0 ≤ m := by omega
          refine ⟨fun hd2 => ?_, fun hd2 => ?_⟩
          · have hd2 : m > ((b0.map (AV.int .u8)).length : Nat) := of_decide_eq_true hd2
            rw [hbl] at hd2
            have hA : cutD ⟨[(k, b0, s0)], room, left, false⟩ k m = (13, ⟨[(k, b0, s0)], room, left, false⟩) := by simp [cutD, fget, hd2]
            rw [hA] at hK
            clear hA
            refine ⟨[.cls 1000000000 999000000 ⟨70, 73, 5, [(k, b0, s0)], room, left, false, nb⟩ [999000001] [.own 999000000]], ?_⟩
            refine ⟨rfl, _, rfl, ⟨rfl, rfl, (fun h => by cases h), trivial⟩, by kernel_rfl, hnb, ?_⟩
            refine ⟨1, rfl, ?_⟩
            exact hK
          · have hd2 : ¬ m > ((b0.map (AV.int .u8)).length : Nat) := of_decide_eq_false hd2
            rw [hbl] at hd2
            have hno : ¬ (m < 0 ∨ m > (b0.length : Int)) := by omega
            refine ⟨[1000000000, 999000000, 999000001], [999000000], [], 100000000, rfl, _, rfl, rfl, ⟨[(k, b0, s0)], room, left, false⟩, ⟨hd.l0, hd.l1⟩, .inr ⟨_, _, (by exact Nat.le_of_ble_eq_true rfl), rfl, rfl, ?_⟩⟩
            refine ⟨fun hw => ?_, fun hw => ?_⟩
            · have hw : Dk.wk ⟨[(k, b0, s0)], room, left, false⟩ = false := by simpa using hw
              have hA : cutD ⟨[(k, b0, s0)], room, left, false⟩ k m = (12, ⟨[(k, b0, s0)], room, Dk.lf ⟨[(k, b0, s0)], room, left, false⟩, Dk.st ⟨[(k, b0, s0)], room, left, false⟩⟩) := by simp [cutD, fget, worksD, hw, hno]
              rw [hA] at hK
              clear hA
              refine ⟨[.cls 1000000000 999000000 ⟨70, 73, 5, [(k, b0, s0)], room, Dk.lf ⟨[(k, b0, s0)], room, left, false⟩, Dk.st ⟨[(k, b0, s0)], room, left, false⟩, nb⟩ [999000001] [.own 100000000]], ?_⟩
              refine ⟨rfl, _, rfl, ⟨rfl, rfl, (fun h => by cases h), trivial⟩, by kernel_rfl, hnb, ?_⟩
              refine ⟨1, rfl, ?_⟩
              exact hK
            · have hw : Dk.wk ⟨[(k, b0, s0)], room, left, false⟩ = true := by simpa using hw
              have hA : cutD ⟨[(k, b0, s0)], room, left, false⟩ k m = (0, ⟨[(k, b0.take m.toNat, m)], room, Dk.lf ⟨[(k, b0, s0)], room, left, false⟩, Dk.st ⟨[(k, b0, s0)], room, left, false⟩⟩) := by simp [cutD, fget, fset, hw, hno]
              rw [hA] at hK
              clear hA
              refine ⟨hm0, ?_⟩
              refine ⟨Nat.zero_le _, (show m.toNat ≤ (b0.map (AV.int .u8)).length by rw [List.length_map]; omega), ?_⟩
              refine ⟨[.cls 1000000000 999000000 ⟨70, 73, 5, [(k, b0.take m.toNat, m)], room, Dk.lf ⟨[(k, b0, s0)], room, left, false⟩, Dk.st ⟨[(k, b0, s0)], room, left, false⟩, nb⟩ [999000001] [.own 100000000]], ?_⟩
              refine ⟨rfl, _, rfl, ⟨rfl, cut_box, (fun h => by cases h), trivial⟩, by kernel_rfl, hnb, ?_⟩
              refine ⟨1, rfl, ?_⟩
              exact hK
    · refine ⟨none, (mfind_miss h0).trans mfind_nil, ?_⟩
      cases stop with
      | true =>
        have hA : cutD ⟨[(n0, b0, s0)], room, left, true⟩ k m = (12, ⟨[(n0, b0, s0)], room, left, true⟩) := by simp [cutD]
        rw [hA] at hK
        clear hA
        refine ⟨fun _ => ?_, fun h => Bool.noConfusion (show true = false from h)⟩
        refine ⟨[.cls 1000000000 999000000 ⟨70, 73, 5, [(n0, b0, s0)], room, left, true, nb⟩ [999000001] [.own 999000000]], ?_⟩
        refine ⟨rfl, _, rfl, ⟨rfl, rfl, (fun h => by cases h), trivial⟩, by kernel_rfl, hnb, ?_⟩
        refine ⟨1, rfl, ?_⟩
        exact hK
      | false =>
        refine ⟨fun h => Bool.noConfusion (show false = true from h), fun _ => ?_⟩
        have hA : cutD ⟨[(n0, b0, s0)], room, left, false⟩ k m = (2, ⟨[(n0, b0, s0)], room, left, false⟩) := by simp [cutD, fget, h0]
        rw [hA] at hK
        clear hA
        refine ⟨fun _ => ?_, fun h => Bool.noConfusion (show true = false from h)⟩
        refine ⟨[.cls 1000000000 999000000 ⟨70, 73, 5, [(n0, b0, s0)], room, left, false, nb⟩ [999000001] [.own 999000000]], ?_⟩
        refine ⟨rfl, _, rfl, ⟨rfl, rfl, (fun h => by cases h), trivial⟩, by kernel_rfl, hnb, ?_⟩
        refine ⟨1, rfl, ?_⟩
        exact hK
  · by_cases h0 : k = n0
    · subst h0
      refine ⟨some (.ptr 999000001 0), mfind_hit, ?_⟩
      cases stop with
      | true =>
        have hA : cutD ⟨[(k, b0, s0), (n1, b1, s1)], room, left, true⟩ k m = (12, ⟨[(k, b0, s0), (n1, b1, s1)], room, left, true⟩) := by simp [cutD]
        rw [hA] at hK
        clear hA
        refine ⟨fun _ => ?_, fun h => Bool.noConfusion (show true = false from h)⟩
        refine ⟨[.cls 1000000000 999000000 ⟨70, 73, 5, [(k, b0, s0), (n1, b1, s1)], room, left, true, nb⟩ [999000001, 999000002] [.own 999000000, .own 999000001]], ?_⟩
        refine ⟨rfl, _, rfl, ⟨rfl, rfl, (fun h => by cases h), ⟨rfl, rfl, (fun h => by cases h), trivial⟩⟩, by kernel_rfl, hnb, ?_⟩
        refine ⟨1, rfl, ?_⟩
        exact hK
      | false =>
        refine ⟨fun h => Bool.noConfusion (show false = true from h), fun _ => ?_⟩
        refine ⟨fun h => Bool.noConfusion (show false = true from h), fun _ => ?_⟩
        have hbl : ((b0.map (AV.int .u8)).length : Int) = b0.length := by rw [List.length_map]
        refine ⟨fun hc => ?_, fun hc => ?_⟩
        · have hc : m < 0 := of_decide_eq_true hc
          refine ⟨fun _ => ?_, fun h => Bool.noConfusion (show true = false from h)⟩
          have hA : cutD ⟨[(k, b0, s0), (n1, b1, s1)], room, left, false⟩ k m = (13, ⟨[(k, b0, s0), (n1, b1, s1)], room, left, false⟩) := by simp [cutD, fget, hc]
          rw [hA] at hK
          clear hA
          refine ⟨[.cls 1000000000 999000000 ⟨70, 73, 5, [(k, b0, s0), (n1, b1, s1)], room, left, false, nb⟩ [999000001, 999000002] [.own 999000000, .own 999000001]], ?_⟩
          refine ⟨rfl, _, rfl, ⟨rfl, rfl, (fun h => by cases h), ⟨rfl, rfl, (fun h => by cases h), trivial⟩⟩, by kernel_rfl, hnb, ?_⟩
          refine ⟨1, rfl, ?_⟩
          exact hK
        · have hc : ¬ m < 0 := of_decide_eq_false hc
          have hm0 : 0 ≤ m := by omega
          refine ⟨fun hd2 => ?_, fun hd2 => ?_⟩
          · have hd2 : m > ((b0.map (AV.int .u8)).length : Nat) := of_decide_eq_true hd2
            rw [hbl] at hd2
            have hA : cutD ⟨[(k, b0, s0), (n1, b1, s1)], room, left, false⟩ k m = (13, ⟨[(k, b0, s0), (n1, b1, s1)], room, left, false⟩) := by simp [cutD, fget, hd2]
            rw [hA] at hK
            clear hA
            refine ⟨[.cls 1000000000 999000000 ⟨70, 73, 5, [(k, b0, s0), (n1, b1, s1)], room, left, false, nb⟩ [999000001, 999000002] [.own 999000000, .own 999000001]], ?_⟩
            refine ⟨rfl, _, rfl, ⟨rfl, rfl, (fun h => by cases h), ⟨rfl, rfl, (fun h => by cases h), trivial⟩⟩, by kernel_rfl, hnb, ?_⟩
            refine ⟨1, rfl, ?_⟩
            exact hK
          · have hd2 : ¬ m > ((b0.map (AV.int .u8)).length : Nat) := of_decide_eq_false hd2
            rw [hbl] at hd2
            have hno : ¬ (m < 0 ∨ m > (b0.length : Int)) := by omega
            refine ⟨[1000000000, 999000000, 999000001, 999000002], [999000000, 999000001], [], 100000000, rfl, _, rfl, rfl, ⟨[(k, b0, s0), (n1, b1, s1)], room, left, false⟩, ⟨hd.l0, hd.l1⟩, .inr ⟨_, _, (by exact Nat.le_of_ble_eq_true rfl), rfl, rfl, ?_⟩⟩
            refine ⟨fun hw => ?_, fun hw => ?_⟩
            · have hw : Dk.wk ⟨[(k, b0, s0), (n1, b1, s1)], room, left, false⟩ = false := by simpa using hw
              have hA : cutD ⟨[(k, b0, s0), (n1, b1, s1)], room, left, false⟩ k m = (12, ⟨[(k, b0, s0), (n1, b1, s1)], room, Dk.lf ⟨[(k, b0, s0), (n1, b1, s1)], room, left, false⟩, Dk.st ⟨[(k, b0, s0), (n1, b1, s1)], room, left, false⟩⟩) := by simp [cutD, fget, worksD, hw, hno]
              rw [hA] at hK
              clear hA
              refine ⟨[.cls 1000000000 999000000 ⟨70, 73, 5, [(k, b0, s0), (n1, b1, s1)], room, Dk.lf ⟨[(k, b0, s0), (n1, b1, s1)], room, left, false⟩, Dk.st ⟨[(k, b0, s0), (n1, b1, s1)], room, left, false⟩, nb⟩ [999000001, 999000002] [.own 100000000, .own 100000001]], ?_⟩
              refine ⟨rfl, _, rfl, ⟨rfl, rfl, (fun h => by cases h), ⟨rfl, rfl, (fun h => by cases h), trivial⟩⟩, by kernel_rfl, hnb, ?_⟩
              refine ⟨1, rfl, ?_⟩
              exact hK
            · have hw : Dk.wk ⟨[(k, b0, s0), (n1, b1, s1)], room, left, false⟩ = true := by simpa using hw
              have hA : cutD ⟨[(k, b0, s0), (n1, b1, s1)], room, left, false⟩ k m = (0, ⟨[(k, b0.take m.toNat, m), (n1, b1, s1)], room, Dk.lf ⟨[(k, b0, s0), (n1, b1, s1)], room, left, false⟩, Dk.st ⟨[(k, b0, s0), (n1, b1, s1)], room, left, false⟩⟩) := by simp [cutD, fget, fset, hw, hno]
              rw [hA] at hK
              clear hA
              refine ⟨hm0, ?_⟩
              refine ⟨Nat.zero_le _, (show m.toNat ≤ (b0.map (AV.int .u8)).length by rw [List.length_map]; omega), ?_⟩
              refine ⟨[.cls 1000000000 999000000 ⟨70, 73, 5, [(k, b0.take m.toNat, m), (n1, b1, s1)], room, Dk.lf ⟨[(k, b0, s0), (n1, b1, s1)], room, left, false⟩, Dk.st ⟨[(k, b0, s0), (n1, b1, s1)], room, left, false⟩, nb⟩ [999000001, 999000002] [.own 100000000, .own 100000001]], ?_⟩
              refine ⟨rfl, _, rfl, ⟨rfl, cut_box, (fun h => by cases h), ⟨rfl, rfl, (fun h => by cases h), trivial⟩⟩, by kernel_rfl, hnb, ?_⟩
              refine ⟨1, rfl, ?_⟩
              exact hK
    · by_cases h1 : k = n1
      · subst h1
        refine ⟨some (.ptr 999000002 0), (mfind_miss h0).trans mfind_hit, ?_⟩
        cases stop with
        | true =>
          have hA : cutD ⟨[(n0, b0, s0), (k, b1, s1)], room, left, true⟩ k m = (12, ⟨[(n0, b0, s0), (k, b1, s1)], room, left, true⟩) := by simp [cutD]
          rw [hA] at hK
          clear hA
          refine ⟨fun _ => ?_, fun h => Bool.noConfusion (show true = false from h)⟩
          refine ⟨[.cls 1000000000 999000000 ⟨70, 73, 5, [(n0, b0, s0), (k, b1, s1)], room, left, true, nb⟩ [999000001, 999000002] [.own 999000000, .own 999000001]], ?_⟩
          refine ⟨rfl, _, rfl, ⟨rfl, rfl, (fun h => by cases h), ⟨rfl, rfl, (fun h => by cases h), trivial⟩⟩, by kernel_rfl, hnb, ?_⟩
          refine ⟨1, rfl, ?_⟩
          exact hK
        | false =>
          refine ⟨fun h => Bool.noConfusion (show false = true from h), fun _ => ?_⟩
          refine ⟨fun h => Bool.noConfusion (show false = true from h), fun _ => ?_⟩
          have hbl : ((b1.map (AV.int .u8)).length : Int) = b1.length := by rw [List.length_map]
          refine ⟨fun hc => ?_, fun hc => ?_⟩
          · have hc : m < 0 := of_decide_eq_true hc
            refine ⟨fun _ => ?_, fun h => Bool.noConfusion (show true = false from h)⟩
            have hA : cutD ⟨[(n0, b0, s0), (k, b1, s1)], room, left, false⟩ k m = (13, ⟨[(n0, b0, s0), (k, b1, s1)], room, left, false⟩) := by simp [cutD, fget, h0, hc]
            rw [hA] at hK
            clear hA
            refine ⟨[.cls 1000000000 999000000 ⟨70, 73, 5, [(n0, b0, s0), (k, b1, s1)], room, left, false, nb⟩ [999000001, 999000002] [.own 999000000, .own 999000001]], ?_⟩
            refine ⟨rfl, _, rfl, ⟨rfl, rfl, (fun h => by cases h), ⟨rfl, rfl, (fun h => by cases h), trivial⟩⟩, by kernel_rfl, hnb, ?_⟩
            refine ⟨1, rfl, ?_⟩
            exact hK
          · have hc : ¬ m < 0 := of_decide_eq_false hc
            have hm0 : 0 ≤ m := by omega
            refine ⟨fun hd2 => ?_, fun hd2 => ?_⟩
            · have hd2 : m > ((b1.map (AV.int .u8)).length : Nat) := of_decide_eq_true hd2
              rw [hbl] at hd2
              have hA : cutD ⟨[(n0, b0, s0), (k, b1, s1)], room, left, false⟩ k m = (13, ⟨[(n0, b0, s0), (k, b1, s1)], room, left, false⟩) := by simp [cutD, fget, h0, hd2]
              rw [hA] at hK
              clear hA
              refine ⟨[.cls 1000000000 999000000 ⟨70, 73, 5, [(n0, b0, s0), (k, b1, s1)], room, left, false, nb⟩ [999000001, 999000002] [.own 999000000, .own 999000001]], ?_⟩
              refine ⟨rfl, _, rfl, ⟨rfl, rfl, (fun h => by cases h), ⟨rfl, rfl, (fun h => by cases h), trivial⟩⟩, by kernel_rfl, hnb, ?_⟩
              refine ⟨1, rfl, ?_⟩
              exact hK
            · have hd2 : ¬ m > ((b1.map (AV.int .u8)).length : Nat) := of_decide_eq_false hd2
              rw [hbl] at hd2
              have hno : ¬ (m < 0 ∨ m > (b1.length : Int)) := by omega
              refine ⟨[1000000000, 999000000, 999000001, 999000002], [999000000, 999000001], [], 100000000, rfl, _, rfl, rfl, ⟨[(n0, b0, s0), (k, b1, s1)], room, left, false⟩, ⟨hd.l0, hd.l1⟩, .inr ⟨_, _, (by exact Nat.le_of_ble_eq_true rfl), rfl, rfl, ?_⟩⟩
              refine ⟨fun hw => ?_, fun hw => ?_⟩
              · have hw : Dk.wk ⟨[(n0, b0, s0), (k, b1, s1)], room, left, false⟩ = false := by simpa using hw
                have hA : cutD ⟨[(n0, b0, s0), (k, b1, s1)], room, left, false⟩ k m = (12, ⟨[(n0, b0, s0), (k, b1, s1)], room, Dk.lf ⟨[(n0, b0, s0), (k, b1, s1)], room, left, false⟩, Dk.st ⟨[(n0, b0, s0), (k, b1, s1)], room, left, false⟩⟩) := by simp [cutD, fget, h0, worksD, hw, hno]
                rw [hA] at hK
                clear hA
                refine ⟨[.cls 1000000000 999000000 ⟨70, 73, 5, [(n0, b0, s0), (k, b1, s1)], room, Dk.lf ⟨[(n0, b0, s0), (k, b1, s1)], room, left, false⟩, Dk.st ⟨[(n0, b0, s0), (k, b1, s1)], room, left, false⟩, nb⟩ [999000001, 999000002] [.own 100000000, .own 100000001]], ?_⟩
                refine ⟨rfl, _, rfl, ⟨rfl, rfl, (fun h => by cases h), ⟨rfl, rfl, (fun h => by cases h), trivial⟩⟩, by kernel_rfl, hnb, ?_⟩
                refine ⟨1, rfl, ?_⟩
                exact hK
              · have hw : Dk.wk ⟨[(n0, b0, s0), (k, b1, s1)], room, left, false⟩ = true := by simpa using hw
                have hA : cutD ⟨[(n0, b0, s0), (k, b1, s1)], room, left, false⟩ k m = (0, ⟨[(n0, b0, s0), (k, b1.take m.toNat, m)], room, Dk.lf ⟨[(n0, b0, s0), (k, b1, s1)], room, left, false⟩, Dk.st ⟨[(n0, b0, s0), (k, b1, s1)], room, left, false⟩⟩) := by simp [cutD, fget, h0, fset, hw, hno]
                rw [hA] at hK
                clear hA
                refine ⟨hm0, ?_⟩
                refine ⟨Nat.zero_le _, (show m.toNat ≤ (b1.map (AV.int .u8)).length by rw [List.length_map]; omega), ?_⟩
                refine ⟨[.cls 1000000000 999000000 ⟨70, 73, 5, [(n0, b0, s0), (k, b1.take m.toNat, m)], room, Dk.lf ⟨[(n0, b0, s0), (k, b1, s1)], room, left, false⟩, Dk.st ⟨[(n0, b0, s0), (k, b1, s1)], room, left, false⟩, nb⟩ [999000001, 999000002] [.own 100000000, .own 100000001]], ?_⟩
                refine ⟨rfl, _, rfl, ⟨rfl, rfl, (fun h => by cases h), ⟨rfl, cut_box, (fun h => by cases h), trivial⟩⟩, by kernel_rfl, hnb, ?_⟩
                refine ⟨1, rfl, ?_⟩
                exact hK
      · refine ⟨none, (mfind_miss h0).trans ((mfind_miss h1).trans mfind_nil), ?_⟩
        cases stop with
        | true =>
          have hA : cutD ⟨[(n0, b0, s0), (n1, b1, s1)], room, left, true⟩ k m = (12, ⟨[(n0, b0, s0), (n1, b1, s1)], room, left, true⟩) := by simp [cutD]
          rw [hA] at hK
          clear hA
          refine ⟨fun _ => ?_, fun h => Bool.noConfusion (show true = false from h)⟩
          refine ⟨[.cls 1000000000 999000000 ⟨70, 73, 5, [(n0, b0, s0), (n1, b1, s1)], room, left, true, nb⟩ [999000001, 999000002] [.own 999000000, .own 999000001]], ?_⟩
          refine ⟨rfl, _, rfl, ⟨rfl, rfl, (fun h => by cases h), ⟨rfl, rfl, (fun h => by cases h), trivial⟩⟩, by kernel_rfl, hnb, ?_⟩
          refine ⟨1, rfl, ?_⟩
          exact hK
        | false =>
          refine ⟨fun h => Bool.noConfusion (show false = true from h), fun _ => ?_⟩
          have hA : cutD ⟨[(n0, b0, s0), (n1, b1, s1)], room, left, false⟩ k m = (2, ⟨[(n0, b0, s0), (n1, b1, s1)], room, left, false⟩) := by simp [cutD, fget, h0, h1]
          rw [hA] at hK
          clear hA
          refine ⟨fun _ => ?_, fun h => Bool.noConfusion (show true = false from h)⟩
          refine ⟨[.cls 1000000000 999000000 ⟨70, 73, 5, [(n0, b0, s0), (n1, b1, s1)], room, left, false, nb⟩ [999000001, 999000002] [.own 999000000, .own 999000001]], ?_⟩
          refine ⟨rfl, _, rfl, ⟨rfl, rfl, (fun h => by cases h), ⟨rfl, rfl, (fun h => by cases h), trivial⟩⟩, by kernel_rfl, hnb, ?_⟩
          refine ⟨1, rfl, ?_⟩
          exact hK
  · by_cases h0 : k = n0
    · subst h0
      refine ⟨some (.ptr 999000001 0), mfind_hit, ?_⟩
      cases stop with
      | true =>
        have hA : cutD ⟨[(k, b0, s0), (n1, b1, s1), (n2, b2, s2)], room, left, true⟩ k m = (12, ⟨[(k, b0, s0), (n1, b1, s1), (n2, b2, s2)], room, left, true⟩) := by simp [cutD]
        rw [hA] at hK
        clear hA
        refine ⟨fun _ => ?_, fun h => Bool.noConfusion (show true = false from h)⟩
        refine ⟨[.cls 1000000000 999000000 ⟨70, 73, 5, [(k, b0, s0), (n1, b1, s1), (n2, b2, s2)], room, left, true, nb⟩ [999000001, 999000002, 999000003] [.own 999000000, .own 999000001, .own 999000002]], ?_⟩
        refine ⟨rfl, _, rfl, ⟨rfl, rfl, (fun h => by cases h), ⟨rfl, rfl, (fun h => by cases h), ⟨rfl, rfl, (fun h => by cases h), trivial⟩⟩⟩, by kernel_rfl, hnb, ?_⟩
        refine ⟨1, rfl, ?_⟩
        exact hK
      | false =>
        refine ⟨fun h => Bool.noConfusion (show false = true from h), fun _ => ?_⟩
        refine ⟨fun h => Bool.noConfusion (show false = true from h), fun _ => ?_⟩
        have hbl : ((b0.map (AV.int .u8)).length : Int) = b0.length := by rw [List.length_map]
        refine ⟨fun hc => ?_, fun hc => ?_⟩
        · have hc : m < 0 := of_decide_eq_true hc
          refine ⟨fun _ => ?_, fun h => Bool.noConfusion (show true = false from h)⟩
          have hA : cutD ⟨[(k, b0, s0), (n1, b1, s1), (n2, b2, s2)], room, left, false⟩ k m = (13, ⟨[(k, b0, s0), (n1, b1, s1), (n2, b2, s2)], room, left, false⟩) := by simp [cutD, fget, hc]
          rw [hA] at hK
          clear hA
          refine ⟨[.cls 1000000000 999000000 ⟨70, 73, 5, [(k, b0, s0), (n1, b1, s1), (n2, b2, s2)], room, left, false, nb⟩ [999000001, 999000002, 999000003] [.own 999000000, .own 999000001, .own 999000002]], ?_⟩
          refine ⟨rfl, _, rfl, ⟨rfl, rfl, (fun h => by cases h), ⟨rfl, rfl, (fun h => by cases h), ⟨rfl, rfl, (fun h => by cases h), trivial⟩⟩⟩, by kernel_rfl, hnb, ?_⟩
          refine ⟨1, rfl, ?_⟩
          exact hK
        · have hc : ¬ m < 0 := of_decide_eq_false hc
          have hm0 : 0 ≤ m := by omega
          refine ⟨fun hd2 => ?_, fun hd2 => ?_⟩
          · have hd2 : m > ((b0.map (AV.int .u8)).length : Nat) := of_decide_eq_true hd2
            rw [hbl] at hd2
            have hA : cutD ⟨[(k, b0, s0), (n1, b1, s1), (n2, b2, s2)], room, left, false⟩ k m = (13, ⟨[(k, b0, s0), (n1, b1, s1), (n2, b2, s2)], room, left, false⟩) := by simp [cutD, fget, hd2]
            rw [hA] at hK
            clear hA
            refine ⟨[.cls 1000000000 999000000 ⟨70, 73, 5, [(k, b0, s0), (n1, b1, s1), (n2, b2, s2)], room, left, false, nb⟩ [999000001, 999000002, 999000003] [.own 999000000, .own 999000001, .own 999000002]], ?_⟩
            refine ⟨rfl, _, rfl, ⟨rfl, rfl, (fun h => by cases h), ⟨rfl, rfl, (fun h => by cases h), ⟨rfl, rfl, (fun h => by cases h), trivial⟩⟩⟩, by kernel_rfl, hnb, ?_⟩
            refine ⟨1, rfl, ?_⟩
            exact hK
          · have hd2 : ¬ m > ((b0.map (AV.int .u8)).length : Nat) := of_decide_eq_false hd2
            rw [hbl] at hd2
            have hno : ¬ (m < 0 ∨ m > (b0.length : Int)) := by omega
            refine ⟨[1000000000, 999000000, 999000001, 999000002, 999000003], [999000000, 999000001, 999000002], [], 100000000, rfl, _, rfl, rfl, ⟨[(k, b0, s0), (n1, b1, s1), (n2, b2, s2)], room, left, false⟩, ⟨hd.l0, hd.l1⟩, .inr ⟨_, _, (by exact Nat.le_of_ble_eq_true rfl), rfl, rfl, ?_⟩⟩
            refine ⟨fun hw => ?_, fun hw => ?_⟩
            · have hw : Dk.wk ⟨[(k, b0, s0), (n1, b1, s1), (n2, b2, s2)], room, left, false⟩ = false := by simpa using hw
              have hA : cutD ⟨[(k, b0, s0), (n1, b1, s1), (n2, b2, s2)], room, left, false⟩ k m = (12, ⟨[(k, b0, s0), (n1, b1, s1), (n2, b2, s2)], room, Dk.lf ⟨[(k, b0, s0), (n1, b1, s1), (n2, b2, s2)], room, left, false⟩, Dk.st ⟨[(k, b0, s0), (n1, b1, s1), (n2, b2, s2)], room, left, false⟩⟩) := by simp [cutD, fget, worksD, hw, hno]
              rw [hA] at hK
              clear hA
              refine ⟨[.cls 1000000000 999000000 ⟨70, 73, 5, [(k, b0, s0), (n1, b1, s1), (n2, b2, s2)], room, Dk.lf ⟨[(k, b0, s0), (n1, b1, s1), (n2, b2, s2)], room, left, false⟩, Dk.st ⟨[(k, b0, s0), (n1, b1, s1), (n2, b2, s2)], room, left, false⟩, nb⟩ [999000001, 999000002, 999000003] [.own 100000000, .own 100000001, .own 100000002]], ?_⟩
              refine ⟨rfl, _, rfl, ⟨rfl, rfl, (fun h => by cases h), ⟨rfl, rfl, (fun h => by cases h), ⟨rfl, rfl, (fun h => by cases h), trivial⟩⟩⟩, by kernel_rfl, hnb, ?_⟩
              refine ⟨1, rfl, ?_⟩
              exact hK
            · have hw : Dk.wk ⟨[(k, b0, s0), (n1, b1, s1), (n2, b2, s2)], room, left, false⟩ = true := by simpa using hw
              have hA : cutD ⟨[(k, b0, s0), (n1, b1, s1), (n2, b2, s2)], room, left, false⟩ k m = (0, ⟨[(k, b0.take m.toNat, m), (n1, b1, s1), (n2, b2, s2)], room, Dk.lf ⟨[(k, b0, s0), (n1, b1, s1), (n2, b2, s2)], room, left, false⟩, Dk.st ⟨[(k, b0, s0), (n1, b1, s1), (n2, b2, s2)], room, left, false⟩⟩) := by simp [cutD, fget, fset, hw, hno]
              rw [hA] at hK
              clear hA
              refine ⟨hm0, ?_⟩
              refine ⟨Nat.zero_le _, (show m.toNat ≤ (b0.map (AV.int .u8)).length by rw [List.length_map]; omega), ?_⟩
              refine ⟨[.cls 1000000000 999000000 ⟨70, 73, 5, [(k, b0.take m.toNat, m), (n1, b1, s1), (n2, b2, s2)], room, Dk.lf ⟨[(k, b0, s0), (n1, b1, s1), (n2, b2, s2)], room, left, false⟩, Dk.st ⟨[(k, b0, s0), (n1, b1, s1), (n2, b2, s2)], room, left, false⟩, nb⟩ [999000001, 999000002, 999000003] [.own 100000000, .own 100000001, .own 100000002]], ?_⟩
              refine ⟨rfl, _, rfl, ⟨rfl, cut_box, (fun h => by cases h), ⟨rfl, rfl, (fun h => by cases h), ⟨rfl, rfl, (fun h => by cases h), trivial⟩⟩⟩, by kernel_rfl, hnb, ?_⟩
              refine ⟨1, rfl, ?_⟩
              exact hK
    · by_cases h1 : k = n1
      · subst h1
        refine ⟨some (.ptr 999000002 0), (mfind_miss h0).trans mfind_hit, ?_⟩
        cases stop with
        | true =>
          have hA : cutD ⟨[(n0, b0, s0), (k, b1, s1), (n2, b2, s2)], room, left, true⟩ k m = (12, ⟨[(n0, b0, s0), (k, b1, s1), (n2, b2, s2)], room, left, true⟩) := by simp [cutD]
          rw [hA] at hK
          clear hA
          refine ⟨fun _ => ?_, fun h => Bool.noConfusion (show true = false from h)⟩
          refine ⟨[.cls 1000000000 999000000 ⟨70, 73, 5, [(n0, b0, s0), (k, b1, s1), (n2, b2, s2)], room, left, true, nb⟩ [999000001, 999000002, 999000003] [.own 999000000, .own 999000001, .own 999000002]], ?_⟩
          refine ⟨rfl, _, rfl, ⟨rfl, rfl, (fun h => by cases h), ⟨rfl, rfl, (fun h => by cases h), ⟨rfl, rfl, (fun h => by cases h), trivial⟩⟩⟩, by kernel_rfl, hnb, ?_⟩
          refine ⟨1, rfl, ?_⟩
          exact hK
        | false =>
          refine ⟨fun h => Bool.noConfusion (show false = true from h), fun _ => ?_⟩
          refine ⟨fun h => Bool.noConfusion (show false = true from h), fun _ => ?_⟩
          have hbl : ((b1.map (AV.int .u8)).length : Int) = b1.length := by rw [List.length_map]
          refine ⟨fun hc => ?_, fun hc => ?_⟩
          · have hc : m < 0 := of_decide_eq_true hc
            refine ⟨fun _ => ?_, fun h => Bool.noConfusion (show true = false from h)⟩
            have hA : cutD ⟨[(n0, b0, s0), (k, b1, s1), (n2, b2, s2)], room, left, false⟩ k m = (13, ⟨[(n0, b0, s0), (k, b1, s1), (n2, b2, s2)], room, left, false⟩) := by simp [cutD, fget, h0, hc]
            rw [hA] at hK
            clear hA
            refine ⟨[.cls 1000000000 999000000 ⟨70, 73, 5, [(n0, b0, s0), (k, b1, s1), (n2, b2, s2)], room, left, false, nb⟩ [999000001, 999000002, 999000003] [.own 999000000, .own 999000001, .own 999000002]], ?_⟩
            refine ⟨rfl, _, rfl, ⟨rfl, rfl, (fun h => by cases h), ⟨rfl, rfl, (fun h => by cases h), ⟨rfl, rfl, (fun h => by cases h), trivial⟩⟩⟩, by kernel_rfl, hnb, ?_⟩
            refine ⟨1, rfl, ?_⟩
            exact hK
          · have hc : ¬ m < 0 := of_decide_eq_false hc
            have hm0 : 0 ≤ m := by omega
            refine ⟨fun hd2 => ?_, fun hd2 => ?_⟩
            · have hd2 : m > ((b1.map (AV.int .u8)).length : Nat) := of_decide_eq_true hd2
              rw [hbl] at hd2
              have hA : cutD ⟨[(n0, b0, s0), (k, b1, s1), (n2, b2, s2)], room, left, false⟩ k m = (13, ⟨[(n0, b0, s0), (k, b1, s1), (n2, b2, s2)], room, left, false⟩) := by simp [cutD, fget, h0, hd2]
              rw [hA] at hK
              clear hA
              refine ⟨[.cls 1000000000 999000000 ⟨70, 73, 5, [(n0, b0, s0), (k, b1, s1), (n2, b2, s2)], room, left, false, nb⟩ [999000001, 999000002, 999000003] [.own 999000000, .own 999000001, .own 999000002]], ?_⟩
              refine ⟨rfl, _, rfl, ⟨rfl, rfl, (fun h => by cases h), ⟨rfl, rfl, (fun h => by cases h), ⟨rfl, rfl, (fun h => by cases h), trivial⟩⟩⟩, by kernel_rfl, hnb, ?_⟩
              refine ⟨1, rfl, ?_⟩
              exact hK
            · have hd2 : ¬ m > ((b1.map (AV.int .u8)).length : Nat) := of_decide_eq_false hd2
              rw [hbl] at hd2
              have hno : ¬ (m < 0 ∨ m > (b1.length : Int)) := by omega
              refine ⟨[1000000000, 999000000, 999000001, 999000002, 999000003], [999000000, 999000001, 999000002], [], 100000000, rfl, _, rfl, rfl, ⟨[(n0, b0, s0), (k, b1, s1), (n2, b2, s2)], room, left, false⟩, ⟨hd.l0, hd.l1⟩, .inr ⟨_, _, (by exact Nat.le_of_ble_eq_true rfl), rfl, rfl, ?_⟩⟩
              refine ⟨fun hw => ?_, fun hw => ?_⟩
              · have hw : Dk.wk ⟨[(n0, b0, s0), (k, b1, s1), (n2, b2, s2)], room, left, false⟩ = false := by simpa using hw
                have hA : cutD ⟨[(n0, b0, s0), (k, b1, s1), (n2, b2, s2)], room, left, false⟩ k m = (12, ⟨[(n0, b0, s0), (k, b1, s1), (n2, b2, s2)], room, Dk.lf ⟨[(n0, b0, s0), (k, b1, s1), (n2, b2, s2)], room, left, false⟩, Dk.st ⟨[(n0, b0, s0), (k, b1, s1), (n2, b2, s2)], room, left, false⟩⟩) := by simp [cutD, fget, h0, worksD, hw, hno]
                rw [hA] at hK
                clear hA
                refine ⟨[.cls 1000000000 999000000 ⟨70, 73, 5, [(n0, b0, s0), (k, b1, s1), (n2, b2, s2)], room, Dk.lf ⟨[(n0, b0, s0), (k, b1, s1), (n2, b2, s2)], room, left, false⟩, Dk.st ⟨[(n0, b0, s0), (k, b1, s1), (n2, b2, s2)], room, left, false⟩, nb⟩ [999000001, 999000002, 999000003] [.own 100000000, .own 100000001, .own 100000002]], ?_⟩
                refine ⟨rfl, _, rfl, ⟨rfl, rfl, (fun h => by cases h), ⟨rfl, rfl, (fun h => by cases h), ⟨rfl, rfl, (fun h => by cases h), trivial⟩⟩⟩, by kernel_rfl, hnb, ?_⟩
                refine ⟨1, rfl, ?_⟩
                exact hK
              · have hw : Dk.wk ⟨[(n0, b0, s0), (k, b1, s1), (n2, b2, s2)], room, left, false⟩ = true := by simpa using hw
                have hA : cutD ⟨[(n0, b0, s0), (k, b1, s1), (n2, b2, s2)], room, left, false⟩ k m = (0, ⟨[(n0, b0, s0), (k, b1.take m.toNat, m), (n2, b2, s2)], room, Dk.lf ⟨[(n0, b0, s0), (k, b1, s1), (n2, b2, s2)], room, left, false⟩, Dk.st ⟨[(n0, b0, s0), (k, b1, s1), (n2, b2, s2)], room, left, false⟩⟩) := by simp [cutD, fget, h0, fset, hw, hno]
                rw [hA] at hK
                clear hA
                refine ⟨hm0, ?_⟩
                refine ⟨Nat.zero_le _, (show m.toNat ≤ (b1.map (AV.int .u8)).length by rw [List.length_map]; omega), ?_⟩
                refine ⟨[.cls 1000000000 999000000 ⟨70, 73, 5, [(n0, b0, s0), (k, b1.take m.toNat, m), (n2, b2, s2)], room, Dk.lf ⟨[(n0, b0, s0), (k, b1, s1), (n2, b2, s2)], room, left, false⟩, Dk.st ⟨[(n0, b0, s0), (k, b1, s1), (n2, b2, s2)], room, left, false⟩, nb⟩ [999000001, 999000002, 999000003] [.own 100000000, .own 100000001, .own 100000002]], ?_⟩
                refine ⟨rfl, _, rfl, ⟨rfl, rfl, (fun h => by cases h), ⟨rfl, cut_box, (fun h => by cases h), ⟨rfl, rfl, (fun h => by cases h), trivial⟩⟩⟩, by kernel_rfl, hnb, ?_⟩
                refine ⟨1, rfl, ?_⟩
                exact hK
      · by_cases h2 : k = n2
        · subst h2
          refine ⟨some (.ptr 999000003 0), (mfind_miss h0).trans ((mfind_miss h1).trans mfind_hit), ?_⟩
          cases stop with
          | true =>
            have hA : cutD ⟨[(n0, b0, s0), (n1, b1, s1), (k, b2, s2)], room, left, true⟩ k m = (12, ⟨[(n0, b0, s0), (n1, b1, s1), (k, b2, s2)], room, left, true⟩) := by simp [cutD]
            rw [hA] at hK
            clear hA
            refine ⟨fun _ => ?_, fun h => Bool.noConfusion (show true = false from h)⟩
            refine ⟨[.cls 1000000000 999000000 ⟨70, 73, 5, [(n0, b0, s0), (n1, b1, s1), (k, b2, s2)], room, left, true, nb⟩ [999000001, 999000002, 999000003] [.own 999000000, .own 999000001, .own 999000002]], ?_⟩
            refine ⟨rfl, _, rfl, ⟨rfl, rfl, (fun h => by cases h), ⟨rfl, rfl, (fun h => by cases h), ⟨rfl, rfl, (fun h => by cases h), trivial⟩⟩⟩, by kernel_rfl, hnb, ?_⟩
            refine ⟨1, rfl, ?_⟩
            exact hK
          | false =>
            refine ⟨fun h => Bool.noConfusion (show false = true from h), fun _ => ?_⟩
            refine ⟨fun h => Bool.noConfusion (show false = true from h), fun _ => ?_⟩
            have hbl : ((b2.map (AV.int .u8)).length : Int) = b2.length := by rw [List.length_map]
            refine ⟨fun hc => ?_, fun hc => ?_⟩
            · have hc : m < 0 := of_decide_eq_true hc
              refine ⟨fun _ => ?_, fun h => Bool.noConfusion (show true = false from h)⟩
              have hA : cutD ⟨[(n0, b0, s0), (n1, b1, s1), (k, b2, s2)], room, left, false⟩ k m = (13, ⟨[(n0, b0, s0), (n1, b1, s1), (k, b2, s2)], room, left, false⟩) := by simp [cutD, fget, h0, h1, hc]
              rw [hA] at hK
              clear hA
              refine ⟨[.cls 1000000000 999000000 ⟨70, 73, 5, [(n0, b0, s0), (n1, b1, s1), (k, b2, s2)], room, left, false, nb⟩ [999000001, 999000002, 999000003] [.own 999000000, .own 999000001, .own 999000002]], ?_⟩
              refine ⟨rfl, _, rfl, ⟨rfl, rfl, (fun h => by cases h), ⟨rfl, rfl, (fun h => by cases h), ⟨rfl, rfl, (fun h => by cases h), trivial⟩⟩⟩, by kernel_rfl, hnb, ?_⟩
              refine ⟨1, rfl, ?_⟩
              exact hK
            · have hc : ¬ m < 0 := of_decide_eq_false hc
              have hm0 : 0 ≤ m := by omega
              refine ⟨fun hd2 => ?_, fun hd2 => ?_⟩
              · have hd2 : m > ((b2.map (AV.int .u8)).length : Nat) := of_decide_eq_true hd2
                rw [hbl] at hd2
                have hA : cutD ⟨[(n0, b0, s0), (n1, b1, s1), (k, b2, s2)], room, left, false⟩ k m = (13, ⟨[(n0, b0, s0), (n1, b1, s1), (k, b2, s2)], room, left, false⟩) := by simp [cutD, fget, h0, h1, hd2]
                rw [hA] at hK
                clear hA
                refine ⟨[.cls 1000000000 999000000 ⟨70, 73, 5, [(n0, b0, s0), (n1, b1, s1), (k, b2, s2)], room, left, false, nb⟩ [999000001, 999000002, 999000003] [.own 999000000, .own 999000001, .own 999000002]], ?_⟩
                refine ⟨rfl, _, rfl, ⟨rfl, rfl, (fun h => by cases h), ⟨rfl, rfl, (fun h => by cases h), ⟨rfl, rfl, (fun h => by cases h), trivial⟩⟩⟩, by kernel_rfl, hnb, ?_⟩
                refine ⟨1, rfl, ?_⟩
                exact hK
              · have hd2 : ¬ m > ((b2.map (AV.int .u8)).length : Nat) := of_decide_eq_false hd2
                rw [hbl] at hd2
                have hno : ¬ (m < 0 ∨ m > (b2.length : Int)) := by omega
                refine ⟨[1000000000, 999000000, 999000001, 999000002, 999000003], [999000000, 999000001, 999000002], [], 100000000, rfl, _, rfl, rfl, ⟨[(n0, b0, s0), (n1, b1, s1), (k, b2, s2)], room, left, false⟩, ⟨hd.l0, hd.l1⟩, .inr ⟨_, _, (by exact Nat.le_of_ble_eq_true rfl), rfl, rfl, ?_⟩⟩
                refine ⟨fun hw => ?_, fun hw => ?_⟩
                · have hw : Dk.wk ⟨[(n0, b0, s0), (n1, b1, s1), (k, b2, s2)], room, left, false⟩ = false := by simpa using hw
                  have hA : cutD ⟨[(n0, b0, s0), (n1, b1, s1), (k, b2, s2)], room, left, false⟩ k m = (12, ⟨[(n0, b0, s0), (n1, b1, s1), (k, b2, s2)], room, Dk.lf ⟨[(n0, b0, s0), (n1, b1, s1), (k, b2, s2)], room, left, false⟩, Dk.st ⟨[(n0, b0, s0), (n1, b1, s1), (k, b2, s2)], room, left, false⟩⟩) := by simp [cutD, fget, h0, h1, worksD, hw, hno]
                  rw [hA] at hK
                  clear hA
                  refine ⟨[.cls 1000000000 999000000 ⟨70, 73, 5, [(n0, b0, s0), (n1, b1, s1), (k, b2, s2)], room, Dk.lf ⟨[(n0, b0, s0), (n1, b1, s1), (k, b2, s2)], room, left, false⟩, Dk.st ⟨[(n0, b0, s0), (n1, b1, s1), (k, b2, s2)], room, left, false⟩, nb⟩ [999000001, 999000002, 999000003] [.own 100000000, .own 100000001, .own 100000002]], ?_⟩
                  refine ⟨rfl, _, rfl, ⟨rfl, rfl, (fun h => by cases h), ⟨rfl, rfl, (fun h => by cases h), ⟨rfl, rfl, (fun h => by cases h), trivial⟩⟩⟩, by kernel_rfl, hnb, ?_⟩
                  refine ⟨1, rfl, ?_⟩
                  exact hK
                · have hw : Dk.wk ⟨[(n0, b0, s0), (n1, b1, s1), (k, b2, s2)], room, left, false⟩ = true := by simpa using hw
                  have hA : cutD ⟨[(n0, b0, s0), (n1, b1, s1), (k, b2, s2)], room, left, false⟩ k m = (0, ⟨[(n0, b0, s0), (n1, b1, s1), (k, b2.take m.toNat, m)], room, Dk.lf ⟨[(n0, b0, s0), (n1, b1, s1), (k, b2, s2)], room, left, false⟩, Dk.st ⟨[(n0, b0, s0), (n1, b1, s1), (k, b2, s2)], room, left, false⟩⟩) := by simp [cutD, fget, h0, h1, fset, hw, hno]
                  rw [hA] at hK
                  clear hA
                  refine ⟨hm0, ?_⟩
                  refine ⟨Nat.zero_le _, (show m.toNat ≤ (b2.map (AV.int .u8)).length by rw [List.length_map]; omega), ?_⟩
                  refine ⟨[.cls 1000000000 999000000 ⟨70, 73, 5, [(n0, b0, s0), (n1, b1, s1), (k, b2.take m.toNat, m)], room, Dk.lf ⟨[(n0, b0, s0), (n1, b1, s1), (k, b2, s2)], room, left, false⟩, Dk.st ⟨[(n0, b0, s0), (n1, b1, s1), (k, b2, s2)], room, left, false⟩, nb⟩ [999000001, 999000002, 999000003] [.own 100000000, .own 100000001, .own 100000002]], ?_⟩
                  refine ⟨rfl, _, rfl, ⟨rfl, rfl, (fun h => by cases h), ⟨rfl, rfl, (fun h => by cases h), ⟨rfl, cut_box, (fun h => by cases h), trivial⟩⟩⟩, by kernel_rfl, hnb, ?_⟩
                  refine ⟨1, rfl, ?_⟩
                  exact hK
        · refine ⟨none, (mfind_miss h0).trans ((mfind_miss h1).trans ((mfind_miss h2).trans mfind_nil)), ?_⟩
          cases stop with
          | true =>
            have hA : cutD ⟨[(n0, b0, s0), (n1, b1, s1), (n2, b2, s2)], room, left, true⟩ k m = (12, ⟨[(n0, b0, s0), (n1, b1, s1), (n2, b2, s2)], room, left, true⟩) := by simp [cutD]
            rw [hA] at hK
            clear hA
            refine ⟨fun _ => ?_, fun h => Bool.noConfusion (show true = false from h)⟩
            refine ⟨[.cls 1000000000 999000000 ⟨70, 73, 5, [(n0, b0, s0), (n1, b1, s1), (n2, b2, s2)], room, left, true, nb⟩ [999000001, 999000002, 999000003] [.own 999000000, .own 999000001, .own 999000002]], ?_⟩
            refine ⟨rfl, _, rfl, ⟨rfl, rfl, (fun h => by cases h), ⟨rfl, rfl, (fun h => by cases h), ⟨rfl, rfl, (fun h => by cases h), trivial⟩⟩⟩, by kernel_rfl, hnb, ?_⟩
            refine ⟨1, rfl, ?_⟩
            exact hK
          | false =>
            refine ⟨fun h => Bool.noConfusion (show false = true from h), fun _ => ?_⟩
            have hA : cutD ⟨[(n0, b0, s0), (n1, b1, s1), (n2, b2, s2)], room, left, false⟩ k m = (2, ⟨[(n0, b0, s0), (n1, b1, s1), (n2, b2, s2)], room, left, false⟩) := by simp [cutD, fget, h0, h1, h2]
            rw [hA] at hK
            clear hA
            refine ⟨fun _ => ?_, fun h => Bool.noConfusion (show true = false from h)⟩
            refine ⟨[.cls 1000000000 999000000 ⟨70, 73, 5, [(n0, b0, s0), (n1, b1, s1), (n2, b2, s2)], room, left, false, nb⟩ [999000001, 999000002, 999000003] [.own 999000000, .own 999000001, .own 999000002]], ?_⟩
            refine ⟨rfl, _, rfl, ⟨rfl, rfl, (fun h => by cases h), ⟨rfl, rfl, (fun h => by cases h), ⟨rfl, rfl, (fun h => by cases h), trivial⟩⟩⟩, by kernel_rfl, hnb, ?_⟩
            refine ⟨1, rfl, ?_⟩
            exact hK
end Go.Proofs.YtbpcofnhndgoeaaDoor.A
