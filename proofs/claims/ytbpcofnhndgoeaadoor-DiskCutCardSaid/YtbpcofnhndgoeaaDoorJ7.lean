/- hawalalaw05: DiskRename, DiskCut. -/
import Derived.Test.YtbpcofnhndgoeaaDoorJ6
import Derived.Test.YtbpcofnhndgoeaaDoorGD
namespace Go.Proofs.YtbpcofnhndgoeaaDoor.A
open Go Q
def RA5 : Contract
  | 10 => awake5C
  | 17 => numberC
  | _ => fun _ _ _ => False
theorem RA5_ok : CallOk Tryd.prog tab RA5 := by
  intro f args bs K h
  unfold RA5 at h
  split at h
  · exact ⟨_, h, awake5_ok⟩
  · exact ⟨_, h, number_ok⟩
  · exact h.elim
def RA5_E (pl : Nat → Plan) : En := ⟨tab, RA5, fun _ => none, 0, pl⟩
theorem RA5_J (pl : Nat → Plan) : JOk Tryd.prog (RA5_E pl).T (RA5_E pl).J := fun _ _ h => by cases h
noncomputable def L5_E (pl : Nat → Plan) : En := ⟨tab, RA5, JD, 0, pl⟩
theorem L5_C (pl : Nat → Plan) : CallOk Tryd.prog (L5_E pl).T (L5_E pl).R := RA5_ok
theorem min500 (l : List Int) : ∃ h : Nat, h = (if (500 : Int) < (((l.map (AV.int .u8)).length : Nat) : Int) then (500 : Int) else (((l.map (AV.int .u8)).length : Nat) : Int)).toNat ∧ h ≤ 500 ∧ h ≤ (l.map (AV.int .u8)).length ∧ 0 ≤ (if (500 : Int) < (((l.map (AV.int .u8)).length : Nat) : Int) then (500 : Int) else (((l.map (AV.int .u8)).length : Nat) : Int)) := by
  refine ⟨_, rfl, ?_, ?_, ?_⟩ <;> split <;> omega
theorem tmod3 {n : Int} (h0 : 0 ≤ n) (_h1 : n < 256) : IntKind.i64.wrap (n.tmod 3) = n.tmod 3 ∧ 0 ≤ n.tmod 3 ∧ n.tmod 3 ≤ 2 := by
  have := Int.tmod_nonneg 3 h0
  have := Int.tmod_lt_of_pos n (show (0 : Int) < 3 by decide)
  exact ⟨wrap_of (by omega) (by omega), by omega, by omega⟩
theorem app0 {r k : Int} {b : List Int} (h : (b.length : Int) ≤ r) : appendD ⟨[], r, -1, false⟩ k b = (0, ⟨[(k, b, 0)], r, -1, false⟩) := by
  unfold appendD
  rw [if_neg (by simp), if_neg (by simp [Dk.used, usedF]; omega)]
  simp [fget, fset, Dk.wk, Dk.lf, Dk.st]
theorem app1 {r k n s : Int} {b c : List Int} (hk : ¬ k = n) (h : (c.length : Int) + b.length ≤ r) : appendD ⟨[(n, c, s)], r, -1, false⟩ k b = (0, ⟨[(n, c, s), (k, b, 0)], r, -1, false⟩) := by
  unfold appendD
  rw [if_neg (by simp), if_neg (by simp [Dk.used, usedF]; omega)]
  simp [fget, fset, Dk.wk, Dk.lf, Dk.st, hk]
theorem app2 {r k s : Int} {b c : List Int} (h : (c.length : Int) + b.length ≤ r) : appendD ⟨[(k, c, s)], r, -1, false⟩ k b = (0, ⟨[(k, c ++ b, s)], r, -1, false⟩) := by
  unfold appendD
  rw [if_neg (by simp), if_neg (by simp [Dk.used, usedF]; omega)]
  simp [fget, fset, Dk.wk, Dk.lf, Dk.st]
theorem syn1 {r k s : Int} {b : List Int} : syncD ⟨[(k, b, s)], r, -1, false⟩ k = (0, ⟨[(k, b, b.length)], r, -1, false⟩) := by
  simp [syncD, fget, fset, Dk.wk, Dk.lf, Dk.st]
theorem syn2 {r k n s t : Int} {b c : List Int} (hk : ¬ k = n) : syncD ⟨[(n, c, t), (k, b, s)], r, -1, false⟩ k = (0, ⟨[(n, c, t), (k, b, b.length)], r, -1, false⟩) := by
  simp [syncD, fget, fset, Dk.wk, Dk.lf, Dk.st, hk]
theorem ren2 {r k n s t : Int} {b c : List Int} (hk : ¬ k = n) : renameD ⟨[(n, c, t), (k, b, s)], r, -1, false⟩ k n = (0, ⟨[(n, b, s)], r, -1, false⟩) := by
  simp [renameD, fget, fset, fdel, Dk.wk, Dk.lf, Dk.st, hk]
theorem ren1 {r k s : Int} {b : List Int} : renameD ⟨[(k, b, s)], r, -1, false⟩ k k = (0, ⟨[(k, b, s)], r, -1, false⟩) := by
  simp [renameD, fget, fset, fdel, Dk.wk, Dk.lf, Dk.st]
theorem ren0 {r k n m s : Int} {b : List Int} (hk : ¬ k = n) : renameD ⟨[(n, b, s)], r, -1, false⟩ k m = (2, ⟨[(n, b, s)], r, -1, false⟩) := by
  simp [renameD, fget, hk]
theorem rst1 {r k : Int} {b : List Int} : restartD ⟨[(k, b, b.length)], r, -1, false⟩ 0 = ⟨[(k, b, b.length)], r, -1, false⟩ := by
  simp [restartD, fcut, keptF]
theorem rd1 {r k s : Int} {b : List Int} {l : Int} {q : Bool} : readD ⟨[(k, b, s)], r, l, q⟩ k = (b, true) := by simp [readD, fget]
theorem rd0 {r k n s : Int} {b : List Int} {l : Int} {q : Bool} (hk : ¬ k = n) : readD ⟨[(n, b, s)], r, l, q⟩ k = ([], false) := by simp [readD, fget, hk]
def renL (args : List AV) (bs : List Box) (K : Kon) : Prop := bs = [] ∧ ∃ a b n m, args = [by8 a, by8 b, .int .u8 n, .int .u8 m] ∧ (0 ≤ n ∧ n < 256) ∧ (0 ≤ m ∧ m < 256) ∧ K (.bool true) []
set_option maxRecDepth 200000 in
set_option maxHeartbeats 6400000 in
theorem ren_ok : FnOk Tryd.prog tab 3 renL := by
  refine fn_ok (E := L5_E pl3) tab_is (L5_C _) JD_ok Tryd.func3 rfl rfl (by kernel_rfl) ?_
  rintro args bs K ⟨rfl, a, b, n, m, rfl, ⟨hn0, hn1⟩, ⟨hm0, hm1⟩, hK⟩
  refine ⟨rfl, ?_⟩
  refine ⟨rfl, rfl, ?_⟩
  refine ⟨fun h => Bool.noConfusion (show false = true from h), fun _ => ?_⟩
  obtain ⟨ha, hae, ha1, ha2, ha3⟩ := min500 a
  obtain ⟨hb, hbe, hb1, hb2, hb3⟩ := min500 b
  rw [hae] at ha1 ha2
  rw [hbe] at hb1 hb2
  obtain ⟨hx, hx0, hx2⟩ := tmod3 hn0 hn1
  obtain ⟨hy, hy0, hy2⟩ := tmod3 hm0 hm1
  obtain ⟨a', ha'e⟩ : ∃ a', a' = a.take (if (500 : Int) < (((a.map (AV.int .u8)).length : Nat) : Int) then (500 : Int) else (((a.map (AV.int .u8)).length : Nat) : Int)).toNat := ⟨_, rfl⟩
  obtain ⟨b', hb'e⟩ : ∃ b', b' = b.take (if (500 : Int) < (((b.map (AV.int .u8)).length : Nat) : Int) then (500 : Int) else (((b.map (AV.int .u8)).length : Nat) : Int)).toNat := ⟨_, rfl⟩
  have hal : a'.length ≤ 500 := by rw [ha'e, List.length_take]; omega
  have hbl : b'.length ≤ 500 := by rw [hb'e, List.length_take]; omega
  refine ⟨?_, ?_⟩
  · refine ⟨ha3, Nat.zero_le _, ha2, ?_⟩
    refine ⟨hb3, Nat.zero_le _, hb2, ?_⟩
    refine ⟨[], [], [500], 0, rfl, _, rfl, 262144, 2000000000, Nat.le_refl _, rfl, rfl, rfl, ?_⟩
    refine ⟨(by decide : (3 : Int) ≠ 0), ?_⟩
    refine ⟨(by decide : (3 : Int) ≠ 0), ?_⟩
    refine ⟨[500], [], [], 0, rfl, _, rfl, [.ptr 1000000000 0, .int .i64 (IntKind.i64.wrap (m.tmod 3)), by8 b'], ⟨.inl rfl, .inl rfl, .inl (by rw [hb'e]; exact cut8), trivial⟩, ⟨[], 262144, -1, false⟩, 2000000000, (IntKind.i64.wrap (m.tmod 3)), b', 0, ⟨[((IntKind.i64.wrap (m.tmod 3)), b', 0)], 262144, -1, false⟩, dok0 (by decide) (by decide), Nat.le_refl _, (by omega), app0 (by omega), (by simp), rfl, rfl, rfl, ?_⟩
    refine ⟨fun h => Bool.noConfusion (show false = true from h), fun _ => ?_⟩
    refine ⟨[500], [], [], 0, rfl, _, rfl, ⟨[((IntKind.i64.wrap (m.tmod 3)), b', 0)], 262144, -1, false⟩, 2000000000, (IntKind.i64.wrap (m.tmod 3)), 0, ⟨[((IntKind.i64.wrap (m.tmod 3)), b', b'.length)], 262144, -1, false⟩, dok1 (by decide) (by decide) (by omega) (by omega), Nat.le_refl _, syn1, rfl, rfl, rfl, ?_⟩
    refine ⟨fun h => Bool.noConfusion (show false = true from h), fun _ => ?_⟩
    refine ⟨fun hxy => ?_, fun hxy => ?_⟩
    · have hne : ¬ (IntKind.i64.wrap (n.tmod 3)) = (IntKind.i64.wrap (m.tmod 3)) := by simpa using hxy
      refine ⟨[500], [], [], 0, rfl, _, rfl, [.ptr 1000000000 0, .int .i64 (IntKind.i64.wrap (n.tmod 3)), by8 a'], ⟨.inl rfl, .inl rfl, .inl (by rw [ha'e]; exact cut8), trivial⟩, ⟨[((IntKind.i64.wrap (m.tmod 3)), b', b'.length)], 262144, -1, false⟩, 2000000000, (IntKind.i64.wrap (n.tmod 3)), a', 0, ⟨[((IntKind.i64.wrap (m.tmod 3)), b', b'.length), ((IntKind.i64.wrap (n.tmod 3)), a', 0)], 262144, -1, false⟩, dok1 (by decide) (by decide) (by omega) (by omega), Nat.le_refl _, (by omega), app1 hne (by omega), (by simp), rfl, rfl, rfl, ?_⟩
      refine ⟨fun h => Bool.noConfusion (show false = true from h), fun _ => ?_⟩
      refine ⟨[500], [], [], 0, rfl, _, rfl, ⟨[((IntKind.i64.wrap (m.tmod 3)), b', b'.length), ((IntKind.i64.wrap (n.tmod 3)), a', 0)], 262144, -1, false⟩, 2000000000, (IntKind.i64.wrap (n.tmod 3)), 0, ⟨[((IntKind.i64.wrap (m.tmod 3)), b', b'.length), ((IntKind.i64.wrap (n.tmod 3)), a', a'.length)], 262144, -1, false⟩, dok2 (by decide) (by decide) (by omega) (by omega) (by omega), Nat.le_refl _, syn2 hne, rfl, rfl, rfl, ?_⟩
      refine ⟨fun h => Bool.noConfusion (show false = true from h), fun _ => ?_⟩
      refine ⟨a', (by rw [ha'e]; exact cut8l), ?_⟩
      refine ⟨fun h => absurd h (by simpa using hne), fun _ => ?_⟩
      refine ⟨[500], [], [], 0, rfl, _, rfl, ⟨[((IntKind.i64.wrap (m.tmod 3)), b', b'.length), ((IntKind.i64.wrap (n.tmod 3)), a', a'.length)], 262144, -1, false⟩, 2000000000, (IntKind.i64.wrap (n.tmod 3)), (IntKind.i64.wrap (m.tmod 3)), 0, ⟨[((IntKind.i64.wrap (m.tmod 3)), a', a'.length)], 262144, -1, false⟩, dok2 (by decide) (by decide) (by omega) (by omega) (by omega), Nat.le_refl _, ren2 hne, rfl, rfl, rfl, ?_⟩
      refine ⟨fun h => Bool.noConfusion (show false = true from h), fun _ => ?_⟩
      refine ⟨[500], [], [], 0, rfl, _, rfl, ⟨[((IntKind.i64.wrap (m.tmod 3)), a', a'.length)], 262144, -1, false⟩, 2000000000, 0, ⟨[((IntKind.i64.wrap (m.tmod 3)), a', a'.length)], 262144, -1, false⟩, dok1 (by decide) (by decide) (by omega) (by omega), Nat.le_refl _, rst1, rfl, rfl, rfl, ?_⟩
      refine ⟨[500], [], [], 0, rfl, _, rfl, ⟨[((IntKind.i64.wrap (m.tmod 3)), a', a'.length)], 262144, -1, false⟩, 2000000000, (IntKind.i64.wrap (m.tmod 3)), a', true, dok1 (by decide) (by decide) (by omega) (by omega), Nat.le_refl _, rd1, rfl, rfl, rfl, ?_⟩
      refine ⟨[500], [], [], 0, rfl, _, rfl, ⟨[((IntKind.i64.wrap (m.tmod 3)), a', a'.length)], 262144, -1, false⟩, 2000000000, (IntKind.i64.wrap (n.tmod 3)), [], false, dok1 (by decide) (by decide) (by omega) (by omega), Nat.le_refl _, rd0 hne, rfl, rfl, rfl, ?_⟩
      refine ⟨fun _ => ?_, fun h => Bool.noConfusion (show true = false from h)⟩
      refine ⟨a', rfl, ?_⟩
      refine ⟨fun _ => ?_, fun h => absurd h (by rw [str_refl]; simp)⟩
      refine ⟨fun _ => ?_, fun h => absurd h (by simp [hne])⟩
      have h8 : ¬ (8 : Int) = (IntKind.i64.wrap (m.tmod 3)) := by omega
      refine ⟨[500], [], [], 0, rfl, _, rfl, ⟨[((IntKind.i64.wrap (m.tmod 3)), a', a'.length)], 262144, -1, false⟩, 2000000000, 8, 1, 2, ⟨[((IntKind.i64.wrap (m.tmod 3)), a', a'.length)], 262144, -1, false⟩, dok1 (by decide) (by decide) (by omega) (by omega), Nat.le_refl _, ren0 h8, rfl, rfl, rfl, ?_⟩
      refine ⟨rfl, .inr ⟨2, rfl, ?_⟩⟩
      exact hK
    · have hxy' : (IntKind.i64.wrap (n.tmod 3)) = (IntKind.i64.wrap (m.tmod 3)) := by simpa using hxy
      refine ⟨fun h => Bool.noConfusion (show false = true from h), fun _ => ?_⟩
      refine ⟨a', (by rw [ha'e]; exact cut8l), ?_⟩
      refine ⟨fun _ => ?_, fun h => absurd h (by simpa using hxy')⟩
      refine ⟨b', (by rw [hb'e]; exact cut8l), ?_⟩
      refine ⟨[500], [], [], 0, rfl, _, rfl, ⟨[((IntKind.i64.wrap (m.tmod 3)), b', b'.length)], 262144, -1, false⟩, 2000000000, (IntKind.i64.wrap (n.tmod 3)), (IntKind.i64.wrap (m.tmod 3)), 0, ⟨[((IntKind.i64.wrap (m.tmod 3)), b', b'.length)], 262144, -1, false⟩, dok1 (by decide) (by decide) (by omega) (by omega), Nat.le_refl _, (by rw [hxy']; exact ren1), rfl, rfl, rfl, ?_⟩
      refine ⟨fun h => Bool.noConfusion (show false = true from h), fun _ => ?_⟩
      refine ⟨[500], [], [], 0, rfl, _, rfl, ⟨[((IntKind.i64.wrap (m.tmod 3)), b', b'.length)], 262144, -1, false⟩, 2000000000, 0, ⟨[((IntKind.i64.wrap (m.tmod 3)), b', b'.length)], 262144, -1, false⟩, dok1 (by decide) (by decide) (by omega) (by omega), Nat.le_refl _, rst1, rfl, rfl, rfl, ?_⟩
      refine ⟨[500], [], [], 0, rfl, _, rfl, ⟨[((IntKind.i64.wrap (m.tmod 3)), b', b'.length)], 262144, -1, false⟩, 2000000000, (IntKind.i64.wrap (m.tmod 3)), b', true, dok1 (by decide) (by decide) (by omega) (by omega), Nat.le_refl _, rd1, rfl, rfl, rfl, ?_⟩
      refine ⟨[500], [], [], 0, rfl, _, rfl, ⟨[((IntKind.i64.wrap (m.tmod 3)), b', b'.length)], 262144, -1, false⟩, 2000000000, (IntKind.i64.wrap (n.tmod 3)), b', true, dok1 (by decide) (by decide) (by omega) (by omega), Nat.le_refl _, (by rw [hxy']; exact rd1), rfl, rfl, rfl, ?_⟩
      refine ⟨fun _ => ?_, fun h => Bool.noConfusion (show true = false from h)⟩
      refine ⟨b', rfl, ?_⟩
      refine ⟨fun _ => ?_, fun h => absurd h (by rw [str_refl]; simp)⟩
      refine ⟨fun _ => ?_, fun h => absurd h (by simp [hxy'])⟩
      have h8 : ¬ (8 : Int) = (IntKind.i64.wrap (m.tmod 3)) := by omega
      refine ⟨[500], [], [], 0, rfl, _, rfl, ⟨[((IntKind.i64.wrap (m.tmod 3)), b', b'.length)], 262144, -1, false⟩, 2000000000, 8, 1, 2, ⟨[((IntKind.i64.wrap (m.tmod 3)), b', b'.length)], 262144, -1, false⟩, dok1 (by decide) (by decide) (by omega) (by omega), Nat.le_refl _, ren0 h8, rfl, rfl, rfl, ?_⟩
      refine ⟨rfl, .inr ⟨2, rfl, ?_⟩⟩
      exact hK
  · refine ⟨hb3, Nat.zero_le _, hb2, ?_⟩
    refine ⟨ha3, Nat.zero_le _, ha2, ?_⟩
    refine ⟨[], [], [500], 0, rfl, _, rfl, 262144, 2000000000, Nat.le_refl _, rfl, rfl, rfl, ?_⟩
    refine ⟨(by decide : (3 : Int) ≠ 0), ?_⟩
    refine ⟨(by decide : (3 : Int) ≠ 0), ?_⟩
    refine ⟨[500], [], [], 0, rfl, _, rfl, [.ptr 1000000000 0, .int .i64 (IntKind.i64.wrap (m.tmod 3)), by8 b'], ⟨.inl rfl, .inl rfl, .inl (by rw [hb'e]; exact cut8), trivial⟩, ⟨[], 262144, -1, false⟩, 2000000000, (IntKind.i64.wrap (m.tmod 3)), b', 0, ⟨[((IntKind.i64.wrap (m.tmod 3)), b', 0)], 262144, -1, false⟩, dok0 (by decide) (by decide), Nat.le_refl _, (by omega), app0 (by omega), (by simp), rfl, rfl, rfl, ?_⟩
    refine ⟨fun h => Bool.noConfusion (show false = true from h), fun _ => ?_⟩
    refine ⟨[500], [], [], 0, rfl, _, rfl, ⟨[((IntKind.i64.wrap (m.tmod 3)), b', 0)], 262144, -1, false⟩, 2000000000, (IntKind.i64.wrap (m.tmod 3)), 0, ⟨[((IntKind.i64.wrap (m.tmod 3)), b', b'.length)], 262144, -1, false⟩, dok1 (by decide) (by decide) (by omega) (by omega), Nat.le_refl _, syn1, rfl, rfl, rfl, ?_⟩
    refine ⟨fun h => Bool.noConfusion (show false = true from h), fun _ => ?_⟩
    refine ⟨fun hxy => ?_, fun hxy => ?_⟩
    · have hne : ¬ (IntKind.i64.wrap (n.tmod 3)) = (IntKind.i64.wrap (m.tmod 3)) := by simpa using hxy
      refine ⟨[500], [], [], 0, rfl, _, rfl, [.ptr 1000000000 0, .int .i64 (IntKind.i64.wrap (n.tmod 3)), by8 a'], ⟨.inl rfl, .inl rfl, .inl (by rw [ha'e]; exact cut8), trivial⟩, ⟨[((IntKind.i64.wrap (m.tmod 3)), b', b'.length)], 262144, -1, false⟩, 2000000000, (IntKind.i64.wrap (n.tmod 3)), a', 0, ⟨[((IntKind.i64.wrap (m.tmod 3)), b', b'.length), ((IntKind.i64.wrap (n.tmod 3)), a', 0)], 262144, -1, false⟩, dok1 (by decide) (by decide) (by omega) (by omega), Nat.le_refl _, (by omega), app1 hne (by omega), (by simp), rfl, rfl, rfl, ?_⟩
      refine ⟨fun h => Bool.noConfusion (show false = true from h), fun _ => ?_⟩
      refine ⟨[500], [], [], 0, rfl, _, rfl, ⟨[((IntKind.i64.wrap (m.tmod 3)), b', b'.length), ((IntKind.i64.wrap (n.tmod 3)), a', 0)], 262144, -1, false⟩, 2000000000, (IntKind.i64.wrap (n.tmod 3)), 0, ⟨[((IntKind.i64.wrap (m.tmod 3)), b', b'.length), ((IntKind.i64.wrap (n.tmod 3)), a', a'.length)], 262144, -1, false⟩, dok2 (by decide) (by decide) (by omega) (by omega) (by omega), Nat.le_refl _, syn2 hne, rfl, rfl, rfl, ?_⟩
      refine ⟨fun h => Bool.noConfusion (show false = true from h), fun _ => ?_⟩
      refine ⟨a', (by rw [ha'e]; exact cut8l), ?_⟩
      refine ⟨fun h => absurd h (by simpa using hne), fun _ => ?_⟩
      refine ⟨[500], [], [], 0, rfl, _, rfl, ⟨[((IntKind.i64.wrap (m.tmod 3)), b', b'.length), ((IntKind.i64.wrap (n.tmod 3)), a', a'.length)], 262144, -1, false⟩, 2000000000, (IntKind.i64.wrap (n.tmod 3)), (IntKind.i64.wrap (m.tmod 3)), 0, ⟨[((IntKind.i64.wrap (m.tmod 3)), a', a'.length)], 262144, -1, false⟩, dok2 (by decide) (by decide) (by omega) (by omega) (by omega), Nat.le_refl _, ren2 hne, rfl, rfl, rfl, ?_⟩
      refine ⟨fun h => Bool.noConfusion (show false = true from h), fun _ => ?_⟩
      refine ⟨[500], [], [], 0, rfl, _, rfl, ⟨[((IntKind.i64.wrap (m.tmod 3)), a', a'.length)], 262144, -1, false⟩, 2000000000, 0, ⟨[((IntKind.i64.wrap (m.tmod 3)), a', a'.length)], 262144, -1, false⟩, dok1 (by decide) (by decide) (by omega) (by omega), Nat.le_refl _, rst1, rfl, rfl, rfl, ?_⟩
      refine ⟨[500], [], [], 0, rfl, _, rfl, ⟨[((IntKind.i64.wrap (m.tmod 3)), a', a'.length)], 262144, -1, false⟩, 2000000000, (IntKind.i64.wrap (m.tmod 3)), a', true, dok1 (by decide) (by decide) (by omega) (by omega), Nat.le_refl _, rd1, rfl, rfl, rfl, ?_⟩
      refine ⟨[500], [], [], 0, rfl, _, rfl, ⟨[((IntKind.i64.wrap (m.tmod 3)), a', a'.length)], 262144, -1, false⟩, 2000000000, (IntKind.i64.wrap (n.tmod 3)), [], false, dok1 (by decide) (by decide) (by omega) (by omega), Nat.le_refl _, rd0 hne, rfl, rfl, rfl, ?_⟩
      refine ⟨fun _ => ?_, fun h => Bool.noConfusion (show true = false from h)⟩
      refine ⟨a', rfl, ?_⟩
      refine ⟨fun _ => ?_, fun h => absurd h (by rw [str_refl]; simp)⟩
      refine ⟨fun _ => ?_, fun h => absurd h (by simp [hne])⟩
      have h8 : ¬ (8 : Int) = (IntKind.i64.wrap (m.tmod 3)) := by omega
      refine ⟨[500], [], [], 0, rfl, _, rfl, ⟨[((IntKind.i64.wrap (m.tmod 3)), a', a'.length)], 262144, -1, false⟩, 2000000000, 8, 1, 2, ⟨[((IntKind.i64.wrap (m.tmod 3)), a', a'.length)], 262144, -1, false⟩, dok1 (by decide) (by decide) (by omega) (by omega), Nat.le_refl _, ren0 h8, rfl, rfl, rfl, ?_⟩
      refine ⟨rfl, .inr ⟨2, rfl, ?_⟩⟩
      exact hK
    · have hxy' : (IntKind.i64.wrap (n.tmod 3)) = (IntKind.i64.wrap (m.tmod 3)) := by simpa using hxy
      refine ⟨fun h => Bool.noConfusion (show false = true from h), fun _ => ?_⟩
      refine ⟨a', (by rw [ha'e]; exact cut8l), ?_⟩
      refine ⟨fun _ => ?_, fun h => absurd h (by simpa using hxy')⟩
      refine ⟨b', (by rw [hb'e]; exact cut8l), ?_⟩
      refine ⟨[500], [], [], 0, rfl, _, rfl, ⟨[((IntKind.i64.wrap (m.tmod 3)), b', b'.length)], 262144, -1, false⟩, 2000000000, (IntKind.i64.wrap (n.tmod 3)), (IntKind.i64.wrap (m.tmod 3)), 0, ⟨[((IntKind.i64.wrap (m.tmod 3)), b', b'.length)], 262144, -1, false⟩, dok1 (by decide) (by decide) (by omega) (by omega), Nat.le_refl _, (by rw [hxy']; exact ren1), rfl, rfl, rfl, ?_⟩
      refine ⟨fun h => Bool.noConfusion (show false = true from h), fun _ => ?_⟩
      refine ⟨[500], [], [], 0, rfl, _, rfl, ⟨[((IntKind.i64.wrap (m.tmod 3)), b', b'.length)], 262144, -1, false⟩, 2000000000, 0, ⟨[((IntKind.i64.wrap (m.tmod 3)), b', b'.length)], 262144, -1, false⟩, dok1 (by decide) (by decide) (by omega) (by omega), Nat.le_refl _, rst1, rfl, rfl, rfl, ?_⟩
      refine ⟨[500], [], [], 0, rfl, _, rfl, ⟨[((IntKind.i64.wrap (m.tmod 3)), b', b'.length)], 262144, -1, false⟩, 2000000000, (IntKind.i64.wrap (m.tmod 3)), b', true, dok1 (by decide) (by decide) (by omega) (by omega), Nat.le_refl _, rd1, rfl, rfl, rfl, ?_⟩
      refine ⟨[500], [], [], 0, rfl, _, rfl, ⟨[((IntKind.i64.wrap (m.tmod 3)), b', b'.length)], 262144, -1, false⟩, 2000000000, (IntKind.i64.wrap (n.tmod 3)), b', true, dok1 (by decide) (by decide) (by omega) (by omega), Nat.le_refl _, (by rw [hxy']; exact rd1), rfl, rfl, rfl, ?_⟩
      refine ⟨fun _ => ?_, fun h => Bool.noConfusion (show true = false from h)⟩
      refine ⟨b', rfl, ?_⟩
      refine ⟨fun _ => ?_, fun h => absurd h (by rw [str_refl]; simp)⟩
      refine ⟨fun _ => ?_, fun h => absurd h (by simp [hxy'])⟩
      have h8 : ¬ (8 : Int) = (IntKind.i64.wrap (m.tmod 3)) := by omega
      refine ⟨[500], [], [], 0, rfl, _, rfl, ⟨[((IntKind.i64.wrap (m.tmod 3)), b', b'.length)], 262144, -1, false⟩, 2000000000, 8, 1, 2, ⟨[((IntKind.i64.wrap (m.tmod 3)), b', b'.length)], 262144, -1, false⟩, dok1 (by decide) (by decide) (by omega) (by omega), Nat.le_refl _, ren0 h8, rfl, rfl, rfl, ?_⟩
      refine ⟨rfl, .inr ⟨2, rfl, ?_⟩⟩
      exact hK
theorem cut0 {r k n m s : Int} {b : List Int} (hk : ¬ k = n) : cutD ⟨[(n, b, s)], r, -1, false⟩ k m = (2, ⟨[(n, b, s)], r, -1, false⟩) := by simp [cutD, fget, hk]
theorem cut1 {r k s m : Int} {b : List Int} (h : m < 0 ∨ m > b.length) : cutD ⟨[(k, b, s)], r, -1, false⟩ k m = (13, ⟨[(k, b, s)], r, -1, false⟩) := by
  unfold cutD
  rw [if_neg (by simp)]
  simp only [fget, if_true]
  rw [if_pos h]
theorem cut2 {r k s m : Int} {b : List Int} (h0 : 0 ≤ m) (h1 : m ≤ b.length) : cutD ⟨[(k, b, s)], r, -1, false⟩ k m = (0, ⟨[(k, b.take m.toNat, ((b.take m.toNat).length : Int))], r, -1, false⟩) := by
  unfold cutD
  rw [if_neg (by simp)]
  simp only [fget, if_true]
  rw [if_neg (by omega)]
  have : ((b.take m.toNat).length : Int) = m := by rw [List.length_take]; omega
  rw [this]
  simp [fset, Dk.wk, Dk.lf, Dk.st]
theorem strOf_go (l : List Int) (r : ByteArray) : (l.foldl (fun r n => r.push (UInt8.ofNat n.toNat)) r).data.toList = r.data.toList ++ l.map (fun n => UInt8.ofNat n.toNat) := by
  induction l generalizing r with
  | nil => simp
  | cons x l ih => rw [List.foldl_cons, ih]; simp [ByteArray.push]
theorem strOf_list (l : List Int) : (strOf l).data.toList = l.map (fun n => UInt8.ofNat n.toNat) := by
  rw [strOf, strOf_go]; rfl
theorem strOf_size (l : List Int) : (strOf l).size = l.length := by
  have : (strOf l).size = (strOf l).data.toList.length := Array.length_toList.symm
  rw [this, strOf_list, List.length_map]
theorem bytes_ext {a b : ByteArray} (h : a.data.toList = b.data.toList) : a = b := by
  cases a; cases b
  congr 1
  exact Array.toList_inj.1 h
theorem strOf_append (l k : List Int) : strOf l ++ strOf k = strOf (l ++ k) := by
  refine bytes_ext ?_
  rw [strOf_list, List.map_append, ← strOf_list, ← strOf_list]
  simp [ByteArray.data_append]
def cutL (args : List AV) (bs : List Box) (K : Kon) : Prop := bs = [] ∧ ∃ b n c, args = [by8 b, .int .i8 n, by8 c] ∧ (-128 ≤ n ∧ n < 128) ∧ K (.bool true) []
set_option maxRecDepth 200000 in
set_option maxHeartbeats 16000000 in
theorem cutL_ok : FnOk Tryd.prog tab 4 cutL := by
  refine fn_ok (E := L5_E pl4) tab_is (L5_C _) JD_ok Tryd.func4 rfl rfl (by kernel_rfl) ?_
  rintro args bs K ⟨rfl, b, n, c, rfl, ⟨hn0, hn1⟩, hK⟩
  refine ⟨rfl, ?_⟩
  refine ⟨rfl, rfl, ?_⟩
  refine ⟨fun h => Bool.noConfusion (show false = true from h), fun _ => ?_⟩
  have fin : ∀ q, q = true → K (.bool q) [] := fun q e => e ▸ hK
  have hw : IntKind.i64.wrap n = n := wrap_of (by omega) (by omega)
  obtain ⟨hb, hbe, hb1, hb2, hb3⟩ := min500 b
  obtain ⟨hc, hce, hc1, hc2, hc3⟩ := min500 c
  rw [hbe] at hb1 hb2
  rw [hce] at hc1 hc2
  obtain ⟨b', hb'e⟩ : ∃ b', b' = b.take (if (500 : Int) < (((b.map (AV.int .u8)).length : Nat) : Int) then (500 : Int) else (((b.map (AV.int .u8)).length : Nat) : Int)).toNat := ⟨_, rfl⟩
  obtain ⟨c', hc'e⟩ : ∃ c', c' = c.take (if (500 : Int) < (((c.map (AV.int .u8)).length : Nat) : Int) then (500 : Int) else (((c.map (AV.int .u8)).length : Nat) : Int)).toNat := ⟨_, rfl⟩
  have hbl : b'.length ≤ 500 := by rw [hb'e, List.length_take]; omega
  have hcl' : c'.length ≤ 500 := by rw [hc'e, List.length_take]; omega
  have hlen : (((((b.map (AV.int .u8)).take (if (500 : Int) < (((b.map (AV.int .u8)).length : Nat) : Int) then (500 : Int) else (((b.map (AV.int .u8)).length : Nat) : Int)).toNat).drop 0).length : Nat) : Int) = b'.length := by rw [cut8l, hb'e, List.length_map]
  refine ⟨?_, ?_⟩
  · refine ⟨hb3, Nat.zero_le _, hb2, ?_⟩
    refine ⟨hc3, Nat.zero_le _, hc2, ?_⟩
    refine ⟨[], [], [500], 0, rfl, _, rfl, 262144, 2000000000, Nat.le_refl _, rfl, rfl, rfl, ?_⟩
    refine ⟨[500], [], [], 0, rfl, _, rfl, [.ptr 1000000000 0, .int .i64 5, by8 b'], ⟨.inl rfl, .inl rfl, .inl (by rw [hb'e]; exact cut8), trivial⟩, ⟨[], 262144, -1, false⟩, 2000000000, 5, b', 0, ⟨[(5, b', 0)], 262144, -1, false⟩, dok0 (by decide) (by decide), Nat.le_refl _, (by omega), app0 (by omega), (by simp), rfl, rfl, rfl, ?_⟩
    refine ⟨fun h => Bool.noConfusion (show false = true from h), fun _ => ?_⟩
    by_cases hc : n < 0 ∨ n > b'.length
    · refine ⟨[500], [], [], 0, rfl, _, rfl, ⟨[(5, b', 0)], 262144, -1, false⟩, 2000000000, 5, (IntKind.i64.wrap n), 13, ⟨[(5, b', 0)], 262144, -1, false⟩, dok1 (by decide) (by decide) (by omega) (by omega), Nat.le_refl _, cut1 (by omega), rfl, rfl, rfl, ?_⟩
      refine ⟨fun hs => ?_, fun hs => ?_⟩
      · refine ⟨fun _ => ?_, fun h => Bool.noConfusion (show true = false from h)⟩
        refine ⟨[500], [], [], 0, rfl, _, rfl, ⟨[(5, b', 0)], 262144, -1, false⟩, 2000000000, 5, b', true, dok1 (by decide) (by decide) (by omega) (by omega), Nat.le_refl _, rd1, rfl, rfl, rfl, ?_⟩
        refine ⟨rfl, .inr ⟨13, rfl, ?_⟩⟩
        refine ⟨fun _ => ?_, fun h => Bool.noConfusion (show true = false from h)⟩
        refine ⟨b', rfl, ?_⟩
        refine ⟨b', (by rw [hb'e]; exact cut8l), ?_⟩
        exact fin _ (by rw [str_refl])
      · have hs : ¬ n < 0 := of_decide_eq_false hs
        refine ⟨fun _ => ?_, fun h => absurd (of_decide_eq_false h) (by rw [hlen]; omega)⟩
        refine ⟨[500], [], [], 0, rfl, _, rfl, ⟨[(5, b', 0)], 262144, -1, false⟩, 2000000000, 5, b', true, dok1 (by decide) (by decide) (by omega) (by omega), Nat.le_refl _, rd1, rfl, rfl, rfl, ?_⟩
        refine ⟨rfl, .inr ⟨13, rfl, ?_⟩⟩
        refine ⟨fun _ => ?_, fun h => Bool.noConfusion (show true = false from h)⟩
        refine ⟨b', rfl, ?_⟩
        refine ⟨b', (by rw [hb'e]; exact cut8l), ?_⟩
        exact fin _ (by rw [str_refl])
    · have hn0 : 0 ≤ n := by omega
      have hn2 : n ≤ b'.length := by omega
      have hll : (b'.take (IntKind.i64.wrap n).toNat).length = n.toNat := by rw [List.length_take]; omega
      refine ⟨[500], [], [], 0, rfl, _, rfl, ⟨[(5, b', 0)], 262144, -1, false⟩, 2000000000, 5, (IntKind.i64.wrap n), 0, ⟨[(5, (b'.take (IntKind.i64.wrap n).toNat), (b'.take (IntKind.i64.wrap n).toNat).length)], 262144, -1, false⟩, dok1 (by decide) (by decide) (by omega) (by omega), Nat.le_refl _, cut2 (by omega) (by omega), rfl, rfl, rfl, ?_⟩
      refine ⟨fun h => absurd (of_decide_eq_true h) (by omega), fun _ => ?_⟩
      refine ⟨fun h => absurd (of_decide_eq_true h) (by rw [hlen]; omega), fun _ => ?_⟩
      refine ⟨[500], [], [], 0, rfl, _, rfl, ⟨[(5, (b'.take (IntKind.i64.wrap n).toNat), (b'.take (IntKind.i64.wrap n).toNat).length)], 262144, -1, false⟩, 2000000000, 0, ⟨[(5, (b'.take (IntKind.i64.wrap n).toNat), (b'.take (IntKind.i64.wrap n).toNat).length)], 262144, -1, false⟩, dok1 (by decide) (by decide) (by omega) (by omega), Nat.le_refl _, rst1, rfl, rfl, rfl, ?_⟩
      refine ⟨[500], [], [], 0, rfl, _, rfl, ⟨[(5, (b'.take (IntKind.i64.wrap n).toNat), (b'.take (IntKind.i64.wrap n).toNat).length)], 262144, -1, false⟩, 2000000000, 5, (b'.take (IntKind.i64.wrap n).toNat), true, dok1 (by decide) (by decide) (by omega) (by omega), Nat.le_refl _, rd1, rfl, rfl, rfl, ?_⟩
      have hle : n.toNat ≤ (((b.map (AV.int .u8)).take (if (500 : Int) < (((b.map (AV.int .u8)).length : Nat) : Int) then (500 : Int) else (((b.map (AV.int .u8)).length : Nat) : Int)).toNat).drop 0).length := by omega
      have hcl : ((((b.map (AV.int .u8)).take (if (500 : Int) < (((b.map (AV.int .u8)).length : Nat) : Int) then (500 : Int) else (((b.map (AV.int .u8)).length : Nat) : Int)).toNat).drop 0).take n.toNat).drop 0 = (b'.take (IntKind.i64.wrap n).toNat).map (AV.int .u8) := by rw [hw, hb'e, List.drop_zero, List.drop_zero, List.map_take, List.map_take]
      have hcc : ((c.map (AV.int .u8)).take (if (500 : Int) < (((c.map (AV.int .u8)).length : Nat) : Int) then (500 : Int) else (((c.map (AV.int .u8)).length : Nat) : Int)).toNat).drop 0 = c'.map (AV.int .u8) := by rw [hc'e]; exact cut8l
      have hsz : (strOf (b'.take (IntKind.i64.wrap n).toNat)).size + (strOf c').size ≤ 9223372036854775807 := by rw [strOf_size, strOf_size]; omega
      have hst : (strOf ((b'.take (IntKind.i64.wrap n).toNat) ++ c') == strOf (b'.take (IntKind.i64.wrap n).toNat) ++ strOf c') = true := by rw [strOf_append, str_refl]
      repeat' first
        | (refine ⟨(b'.take (IntKind.i64.wrap n).toNat), rfl, ?_⟩)
        | (refine ⟨hn0, Nat.zero_le _, hle, ?_⟩)
        | (refine ⟨(b'.take (IntKind.i64.wrap n).toNat), hcl, ?_⟩)
        | (refine ⟨fun h => absurd h (by rw [str_refl]; simp), fun _ => ?_⟩)
        | (refine ⟨[500], [], [], 0, rfl, _, rfl, [.ptr 1000000000 0, .int .i64 5, by8 c'], ⟨.inl rfl, .inl rfl, .inl (by rw [hc'e]; exact cut8), trivial⟩, ⟨[(5, (b'.take (IntKind.i64.wrap n).toNat), (b'.take (IntKind.i64.wrap n).toNat).length)], 262144, -1, false⟩, 2000000000, 5, c', 0, ⟨[(5, (b'.take (IntKind.i64.wrap n).toNat) ++ c', (b'.take (IntKind.i64.wrap n).toNat).length)], 262144, -1, false⟩, dok1 (by decide) (by decide) (by omega) (by omega), Nat.le_refl _, (by omega), app2 (by omega), (by simp), rfl, rfl, rfl, ?_⟩)
        | (refine ⟨[500], [], [], 0, rfl, _, rfl, ⟨[(5, (b'.take (IntKind.i64.wrap n).toNat) ++ c', (b'.take (IntKind.i64.wrap n).toNat).length)], 262144, -1, false⟩, 2000000000, 5, (b'.take (IntKind.i64.wrap n).toNat) ++ c', true, dok1 (by decide) (by decide) (by rw [List.length_append]; omega) (by rw [List.length_append]; omega), Nat.le_refl _, rd1, rfl, rfl, rfl, ?_⟩)
        | (refine ⟨(b'.take (IntKind.i64.wrap n).toNat) ++ c', rfl, ?_⟩)
        | (refine ⟨c', hcc, ?_⟩)
        | (refine ⟨hsz, ?_⟩)
        | (refine ⟨fun _ => ?_, fun h => absurd (hst.symm.trans h) (by simp)⟩)
        | (refine ⟨[500], [], [], 0, rfl, _, rfl, ⟨[(5, (b'.take (IntKind.i64.wrap n).toNat) ++ c', (b'.take (IntKind.i64.wrap n).toNat).length)], 262144, -1, false⟩, 2000000000, 6, 0, 2, ⟨[(5, (b'.take (IntKind.i64.wrap n).toNat) ++ c', (b'.take (IntKind.i64.wrap n).toNat).length)], 262144, -1, false⟩, dok1 (by decide) (by decide) (by rw [List.length_append]; omega) (by rw [List.length_append]; omega), Nat.le_refl _, cut0 (by decide), rfl, rfl, rfl, ?_⟩)
        | (refine ⟨rfl, .inr ⟨2, rfl, ?_⟩⟩)
        | (exact hK)
        | (refine ⟨fun _ => ?_, fun h => Bool.noConfusion (show true = false from h)⟩)
        | (refine ⟨fun h => Bool.noConfusion (show false = true from h), fun _ => ?_⟩)
        | (refine And.intro ?_ ?_)
  · refine ⟨hc3, Nat.zero_le _, hc2, ?_⟩
    refine ⟨hb3, Nat.zero_le _, hb2, ?_⟩
    refine ⟨[], [], [500], 0, rfl, _, rfl, 262144, 2000000000, Nat.le_refl _, rfl, rfl, rfl, ?_⟩
    refine ⟨[500], [], [], 0, rfl, _, rfl, [.ptr 1000000000 0, .int .i64 5, by8 b'], ⟨.inl rfl, .inl rfl, .inl (by rw [hb'e]; exact cut8), trivial⟩, ⟨[], 262144, -1, false⟩, 2000000000, 5, b', 0, ⟨[(5, b', 0)], 262144, -1, false⟩, dok0 (by decide) (by decide), Nat.le_refl _, (by omega), app0 (by omega), (by simp), rfl, rfl, rfl, ?_⟩
    refine ⟨fun h => Bool.noConfusion (show false = true from h), fun _ => ?_⟩
    by_cases hc : n < 0 ∨ n > b'.length
    · refine ⟨[500], [], [], 0, rfl, _, rfl, ⟨[(5, b', 0)], 262144, -1, false⟩, 2000000000, 5, (IntKind.i64.wrap n), 13, ⟨[(5, b', 0)], 262144, -1, false⟩, dok1 (by decide) (by decide) (by omega) (by omega), Nat.le_refl _, cut1 (by omega), rfl, rfl, rfl, ?_⟩
      refine ⟨fun hs => ?_, fun hs => ?_⟩
      · refine ⟨fun _ => ?_, fun h => Bool.noConfusion (show true = false from h)⟩
        refine ⟨[500], [], [], 0, rfl, _, rfl, ⟨[(5, b', 0)], 262144, -1, false⟩, 2000000000, 5, b', true, dok1 (by decide) (by decide) (by omega) (by omega), Nat.le_refl _, rd1, rfl, rfl, rfl, ?_⟩
        refine ⟨rfl, .inr ⟨13, rfl, ?_⟩⟩
        refine ⟨fun _ => ?_, fun h => Bool.noConfusion (show true = false from h)⟩
        refine ⟨b', rfl, ?_⟩
        refine ⟨b', (by rw [hb'e]; exact cut8l), ?_⟩
        exact fin _ (by rw [str_refl])
      · have hs : ¬ n < 0 := of_decide_eq_false hs
        refine ⟨fun _ => ?_, fun h => absurd (of_decide_eq_false h) (by rw [hlen]; omega)⟩
        refine ⟨[500], [], [], 0, rfl, _, rfl, ⟨[(5, b', 0)], 262144, -1, false⟩, 2000000000, 5, b', true, dok1 (by decide) (by decide) (by omega) (by omega), Nat.le_refl _, rd1, rfl, rfl, rfl, ?_⟩
        refine ⟨rfl, .inr ⟨13, rfl, ?_⟩⟩
        refine ⟨fun _ => ?_, fun h => Bool.noConfusion (show true = false from h)⟩
        refine ⟨b', rfl, ?_⟩
        refine ⟨b', (by rw [hb'e]; exact cut8l), ?_⟩
        exact fin _ (by rw [str_refl])
    · have hn0 : 0 ≤ n := by omega
      have hn2 : n ≤ b'.length := by omega
      have hll : (b'.take (IntKind.i64.wrap n).toNat).length = n.toNat := by rw [List.length_take]; omega
      refine ⟨[500], [], [], 0, rfl, _, rfl, ⟨[(5, b', 0)], 262144, -1, false⟩, 2000000000, 5, (IntKind.i64.wrap n), 0, ⟨[(5, (b'.take (IntKind.i64.wrap n).toNat), (b'.take (IntKind.i64.wrap n).toNat).length)], 262144, -1, false⟩, dok1 (by decide) (by decide) (by omega) (by omega), Nat.le_refl _, cut2 (by omega) (by omega), rfl, rfl, rfl, ?_⟩
      refine ⟨fun h => absurd (of_decide_eq_true h) (by omega), fun _ => ?_⟩
      refine ⟨fun h => absurd (of_decide_eq_true h) (by rw [hlen]; omega), fun _ => ?_⟩
      refine ⟨[500], [], [], 0, rfl, _, rfl, ⟨[(5, (b'.take (IntKind.i64.wrap n).toNat), (b'.take (IntKind.i64.wrap n).toNat).length)], 262144, -1, false⟩, 2000000000, 0, ⟨[(5, (b'.take (IntKind.i64.wrap n).toNat), (b'.take (IntKind.i64.wrap n).toNat).length)], 262144, -1, false⟩, dok1 (by decide) (by decide) (by omega) (by omega), Nat.le_refl _, rst1, rfl, rfl, rfl, ?_⟩
      refine ⟨[500], [], [], 0, rfl, _, rfl, ⟨[(5, (b'.take (IntKind.i64.wrap n).toNat), (b'.take (IntKind.i64.wrap n).toNat).length)], 262144, -1, false⟩, 2000000000, 5, (b'.take (IntKind.i64.wrap n).toNat), true, dok1 (by decide) (by decide) (by omega) (by omega), Nat.le_refl _, rd1, rfl, rfl, rfl, ?_⟩
      have hle : n.toNat ≤ (((b.map (AV.int .u8)).take (if (500 : Int) < (((b.map (AV.int .u8)).length : Nat) : Int) then (500 : Int) else (((b.map (AV.int .u8)).length : Nat) : Int)).toNat).drop 0).length := by omega
      have hcl : ((((b.map (AV.int .u8)).take (if (500 : Int) < (((b.map (AV.int .u8)).length : Nat) : Int) then (500 : Int) else (((b.map (AV.int .u8)).length : Nat) : Int)).toNat).drop 0).take n.toNat).drop 0 = (b'.take (IntKind.i64.wrap n).toNat).map (AV.int .u8) := by rw [hw, hb'e, List.drop_zero, List.drop_zero, List.map_take, List.map_take]
      have hcc : ((c.map (AV.int .u8)).take (if (500 : Int) < (((c.map (AV.int .u8)).length : Nat) : Int) then (500 : Int) else (((c.map (AV.int .u8)).length : Nat) : Int)).toNat).drop 0 = c'.map (AV.int .u8) := by rw [hc'e]; exact cut8l
      have hsz : (strOf (b'.take (IntKind.i64.wrap n).toNat)).size + (strOf c').size ≤ 9223372036854775807 := by rw [strOf_size, strOf_size]; omega
      have hst : (strOf ((b'.take (IntKind.i64.wrap n).toNat) ++ c') == strOf (b'.take (IntKind.i64.wrap n).toNat) ++ strOf c') = true := by rw [strOf_append, str_refl]
      repeat' first
        | (refine ⟨(b'.take (IntKind.i64.wrap n).toNat), rfl, ?_⟩)
        | (refine ⟨hn0, Nat.zero_le _, hle, ?_⟩)
        | (refine ⟨(b'.take (IntKind.i64.wrap n).toNat), hcl, ?_⟩)
        | (refine ⟨fun h => absurd h (by rw [str_refl]; simp), fun _ => ?_⟩)
        | (refine ⟨[500], [], [], 0, rfl, _, rfl, [.ptr 1000000000 0, .int .i64 5, by8 c'], ⟨.inl rfl, .inl rfl, .inl (by rw [hc'e]; exact cut8), trivial⟩, ⟨[(5, (b'.take (IntKind.i64.wrap n).toNat), (b'.take (IntKind.i64.wrap n).toNat).length)], 262144, -1, false⟩, 2000000000, 5, c', 0, ⟨[(5, (b'.take (IntKind.i64.wrap n).toNat) ++ c', (b'.take (IntKind.i64.wrap n).toNat).length)], 262144, -1, false⟩, dok1 (by decide) (by decide) (by omega) (by omega), Nat.le_refl _, (by omega), app2 (by omega), (by simp), rfl, rfl, rfl, ?_⟩)
        | (refine ⟨[500], [], [], 0, rfl, _, rfl, ⟨[(5, (b'.take (IntKind.i64.wrap n).toNat) ++ c', (b'.take (IntKind.i64.wrap n).toNat).length)], 262144, -1, false⟩, 2000000000, 5, (b'.take (IntKind.i64.wrap n).toNat) ++ c', true, dok1 (by decide) (by decide) (by rw [List.length_append]; omega) (by rw [List.length_append]; omega), Nat.le_refl _, rd1, rfl, rfl, rfl, ?_⟩)
        | (refine ⟨(b'.take (IntKind.i64.wrap n).toNat) ++ c', rfl, ?_⟩)
        | (refine ⟨c', hcc, ?_⟩)
        | (refine ⟨hsz, ?_⟩)
        | (refine ⟨fun _ => ?_, fun h => absurd (hst.symm.trans h) (by simp)⟩)
        | (refine ⟨[500], [], [], 0, rfl, _, rfl, ⟨[(5, (b'.take (IntKind.i64.wrap n).toNat) ++ c', (b'.take (IntKind.i64.wrap n).toNat).length)], 262144, -1, false⟩, 2000000000, 6, 0, 2, ⟨[(5, (b'.take (IntKind.i64.wrap n).toNat) ++ c', (b'.take (IntKind.i64.wrap n).toNat).length)], 262144, -1, false⟩, dok1 (by decide) (by decide) (by rw [List.length_append]; omega) (by rw [List.length_append]; omega), Nat.le_refl _, cut0 (by decide), rfl, rfl, rfl, ?_⟩)
        | (refine ⟨rfl, .inr ⟨2, rfl, ?_⟩⟩)
        | (exact hK)
        | (refine ⟨fun _ => ?_, fun h => Bool.noConfusion (show true = false from h)⟩)
        | (refine ⟨fun h => Bool.noConfusion (show false = true from h), fun _ => ?_⟩)
        | (refine And.intro ?_ ?_)
end Go.Proofs.YtbpcofnhndgoeaaDoor.A
