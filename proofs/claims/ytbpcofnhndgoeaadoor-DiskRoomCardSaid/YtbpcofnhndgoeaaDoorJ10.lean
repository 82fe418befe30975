/- hawalalaw05: DiskRoom. -/
import Derived.Test.YtbpcofnhndgoeaaDoorJ7a
import Derived.Test.YtbpcofnhndgoeaaDoorJ9
namespace Go.Proofs.YtbpcofnhndgoeaaDoor.A
open Go Q
noncomputable def JRm : FuncId → Option StSpec
  | 11 => some (liftJ ofDC)
  | 12 => some (frzJ (liftJ (nilC appendC1)))
  | 20 => some (liftJ usedC1)
  | 19 => some (liftJ namesC)
  | _ => none
theorem JRm_ok : JOk Tryd.prog tab JRm := by
  intro f j h
  unfold JRm at h
  split at h
  · cases h; exact lift_ok ofD_ok
  · cases h; exact frz_ok (lift_ok append_ok1.nil)
  · cases h; exact lift_ok used_ok1
  · cases h; exact lift_ok names_ok
  · cases h
noncomputable def Rm_E (pl : Nat → Plan) : En := ⟨tab, RA5, JRm, 0, pl⟩
abbrev roomE (room : Int) : Int := if (if 262144 < room then 262144 else room) > 0 then (if 262144 < room then 262144 else room) else 0
theorem roomE_eq (room : Int) : roomE room = max 0 (min room 262144) := by unfold roomE; split <;> split <;> omega
theorem appF0 {r k : Int} {b : List Int} (h : (b.length : Int) > r) : appendD ⟨[], r, -1, false⟩ k b = (8, ⟨[], r, -1, false⟩) := by
  unfold appendD
  rw [if_neg (by simp), if_pos (by simp [Dk.used, usedF]; omega)]
theorem appF1 {r k n s : Int} {b c : List Int} (h : (c.length : Int) + b.length > r) : appendD ⟨[(n, c, s)], r, -1, false⟩ k b = (8, ⟨[(n, c, s)], r, -1, false⟩) := by
  unfold appendD
  rw [if_neg (by simp), if_pos (by simp [Dk.used, usedF]; omega)]
def roomL (args : List AV) (bs : List Box) (K : Kon) : Prop := bs = [] ∧ ∃ room b c, args = [.int .i64 room, by8 b, by8 c] ∧ b.length ≤ 4611686018427387904 ∧ c.length ≤ 4611686018427387904 ∧ K (.bool true) []
theorem used1 {r k s : Int} {b : List Int} : ((Dk.used ⟨[(k, b, s)], r, -1, false⟩ : Nat) : Int) = b.length := by simp [Dk.used, usedF]
theorem used2 {r k s n t : Int} {b c : List Int} : ((Dk.used ⟨[(k, b, s), (n, c, t)], r, -1, false⟩ : Nat) : Int) = b.length + c.length := by simp [Dk.used, usedF]
theorem used0 {r : Int} : ((Dk.used ⟨[], r, -1, false⟩ : Nat) : Int) = 0 := by simp [Dk.used, usedF]
set_option maxRecDepth 200000 in
set_option maxHeartbeats 16000000 in
theorem room_ok : FnOk Tryd.prog tab 5 roomL := by
  refine fn_ok (E := Rm_E pl5) tab_is RA5_ok JRm_ok Tryd.func5 rfl rfl (by kernel_rfl) ?_
  rintro args bs K ⟨rfl, room, b, c, rfl, hb, hc, hK⟩
  refine ⟨rfl, ?_⟩
  refine ⟨rfl, rfl, ?_⟩
  refine ⟨fun h => Bool.noConfusion (show false = true from h), fun _ => ?_⟩
  have fin : ∀ q, q = true → K (.bool q) [] := fun q e => e ▸ hK
  have hR := roomE_eq room
  have hR0 : 0 ≤ roomE room := by omega
  have hR1 : roomE room ≤ 262144 := by omega
  have hcm : (((c.map (AV.int .u8)).length : Nat) : Int) = c.length := by rw [List.length_map]
  refine ⟨[], [], [500], 0, rfl, _, rfl, room, 2000000000, Nat.le_refl _, rfl, rfl, rfl, ?_⟩
  by_cases h1 : (b.length : Int) ≤ roomE room
  · have hof : dkB (newD room) 2000000000 = dkB ⟨[], (roomE room), -1, false⟩ 2000000000 := by unfold newD; rw [hR]
    refine ⟨[500], [], [], 0, rfl, _, rfl, [.ptr 1000000000 0, .int .i64 1, by8 b], ⟨.inl rfl, .inl rfl, .inl rfl, trivial⟩, ⟨[], (roomE room), -1, false⟩, 2000000000, 1, b, 0, ⟨[(1, b, 0)], (roomE room), -1, false⟩, dok0 hR0 hR1, Nat.le_refl _, hb, app0 h1, (by simp), rfl, (by rw [← hof]; rfl), rfl, ?_⟩
    refine ⟨fun h => absurd h (by simp [h1]), fun _ => ?_⟩
    refine ⟨fun h => Bool.noConfusion (show false = true from h), fun _ => ?_⟩
    refine ⟨fun h => Bool.noConfusion (show false = true from h), fun _ => ?_⟩
    refine ⟨[500], [], [], 0, rfl, _, rfl, rfl, ⟨[(1, b, 0)], (roomE room), -1, false⟩, 2000000000, (b.length : Int), dok1 hR0 hR1 (by omega) (by omega), Nat.le_refl _, used1, rfl, rfl, ?_⟩
    have hw : IntKind.i64.wrap ((b.length : Int) + (((c.map (AV.int .u8)).length : Nat) : Int)) = (b.length : Int) + c.length := by rw [hcm, wrap_of (by omega) (by omega)]
    by_cases h2 : (b.length : Int) + (c.length : Int) ≤ roomE room
    · refine ⟨[500], [], [], 0, rfl, _, rfl, [.ptr 1000000000 0, .int .i64 2, by8 c], ⟨.inl rfl, .inl rfl, .inl rfl, trivial⟩, ⟨[(1, b, 0)], (roomE room), -1, false⟩, 2000000000, 2, c, 0, ⟨[(1, b, 0), (2, c, 0)], (roomE room), -1, false⟩, dok1 hR0 hR1 (by omega) (by omega), Nat.le_refl _, hc, app1 (by decide) (by omega), (by simp), rfl, rfl, rfl, ?_⟩
      have hx : decide (IntKind.i64.wrap ((b.length : Int) + (((c.map (AV.int .u8)).length : Nat) : Int)) ≤ roomE room) = true := decide_eq_true (by rw [hw]; exact h2)
      refine ⟨fun _ => ?_, fun h => absurd (show (true == decide (IntKind.i64.wrap ((b.length : Int) + (((c.map (AV.int .u8)).length : Nat) : Int)) ≤ roomE room)) = false from h) (by rw [hx]; decide)⟩
      refine ⟨[500], [], [], 0, rfl, _, rfl, rfl, ⟨[(1, b, 0), (2, c, 0)], (roomE room), -1, false⟩, 2000000000, (b.length : Int) + c.length, dok2 hR0 hR1 (by omega) (by omega) (by omega), Nat.le_refl _, used2, rfl, rfl, ?_⟩
      refine ⟨fun _ => ?_, fun h => absurd (of_decide_eq_false h) (by omega)⟩
      refine ⟨fun _ => ?_, fun h => Bool.noConfusion (show true = false from h)⟩
      exact hK
    · refine ⟨[500], [], [], 0, rfl, _, rfl, [.ptr 1000000000 0, .int .i64 2, by8 c], ⟨.inl rfl, .inl rfl, .inl rfl, trivial⟩, ⟨[(1, b, 0)], (roomE room), -1, false⟩, 2000000000, 2, c, 8, ⟨[(1, b, 0)], (roomE room), -1, false⟩, dok1 hR0 hR1 (by omega) (by omega), Nat.le_refl _, hc, appF1 (by omega), (by simp), rfl, rfl, rfl, ?_⟩
      have hx : decide (IntKind.i64.wrap ((b.length : Int) + (((c.map (AV.int .u8)).length : Nat) : Int)) ≤ roomE room) = false := decide_eq_false (by rw [hw]; exact h2)
      refine ⟨fun _ => ?_, fun h => absurd (show (false == decide (IntKind.i64.wrap ((b.length : Int) + (((c.map (AV.int .u8)).length : Nat) : Int)) ≤ roomE room)) = false from h) (by rw [hx]; decide)⟩
      refine ⟨[500], [], [], 0, rfl, _, rfl, rfl, ⟨[(1, b, 0)], (roomE room), -1, false⟩, 2000000000, (b.length : Int), dok1 hR0 hR1 (by omega) (by omega), Nat.le_refl _, used1, rfl, rfl, ?_⟩
      refine ⟨fun _ => ?_, fun h => absurd (of_decide_eq_false h) (by omega)⟩
      refine ⟨fun h => Bool.noConfusion (show false = true from h), fun _ => ?_⟩
      refine ⟨[500], [], [], 0, rfl, _, rfl, rfl, ⟨[(1, b, 0)], (roomE room), -1, false⟩, 2000000000, (b.length : Int), dok1 hR0 hR1 (by omega) (by omega), Nat.le_refl _, used1, rfl, rfl, ?_⟩
      exact fin _ (by simp)
  · have hof : dkB (newD room) 2000000000 = dkB ⟨[], (roomE room), -1, false⟩ 2000000000 := by unfold newD; rw [hR]
    refine ⟨[500], [], [], 0, rfl, _, rfl, [.ptr 1000000000 0, .int .i64 1, by8 b], ⟨.inl rfl, .inl rfl, .inl rfl, trivial⟩, ⟨[], (roomE room), -1, false⟩, 2000000000, 1, b, 8, ⟨[], (roomE room), -1, false⟩, dok0 hR0 hR1, Nat.le_refl _, hb, appF0 (by omega), (by simp), rfl, (by rw [← hof]; rfl), rfl, ?_⟩
    refine ⟨fun h => absurd h (by simp [h1]), fun _ => ?_⟩
    refine ⟨fun _ => ?_, fun h => Bool.noConfusion (show true = false from h)⟩
    refine ⟨rfl, .inr ⟨8, rfl, ?_⟩⟩
    refine ⟨fun h => Bool.noConfusion (show false = true from h), fun _ => ?_⟩
    refine ⟨[500], [], [], 0, rfl, _, rfl, rfl, ⟨[], (roomE room), -1, false⟩, 2000000000, dok0 hR0 hR1, Nat.le_refl _, rfl, fun _ => ⟨rfl, ?_⟩, fun h => absurd rfl h⟩
    refine ⟨fun h => Bool.noConfusion (show false = true from h), fun _ => ?_⟩
    refine ⟨[500], [], [], 0, rfl, _, rfl, rfl, ⟨[], (roomE room), -1, false⟩, 2000000000, 0, dok0 hR0 hR1, Nat.le_refl _, used0, rfl, rfl, ?_⟩
    have hw : IntKind.i64.wrap (0 + (((c.map (AV.int .u8)).length : Nat) : Int)) = 0 + c.length := by rw [hcm, wrap_of (by omega) (by omega)]
    by_cases h2 : 0 + (c.length : Int) ≤ roomE room
    · refine ⟨[500], [], [], 0, rfl, _, rfl, [.ptr 1000000000 0, .int .i64 2, by8 c], ⟨.inl rfl, .inl rfl, .inl rfl, trivial⟩, ⟨[], (roomE room), -1, false⟩, 2000000000, 2, c, 0, ⟨[(2, c, 0)], (roomE room), -1, false⟩, dok0 hR0 hR1, Nat.le_refl _, hc, app0 (by omega), (by simp), rfl, rfl, rfl, ?_⟩
      have hx : decide (IntKind.i64.wrap (0 + (((c.map (AV.int .u8)).length : Nat) : Int)) ≤ roomE room) = true := decide_eq_true (by rw [hw]; exact h2)
      refine ⟨fun _ => ?_, fun h => absurd (show (true == decide (IntKind.i64.wrap (0 + (((c.map (AV.int .u8)).length : Nat) : Int)) ≤ roomE room)) = false from h) (by rw [hx]; decide)⟩
      refine ⟨[500], [], [], 0, rfl, _, rfl, rfl, ⟨[(2, c, 0)], (roomE room), -1, false⟩, 2000000000, (c.length : Int), dok1 hR0 hR1 (by omega) (by omega), Nat.le_refl _, used1, rfl, rfl, ?_⟩
      refine ⟨fun _ => ?_, fun h => absurd (of_decide_eq_false h) (by omega)⟩
      refine ⟨fun _ => ?_, fun h => Bool.noConfusion (show true = false from h)⟩
      exact hK
    · refine ⟨[500], [], [], 0, rfl, _, rfl, [.ptr 1000000000 0, .int .i64 2, by8 c], ⟨.inl rfl, .inl rfl, .inl rfl, trivial⟩, ⟨[], (roomE room), -1, false⟩, 2000000000, 2, c, 8, ⟨[], (roomE room), -1, false⟩, dok0 hR0 hR1, Nat.le_refl _, hc, appF0 (by omega), (by simp), rfl, rfl, rfl, ?_⟩
      have hx : decide (IntKind.i64.wrap (0 + (((c.map (AV.int .u8)).length : Nat) : Int)) ≤ roomE room) = false := decide_eq_false (by rw [hw]; exact h2)
      refine ⟨fun _ => ?_, fun h => absurd (show (false == decide (IntKind.i64.wrap (0 + (((c.map (AV.int .u8)).length : Nat) : Int)) ≤ roomE room)) = false from h) (by rw [hx]; decide)⟩
      refine ⟨[500], [], [], 0, rfl, _, rfl, rfl, ⟨[], (roomE room), -1, false⟩, 2000000000, 0, dok0 hR0 hR1, Nat.le_refl _, used0, rfl, rfl, ?_⟩
      refine ⟨fun _ => ?_, fun h => absurd (of_decide_eq_false h) (by omega)⟩
      refine ⟨fun h => Bool.noConfusion (show false = true from h), fun _ => ?_⟩
      refine ⟨[500], [], [], 0, rfl, _, rfl, rfl, ⟨[], (roomE room), -1, false⟩, 2000000000, 0, dok0 hR0 hR1, Nat.le_refl _, used0, rfl, rfl, ?_⟩
      exact fin _ (by simp)
end Go.Proofs.YtbpcofnhndgoeaaDoor.A
