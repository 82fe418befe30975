/- Disks' methods, as they are called. -/
import Derived.Test.YtbpcofnhndgoeaaDoorJ4
import Derived.Test.YtbpcofnhndgoeaaDoorJ5
namespace Go.Proofs.YtbpcofnhndgoeaaDoor.A
open Go Q
abbrev Kon := AV → List Box → Prop
def appendC1 (args : List AV) (bs : List Box) (K : Kon) : Prop := ∃ d nb k b e d', DOk d ∧ 2000000000 ≤ nb ∧ b.length ≤ 4611686018427387904 ∧ appendD d k b = (e, d') ∧ d'.fs.length ≤ 3 ∧ args = [.ptr 1000000000 0, .int .i64 k, by8 b] ∧ bs = [dkB d nb] ∧ K (erA e) [dkB d' nb]
theorem append_ok1 : FnOkN Tryd.prog tab 12 appendC1 := append_ok.mono fun args bs K ⟨d, nb, k, b, e, d', h1, h2, h3, h4, h5, h6, h7, h8⟩ => ⟨d, nb, k, b, h1, h2, h3, by rw [h4]; exact h5, h6, h7, by rw [h4]; exact h8⟩
def dk1C1 (F : Dk → Int → Int × Dk) (args : List AV) (bs : List Box) (K : Kon) : Prop := ∃ d nb k e d', DOk d ∧ 2000000000 ≤ nb ∧ F d k = (e, d') ∧ args = [.ptr 1000000000 0, .int .i64 k] ∧ bs = [dkB d nb] ∧ K (erA e) [dkB d' nb]
theorem dk1_mono {f : FuncId} {F : Dk → Int → Int × Dk} (h : FnOkN Tryd.prog tab f (dk1C F)) : FnOkN Tryd.prog tab f (dk1C1 F) := h.mono fun args bs K ⟨d, nb, k, e, d', h1, h2, h3, h4, h5, h6⟩ => ⟨d, nb, k, h1, h2, h4, h5, by rw [h3]; exact h6⟩
def dk2C1 (F : Dk → Int → Int → Int × Dk) (args : List AV) (bs : List Box) (K : Kon) : Prop := ∃ d nb k m e d', DOk d ∧ 2000000000 ≤ nb ∧ F d k m = (e, d') ∧ args = [.ptr 1000000000 0, .int .i64 k, .int .i64 m] ∧ bs = [dkB d nb] ∧ K (erA e) [dkB d' nb]
theorem dk2_mono {f : FuncId} {F : Dk → Int → Int → Int × Dk} (h : FnOkN Tryd.prog tab f (dk2C F)) : FnOkN Tryd.prog tab f (dk2C1 F) := h.mono fun args bs K ⟨d, nb, k, m, e, d', h1, h2, h3, h4, h5, h6⟩ => ⟨d, nb, k, m, h1, h2, h4, h5, by rw [h3]; exact h6⟩
def readC1 (args : List AV) (bs : List Box) (K : Kon) : Prop := ∃ d nb k l ok, DOk d ∧ 2000000000 ≤ nb ∧ readD d k = (l, ok) ∧ args = [.ptr 1000000000 0, .int .i64 k] ∧ bs = [dkB d nb] ∧ K (.tup [rdA (l, ok), .bool ok]) [dkB d nb]
theorem read_ok1 : FnOkN Tryd.prog tab 16 readC1 := readD_ok.mono fun args bs K ⟨d, nb, k, l, ok, h1, h2, h3, h4, h5, h6⟩ => ⟨d, nb, k, h1, h2, h4, h5, by rw [h3]; exact h6⟩
def restartC1 (args : List AV) (bs : List Box) (K : Kon) : Prop := ∃ d nb k d', DOk d ∧ 2000000000 ≤ nb ∧ restartD d k = d' ∧ args = [.ptr 1000000000 0, .int .i64 k] ∧ bs = [dkB d nb] ∧ K (.tup []) [dkB d' nb]
theorem restart_ok1 : FnOkN Tryd.prog tab 15 restartC1 := restart_ok.mono fun args bs K ⟨d, nb, k, d', h1, h2, h3, h4, h5, h6⟩ => ⟨d, nb, k, h1, h2, h4, h5, by rw [h3]; exact h6⟩
def usedC1 (args : List AV) (bs : List Box) (K : Kon) : Prop := args = [.ptr 1000000000 0] ∧ ∃ d nb u, DOk d ∧ 2000000000 ≤ nb ∧ (d.used : Int) = u ∧ bs = [dkB d nb] ∧ K (.int .i64 u) [dkB d nb]
theorem used_ok1 : FnOkN Tryd.prog tab 20 usedC1 := used_ok.mono fun args bs K ⟨h0, d, nb, u, h1, h2, h3, h4, h5⟩ => ⟨h0, d, nb, h1, h2, h4, by rw [h3]; exact h5⟩
noncomputable def JD : FuncId → Option StSpec
  | 11 => some (liftJ ofDC)
  | 12 => some (frzJ (liftJ (nilC appendC1)))
  | 13 => some (liftJ (dk1C1 syncD))
  | 44 => some (liftJ (dk1C1 removeD))
  | 14 => some (liftJ (dk2C1 renameD))
  | 18 => some (liftJ (dk2C1 cutD))
  | 16 => some (liftJ readC1)
  | 15 => some (liftJ restartC1)
  | 20 => some (liftJ usedC1)
  | 34 => some (liftJ stoppedC)
  | 32 => some (liftJ armC)
  | _ => none
theorem JD_ok : JOk Tryd.prog tab JD := by
  intro f j h
  unfold JD at h
  split at h
  · cases h; exact lift_ok ofD_ok
  · cases h; exact frz_ok (lift_ok append_ok1.nil)
  · cases h; exact lift_ok (dk1_mono sync_ok)
  · cases h; exact lift_ok (dk1_mono remove_ok)
  · cases h; exact lift_ok (dk2_mono rename_ok)
  · cases h; exact lift_ok (dk2_mono cut_ok)
  · cases h; exact lift_ok read_ok1
  · cases h; exact lift_ok restart_ok1
  · cases h; exact lift_ok used_ok1
  · cases h; exact lift_ok stopped_ok
  · cases h; exact lift_ok arm_ok
  · cases h
noncomputable def D2_E (pl : Nat → Plan) : En := ⟨tab, fun _ _ _ _ => False, JD, 0, pl⟩
theorem D2_C (pl : Nat → Plan) : CallOk Tryd.prog (D2_E pl).T (D2_E pl).R := fun _ _ _ _ h => h.elim
theorem cut8 {a : List Int} {h : Nat} : by8 (a.take h) = .sl .fz 5 (((a.map (AV.int .u8)).take h).drop 0) := by rw [List.drop_zero, ← List.map_take]
theorem cut8l {a : List Int} {h : Nat} : ((a.map (AV.int .u8)).take h).drop 0 = (a.take h).map (AV.int .u8) := by rw [List.drop_zero, ← List.map_take]
theorem str_refl (a : ByteArray) : (a == a) = true := by
  rw [show (a == a) = (a.data == a.data) by cases a; rfl]
  simp
def awake5C (args : List AV) (bs : List Box) (K : Kon) : Prop := bs = [] ∧ args = [] ∧ K (.bool true) []
theorem dok0 {r : Int} (h0 : 0 ≤ r) (h1 : r ≤ 262144) : DOk ⟨[], r, -1, false⟩ := ⟨by simp [Dk.used, usedF], h0, h1, by simp, by simp, by simp, fun _ h => by cases h⟩
theorem dok1 {r : Int} (h0 : 0 ≤ r) (h1 : r ≤ 262144) {k : Int} {b : List Int} {s : Int} (hb : b.length ≤ 262144) (hs : 0 ≤ s ∧ s ≤ b.length) : DOk ⟨[(k, b, s)], r, -1, false⟩ := ⟨by simpa [Dk.used, usedF] using hb, h0, h1, by simp, by simp, by simp, fun f h => by rw [List.mem_singleton.1 h]; exact hs⟩
theorem dok2 {r : Int} (h0 : 0 ≤ r) (h1 : r ≤ 262144) {k k' : Int} {b b' : List Int} {s s' : Int} (hb : b.length + b'.length ≤ 262144) (hs : 0 ≤ s ∧ s ≤ b.length) (hs' : 0 ≤ s' ∧ s' ≤ b'.length) : DOk ⟨[(k, b, s), (k', b', s')], r, -1, false⟩ := ⟨by simpa [Dk.used, usedF] using hb, h0, h1, by simp, by simp, by simp, fun f h => by
  rcases List.mem_cons.1 h with rfl | h
  · exact hs
  · rw [List.mem_singleton.1 h]; exact hs'⟩
set_option maxRecDepth 200000 in
set_option maxHeartbeats 6400000 in
theorem awake5_ok : FnOk Tryd.prog tab 10 awake5C := by
  refine fn_ok (E := D2_E pl10) tab_is (D2_C _) JD_ok Tryd.func10 rfl rfl (by kernel_rfl) ?_
  rintro args bs K ⟨rfl, rfl, hK⟩
  refine ⟨rfl, ?_⟩
  refine ⟨[], [], [500], 0, rfl, _, rfl, 100, 2000000000, Nat.le_refl _, rfl, rfl, rfl, ?_⟩
  refine ⟨fun h => Bool.noConfusion (show false = true from h), fun _ => ?_⟩
  refine ⟨[500], [], [], 0, rfl, _, rfl, [.ptr 1000000000 0, .int .i64 7, by8 [97, 98, 99]], ⟨.inl rfl, .inl rfl, .inl rfl, trivial⟩, ⟨[], 100, -1, false⟩, 2000000000, 7, [97, 98, 99], 0, ⟨[(7, [97, 98, 99], 0)], 100, -1, false⟩, dok0 (by decide) (by decide), Nat.le_refl _, by simp, rfl, by simp, rfl, rfl, rfl, ?_⟩
  refine ⟨[500], [], [], 0, rfl, _, rfl, ⟨[(7, [97, 98, 99], 0)], 100, -1, false⟩, 2000000000, 7, 0, ⟨[(7, [97, 98, 99], 3)], 100, -1, false⟩, dok1 (by decide) (by decide) (by decide) (by decide), Nat.le_refl _, rfl, rfl, rfl, rfl, ?_⟩
  refine ⟨[500], [], [], 0, rfl, _, rfl, [.ptr 1000000000 0, .int .i64 7, by8 [100, 101]], ⟨.inl rfl, .inl rfl, .inl rfl, trivial⟩, ⟨[(7, [97, 98, 99], 3)], 100, -1, false⟩, 2000000000, 7, [100, 101], 0, ⟨[(7, [97, 98, 99, 100, 101], 3)], 100, -1, false⟩, dok1 (by decide) (by decide) (by decide) (by decide), Nat.le_refl _, by simp, rfl, by simp, rfl, rfl, rfl, ?_⟩
  refine ⟨[500], [], [], 0, rfl, _, rfl, ⟨[(7, [97, 98, 99, 100, 101], 3)], 100, -1, false⟩, 2000000000, 1, ⟨[(7, [97, 98, 99, 100], 4)], 100, -1, false⟩, dok1 (by decide) (by decide) (by decide) (by decide), Nat.le_refl _, rfl, rfl, rfl, rfl, ?_⟩
  refine ⟨[500], [], [], 0, rfl, _, rfl, ⟨[(7, [97, 98, 99, 100], 4)], 100, -1, false⟩, 2000000000, 7, [97, 98, 99, 100], true, dok1 (by decide) (by decide) (by decide) (by decide), Nat.le_refl _, rfl, rfl, rfl, rfl, ?_⟩
  repeat' first
    | (exact hK)
    | (refine ⟨[97, 98, 99, 100], rfl, ?_⟩)
    | (refine ⟨fun _ => ?_, fun h => Bool.noConfusion (show true = false from h)⟩)
    | (refine ⟨fun h => Bool.noConfusion (show false = true from h), fun _ => ?_⟩)
    | (refine And.intro ?_ ?_)
end Go.Proofs.YtbpcofnhndgoeaaDoor.A
