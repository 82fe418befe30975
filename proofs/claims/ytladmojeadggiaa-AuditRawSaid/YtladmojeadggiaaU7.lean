/- hawalalaw20: awake, AuditNew. -/
import Derived.Test.YtladmojeadggiaaU6
namespace Go.Proofs.Ytladmojeadggiaa.A
open Go Q
def NilV (v v' : AV) : Prop := NilA v v' ∨ ∃ cs cs', v = .agg cs ∧ v' = .agg cs' ∧ NilL cs cs'
def NilVL : List AV → List AV → Prop
  | [], [] => True
  | v :: vs, v' :: vs' => NilV v v' ∧ NilVL vs vs'
  | _, _ => False
theorem NilVL.vl {T : Tab} {c : Cx} : ∀ {l l' : List AV} {us : List Value}, NilVL l l' → VL T c l us → VL T c l' us
  | [], [], _, _, h => h
  | [], _ :: _, _, h, _ => h.elim
  | _ :: _, [], _, h, _ => h.elim
  | v :: vs, v' :: vs', [], _, hv => absurd hv.1 (by simp)
  | v :: vs, v' :: vs', u :: us, h, hv => by
    refine VL.cons ?_ (NilVL.vl h.2 ⟨by have := hv.1; simpa using this, fun i x u' hx hu => hv.2 (i + 1) x u' (by simpa using hx) (by simpa using hu)⟩)
    have h0 := hv.2 0 v u rfl rfl
    rcases h.1 with hn | ⟨cs, cs', rfl, rfl, hl⟩
    · have : VL T c [v] [u] := VL.cons h0 VL.nil
      exact (NilL.vl (l := [v]) (l' := [v']) ⟨hn, trivial⟩ this).2 0 _ _ rfl rfl
    · obtain ⟨us', rfl, hvl⟩ := h0.agg_inv
      exact (hl.vl hvl).agg
def nil2C (S : List AV → List Box → (AV → List Box → Prop) → Prop) (args : List AV) (bs : List Box) (K : AV → List Box → Prop) : Prop := ∃ args', NilVL args args' ∧ S args' bs K
theorem FnOk.nil2 {T : Tab} {f : FuncId} {S : List AV → List Box → (AV → List Box → Prop) → Prop} (h : FnOk Try.prog T f S) : FnOk Try.prog T f (nil2C S) :=
  ⟨h.1, fun _ bs K ⟨args', hN, hS⟩ c vs hok hfm hV hB => h.2 args' bs K hS c vs hok hfm (hN.vl hV) hB⟩
def staN (n : Int) : Sta := ⟨newL, [], [], [], n⟩
def staT : Sta := ⟨newL ++ [⟨0, 5, 1⟩], [], [], [], 0⟩
theorem small_n (n : Int) : Small (staN n) := ⟨(by decide : (9 : Nat) < 1152921504606846976), (by decide : (0 : Nat) < 1152921504606846976), (by decide : (0 : Nat) < 1152921504606846976), (by decide : (0 : Nat) < 1152921504606846976), (by decide : (9 : Nat) * 8 ≤ 140737488355328)⟩
theorem small_t : Small staT := ⟨by decide, by decide, by decide, by decide, by decide⟩
theorem small_0 : Small ⟨[], [], [], [], 0⟩ := ⟨by decide, by decide, by decide, by decide, by decide⟩
theorem faults_n (n : Int) : faults (staN n) = [] := by
  have : faults (staN n) = faults (staN 0) := rfl
  rw [this]; decide +kernel
theorem faults_t : faults staT = [1, 5] := by decide +kernel
theorem faults_0 : faults ⟨[], [], [], [], 0⟩ = [2] := by decide +kernel
theorem quiet_n (n : Int) : quietB (staN n) = true := by
  have : quietB (staN n) = quietB (staN 0) := rfl
  rw [this]; decide +kernel
def R9 : Contract
  | 9 => newC0
  | 7 => nil2C checkC
  | 10 => nil2C quietC
  | 11 => nil2C heldC
  | _ => fun _ _ _ => False
theorem R9_ok : CallOk Try.prog tab R9 := by
  intro f args bs K h
  unfold R9 at h
  split at h
  · exact ⟨_, h, new_ok0⟩
  · exact ⟨_, h, check_ok.nil2⟩
  · exact ⟨_, h, quiet_ok.nil2⟩
  · exact ⟨_, h, held_ok.nil2⟩
  · exact h.elim
def R9_E (pl : Nat → Plan) : En := ⟨tab, R9, fun _ => none, 0, pl⟩
theorem R9_J (pl : Nat → Plan) : JOk Try.prog (R9_E pl).T (R9_E pl).J := fun _ _ h => by cases h
def awakeC (args : List AV) (bs : List Box) (K : AV → List Box → Prop) : Prop := bs = [] ∧ args = [] ∧ K (.bool true) []
set_option maxRecDepth 200000 in
set_option maxHeartbeats 6400000 in
theorem awake_ok : FnOk Try.prog tab 5 awakeC := by
  refine fn_ok (E := R9_E pl5) tab_is R9_ok (R9_J _) Try.func5 rfl rfl (by kernel_rfl) ?_
  rintro args bs K ⟨rfl, rfl, hK⟩
  refine ⟨rfl, ?_⟩
  refine ⟨rfl, rfl, ?_⟩
  refine ⟨rfl, rfl, ?_⟩
  refine ⟨(by decide : 10 * 24 ≤ 140737488355328), ?_⟩
  refine ⟨[staA staT], ⟨.inr ⟨_, _, rfl, rfl, .inl rfl, .inr ⟨_, _, rfl, rfl⟩, .inr ⟨_, _, rfl, rfl⟩, .inr ⟨_, _, rfl, rfl⟩, .inl rfl, trivial⟩, trivial⟩, rfl, staT, rfl, small_t, ?_⟩
  rw [faults_t]
  refine ⟨[staA (staN 0)], ⟨.inr ⟨_, _, rfl, rfl, .inl rfl, .inr ⟨_, _, rfl, rfl⟩, .inr ⟨_, _, rfl, rfl⟩, .inr ⟨_, _, rfl, rfl⟩, .inl rfl, trivial⟩, trivial⟩, rfl, staN 0, rfl, small_n 0, ?_⟩
  rw [faults_n]
  refine ⟨fun _ => ?_, fun h => Bool.noConfusion (show true = false from h)⟩
  refine ⟨fun _ => ?_, fun h => Bool.noConfusion (show true = false from h)⟩
  refine ⟨_, Int.le_refl 0, rfl, ?_⟩
  refine ⟨fun _ => ?_, fun h => Bool.noConfusion (show true = false from h)⟩
  refine ⟨_, (by decide : (0 : Int) ≤ 1), rfl, ?_⟩
  refine ⟨fun _ => ?_, fun h => Bool.noConfusion (show true = false from h)⟩
  refine ⟨[staA (staN 0)], ⟨.inr ⟨_, _, rfl, rfl, .inl rfl, .inr ⟨_, _, rfl, rfl⟩, .inr ⟨_, _, rfl, rfl⟩, .inr ⟨_, _, rfl, rfl⟩, .inl rfl, trivial⟩, trivial⟩, rfl, staN 0, rfl, small_n 0, ?_⟩
  rw [quiet_n]
  exact hK
def auditNewC (args : List AV) (bs : List Box) (K : AV → List Box → Prop) : Prop := bs = [] ∧ ∃ n : Int, args = [.int .u8 n] ∧ K (.bool true) []
def R10 : Contract
  | 5 => awakeC
  | 9 => newC0
  | 7 => nil2C checkC
  | 10 => nil2C quietC
  | 11 => nil2C heldC
  | _ => fun _ _ _ => False
theorem R10_ok : CallOk Try.prog tab R10 := by
  intro f args bs K h
  unfold R10 at h
  split at h
  · exact ⟨_, h, awake_ok⟩
  · exact ⟨_, h, new_ok0⟩
  · exact ⟨_, h, check_ok.nil2⟩
  · exact ⟨_, h, quiet_ok.nil2⟩
  · exact ⟨_, h, held_ok.nil2⟩
  · exact h.elim
def R10_E (pl : Nat → Plan) : En := ⟨tab, R10, fun _ => none, 0, pl⟩
theorem R10_J (pl : Nat → Plan) : JOk Try.prog (R10_E pl).T (R10_E pl).J := fun _ _ h => by cases h
set_option maxRecDepth 200000 in
set_option maxHeartbeats 6400000 in
theorem auditNew_ok : FnOk Try.prog tab 4 auditNewC := by
  refine fn_ok (E := R10_E pl4) tab_is R10_ok (R10_J _) Try.func4 rfl rfl (by kernel_rfl) ?_
  rintro args bs K ⟨rfl, n, rfl, hK⟩
  refine ⟨rfl, ?_⟩
  refine ⟨rfl, rfl, ?_⟩
  refine ⟨fun h => Bool.noConfusion (show false = true from h), fun _ => ?_⟩
  refine ⟨rfl, rfl, ?_⟩
  refine ⟨[staA ⟨[], [], [], [], 0⟩], ⟨.inr ⟨_, _, rfl, rfl, .inr ⟨_, _, rfl, rfl⟩, .inr ⟨_, _, rfl, rfl⟩, .inr ⟨_, _, rfl, rfl⟩, .inr ⟨_, _, rfl, rfl⟩, .inl rfl, trivial⟩, trivial⟩, rfl, ⟨[], [], [], [], 0⟩, rfl, small_0, ?_⟩
  rw [faults_0]
  refine ⟨[staA (staN (IntKind.i64.wrap n))], ⟨.inr ⟨_, _, rfl, rfl, .inl rfl, .inr ⟨_, _, rfl, rfl⟩, .inr ⟨_, _, rfl, rfl⟩, .inr ⟨_, _, rfl, rfl⟩, .inl rfl, trivial⟩, trivial⟩, rfl, staN (IntKind.i64.wrap n), rfl, small_n _, ?_⟩
  rw [faults_n]
  refine ⟨fun _ => ?_, fun h => Bool.noConfusion (show true = false from h)⟩
  refine ⟨[staA (staN (IntKind.i64.wrap n))], ⟨.inr ⟨_, _, rfl, rfl, .inl rfl, .inr ⟨_, _, rfl, rfl⟩, .inr ⟨_, _, rfl, rfl⟩, .inr ⟨_, _, rfl, rfl⟩, .inl rfl, trivial⟩, trivial⟩, rfl, staN (IntKind.i64.wrap n), rfl, small_n _, ?_⟩
  rw [quiet_n]
  refine ⟨fun _ => ?_, fun h => Bool.noConfusion (show true = false from h)⟩
  refine ⟨[staA (staN (IntKind.i64.wrap n))], ⟨.inr ⟨_, _, rfl, rfl, .inl rfl, .inr ⟨_, _, rfl, rfl⟩, .inr ⟨_, _, rfl, rfl⟩, .inr ⟨_, _, rfl, rfl⟩, .inl rfl, trivial⟩, trivial⟩, rfl, staN (IntKind.i64.wrap n), rfl, small_n _, ?_⟩
  have hh : heldL (staN (IntKind.i64.wrap n)) = [0, 0, 0, 0, 0, 0, 0, 0, 0] := rfl
  rw [hh]
  refine ⟨fun _ => ?_, fun h => Bool.noConfusion (show true = false from h)⟩
  refine ⟨fun _ => ?_, fun h => Bool.noConfusion (show true = false from h)⟩
  refine ⟨_, Int.le_refl 0, rfl, ?_⟩
  exact hK
end Go.Proofs.Ytladmojeadggiaa.A
