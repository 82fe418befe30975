/- bank.Run; hawalalaw16: awake. -/
import Derived.Test.YtkeafcjdejmohaaDoorM25
import Derived.Test.YtkeafcjdejmohaaDoorGE
import Derived.Test.YtkeafcjdejmohaaDoorGS
namespace Go.Proofs.YtkeafcjdejmohaaDoor.A
open Go Q
abbrev repsS (l : List Rep) : AV := .sl .fz 40 (l.map repV)
def brunC (args : List AV) (bs : List Box) (K : AV → List Box → Prop) : Prop := bs = [] ∧ ∃ (s : Sta) (rs : List Req) (legs : List Bool), args = [staA s, reqsS rs, legsA legs] ∧ SzK s ∧ rs.length ≤ 1000000000000 ∧ legs.length ≤ 4611686018427387904 ∧
  K (.tup [staA (brunM s rs legs).1, repsS (brunM s rs legs).2]) []
theorem brun_ok : FnOk Tryd.prog tab 28 brunC := brun_ok0.frz.nilT.mono (by
  rintro args bs K ⟨rfl, s, rs, legs, rfl, hz, hr, hl, hK⟩
  refine ⟨rfl, rfl, s, rs, legs, rfl, hz, hr, hl, ?_⟩
  generalize brunM s rs legs = o at hK
  obtain ⟨x, q⟩ := o
  cases q with
  | nil => exact ⟨_, rfl, [staA x, .sl .nl 0 []], [staA x, repsS []], rfl, ⟨.inl (.inl rfl), .inl (.inr ⟨_, _, rfl, rfl⟩), trivial⟩, hK⟩
  | cons p q => exact ⟨_, rfl, [staA x, repsS (p :: q)], [staA x, repsS (p :: q)], rfl, ⟨.inl (.inl rfl), .inl (.inl rfl), trivial⟩, hK⟩)
/-! ### the document's examples -/
def b16 : Book := ⟨[], [500, 500, 500, 500], []⟩
def r16 : Req := ⟨1, 2, 9, 12, 5, 1, 0⟩
def accs16 : List Acc := [⟨0, -1000, 0⟩, ⟨0, 0, 0⟩, ⟨0, 0, 0⟩, ⟨1, -500, 0⟩, ⟨1, 0, 0⟩, ⟨1, 0, 0⟩, ⟨2, -500, 0⟩, ⟨2, 0, 0⟩, ⟨2, 0, 0⟩, ⟨0, 500, 0⟩, ⟨1, 500, 0⟩, ⟨2, 500, 0⟩, ⟨0, 500, 0⟩, ⟨1, 0, 0⟩, ⟨0, 0, 0⟩]
def sta16 : Sta := ⟨accs16, [], [], [], 0⟩
def sta16b : Sta := ⟨accs16, [], [], [⟨r16, 9, 0, true⟩], 0⟩
theorem aw16_0 : stateM b16 [] 0 = sta16 := by kernel_rfl
theorem aw16_1 : bankM sta16 r16 [false, false, false, false, true] = (sta16b, (9, 0), 4) := by kernel_rfl
theorem aw16_2 : bankM sta16b r16 [] = (sta16b, (9, 0), 0) := by kernel_rfl
theorem b16_in : b16.Ok := ⟨⟨fun _ h => (by cases h), by decide, by decide⟩, by decide⟩
def awake16C (args : List AV) (bs : List Box) (K : AV → List Box → Prop) : Prop := bs = [] ∧ args = [] ∧ K (.bool true) []
def RA16 : Contract
  | 12 => nil2C stateC
  | 24 => nilC bankC
  | _ => fun _ _ _ => False
theorem RA16_ok : CallOk Tryd.prog tab RA16 := by
  intro f args bs K h
  unfold RA16 at h
  split at h
  · exact ⟨_, h, state_ok.nil2⟩
  · exact ⟨_, h, bank_ok2⟩
  · exact h.elim
def RA16_E (pl : Nat → Plan) : En := ⟨tab, RA16, fun _ => none, 0, pl⟩
theorem RA16_J (pl : Nat → Plan) : JOk Tryd.prog (RA16_E pl).T (RA16_E pl).J := fun _ _ h => by cases h
set_option maxRecDepth 200000 in
set_option maxHeartbeats 6400000 in
theorem awake16_ok : FnOk Tryd.prog tab 23 awake16C := by
  refine fn_ok (E := RA16_E pl23) tab_is RA16_ok (RA16_J _) Tryd.func23 rfl rfl (by kernel_rfl) ?_
  rintro args bs K ⟨rfl, rfl, hK⟩
  refine ⟨rfl, ?_⟩
  have hz1 : SzK sta16 := ⟨by decide, by decide, by decide⟩
  have hz2 : SzK sta16b := ⟨by decide, by decide, by decide⟩
  refine ⟨[bkA b16, padS [], .int .u8 0], ⟨.inr ⟨_, [u8S [], u32S [500, 500, 500, 500], u8S []], rfl, rfl, .inr ⟨_, _, rfl, rfl⟩, .inl rfl, .inr ⟨_, _, rfl, rfl⟩, trivial⟩, .inl (.inr ⟨_, _, rfl, rfl⟩), .inl (.inl rfl), trivial⟩, rfl, b16, [], 0, rfl, b16_in.toIn, (fun _ h => by cases h), by decide, ?_⟩
  rw [aw16_0]
  refine ⟨[staA sta16, reqA r16, legsA [false, false, false, false, true]], ⟨.inl rfl, .inl rfl, .inl rfl, trivial⟩, rfl, sta16, r16, [false, false, false, false, true], rfl, hz1, by decide, ?_⟩
  rw [aw16_1]
  refine ⟨[staA sta16b, reqA r16, legsA []], ⟨.inl rfl, .inl rfl, .inr ⟨_, _, rfl, rfl⟩, trivial⟩, rfl, sta16b, r16, [], rfl, hz2, by decide, ?_⟩
  rw [aw16_2]
  refine ⟨fun _ => ?_, fun h => Bool.noConfusion (show true = false from h)⟩
  refine ⟨fun _ => ?_, fun h => Bool.noConfusion (show true = false from h)⟩
  refine ⟨fun _ => ?_, fun h => Bool.noConfusion (show true = false from h)⟩
  refine ⟨fun _ => ?_, fun h => Bool.noConfusion (show true = false from h)⟩
  exact hK
end Go.Proofs.YtkeafcjdejmohaaDoor.A
