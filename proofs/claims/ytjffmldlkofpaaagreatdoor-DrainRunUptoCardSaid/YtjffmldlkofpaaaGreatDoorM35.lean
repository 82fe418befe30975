/- hawalalaw17: Act.Event, Same. -/
import Derived.Test.YtjffmldlkofpaaaGreatDoorM34
import Derived.Test.YtjffmldlkofpaaaGreatDoorY9
import Derived.Test.YtjffmldlkofpaaaGreatDoorGY
import Derived.Test.YtjffmldlkofpaaaGreatDoorGS
namespace Go.Proofs.YtjffmldlkofpaaaGreatDoor.A
open Go Q
def runC (args : List AV) (bs : List Box) (K : AV → List Box → Prop) : Prop := bs = [] ∧ ∃ (s : Sta) (es : List Evt), args = [staA s, .sl .fz 52 (es.map evtA)] ∧ RunOk s es ∧ es.length ≤ 1000000000000 ∧
  K (.tup [staA (runE s es).1, repsS (runE s es).2]) []
theorem run_ok : FnOk Tryz.prog tab 40 runC := run_ok0.frz.nilT.mono (by
  rintro args bs K ⟨rfl, s, es, rfl, hz, hl, hK⟩
  refine ⟨rfl, rfl, s, es, rfl, hz, hl, ?_⟩
  generalize runE s es = o at hK
  obtain ⟨x, q⟩ := o
  cases q with
  | nil => exact ⟨_, rfl, [staA x, .sl .nl 0 []], [staA x, repsS []], rfl, ⟨.inl (.inl rfl), .inl (.inr ⟨_, _, rfl, rfl⟩), trivial⟩, hK⟩
  | cons p q => exact ⟨_, rfl, [staA x, repsS (p :: q)], [staA x, repsS (p :: q)], rfl, ⟨.inl (.inl rfl), .inl (.inl rfl), trivial⟩, hK⟩)
theorem EngS.run {s : Sta} (h : EngS s) : ∀ es : List Evt, RunOk s es := fun es => by
  induction es generalizing s with
  | nil => trivial
  | cons e es ih => exact ⟨h.z, fun _ => h.tell, ih (h.eng e)⟩
structure Act where
  kind : Int
  ask : Ask
  key : Int
  ok : Bool
structure Act.In (a : Act) : Prop where
  k : u8I a.kind
  q : a.ask.In
  y : u8I a.key
def actA (a : Act) : AV := .agg [.int .u8 a.kind, .int .u8 a.ask.key, .int .u8 a.ask.op, .int .u8 a.ask.a, .int .u8 a.ask.b, .int .u16 a.ask.amt, .int .u8 a.ask.legs, .int .u8 a.ask.til, .int .u8 a.key, .bool a.ok]
def ak (a : Act) : Int := a.kind.tmod 8
def req0 : Req := ⟨0, 0, 0, 0, 0, 0, 0⟩
def keyE (a : Act) (s : Sta) : Int := if s.sags.length > 0 ∧ a.key < 250 then (match s.sags[((w64 a.key).tmod s.sags.length).toNat]? with
  | some g => g.req.key
  | none => 0) else w64 a.key
def eventM (a : Act) (s : Sta) : Evt := if ak a = 0 ∨ ak a = 1 ∨ ak a = 2 ∨ ak a = 3 then ⟨0, askR a.ask, 0, false⟩ else if ak a = 4 then ⟨2, req0, 0, false⟩ else ⟨1, req0, keyE a s, a.ok⟩
def eventC (args : List AV) (bs : List Box) (K : AV → List Box → Prop) : Prop := bs = [] ∧ ∃ (a : Act) (s : Sta), args = [actA a, staA s] ∧ a.In ∧ s.sags.length ≤ 1000000 ∧ K (evtA (eventM a s)) []
def REv : Contract
  | 24 => askC
  | _ => fun _ _ _ => False
theorem REv_ok : CallOk Tryz.prog tab REv := by
  intro f args bs K h
  unfold REv at h
  split at h
  · exact ⟨_, h, ask_ok⟩
  · exact h.elim
def REv_E (pl : Nat → Plan) : En := ⟨tab, REv, fun _ => none, 0, pl⟩
theorem REv_J (pl : Nat → Plan) : JOk Tryz.prog (REv_E pl).T (REv_E pl).J := fun _ _ h => by cases h
set_option maxRecDepth 200000 in
set_option maxHeartbeats 6400000 in
theorem event_ok : FnOk Tryz.prog tab 36 eventC := by
  refine fn_ok (E := REv_E pl36) tab_is REv_ok (REv_J _) Tryz.func36 rfl rfl (by kernel_rfl) ?_
  rintro args bs K ⟨rfl, a, s, rfl, ha, hl, hK⟩
  refine ⟨rfl, ?_⟩
  refine ⟨(by decide : (8 : Int) ≠ 0), ?_⟩
  unfold eventM at hK
  by_cases h0 : ak a = 0
  · have b0 : (a.kind.tmod 8 == 0) = true := by
      show (ak a == 0) = true
      rw [h0]; rfl
    rw [if_pos (by omega)] at hK
    have hend := hK
    repeat' first
      | (exact hend)
      | (refine ⟨fun _ => ?_, fun h => absurd (b0.symm.trans h) (by decide)⟩)
      | (refine ⟨rfl, a.ask, rfl, ha.q, ?_⟩)
      | (refine ⟨fun _ => ?_, fun h => Bool.noConfusion (show true = false from h)⟩)
      | (refine ⟨fun h => Bool.noConfusion (show false = true from h), fun _ => ?_⟩)
      | (refine And.intro ?_ ?_)
  have b0 : (a.kind.tmod 8 == 0) = false := by
    show (ak a == 0) = false
    simp [h0]
  by_cases h1 : ak a = 1
  · have b1 : (a.kind.tmod 8 == 1) = true := by
      show (ak a == 1) = true
      rw [h1]; rfl
    rw [if_pos (by omega)] at hK
    have hend := hK
    repeat' first
      | (exact hend)
      | (refine ⟨fun h => absurd (b0.symm.trans h) (by decide), fun _ => ?_⟩)
      | (refine ⟨fun _ => ?_, fun h => absurd (b1.symm.trans h) (by decide)⟩)
      | (refine ⟨rfl, a.ask, rfl, ha.q, ?_⟩)
      | (refine ⟨fun _ => ?_, fun h => Bool.noConfusion (show true = false from h)⟩)
      | (refine ⟨fun h => Bool.noConfusion (show false = true from h), fun _ => ?_⟩)
      | (refine And.intro ?_ ?_)
  have b1 : (a.kind.tmod 8 == 1) = false := by
    show (ak a == 1) = false
    simp [h1]
  by_cases h2 : ak a = 2
  · have b2 : (a.kind.tmod 8 == 2) = true := by
      show (ak a == 2) = true
      rw [h2]; rfl
    rw [if_pos (by omega)] at hK
    have hend := hK
    repeat' first
      | (exact hend)
      | (refine ⟨fun h => absurd (b0.symm.trans h) (by decide), fun _ => ?_⟩)
      | (refine ⟨fun h => absurd (b1.symm.trans h) (by decide), fun _ => ?_⟩)
      | (refine ⟨fun _ => ?_, fun h => absurd (b2.symm.trans h) (by decide)⟩)
      | (refine ⟨rfl, a.ask, rfl, ha.q, ?_⟩)
      | (refine ⟨fun _ => ?_, fun h => Bool.noConfusion (show true = false from h)⟩)
      | (refine ⟨fun h => Bool.noConfusion (show false = true from h), fun _ => ?_⟩)
      | (refine And.intro ?_ ?_)
  have b2 : (a.kind.tmod 8 == 2) = false := by
    show (ak a == 2) = false
    simp [h2]
  by_cases h3 : ak a = 3
  · have b3 : (a.kind.tmod 8 == 3) = true := by
      show (ak a == 3) = true
      rw [h3]; rfl
    rw [if_pos (by omega)] at hK
    have hend := hK
    repeat' first
      | (exact hend)
      | (refine ⟨fun h => absurd (b0.symm.trans h) (by decide), fun _ => ?_⟩)
      | (refine ⟨fun h => absurd (b1.symm.trans h) (by decide), fun _ => ?_⟩)
      | (refine ⟨fun h => absurd (b2.symm.trans h) (by decide), fun _ => ?_⟩)
      | (refine ⟨fun _ => ?_, fun h => absurd (b3.symm.trans h) (by decide)⟩)
      | (refine ⟨rfl, a.ask, rfl, ha.q, ?_⟩)
      | (refine ⟨fun _ => ?_, fun h => Bool.noConfusion (show true = false from h)⟩)
      | (refine ⟨fun h => Bool.noConfusion (show false = true from h), fun _ => ?_⟩)
      | (refine And.intro ?_ ?_)
  have b3 : (a.kind.tmod 8 == 3) = false := by
    show (ak a == 3) = false
    simp [h3]
  rw [if_neg (by omega)] at hK
  by_cases h4 : ak a = 4
  · have b4 : (a.kind.tmod 8 == 4) = true := by
      show (ak a == 4) = true
      rw [h4]; rfl
    rw [if_pos h4] at hK
    have hend := hK
    repeat' first
      | (exact hend)
      | (refine ⟨fun h => absurd (b0.symm.trans h) (by decide), fun _ => ?_⟩)
      | (refine ⟨fun h => absurd (b1.symm.trans h) (by decide), fun _ => ?_⟩)
      | (refine ⟨fun h => absurd (b2.symm.trans h) (by decide), fun _ => ?_⟩)
      | (refine ⟨fun h => absurd (b3.symm.trans h) (by decide), fun _ => ?_⟩)
      | (refine ⟨fun _ => ?_, fun h => absurd (b4.symm.trans h) (by decide)⟩)
      | (refine ⟨fun _ => ?_, fun h => Bool.noConfusion (show true = false from h)⟩)
      | (refine ⟨fun h => Bool.noConfusion (show false = true from h), fun _ => ?_⟩)
      | (refine And.intro ?_ ?_)
  have b4 : (a.kind.tmod 8 == 4) = false := by
    show (ak a == 4) = false
    simp [h4]
  rw [if_neg h4] at hK
  have hw : w64 a.key = a.key := wrap_of (by have := ha.y.1; omega) (by have := ha.y.2; omega)
  have k0 := ha.y.1
  by_cases hs : s.sags.length > 0
  · have c1 : decide (((s.sags.map sagA).length : Nat) > (0 : Int)) = true := by rw [List.length_map]; exact decide_eq_true (by omega)
    by_cases hk : a.key < 250
    · have c2 : decide (a.key < 250) = true := decide_eq_true hk
      have hm0 : 0 ≤ a.key.tmod s.sags.length := Int.tmod_nonneg _ k0
      have hm1 : a.key.tmod s.sags.length < s.sags.length := Int.tmod_lt_of_pos _ (by omega)
      have hwm : (w64 a.key).tmod s.sags.length = a.key.tmod s.sags.length := by rw [hw]
      obtain ⟨g, hg⟩ : ∃ g, s.sags[((w64 a.key).tmod s.sags.length).toNat]? = some g := ⟨_, List.getElem?_eq_getElem (by rw [hwm]; omega)⟩
      have hkE : keyE a s = g.req.key := by unfold keyE; rw [if_pos ⟨hs, hk⟩, hg]
      rw [hkE] at hK
      have hend := hK
      have hn0 : ((((s.sags.map sagA).length : Nat) : Int)) ≠ 0 := by rw [List.length_map]; omega
      have hx : (s.sags.map sagA)[((IntKind.i64.wrap a.key).tmod (((s.sags.map sagA).length : Nat) : Int)).toNat]? = some (sagA g) := by
        rw [List.length_map]; exact map_of hg
      have hx0 : 0 ≤ (IntKind.i64.wrap a.key).tmod (((s.sags.map sagA).length : Nat) : Int) := by
        rw [List.length_map]
        show 0 ≤ (w64 a.key).tmod s.sags.length
        rw [hwm]; exact hm0
      repeat' first
        | (exact hend)
        | (refine ⟨fun h => absurd (b0.symm.trans h) (by decide), fun _ => ?_⟩)
        | (refine ⟨fun h => absurd (b1.symm.trans h) (by decide), fun _ => ?_⟩)
        | (refine ⟨fun h => absurd (b2.symm.trans h) (by decide), fun _ => ?_⟩)
        | (refine ⟨fun h => absurd (b3.symm.trans h) (by decide), fun _ => ?_⟩)
        | (refine ⟨fun h => absurd (b4.symm.trans h) (by decide), fun _ => ?_⟩)
        | (refine ⟨fun _ => ?_, fun h => absurd (c1.symm.trans h) (by decide)⟩)
        | (refine ⟨fun _ => ?_, fun h => absurd (c2.symm.trans h) (by decide)⟩)
        | (refine ⟨hn0, ?_⟩)
        | (refine ⟨_, hx0, hx, ?_⟩)
        | (refine ⟨fun _ => ?_, fun h => Bool.noConfusion (show true = false from h)⟩)
        | (refine ⟨fun h => Bool.noConfusion (show false = true from h), fun _ => ?_⟩)
        | (refine And.intro ?_ ?_)
    · have c2 : decide (a.key < 250) = false := decide_eq_false hk
      have hkE : keyE a s = w64 a.key := by unfold keyE; rw [if_neg (fun h => hk h.2)]
      rw [hkE] at hK
      have hend := hK
      repeat' first
        | (exact hend)
        | (refine ⟨fun h => absurd (b0.symm.trans h) (by decide), fun _ => ?_⟩)
        | (refine ⟨fun h => absurd (b1.symm.trans h) (by decide), fun _ => ?_⟩)
        | (refine ⟨fun h => absurd (b2.symm.trans h) (by decide), fun _ => ?_⟩)
        | (refine ⟨fun h => absurd (b3.symm.trans h) (by decide), fun _ => ?_⟩)
        | (refine ⟨fun h => absurd (b4.symm.trans h) (by decide), fun _ => ?_⟩)
        | (refine ⟨fun _ => ?_, fun h => absurd (c1.symm.trans h) (by decide)⟩)
        | (refine ⟨fun h => absurd (c2.symm.trans h) (by decide), fun _ => ?_⟩)
        | (refine ⟨fun _ => ?_, fun h => Bool.noConfusion (show true = false from h)⟩)
        | (refine ⟨fun h => Bool.noConfusion (show false = true from h), fun _ => ?_⟩)
        | (refine And.intro ?_ ?_)
  · have c1 : decide (((s.sags.map sagA).length : Nat) > (0 : Int)) = false := by rw [List.length_map]; exact decide_eq_false (by omega)
    have hkE : keyE a s = w64 a.key := by unfold keyE; rw [if_neg (fun h => hs h.1)]
    rw [hkE] at hK
    have hend := hK
    repeat' first
      | (exact hend)
      | (refine ⟨fun h => absurd (b0.symm.trans h) (by decide), fun _ => ?_⟩)
      | (refine ⟨fun h => absurd (b1.symm.trans h) (by decide), fun _ => ?_⟩)
      | (refine ⟨fun h => absurd (b2.symm.trans h) (by decide), fun _ => ?_⟩)
      | (refine ⟨fun h => absurd (b3.symm.trans h) (by decide), fun _ => ?_⟩)
      | (refine ⟨fun h => absurd (b4.symm.trans h) (by decide), fun _ => ?_⟩)
      | (refine ⟨fun h => absurd (c1.symm.trans h) (by decide), fun _ => ?_⟩)
      | (refine ⟨fun _ => ?_, fun h => Bool.noConfusion (show true = false from h)⟩)
      | (refine ⟨fun h => Bool.noConfusion (show false = true from h), fun _ => ?_⟩)
      | (refine And.intro ?_ ?_)
def same17C (args : List AV) (bs : List Box) (K : AV → List Box → Prop) : Prop := bs = [] ∧ ∃ s : Sta, args = [staA s, staA s] ∧ EngS s ∧ K (.bool true) []
def RS17 : Contract
  | 26 => same16C
  | _ => fun _ _ _ => False
theorem RS17_ok : CallOk Tryz.prog tab RS17 := by
  intro f args bs K h
  unfold RS17 at h
  split at h
  · exact ⟨_, h, same16_ok⟩
  · exact h.elim
def RS17_E (pl : Nat → Plan) : En := ⟨tab, RS17, fun _ => none, 0, pl⟩
theorem RS17_J (pl : Nat → Plan) : JOk Tryz.prog (RS17_E pl).T (RS17_E pl).J := fun _ _ h => by cases h
set_option maxRecDepth 200000 in
set_option maxHeartbeats 6400000 in
theorem same17_ok : FnOk Tryz.prog tab 20 same17C := by
  refine fn_ok (E := RS17_E pl20) tab_is RS17_ok (RS17_J _) Tryz.func20 rfl rfl (by kernel_rfl) ?_
  rintro args bs K ⟨rfl, s, rfl, hS, hK⟩
  refine ⟨rfl, ?_⟩
  have hls := hS.z.ls
  refine ⟨rfl, s, s, rfl, hS.z.z, (by have := hS.z.lk; omega), fun _ => ?_, fun h => absurd (SameK.refl s) h⟩
  refine ⟨fun h => Bool.noConfusion (show false = true from h), fun _ => ?_⟩
  refine ⟨fun h => absurd h (by simp), fun _ => ?_⟩
  refine ⟨fun mm st => ∃ (i : Nat), (i ≤ s.sags.length) ∧ s.sags.length - i = mm ∧ st.t 21 = .int .i64 ((s.sags.map sagA).length : Nat) ∧ st.t 22 = .int .i64 i ∧ st.t 2 = .ptr 2 0 ∧ st.t 3 = .ptr 3 0 ∧ st.h 2 = staB s ∧ st.h 3 = staB s,
    ⟨_, 0, Nat.zero_le _, rfl, rfl, rfl, rfl, rfl, rfl, rfl⟩, ?_⟩
  rintro _ ⟨t1, h1⟩ ⟨i, hi, rfl, e21, e22, e2, e3, b2, b3⟩
  have e21 : t1 21 = .int .i64 ((s.sags.map sagA).length : Nat) := e21
  have e22 : t1 22 = .int .i64 i := e22
  have e2 : t1 2 = .ptr 2 0 := e2
  have e3 : t1 3 = .ptr 3 0 := e3
  have b2 : h1 2 = staB s := b2
  have b3 : h1 3 = staB s := b3
  rw [← updL_has t1 [(21, .int .i64 ((s.sags.map sagA).length : Nat)), (22, .int .i64 i), (2, .ptr 2 0), (3, .ptr 3 0)] ⟨e21, e22, e2, e3, trivial⟩, ← updL_has h1 [(2, staB s), (3, staB s)] ⟨b2, b3, trivial⟩]
  constructor
  · intro hb
    have hi' : i < s.sags.length := by
      have : (i : Int) < ((s.sags.map sagA).length : Nat) := by simpa using hb
      simp at this; omega
    have w : IntKind.i64.wrap ((i : Int) + 1) = ((i + 1 : Nat) : Int) := by rw [wrap_of] <;> omega
    have hlt : s.sags.length - (i + 1) < s.sags.length - i := by omega
    obtain ⟨g, hx⟩ : ∃ x, s.sags[i]? = some x := ⟨_, List.getElem?_eq_getElem hi'⟩
    have hm := List.mem_of_getElem? hx
    have hdr := drop_at hx
    refine ⟨_, Int.natCast_nonneg i, map_of hx, ?_⟩
    refine ⟨_, Int.natCast_nonneg i, map_of hx, ?_⟩
    refine ⟨fun h => absurd h (by simp), fun _ => ?_⟩
    exact ⟨_, hlt, i + 1, hi', rfl, rfl, congrArg (AV.int .i64) w, rfl, rfl, rfl, rfl⟩
  · intro _
    exact hK
end Go.Proofs.YtjffmldlkofpaaaGreatDoor.A
