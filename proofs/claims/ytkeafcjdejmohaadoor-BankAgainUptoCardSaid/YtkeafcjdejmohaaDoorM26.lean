/- hawalalaw11, hawalalaw16: Same, awake. -/
import Derived.Test.YtkeafcjdejmohaaDoorM25
import Derived.Test.YtkeafcjdejmohaaDoorGE
namespace Go.Proofs.YtkeafcjdejmohaaDoor.A
open Go Q
theorem kno_ext {a b : Kno} (h : a.req = b.req ∧ a.err = b.err ∧ a.id = b.id ∧ a.told = b.told) : a = b := by cases a; cases b; simp_all
def sameKC (args : List AV) (bs : List Box) (K : AV → List Box → Prop) : Prop := bs = [] ∧ ∃ l m : List Kno, args = [knsA l, knsA m] ∧ l.length ≤ 1000000 ∧ (l = m → K (.bool true) []) ∧ (l ≠ m → K (.bool false) [])
set_option maxRecDepth 200000 in
set_option maxHeartbeats 3200000 in
theorem sameK_ok : FnOk Tryd.prog tab 51 sameKC := by
  refine fn_ok (E := R0_E pl51) tab_is R0_ok (R0_J _) Tryd.func51 rfl rfl (by kernel_rfl) ?_
  rintro args bs K ⟨rfl, l, m, rfl, hN, hy, hn⟩
  refine ⟨rfl, ?_⟩
  constructor
  · intro h
    refine hn fun e => ?_
    subst e
    simp at h
  · intro h
    have hlen : l.length = m.length := by
      have h : (((l.map knoA).length : Nat) : Int) = (m.map knoA).length := by simpa using h
      simp at h; omega
    refine ⟨fun mm st => ∃ (i : Nat), (i ≤ l.length ∧ ∀ (j : Nat) (a b : Kno), j < i → l[j]? = some a → m[j]? = some b → a = b) ∧ l.length - i = mm ∧ st.t 0 = knsA l ∧ st.t 1 = knsA m ∧ st.t 12 = .int .i64 ((l.map knoA).length : Nat) ∧ st.t 13 = .int .i64 i,
      ⟨_, 0, ⟨Nat.zero_le _, fun j a b hj => absurd hj (Nat.not_lt_zero _)⟩, rfl, rfl, rfl, rfl, rfl⟩, ?_⟩
    rintro _ ⟨t1, h1⟩ ⟨i, ⟨hi, hX⟩, rfl, e0, e1, e12, e13⟩
    have e0 : t1 0 = knsA l := e0
    have e1 : t1 1 = knsA m := e1
    have e12 : t1 12 = .int .i64 ((l.map knoA).length : Nat) := e12
    have e13 : t1 13 = .int .i64 i := e13
    rw [← updL_has t1 [(0, knsA l), (1, knsA m), (12, .int .i64 ((l.map knoA).length : Nat)), (13, .int .i64 i)] ⟨e0, e1, e12, e13, trivial⟩]
    constructor
    · intro hb
      have hi' : i < l.length := by
        have : (i : Int) < ((l.map knoA).length : Nat) := by simpa using hb
        simp at this; omega
      have w : IntKind.i64.wrap ((i : Int) + 1) = ((i + 1 : Nat) : Int) := by rw [wrap_of] <;> omega
      have hlt : l.length - (i + 1) < l.length - i := by omega
      obtain ⟨a, hx⟩ : ∃ x, l[i]? = some x := ⟨_, List.getElem?_eq_getElem hi'⟩
      have hm := List.mem_of_getElem? hx
      have hdr := drop_at hx
      obtain ⟨b, hb2⟩ : ∃ b, m[i]? = some b := ⟨_, List.getElem?_eq_getElem (by omega)⟩
      refine ⟨_, Int.natCast_nonneg i, map_of hx, ?_⟩
      refine ⟨_, Int.natCast_nonneg i, map_of hb2, ?_⟩
      refine ⟨fun h => hn (list_ne_at hx hb2 fun e => ?_), fun h => ?_⟩
      · subst e
        simp at h
      · have hab : a = b := by
          simp at h
          exact kno_ext ⟨req_ext ⟨h.1, h.2.1, h.2.2.1, h.2.2.2.1, h.2.2.2.2.1, h.2.2.2.2.2.1, h.2.2.2.2.2.2.1⟩, h.2.2.2.2.2.2.2.1, h.2.2.2.2.2.2.2.2.1, h.2.2.2.2.2.2.2.2.2⟩
        refine ⟨_, hlt, i + 1, ⟨hi', fun j x y hj hxj hyj => ?_⟩, rfl, rfl, rfl, rfl, congrArg (AV.int .i64) w⟩
        by_cases he : j = i
        · rw [he] at hxj hyj
          rw [hx] at hxj; rw [hb2] at hyj
          cases hxj; cases hyj; exact hab
        · exact hX j x y (by omega) hxj hyj
    · intro hb
      have hi' : i = l.length := by
        have : ¬ (i : Int) < ((l.map knoA).length : Nat) := by simpa using hb
        simp at this; omega
      subst hi'
      exact hy (list_eq_of hlen fun j a b ha hb => hX j a b (List.getElem?_eq_some_iff.1 ha).1 ha hb)
def SameK (s t : Sta) : Prop := SameS s t ∧ s.kns = t.kns
theorem SameK.refl (s : Sta) : SameK s s := ⟨⟨rfl, rfl, rfl⟩, rfl⟩
def same16C (args : List AV) (bs : List Box) (K : AV → List Box → Prop) : Prop := bs = [] ∧ ∃ s t : Sta, args = [staA s, staA t] ∧ SzA s ∧ s.kns.length ≤ 1000000 ∧ (SameK s t → K (.bool true) []) ∧ (¬ SameK s t → K (.bool false) [])
def RS16 : Contract
  | 15 => sameSC
  | 51 => sameKC
  | _ => fun _ _ _ => False
theorem RS16_ok : CallOk Tryd.prog tab RS16 := by
  intro f args bs K h
  unfold RS16 at h
  split at h
  · exact ⟨_, h, sameS_ok⟩
  · exact ⟨_, h, sameK_ok⟩
  · exact h.elim
def RS16_E (pl : Nat → Plan) : En := ⟨tab, RS16, fun _ => none, 0, pl⟩
theorem RS16_J (pl : Nat → Plan) : JOk Tryd.prog (RS16_E pl).T (RS16_E pl).J := fun _ _ h => by cases h
set_option maxRecDepth 200000 in
set_option maxHeartbeats 3200000 in
theorem same16_ok : FnOk Tryd.prog tab 25 same16C := by
  refine fn_ok (E := RS16_E pl25) tab_is RS16_ok (RS16_J _) Tryd.func25 rfl rfl (by kernel_rfl) ?_
  rintro args bs K ⟨rfl, s, t, rfl, hz, hk, hy, hn⟩
  refine ⟨rfl, ?_⟩
  refine ⟨rfl, s, t, rfl, hz, fun h => ?_, fun h => ?_⟩
  · refine ⟨fun _ => ?_, fun h => Bool.noConfusion (show true = false from h)⟩
    refine ⟨rfl, s.kns, t.kns, rfl, hk, fun h2 => ?_, fun h2 => ?_⟩
    · exact hy ⟨h, h2⟩
    · exact hn fun e => h2 e.2
  · refine ⟨fun h => Bool.noConfusion (show false = true from h), fun _ => ?_⟩
    exact hn fun e => h e.1
theorem FnOk.nilT {P : Program} {T : Tab} {f : FuncId} {S : List AV → List Box → (AV → List Box → Prop) → Prop} (h : FnOk P T f S) : FnOk P T f (fun args bs K => S args bs (fun res out => ∃ cs cs', res = .tup cs ∧ NilVL cs cs' ∧ K (.tup cs') out)) := by
  refine ⟨h.1, fun args bs K hS c vs hok hfm hV hB => Calls.mono (h.2 args bs _ hS c vs hok hfm hV hB) ?_⟩
  rintro e w' ⟨v, c', res, out, rfl, rfl, ok', hst, hres, hout, cs, cs', rfl, hN, hK⟩
  refine ⟨v, c', .tup cs', out, rfl, rfl, ok', hst, ?_, hout, hK⟩
  obtain ⟨us, rfl, hvl⟩ := hres.tup_inv
  have hvl' := hN.vl hvl
  exact .tup cs' us hvl'.1 hvl'.2
abbrev repsS (l : List Rep) : AV := .sl .fz 40 (l.map repV)
def brunC (args : List AV) (bs : List Box) (K : AV → List Box → Prop) : Prop := bs = [] ∧ ∃ (s : Sta) (rs : List Req) (legs : List Bool), args = [staA s, reqsS rs, legsA legs] ∧ SzK s ∧ rs.length ≤ 1000000000000 ∧ legs.length ≤ 4611686018427387904 ∧
  K (.tup [staA (brunM s rs legs).1, repsS (brunM s rs legs).2]) []
theorem brun_ok : FnOk Tryd.prog tab 28 brunC := brun_ok0.frz.nilT.mono (by
  rintro args bs K ⟨rfl, s, rs, legs, rfl, hz, hr, hl, hK⟩
  refine ⟨rfl, rfl, s, rs, legs, rfl, hz, hr, hl, ?_⟩
  generalize brunM s rs legs = o at hK
  obtain ⟨x, q⟩ := o
  cases q with
  | nil => exact ⟨_, rfl, [staA x, .sl .nl 0 []], [staA x, repsS []], rfl, ⟨.inl (.inl rfl), .inl (.inr ⟨_, _, rfl, rfl⟩), trivial⟩, hK⟩
  | cons p q => exact ⟨_, rfl, [staA x, repsS (p :: q)], [staA x, repsS (p :: q)], rfl, ⟨.inl (.inl rfl), .inl (.inl rfl), trivial⟩, hK⟩)
/-! ### the document's examples -/
def b16 : Book := ⟨[], [500, 500, 500, 500], []⟩
def r16 : Req := ⟨1, 2, 9, 12, 5, 1, 0⟩
def accs16 : List Acc := [⟨0, -1000, 0⟩, ⟨0, 0, 0⟩, ⟨0, 0, 0⟩, ⟨1, -500, 0⟩, ⟨1, 0, 0⟩, ⟨1, 0, 0⟩, ⟨2, -500, 0⟩, ⟨2, 0, 0⟩, ⟨2, 0, 0⟩, ⟨0, 500, 0⟩, ⟨1, 500, 0⟩, ⟨2, 500, 0⟩, ⟨0, 500, 0⟩, ⟨1, 0, 0⟩, ⟨0, 0, 0⟩]
def sta16 : Sta := ⟨accs16, [], [], [], 0⟩
def sta16b : Sta := ⟨accs16, [], [], [⟨r16, 9, 0, true⟩], 0⟩
theorem aw16_0 : stateM b16 [] 0 = sta16 := by kernel_rfl
theorem aw16_1 : bankM sta16 r16 [false, false, false, false, true] = (sta16b, (9, 0), 4) := by kernel_rfl
theorem aw16_2 : bankM sta16b r16 [] = (sta16b, (9, 0), 0) := by kernel_rfl
theorem b16_in : b16.Ok := ⟨⟨fun _ h => (by cases h), by decide, by decide⟩, by decide⟩
def awake16C (args : List AV) (bs : List Box) (K : AV → List Box → Prop) : Prop := bs = [] ∧ args = [] ∧ K (.bool true) []
def RA16 : Contract
  | 12 => nil2C stateC
  | 24 => nilC bankC
  | _ => fun _ _ _ => False
theorem RA16_ok : CallOk Tryd.prog tab RA16 := by
  intro f args bs K h
  unfold RA16 at h
  split at h
  · exact ⟨_, h, state_ok.nil2⟩
  · exact ⟨_, h, bank_ok2⟩
  · exact h.elim
def RA16_E (pl : Nat → Plan) : En := ⟨tab, RA16, fun _ => none, 0, pl⟩
theorem RA16_J (pl : Nat → Plan) : JOk Tryd.prog (RA16_E pl).T (RA16_E pl).J := fun _ _ h => by cases h
set_option maxRecDepth 200000 in
set_option maxHeartbeats 6400000 in
theorem awake16_ok : FnOk Tryd.prog tab 23 awake16C := by
  refine fn_ok (E := RA16_E pl23) tab_is RA16_ok (RA16_J _) Tryd.func23 rfl rfl (by kernel_rfl) ?_
  rintro args bs K ⟨rfl, rfl, hK⟩
  refine ⟨rfl, ?_⟩
  have hz1 : SzK sta16 := ⟨by decide, by decide, by decide⟩
  have hz2 : SzK sta16b := ⟨by decide, by decide, by decide⟩
  refine ⟨[bkA b16, padS [], .int .u8 0], ⟨.inr ⟨_, [u8S [], u32S [500, 500, 500, 500], u8S []], rfl, rfl, .inr ⟨_, _, rfl, rfl⟩, .inl rfl, .inr ⟨_, _, rfl, rfl⟩, trivial⟩, .inl (.inr ⟨_, _, rfl, rfl⟩), .inl (.inl rfl), trivial⟩, rfl, b16, [], 0, rfl, b16_in.toIn, (fun _ h => by cases h), by decide, ?_⟩
  rw [aw16_0]
  refine ⟨[staA sta16, reqA r16, legsA [false, false, false, false, true]], ⟨.inl rfl, .inl rfl, .inl rfl, trivial⟩, rfl, sta16, r16, [false, false, false, false, true], rfl, hz1, by decide, ?_⟩
  rw [aw16_1]
  refine ⟨[staA sta16b, reqA r16, legsA []], ⟨.inl rfl, .inl rfl, .inr ⟨_, _, rfl, rfl⟩, trivial⟩, rfl, sta16b, r16, [], rfl, hz2, by decide, ?_⟩
  rw [aw16_2]
  refine ⟨fun _ => ?_, fun h => Bool.noConfusion (show true = false from h)⟩
  refine ⟨fun _ => ?_, fun h => Bool.noConfusion (show true = false from h)⟩
  refine ⟨fun _ => ?_, fun h => Bool.noConfusion (show true = false from h)⟩
  refine ⟨fun _ => ?_, fun h => Bool.noConfusion (show true = false from h)⟩
  exact hK
end Go.Proofs.YtkeafcjdejmohaaDoor.A
