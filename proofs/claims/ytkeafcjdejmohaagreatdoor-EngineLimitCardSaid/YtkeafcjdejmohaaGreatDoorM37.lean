/- hawalalaw17: EngineAgain, EngineLimit. -/
import Derived.Test.YtkeafcjdejmohaaGreatDoorM36
import Derived.Test.YtkeafcjdejmohaaGreatDoorY11
namespace Go.Proofs.YtkeafcjdejmohaaGreatDoor.A
open Go Q
abbrev reqBx (r : Req) : Option Box := some (.cells 37 [.int .i64 r.key, .int .i64 r.op, .int .i64 r.a, .int .i64 r.b, .int .i64 r.amt, .int .i64 r.legs, .int .i64 r.til])
abbrev repBx (o : Rep) : Option Box := some (.cells 40 [.int .i64 o.1, .int .i64 o.2])
def eagainC (args : List AV) (bs : List Box) (K : AV → List Box → Prop) : Prop := bs = [] ∧ ∃ (b : Book) (l : List Act) (at_ : Int), args = [bkA b, actsS l, .int .u8 at_] ∧ b.Ok ∧ (∀ a ∈ l, a.In) ∧ l.length ≤ 1999900 ∧ K (.bool true) []
def REa17 : Contract
  | 7 => awake17C
  | 8 => nil2C stateC
  | 9 => eventC
  | 10 => engC
  | 11 => same17C
  | _ => fun _ _ _ => False
theorem REa17_ok : CallOk Tryz.prog tab REa17 := by
  intro f args bs K h
  unfold REa17 at h
  split at h
  · exact ⟨_, h, awake17_ok⟩
  · exact ⟨_, h, state_ok.nil2⟩
  · exact ⟨_, h, event_ok⟩
  · exact ⟨_, h, eng_ok⟩
  · exact ⟨_, h, same17_ok⟩
  · exact h.elim
def REa17_E (pl : Nat → Plan) : En := ⟨tab, REa17, fun _ => none, 0, pl⟩
theorem REa17_J (pl : Nat → Plan) : JOk Tryz.prog (REa17_E pl).T (REa17_E pl).J := fun _ _ h => by cases h
set_option maxRecDepth 200000 in
set_option maxHeartbeats 12800000 in
theorem eagain_ok : FnOk Tryz.prog tab 3 eagainC := by
  refine fn_ok (E := REa17_E pl3) tab_is REa17_ok (REa17_J _) Tryz.func3 rfl rfl (by kernel_rfl) ?_
  rintro args bs K ⟨rfl, b, l, at_, rfl, hb, hl, hll, hK⟩
  refine ⟨rfl, ?_⟩
  refine ⟨rfl, rfl, ?_⟩
  refine ⟨fun h => Bool.noConfusion (show false = true from h), fun _ => ?_⟩
  refine ⟨[bkA b, padS [], .int .u8 0], ⟨.inl (.inl rfl), .inl (.inr ⟨_, _, rfl, rfl⟩), .inl (.inl rfl), trivial⟩, rfl, b, [], 0, rfl, hb.toIn, (fun _ h => by cases h), by decide, ?_⟩
  have hS0 : EngS (stateM b [] 0) := state_eng hb (fun _ h => by cases h) (Nat.zero_le _)
  generalize stateM b [] 0 = s0 at hS0 ⊢
  refine ⟨fun mm st => ∃ (i : Nat) (s : Sta) (r : Req) (o : Rep) (is : Bool), (i ≤ l.length ∧ EngS s ∧ (is = true → Rem s r o)) ∧ l.length - i = mm ∧ st.t 22 = actsS l ∧ st.t 23 = .int .i64 ((l.map actA).length : Nat) ∧ st.t 24 = .int .i64 i ∧ st.t 2 = .int .u8 at_ ∧ st.t 7 = .ptr 7 0 ∧ st.t 8 = .ptr 8 0 ∧ st.t 9 = .ptr 9 0 ∧ st.t 10 = .bool is ∧ st.h 7 = staB s ∧ st.h 8 = reqBx r ∧ st.h 9 = repBx o,
    ⟨_, 0, s0, req0, (0, 0), false, ⟨Nat.zero_le _, hS0, fun h => absurd h (by decide)⟩, rfl, rfl, rfl, rfl, rfl, rfl, rfl, rfl, rfl, rfl, rfl, rfl⟩, ?_⟩
  rintro _ ⟨t1, h1⟩ ⟨i, s, r, o, is, ⟨hi, hS, hR⟩, rfl, e22, e23, e24, e2, e7, e8, e9, e10, b7, b8, b9⟩
  have e22 : t1 22 = actsS l := e22
  have e23 : t1 23 = .int .i64 ((l.map actA).length : Nat) := e23
  have e24 : t1 24 = .int .i64 i := e24
  have e2 : t1 2 = .int .u8 at_ := e2
  have e7 : t1 7 = .ptr 7 0 := e7
  have e8 : t1 8 = .ptr 8 0 := e8
  have e9 : t1 9 = .ptr 9 0 := e9
  have e10 : t1 10 = .bool is := e10
  have b7 : h1 7 = staB s := b7
  have b8 : h1 8 = reqBx r := b8
  have b9 : h1 9 = repBx o := b9
  rw [← updL_has t1 [(22, actsS l), (23, .int .i64 ((l.map actA).length : Nat)), (24, .int .i64 i), (2, .int .u8 at_), (7, .ptr 7 0), (8, .ptr 8 0), (9, .ptr 9 0), (10, .bool is)] ⟨e22, e23, e24, e2, e7, e8, e9, e10, trivial⟩, ← updL_has h1 [(7, staB s), (8, reqBx r), (9, repBx o)] ⟨b7, b8, b9, trivial⟩]
  cases is with
  | true =>
    constructor
    · intro hb
      have hi' : i < l.length := by
        have : (i : Int) < ((l.map actA).length : Nat) := by simpa using hb
        simp at this; omega
      have w : IntKind.i64.wrap ((i : Int) + 1) = ((i + 1 : Nat) : Int) := by rw [wrap_of] <;> omega
      have hlt : l.length - (i + 1) < l.length - i := by omega
      obtain ⟨a, hx⟩ : ∃ x, l[i]? = some x := ⟨_, List.getElem?_eq_getElem hi'⟩
      have hm := List.mem_of_getElem? hx
      have hdr := drop_at hx
      have hS17 := hS.z.ls
      refine ⟨_, Int.natCast_nonneg i, map_of hx, ?_⟩
      refine ⟨rfl, a, s, rfl, hl a hm, by omega, ?_⟩
      generalize eventM a s = e
      refine ⟨rfl, s, e, rfl, hS.z, fun _ => hS.tell, ?_⟩
      have hN := @Rem.told s e
      have hS2 := hS.eng e
      have hR2 := fun h => (hR h).eng hS e
      generalize engM s e = q at hN hS2 hR2 ⊢
      obtain ⟨x, p⟩ := q
      dsimp only at hN hS2 hR2
      refine ⟨fun h1 => ?_, fun _ => ?_⟩
      · repeat' first
          | (exact ⟨_, hlt, i + 1, x, r, o, true, ⟨hi', hS2, hR2⟩, rfl, rfl, rfl, congrArg (AV.int .i64) w, rfl, rfl, rfl, rfl, rfl, rfl, rfl, rfl⟩)
          | (refine ⟨fun _ => ?_, fun h => Bool.noConfusion (show true = false from h)⟩)
          | (refine ⟨fun h => Bool.noConfusion (show false = true from h), fun _ => ?_⟩)
          | (refine And.intro ?_ ?_)
      · repeat' first
          | (exact ⟨_, hlt, i + 1, x, r, o, true, ⟨hi', hS2, hR2⟩, rfl, rfl, rfl, congrArg (AV.int .i64) w, rfl, rfl, rfl, rfl, rfl, rfl, rfl, rfl⟩)
          | (refine ⟨fun _ => ?_, fun h => Bool.noConfusion (show true = false from h)⟩)
          | (refine ⟨fun h => Bool.noConfusion (show false = true from h), fun _ => ?_⟩)
          | (refine And.intro ?_ ?_)
    · intro hb
      have hi' : i = l.length := by
        have : ¬ (i : Int) < ((l.map actA).length : Nat) := by simpa using hb
        simp at this; omega
      subst hi'
      refine ⟨fun h => Bool.noConfusion (show false = true from h), fun _ => ?_⟩
      have hA : engM s ⟨0, r, 0, false⟩ = (s, o) := by
        unfold engM
        rw [if_pos rfl]
        exact (hR rfl).again hS rfl
      refine ⟨rfl, s, ⟨0, r, 0, false⟩, rfl, hS.z, fun _ => hS.tell, ?_⟩
      rw [hA]
      refine ⟨fun _ => ?_, fun h => absurd h (by simp)⟩
      exact ⟨rfl, s, rfl, hS, hK⟩
  | false =>
    constructor
    · intro hb
      have hi' : i < l.length := by
        have : (i : Int) < ((l.map actA).length : Nat) := by simpa using hb
        simp at this; omega
      have w : IntKind.i64.wrap ((i : Int) + 1) = ((i + 1 : Nat) : Int) := by rw [wrap_of] <;> omega
      have hlt : l.length - (i + 1) < l.length - i := by omega
      obtain ⟨a, hx⟩ : ∃ x, l[i]? = some x := ⟨_, List.getElem?_eq_getElem hi'⟩
      have hm := List.mem_of_getElem? hx
      have hdr := drop_at hx
      have hS17 := hS.z.ls
      refine ⟨_, Int.natCast_nonneg i, map_of hx, ?_⟩
      refine ⟨rfl, a, s, rfl, hl a hm, by omega, ?_⟩
      generalize eventM a s = e
      refine ⟨rfl, s, e, rfl, hS.z, fun _ => hS.tell, ?_⟩
      have hN := @Rem.told s e
      have hS2 := hS.eng e
      have hR2 := fun h => (hR h).eng hS e
      generalize engM s e = q at hN hS2 hR2 ⊢
      obtain ⟨x, p⟩ := q
      dsimp only at hN hS2 hR2
      refine ⟨fun h1 => ?_, fun _ => ?_⟩
      · refine ⟨fun _ => ?_, fun h => Bool.noConfusion (show true = false from h)⟩
        refine ⟨(by decide : (4 : Int) ≠ 0), ?_⟩
        refine ⟨fun _ => ?_, fun _ => ?_⟩
        · refine ⟨fun h10 => ?_, fun _ => ?_⟩
          · refine ⟨fun h5 => ?_, fun _ => ?_⟩
            · refine ⟨fun h7 => ?_, fun _ => ?_⟩
              · have hR3 := hN (beqT h1) (bneT h10) (bneT h5) (bneT h7)
                repeat' first
                  | (exact ⟨_, hlt, i + 1, x, e.req, p, true, ⟨hi', hS2, fun _ => hR3⟩, rfl, rfl, rfl, congrArg (AV.int .i64) w, rfl, rfl, rfl, rfl, rfl, rfl, rfl, rfl⟩)
                  | (refine ⟨fun _ => ?_, fun h => Bool.noConfusion (show true = false from h)⟩)
                  | (refine ⟨fun h => Bool.noConfusion (show false = true from h), fun _ => ?_⟩)
                  | (refine And.intro ?_ ?_)
              · repeat' first
                  | (exact ⟨_, hlt, i + 1, x, r, o, false, ⟨hi', hS2, hR2⟩, rfl, rfl, rfl, congrArg (AV.int .i64) w, rfl, rfl, rfl, rfl, rfl, rfl, rfl, rfl⟩)
                  | (refine ⟨fun _ => ?_, fun h => Bool.noConfusion (show true = false from h)⟩)
                  | (refine ⟨fun h => Bool.noConfusion (show false = true from h), fun _ => ?_⟩)
                  | (refine And.intro ?_ ?_)
            · repeat' first
                | (exact ⟨_, hlt, i + 1, x, r, o, false, ⟨hi', hS2, hR2⟩, rfl, rfl, rfl, congrArg (AV.int .i64) w, rfl, rfl, rfl, rfl, rfl, rfl, rfl, rfl⟩)
                | (refine ⟨fun _ => ?_, fun h => Bool.noConfusion (show true = false from h)⟩)
                | (refine ⟨fun h => Bool.noConfusion (show false = true from h), fun _ => ?_⟩)
                | (refine And.intro ?_ ?_)
          · repeat' first
              | (exact ⟨_, hlt, i + 1, x, r, o, false, ⟨hi', hS2, hR2⟩, rfl, rfl, rfl, congrArg (AV.int .i64) w, rfl, rfl, rfl, rfl, rfl, rfl, rfl, rfl⟩)
              | (refine ⟨fun _ => ?_, fun h => Bool.noConfusion (show true = false from h)⟩)
              | (refine ⟨fun h => Bool.noConfusion (show false = true from h), fun _ => ?_⟩)
              | (refine And.intro ?_ ?_)
        · repeat' first
            | (exact ⟨_, hlt, i + 1, x, r, o, false, ⟨hi', hS2, hR2⟩, rfl, rfl, rfl, congrArg (AV.int .i64) w, rfl, rfl, rfl, rfl, rfl, rfl, rfl, rfl⟩)
            | (refine ⟨fun _ => ?_, fun h => Bool.noConfusion (show true = false from h)⟩)
            | (refine ⟨fun h => Bool.noConfusion (show false = true from h), fun _ => ?_⟩)
            | (refine And.intro ?_ ?_)
      · repeat' first
          | (exact ⟨_, hlt, i + 1, x, r, o, false, ⟨hi', hS2, hR2⟩, rfl, rfl, rfl, congrArg (AV.int .i64) w, rfl, rfl, rfl, rfl, rfl, rfl, rfl, rfl⟩)
          | (refine ⟨fun _ => ?_, fun h => Bool.noConfusion (show true = false from h)⟩)
          | (refine ⟨fun h => Bool.noConfusion (show false = true from h), fun _ => ?_⟩)
          | (refine And.intro ?_ ?_)
    · intro hb
      have hi' : i = l.length := by
        have : ¬ (i : Int) < ((l.map actA).length : Nat) := by simpa using hb
        simp at this; omega
      subst hi'
      repeat' first
        | (exact hK)
        | (refine ⟨fun _ => ?_, fun h => Bool.noConfusion (show true = false from h)⟩)
        | (refine ⟨fun h => Bool.noConfusion (show false = true from h), fun _ => ?_⟩)
        | (refine And.intro ?_ ?_)
/-! ### EngineLimit -/
def elimC (args : List AV) (bs : List Box) (K : AV → List Box → Prop) : Prop := bs = [] ∧ ∃ (n am : Int), args = [.int .u8 n, .int .u8 am] ∧ u8I n ∧ u8I am ∧ K (.bool true) []
theorem b90_in : b90.Ok := ⟨⟨fun _ h => (by cases h), by decide, by decide⟩, by decide⟩
theorem min_i (k : Nat) : (if (16 : Int) < (k : Int) then (16 : Int) else (k : Int)) = ((min k 16 : Nat) : Int) := by
  split <;> omega
set_option maxRecDepth 200000 in
set_option maxHeartbeats 12800000 in
theorem elim_ok : FnOk Tryz.prog tab 5 elimC := by
  refine fn_ok (E := REa17_E pl5) tab_is REa17_ok (REa17_J _) Tryz.func5 rfl rfl (by kernel_rfl) ?_
  rintro args bs K ⟨rfl, n, am, rfl, hn, ha, hK⟩
  refine ⟨rfl, ?_⟩
  have fin : ∀ c, c = true → K (.bool c) [] := fun c e => e ▸ hK
  refine ⟨rfl, rfl, ?_⟩
  refine ⟨fun h => Bool.noConfusion (show false = true from h), fun _ => ?_⟩
  refine ⟨[bkA b90, padS [], .int .u8 0], ⟨.inr ⟨_, [u8S [], u32S [90000, 90000, 90000, 90000], u8S []], rfl, rfl, .inr ⟨_, _, rfl, rfl⟩, .inl rfl, .inr ⟨_, _, rfl, rfl⟩, trivial⟩, .inl (.inr ⟨_, _, rfl, rfl⟩), .inl (.inl rfl), trivial⟩, rfl, b90, [], 0, rfl, b90_in.toIn, (fun _ h => by cases h), by decide, ?_⟩
  have hS0 : EngS (stateM b90 [] 0) := state_eng b90_in (fun _ h => by cases h) (Nat.zero_le _)
  rw [lim_0] at hS0 ⊢
  refine ⟨(by decide : (12 : Int) ≠ 0), ?_⟩
  obtain ⟨n0, n1⟩ := tmod_in hn.1 (show (0 : Int) < 12 by decide)
  have a0 := ha.1
  have a1 := ha.2
  obtain ⟨k, hk⟩ : ∃ k : Nat, IntKind.i64.wrap (10 + IntKind.i64.wrap (n.tmod 12)) = (k : Int) ∧ 10 ≤ k ∧ k ≤ 21 := by
    refine ⟨(10 + n.tmod 12).toNat, ?_, by omega, by omega⟩
    rw [wrap_of (n := n.tmod 12) (by omega) (by omega), wrap_of (by omega) (by omega)]; omega
  obtain ⟨hk, k0, k1⟩ := hk
  obtain ⟨amt, hamt⟩ : ∃ amt : Int, IntKind.i64.wrap (1 + IntKind.i64.wrap am) = amt ∧ 1 ≤ amt ∧ amt ≤ 256 := by
    refine ⟨1 + am, ?_, by omega, by omega⟩
    rw [wrap_of (n := am) (by omega) (by omega), wrap_of (by omega) (by omega)]
  obtain ⟨hamt, hb⟩ := hamt
  have hA : AV.int .i64 (IntKind.i64.wrap (1 + IntKind.i64.wrap am)) = .int .i64 amt := congrArg (AV.int .i64) hamt
  refine ⟨fun mm st => ∃ (i : Nat) (s : Sta), (i ≤ k ∧ EngS s ∧ s = limS s90 amt (min i 16)) ∧ k - i = mm ∧ st.t 5 = .ptr 5 0 ∧ st.t 6 = .int .i64 k ∧ st.t 7 = .int .i64 i ∧ st.t 1 = .int .u8 am ∧ st.h 5 = staB s,
    ⟨_, 0, s90, ⟨Nat.zero_le _, hS0, (lim_00 amt).symm⟩, rfl, rfl, congrArg (AV.int .i64) hk, rfl, rfl, rfl⟩, ?_⟩
  rintro _ ⟨t1, h1⟩ ⟨i, s, ⟨hi, hS, he⟩, rfl, e5, e6, e7, e1, b5⟩
  have e5 : t1 5 = .ptr 5 0 := e5
  have e6 : t1 6 = .int .i64 k := e6
  have e7 : t1 7 = .int .i64 i := e7
  have e1 : t1 1 = .int .u8 am := e1
  have b5 : h1 5 = staB s := b5
  rw [← updL_has t1 [(5, .ptr 5 0), (6, .int .i64 k), (7, .int .i64 i), (1, .int .u8 am)] ⟨e5, e6, e7, e1, trivial⟩, ← updL_has h1 [(5, staB s)] ⟨b5, trivial⟩]
  refine ⟨fun hc => ?_, fun hc => ?_⟩
  · have hi' : i < k := by have := decT hc; omega
    have w : IntKind.i64.wrap ((i : Int) + 1) = ((i + 1 : Nat) : Int) := by rw [wrap_of] <;> omega
    have hlt : k - (i + 1) < k - i := by omega
    have hD : engM s ⟨0, limR amt i, 0, false⟩ = (limS s90 amt (min (i + 1) 16), (if i < 16 then 10 else 7, 0)) := by rw [he]; exact lim_eng hb (by omega)
    have hS2 := hS.eng ⟨0, limR amt i, 0, false⟩
    refine ⟨rfl, s, ⟨0, limR amt i, 0, false⟩, (by rw [← hamt]; rfl), hS.z, fun _ => hS.tell, ?_⟩
    by_cases h16 : i < 16
    · have b1 : decide ((i : Int) < 16) = true := decide_eq_true (by omega)
      have b2 : decide ((i : Int) ≥ 16) = false := decide_eq_false (by omega)
      rw [hD] at hS2
      rw [hD, if_pos h16]
      repeat' first
        | (refine ⟨fun _ => ?_, fun h => absurd (b1.symm.trans h) (by decide)⟩)
        | (refine ⟨fun h => absurd (b2.symm.trans h) (by decide), fun _ => ?_⟩)
        | (exact ⟨_, hlt, i + 1, _, ⟨hi', hS2, rfl⟩, rfl, rfl, rfl, congrArg (AV.int .i64) w, rfl, rfl⟩)
        | (refine ⟨fun _ => ?_, fun h => Bool.noConfusion (show true = false from h)⟩)
        | (refine ⟨fun h => Bool.noConfusion (show false = true from h), fun _ => ?_⟩)
        | (refine And.intro ?_ ?_)
    · have b1 : decide ((i : Int) < 16) = false := decide_eq_false (by omega)
      have b2 : decide ((i : Int) ≥ 16) = true := decide_eq_true (by omega)
      have hs : limS s90 amt (min (i + 1) 16) = s := by rw [he]; congr 1; omega
      rw [hD, hs] at hS2
      rw [hD, hs, if_neg h16]
      repeat' first
        | (refine ⟨fun _ => ?_, fun h => absurd (b2.symm.trans h) (by decide)⟩)
        | (refine ⟨fun h => absurd (b1.symm.trans h) (by decide), fun _ => ?_⟩)
        | (refine ⟨rfl, s, rfl, hS, ?_⟩)
        | (exact ⟨_, hlt, i + 1, s, ⟨hi', hS, hs.symm⟩, rfl, rfl, rfl, congrArg (AV.int .i64) w, rfl, rfl⟩)
        | (refine ⟨fun _ => ?_, fun h => Bool.noConfusion (show true = false from h)⟩)
        | (refine ⟨fun h => Bool.noConfusion (show false = true from h), fun _ => ?_⟩)
        | (refine And.intro ?_ ?_)
  · have hi' : i = k := by have := decF hc; omega
    subst hi'
    have hls : s.sags.length = min i 16 := by rw [he]; simp [limS]
    have hlk : s.kns.length = min i 16 := by rw [he]; simp [limS]
    have h9 : (s.accs.map accA)[(9 : Int).toNat]? = some (accA ⟨0, 90000, ((min i 16 : Nat) : Int) * amt⟩) := by rw [he]; rfl
    have c1 : ((((s.sags.map sagA).length : Nat) : Int) == (if (16 : Int) < (i : Int) then (16 : Int) else (i : Int))) = true := by rw [List.length_map, hls, min_i]; simp
    have c2 : ((((s.kns.map knoA).length : Nat) : Int) == (if (16 : Int) < (i : Int) then (16 : Int) else (i : Int))) = true := by rw [List.length_map, hlk, min_i]; simp
    have hm : ((min i 16 : Nat) : Int) * amt ≤ 16 * 256 := Int.mul_le_mul (by omega) hb.2 (by omega) (by omega)
    have hm0 : 0 ≤ ((min i 16 : Nat) : Int) * amt := Int.mul_nonneg (by omega) (by omega)
    have c3 : (((min i 16 : Nat) : Int) * amt == IntKind.i64.wrap ((if (16 : Int) < (i : Int) then (16 : Int) else (i : Int)) * IntKind.i64.wrap (1 + IntKind.i64.wrap am))) = true := by
      rw [hamt, min_i, wrap_of (by omega) (by omega)]; simp
    repeat' first
      | (refine ⟨fun _ => ?_, fun h => absurd (c1.symm.trans h) (by decide)⟩)
      | (refine ⟨fun _ => ?_, fun h => absurd (c2.symm.trans h) (by decide)⟩)
      | (refine ⟨_, (by decide), h9, ?_⟩)
      | (exact fin _ c3)
      | (refine ⟨fun _ => ?_, fun h => Bool.noConfusion (show true = false from h)⟩)
      | (refine ⟨fun h => Bool.noConfusion (show false = true from h), fun _ => ?_⟩)
      | (refine And.intro ?_ ?_)
end Go.Proofs.YtkeafcjdejmohaaGreatDoor.A
