/- hawalalaw16: BankLegs. -/
import Derived.Test.YtkeafcjdejmohaaDoorM26
import Derived.Test.YtkeafcjdejmohaaDoorGY
import Derived.Test.YtkeafcjdejmohaaDoorY12
namespace Go.Proofs.YtkeafcjdejmohaaDoor.A
open Go Q
def blegsC (args : List AV) (bs : List Box) (K : AV → List Box → Prop) : Prop := bs = [] ∧ ∃ (b : Book) (qs : List Ask), args = [bkA b, asksS qs] ∧ b.Ok ∧ (∀ a ∈ qs, a.In) ∧ qs.length ≤ 1999900 ∧ K (.bool true) []
def RBl : Contract
  | 23 => awake16C
  | 12 => nil2C stateC
  | 18 => askC
  | 24 => nil2C bankC
  | 15 => sameSC
  | _ => fun _ _ _ => False
theorem RBl_ok : CallOk Tryd.prog tab RBl := by
  intro f args bs K h
  unfold RBl at h
  split at h
  · exact ⟨_, h, awake16_ok⟩
  · exact ⟨_, h, state_ok.nil2⟩
  · exact ⟨_, h, ask_ok⟩
  · exact ⟨_, h, bank_ok.nil2⟩
  · exact ⟨_, h, sameS_ok⟩
  · exact h.elim
def RBl_E (pl : Nat → Plan) : En := ⟨tab, RBl, fun _ => none, 0, pl⟩
theorem RBl_J (pl : Nat → Plan) : JOk Tryd.prog (RBl_E pl).T (RBl_E pl).J := fun _ _ h => by cases h
set_option maxRecDepth 200000 in
set_option maxHeartbeats 12800000 in
theorem blegs_ok : FnOk Tryd.prog tab 8 blegsC := by
  refine fn_ok (E := RBl_E pl8) tab_is RBl_ok (RBl_J _) Tryd.func8 rfl rfl (by kernel_rfl) ?_
  rintro args bs K ⟨rfl, b, qs, rfl, hb, hqs, hql, hK⟩
  refine ⟨rfl, ?_⟩
  refine ⟨rfl, rfl, ?_⟩
  refine ⟨fun h => Bool.noConfusion (show false = true from h), fun _ => ?_⟩
  refine ⟨[bkA b, padS [], .int .u8 0], ⟨.inl (.inl rfl), .inl (.inr ⟨_, _, rfl, rfl⟩), .inl (.inl rfl), trivial⟩, rfl, b, [], 0, rfl, hb.toIn, (fun _ h => by cases h), by decide, ?_⟩
  have hI := state_I (ps := []) 0 hb (fun _ h => by cases h)
  have hL0 : LegI (600000 + 1600000 * ((0 : Nat) : Int)) (stateM b [] 0) := by
    refine ⟨⟨fun _ h => (by cases h), fun _ h => (by cases h), List.nodup_nil, fun _ h => (by cases h)⟩, state_good hb (fun _ h => by cases h) (Int.le_refl 0), fun i a ha => (by have := (accs_bound hI i a ha).1; omega), ⟨by rw [hI.l]; decide, ?_, Nat.zero_le _⟩, rfl⟩
    have := putGo_len (ps := ([] : List Paid)) (t := (bookL (curs6 b) b.has, [])) (k := 0)
    show (putGo (bookL (curs6 b) b.has, []) 0 []).2.length ≤ 1999900
    exact Nat.le_trans this (by show 0 + 0 ≤ 1999900; decide)
  have hz0 : zS (stateM b [] 0) = stateM b [] 0 := rfl
  generalize stateM b [] 0 = s0 at hL0 hz0 ⊢
  refine ⟨fun mm st => ∃ (i : Nat) (s : Sta), (i ≤ qs.length ∧ LegI (600000 + 1600000 * (i : Int)) s) ∧ qs.length - i = mm ∧ st.t 21 = asksS qs ∧ st.t 22 = .int .i64 ((qs.map askAV).length : Nat) ∧ st.t 23 = .int .i64 i ∧ st.t 5 = .ptr 5 0 ∧ st.t 6 = .ptr 6 0 ∧ st.h 5 = staB s ∧ st.h 6 = staB (zS s),
    ⟨_, 0, s0, ⟨Nat.zero_le _, hL0⟩, rfl, rfl, rfl, rfl, rfl, rfl, rfl, congrArg staB hz0.symm⟩, ?_⟩
  rintro _ ⟨t1, h1⟩ ⟨i, s, ⟨hi, hL⟩, rfl, e21, e22, e23, e5, e6, b5, b6⟩
  have e21 : t1 21 = asksS qs := e21
  have e22 : t1 22 = .int .i64 ((qs.map askAV).length : Nat) := e22
  have e23 : t1 23 = .int .i64 i := e23
  have e5 : t1 5 = .ptr 5 0 := e5
  have e6 : t1 6 = .ptr 6 0 := e6
  have b5 : h1 5 = staB s := b5
  have b6 : h1 6 = staB (zS s) := b6
  rw [← updL_has t1 [(21, asksS qs), (22, .int .i64 ((qs.map askAV).length : Nat)), (23, .int .i64 i), (5, .ptr 5 0), (6, .ptr 6 0)] ⟨e21, e22, e23, e5, e6, trivial⟩, ← updL_has h1 [(5, staB s), (6, staB (zS s))] ⟨b5, b6, trivial⟩]
  constructor
  · intro hb
    have hi' : i < qs.length := by
      have : (i : Int) < ((qs.map askAV).length : Nat) := by simpa using hb
      simp at this; omega
    have w : IntKind.i64.wrap ((i : Int) + 1) = ((i + 1 : Nat) : Int) := by rw [wrap_of] <;> omega
    have hlt : qs.length - (i + 1) < qs.length - i := by omega
    obtain ⟨q, hx⟩ : ∃ x, qs[i]? = some x := ⟨_, List.getElem?_eq_getElem hi'⟩
    have hm := List.mem_of_getElem? hx
    have hdr := drop_at hx
    have hq := ask_I (hqs q hm)
    refine ⟨_, Int.natCast_nonneg i, map_of hx, ?_⟩
    refine ⟨rfl, q, rfl, hqs q hm, ?_⟩
    generalize askR q = r at hq ⊢
    obtain ⟨l1, l2⟩ := legs_step hL hq (by omega) (by omega)
    have hzz : SzK (zS s) := ⟨hL.z.la, hL.z.lp, by show (s.kns.map zK).length ≤ 256; rw [List.length_map]; exact hL.z.lk⟩
    refine ⟨[staA s, reqA r, legsA []], ⟨.inl (.inl rfl), .inl (.inl rfl), .inl (.inr ⟨_, _, rfl, rfl⟩), trivial⟩, rfl, s, r, [], rfl, hL.z, by decide, ?_⟩
    refine ⟨[staA (zS s), reqA (zR r), legsA []], ⟨.inl (.inl rfl), .inl (.inl rfl), .inl (.inr ⟨_, _, rfl, rfl⟩), trivial⟩, rfl, zS s, zR r, [], rfl, hzz, by decide, ?_⟩
    generalize bankM s r [] = o at l2 ⊢
    generalize bankM (zS s) (zR r) [] = p at l1 l2 ⊢
    obtain ⟨x, ⟨e, d⟩, n⟩ := o
    obtain ⟨y, ⟨e', d'⟩, n'⟩ := p
    dsimp only at l1 l2 ⊢
    subst l1
    refine ⟨fun hn => ?_, fun hn => ?_⟩
    · refine ⟨fun h1 => ?_, fun h1 => ?_⟩
      · refine ⟨fun h2 => ?_, fun h2 => ?_⟩
        · exfalso
          obtain ⟨he, -⟩ := l2.resolve_left (bneT h1) |>.resolve_left (bneT h2)
          have : (!((e == e') && ((d == d') && true))) = false := by
            have h1 : e' = e := congrArg Prod.fst he
            have h2 : d' = d := congrArg Prod.snd he
            simp [h1, h2]
          exact absurd (this.symm.trans hn) (by decide)
        · refine ⟨fun h => Bool.noConfusion (show false = true from h), fun _ => ?_⟩
          refine ⟨fun h5 => ?_, fun h5 => ?_⟩
          · refine ⟨fun _ => ?_, fun h => Bool.noConfusion (show true = false from h)⟩
            exact hK
          · refine ⟨fun _ => hK, fun h6 => ?_⟩
            obtain ⟨-, rfl, hL⟩ := l2.resolve_left (beqF h5) |>.resolve_left (beqF h6)
            have hsm : SameS x (zS x) := ⟨rfl, rfl, rfl⟩
            refine ⟨rfl, x, zS x, rfl, hL.z.z, fun _ => ?_, fun h => absurd hsm h⟩
            refine ⟨fun h => Bool.noConfusion (show false = true from h), fun _ => ?_⟩
            have hL' : LegI (600000 + 1600000 * ((i + 1 : Nat) : Int)) x := ⟨hL.kn, hL.g, hL.bx.mono (by omega), hL.z, hL.sg⟩
            refine ⟨?_, ?_⟩
            · exact ⟨_, hlt, i + 1, x, ⟨hi', hL'⟩, rfl, rfl, rfl, congrArg (AV.int .i64) w, rfl, rfl, rfl, rfl⟩
            · exact ⟨_, hlt, i + 1, x, ⟨hi', hL'⟩, rfl, rfl, rfl, congrArg (AV.int .i64) w, rfl, rfl, rfl, rfl⟩
      · refine ⟨fun h => Bool.noConfusion (show false = true from h), fun _ => ?_⟩
        refine ⟨fun h => Bool.noConfusion (show false = true from h), fun _ => ?_⟩
        refine ⟨fun h5 => ?_, fun h5 => ?_⟩
        · refine ⟨fun _ => ?_, fun h => Bool.noConfusion (show true = false from h)⟩
          exact hK
        · refine ⟨fun _ => hK, fun h6 => ?_⟩
          obtain ⟨-, rfl, hL⟩ := l2.resolve_left (beqF h5) |>.resolve_left (beqF h6)
          have hsm : SameS x (zS x) := ⟨rfl, rfl, rfl⟩
          refine ⟨rfl, x, zS x, rfl, hL.z.z, fun _ => ?_, fun h => absurd hsm h⟩
          refine ⟨fun h => Bool.noConfusion (show false = true from h), fun _ => ?_⟩
          have hL' : LegI (600000 + 1600000 * ((i + 1 : Nat) : Int)) x := ⟨hL.kn, hL.g, hL.bx.mono (by omega), hL.z, hL.sg⟩
          refine ⟨?_, ?_⟩
          · exact ⟨_, hlt, i + 1, x, ⟨hi', hL'⟩, rfl, rfl, rfl, congrArg (AV.int .i64) w, rfl, rfl, rfl, rfl⟩
          · exact ⟨_, hlt, i + 1, x, ⟨hi', hL'⟩, rfl, rfl, rfl, congrArg (AV.int .i64) w, rfl, rfl, rfl, rfl⟩
    · refine ⟨fun h => Bool.noConfusion (show false = true from h), fun _ => ?_⟩
      refine ⟨fun h => Bool.noConfusion (show false = true from h), fun _ => ?_⟩
      refine ⟨fun h => Bool.noConfusion (show false = true from h), fun _ => ?_⟩
      refine ⟨fun h5 => ?_, fun h5 => ?_⟩
      · refine ⟨fun _ => ?_, fun h => Bool.noConfusion (show true = false from h)⟩
        exact hK
      · refine ⟨fun _ => hK, fun h6 => ?_⟩
        obtain ⟨-, rfl, hL⟩ := l2.resolve_left (beqF h5) |>.resolve_left (beqF h6)
        have hsm : SameS x (zS x) := ⟨rfl, rfl, rfl⟩
        refine ⟨rfl, x, zS x, rfl, hL.z.z, fun _ => ?_, fun h => absurd hsm h⟩
        refine ⟨fun h => Bool.noConfusion (show false = true from h), fun _ => ?_⟩
        have hL' : LegI (600000 + 1600000 * ((i + 1 : Nat) : Int)) x := ⟨hL.kn, hL.g, hL.bx.mono (by omega), hL.z, hL.sg⟩
        refine ⟨?_, ?_⟩
        · exact ⟨_, hlt, i + 1, x, ⟨hi', hL'⟩, rfl, rfl, rfl, congrArg (AV.int .i64) w, rfl, rfl, rfl, rfl⟩
        · exact ⟨_, hlt, i + 1, x, ⟨hi', hL'⟩, rfl, rfl, rfl, congrArg (AV.int .i64) w, rfl, rfl, rfl, rfl⟩
  · intro hb
    have hi' : i = qs.length := by
      have : ¬ (i : Int) < ((qs.map askAV).length : Nat) := by simpa using hb
      simp at this; omega
    subst hi'
    exact hK
end Go.Proofs.YtkeafcjdejmohaaDoor.A
