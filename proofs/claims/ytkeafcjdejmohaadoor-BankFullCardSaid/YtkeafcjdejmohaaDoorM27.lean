/- BankBad, BankAgain, BankFull. -/
import Derived.Test.YtkeafcjdejmohaaDoorY6
import Derived.Test.YtkeafcjdejmohaaDoorM21
namespace Go.Proofs.YtkeafcjdejmohaaDoor.A
open Go Q
theorem OpsI.zk {s : Sta} (h : OpsI s) (hk : s.kns = []) : SzK s := ⟨h.la, h.lp, by rw [hk]; decide⟩
theorem SzK.k {s : Sta} (h : SzK s) : s.kns.length ≤ 1000000 := by have := h.lk; omega
/-! ### BankBad -/
def badC (args : List AV) (bs : List Box) (K : AV → List Box → Prop) : Prop := bs = [] ∧ ∃ (b : Book) (r : Req) (legs : List Bool), args = [bkA b, reqA r, legsA legs] ∧ b.Ok ∧ legs.length ≤ 4611686018427387904 ∧ K (.bool true) []
def RBb : Contract
  | 23 => awake16C
  | 12 => nil2C stateC
  | 24 => bankC
  | 26 => mayRC
  | 25 => same16C
  | 27 => askKC
  | 15 => sameSC
  | _ => fun _ _ _ => False
theorem RBb_ok : CallOk Tryd.prog tab RBb := by
  intro f args bs K h
  unfold RBb at h
  split at h
  · exact ⟨_, h, awake16_ok⟩
  · exact ⟨_, h, state_ok.nil2⟩
  · exact ⟨_, h, bank_ok⟩
  · exact ⟨_, h, mayR_ok⟩
  · exact ⟨_, h, same16_ok⟩
  · exact ⟨_, h, askK_ok⟩
  · exact ⟨_, h, sameS_ok⟩
  · exact h.elim
def RBb_E (pl : Nat → Plan) : En := ⟨tab, RBb, fun _ => none, 0, pl⟩
theorem RBb_J (pl : Nat → Plan) : JOk Tryd.prog (RBb_E pl).T (RBb_E pl).J := fun _ _ h => by cases h
set_option maxRecDepth 200000 in
set_option maxHeartbeats 12800000 in
theorem bad_ok : FnOk Tryd.prog tab 7 badC := by
  refine fn_ok (E := RBb_E pl7) tab_is RBb_ok (RBb_J _) Tryd.func7 rfl rfl (by kernel_rfl) ?_
  rintro args bs K ⟨rfl, b, r, legs, rfl, hb, hll, hK⟩
  refine ⟨rfl, ?_⟩
  refine ⟨rfl, rfl, ?_⟩
  refine ⟨fun h => Bool.noConfusion (show false = true from h), fun _ => ?_⟩
  refine ⟨[bkA b, padS [], .int .u8 0], ⟨.inl (.inl rfl), .inl (.inr ⟨_, _, rfl, rfl⟩), .inl (.inl rfl), trivial⟩, rfl, b, [], 0, rfl, hb.toIn, (fun _ h => by cases h), by decide, ?_⟩
  have hS := state_ops (ps := []) (now := 0) hb (fun _ h => by cases h) (by decide) (Int.le_refl 0)
  have hks : (stateM b [] 0).kns = [] := rfl
  generalize stateM b [] 0 = s at hS hks ⊢
  have hz := hS.zk hks
  refine ⟨rfl, s, r, legs, rfl, hz, hll, ?_⟩
  cases hm : mayR r with
  | false =>
    have hB : bankM s r legs = (s, (1, 0), 0) := by unfold bankM; rw [if_pos hm]
    rw [hB]
    refine ⟨rfl, r, rfl, ?_⟩
    rw [hm]
    refine ⟨fun _ => ?_, fun h => Bool.noConfusion (show true = false from h)⟩
    refine ⟨fun _ => ?_, fun h => Bool.noConfusion (show true = false from h)⟩
    refine ⟨fun _ => ?_, fun h => Bool.noConfusion (show true = false from h)⟩
    exact ⟨rfl, s, s, rfl, hz.z, hz.k, fun _ => hK, fun h => absurd (SameK.refl s) h⟩
  | true =>
    have hf : findK s.kns r.key 0 = -1 := by rw [hks]; rfl
    have hB := bank_new legs hm hf (by rw [hks]; decide)
    have hsz := (bank_sz hz r legs).1
    have he := out_err (r := r) hS.g.acs legs
    rw [hB] at hsz
    rw [hB]
    generalize bankOut s r legs = o at hsz he ⊢
    obtain ⟨x, ⟨e, i⟩, n⟩ := o
    simp only [hks, List.nil_append] at hsz he ⊢
    refine ⟨rfl, r, rfl, ?_⟩
    rw [hm]
    refine ⟨fun h => Bool.noConfusion (show false = true from h), fun _ => ?_⟩
    have hA : askM [⟨r, e, i, true⟩] r = ((e, i), true) := by
      have h1 : findK [⟨r, e, i, true⟩] r.key 0 = ((0 : Nat) : Int) := by simp [findK]
      rw [ask_known h1 rfl rfl, if_pos rfl]
    refine ⟨rfl, [⟨r, e, i, true⟩], r, rfl, by show 1 ≤ 1000000; decide, ?_⟩
    rw [hA]
    refine ⟨fun _ => ?_, fun h => Bool.noConfusion (show true = false from h)⟩
    have ht : ((e == e) && ((i == i) && true)) = true := by simp
    refine ⟨fun _ => ?_, fun h => absurd (ht.symm.trans h) (by decide)⟩
    refine ⟨fun _ => ?_, fun h => Bool.noConfusion (show true = false from h)⟩
    refine ⟨fun _ => hK, fun h0 => ?_⟩
    have hx : x = s := he (by simpa using h0)
    have hsm : SameS (withK s []) (withK x [⟨r, e, i, true⟩]) := by subst hx; exact ⟨rfl, rfl, rfl⟩
    exact ⟨rfl, withK s [], withK x [⟨r, e, i, true⟩], rfl, ⟨hz.z.la, hz.z.lp⟩, fun _ => hK, fun h => absurd hsm h⟩
/-! ### BankAgain -/
def againC (args : List AV) (bs : List Box) (K : AV → List Box → Prop) : Prop := bs = [] ∧ ∃ (b : Book) (ps : List Paid) (qs : List Ask) (legs : List Bool), args = [bkA b, padS ps, asksS qs, legsA legs] ∧ b.Ok ∧ (∀ p ∈ ps, p.In) ∧ ps.length ≤ 1999900 ∧ (∀ a ∈ qs, a.In) ∧ qs.length ≤ 1999900 ∧ legs.length ≤ 4611686018427387904 ∧ K (.bool true) []
def RBa : Contract
  | 23 => awake16C
  | 12 => stateC
  | 18 => askC
  | 24 => bankC
  | 25 => same16C
  | _ => fun _ _ _ => False
theorem RBa_ok : CallOk Tryd.prog tab RBa := by
  intro f args bs K h
  unfold RBa at h
  split at h
  · exact ⟨_, h, awake16_ok⟩
  · exact ⟨_, h, state_ok⟩
  · exact ⟨_, h, ask_ok⟩
  · exact ⟨_, h, bank_ok⟩
  · exact ⟨_, h, same16_ok⟩
  · exact h.elim
def RBa_E (pl : Nat → Plan) : En := ⟨tab, RBa, fun _ => none, 0, pl⟩
theorem RBa_J (pl : Nat → Plan) : JOk Tryd.prog (RBa_E pl).T (RBa_E pl).J := fun _ _ h => by cases h
set_option maxRecDepth 200000 in
set_option maxHeartbeats 12800000 in
theorem again_ok : FnOk Tryd.prog tab 6 againC := by
  refine fn_ok (E := RBa_E pl6) tab_is RBa_ok (RBa_J _) Tryd.func6 rfl rfl (by kernel_rfl) ?_
  rintro args bs K ⟨rfl, b, ps, qs, legs0, rfl, hb, hps, hpl, hqs, hql, hll, hK⟩
  refine ⟨rfl, ?_⟩
  refine ⟨rfl, rfl, ?_⟩
  refine ⟨fun h => Bool.noConfusion (show false = true from h), fun _ => ?_⟩
  refine ⟨rfl, b, ps, 0, rfl, hb.toIn, hps, hpl, ?_⟩
  have hS := state_ops (ps := ps) (now := 0) hb hps hpl (Int.le_refl 0)
  have hks : (stateM b ps 0).kns = [] := rfl
  generalize stateM b ps 0 = s0 at hS hks ⊢
  have hz := hS.zk hks
  have hI : KnsI s0.kns := by rw [hks]; exact ⟨fun _ h => (by cases h), fun _ h => (by cases h), List.nodup_nil, fun _ h => (by cases h)⟩
  refine ⟨fun mm st => ∃ (i : Nat) (s : Sta) (ls : List Bool), (i ≤ qs.length ∧ SzK s ∧ KnsI s.kns ∧ ls.length ≤ 4611686018427387904) ∧ qs.length - i = mm ∧ st.t 28 = asksS qs ∧ st.t 29 = .int .i64 ((qs.map askAV).length : Nat) ∧ st.t 30 = .int .i64 i ∧ st.t 9 = .ptr 9 0 ∧ st.t 3 = legsA ls ∧ st.h 9 = staB s,
    ⟨_, 0, s0, legs0, ⟨Nat.zero_le _, hz, hI, hll⟩, rfl, rfl, rfl, rfl, rfl, rfl, rfl⟩, ?_⟩
  rintro _ ⟨t1, h1⟩ ⟨i, s, ls, ⟨hi, hz, hI, hls⟩, rfl, e28, e29, e30, e9, e3, b9⟩
  have e28 : t1 28 = asksS qs := e28
  have e29 : t1 29 = .int .i64 ((qs.map askAV).length : Nat) := e29
  have e30 : t1 30 = .int .i64 i := e30
  have e9 : t1 9 = .ptr 9 0 := e9
  have e3 : t1 3 = legsA ls := e3
  have b9 : h1 9 = staB s := b9
  rw [← updL_has t1 [(28, asksS qs), (29, .int .i64 ((qs.map askAV).length : Nat)), (30, .int .i64 i), (9, .ptr 9 0), (3, legsA ls)] ⟨e28, e29, e30, e9, e3, trivial⟩, ← updL_has h1 [(9, staB s)] ⟨b9, trivial⟩]
  constructor
  · intro hb
    have hi' : i < qs.length := by
      have : (i : Int) < ((qs.map askAV).length : Nat) := by simpa using hb
      simp at this; omega
    have w : IntKind.i64.wrap ((i : Int) + 1) = ((i + 1 : Nat) : Int) := by rw [wrap_of] <;> omega
    have hlt : qs.length - (i + 1) < qs.length - i := by omega
    obtain ⟨q, hx⟩ : ∃ x, qs[i]? = some x := ⟨_, List.getElem?_eq_getElem hi'⟩
    have hm := List.mem_of_getElem? hx
    have hdr := drop_at hx
    have hq := ask_I (hqs q hm)
    refine ⟨_, Int.natCast_nonneg i, map_of hx, ?_⟩
    refine ⟨rfl, q, rfl, hqs q hm, ?_⟩
    generalize askR q = r at hq ⊢
    obtain ⟨l1, l2, l3⟩ := again_law hI hq ls
    obtain ⟨z1, z2⟩ := bank_sz hz r ls
    refine ⟨rfl, s, r, ls, rfl, hz, hls, ?_⟩
    generalize bankM s r ls = o at l1 l2 l3 z1 z2 ⊢
    obtain ⟨x, ⟨e, d⟩, n⟩ := o
    simp only at l1 l2 l3 z1 z2 ⊢
    refine ⟨rfl, x, r, ls, rfl, z1, hls, ?_⟩
    rw [l2]
    refine ⟨rfl, x, otherR r, ls, rfl, z1, hls, ?_⟩
    rw [l3]
    have hr : (!((e == e) && ((d == d) && true))) = false := by simp
    refine ⟨fun h => absurd (hr.symm.trans h) (by decide), fun _ => ?_⟩
    refine ⟨fun h => Bool.noConfusion (show false = true from h), fun _ => ?_⟩
    refine ⟨rfl, x, x, rfl, z1.z, z1.k, fun _ => ?_, fun h => absurd (SameK.refl x) h⟩
    refine ⟨fun h => Bool.noConfusion (show false = true from h), fun _ => ?_⟩
    refine ⟨fun h => Bool.noConfusion (show false = true from h), fun _ => ?_⟩
    refine ⟨fun h => Bool.noConfusion (show false = true from h), fun _ => ?_⟩
    refine ⟨rfl, x, x, rfl, z1.z, z1.k, fun _ => ?_, fun h => absurd (SameK.refl x) h⟩
    refine ⟨fun h => Bool.noConfusion (show false = true from h), fun _ => ?_⟩
    have n0 : (0 : Int) ≤ (n : Int) := by omega
    have n1 : ((n : Nat) : Int).toNat ≤ (ls.map AV.bool).length := by rw [List.length_map]; omega
    have n2 : (ls.map AV.bool).length ≤ (ls.map AV.bool).length := Nat.le_refl _
    have hcut : AV.sl .fz 4 (((ls.map AV.bool).take (ls.map AV.bool).length).drop ((n : Nat) : Int).toNat) = legsA (ls.drop n) := by
      rw [List.take_length, show ((n : Nat) : Int).toNat = n by omega, ← List.map_drop]
    have hld : (ls.drop n).length ≤ 4611686018427387904 := by rw [List.length_drop]; omega
    refine ⟨?_, ?_⟩
    · exact ⟨n0, n1, n2, ⟨_, hlt, i + 1, x, ls.drop n, ⟨hi', z1, l1, hld⟩, rfl, rfl, rfl, congrArg (AV.int .i64) w, rfl, hcut, rfl⟩⟩
    · exact ⟨n0, n1, n2, ⟨_, hlt, i + 1, x, ls.drop n, ⟨hi', z1, l1, hld⟩, rfl, rfl, rfl, congrArg (AV.int .i64) w, rfl, hcut, rfl⟩⟩
  · intro hb
    have hi' : i = qs.length := by
      have : ¬ (i : Int) < ((qs.map askAV).length : Nat) := by simpa using hb
      simp at this; omega
    subst hi'
    exact hK
end Go.Proofs.YtkeafcjdejmohaaDoor.A
