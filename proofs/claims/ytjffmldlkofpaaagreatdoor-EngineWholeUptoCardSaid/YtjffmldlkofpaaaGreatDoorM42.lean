/- hawalalaw17: EngineWhole. -/
import Derived.Test.YtjffmldlkofpaaaGreatDoorM36
import Derived.Test.YtjffmldlkofpaaaGreatDoorM25
import Derived.Test.YtjffmldlkofpaaaGreatDoorY15
namespace Go.Proofs.YtjffmldlkofpaaaGreatDoor.A
open Go Q
abbrev reqBw (r : Req) : Option Box := some (.cells 43 [.int .i64 r.key, .int .i64 r.op, .int .i64 r.a, .int .i64 r.b, .int .i64 r.amt, .int .i64 r.legs, .int .i64 r.til])
abbrev repBw (o : Rep) : Option Box := some (.cells 54 [.int .i64 o.1, .int .i64 o.2])
theorem WhI.eng {s : Sta} (h : WhI s) : EngS s := by
  refine ⟨⟨h.z, by rw [h.sg]; exact Nat.zero_le _⟩, fun i j a b ha hb he => ?_, by rw [h.sg]; exact fun i j a b ha => by simp at ha, by rw [h.sg]; exact fun k g hg => by simp at hg⟩
  obtain ⟨x, hx, rfl⟩ := at_map ha
  obtain ⟨y, hy, rfl⟩ := at_map hb
  have hn := h.kn.nd
  rw [List.nodup_iff_pairwise_ne, List.pairwise_iff_getElem] at hn
  have hi := (List.getElem?_eq_some_iff.1 hx)
  have hj := (List.getElem?_eq_some_iff.1 hy)
  obtain ⟨hi, ei⟩ := hi
  obtain ⟨hj, ej⟩ := hj
  rcases Nat.lt_trichotomy i j with hl | hl | hl
  · exact (hn i j (by simpa using hi) (by simpa using hj) hl (by simpa [ei, ej] using he)).elim
  · exact hl
  · exact (hn j i (by simpa using hj) (by simpa using hi) hl (by simpa [ei, ej] using he.symm)).elim
theorem state_wh {b : Book} {ps : List Paid} (hb : b.Ok) (hp : ∀ p ∈ ps, p.In) (hl : ps.length ≤ 1999900) : WhI (stateM b ps 0) :=
  ⟨⟨fun _ h => (by cases h), fun _ h => (by cases h), List.nodup_nil, fun _ h => (by cases h)⟩, fun _ h => (by cases h), state_good hb hp (Int.le_refl 0), (state_eng hb hp hl).z.toSzK, rfl⟩
def ewholeC (args : List AV) (bs : List Box) (K : AV → List Box → Prop) : Prop := bs = [] ∧ ∃ (b : Book) (ps : List Paid) (qs : List Ask) (legs : List Bool), args = [bkA b, padS ps, asksS qs, legsA legs] ∧ b.Ok ∧ (∀ p ∈ ps, p.In) ∧ ps.length ≤ 1999900 ∧ (∀ a ∈ qs, a.In) ∧ qs.length ≤ 1999900 ∧ legs.length ≤ 4611686018427387904 ∧ K (.bool true) []
def REw : Contract
  | 22 => awake17C
  | 23 => stateC
  | 24 => askC
  | 25 => bankC
  | 19 => engC
  | 26 => same16C
  | _ => fun _ _ _ => False
theorem REw_ok : CallOk Tryz.prog tab REw := by
  intro f args bs K h
  unfold REw at h
  split at h
  · exact ⟨_, h, awake17_ok⟩
  · exact ⟨_, h, state_ok⟩
  · exact ⟨_, h, ask_ok⟩
  · exact ⟨_, h, bank_ok⟩
  · exact ⟨_, h, eng_ok⟩
  · exact ⟨_, h, same16_ok⟩
  · exact h.elim
def REw_E (pl : Nat → Plan) : En := ⟨tab, REw, fun _ => none, 0, pl⟩
theorem REw_J (pl : Nat → Plan) : JOk Tryz.prog (REw_E pl).T (REw_E pl).J := fun _ _ h => by cases h
set_option maxRecDepth 200000 in
set_option maxHeartbeats 25600000 in
theorem ewhole_ok : FnOk Tryz.prog tab 8 ewholeC := by
  refine fn_ok (E := REw_E pl8) tab_is REw_ok (REw_J _) Tryz.func8 rfl rfl (by kernel_rfl) ?_
  rintro args bs K ⟨rfl, b, ps, qs, legs0, rfl, hb, hps, hpl, hqs, hql, hll, hK⟩
  refine ⟨rfl, ?_⟩
  refine ⟨rfl, rfl, ?_⟩
  refine ⟨fun h => Bool.noConfusion (show false = true from h), fun _ => ?_⟩
  refine ⟨rfl, b, ps, 0, rfl, hb.toIn, hps, hpl, ?_⟩
  have hW0 := state_wh hb hps hpl
  generalize stateM b ps 0 = s0 at hW0 ⊢
  refine ⟨fun mm st => ∃ (i : Nat) (s : Sta) (ls : List Bool), (i ≤ qs.length ∧ WhI s ∧ ls.length ≤ 4611686018427387904) ∧ qs.length - i = mm ∧ st.t 27 = asksS qs ∧ st.t 28 = .int .i64 ((qs.map askAV).length : Nat) ∧ st.t 29 = .int .i64 i ∧ st.t 3 = legsA ls ∧ st.t 9 = .ptr 9 0 ∧ st.t 10 = .ptr 10 0 ∧ st.h 9 = staB s ∧ st.h 10 = staB s,
    ⟨_, 0, s0, legs0, ⟨Nat.zero_le _, hW0, hll⟩, rfl, rfl, rfl, rfl, rfl, rfl, rfl, rfl, rfl⟩, ?_⟩
  rintro _ ⟨t1, h1⟩ ⟨i, s, ls, ⟨hi, hW, hls⟩, rfl, e27, e28, e29, e3, e9, e10, b9, b10⟩
  have e27 : t1 27 = asksS qs := e27
  have e28 : t1 28 = .int .i64 ((qs.map askAV).length : Nat) := e28
  have e29 : t1 29 = .int .i64 i := e29
  have e3 : t1 3 = legsA ls := e3
  have e9 : t1 9 = .ptr 9 0 := e9
  have e10 : t1 10 = .ptr 10 0 := e10
  have b9 : h1 9 = staB s := b9
  have b10 : h1 10 = staB s := b10
  rw [← updL_has t1 [(27, asksS qs), (28, .int .i64 ((qs.map askAV).length : Nat)), (29, .int .i64 i), (3, legsA ls), (9, .ptr 9 0), (10, .ptr 10 0)] ⟨e27, e28, e29, e3, e9, e10, trivial⟩, ← updL_has h1 [(9, staB s), (10, staB s)] ⟨b9, b10, trivial⟩]
  constructor
  · intro hb
    have hi' : i < qs.length := by
      have : (i : Int) < ((qs.map askAV).length : Nat) := by simpa using hb
      simp at this; omega
    have w : IntKind.i64.wrap ((i : Int) + 1) = ((i + 1 : Nat) : Int) := by rw [wrap_of] <;> omega
    have hlt : qs.length - (i + 1) < qs.length - i := by omega
    obtain ⟨q0, hx⟩ : ∃ x, qs[i]? = some x := ⟨_, List.getElem?_eq_getElem hi'⟩
    have hm := List.mem_of_getElem? hx
    have hdr := drop_at hx
    have hq := ask_I (hqs q0 hm)
    have hSe := hW.eng
    refine ⟨_, Int.natCast_nonneg i, map_of hx, ?_⟩
    refine ⟨rfl, q0, rfl, hqs q0 hm, ?_⟩
    generalize askR q0 = r at hq ⊢
    obtain ⟨hW2, -⟩ := wh_bank ls hW hq
    have hL := wh_law ls hW hq ⟨0, r, 0, false⟩ rfl rfl
    obtain ⟨-, hn⟩ := bank_sz hW.z r ls
    have hS0 := hSe.eng ⟨0, r, 0, false⟩
    refine ⟨rfl, s, r, ls, rfl, hW.z, hls, ?_⟩
    refine ⟨rfl, s, ⟨0, r, 0, false⟩, rfl, hSe.z, fun _ => hSe.tell, ?_⟩
    generalize bankM s r ls = o at hW2 hL hn ⊢
    generalize engM s ⟨0, r, 0, false⟩ = p at hL hS0 ⊢
    obtain ⟨u, want, n⟩ := o
    obtain ⟨x0, q1⟩ := p
    dsimp only at hW2 hL hn hS0
    have n0 : (0 : Int) ≤ (n : Int) := by omega
    have n1 : ((n : Nat) : Int).toNat ≤ (ls.map AV.bool).length := by rw [List.length_map]; omega
    have n2 : (ls.map AV.bool).length ≤ (ls.map AV.bool).length := Nat.le_refl _
    have hcut : AV.sl .fz 4 (((ls.map AV.bool).take (ls.map AV.bool).length).drop ((n : Nat) : Int).toNat) = legsA (ls.drop n) := by
      rw [List.take_length, show ((n : Nat) : Int).toNat = n by omega, ← List.map_drop]
    have hld : (ls.drop n).length ≤ 4611686018427387904 := by rw [List.length_drop]; omega
    refine ⟨fun mm st => ∃ (k : Nat) (x : Sta) (q : Rep), (k ≤ 40 ∧ EngS x ∧ whGo r ls (40 - k) k (x, q) = (u, want)) ∧ 40 - k = mm ∧ st.t 19 = .int .i64 k ∧ st.t 17 = .ptr 17 0 ∧ st.t 18 = .ptr 18 0 ∧ st.t 13 = .ptr 13 0 ∧ st.t 3 = legsA ls ∧ st.t 14 = .ptr 14 0 ∧ st.t 15 = .ptr 15 0 ∧ st.t 16 = .int .i64 (n : Nat) ∧ st.t 9 = .ptr 9 0 ∧ st.t 10 = .ptr 10 0 ∧ st.t 27 = asksS qs ∧ st.t 28 = .int .i64 ((qs.map askAV).length : Nat) ∧ st.t 29 = .int .i64 i ∧ st.h 17 = staB x ∧ st.h 18 = repBw q ∧ st.h 13 = reqBw r ∧ st.h 14 = staB u ∧ st.h 15 = repBw want ∧ st.h 9 = staB s ∧ st.h 10 = staB s,
      ⟨_, 0, x0, q1, ⟨Nat.zero_le _, hS0, hL⟩, rfl, rfl, rfl, rfl, rfl, rfl, rfl, rfl, rfl, rfl, rfl, rfl, rfl, rfl, rfl, rfl, rfl, rfl, rfl, rfl, rfl⟩, ?_⟩
    rintro _ ⟨t2, h2⟩ ⟨k, x, q, ⟨hk, hS, hE⟩, rfl, e19, e17, e18, e13, e3, e14, e15, e16, e9, e10, e27, e28, e29, b17, b18, b13, b14, b15, b9, b10⟩
    have e19 : t2 19 = .int .i64 k := e19
    have e17 : t2 17 = .ptr 17 0 := e17
    have e18 : t2 18 = .ptr 18 0 := e18
    have e13 : t2 13 = .ptr 13 0 := e13
    have e3 : t2 3 = legsA ls := e3
    have e14 : t2 14 = .ptr 14 0 := e14
    have e15 : t2 15 = .ptr 15 0 := e15
    have e16 : t2 16 = .int .i64 (n : Nat) := e16
    have e9 : t2 9 = .ptr 9 0 := e9
    have e10 : t2 10 = .ptr 10 0 := e10
    have e27 : t2 27 = asksS qs := e27
    have e28 : t2 28 = .int .i64 ((qs.map askAV).length : Nat) := e28
    have e29 : t2 29 = .int .i64 i := e29
    have b17 : h2 17 = staB x := b17
    have b18 : h2 18 = repBw q := b18
    have b13 : h2 13 = reqBw r := b13
    have b14 : h2 14 = staB u := b14
    have b15 : h2 15 = repBw want := b15
    have b9 : h2 9 = staB s := b9
    have b10 : h2 10 = staB s := b10
    rw [← updL_has t2 [(19, .int .i64 k), (17, .ptr 17 0), (18, .ptr 18 0), (13, .ptr 13 0), (3, legsA ls), (14, .ptr 14 0), (15, .ptr 15 0), (16, .int .i64 (n : Nat)), (9, .ptr 9 0), (10, .ptr 10 0), (27, asksS qs), (28, .int .i64 ((qs.map askAV).length : Nat)), (29, .int .i64 i)] ⟨e19, e17, e18, e13, e3, e14, e15, e16, e9, e10, e27, e28, e29, trivial⟩, ← updL_has h2 [(17, staB x), (18, repBw q), (13, reqBw r), (14, staB u), (15, repBw want), (9, staB s), (10, staB s)] ⟨b17, b18, b13, b14, b15, b9, b10, trivial⟩]
    refine ⟨fun h10 => ?_, fun h10 => ?_⟩
    · refine ⟨fun hk4 => ?_, fun hk4 => ?_⟩
      · have hk40 : k < 40 := by have := decT hk4; omega
        have wk : IntKind.i64.wrap ((k : Int) + 1) = ((k + 1 : Nat) : Int) := wrap_of (by omega) (by omega)
        refine ⟨fun hl => ?_, fun hl => ?_⟩
        · have hl : ls.length ≤ k := by have := decT hl; rw [List.length_map] at this; omega
          have hd : (ls.drop k).headD true = true := by rw [List.drop_of_length_le hl]; rfl
          have hE2 : whGo r ls (40 - (k + 1)) (k + 1) (engM x (stE r true)) = (u, want) := by
            rw [show 40 - k = (40 - (k + 1)) + 1 by omega, whGo, if_pos (beqT h10)] at hE
            rw [← hd]
            exact hE
          have hS2 := hS.eng (stE r true)
          refine ⟨rfl, x, stE r true, rfl, hS.z, fun _ => hS.tell, ?_⟩
          generalize engM x (stE r true) = y at hE2 hS2 ⊢
          obtain ⟨y, o⟩ := y
          exact ⟨_, by omega, k + 1, y, o, ⟨hk40, hS2, hE2⟩, rfl, congrArg (AV.int .i64) wk, rfl, rfl, rfl, rfl, rfl, rfl, rfl, rfl, rfl, rfl, rfl, rfl, rfl, rfl, rfl, rfl, rfl, rfl, rfl⟩
        · have hl : k < ls.length := by have := decF hl; rw [List.length_map] at this; omega
          obtain ⟨b, hb⟩ : ∃ b, ls[k]? = some b := ⟨_, List.getElem?_eq_getElem hl⟩
          have hd : (ls.drop k).headD true = b := by rw [drop_at hb]; rfl
          have hxb : (ls.map AV.bool)[((k : Nat) : Int).toNat]? = some (.bool b) := by rw [show ((k : Nat) : Int).toNat = k by omega, List.getElem?_map, hb]; rfl
          refine ⟨_, Int.natCast_nonneg k, hxb, ?_⟩
          have hE2 : whGo r ls (40 - (k + 1)) (k + 1) (engM x (stE r b)) = (u, want) := by
            rw [show 40 - k = (40 - (k + 1)) + 1 by omega, whGo, if_pos (beqT h10)] at hE
            rw [← hd]
            exact hE
          have hS2 := hS.eng (stE r b)
          refine ⟨rfl, x, stE r b, rfl, hS.z, fun _ => hS.tell, ?_⟩
          generalize engM x (stE r b) = y at hE2 hS2 ⊢
          obtain ⟨y, o⟩ := y
          exact ⟨_, by omega, k + 1, y, o, ⟨hk40, hS2, hE2⟩, rfl, congrArg (AV.int .i64) wk, rfl, rfl, rfl, rfl, rfl, rfl, rfl, rfl, rfl, rfl, rfl, rfl, rfl, rfl, rfl, rfl, rfl, rfl, rfl⟩
      · have hk40 : k = 40 := by have := decF hk4; omega
        rw [hk40] at hE
        have hxe : x = u := congrArg Prod.fst hE
        have hqe : q = want := congrArg Prod.snd hE
        subst hxe
        subst hqe
        have hne : (!((q.1 == q.1) && ((q.2 == q.2) && true))) = false := by simp
        refine ⟨fun h => absurd (hne.symm.trans h) (by decide), fun _ => ?_⟩
        refine ⟨rfl, x, x, rfl, hW2.z.z, (by have := hW2.z.lk; omega), fun _ => ?_, fun h => absurd (SameK.refl x) h⟩
        refine ⟨fun h => Bool.noConfusion (show false = true from h), fun _ => ?_⟩
        have hsg : ((((x.sags.map sagA).length : Nat) : Int) != 0) = false := by rw [hW2.sg]; rfl
        refine ⟨fun h => absurd (hsg.symm.trans h) (by decide), fun _ => ?_⟩
        repeat' first
          | (exact ⟨_, hlt, i + 1, x, ls.drop n, ⟨hi', hW2, hld⟩, rfl, rfl, rfl, congrArg (AV.int .i64) w, hcut, rfl, rfl, rfl, rfl⟩)
          | (refine ⟨n0, n1, n2, ?_⟩)
          | (refine ⟨fun _ => ?_, fun h => Bool.noConfusion (show true = false from h)⟩)
          | (refine ⟨fun h => Bool.noConfusion (show false = true from h), fun _ => ?_⟩)
          | (refine And.intro ?_ ?_)
    · refine ⟨fun h => Bool.noConfusion (show false = true from h), fun _ => ?_⟩
      have hE : (x, q) = (u, want) := by
        rw [← hE]
        cases hf : 40 - k with
        | zero => rfl
        | succ f => rw [whGo, if_neg (beqF h10)]
      have hxe : x = u := congrArg Prod.fst hE
      have hqe : q = want := congrArg Prod.snd hE
      subst hxe
      subst hqe
      have hne : (!((q.1 == q.1) && ((q.2 == q.2) && true))) = false := by simp
      refine ⟨fun h => absurd (hne.symm.trans h) (by decide), fun _ => ?_⟩
      refine ⟨rfl, x, x, rfl, hW2.z.z, (by have := hW2.z.lk; omega), fun _ => ?_, fun h => absurd (SameK.refl x) h⟩
      refine ⟨fun h => Bool.noConfusion (show false = true from h), fun _ => ?_⟩
      have hsg : ((((x.sags.map sagA).length : Nat) : Int) != 0) = false := by rw [hW2.sg]; rfl
      refine ⟨fun h => absurd (hsg.symm.trans h) (by decide), fun _ => ?_⟩
      repeat' first
        | (exact ⟨_, hlt, i + 1, x, ls.drop n, ⟨hi', hW2, hld⟩, rfl, rfl, rfl, congrArg (AV.int .i64) w, hcut, rfl, rfl, rfl, rfl⟩)
        | (refine ⟨n0, n1, n2, ?_⟩)
        | (refine ⟨fun _ => ?_, fun h => Bool.noConfusion (show true = false from h)⟩)
        | (refine ⟨fun h => Bool.noConfusion (show false = true from h), fun _ => ?_⟩)
        | (refine And.intro ?_ ?_)
  · intro hb
    have hi' : i = qs.length := by
      have : ¬ (i : Int) < ((qs.map askAV).length : Nat) := by simpa using hb
      simp at this; omega
    subst hi'
    exact hK
end Go.Proofs.YtjffmldlkofpaaaGreatDoor.A
