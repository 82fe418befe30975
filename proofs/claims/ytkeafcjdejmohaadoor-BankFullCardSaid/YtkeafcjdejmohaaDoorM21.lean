/- OpsRight. -/
import Derived.Test.YtkeafcjdejmohaaDoorGY
import Derived.Test.YtkeafcjdejmohaaDoorM19
import Derived.Test.YtkeafcjdejmohaaDoorM20
namespace Go.Proofs.YtkeafcjdejmohaaDoor.A
open Go Q
/-- What a law's state keeps. -/
structure OpsI (s : Sta) : Prop where
  g : GoodA s
  la : s.accs.length ≤ 64
  lp : s.pays.length ≤ 1999900
  sg : s.sags = []
theorem OpsI.z {s : Sta} (h : OpsI s) : SzA s := ⟨by have := h.la; omega, by have := h.lp; omega⟩
theorem OpsI.do {s : Sta} (h : OpsI s) {r : Req} (hr : ReqR r) : OpsI (doM s r).1 := ⟨good_do h.g hr, (doM_step s r).la64 h.la, doM_lp s r h.lp (by decide), (doM_step s r).sags.trans h.sg⟩
theorem OpsI.tick {s : Sta} (h : OpsI s) : OpsI (tickM s) := by
  obtain ⟨k1, k2, k3, -⟩ := tick_keep s
  exact ⟨tick_good h.g, by rw [k1]; exact h.la, by rw [k2]; exact h.lp, k3.trans h.sg⟩
theorem state_ops {b : Book} {ps : List Paid} {now : Int} (hb : b.Ok) (hp : ∀ p ∈ ps, p.In) (hl : ps.length ≤ 1999900) (hn : 0 ≤ now) : OpsI (stateM b ps now) :=
  ⟨state_good hb hp hn, by rw [(state_I now hb hp).l]; decide, by have := state_lp b ps now; omega, rfl⟩
def rightLC2 (args : List AV) (bs : List Box) (K : AV → List Box → Prop) : Prop := bs = [] ∧ ∃ (b : Book) (ps : List Paid) (now : Int) (qs : List Ask) (ticks : Int), args = [bkA b, padS ps, .int .u8 now, asksS qs, .int .u8 ticks] ∧ b.Ok ∧ (∀ p ∈ ps, p.In) ∧ ps.length ≤ 1999900 ∧ u8I now ∧ (∀ a ∈ qs, a.In) ∧ qs.length ≤ 1999900 ∧ u8I ticks ∧ K (.bool true) []
def RRl : Contract
  | 11 => awakeC15
  | 12 => stateC
  | 18 => askC
  | 13 => doC
  | 16 => tickC
  | 19 => rightLC
  | 20 => sumsC
  | 21 => heldC
  | 22 => rightPC
  | _ => fun _ _ _ => False
theorem RRl_ok : CallOk Tryd.prog tab RRl := by
  intro f args bs K h
  unfold RRl at h
  split at h
  · exact ⟨_, h, awake15_ok⟩
  · exact ⟨_, h, state_ok⟩
  · exact ⟨_, h, ask_ok⟩
  · exact ⟨_, h, do_ok⟩
  · exact ⟨_, h, tick_ok⟩
  · exact ⟨_, h, rightL_ok⟩
  · exact ⟨_, h, sums_ok⟩
  · exact ⟨_, h, held_ok⟩
  · exact ⟨_, h, rightP_ok⟩
  · exact h.elim
def RRl_E (pl : Nat → Plan) : En := ⟨tab, RRl, fun _ => none, 0, pl⟩
theorem RRl_J (pl : Nat → Plan) : JOk Tryd.prog (RRl_E pl).T (RRl_E pl).J := fun _ _ h => by cases h
set_option maxRecDepth 200000 in
set_option maxHeartbeats 12800000 in
theorem rightL2_ok : FnOk Tryd.prog tab 5 rightLC2 := by
  refine fn_ok (E := RRl_E pl5) tab_is RRl_ok (RRl_J _) Tryd.func5 rfl rfl (by kernel_rfl) ?_
  rintro args bs K ⟨rfl, b, ps, now, qs, ticks, rfl, hb, hps, hpl, hnow, has, hal, htk, hK⟩
  refine ⟨rfl, ?_⟩
  refine ⟨rfl, rfl, ?_⟩
  refine ⟨fun h => Bool.noConfusion (show false = true from h), fun _ => ?_⟩
  refine ⟨rfl, b, ps, now, rfl, hb.toIn, hps, hpl, ?_⟩
  have hS := state_ops (ps := ps) hb hps hpl hnow.1
  generalize stateM b ps now = s0 at hS ⊢
  refine ⟨fun mm st => ∃ (i : Nat) (s : Sta), (i ≤ qs.length ∧ OpsI s) ∧ qs.length - i = mm ∧ st.t 22 = asksS qs ∧ st.t 23 = .int .i64 ((qs.map askAV).length : Nat) ∧ st.t 24 = .int .i64 i ∧ st.t 11 = .ptr 11 0 ∧ st.t 4 = .int .u8 ticks ∧ st.h 11 = staB s,
    ⟨_, 0, s0, ⟨Nat.zero_le _, hS⟩, rfl, rfl, rfl, rfl, rfl, rfl, rfl⟩, ?_⟩
  rintro _ ⟨t1, h1⟩ ⟨i, s, ⟨hi, hS⟩, rfl, e22, e23, e24, e11, e4, b11⟩
  have e22 : t1 22 = asksS qs := e22
  have e23 : t1 23 = .int .i64 ((qs.map askAV).length : Nat) := e23
  have e24 : t1 24 = .int .i64 i := e24
  have e11 : t1 11 = .ptr 11 0 := e11
  have e4 : t1 4 = .int .u8 ticks := e4
  have b11 : h1 11 = staB s := b11
  rw [← updL_has t1 [(22, asksS qs), (23, .int .i64 ((qs.map askAV).length : Nat)), (24, .int .i64 i), (11, .ptr 11 0), (4, .int .u8 ticks)] ⟨e22, e23, e24, e11, e4, trivial⟩, ← updL_has h1 [(11, staB s)] ⟨b11, trivial⟩]
  constructor
  · intro hb
    have hi' : i < qs.length := by
      have : (i : Int) < ((qs.map askAV).length : Nat) := by simpa using hb
      simp at this; omega
    have w : IntKind.i64.wrap ((i : Int) + 1) = ((i + 1 : Nat) : Int) := by rw [wrap_of] <;> omega
    have hlt : qs.length - (i + 1) < qs.length - i := by omega
    obtain ⟨q, hx⟩ : ∃ x, qs[i]? = some x := ⟨_, List.getElem?_eq_getElem hi'⟩
    have hm := List.mem_of_getElem? hx
    have hdr := drop_at hx
    have hq := ask_I (has q hm)
    refine ⟨_, Int.natCast_nonneg i, map_of hx, ?_⟩
    refine ⟨rfl, q, rfl, has q hm, ?_⟩
    refine ⟨rfl, s, askR q, rfl, hS.z, ?_⟩
    have hS1 := hS.do hq.R
    generalize (doM s (askR q)).1 = s1 at hS1 ⊢
    refine ⟨(by decide : (4 : Int) ≠ 0), ?_⟩
    refine ⟨(by decide : (4 : Int) ≠ 0), ?_⟩
    refine ⟨fun _ => ?_, fun _ => ?_⟩
    · refine ⟨rfl, s1, rfl, hS1.z, ?_⟩
      have hS2 := hS1.tick
      generalize tickM s1 = s2 at hS2 ⊢
      have hl2 := hS2.la
      have hlp2 := hS2.lp
      refine ⟨rfl, s2.accs, rfl, ?_⟩
      rw [rightL_of hS2.g.acs hl2]
      refine ⟨fun h => Bool.noConfusion (show false = true from h), fun _ => ?_⟩
      refine ⟨rfl, s2.accs, rfl, by omega, ?_⟩
      rw [sums_zero hS2.g.acs hl2]
      refine ⟨fun h => Bool.noConfusion (show false = true from h), fun _ => ?_⟩
      refine ⟨rfl, s2, rfl, hS2.g, hS2.sg, hS2.z, ?_⟩
      refine ⟨fun h => Bool.noConfusion (show false = true from h), fun _ => ?_⟩
      refine ⟨fun mm st => ∃ (j : Nat), (j ≤ s2.pays.length) ∧ s2.pays.length - j = mm ∧ st.t 61 = paysA s2.pays ∧ st.t 62 = .int .i64 ((s2.pays.map payA).length : Nat) ∧ st.t 63 = .int .i64 j ∧ st.t 11 = .ptr 11 0 ∧ st.t 4 = .int .u8 ticks ∧ st.t 22 = asksS qs ∧ st.t 23 = .int .i64 ((qs.map askAV).length : Nat) ∧ st.t 24 = .int .i64 i ∧ st.h 11 = staB (s2),
        ⟨_, 0, Nat.zero_le _, rfl, rfl, rfl, rfl, rfl, rfl, rfl, rfl, rfl, rfl⟩, ?_⟩
      rintro _ ⟨t2, h2⟩ ⟨j, hj, rfl, e61, e62, e63, e11, e4, e22, e23, e24, b11⟩
      have e61 : t2 61 = paysA s2.pays := e61
      have e62 : t2 62 = .int .i64 ((s2.pays.map payA).length : Nat) := e62
      have e63 : t2 63 = .int .i64 j := e63
      have e11 : t2 11 = .ptr 11 0 := e11
      have e4 : t2 4 = .int .u8 ticks := e4
      have e22 : t2 22 = asksS qs := e22
      have e23 : t2 23 = .int .i64 ((qs.map askAV).length : Nat) := e23
      have e24 : t2 24 = .int .i64 i := e24
      have b11 : h2 11 = staB (s2) := b11
      rw [← updL_has t2 [(61, paysA s2.pays), (62, .int .i64 ((s2.pays.map payA).length : Nat)), (63, .int .i64 j), (11, .ptr 11 0), (4, .int .u8 ticks), (22, asksS qs), (23, .int .i64 ((qs.map askAV).length : Nat)), (24, .int .i64 i)] ⟨e61, e62, e63, e11, e4, e22, e23, e24, trivial⟩, ← updL_has h2 [(11, staB (s2))] ⟨b11, trivial⟩]
      constructor
      · intro hb
        have hj' : j < s2.pays.length := by
          have : (j : Int) < ((s2.pays.map payA).length : Nat) := by simpa using hb
          simp at this; omega
        have w2 : IntKind.i64.wrap ((j : Int) + 1) = ((j + 1 : Nat) : Int) := by rw [wrap_of] <;> omega
        have hlt2 : s2.pays.length - (j + 1) < s2.pays.length - j := by omega
        obtain ⟨p, hx2⟩ : ∃ x, s2.pays[j]? = some x := ⟨_, List.getElem?_eq_getElem hj'⟩
        have hm2 := List.mem_of_getElem? hx2
        have hdr2 := drop_at hx2
        refine ⟨_, Int.natCast_nonneg j, map_of hx2, ?_⟩
        refine ⟨rfl, p, rfl, ?_⟩
        rw [(hS2.g.pay p hm2).right]
        refine ⟨fun h => Bool.noConfusion (show false = true from h), fun _ => ?_⟩
        exact ⟨_, hlt2, j + 1, hj', rfl, rfl, rfl, congrArg (AV.int .i64) w2, rfl, rfl, rfl, rfl, rfl, rfl⟩
      · intro _
        exact ⟨_, hlt, i + 1, s2, ⟨hi', hS2⟩, rfl, rfl, rfl, congrArg (AV.int .i64) w, rfl, rfl, rfl⟩
    · have hS2 := hS1
      have hl2 := hS2.la
      have hlp2 := hS2.lp
      refine ⟨rfl, s1.accs, rfl, ?_⟩
      rw [rightL_of hS2.g.acs hl2]
      refine ⟨fun h => Bool.noConfusion (show false = true from h), fun _ => ?_⟩
      refine ⟨rfl, s1.accs, rfl, by omega, ?_⟩
      rw [sums_zero hS2.g.acs hl2]
      refine ⟨fun h => Bool.noConfusion (show false = true from h), fun _ => ?_⟩
      refine ⟨rfl, s1, rfl, hS2.g, hS2.sg, hS2.z, ?_⟩
      refine ⟨fun h => Bool.noConfusion (show false = true from h), fun _ => ?_⟩
      refine ⟨fun mm st => ∃ (j : Nat), (j ≤ s1.pays.length) ∧ s1.pays.length - j = mm ∧ st.t 61 = paysA s1.pays ∧ st.t 62 = .int .i64 ((s1.pays.map payA).length : Nat) ∧ st.t 63 = .int .i64 j ∧ st.t 11 = .ptr 11 0 ∧ st.t 4 = .int .u8 ticks ∧ st.t 22 = asksS qs ∧ st.t 23 = .int .i64 ((qs.map askAV).length : Nat) ∧ st.t 24 = .int .i64 i ∧ st.h 11 = staB (s1),
        ⟨_, 0, Nat.zero_le _, rfl, rfl, rfl, rfl, rfl, rfl, rfl, rfl, rfl, rfl⟩, ?_⟩
      rintro _ ⟨t2, h2⟩ ⟨j, hj, rfl, e61, e62, e63, e11, e4, e22, e23, e24, b11⟩
      have e61 : t2 61 = paysA s1.pays := e61
      have e62 : t2 62 = .int .i64 ((s1.pays.map payA).length : Nat) := e62
      have e63 : t2 63 = .int .i64 j := e63
      have e11 : t2 11 = .ptr 11 0 := e11
      have e4 : t2 4 = .int .u8 ticks := e4
      have e22 : t2 22 = asksS qs := e22
      have e23 : t2 23 = .int .i64 ((qs.map askAV).length : Nat) := e23
      have e24 : t2 24 = .int .i64 i := e24
      have b11 : h2 11 = staB (s1) := b11
      rw [← updL_has t2 [(61, paysA s1.pays), (62, .int .i64 ((s1.pays.map payA).length : Nat)), (63, .int .i64 j), (11, .ptr 11 0), (4, .int .u8 ticks), (22, asksS qs), (23, .int .i64 ((qs.map askAV).length : Nat)), (24, .int .i64 i)] ⟨e61, e62, e63, e11, e4, e22, e23, e24, trivial⟩, ← updL_has h2 [(11, staB (s1))] ⟨b11, trivial⟩]
      constructor
      · intro hb
        have hj' : j < s1.pays.length := by
          have : (j : Int) < ((s1.pays.map payA).length : Nat) := by simpa using hb
          simp at this; omega
        have w2 : IntKind.i64.wrap ((j : Int) + 1) = ((j + 1 : Nat) : Int) := by rw [wrap_of] <;> omega
        have hlt2 : s1.pays.length - (j + 1) < s1.pays.length - j := by omega
        obtain ⟨p, hx2⟩ : ∃ x, s1.pays[j]? = some x := ⟨_, List.getElem?_eq_getElem hj'⟩
        have hm2 := List.mem_of_getElem? hx2
        have hdr2 := drop_at hx2
        refine ⟨_, Int.natCast_nonneg j, map_of hx2, ?_⟩
        refine ⟨rfl, p, rfl, ?_⟩
        rw [(hS2.g.pay p hm2).right]
        refine ⟨fun h => Bool.noConfusion (show false = true from h), fun _ => ?_⟩
        exact ⟨_, hlt2, j + 1, hj', rfl, rfl, rfl, congrArg (AV.int .i64) w2, rfl, rfl, rfl, rfl, rfl, rfl⟩
      · intro _
        exact ⟨_, hlt, i + 1, s1, ⟨hi', hS2⟩, rfl, rfl, rfl, congrArg (AV.int .i64) w, rfl, rfl, rfl⟩
  · intro hb
    have hi' : i = qs.length := by
      have : ¬ (i : Int) < ((qs.map askAV).length : Nat) := by simpa using hb
      simp at this; omega
    subst hi'
    exact ⟨rfl, s, rfl, hS.g, hS.sg, hS.z, hK⟩
end Go.Proofs.YtkeafcjdejmohaaDoor.A
