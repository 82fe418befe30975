/- OpsTick. -/
import Derived.Test.YtkeafcjdejmohaaDoorGE
import Derived.Test.YtkeafcjdejmohaaDoorM16
import Derived.Test.YtkeafcjdejmohaaDoorGY
import Derived.Test.YtkeafcjdejmohaaDoorM19
namespace Go.Proofs.YtkeafcjdejmohaaDoor.A
open Go Q
theorem state_now (b : Book) (ps : List Paid) {now : Int} (hn : 0 ≤ now) : 0 ≤ (stateM b ps now).now ∧ (stateM b ps now).now ≤ 11 := by
  obtain ⟨n0, n1⟩ := tmod_in hn (show (0 : Int) < 12 by decide)
  show 0 ≤ w64 (now.tmod 12) ∧ w64 (now.tmod 12) ≤ 11
  rw [w64_of (by omega) (by omega)]
  omega
theorem set_same {α : Type} {l : List α} {i : Nat} {x : α} (h : l[i]? = some x) : l.set i x = l := by
  apply List.ext_getElem?
  intro j
  rw [List.getElem?_set]
  split
  · rename_i hj
    subst hj
    rw [if_pos (List.getElem?_eq_some_iff.1 h).1, h]
  · rfl
/-- What the law's copy holds behind some payments. -/
def wP (now : Int) (ps : List Pay) (i : Nat) : List Pay := (ps.take i).map (closeM now) ++ ps.drop i
def wA (now : Int) (ps : List Pay) (al : List Acc) (i : Nat) : List Acc := (ps.take i).foldl (wantStep now) al
theorem wP_get {now : Int} {ps : List Pay} {i : Nat} {p : Pay} (h : ps[i]? = some p) : (wP now ps i)[i]? = some p := by
  unfold wP
  have hi := (List.getElem?_eq_some_iff.1 h).1
  have hl : ((ps.take i).map (closeM now)).length = i := by simp; omega
  rw [List.getElem?_append_right (by omega), hl, Nat.sub_self, List.getElem?_drop]
  exact h
theorem wP_set {now : Int} {ps : List Pay} {i : Nat} {p : Pay} (h : ps[i]? = some p) : (wP now ps i).set i (closeM now p) = wP now ps (i + 1) := by
  have hi := (List.getElem?_eq_some_iff.1 h).1
  unfold wP
  have hl : ((ps.take i).map (closeM now)).length = i := by simp; omega
  rw [List.set_append_right _ _ (by omega), hl, Nat.sub_self, drop_at h, List.set_cons_zero, take_snoc h, List.map_append, List.append_assoc]
  rfl
theorem wA_snoc {now : Int} {ps : List Pay} {al : List Acc} {i : Nat} {p : Pay} (h : ps[i]? = some p) : wA now ps al (i + 1) = wantStep now (wA now ps al i) p := by
  unfold wA
  rw [take_snoc h, List.foldl_append]
  rfl
theorem wantStep_len (now : Int) (l : List Acc) (p : Pay) : (wantStep now l p).length = l.length := by
  unfold wantStep
  split
  · split
    · exact List.length_set ..
    · rfl
  · rfl
theorem wA_len (now : Int) (ps : List Pay) (al : List Acc) (i : Nat) : (wA now ps al i).length = al.length := by
  unfold wA
  generalize ps.take i = qs
  induction qs generalizing al with
  | nil => rfl
  | cons q qs ih => rw [List.foldl_cons, ih, wantStep_len]
def tickLC (args : List AV) (bs : List Box) (K : AV → List Box → Prop) : Prop := bs = [] ∧ ∃ (b : Book) (ps : List Paid) (now ticks : Int), args = [bkA b, padS ps, .int .u8 now, .int .u8 ticks] ∧ b.Ok ∧ (∀ p ∈ ps, p.In) ∧ ps.length ≤ 1999900 ∧ u8I now ∧ u8I ticks ∧ K (.bool true) []
def RTl : Contract
  | 11 => awakeC15
  | 12 => stateC
  | 16 => tickC
  | 15 => sameSC
  | 17 => byCz
  | _ => fun _ _ _ => False
theorem RTl_ok : CallOk Tryd.prog tab RTl := by
  intro f args bs K h
  unfold RTl at h
  split at h
  · exact ⟨_, h, awake15_ok⟩
  · exact ⟨_, h, state_ok⟩
  · exact ⟨_, h, tick_ok⟩
  · exact ⟨_, h, sameS_ok⟩
  · exact ⟨_, h, byz_ok⟩
  · exact h.elim
def RTl_E (pl : Nat → Plan) : En := ⟨tab, RTl, fun _ => none, 0, pl⟩
theorem RTl_J (pl : Nat → Plan) : JOk Tryd.prog (RTl_E pl).T (RTl_E pl).J := fun _ _ h => by cases h
set_option maxRecDepth 200000 in
set_option maxHeartbeats 12800000 in
theorem tickL_ok : FnOk Tryd.prog tab 4 tickLC := by
  refine fn_ok (E := RTl_E pl4) tab_is RTl_ok (RTl_J _) Tryd.func4 rfl rfl (by kernel_rfl) ?_
  rintro args bs K ⟨rfl, b, ps, now, ticks, rfl, hb, hps, hpl, hnow, htk, hK⟩
  refine ⟨rfl, ?_⟩
  refine ⟨rfl, rfl, ?_⟩
  refine ⟨fun h => Bool.noConfusion (show false = true from h), fun _ => ?_⟩
  refine ⟨rfl, b, ps, now, rfl, hb.toIn, hps, hpl, ?_⟩
  have hG := state_good (ps := ps) hb hps hnow.1
  have hz := state_sz now hb hps hpl
  have hn := state_now b ps hnow.1
  have hsg : (stateM b ps now).sags = [] := rfl
  generalize stateM b ps now = s0 at hG hz hn hsg ⊢
  obtain ⟨T0, T1⟩ := tmod_in htk.1 (show (0 : Int) < 25 by decide)
  have wT : IntKind.i64.wrap (ticks.tmod 25) = ticks.tmod 25 := wrap_of (by omega) (by omega)
  generalize hTe : ticks.tmod 25 = T at T0 T1 wT
  refine ⟨fun mm st => ∃ (k : Nat) (s : Sta), ((k : Int) ≤ T ∧ GoodA s ∧ SzA s ∧ s.now ≤ 11 + (k : Int) ∧ s.sags = []) ∧ T.toNat - k = mm ∧ st.t 9 = .ptr 9 0 ∧ st.t 10 = .int .i64 k ∧ st.t 3 = .int .u8 ticks ∧ st.h 9 = staB s,
    ⟨_, 0, s0, ⟨T0, hG, hz, hn.2, hsg⟩, rfl, rfl, rfl, rfl, rfl⟩, ?_⟩
  rintro _ ⟨t1, h1⟩ ⟨k, s, ⟨hk, hG, hz, hn, hsg⟩, rfl, e9, e10, e3, b9⟩
  have e9 : t1 9 = .ptr 9 0 := e9
  have e10 : t1 10 = .int .i64 k := e10
  have e3 : t1 3 = .int .u8 ticks := e3
  have b9 : h1 9 = staB s := b9
  rw [← updL_has t1 [(9, .ptr 9 0), (10, .int .i64 k), (3, .int .u8 ticks)] ⟨e9, e10, e3, trivial⟩, ← updL_has h1 [(9, staB s)] ⟨b9, trivial⟩]
  refine ⟨(by decide : (25 : Int) ≠ 0), ?_⟩
  rw [hTe]
  constructor
  · intro hc
    have hc : (k : Int) < T := by
      have h := decT hc
      rw [wT] at h
      exact h
    have hl := hz.la
    have hlp := hz.lp
    have h0n := hG.now
    have hn30 : s.now < 1073741824 := by omega
    have wk : IntKind.i64.wrap ((k : Int) + 1) = ((k + 1 : Nat) : Int) := by rw [wrap_of] <;> omega
    have hdec : T.toNat - (k + 1) < T.toNat - k := by omega
    have bd1 : (s.accs.map accA).length * 24 ≤ 140737488355328 := by rw [List.length_map]; omega
    have bd2 : (s.pays.map payA).length * 64 ≤ 140737488355328 := by rw [List.length_map]; omega
    refine ⟨bd1, ?_⟩
    refine ⟨bd2, ?_⟩
    obtain ⟨nw, hnw⟩ : ∃ nw, nw = w64 (s.now + 1) := ⟨_, rfl⟩
    refine ⟨fun mm st => ∃ (i : Nat), (i ≤ s.pays.length) ∧ s.pays.length - i = mm ∧ st.t 41 = paysA s.pays ∧ st.t 42 = .int .i64 ((s.pays.map payA).length : Nat) ∧ st.t 43 = .int .i64 i ∧ st.t 9 = .ptr 9 0 ∧ st.t 11 = .ptr 11 0 ∧ st.t 10 = .int .i64 k ∧ st.t 3 = .int .u8 ticks ∧ st.h 9 = staB s ∧ st.h 11 = some (.cells 36 [.sl (.own 34000) 49 ((wA nw s.pays s.accs i).map accA), .sl (.own 38000) 47 ((wP nw s.pays i).map payA), sagsA s.sags, knsA s.kns, .int .i64 nw]),
      ⟨_, 0, Nat.zero_le _, rfl, rfl, rfl, rfl, rfl, rfl, rfl, rfl, rfl, (by rw [hnw]; rfl)⟩, ?_⟩
    rintro _ ⟨t2, h2⟩ ⟨i, hi, rfl, e41, e42, e43, e9, e11, e10, e3, b9, b11⟩
    have e41 : t2 41 = paysA s.pays := e41
    have e42 : t2 42 = .int .i64 ((s.pays.map payA).length : Nat) := e42
    have e43 : t2 43 = .int .i64 i := e43
    have e9 : t2 9 = .ptr 9 0 := e9
    have e11 : t2 11 = .ptr 11 0 := e11
    have e10 : t2 10 = .int .i64 k := e10
    have e3 : t2 3 = .int .u8 ticks := e3
    have b9 : h2 9 = staB s := b9
    have b11 : h2 11 = some (.cells 36 [.sl (.own 34000) 49 ((wA nw s.pays s.accs i).map accA), .sl (.own 38000) 47 ((wP nw s.pays i).map payA), sagsA s.sags, knsA s.kns, .int .i64 nw]) := b11
    rw [← updL_has t2 [(41, paysA s.pays), (42, .int .i64 ((s.pays.map payA).length : Nat)), (43, .int .i64 i), (9, .ptr 9 0), (11, .ptr 11 0), (10, .int .i64 k), (3, .int .u8 ticks)] ⟨e41, e42, e43, e9, e11, e10, e3, trivial⟩, ← updL_has h2 [(9, staB s), (11, some (.cells 36 [.sl (.own 34000) 49 ((wA nw s.pays s.accs i).map accA), .sl (.own 38000) 47 ((wP nw s.pays i).map payA), sagsA s.sags, knsA s.kns, .int .i64 nw]))] ⟨b9, b11, trivial⟩]
    constructor
    · intro hb
      have hi' : i < s.pays.length := by
        have : (i : Int) < ((s.pays.map payA).length : Nat) := by simpa using hb
        simp at this; omega
      have w : IntKind.i64.wrap ((i : Int) + 1) = ((i + 1 : Nat) : Int) := by rw [wrap_of] <;> omega
      have hlt : s.pays.length - (i + 1) < s.pays.length - i := by omega
      obtain ⟨p, hx⟩ : ∃ x, s.pays[i]? = some x := ⟨_, List.getElem?_eq_getElem hi'⟩
      have hm := List.mem_of_getElem? hx
      have hdr := drop_at hx
      have hP := hG.pay p hm
      have hps2 := hP.s
      have hA1 := wA_snoc (now := nw) (al := s.accs) hx
      have hP1 := wP_set (now := nw) hx
      have hPg := wP_get (now := nw) hx
      have hAl := wA_len nw s.pays s.accs i
      have s0' : 0 ≤ p.src := by omega
      obtain ⟨a, ha⟩ : ∃ a, (wA nw s.pays s.accs i)[p.src.toNat]? = some a := ⟨_, List.getElem?_eq_getElem (by omega)⟩
      have hsame : ¬ exp? nw p → (wA nw s.pays s.accs i).map accA = (wA nw s.pays s.accs (i + 1)).map accA ∧ (wP nw s.pays i).map payA = (wP nw s.pays (i + 1)).map payA := fun he => by
        rw [hA1, ← hP1]
        unfold wantStep closeM
        rw [if_neg he, if_neg he]
        exact ⟨rfl, by rw [set_same hPg]⟩
      have hnot : ¬ exp? nw p → (some (.cells 36 [.sl (.own 34000) 49 ((wA nw s.pays s.accs i).map accA), .sl (.own 38000) 47 ((wP nw s.pays i).map payA), sagsA s.sags, knsA s.kns, .int .i64 nw]) : Option Box) = some (.cells 36 [.sl (.own 34000) 49 ((wA nw s.pays s.accs (i + 1)).map accA), .sl (.own 38000) 47 ((wP nw s.pays (i + 1)).map payA), sagsA s.sags, knsA s.kns, .int .i64 nw]) := fun he => by
        rw [(hsame he).1, (hsame he).2]
      refine ⟨_, Int.natCast_nonneg i, map_of hx, ?_⟩
      refine ⟨fun h => ?_, fun h => ?_⟩
      · have h0 : p.stage = 0 := beqT h
        refine ⟨fun h => ?_, fun h => ?_⟩
        · have hu : p.til ≤ nw := decT h
          have he : exp? nw p := ⟨h0, hu⟩
          have eA : ((wA nw s.pays s.accs i).map accA).modify p.src.toNat (fun x => x.ofCells (putCells x.cells 2 [.int .i64 (IntKind.i64.wrap (a.held - IntKind.i64.wrap (p.auth - p.capt)))])) = (wA nw s.pays s.accs (i + 1)).map accA := by
            rw [modify_map ha _ ⟨a.cur, a.bal, w64 (a.held - w64 (p.auth - p.capt))⟩ rfl, hA1]
            unfold wantStep
            rw [if_pos he, ha]
          have eP : ((wP nw s.pays i).map payA).modify i (fun x => x.ofCells (putCells x.cells 7 [.int .i64 1])) = (wP nw s.pays (i + 1)).map payA := by
            rw [pay_modify hPg _ (shuP p) rfl, ← hP1]
            unfold closeM
            rw [if_pos he]
          have eB : (some (.cells 36 [.sl (.own 34000) 49 (((wA nw s.pays s.accs i).map accA).modify p.src.toNat (fun x => x.ofCells (putCells x.cells 2 [.int .i64 (IntKind.i64.wrap (a.held - IntKind.i64.wrap (p.auth - p.capt)))]))), .sl (.own 38000) 47 (((wP nw s.pays i).map payA).modify i (fun x => x.ofCells (putCells x.cells 7 [.int .i64 1]))), sagsA s.sags, knsA s.kns, .int .i64 nw]) : Option Box) = some (.cells 36 [.sl (.own 34000) 49 ((wA nw s.pays s.accs (i + 1)).map accA), .sl (.own 38000) 47 ((wP nw s.pays (i + 1)).map payA), sagsA s.sags, knsA s.kns, .int .i64 nw]) := by
            rw [eA, eP]
          refine ⟨_, Int.natCast_nonneg i, map_of hPg, ?_⟩
          refine ⟨_, s0', map_of ha, ?_⟩
          refine ⟨_, s0', map_of ha, ?_⟩
          exact ⟨_, hlt, i + 1, hi', rfl, rfl, rfl, congrArg (AV.int .i64) w, rfl, rfl, rfl, rfl, rfl, eB⟩
        · have he : ¬ exp? nw p := fun e => (decF h) e.2
          exact ⟨_, hlt, i + 1, hi', rfl, rfl, rfl, congrArg (AV.int .i64) w, rfl, rfl, rfl, rfl, rfl, hnot he⟩
      · have he : ¬ exp? nw p := fun e => (beqF h) e.1
        refine ⟨fun h => Bool.noConfusion (show false = true from h), fun _ => ?_⟩
        exact ⟨_, hlt, i + 1, hi', rfl, rfl, rfl, congrArg (AV.int .i64) w, rfl, rfl, rfl, rfl, rfl, hnot he⟩
    · intro hb
      have hi' : i = s.pays.length := by
        have : ¬ (i : Int) < ((s.pays.map payA).length : Nat) := by simpa using hb
        simp at this; omega
      subst hi'
      have eW : wantM s = ⟨wA nw s.pays s.accs s.pays.length, wP nw s.pays s.pays.length, s.sags, s.kns, nw⟩ := by
        unfold wantM wA wP
        rw [← hnw, List.take_length, List.drop_length, List.append_nil]
      have hw := tick_want hG hn30
      have hzT := tick_sz hz
      obtain ⟨g1, g2, g3, ⟨g4, g5, g6⟩, -⟩ := tick_spec hG hn30
      refine ⟨rfl, s, rfl, hz, ?_⟩
      refine ⟨rfl, tickM s, ⟨wA nw s.pays s.accs s.pays.length, wP nw s.pays s.pays.length, s.sags, s.kns, nw⟩, rfl, hzT, fun _ => ?_, fun h => absurd (by rw [hw, eW]; exact ⟨rfl, rfl, rfl⟩) h⟩
      refine ⟨fun h => Bool.noConfusion (show false = true from h), fun _ => ?_⟩
      refine ⟨rfl, (tickM s).pays, (tickM s).now, rfl, by have := hzT.lp; omega, ?_⟩
      rw [tick_due hG hn30]
      refine ⟨fun h => Bool.noConfusion (show false = true from h), fun _ => ?_⟩
      exact ⟨_, hdec, k + 1, tickM s, ⟨by omega, g1, hzT, by rw [g6]; omega, by rw [g4]; exact hsg⟩, rfl, rfl, congrArg (AV.int .i64) wk, rfl, rfl⟩
  · intro hc
    have hz2 : SzA ⟨s.accs, s.pays, s.sags, s.kns, 1073741824⟩ := ⟨hz.la, hz.lp⟩
    have e1 : tickM ⟨s.accs, s.pays, s.sags, s.kns, 1073741824⟩ = ⟨s.accs, s.pays, s.sags, s.kns, 1073741824⟩ := if_pos (show (1073741824 : Int) ≥ 1073741824 by decide)
    refine ⟨rfl, ⟨s.accs, s.pays, s.sags, s.kns, 1073741824⟩, rfl, hz2, ?_⟩
    rw [e1]
    exact ⟨rfl, ⟨s.accs, s.pays, s.sags, s.kns, 1073741824⟩, ⟨s.accs, s.pays, s.sags, s.kns, 1073741824⟩, rfl, hz2, fun _ => hK, fun h => absurd ⟨rfl, rfl, rfl⟩ h⟩
end Go.Proofs.YtkeafcjdejmohaaDoor.A
