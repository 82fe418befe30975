/- drain.All; hawalalaw21: awake, DrainEnds, DrainAll, DrainLess, DrainOrder, DrainNone. -/
import Derived.Test.YtjffmldlkofpaaaGreatDoorM43
import Derived.Test.YtjffmldlkofpaaaGreatDoorY14
namespace Go.Proofs.YtjffmldlkofpaaaGreatDoor.A
open Go Q
theorem bound_in {s : Sta} (h : EngG s) : 0 ≤ boundM s ∧ boundM s ≤ 288 := by
  have := bound_len h
  have := h.e.z.ls
  omega
def allDC (args : List AV) (bs : List Box) (K : AV → List Box → Prop) : Prop := bs = [] ∧ ∃ s : Sta, args = [staA s] ∧ EngG s ∧ K (staA (drainM s [] [] (boundM s)).1) []
def RDa : Contract
  | 18 => boundC
  | 16 => nil2C runDC
  | _ => fun _ _ _ => False
theorem RDa_ok : CallOk Tryz.prog tab RDa := by
  intro f args bs K h
  unfold RDa at h
  split at h
  · exact ⟨_, h, bound_ok⟩
  · exact ⟨_, h, runD_ok.nil2⟩
  · exact h.elim
def RDa_E (pl : Nat → Plan) : En := ⟨tab, RDa, fun _ => none, 0, pl⟩
theorem RDa_J (pl : Nat → Plan) : JOk Tryz.prog (RDa_E pl).T (RDa_E pl).J := fun _ _ h => by cases h
set_option maxRecDepth 200000 in
set_option maxHeartbeats 6400000 in
theorem allD_ok : FnOk Tryz.prog tab 21 allDC := by
  refine fn_ok (E := RDa_E pl21) tab_is RDa_ok (RDa_J _) Tryz.func21 rfl rfl (by kernel_rfl) ?_
  rintro args bs K ⟨rfl, s, rfl, hG, hK⟩
  refine ⟨rfl, ?_⟩
  have hb := (bound_in hG).2
  have hb6 : boundM s ≤ 100000 := by omega
  repeat' first
    | (exact hK)
    | (refine ⟨rfl, s, rfl, hG, ?_⟩)
    | (refine ⟨[staA s, intsS [], ansS [], .int .i64 (boundM s)], ⟨.inl (.inl rfl), .inl (.inr ⟨_, _, rfl, rfl⟩), .inl (.inr ⟨_, _, rfl, rfl⟩), .inl (.inl rfl), trivial⟩, rfl, s, [], [], boundM s, rfl, hG.e, hb6, ?_⟩)
    | (refine ⟨fun _ => ?_, fun h => Bool.noConfusion (show true = false from h)⟩)
    | (refine ⟨fun h => Bool.noConfusion (show false = true from h), fun _ => ?_⟩)
    | (refine And.intro ?_ ?_)
/-! ### the document's example -/
def e21 : Evt := ⟨0, r17, 0, false⟩
def f21 : Evt := ⟨1, ⟨0, 0, 0, 0, 0, 0, 0⟩, 1, true⟩
def sta21 : Sta := ⟨[⟨0, -1000, 0⟩, ⟨0, 0, 0⟩, ⟨0, 0, 0⟩, ⟨1, -500, 0⟩, ⟨1, 0, 0⟩, ⟨1, 0, 0⟩, ⟨2, -500, 0⟩, ⟨2, 0, 0⟩, ⟨2, 0, 0⟩, ⟨0, 500, 5⟩, ⟨1, 500, 0⟩, ⟨2, 500, 0⟩, ⟨0, 500, 0⟩, ⟨1, 0, 0⟩, ⟨0, 0, 0⟩], [], [⟨r17, 0, 0, 0, 0⟩], [⟨r17, 0, 0, false⟩], 0⟩
theorem aw21_0 : someM b17 [] [] = sta17 := aw17_0
theorem aw21_1 : engM sta17 e21 = (sta21, (10, 0)) := by kernel_rfl
theorem aw21_2 : drainM sta21 [] [] 9 = (sta17b, [f21, f21]) := by kernel_rfl
theorem aw21_3 : boundM sta21 = 6 := by kernel_rfl
theorem aw21_4 : (drainM sta21 [] [] 6).1 = sta17b := by kernel_rfl
def awake21C (args : List AV) (bs : List Box) (K : AV → List Box → Prop) : Prop := bs = [] ∧ args = [] ∧ K (.bool true) []
def RA21 : Contract
  | 15 => nil2C someC
  | 19 => engC
  | 16 => nil2C runDC
  | 18 => boundC
  | 21 => allDC
  | _ => fun _ _ _ => False
theorem RA21_ok : CallOk Tryz.prog tab RA21 := by
  intro f args bs K h
  unfold RA21 at h
  split at h
  · exact ⟨_, h, some_ok.nil2⟩
  · exact ⟨_, h, eng_ok⟩
  · exact ⟨_, h, runD_ok.nil2⟩
  · exact ⟨_, h, bound_ok⟩
  · exact ⟨_, h, allD_ok⟩
  · exact h.elim
def RA21_E (pl : Nat → Plan) : En := ⟨tab, RA21, fun _ => none, 0, pl⟩
theorem RA21_J (pl : Nat → Plan) : JOk Tryz.prog (RA21_E pl).T (RA21_E pl).J := fun _ _ h => by cases h
set_option maxRecDepth 200000 in
set_option maxHeartbeats 12800000 in
theorem awake21_ok : FnOk Tryz.prog tab 14 awake21C := by
  refine fn_ok (E := RA21_E pl14) tab_is RA21_ok (RA21_J _) Tryz.func14 rfl rfl (by kernel_rfl) ?_
  rintro args bs K ⟨rfl, rfl, hK⟩
  refine ⟨rfl, ?_⟩
  have hG0 : EngG sta17 := by rw [← aw17_0]; exact state_engG b17_in (fun _ h => by cases h) (Nat.zero_le _) (Int.le_refl 0)
  have hG1 : EngG sta21 := by
    have := hG0.eng e21
    rw [aw21_1] at this; exact this
  refine ⟨[bkA b17, padS [], actsS []], ⟨.inr ⟨_, [u8S [], u32S [500, 500, 500, 500], u8S []], rfl, rfl, .inr ⟨_, _, rfl, rfl⟩, .inl rfl, .inr ⟨_, _, rfl, rfl⟩, trivial⟩, .inl (.inr ⟨_, _, rfl, rfl⟩), .inl (.inr ⟨_, _, rfl, rfl⟩), trivial⟩, rfl, b17, [], [], rfl, b17_in, (fun _ h => by cases h), by decide, (fun _ h => by cases h), by decide, ?_⟩
  rw [aw21_0]
  refine ⟨rfl, sta17, e21, rfl, hG0.e.z, fun _ => hG0.e.tell, ?_⟩
  rw [aw21_1]
  refine ⟨[staA sta21, intsS [], ansS [], .int .i64 9], ⟨.inl (.inl rfl), .inl (.inr ⟨_, _, rfl, rfl⟩), .inl (.inr ⟨_, _, rfl, rfl⟩), .inl (.inl rfl), trivial⟩, rfl, sta21, [], [], 9, rfl, hG1.e, by decide, ?_⟩
  rw [aw21_2]
  refine ⟨fun _ => ?_, fun h => Bool.noConfusion (show true = false from h)⟩
  refine ⟨rfl, sta21, rfl, hG1, ?_⟩
  rw [aw21_3]
  refine ⟨fun _ => ?_, fun h => Bool.noConfusion (show true = false from h)⟩
  refine ⟨fun _ => ?_, fun h => Bool.noConfusion (show true = false from h)⟩
  refine ⟨fun _ => ?_, fun h => Bool.noConfusion (show true = false from h)⟩
  refine ⟨rfl, sta21, rfl, hG1, ?_⟩
  rw [aw21_3, aw21_4]
  exact hK
/-! ### the laws -/
def dendsC (args : List AV) (bs : List Box) (K : AV → List Box → Prop) : Prop := bs = [] ∧ ∃ (b : Book) (ps : List Paid) (l : List Act) (picks : List Int) (answers : List Bool), args = [bkA b, padS ps, actsS l, intsS picks, ansS answers] ∧ b.Ok ∧ (∀ p ∈ ps, p.In) ∧ ps.length ≤ 1999900 ∧ (∀ a ∈ l, a.In) ∧ l.length ≤ 1999900 ∧ K (.bool true) []
def RDE : Contract
  | 14 => awake21C
  | 15 => someC
  | 16 => runDC
  | 18 => boundC
  | 28 => checkC
  | 34 => quietC
  | _ => fun _ _ _ => False
theorem RDE_ok : CallOk Tryz.prog tab RDE := by
  intro f args bs K h
  unfold RDE at h
  split at h
  · exact ⟨_, h, awake21_ok⟩
  · exact ⟨_, h, some_ok⟩
  · exact ⟨_, h, runD_ok⟩
  · exact ⟨_, h, bound_ok⟩
  · exact ⟨_, h, check_ok⟩
  · exact ⟨_, h, quiet_ok⟩
  · exact h.elim
def RDE_E (pl : Nat → Plan) : En := ⟨tab, RDE, fun _ => none, 0, pl⟩
theorem RDE_J (pl : Nat → Plan) : JOk Tryz.prog (RDE_E pl).T (RDE_E pl).J := fun _ _ h => by cases h
set_option maxRecDepth 200000 in
set_option maxHeartbeats 12800000 in
theorem dends_ok : FnOk Tryz.prog tab 13 dendsC := by
  refine fn_ok (E := RDE_E pl13) tab_is RDE_ok (RDE_J _) Tryz.func13 rfl rfl (by kernel_rfl) ?_
  rintro args bs K ⟨rfl, b, ps, l, picks, answers, rfl, hb, hps, hpl, hl, hll, hK⟩
  refine ⟨rfl, ?_⟩
  refine ⟨rfl, rfl, ?_⟩
  refine ⟨fun h => Bool.noConfusion (show false = true from h), fun _ => ?_⟩
  refine ⟨rfl, b, ps, l, rfl, hb, hps, hpl, hl, hll, ?_⟩
  have hG := (some_GB hb hps hpl hl).1
  generalize someM b ps l = s at hG ⊢
  have hb9 := bound_in hG
  have hb6 : boundM s ≤ 100000 := by omega
  have hD := drain_ends (picks := picks) (answers := answers) (boundM s).toNat 0 hG (by omega)
  have hU := drain_G (picks := picks) (answers := answers) (boundM s).toNat 0 hG
  have hDe : drainGo picks answers (boundM s).toNat 0 s = drainM s picks answers (boundM s) := rfl
  rw [hDe] at hD hU
  have fin : ∀ c, c = true → K (.bool c) [] := fun c e => e ▸ hK
  have c1 : ((((((drainM s picks answers (boundM s)).1.sags.map sagA).length : Nat) : Int)) == 0) = true := by rw [hD.1]; rfl
  have c2 : decide ((((((drainM s picks answers (boundM s)).2.map evtA).length : Nat) : Int)) ≤ boundM s) = true := by rw [List.length_map]; exact decide_eq_true hD.2
  have c3 : ((((iA (faults (drainM s picks answers (boundM s)).1)).length : Nat) : Int) == 0) = true := by rw [faults_nil hU]; rfl
  have c4 : quietB (drainM s picks answers (boundM s)).1 = true := by rw [quiet_of hU, hD.1]; rfl
  have hsm := hU.small
  repeat' first
    | (exact fin _ c4)
    | (refine ⟨fun _ => ?_, fun h => absurd (c1.symm.trans h) (by decide)⟩)
    | (refine ⟨fun _ => ?_, fun h => absurd (c2.symm.trans h) (by decide)⟩)
    | (refine ⟨fun _ => ?_, fun h => absurd (c3.symm.trans h) (by decide)⟩)
    | (refine ⟨rfl, s, rfl, hG, ?_⟩)
    | (refine ⟨rfl, s, picks, answers, boundM s, rfl, hG.e, hb6, ?_⟩)
    | (refine ⟨rfl, (drainM s picks answers (boundM s)).1, rfl, hsm, ?_⟩)
    | (refine ⟨fun _ => ?_, fun h => Bool.noConfusion (show true = false from h)⟩)
    | (refine ⟨fun h => Bool.noConfusion (show false = true from h), fun _ => ?_⟩)
    | (refine And.intro ?_ ?_)
def bactC (args : List AV) (bs : List Box) (K : AV → List Box → Prop) : Prop := bs = [] ∧ ∃ (b : Book) (l : List Act), args = [bkA b, actsS l] ∧ b.Ok ∧ (∀ a ∈ l, a.In) ∧ l.length ≤ 1999900 ∧ K (.bool true) []
def RDA : Contract
  | 14 => awake21C
  | 15 => nil2C someC
  | 21 => allDC
  | 19 => engC
  | 20 => same17C
  | _ => fun _ _ _ => False
theorem RDA_ok : CallOk Tryz.prog tab RDA := by
  intro f args bs K h
  unfold RDA at h
  split at h
  · exact ⟨_, h, awake21_ok⟩
  · exact ⟨_, h, some_ok.nil2⟩
  · exact ⟨_, h, allD_ok⟩
  · exact ⟨_, h, eng_ok⟩
  · exact ⟨_, h, same17_ok⟩
  · exact h.elim
def RDA_E (pl : Nat → Plan) : En := ⟨tab, RDA, fun _ => none, 0, pl⟩
theorem RDA_J (pl : Nat → Plan) : JOk Tryz.prog (RDA_E pl).T (RDA_E pl).J := fun _ _ h => by cases h
set_option maxRecDepth 200000 in
set_option maxHeartbeats 12800000 in
theorem dall_ok : FnOk Tryz.prog tab 4 bactC := by
  refine fn_ok (E := RDA_E pl4) tab_is RDA_ok (RDA_J _) Tryz.func4 rfl rfl (by kernel_rfl) ?_
  rintro args bs K ⟨rfl, b, l, rfl, hb, hl, hll, hK⟩
  refine ⟨rfl, ?_⟩
  have fin : ∀ c, c = true → K (.bool c) [] := fun c e => e ▸ hK
  refine ⟨rfl, rfl, ?_⟩
  refine ⟨fun h => Bool.noConfusion (show false = true from h), fun _ => ?_⟩
  refine ⟨[bkA b, padS [], actsS l], ⟨.inl (.inl rfl), .inl (.inr ⟨_, _, rfl, rfl⟩), .inl (.inl rfl), trivial⟩, rfl, b, [], l, rfl, hb, (fun _ h => by cases h), by decide, hl, hll, ?_⟩
  obtain ⟨hG, hB⟩ := some_GB (ps := []) hb (fun _ h => by cases h) (Nat.zero_le _) hl
  generalize someM b [] l = s at hG ⊢
  have hb9 := bound_in hG
  refine ⟨rfl, s, rfl, hG, ?_⟩
  have hD := (drain_ends (picks := []) (answers := []) (boundM s).toNat 0 hG (by omega)).1
  have hM : (drainGo [] [] 1000 0 s).1 = (drainM s [] [] (boundM s)).1 := by
    have := drain_more (picks := []) (answers := []) (boundM s).toNat (1000 - (boundM s).toNat) 0 hG (by omega)
    rw [show (boundM s).toNat + (1000 - (boundM s).toNat) = 1000 by omega] at this
    rw [this]; rfl
  have hDe : (drainGo [] [] (boundM s).toNat 0 s).1 = (drainM s [] [] (boundM s)).1 := rfl
  rw [hDe] at hD
  generalize (drainM s [] [] (boundM s)).1 = T at hD hM ⊢
  have c9 : ((((T.sags.map sagA).length : Nat) : Int) == 0) = true := by rw [hD]; rfl
  refine ⟨fun mm st => ∃ (n : Nat) (x : Sta), (n ≤ 1000 ∧ EngG x ∧ (drainGo [] [] (1000 - n) n x).1 = T) ∧ 1000 - n = mm ∧ st.t 7 = .int .i64 n ∧ st.t 5 = .ptr 5 0 ∧ st.t 6 = .ptr 6 0 ∧ st.h 5 = staB x ∧ st.h 6 = staB T,
    ⟨_, 0, s, ⟨Nat.zero_le _, hG, hM⟩, rfl, rfl, rfl, rfl, rfl, rfl⟩, ?_⟩
  rintro _ ⟨t1, h1⟩ ⟨n, x, ⟨hn, hS, hE⟩, rfl, e7, e5, e6, b5, b6⟩
  have e7 : t1 7 = .int .i64 n := e7
  have e5 : t1 5 = .ptr 5 0 := e5
  have e6 : t1 6 = .ptr 6 0 := e6
  have b5 : h1 5 = staB x := b5
  have b6 : h1 6 = staB T := b6
  rw [← updL_has t1 [(7, .int .i64 n), (5, .ptr 5 0), (6, .ptr 6 0)] ⟨e7, e5, e6, trivial⟩, ← updL_has h1 [(5, staB x), (6, staB T)] ⟨b5, b6, trivial⟩]
  refine ⟨fun h0 => ?_, fun h0 => ?_⟩
  · have h0 : 0 < x.sags.length := by have := decT h0; rw [List.length_map] at this; omega
    refine ⟨fun hk => ?_, fun hk => ?_⟩
    · have hk : n < 1000 := by have := decT hk; omega
      have wn : IntKind.i64.wrap ((n : Int) + 1) = ((n + 1 : Nat) : Int) := wrap_of (by omega) (by omega)
      have hlt : 1000 - (n + 1) < 1000 - n := by omega
      have hg := List.getElem?_eq_getElem h0
      generalize x.sags[0]'h0 = g at hg
      have hev : evD x [] [] n = ⟨1, ⟨0, 0, 0, 0, 0, 0, 0⟩, g.req.key, true⟩ := by
        show (⟨1, ⟨0, 0, 0, 0, 0, 0, 0⟩, (match x.sags[(0 : Int).toNat]? with | some g => g.req.key | none => 0), true⟩ : Evt) = _
        rw [show (0 : Int).toNat = 0 from rfl, hg]
      have hB9 : (x.sags.map sagA)[(0 : Int).toNat]? = some (sagA g) := map_of hg
      have hE2 : (drainGo [] [] (1000 - (n + 1)) (n + 1) (engM x (evD x [] [] n)).1).1 = T := by
        rw [show 1000 - n = (1000 - (n + 1)) + 1 by omega, drainGo, if_neg (by omega)] at hE
        exact hE
      have hS2 := hS.eng (evD x [] [] n)
      refine ⟨_, Int.le_refl 0, hB9, ?_⟩
      refine ⟨rfl, x, evD x [] [] n, (by rw [hev]; rfl), hS.e.z, fun _ => hS.e.tell, ?_⟩
      generalize engM x (evD x [] [] n) = y at hE2 hS2 ⊢
      obtain ⟨y, o⟩ := y
      dsimp only at hE2 hS2
      exact ⟨_, hlt, n + 1, y, ⟨hk, hS2, hE2⟩, rfl, congrArg (AV.int .i64) wn, rfl, rfl, rfl, rfl⟩
    · have hk : n = 1000 := by have := decF hk; omega
      have hxT : x = T := by rw [hk] at hE; exact hE
      subst hxT
      refine ⟨rfl, x, rfl, hS.e, ?_⟩
      refine ⟨fun _ => ?_, fun h => Bool.noConfusion (show true = false from h)⟩
      exact fin _ c9
  · have h0 : x.sags.length = 0 := by have := decF h0; rw [List.length_map] at this; omega
    have hxT : x = T := by
      rw [← hE]
      cases 1000 - n with
      | zero => rfl
      | succ f => rw [drainGo, if_pos h0]
    subst hxT
    refine ⟨fun h => Bool.noConfusion (show false = true from h), fun _ => ?_⟩
    refine ⟨rfl, x, rfl, hS.e, ?_⟩
    refine ⟨fun _ => ?_, fun h => Bool.noConfusion (show true = false from h)⟩
    exact fin _ c9
def dlessC (args : List AV) (bs : List Box) (K : AV → List Box → Prop) : Prop := bs = [] ∧ ∃ (b : Book) (l : List Act) (k : Int) (ok : Bool), args = [bkA b, actsS l, .int .u8 k, .bool ok] ∧ b.Ok ∧ (∀ a ∈ l, a.In) ∧ l.length ≤ 1999900 ∧ u8I k ∧ K (.bool true) []
def RDL : Contract
  | 14 => awake21C
  | 15 => nil2C someC
  | 18 => boundC
  | 19 => engC
  | _ => fun _ _ _ => False
theorem RDL_ok : CallOk Tryz.prog tab RDL := by
  intro f args bs K h
  unfold RDL at h
  split at h
  · exact ⟨_, h, awake21_ok⟩
  · exact ⟨_, h, some_ok.nil2⟩
  · exact ⟨_, h, bound_ok⟩
  · exact ⟨_, h, eng_ok⟩
  · exact h.elim
def RDL_E (pl : Nat → Plan) : En := ⟨tab, RDL, fun _ => none, 0, pl⟩
theorem RDL_J (pl : Nat → Plan) : JOk Tryz.prog (RDL_E pl).T (RDL_E pl).J := fun _ _ h => by cases h
set_option maxRecDepth 200000 in
set_option maxHeartbeats 12800000 in
theorem dless_ok : FnOk Tryz.prog tab 5 dlessC := by
  refine fn_ok (E := RDL_E pl5) tab_is RDL_ok (RDL_J _) Tryz.func5 rfl rfl (by kernel_rfl) ?_
  rintro args bs K ⟨rfl, b, l, k, ok, rfl, hb, hl, hll, hk, hK⟩
  refine ⟨rfl, ?_⟩
  have fin : ∀ c, c = true → K (.bool c) [] := fun c e => e ▸ hK
  refine ⟨rfl, rfl, ?_⟩
  refine ⟨fun h => Bool.noConfusion (show false = true from h), fun _ => ?_⟩
  refine ⟨[bkA b, padS [], actsS l], ⟨.inl (.inl rfl), .inl (.inr ⟨_, _, rfl, rfl⟩), .inl (.inl rfl), trivial⟩, rfl, b, [], l, rfl, hb, (fun _ h => by cases h), by decide, hl, hll, ?_⟩
  obtain ⟨hG, hB⟩ := some_GB (ps := []) hb (fun _ h => by cases h) (Nat.zero_le _) hl
  generalize someM b [] l = s at hG ⊢
  refine ⟨fun h0 => ?_, fun h0 => ?_⟩
  · have h0 : s.sags.length = 0 := by have := beqT h0; rw [List.length_map] at this; omega
    have hb0 : (boundM s == 0) = true := by
      have : boundM s = 0 := by unfold boundM; rw [List.length_eq_zero_iff.1 h0]; rfl
      rw [this]; rfl
    refine ⟨rfl, s, rfl, hG, ?_⟩
    exact fin _ hb0
  · have h0 : 0 < s.sags.length := by have := beqF h0; rw [List.length_map] at this; omega
    have k0 := hk.1
    have k1 := hk.2
    have hw : IntKind.i64.wrap k = k := wrap_of (by omega) (by omega)
    have hn0 : (((s.sags.map sagA).length : Nat) : Int) ≠ 0 := by rw [List.length_map]; omega
    have hm0 := Int.tmod_nonneg (s.sags.length : Int) k0
    have hm1 := Int.tmod_lt_of_pos k (show (0 : Int) < s.sags.length by omega)
    have hg := List.getElem?_eq_getElem (show (k.tmod s.sags.length).toNat < s.sags.length by omega)
    generalize s.sags[(k.tmod s.sags.length).toNat]'(by omega) = g at hg
    have hA9 : 0 ≤ (IntKind.i64.wrap k).tmod (((s.sags.map sagA).length : Nat) : Int) := by rw [hw, List.length_map]; exact hm0
    have hB9 : (s.sags.map sagA)[((IntKind.i64.wrap k).tmod (((s.sags.map sagA).length : Nat) : Int)).toNat]? = some (sagA g) := by rw [hw, List.length_map]; exact map_of hg
    refine ⟨hn0, ?_⟩
    refine ⟨_, hA9, hB9, ?_⟩
    have hless := drain_less hG hg (e := ⟨1, ⟨0, 0, 0, 0, 0, 0, 0⟩, g.req.key, ok⟩) rfl rfl
    have hG2 := hG.eng ⟨1, ⟨0, 0, 0, 0, 0, 0, 0⟩, g.req.key, ok⟩
    refine ⟨rfl, s, ⟨1, ⟨0, 0, 0, 0, 0, 0, 0⟩, g.req.key, ok⟩, rfl, hG.e.z, fun _ => hG.e.tell, ?_⟩
    generalize engM s ⟨1, ⟨0, 0, 0, 0, 0, 0, 0⟩, g.req.key, ok⟩ = y at hless hG2 ⊢
    obtain ⟨y, o⟩ := y
    dsimp only at hless hG2
    have c1 : decide (boundM y < boundM s) = true := decide_eq_true (by omega)
    repeat' first
      | (exact fin _ c1)
      | (refine ⟨rfl, y, rfl, hG2, ?_⟩)
      | (refine ⟨rfl, s, rfl, hG, ?_⟩)
      | (refine ⟨fun _ => ?_, fun h => Bool.noConfusion (show true = false from h)⟩)
      | (refine ⟨fun h => Bool.noConfusion (show false = true from h), fun _ => ?_⟩)
      | (refine And.intro ?_ ?_)
def dorderC (args : List AV) (bs : List Box) (K : AV → List Box → Prop) : Prop := bs = [] ∧ ∃ (b : Book) (l : List Act) (picks : List Int), args = [bkA b, actsS l, intsS picks] ∧ b.Ok ∧ (∀ a ∈ l, a.In) ∧ l.length ≤ 1999900 ∧ K (.bool true) []
theorem kno_ne (x : Kno) : (!(((x.req.key == x.req.key) && ((x.req.op == x.req.op) && ((x.req.a == x.req.a) && ((x.req.b == x.req.b) && ((x.req.amt == x.req.amt) && ((x.req.legs == x.req.legs) && ((x.req.til == x.req.til) && ((x.err == x.err) && ((x.id == x.id) && ((x.told == x.told) && true)))))))))))) = false := by simp
theorem acc_ne (x : Acc) : (!((x.cur == x.cur) && ((x.bal == x.bal) && ((x.held == x.held) && true)))) = false := by simp
def RDO : Contract
  | 14 => awake21C
  | 15 => nil2C someC
  | 18 => boundC
  | 16 => nil2C runDC
  | 21 => allDC
  | _ => fun _ _ _ => False
theorem RDO_ok : CallOk Tryz.prog tab RDO := by
  intro f args bs K h
  unfold RDO at h
  split at h
  · exact ⟨_, h, awake21_ok⟩
  · exact ⟨_, h, some_ok.nil2⟩
  · exact ⟨_, h, bound_ok⟩
  · exact ⟨_, h, runD_ok.nil2⟩
  · exact ⟨_, h, allD_ok⟩
  · exact h.elim
def RDO_E (pl : Nat → Plan) : En := ⟨tab, RDO, fun _ => none, 0, pl⟩
theorem RDO_J (pl : Nat → Plan) : JOk Tryz.prog (RDO_E pl).T (RDO_E pl).J := fun _ _ h => by cases h
set_option maxRecDepth 200000 in
set_option maxHeartbeats 25600000 in
theorem dorder_ok : FnOk Tryz.prog tab 6 dorderC := by
  refine fn_ok (E := RDO_E pl6) tab_is RDO_ok (RDO_J _) Tryz.func6 rfl rfl (by kernel_rfl) ?_
  rintro args bs K ⟨rfl, b, l, picks, rfl, hb, hl, hll, hK⟩
  refine ⟨rfl, ?_⟩
  have fin : ∀ c, c = true → K (.bool c) [] := fun c e => e ▸ hK
  refine ⟨rfl, rfl, ?_⟩
  refine ⟨fun h => Bool.noConfusion (show false = true from h), fun _ => ?_⟩
  refine ⟨[bkA b, padS [], actsS l], ⟨.inl (.inl rfl), .inl (.inr ⟨_, _, rfl, rfl⟩), .inl (.inl rfl), trivial⟩, rfl, b, [], l, rfl, hb, (fun _ h => by cases h), by decide, hl, hll, ?_⟩
  obtain ⟨hG, hB⟩ := some_GB (ps := []) hb (fun _ h => by cases h) (Nat.zero_le _) hl
  have hX : (600000 : Int) + 1600000 * l.length ≤ 4000000000000 := by omega
  have hX0 : (0 : Int) ≤ 600000 + 1600000 * l.length := by omega
  generalize (600000 : Int) + 1600000 * l.length = X at hB hX hX0
  generalize someM b [] l = s at hG hB ⊢
  have hb9 := bound_in hG
  have hb6 : boundM s ≤ 100000 := by omega
  have hTU : (drainM s picks [] (boundM s)).1.accs = (drainM s [] [] (boundM s)).1.accs ∧ (drainM s picks [] (boundM s)).1.kns = (drainM s [] [] (boundM s)).1.kns :=
    drain_order (picks := picks) (qs := []) (f := (boundM s).toNat) (g := (boundM s).toNat) hG hB hX0 (by omega) (by omega) (by omega) (by omega)
  refine ⟨?_, ?_⟩
  · refine ⟨rfl, s, rfl, hG, ?_⟩
    refine ⟨?_, ?_⟩
    · refine ⟨[staA s, intsS picks, ansS [], .int .i64 (boundM s)], ⟨.inl (.inl rfl), .inl (.inl rfl), .inl (.inr ⟨_, _, rfl, rfl⟩), .inl (.inl rfl), trivial⟩, rfl, s, picks, [], boundM s, rfl, hG.e, hb6, ?_⟩
      refine ⟨rfl, s, rfl, hG, ?_⟩
      generalize (drainM s [] [] (boundM s)).1 = U at hTU ⊢
      have hTG : EngG (drainM s picks [] (boundM s)).1 := drain_G (picks := picks) (answers := []) (boundM s).toNat 0 hG
      generalize drainM s picks [] (boundM s) = T0 at hTU hTG ⊢
      obtain ⟨T, es⟩ := T0
      dsimp only at hTU hTG
      have hlk := hTG.e.z.lk
      have hla := hTG.e.z.la
      have cl : ((((T.kns.map knoA).length : Nat) : Int) != ((U.kns.map knoA).length : Nat)) = false := by rw [hTU.2]; simp
      refine ⟨fun h => absurd (cl.symm.trans h) (by decide), fun _ => ?_⟩
      refine ⟨fun mm st => ∃ (i : Nat), (i ≤ T.kns.length) ∧ T.kns.length - i = mm ∧ st.t 37 = .int .i64 ((T.kns.map knoA).length : Nat) ∧ st.t 38 = .int .i64 i ∧ st.t 8 = .ptr 8 0 ∧ st.t 10 = .ptr 10 0 ∧ st.h 8 = staB T ∧ st.h 10 = staB U,
        ⟨_, 0, Nat.zero_le _, rfl, rfl, rfl, rfl, rfl, rfl, rfl⟩, ?_⟩
      rintro _ ⟨t1, h1⟩ ⟨i, hi, rfl, e37, e38, e8, e10, b8, b10⟩
      have e37 : t1 37 = .int .i64 ((T.kns.map knoA).length : Nat) := e37
      have e38 : t1 38 = .int .i64 i := e38
      have e8 : t1 8 = .ptr 8 0 := e8
      have e10 : t1 10 = .ptr 10 0 := e10
      have b8 : h1 8 = staB T := b8
      have b10 : h1 10 = staB U := b10
      rw [← updL_has t1 [(37, .int .i64 ((T.kns.map knoA).length : Nat)), (38, .int .i64 i), (8, .ptr 8 0), (10, .ptr 10 0)] ⟨e37, e38, e8, e10, trivial⟩, ← updL_has h1 [(8, staB T), (10, staB U)] ⟨b8, b10, trivial⟩]
      constructor
      · intro hb
        have hi' : i < T.kns.length := by
          have : (i : Int) < ((T.kns.map knoA).length : Nat) := by simpa using hb
          simp at this; omega
        have w : IntKind.i64.wrap ((i : Int) + 1) = ((i + 1 : Nat) : Int) := by rw [wrap_of] <;> omega
        have hlt : T.kns.length - (i + 1) < T.kns.length - i := by omega
        obtain ⟨k, hx⟩ : ∃ x, T.kns[i]? = some x := ⟨_, List.getElem?_eq_getElem hi'⟩
        have hm := List.mem_of_getElem? hx
        have hdr := drop_at hx
        have hx2 := hx
        rw [hTU.2] at hx2
        refine ⟨_, Int.natCast_nonneg i, map_of hx, ?_⟩
        refine ⟨_, Int.natCast_nonneg i, map_of hx2, ?_⟩
        refine ⟨fun h => absurd ((kno_ne k).symm.trans h) (by decide), fun _ => ?_⟩
        exact ⟨_, hlt, i + 1, hi', rfl, rfl, congrArg (AV.int .i64) w, rfl, rfl, rfl, rfl⟩
      · intro _
        refine ⟨fun mm st => ∃ (i : Nat), (i ≤ T.accs.length) ∧ T.accs.length - i = mm ∧ st.t 55 = .int .i64 ((T.accs.map accA).length : Nat) ∧ st.t 56 = .int .i64 i ∧ st.t 8 = .ptr 8 0 ∧ st.t 10 = .ptr 10 0 ∧ st.h 8 = staB T ∧ st.h 10 = staB U,
          ⟨_, 0, Nat.zero_le _, rfl, rfl, rfl, rfl, rfl, rfl, rfl⟩, ?_⟩
        rintro _ ⟨t3, h3⟩ ⟨i, hi, rfl, e55, e56, e8, e10, b8, b10⟩
        have e55 : t3 55 = .int .i64 ((T.accs.map accA).length : Nat) := e55
        have e56 : t3 56 = .int .i64 i := e56
        have e8 : t3 8 = .ptr 8 0 := e8
        have e10 : t3 10 = .ptr 10 0 := e10
        have b8 : h3 8 = staB T := b8
        have b10 : h3 10 = staB U := b10
        rw [← updL_has t3 [(55, .int .i64 ((T.accs.map accA).length : Nat)), (56, .int .i64 i), (8, .ptr 8 0), (10, .ptr 10 0)] ⟨e55, e56, e8, e10, trivial⟩, ← updL_has h3 [(8, staB T), (10, staB U)] ⟨b8, b10, trivial⟩]
        constructor
        · intro hb
          have hi' : i < T.accs.length := by
            have : (i : Int) < ((T.accs.map accA).length : Nat) := by simpa using hb
            simp at this; omega
          have w : IntKind.i64.wrap ((i : Int) + 1) = ((i + 1 : Nat) : Int) := by rw [wrap_of] <;> omega
          have hlt : T.accs.length - (i + 1) < T.accs.length - i := by omega
          obtain ⟨a, hx⟩ : ∃ x, T.accs[i]? = some x := ⟨_, List.getElem?_eq_getElem hi'⟩
          have hm := List.mem_of_getElem? hx
          have hdr := drop_at hx
          have hx2 := hx
          rw [hTU.1] at hx2
          refine ⟨_, Int.natCast_nonneg i, map_of hx, ?_⟩
          refine ⟨_, Int.natCast_nonneg i, map_of hx2, ?_⟩
          refine ⟨fun h => absurd ((acc_ne a).symm.trans h) (by decide), fun _ => ?_⟩
          exact ⟨_, hlt, i + 1, hi', rfl, rfl, congrArg (AV.int .i64) w, rfl, rfl, rfl, rfl⟩
        · intro _
          have ce : ((((T.accs.map accA).length : Nat) : Int) == ((U.accs.map accA).length : Nat)) = true := by rw [hTU.1]; simp
          exact fin _ ce
    · refine ⟨[staA s, intsS picks, ansS [], .int .i64 (boundM s)], ⟨.inl (.inl rfl), .inl (.inl rfl), .inl (.inr ⟨_, _, rfl, rfl⟩), .inl (.inl rfl), trivial⟩, rfl, s, picks, [], boundM s, rfl, hG.e, hb6, ?_⟩
      refine ⟨rfl, s, rfl, hG, ?_⟩
      generalize (drainM s [] [] (boundM s)).1 = U at hTU ⊢
      have hTG : EngG (drainM s picks [] (boundM s)).1 := drain_G (picks := picks) (answers := []) (boundM s).toNat 0 hG
      generalize drainM s picks [] (boundM s) = T0 at hTU hTG ⊢
      obtain ⟨T, es⟩ := T0
      dsimp only at hTU hTG
      have hlk := hTG.e.z.lk
      have hla := hTG.e.z.la
      have cl : ((((T.kns.map knoA).length : Nat) : Int) != ((U.kns.map knoA).length : Nat)) = false := by rw [hTU.2]; simp
      refine ⟨fun h => absurd (cl.symm.trans h) (by decide), fun _ => ?_⟩
      refine ⟨fun mm st => ∃ (i : Nat), (i ≤ T.kns.length) ∧ T.kns.length - i = mm ∧ st.t 37 = .int .i64 ((T.kns.map knoA).length : Nat) ∧ st.t 38 = .int .i64 i ∧ st.t 8 = .ptr 8 0 ∧ st.t 10 = .ptr 10 0 ∧ st.h 8 = staB T ∧ st.h 10 = staB U,
        ⟨_, 0, Nat.zero_le _, rfl, rfl, rfl, rfl, rfl, rfl, rfl⟩, ?_⟩
      rintro _ ⟨t1, h1⟩ ⟨i, hi, rfl, e37, e38, e8, e10, b8, b10⟩
      have e37 : t1 37 = .int .i64 ((T.kns.map knoA).length : Nat) := e37
      have e38 : t1 38 = .int .i64 i := e38
      have e8 : t1 8 = .ptr 8 0 := e8
      have e10 : t1 10 = .ptr 10 0 := e10
      have b8 : h1 8 = staB T := b8
      have b10 : h1 10 = staB U := b10
      rw [← updL_has t1 [(37, .int .i64 ((T.kns.map knoA).length : Nat)), (38, .int .i64 i), (8, .ptr 8 0), (10, .ptr 10 0)] ⟨e37, e38, e8, e10, trivial⟩, ← updL_has h1 [(8, staB T), (10, staB U)] ⟨b8, b10, trivial⟩]
      constructor
      · intro hb
        have hi' : i < T.kns.length := by
          have : (i : Int) < ((T.kns.map knoA).length : Nat) := by simpa using hb
          simp at this; omega
        have w : IntKind.i64.wrap ((i : Int) + 1) = ((i + 1 : Nat) : Int) := by rw [wrap_of] <;> omega
        have hlt : T.kns.length - (i + 1) < T.kns.length - i := by omega
        obtain ⟨k, hx⟩ : ∃ x, T.kns[i]? = some x := ⟨_, List.getElem?_eq_getElem hi'⟩
        have hm := List.mem_of_getElem? hx
        have hdr := drop_at hx
        have hx2 := hx
        rw [hTU.2] at hx2
        refine ⟨_, Int.natCast_nonneg i, map_of hx, ?_⟩
        refine ⟨_, Int.natCast_nonneg i, map_of hx2, ?_⟩
        refine ⟨fun h => absurd ((kno_ne k).symm.trans h) (by decide), fun _ => ?_⟩
        exact ⟨_, hlt, i + 1, hi', rfl, rfl, congrArg (AV.int .i64) w, rfl, rfl, rfl, rfl⟩
      · intro _
        refine ⟨fun mm st => ∃ (i : Nat), (i ≤ T.accs.length) ∧ T.accs.length - i = mm ∧ st.t 55 = .int .i64 ((T.accs.map accA).length : Nat) ∧ st.t 56 = .int .i64 i ∧ st.t 8 = .ptr 8 0 ∧ st.t 10 = .ptr 10 0 ∧ st.h 8 = staB T ∧ st.h 10 = staB U,
          ⟨_, 0, Nat.zero_le _, rfl, rfl, rfl, rfl, rfl, rfl, rfl⟩, ?_⟩
        rintro _ ⟨t3, h3⟩ ⟨i, hi, rfl, e55, e56, e8, e10, b8, b10⟩
        have e55 : t3 55 = .int .i64 ((T.accs.map accA).length : Nat) := e55
        have e56 : t3 56 = .int .i64 i := e56
        have e8 : t3 8 = .ptr 8 0 := e8
        have e10 : t3 10 = .ptr 10 0 := e10
        have b8 : h3 8 = staB T := b8
        have b10 : h3 10 = staB U := b10
        rw [← updL_has t3 [(55, .int .i64 ((T.accs.map accA).length : Nat)), (56, .int .i64 i), (8, .ptr 8 0), (10, .ptr 10 0)] ⟨e55, e56, e8, e10, trivial⟩, ← updL_has h3 [(8, staB T), (10, staB U)] ⟨b8, b10, trivial⟩]
        constructor
        · intro hb
          have hi' : i < T.accs.length := by
            have : (i : Int) < ((T.accs.map accA).length : Nat) := by simpa using hb
            simp at this; omega
          have w : IntKind.i64.wrap ((i : Int) + 1) = ((i + 1 : Nat) : Int) := by rw [wrap_of] <;> omega
          have hlt : T.accs.length - (i + 1) < T.accs.length - i := by omega
          obtain ⟨a, hx⟩ : ∃ x, T.accs[i]? = some x := ⟨_, List.getElem?_eq_getElem hi'⟩
          have hm := List.mem_of_getElem? hx
          have hdr := drop_at hx
          have hx2 := hx
          rw [hTU.1] at hx2
          refine ⟨_, Int.natCast_nonneg i, map_of hx, ?_⟩
          refine ⟨_, Int.natCast_nonneg i, map_of hx2, ?_⟩
          refine ⟨fun h => absurd ((acc_ne a).symm.trans h) (by decide), fun _ => ?_⟩
          exact ⟨_, hlt, i + 1, hi', rfl, rfl, congrArg (AV.int .i64) w, rfl, rfl, rfl, rfl⟩
        · intro _
          have ce : ((((T.accs.map accA).length : Nat) : Int) == ((U.accs.map accA).length : Nat)) = true := by rw [hTU.1]; simp
          exact fin _ ce
  · refine ⟨rfl, s, rfl, hG, ?_⟩
    refine ⟨[staA s, intsS picks, ansS [], .int .i64 (boundM s)], ⟨.inl (.inl rfl), .inl (.inl rfl), .inl (.inr ⟨_, _, rfl, rfl⟩), .inl (.inl rfl), trivial⟩, rfl, s, picks, [], boundM s, rfl, hG.e, hb6, ?_⟩
    refine ⟨rfl, s, rfl, hG, ?_⟩
    generalize (drainM s [] [] (boundM s)).1 = U at hTU ⊢
    have hTG : EngG (drainM s picks [] (boundM s)).1 := drain_G (picks := picks) (answers := []) (boundM s).toNat 0 hG
    generalize drainM s picks [] (boundM s) = T0 at hTU hTG ⊢
    obtain ⟨T, es⟩ := T0
    dsimp only at hTU hTG
    have hlk := hTG.e.z.lk
    have hla := hTG.e.z.la
    have cl : ((((T.kns.map knoA).length : Nat) : Int) != ((U.kns.map knoA).length : Nat)) = false := by rw [hTU.2]; simp
    refine ⟨fun h => absurd (cl.symm.trans h) (by decide), fun _ => ?_⟩
    refine ⟨fun mm st => ∃ (i : Nat), (i ≤ T.kns.length) ∧ T.kns.length - i = mm ∧ st.t 37 = .int .i64 ((T.kns.map knoA).length : Nat) ∧ st.t 38 = .int .i64 i ∧ st.t 8 = .ptr 8 0 ∧ st.t 10 = .ptr 10 0 ∧ st.h 8 = staB T ∧ st.h 10 = staB U,
      ⟨_, 0, Nat.zero_le _, rfl, rfl, rfl, rfl, rfl, rfl, rfl⟩, ?_⟩
    rintro _ ⟨t1, h1⟩ ⟨i, hi, rfl, e37, e38, e8, e10, b8, b10⟩
    have e37 : t1 37 = .int .i64 ((T.kns.map knoA).length : Nat) := e37
    have e38 : t1 38 = .int .i64 i := e38
    have e8 : t1 8 = .ptr 8 0 := e8
    have e10 : t1 10 = .ptr 10 0 := e10
    have b8 : h1 8 = staB T := b8
    have b10 : h1 10 = staB U := b10
    rw [← updL_has t1 [(37, .int .i64 ((T.kns.map knoA).length : Nat)), (38, .int .i64 i), (8, .ptr 8 0), (10, .ptr 10 0)] ⟨e37, e38, e8, e10, trivial⟩, ← updL_has h1 [(8, staB T), (10, staB U)] ⟨b8, b10, trivial⟩]
    constructor
    · intro hb
      have hi' : i < T.kns.length := by
        have : (i : Int) < ((T.kns.map knoA).length : Nat) := by simpa using hb
        simp at this; omega
      have w : IntKind.i64.wrap ((i : Int) + 1) = ((i + 1 : Nat) : Int) := by rw [wrap_of] <;> omega
      have hlt : T.kns.length - (i + 1) < T.kns.length - i := by omega
      obtain ⟨k, hx⟩ : ∃ x, T.kns[i]? = some x := ⟨_, List.getElem?_eq_getElem hi'⟩
      have hm := List.mem_of_getElem? hx
      have hdr := drop_at hx
      have hx2 := hx
      rw [hTU.2] at hx2
      refine ⟨_, Int.natCast_nonneg i, map_of hx, ?_⟩
      refine ⟨_, Int.natCast_nonneg i, map_of hx2, ?_⟩
      refine ⟨fun h => absurd ((kno_ne k).symm.trans h) (by decide), fun _ => ?_⟩
      exact ⟨_, hlt, i + 1, hi', rfl, rfl, congrArg (AV.int .i64) w, rfl, rfl, rfl, rfl⟩
    · intro _
      refine ⟨fun mm st => ∃ (i : Nat), (i ≤ T.accs.length) ∧ T.accs.length - i = mm ∧ st.t 55 = .int .i64 ((T.accs.map accA).length : Nat) ∧ st.t 56 = .int .i64 i ∧ st.t 8 = .ptr 8 0 ∧ st.t 10 = .ptr 10 0 ∧ st.h 8 = staB T ∧ st.h 10 = staB U,
        ⟨_, 0, Nat.zero_le _, rfl, rfl, rfl, rfl, rfl, rfl, rfl⟩, ?_⟩
      rintro _ ⟨t3, h3⟩ ⟨i, hi, rfl, e55, e56, e8, e10, b8, b10⟩
      have e55 : t3 55 = .int .i64 ((T.accs.map accA).length : Nat) := e55
      have e56 : t3 56 = .int .i64 i := e56
      have e8 : t3 8 = .ptr 8 0 := e8
      have e10 : t3 10 = .ptr 10 0 := e10
      have b8 : h3 8 = staB T := b8
      have b10 : h3 10 = staB U := b10
      rw [← updL_has t3 [(55, .int .i64 ((T.accs.map accA).length : Nat)), (56, .int .i64 i), (8, .ptr 8 0), (10, .ptr 10 0)] ⟨e55, e56, e8, e10, trivial⟩, ← updL_has h3 [(8, staB T), (10, staB U)] ⟨b8, b10, trivial⟩]
      constructor
      · intro hb
        have hi' : i < T.accs.length := by
          have : (i : Int) < ((T.accs.map accA).length : Nat) := by simpa using hb
          simp at this; omega
        have w : IntKind.i64.wrap ((i : Int) + 1) = ((i + 1 : Nat) : Int) := by rw [wrap_of] <;> omega
        have hlt : T.accs.length - (i + 1) < T.accs.length - i := by omega
        obtain ⟨a, hx⟩ : ∃ x, T.accs[i]? = some x := ⟨_, List.getElem?_eq_getElem hi'⟩
        have hm := List.mem_of_getElem? hx
        have hdr := drop_at hx
        have hx2 := hx
        rw [hTU.1] at hx2
        refine ⟨_, Int.natCast_nonneg i, map_of hx, ?_⟩
        refine ⟨_, Int.natCast_nonneg i, map_of hx2, ?_⟩
        refine ⟨fun h => absurd ((acc_ne a).symm.trans h) (by decide), fun _ => ?_⟩
        exact ⟨_, hlt, i + 1, hi', rfl, rfl, congrArg (AV.int .i64) w, rfl, rfl, rfl, rfl⟩
      · intro _
        have ce : ((((T.accs.map accA).length : Nat) : Int) == ((U.accs.map accA).length : Nat)) = true := by rw [hTU.1]; simp
        exact fin _ ce
def dnoneC (args : List AV) (bs : List Box) (K : AV → List Box → Prop) : Prop := bs = [] ∧ ∃ (b : Book) (ps : List Paid) (picks : List Int) (most : Int), args = [bkA b, padS ps, intsS picks, .int .i8 most] ∧ b.Ok ∧ (∀ p ∈ ps, p.In) ∧ ps.length ≤ 1999900 ∧ (-128 ≤ most ∧ most ≤ 127) ∧ K (.bool true) []
theorem drain_none {s : Sta} (h : s.sags = []) (picks : List Int) (answers : List Bool) (most : Int) : drainM s picks answers most = (s, []) := by
  unfold drainM
  cases most.toNat with
  | zero => rfl
  | succ f => rw [drainGo, if_pos (by rw [h]; rfl)]
def RDN : Contract
  | 14 => awake21C
  | 15 => nil2C someC
  | 18 => boundC
  | 16 => nil2C runDC
  | 21 => allDC
  | 20 => same17C
  | _ => fun _ _ _ => False
theorem RDN_ok : CallOk Tryz.prog tab RDN := by
  intro f args bs K h
  unfold RDN at h
  split at h
  · exact ⟨_, h, awake21_ok⟩
  · exact ⟨_, h, some_ok.nil2⟩
  · exact ⟨_, h, bound_ok⟩
  · exact ⟨_, h, runD_ok.nil2⟩
  · exact ⟨_, h, allD_ok⟩
  · exact ⟨_, h, same17_ok⟩
  · exact h.elim
def RDN_E (pl : Nat → Plan) : En := ⟨tab, RDN, fun _ => none, 0, pl⟩
theorem RDN_J (pl : Nat → Plan) : JOk Tryz.prog (RDN_E pl).T (RDN_E pl).J := fun _ _ h => by cases h
set_option maxRecDepth 200000 in
set_option maxHeartbeats 12800000 in
theorem dnone_ok : FnOk Tryz.prog tab 7 dnoneC := by
  refine fn_ok (E := RDN_E pl7) tab_is RDN_ok (RDN_J _) Tryz.func7 rfl rfl (by kernel_rfl) ?_
  rintro args bs K ⟨rfl, b, ps, picks, most, rfl, hb, hps, hpl, hmo, hK⟩
  refine ⟨rfl, ?_⟩
  refine ⟨rfl, rfl, ?_⟩
  refine ⟨fun h => Bool.noConfusion (show false = true from h), fun _ => ?_⟩
  refine ⟨[bkA b, padS ps, actsS []], ⟨.inl (.inl rfl), .inl (.inl rfl), .inl (.inr ⟨_, _, rfl, rfl⟩), trivial⟩, rfl, b, ps, [], rfl, hb, hps, hpl, (fun _ h => by cases h), by decide, ?_⟩
  have hG := (some_GB (l := []) hb hps hpl (fun _ h => by cases h)).1
  have h0 : (someM b ps []).sags = [] := rfl
  generalize someM b ps [] = s at hG h0 ⊢
  have hb0 : boundM s = 0 := by unfold boundM; rw [h0]; rfl
  have hb6 : boundM s ≤ 100000 := by omega
  have hm6 : IntKind.i64.wrap most ≤ 100000 := by rw [wrap_of (by omega) (by omega)]; omega
  refine ⟨[staA s, intsS picks, ansS [], .int .i64 (IntKind.i64.wrap most)], ⟨.inl (.inl rfl), .inl (.inl rfl), .inl (.inr ⟨_, _, rfl, rfl⟩), .inl (.inl rfl), trivial⟩, rfl, s, picks, [], IntKind.i64.wrap most, rfl, hG.e, hm6, ?_⟩
  rw [drain_none h0]
  refine ⟨fun _ => ?_, fun h => Bool.noConfusion (show true = false from h)⟩
  refine ⟨rfl, s, rfl, hG, ?_⟩
  rw [hb0]
  refine ⟨fun _ => ?_, fun h => Bool.noConfusion (show true = false from h)⟩
  refine ⟨rfl, s, rfl, hG.e, ?_⟩
  refine ⟨fun _ => ?_, fun h => Bool.noConfusion (show true = false from h)⟩
  refine ⟨rfl, s, rfl, hG, ?_⟩
  rw [drain_none h0]
  refine ⟨rfl, s, rfl, hG.e, ?_⟩
  exact hK
end Go.Proofs.YtjffmldlkofpaaaGreatDoor.A
