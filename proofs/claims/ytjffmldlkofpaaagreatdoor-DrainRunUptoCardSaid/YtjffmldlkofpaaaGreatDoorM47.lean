/- hawalalaw21: DrainRun. -/
import Derived.Test.YtjffmldlkofpaaaGreatDoorM44
namespace Go.Proofs.YtjffmldlkofpaaaGreatDoor.A
open Go Q
theorem tmod_two {x L : Int} (hL : 0 < L) (hL2 : L ≤ 1000) : (IntKind.i64.wrap (x.tmod L + L)).tmod L = if x.tmod L < 0 then x.tmod L + L else x.tmod L := by
  have h1 := Int.tmod_lt_of_pos x hL
  have h2 : -L < x.tmod L := by
    rcases Int.le_total 0 x with hx | hx
    · have := Int.tmod_nonneg L hx; omega
    · have e : x = -(-x) := by omega
      rw [e, Int.neg_tmod]
      have := Int.tmod_lt_of_pos (-x) hL
      omega
  generalize x.tmod L = r at h1 h2
  rw [wrap_of (by omega) (by omega), Int.tmod_eq_emod_of_nonneg (by omega)]
  split
  · exact Int.emod_eq_of_lt (by omega) (by omega)
  · rw [Int.add_emod_right, Int.emod_eq_of_lt (by omega) h1]
theorem evt_ne (x : Evt) : (!((x.what == x.what) && ((x.req.key == x.req.key) && ((x.req.op == x.req.op) && ((x.req.a == x.req.a) && ((x.req.b == x.req.b) && ((x.req.amt == x.req.amt) && ((x.req.legs == x.req.legs) && ((x.req.til == x.req.til) && ((x.key == x.key) && ((x.ok == x.ok) && true))))))))))) = false := by simp
def drunC (args : List AV) (bs : List Box) (K : AV → List Box → Prop) : Prop := bs = [] ∧ ∃ (b : Book) (l : List Act) (picks : List Int) (answers : List Bool) (most : Int), args = [bkA b, actsS l, intsS picks, ansS answers, .int .i8 most] ∧ b.Ok ∧ (∀ a ∈ l, a.In) ∧ l.length ≤ 1999900 ∧ (-128 ≤ most ∧ most ≤ 127) ∧ K (.bool true) []
def RDU : Contract
  | 14 => awake21C
  | 15 => nil2C someC
  | 18 => boundC
  | 16 => runDC
  | 17 => mostC
  | 19 => engC
  | 20 => same17C
  | _ => fun _ _ _ => False
theorem RDU_ok : CallOk Tryz.prog tab RDU := by
  intro f args bs K h
  unfold RDU at h
  split at h
  · exact ⟨_, h, awake21_ok⟩
  · exact ⟨_, h, some_ok.nil2⟩
  · exact ⟨_, h, bound_ok⟩
  · exact ⟨_, h, runD_ok⟩
  · exact ⟨_, h, most_ok⟩
  · exact ⟨_, h, eng_ok⟩
  · exact ⟨_, h, same17_ok⟩
  · exact h.elim
def RDU_E (pl : Nat → Plan) : En := ⟨tab, RDU, fun _ => none, 0, pl⟩
theorem RDU_J (pl : Nat → Plan) : JOk Tryz.prog (RDU_E pl).T (RDU_E pl).J := fun _ _ h => by cases h
set_option maxRecDepth 200000 in
set_option maxHeartbeats 25600000 in
theorem drun_ok : FnOk Tryz.prog tab 3 drunC := by
  refine fn_ok (E := RDU_E pl3) tab_is RDU_ok (RDU_J _) Tryz.func3 rfl rfl (by kernel_rfl) ?_
  rintro args bs K ⟨rfl, b, l, picks, answers, most, rfl, hb, hl, hll, hmo, hK⟩
  refine ⟨rfl, ?_⟩
  refine ⟨rfl, rfl, ?_⟩
  refine ⟨fun h => Bool.noConfusion (show false = true from h), fun _ => ?_⟩
  refine ⟨[bkA b, padS [], actsS l], ⟨.inl (.inl rfl), .inl (.inr ⟨_, _, rfl, rfl⟩), .inl (.inl rfl), trivial⟩, rfl, b, [], l, rfl, hb, (fun _ h => by cases h), by decide, hl, hll, ?_⟩
  have hG := (some_GB (ps := []) hb (fun _ h => by cases h) (Nat.zero_le _) hl).1
  generalize someM b [] l = s0 at hG ⊢
  have hls := hG.e.z.ls
  obtain ⟨m, hm⟩ : ∃ m : Int, IntKind.i64.wrap most = m := ⟨_, rfl⟩
  have hm6 : m ≤ 100000 := by rw [← hm, wrap_of (by omega) (by omega)]; omega
  refine ⟨rfl, s0, picks, answers, m, (by rw [← hm]; rfl), hG.e, hm6, ?_⟩
  have hD : drainM s0 picks answers m = drainGo picks answers (m.toNat - 0) 0 s0 := rfl
  generalize drainM s0 picks answers m = D at hD ⊢
  obtain ⟨T, es⟩ := D
  dsimp only
  refine ⟨fun mm st => ∃ (i : Nat), (i ≤ s0.sags.length) ∧ s0.sags.length - i = mm ∧ st.t 35 = sagsA s0.sags ∧ st.t 36 = .int .i64 ((s0.sags.map sagA).length : Nat) ∧ st.t 37 = .int .i64 i ∧ st.t 14 = .int .i64 (sumI ((s0.sags.take i).map mostM)) ∧ st.t 11 = .ptr 11 0 ∧ st.t 12 = .ptr 12 0 ∧ st.t 13 = evsS es ∧ st.t 2 = intsS picks ∧ st.t 3 = ansS answers ∧ st.t 4 = .int .i8 most ∧ st.h 11 = staB s0 ∧ st.h 12 = staB T,
    ⟨_, 0, Nat.zero_le _, rfl, rfl, rfl, rfl, rfl, rfl, rfl, rfl, rfl, rfl, rfl, rfl, rfl⟩, ?_⟩
  rintro _ ⟨t1, h1⟩ ⟨i, hi, rfl, e35, e36, e37, e14, e11, e12, e13, e2, e3, e4, b11, b12⟩
  have e35 : t1 35 = sagsA s0.sags := e35
  have e36 : t1 36 = .int .i64 ((s0.sags.map sagA).length : Nat) := e36
  have e37 : t1 37 = .int .i64 i := e37
  have e14 : t1 14 = .int .i64 (sumI ((s0.sags.take i).map mostM)) := e14
  have e11 : t1 11 = .ptr 11 0 := e11
  have e12 : t1 12 = .ptr 12 0 := e12
  have e13 : t1 13 = evsS es := e13
  have e2 : t1 2 = intsS picks := e2
  have e3 : t1 3 = ansS answers := e3
  have e4 : t1 4 = .int .i8 most := e4
  have b11 : h1 11 = staB s0 := b11
  have b12 : h1 12 = staB T := b12
  rw [← updL_has t1 [(35, sagsA s0.sags), (36, .int .i64 ((s0.sags.map sagA).length : Nat)), (37, .int .i64 i), (14, .int .i64 (sumI ((s0.sags.take i).map mostM))), (11, .ptr 11 0), (12, .ptr 12 0), (13, evsS es), (2, intsS picks), (3, ansS answers), (4, .int .i8 most)] ⟨e35, e36, e37, e14, e11, e12, e13, e2, e3, e4, trivial⟩, ← updL_has h1 [(11, staB s0), (12, staB T)] ⟨b11, b12, trivial⟩]
  constructor
  · intro hb
    have hi' : i < s0.sags.length := by
      have : (i : Int) < ((s0.sags.map sagA).length : Nat) := by simpa using hb
      simp at this; omega
    have w : IntKind.i64.wrap ((i : Int) + 1) = ((i + 1 : Nat) : Int) := by rw [wrap_of] <;> omega
    have hlt : s0.sags.length - (i + 1) < s0.sags.length - i := by omega
    obtain ⟨g, hx⟩ : ∃ x, s0.sags[i]? = some x := ⟨_, List.getElem?_eq_getElem hi'⟩
    skip
    have hdr := drop_at hx
    have hR := hG.sr g (List.mem_of_getElem? hx)
    have hmo := hR.most
    have hsm := sumI_le mostM (n := 18) (l := s0.sags.take i) (fun x hx => by have := (hG.sr x (List.mem_of_mem_take hx)).most; omega)
    have hlt2 : (s0.sags.take i).length ≤ 16 := by rw [List.length_take]; omega
    have wv : IntKind.i64.wrap (sumI ((s0.sags.take i).map mostM) + mostM g) = sumI ((s0.sags.take (i + 1)).map mostM) := by
      rw [List.take_add_one, hx, List.map_append, sumI_append, wrap_of (by omega) (by omega)]
      simp [sumI]
    refine ⟨_, Int.natCast_nonneg i, map_of hx, ?_⟩
    refine ⟨rfl, g, rfl, hR.toSagI, ?_⟩
    exact ⟨_, hlt, i + 1, hi', rfl, rfl, rfl, congrArg (AV.int .i64) w, congrArg (AV.int .i64) wv, rfl, rfl, rfl, rfl, rfl, rfl, rfl, rfl⟩
  · intro hb
    have hi' : i = s0.sags.length := by
      have : ¬ (i : Int) < ((s0.sags.map sagA).length : Nat) := by simpa using hb
      simp at this; omega
    subst hi'
    rw [List.take_length]
    refine ⟨rfl, s0, rfl, hG, ?_⟩
    have hbe : (boundM s0 != sumI (s0.sags.map mostM)) = false := by unfold boundM; simp
    refine ⟨fun h => absurd (hbe.symm.trans h) (by decide), fun _ => ?_⟩
    refine ⟨fun mm st => ∃ (n : Nat) (s : Sta), (EngS s ∧ (T, es) = ((drainGo picks answers (m.toNat - n) n s).1, es.take n ++ (drainGo picks answers (m.toNat - n) n s).2) ∧ n ≤ m.toNat ∧ n ≤ es.length) ∧ m.toNat - n = mm ∧ st.t 17 = .int .i64 n ∧ st.t 4 = .int .i8 most ∧ st.t 2 = intsS picks ∧ st.t 3 = ansS answers ∧ st.t 11 = .ptr 11 0 ∧ st.t 12 = .ptr 12 0 ∧ st.t 13 = evsS es ∧ st.h 11 = staB s ∧ st.h 12 = staB T,
      ⟨_, 0, s0, ⟨hG.e, hD, Nat.zero_le _, Nat.zero_le _⟩, rfl, rfl, rfl, rfl, rfl, rfl, rfl, rfl, rfl, rfl⟩, ?_⟩
    rintro _ ⟨t2, h2⟩ ⟨n, s, ⟨hS, hT, hnm, hne0⟩, rfl, e17, e4, e2, e3, e11, e12, e13, b11, b12⟩
    have e17 : t2 17 = .int .i64 n := e17
    have e4 : t2 4 = .int .i8 most := e4
    have e2 : t2 2 = intsS picks := e2
    have e3 : t2 3 = ansS answers := e3
    have e11 : t2 11 = .ptr 11 0 := e11
    have e12 : t2 12 = .ptr 12 0 := e12
    have e13 : t2 13 = evsS es := e13
    have b11 : h2 11 = staB s := b11
    have b12 : h2 12 = staB T := b12
    rw [← updL_has t2 [(17, .int .i64 n), (4, .int .i8 most), (2, intsS picks), (3, ansS answers), (11, .ptr 11 0), (12, .ptr 12 0), (13, evsS es)] ⟨e17, e4, e2, e3, e11, e12, e13, trivial⟩, ← updL_has h2 [(11, staB s), (12, staB T)] ⟨b11, b12, trivial⟩]
    refine ⟨fun hn => ?_, fun hn => ?_⟩
    · have hn : (n : Int) < m := by have := decT hn; rw [hm] at this; exact this
      have hlt : m.toNat - (n + 1) < m.toNat - n := by omega
      have wn : IntKind.i64.wrap ((n : Int) + 1) = ((n + 1 : Nat) : Int) := wrap_of (by omega) (by omega)
      refine ⟨fun hl => ?_, fun hl => ?_⟩
      · have hl : 0 < s.sags.length := by have := decT hl; rw [List.length_map] at this; omega
        have h0 : ¬ s.sags.length = 0 := by omega
        have hs16 := hS.z.ls
        obtain ⟨k, g, hk, hg, -, -⟩ := evD_sag hl picks answers n
        have hgp : s.sags[(pickD s picks n).toNat]? = some g := by rw [← hk, show ((k : Nat) : Int).toNat = k by omega]; exact hg
        obtain ⟨p0, p1⟩ := pickD_in hl picks n
        have hsn : (((s.sags.map sagA).length : Nat) : Int) ≠ 0 := by rw [List.length_map]; omega
        have hT1 : (T, es) = ((drainGo picks answers (m.toNat - (n + 1)) (n + 1) (engM s (evD s picks answers n)).1).1, es.take n ++ evD s picks answers n :: (drainGo picks answers (m.toNat - (n + 1)) (n + 1) (engM s (evD s picks answers n)).1).2) := by
          rw [show m.toNat - n = (m.toNat - (n + 1)) + 1 by omega, drainGo, if_neg h0] at hT
          exact hT
        have hes : es = es.take n ++ evD s picks answers n :: (drainGo picks answers (m.toNat - (n + 1)) (n + 1) (engM s (evD s picks answers n)).1).2 := congrArg Prod.snd hT1
        have hnl : n < es.length := by
          rw [hes, List.length_append, List.length_take, List.length_cons]
          rcases Nat.le_total n es.length with h | h
          · rw [Nat.min_eq_left h]; omega
          · exfalso
            have := congrArg List.length hes
            rw [List.length_append, List.length_take, List.length_cons, Nat.min_eq_right h] at this
            omega
        have hat : es[n]? = some (evD s picks answers n) := by
          have e : es[n]? = (es.take n ++ evD s picks answers n :: (drainGo picks answers (m.toNat - (n + 1)) (n + 1) (engM s (evD s picks answers n)).1).2)[n]? := congrArg (fun l => l[n]?) hes
          rw [List.getElem?_append_right (by rw [List.length_take]; omega), List.length_take, Nat.min_eq_left (by omega), Nat.sub_self] at e
          rw [e]; rfl
        have hT2 : (T, es) = ((drainGo picks answers (m.toNat - (n + 1)) (n + 1) (engM s (evD s picks answers n)).1).1, es.take (n + 1) ++ (drainGo picks answers (m.toNat - (n + 1)) (n + 1) (engM s (evD s picks answers n)).1).2) := by
          rw [List.take_add_one, hat, List.append_assoc]
          exact hT1
        have hge : decide ((n : Int) ≥ ((es.map evtA).length : Nat)) = false := by rw [List.length_map]; exact decide_eq_false (by omega)
        refine ⟨fun hp => ?_, fun hp => ?_⟩
        · have hp : 0 < picks.length := by have := decT hp; rw [List.length_map] at this; omega
          have hml := Nat.mod_lt n hp
          have hpx := List.getElem?_eq_getElem hml
          generalize picks[n % picks.length]'hml = x at hpx
          have hpk := pick_some (s := s) hpx
          have hx1 : (picks.map (AV.int .i64))[(((n : Nat) : Int).tmod (((picks.map (AV.int .i64)).length : Nat) : Int)).toNat]? = some (.int .i64 x) := by
            rw [List.length_map, show (((n : Nat) : Int).tmod ((picks.length : Nat) : Int)).toNat = n % picks.length from rfl, List.getElem?_map, hpx]; rfl
          have hx0 : (0 : Int) ≤ ((n : Nat) : Int).tmod (((picks.map (AV.int .i64)).length : Nat) : Int) := Int.tmod_nonneg _ (Int.natCast_nonneg n)
          have hxn : (((picks.map (AV.int .i64)).length : Nat) : Int) ≠ 0 := by rw [List.length_map]; omega
          have hKE : (IntKind.i64.wrap (x.tmod (((s.sags.map sagA).length : Nat) : Int) + (((s.sags.map sagA).length : Nat) : Int))).tmod (((s.sags.map sagA).length : Nat) : Int) = pickD s picks n := by
            rw [tmod_two (by rw [List.length_map]; omega) (by rw [List.length_map]; omega), hpk, List.length_map]
          have hA9 : 0 ≤ (IntKind.i64.wrap (x.tmod (((s.sags.map sagA).length : Nat) : Int) + (((s.sags.map sagA).length : Nat) : Int))).tmod (((s.sags.map sagA).length : Nat) : Int) := by rw [hKE]; exact p0
          have hB9 : (s.sags.map sagA)[((IntKind.i64.wrap (x.tmod (((s.sags.map sagA).length : Nat) : Int) + (((s.sags.map sagA).length : Nat) : Int))).tmod (((s.sags.map sagA).length : Nat) : Int)).toNat]? = some (sagA g) := by rw [hKE]; exact map_of hgp
          refine ⟨hxn, ?_⟩
          refine ⟨_, hx0, hx1, ?_⟩
          refine ⟨hsn, ?_⟩
          refine ⟨hsn, ?_⟩
          refine ⟨_, hA9, hB9, ?_⟩
          refine ⟨fun ha => ?_, fun ha => ?_⟩
          · have ha : answers = [] := by have := beqT ha; rw [List.length_map] at this; exact List.length_eq_zero_iff.1 (by omega)
            have hok : ansD answers n = true := by rw [ha]; rfl
            have hev : evD s picks answers n = ⟨1, ⟨0, 0, 0, 0, 0, 0, 0⟩, g.req.key, true⟩ := by
              unfold evD
              rw [hgp]
              simp only [hok]
            have hat2 : (es.map evtA)[((n : Nat) : Int).toNat]? = some (evtA ⟨1, ⟨0, 0, 0, 0, 0, 0, 0⟩, g.req.key, true⟩) := by
              rw [show ((n : Nat) : Int).toNat = n by omega, List.getElem?_map, hat, hev]; rfl
            have hne := evt_ne ⟨1, ⟨0, 0, 0, 0, 0, 0, 0⟩, g.req.key, true⟩
            have hS2 := hS.eng (evD s picks answers n)
            refine ⟨fun h => absurd (hge.symm.trans h) (by decide), fun _ => ?_⟩
            refine ⟨_, Int.natCast_nonneg n, hat2, ?_⟩
            refine ⟨fun h => absurd (hne.symm.trans h) (by decide), fun _ => ?_⟩
            refine ⟨rfl, s, evD s picks answers n, (by rw [hev]; rfl), hS.z, fun _ => hS.tell, ?_⟩
            generalize engM s (evD s picks answers n) = y at hT2 hS2 ⊢
            obtain ⟨y, o⟩ := y
            dsimp only at hT2 hS2
            exact ⟨_, hlt, n + 1, y, ⟨hS2, hT2, by omega, hnl⟩, rfl, congrArg (AV.int .i64) wn, rfl, rfl, rfl, rfl, rfl, rfl, rfl, rfl⟩
          · have ha : 0 < answers.length := by have := beqF ha; rw [List.length_map] at this; omega
            have hml := Nat.mod_lt n ha
            have hbx := List.getElem?_eq_getElem hml
            generalize answers[n % answers.length]'hml = bo at hbx
            have hok : ansD answers n = bo := by unfold ansD; rw [hbx]
            have hb1 : (answers.map AV.bool)[(((n : Nat) : Int).tmod (((answers.map AV.bool).length : Nat) : Int)).toNat]? = some (.bool bo) := by
              rw [List.length_map, show (((n : Nat) : Int).tmod ((answers.length : Nat) : Int)).toNat = n % answers.length from rfl, List.getElem?_map, hbx]; rfl
            have hb0 : (0 : Int) ≤ ((n : Nat) : Int).tmod (((answers.map AV.bool).length : Nat) : Int) := Int.tmod_nonneg _ (Int.natCast_nonneg n)
            have hbn : (((answers.map AV.bool).length : Nat) : Int) ≠ 0 := by rw [List.length_map]; omega
            refine ⟨hbn, ?_⟩
            refine ⟨_, hb0, hb1, ?_⟩
            have hev : evD s picks answers n = ⟨1, ⟨0, 0, 0, 0, 0, 0, 0⟩, g.req.key, bo⟩ := by
              unfold evD
              rw [hgp]
              simp only [hok]
            have hat2 : (es.map evtA)[((n : Nat) : Int).toNat]? = some (evtA ⟨1, ⟨0, 0, 0, 0, 0, 0, 0⟩, g.req.key, bo⟩) := by
              rw [show ((n : Nat) : Int).toNat = n by omega, List.getElem?_map, hat, hev]; rfl
            have hne := evt_ne ⟨1, ⟨0, 0, 0, 0, 0, 0, 0⟩, g.req.key, bo⟩
            have hS2 := hS.eng (evD s picks answers n)
            refine ⟨fun h => absurd (hge.symm.trans h) (by decide), fun _ => ?_⟩
            refine ⟨_, Int.natCast_nonneg n, hat2, ?_⟩
            refine ⟨fun h => absurd (hne.symm.trans h) (by decide), fun _ => ?_⟩
            refine ⟨rfl, s, evD s picks answers n, (by rw [hev]; rfl), hS.z, fun _ => hS.tell, ?_⟩
            generalize engM s (evD s picks answers n) = y at hT2 hS2 ⊢
            obtain ⟨y, o⟩ := y
            dsimp only at hT2 hS2
            exact ⟨_, hlt, n + 1, y, ⟨hS2, hT2, by omega, hnl⟩, rfl, congrArg (AV.int .i64) wn, rfl, rfl, rfl, rfl, rfl, rfl, rfl, rfl⟩
        · have hp : picks = [] := by have := decF hp; rw [List.length_map] at this; exact List.length_eq_zero_iff.1 (by omega)
          have hpk : pickD s picks n = 0 := by rw [hp]; rfl
          have hA9 : (0 : Int) ≤ 0 := Int.le_refl 0
          have hB9 : (s.sags.map sagA)[(0 : Int).toNat]? = some (sagA g) := by rw [hpk] at hgp; exact map_of hgp
          refine ⟨_, hA9, hB9, ?_⟩
          refine ⟨fun ha => ?_, fun ha => ?_⟩
          · have ha : answers = [] := by have := beqT ha; rw [List.length_map] at this; exact List.length_eq_zero_iff.1 (by omega)
            have hok : ansD answers n = true := by rw [ha]; rfl
            have hev : evD s picks answers n = ⟨1, ⟨0, 0, 0, 0, 0, 0, 0⟩, g.req.key, true⟩ := by
              unfold evD
              rw [hgp]
              simp only [hok]
            have hat2 : (es.map evtA)[((n : Nat) : Int).toNat]? = some (evtA ⟨1, ⟨0, 0, 0, 0, 0, 0, 0⟩, g.req.key, true⟩) := by
              rw [show ((n : Nat) : Int).toNat = n by omega, List.getElem?_map, hat, hev]; rfl
            have hne := evt_ne ⟨1, ⟨0, 0, 0, 0, 0, 0, 0⟩, g.req.key, true⟩
            have hS2 := hS.eng (evD s picks answers n)
            refine ⟨fun h => absurd (hge.symm.trans h) (by decide), fun _ => ?_⟩
            refine ⟨_, Int.natCast_nonneg n, hat2, ?_⟩
            refine ⟨fun h => absurd (hne.symm.trans h) (by decide), fun _ => ?_⟩
            refine ⟨rfl, s, evD s picks answers n, (by rw [hev]; rfl), hS.z, fun _ => hS.tell, ?_⟩
            generalize engM s (evD s picks answers n) = y at hT2 hS2 ⊢
            obtain ⟨y, o⟩ := y
            dsimp only at hT2 hS2
            exact ⟨_, hlt, n + 1, y, ⟨hS2, hT2, by omega, hnl⟩, rfl, congrArg (AV.int .i64) wn, rfl, rfl, rfl, rfl, rfl, rfl, rfl, rfl⟩
          · have ha : 0 < answers.length := by have := beqF ha; rw [List.length_map] at this; omega
            have hml := Nat.mod_lt n ha
            have hbx := List.getElem?_eq_getElem hml
            generalize answers[n % answers.length]'hml = bo at hbx
            have hok : ansD answers n = bo := by unfold ansD; rw [hbx]
            have hb1 : (answers.map AV.bool)[(((n : Nat) : Int).tmod (((answers.map AV.bool).length : Nat) : Int)).toNat]? = some (.bool bo) := by
              rw [List.length_map, show (((n : Nat) : Int).tmod ((answers.length : Nat) : Int)).toNat = n % answers.length from rfl, List.getElem?_map, hbx]; rfl
            have hb0 : (0 : Int) ≤ ((n : Nat) : Int).tmod (((answers.map AV.bool).length : Nat) : Int) := Int.tmod_nonneg _ (Int.natCast_nonneg n)
            have hbn : (((answers.map AV.bool).length : Nat) : Int) ≠ 0 := by rw [List.length_map]; omega
            refine ⟨hbn, ?_⟩
            refine ⟨_, hb0, hb1, ?_⟩
            have hev : evD s picks answers n = ⟨1, ⟨0, 0, 0, 0, 0, 0, 0⟩, g.req.key, bo⟩ := by
              unfold evD
              rw [hgp]
              simp only [hok]
            have hat2 : (es.map evtA)[((n : Nat) : Int).toNat]? = some (evtA ⟨1, ⟨0, 0, 0, 0, 0, 0, 0⟩, g.req.key, bo⟩) := by
              rw [show ((n : Nat) : Int).toNat = n by omega, List.getElem?_map, hat, hev]; rfl
            have hne := evt_ne ⟨1, ⟨0, 0, 0, 0, 0, 0, 0⟩, g.req.key, bo⟩
            have hS2 := hS.eng (evD s picks answers n)
            refine ⟨fun h => absurd (hge.symm.trans h) (by decide), fun _ => ?_⟩
            refine ⟨_, Int.natCast_nonneg n, hat2, ?_⟩
            refine ⟨fun h => absurd (hne.symm.trans h) (by decide), fun _ => ?_⟩
            refine ⟨rfl, s, evD s picks answers n, (by rw [hev]; rfl), hS.z, fun _ => hS.tell, ?_⟩
            generalize engM s (evD s picks answers n) = y at hT2 hS2 ⊢
            obtain ⟨y, o⟩ := y
            dsimp only at hT2 hS2
            exact ⟨_, hlt, n + 1, y, ⟨hS2, hT2, by omega, hnl⟩, rfl, congrArg (AV.int .i64) wn, rfl, rfl, rfl, rfl, rfl, rfl, rfl, rfl⟩
      · have hl : s.sags.length = 0 := by have := decF hl; rw [List.length_map] at this; omega
        have hd : drainGo picks answers (m.toNat - n) n s = (s, []) := by
          cases m.toNat - n with
          | zero => rfl
          | succ f => rw [drainGo, if_pos hl]
        have hT : (T, es) = (s, es.take n) := by rw [hT, hd, List.append_nil]
        have hTs : T = s := congrArg Prod.fst hT
        have hes : es = es.take n := congrArg Prod.snd hT
        have hle : es.length ≤ n := by rw [hes, List.length_take]; omega
        have hnl : (((n : Nat) : Int) == ((es.map evtA).length : Nat)) = true := by
          rw [List.length_map]
          exact decide_eq_true (by omega)
        subst hTs
        refine ⟨fun _ => ?_, fun h => absurd (hnl.symm.trans h) (by decide)⟩
        exact ⟨rfl, T, rfl, hS, hK⟩
    · have hn : ¬ (n : Int) < m := by have := decF hn; rw [hm] at this; exact this
      refine ⟨fun h => Bool.noConfusion (show false = true from h), fun _ => ?_⟩
      have hd : drainGo picks answers (m.toNat - n) n s = (s, []) := by
        rw [show m.toNat - n = 0 by omega]; rfl
      have hT : (T, es) = (s, es.take n) := by rw [hT, hd, List.append_nil]
      have hTs : T = s := congrArg Prod.fst hT
      have hes : es = es.take n := congrArg Prod.snd hT
      have hle : es.length ≤ n := by rw [hes, List.length_take]; omega
      have hnl : (((n : Nat) : Int) == ((es.map evtA).length : Nat)) = true := by
        rw [List.length_map]
        exact decide_eq_true (by omega)
      subst hTs
      refine ⟨fun _ => ?_, fun h => absurd (hnl.symm.trans h) (by decide)⟩
      exact ⟨rfl, T, rfl, hS, hK⟩
end Go.Proofs.YtjffmldlkofpaaaGreatDoor.A
