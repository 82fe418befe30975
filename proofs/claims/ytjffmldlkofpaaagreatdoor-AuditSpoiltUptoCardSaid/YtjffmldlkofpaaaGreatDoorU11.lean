/- hawalalaw20: check, walked. -/
import Derived.Test.YtjffmldlkofpaaaGreatDoorU10
namespace Go.Proofs.YtjffmldlkofpaaaGreatDoor.A
open Go Q
def JC : FuncId → Option StSpec
  | 62 => some jCl
  | 63 => some jFind
  | _ => none
theorem JC_ok : JOk Tryz.prog tab JC := by
  intro f j h
  unfold JC at h
  split at h
  · cases h; exact client_ok
  · cases h; exact cfind_ok
  · cases h
theorem heldR_okL : FnOk Tryz.prog tab 31 heldC := heldR_ok.mono (by
  rintro args bs K ⟨rfl, s, rfl, hS, hK⟩
  exact ⟨rfl, s, rfl, hS, (held_eq s).symm ▸ hK⟩)
def RK : Contract
  | 55 => sumsC
  | 56 => rightLC
  | 64 => rightPC
  | 65 => rightSC
  | 31 => heldC
  | _ => fun _ _ _ => False
theorem RK_ok : CallOk Tryz.prog tab RK := by
  intro f args bs K h
  unfold RK at h
  split at h
  · exact ⟨_, h, sums_ok⟩
  · exact ⟨_, h, rightL_ok⟩
  · exact ⟨_, h, rightP_ok⟩
  · exact ⟨_, h, rightS_ok⟩
  · exact ⟨_, h, heldR_okL⟩
  · exact h.elim
def RK_E (pl : Nat → Plan) : En := ⟨tab, RK, fun _ => none, 0, pl⟩
theorem RK_J (pl : Nat → Plan) : JOk Tryz.prog (RK_E pl).T (RK_E pl).J := fun _ _ h => by cases h
def RK_H (pl : Nat → Plan) : En := ⟨tab, RK, JC, 0, pl⟩
def refC0 (args : List AV) (bs : List Box) (K : AV → List Box → Prop) : Prop := bs = [] ∧ ∃ (s : Sta), args = [staA s] ∧ Small s ∧ K (fltB 196000 (faults s)) []
def refC (args : List AV) (bs : List Box) (K : AV → List Box → Prop) : Prop := bs = [] ∧ ∃ (s : Sta), args = [staA s] ∧ Small s ∧ K (.sl .fz 86 (iA (faults s))) []
theorem clo_of {o : Option Box} {x : Box} (h : o = some x) (hx : x.mapA (AV.tr kil) = x) : ClO o := fun y hy => by
  rw [h] at hy
  cases hy
  exact hx
theorem two {A B : Prop} (h : A → B) (a : A) : B := h a
theorem mem_next {l : List Int} {j : Nat} {x y : Int} (h : l[j]? = some x) : decide (y ∈ l.take (j + 1)) = (decide (y ∈ l.take j) || decide (x = y)) := by
  rw [List.take_add_one, h]
  by_cases h1 : y ∈ l.take j
  · simp [h1]
  · by_cases h2 : x = y
    · subst h2; simp
    · have h3 : ¬ y = x := fun e => h2 e.symm
      simp [h1, h2, h3]
theorem take_next {l m : List Int} {i : Nat} {a b : Int} (h : l[i]? = some a) (h2 : m[i]? = some b) : decide (l.take (i + 1) = m.take (i + 1)) = (decide (l.take i = m.take i) && decide (a = b)) := by
  rw [List.take_add_one, List.take_add_one, h, h2, Bool.eq_iff_iff]
  have h3 := (List.getElem?_eq_some_iff.1 h).1
  have h4 := (List.getElem?_eq_some_iff.1 h2).1
  have h5 : (l.take i).length = (m.take i).length := by simp; omega
  constructor
  · intro e
    have e := of_decide_eq_true e
    obtain ⟨e1, e2⟩ := List.append_inj e h5
    simpa using ⟨e1, by simpa using e2⟩
  · intro e
    have e : l.take i = m.take i ∧ a = b := by simpa using e
    rw [e.1, e.2]; simp
theorem gk_at {s : Sta} {i : Nat} {g : Sag} (h : s.sags[i]? = some g) : (gkeys s)[i]? = some g.req.key := by unfold gkeys; rw [List.getElem?_map, h]; rfl
set_option maxRecDepth 200000 in
set_option maxHeartbeats 12800000 in
theorem refck_ok0 : FnOk Tryz.prog tab 33 refC0 := by
  refine fn_ok (E := RK_H pl33) tab_is RK_ok JC_ok Tryz.func33 rfl rfl (by kernel_rfl) ?_
  rintro args bs K ⟨rfl, s, rfl, hS, hK⟩
  refine ⟨rfl, ?_⟩
  obtain ⟨hSa, hSp, hSg, hSk, hSb⟩ := id hS
  have hst : ∀ k, trL [(1, !zeroT (sumsL s.accs)), (2, !rightL s.accs)] k = w1 s (([] : List Pay).all (payOk s.accs.length)) k := by
    intro k
    unfold trL w1 w0
    simp only [getL]
    by_cases h1 : k = 1
    · simp [h1]
    · by_cases h2 : k = 2 <;> simp [h1, h2]
  have hst2 : ∀ k, trL [(2, !rightL s.accs), (1, !zeroT (sumsL s.accs))] k = w1 s (([] : List Pay).all (payOk s.accs.length)) k := by
    intro k
    unfold trL w1 w0
    simp only [getL]
    by_cases h1 : k = 1
    · simp [h1]
    · by_cases h2 : k = 2 <;> simp [h1, h2]
  repeat' first
    | (refine ⟨rfl, s.accs, rfl, (by omega), ?_⟩)
    | (refine ⟨rfl, s.accs, rfl, ?_⟩)
    | (refine ⟨I1 s, ⟨_, 0, [(1, !zeroT (sumsL s.accs)), (2, !rightL s.accs)], ⟨Nat.zero_le _, hst⟩, rfl, rfl, rfl, rfl, rfl, rfl, rfl, rfl, rfl, rfl⟩, ?round⟩)
    | (refine ⟨I1 s, ⟨_, 0, [(2, !rightL s.accs), (1, !zeroT (sumsL s.accs))], ⟨Nat.zero_le _, hst2⟩, rfl, rfl, rfl, rfl, rfl, rfl, rfl, rfl, rfl, rfl⟩, ?round⟩)
    | (refine ⟨[(.int .i64 1, .bool (!zeroT (sumsL s.accs)))], rfl, ?_⟩)
    | (refine ⟨[(.int .i64 2, .bool (!rightL s.accs))], rfl, ?_⟩)
    | (refine ⟨[(.int .i64 2, .bool (!rightL s.accs)), (.int .i64 1, .bool (!zeroT (sumsL s.accs)))], rfl, ?_⟩)
    | (refine ⟨[(.int .i64 1, .bool (!zeroT (sumsL s.accs))), (.int .i64 2, .bool (!rightL s.accs))], rfl, ?_⟩)
    | (refine And.intro ?_ ?_)
    | fail
  case round =>
    have hK0 := hK
    rintro _ ⟨t1, h1⟩ ⟨i, l, ⟨hi, hW⟩, rfl, e1, e3, e4, e5, e36, e37, e38, b1, b24⟩
    have e1 : t1 1 = .ptr 1 0 := e1
    have e3 : t1 3 = .fn (.func 62) [] [.ptr 1 0] := e3
    have e4 : t1 4 = .fn (.func 63) [] [.ptr 1 0] := e4
    have e5 : t1 5 = .mp 24 := e5
    have e36 : t1 36 = paysA s.pays := e36
    have e37 : t1 37 = .int .i64 ((s.pays.map payA).length : Nat) := e37
    have e38 : t1 38 = .int .i64 i := e38
    have b1 : h1 1 = staBa s := b1
    have b24 : h1 24 = mapB l := b24
    rw [← updL_has t1 [(1, .ptr 1 0), (3, .fn (.func 62) [] [.ptr 1 0]), (4, .fn (.func 63) [] [.ptr 1 0]), (5, .mp 24), (36, paysA s.pays), (37, .int .i64 ((s.pays.map payA).length : Nat)), (38, .int .i64 i)] ⟨e1, e3, e4, e5, e36, e37, e38, trivial⟩, ← updL_has h1 [(1, staBa s), (24, mapB l)] ⟨b1, b24, trivial⟩]
    constructor
    · intro hb
      have hi' : i < s.pays.length := by
        have : (i : Int) < ((s.pays.map payA).length : Nat) := by simpa using hb
        simp at this; omega
      have w : IntKind.i64.wrap ((i : Int) + 1) = ((i + 1 : Nat) : Int) := by rw [wrap_of] <;> omega
      have hlt : s.pays.length - (i + 1) < s.pays.length - i := by omega
      obtain ⟨p, hp⟩ : ∃ p, s.pays[i]? = some p := ⟨_, List.getElem?_eq_getElem hi'⟩
      have hn := all_next (f := payOk s.accs.length) hp
      have bad : payOk s.accs.length p = false → ∀ k, trL (setL l 3) k = w1 s ((s.pays.take (i + 1)).all (payOk s.accs.length)) k := fun e k => by
        rw [get_set, hW, hn, e]
        unfold w1
        by_cases h3 : k = 3 <;> simp [h3]
      have good : payOk s.accs.length p = true → ∀ k, trL l k = w1 s ((s.pays.take (i + 1)).all (payOk s.accs.length)) k := fun e k => by
        rw [hW, hn, e, Bool.and_true]
      have hX : mapq (fun p : AV × AV => (p.1, AV.trq (drpRq 43000 44000) p.2)) (mapq (fun p : AV × AV => (p.1, AV.trq (fgtBq 7) p.2)) (l.map entE)) = l.map entE := by rw [ent_fgt, ent_drpR]
      refine ⟨_, Int.natCast_nonneg i, map_of hp, ?_⟩
      repeat' first
        | (refine ⟨fun h => Bool.noConfusion h, fun _ => ?_⟩)
        | (refine ⟨fun _ => ?_, fun h => Bool.noConfusion h⟩)
        | (refine ⟨rfl, p, rfl, ?_⟩)
        | (refine ⟨s, p.src, rfl, rfl, ?_⟩)
        | (refine ⟨s, p.dst, rfl, rfl, ?_⟩)
        | (refine ⟨_, set_of hX 3, ?_⟩)
        | (refine ⟨_, hlt, i + 1, setL l 3, ⟨hi', bad ?_⟩, rfl, rfl, rfl, rfl, rfl, rfl, rfl, congrArg (AV.int .i64) w, rfl, rfl⟩)
        | (refine ⟨_, hlt, i + 1, l, ⟨hi', good ?_⟩, rfl, rfl, rfl, rfl, rfl, rfl, rfl, congrArg (AV.int .i64) w, rfl, mapB_of hX⟩)
        | (refine ⟨fun h => ?_, fun h => ?_⟩)
        | fail
      all_goals (clear hK hK0 bad good hW hst hst2 hX hn e1 e3 e4 e5 e36 e37 e38 b1 b24; simp [payOk]; first | (simp_all; done) | (simp_all; omega))
    · intro hb
      have hi' : i = s.pays.length := by
        have : ¬ (i : Int) < ((s.pays.map payA).length : Nat) := by simpa using hb
        simp at this; omega
      subst hi'
      rw [List.take_length] at hW
      have hW2 : ∀ k, trL l k = w2 s (([] : List Sag).all (sagOk s.kns)) (decide ((gkeys s).take 0).Nodup) k := fun k => by
        rw [hW]; simp [w2, paysOk]
      refine ⟨I2 s, ⟨_, 0, l, ⟨Nat.zero_le _, hW2⟩, rfl, rfl, rfl, rfl, rfl, rfl, rfl, rfl, rfl⟩, ?_⟩
      clear hW2 hW e1 e3 e4 e5 e36 e37 e38 b1 b24 hst hst2 hi hb
      rintro _ ⟨t2, h2⟩ ⟨i, l, ⟨hi, hW⟩, rfl, e1, e4, e5, e69, e70, e71, b1, b24⟩
      have e1 : t2 1 = .ptr 1 0 := e1
      have e4 : t2 4 = .fn (.func 63) [] [.ptr 1 0] := e4
      have e5 : t2 5 = .mp 24 := e5
      have e69 : t2 69 = sagsA s.sags := e69
      have e70 : t2 70 = .int .i64 ((s.sags.map sagA).length : Nat) := e70
      have e71 : t2 71 = .int .i64 i := e71
      have b1 : h2 1 = staBa s := b1
      have b24 : h2 24 = mapB l := b24
      rw [← updL_has t2 [(1, .ptr 1 0), (4, .fn (.func 63) [] [.ptr 1 0]), (5, .mp 24), (69, sagsA s.sags), (70, .int .i64 ((s.sags.map sagA).length : Nat)), (71, .int .i64 i)] ⟨e1, e4, e5, e69, e70, e71, trivial⟩, ← updL_has h2 [(1, staBa s), (24, mapB l)] ⟨b1, b24, trivial⟩]
      constructor
      · intro hb
        have hi' : i < s.sags.length := by
          have : (i : Int) < ((s.sags.map sagA).length : Nat) := by simpa using hb
          simp at this; omega
        have w : IntKind.i64.wrap ((i : Int) + 1) = ((i + 1 : Nat) : Int) := by rw [wrap_of] <;> omega
        have hlt : s.sags.length - (i + 1) < s.sags.length - i := by omega
        obtain ⟨g, hg⟩ : ∃ p, s.sags[i]? = some p := ⟨_, List.getElem?_eq_getElem hi'⟩
        have hn := all_next (f := sagOk s.kns) hg
        have hgk := gk_at hg
        refine ⟨_, Int.natCast_nonneg i, map_of hg, ?_⟩
        refine ⟨s, g.req.key, rfl, rfl, by omega, ?_⟩
        rintro ⟨t3, h3⟩ hF
        have e1 : t3 1 = .ptr 1 0 := hF.1 1 rfl
        have e4 : t3 4 = .fn (.func 63) [] [.ptr 1 0] := hF.1 4 rfl
        have e5 : t3 5 = .mp 24 := hF.1 5 rfl
        have e8 : t3 8 = .int .i64 i := hF.1 8 rfl
        have e9 : t3 9 = .ptr 9 0 := hF.1 9 rfl
        have e69 : t3 69 = sagsA s.sags := hF.1 69 rfl
        have e70 : t3 70 = .int .i64 ((s.sags.map sagA).length : Nat) := hF.1 70 rfl
        have e71 : t3 71 = .int .i64 i := hF.1 71 rfl
        have b1 : h3 1 = staBa s := hF.2 1 (by decide) (clo_of (x := .cells 36 [accsA s.accs, paysA s.pays, sagsA s.sags, knsA s.kns, .int .i64 s.now]) rfl rfl)
        have b9 : h3 9 = some (.cells 47 (sagA g).cells) := hF.2 9 (by decide) (clo_of (x := .cells 47 (sagA g).cells) rfl rfl)
        have b24 : h3 24 = mapB l := (hF.2 24 (by decide) (clo_of (x := .mapo (l.map entE)) (mapB_of (ent_fgt 9 l)) (congrArg Box.mapo (ent_kil l)))).trans (mapB_of (ent_fgt 9 l))
        have e1 : t3 1 = .ptr 1 0 := e1
        have e4 : t3 4 = .fn (.func 63) [] [.ptr 1 0] := e4
        have e5 : t3 5 = .mp 24 := e5
        have e8 : t3 8 = .int .i64 i := e8
        have e9 : t3 9 = .ptr 9 0 := e9
        have e69 : t3 69 = sagsA s.sags := e69
        have e70 : t3 70 = .int .i64 ((s.sags.map sagA).length : Nat) := e70
        have e71 : t3 71 = .int .i64 i := e71
        have b1 : h3 1 = staBa s := b1
        have b9 : h3 9 = some (.cells 47 (sagA g).cells) := b9
        have b24 : h3 24 = mapB l := b24
        rw [← updL_has t3 [(1, .ptr 1 0), (4, .fn (.func 63) [] [.ptr 1 0]), (5, .mp 24), (8, .int .i64 i), (9, .ptr 9 0), (69, sagsA s.sags), (70, .int .i64 ((s.sags.map sagA).length : Nat)), (71, .int .i64 i)] ⟨e1, e4, e5, e8, e9, e69, e70, e71, trivial⟩, ← updL_has h3 [(1, staBa s), (9, some (.cells 47 (sagA g).cells)), (24, mapB l)] ⟨b1, b9, b24, trivial⟩]
        have hX : mapq (fun p : AV × AV => (p.1, AV.trq (drpRq 82000 83000) p.2)) (l.map entE) = l.map entE := ent_drpR _ _ l
        have bad : sagOk s.kns g = false → ∀ k, trL (setL l 4) k = w2 s ((s.sags.take (i + 1)).all (sagOk s.kns)) (decide ((gkeys s).take i).Nodup && !decide (g.req.key ∈ (gkeys s).take 0)) k := fun e k => by
          rw [get_set, hW, hn, e]
          unfold w2
          by_cases h3 : k = 4 <;> simp [h3]
        have good : sagOk s.kns g = true → ∀ k, trL l k = w2 s ((s.sags.take (i + 1)).all (sagOk s.kns)) (decide ((gkeys s).take i).Nodup && !decide (g.req.key ∈ (gkeys s).take 0)) k := fun e k => by
          rw [hW, hn, e]; simp
        have hcut : AV.sl .fz 47 (((s.sags.map sagA).take ((i : Int)).toNat).drop 0) = sagsA (s.sags.take i) := by
          rw [List.drop_zero, ← List.map_take]; rfl
        have hcl : AV.int .i64 (((((s.sags.map sagA).take ((i : Int)).toNat).drop 0).length : Nat) : Int) = .int .i64 (i : Nat) := by
          have : (((s.sags.map sagA).take ((i : Int)).toNat).drop 0).length = i := by simp; omega
          rw [this]
        have hcle : ((i : Int)).toNat ≤ (s.sags.map sagA).length := by simp; omega
        have hsk : sagOk s.kns g = (rightS g && decide (0 ≤ findK s.kns g.req.key 0) && knOk s.kns g.req (findK s.kns g.req.key 0)) := rfl
        apply two
        intro inner
        rcases find_get (key := g.req.key) (ks := s.kns) (o := 0) with hf | ⟨k, q, hf, hq, _, _⟩
        · have hno : sagOk s.kns g = false := by rw [hsk, hf]; simp
          rw [hf]
          repeat' first
            | (refine ⟨rfl, g, rfl, ?_⟩)
            | (refine ⟨fun h => Bool.noConfusion h, fun _ => ?_⟩)
            | (refine ⟨fun _ => ?_, fun h => Bool.noConfusion h⟩)
            | (refine ⟨_, set_of hX 4, ?_⟩)
            | (refine ⟨Int.natCast_nonneg i, Nat.zero_le _, hcle, ?_⟩)
            | (refine ⟨I2' s i g, ⟨_, 0, setL l 4, ⟨Nat.zero_le _, bad hno⟩, rfl, rfl, rfl, rfl, rfl, rfl, rfl, rfl, hcut, hcl, rfl, rfl, rfl, rfl⟩, inner⟩)
            | (refine ⟨fun h => ?_, fun h => ?_⟩)
            | fail
        · have hk0 : 0 ≤ findK s.kns g.req.key 0 := by clear inner; rw [hf]; omega
          have hkq : s.kns[(findK s.kns g.req.key 0).toNat]? = some q := by rw [hf, Int.zero_add]; exact hq
          have hkn : knOk s.kns g.req (findK s.kns g.req.key 0) = (!q.told && reqEq q.req g.req) := by unfold knOk; rw [hkq]
          have hidx := map_of (f := knoA) hkq
          repeat' first
            | (refine ⟨rfl, g, rfl, ?_⟩)
            | (refine ⟨fun h => Bool.noConfusion h, fun _ => ?_⟩)
            | (refine ⟨fun _ => ?_, fun h => Bool.noConfusion h⟩)
            | (refine ⟨_, hk0, hidx, ?_⟩)
            | (refine ⟨_, set_of hX 4, ?_⟩)
            | (refine ⟨Int.natCast_nonneg i, Nat.zero_le _, hcle, ?_⟩)
            | (refine ⟨I2' s i g, ⟨_, 0, setL l 4, ⟨Nat.zero_le _, bad ?_⟩, rfl, rfl, rfl, rfl, rfl, rfl, rfl, rfl, hcut, hcl, rfl, rfl, rfl, rfl⟩, inner⟩)
            | (refine ⟨I2' s i g, ⟨_, 0, l, ⟨Nat.zero_le _, good ?_⟩, rfl, rfl, rfl, rfl, rfl, rfl, rfl, rfl, hcut, hcl, rfl, rfl, rfl, mapB_of hX⟩, inner⟩)
            | (refine ⟨fun h => ?_, fun h => ?_⟩)
            | fail
          all_goals (rw [hsk, hkn]; clear inner hK hK0 bad good hW hn hF hX hcut hcl hcle hsk hkn hidx hkq b1 b9 b24; first | (simp_all [reqEq]; done) | (simp_all [reqEq]; omega))
        case a =>
            clear hn hX hcut hcl hcle hsk hF bad good hW e1 e4 e5 e8 e9 e69 e70 e71 b1 b9 b24
            rintro _ ⟨t4, h4⟩ ⟨j, l, ⟨hj, hW⟩, rfl, e1, e4, e5, e9, e69, e70, e71, e111, e112, e113, b1, b9, b24⟩
            have e1 : t4 1 = .ptr 1 0 := e1
            have e4 : t4 4 = .fn (.func 63) [] [.ptr 1 0] := e4
            have e5 : t4 5 = .mp 24 := e5
            have e9 : t4 9 = .ptr 9 0 := e9
            have e69 : t4 69 = sagsA s.sags := e69
            have e70 : t4 70 = .int .i64 ((s.sags.map sagA).length : Nat) := e70
            have e71 : t4 71 = .int .i64 i := e71
            have e111 : t4 111 = sagsA (s.sags.take i) := e111
            have e112 : t4 112 = .int .i64 (i : Nat) := e112
            have e113 : t4 113 = .int .i64 j := e113
            have b1 : h4 1 = staBa s := b1
            have b9 : h4 9 = some (.cells 47 (sagA g).cells) := b9
            have b24 : h4 24 = mapB l := b24
            rw [← updL_has t4 [(1, .ptr 1 0), (4, .fn (.func 63) [] [.ptr 1 0]), (5, .mp 24), (9, .ptr 9 0), (69, sagsA s.sags), (70, .int .i64 ((s.sags.map sagA).length : Nat)), (71, .int .i64 i), (111, sagsA (s.sags.take i)), (112, .int .i64 (i : Nat)), (113, .int .i64 j)] ⟨e1, e4, e5, e9, e69, e70, e71, e111, e112, e113, trivial⟩, ← updL_has h4 [(1, staBa s), (9, some (.cells 47 (sagA g).cells)), (24, mapB l)] ⟨b1, b9, b24, trivial⟩]
            constructor
            · intro hb
              have hj' : j < i := by
                have : (j : Int) < (i : Nat) := by simpa using hb
                omega
              have wj : IntKind.i64.wrap ((j : Int) + 1) = ((j + 1 : Nat) : Int) := by rw [wrap_of] <;> omega
              have hlt2 : i - (j + 1) < i - j := by omega
              have hjl : j < (s.sags.take i).length := by simp; omega
              obtain ⟨g2, hg2⟩ : ∃ p, (s.sags.take i)[j]? = some p := ⟨_, List.getElem?_eq_getElem hjl⟩
              have hk2 : (gkeys s)[j]? = some g2.req.key := by
                rw [List.getElem?_take] at hg2
                rw [if_pos hj'] at hg2
                exact gk_at hg2
              have hm := mem_next (y := g.req.key) hk2
              refine ⟨_, Int.natCast_nonneg j, map_of hg2, ?_⟩
              constructor
              · intro hk
                have hk : g2.req.key = g.req.key := by simpa using hk
                have hW' : ∀ k, trL (setL l 6) k = w2 s ((s.sags.take (i + 1)).all (sagOk s.kns)) (decide ((gkeys s).take i).Nodup && !decide (g.req.key ∈ (gkeys s).take (j + 1))) k := fun k => by
                  rw [get_set, hW, hm]
                  unfold w2
                  by_cases h6 : k = 6 <;> simp [h6, hk]
                refine ⟨_, set_of (ent_fgt 12 l) 6, ?_⟩
                exact ⟨_, hlt2, j + 1, setL l 6, ⟨hj', hW'⟩, rfl, rfl, rfl, rfl, rfl, rfl, rfl, rfl, rfl, rfl, congrArg (AV.int .i64) wj, rfl, rfl, rfl⟩
              · intro hk
                have hk : ¬ g2.req.key = g.req.key := by simpa using hk
                have hW' : ∀ k, trL l k = w2 s ((s.sags.take (i + 1)).all (sagOk s.kns)) (decide ((gkeys s).take i).Nodup && !decide (g.req.key ∈ (gkeys s).take (j + 1))) k := fun k => by
                  rw [hW, hm]
                  simp [hk]
                exact ⟨_, hlt2, j + 1, l, ⟨hj', hW'⟩, rfl, rfl, rfl, rfl, rfl, rfl, rfl, rfl, rfl, rfl, congrArg (AV.int .i64) wj, rfl, rfl, mapB_of (ent_fgt 12 l)⟩
            · intro hb
              have hj' : j = i := by
                have : ¬ (j : Int) < (i : Nat) := by simpa using hb
                omega
              subst hj'
              have hW' : ∀ k, trL l k = w2 s ((s.sags.take (j + 1)).all (sagOk s.kns)) (decide ((gkeys s).take (j + 1)).Nodup) k := fun k => by
                rw [hW, nodup_next hgk]
              exact ⟨_, hlt, j + 1, l, ⟨hi', hW'⟩, rfl, rfl, rfl, rfl, rfl, rfl, congrArg (AV.int .i64) w, rfl, rfl⟩
      · intro hb
        have hi' : i = s.sags.length := by
          have : ¬ (i : Int) < ((s.sags.map sagA).length : Nat) := by simpa using hb
          simp at this; omega
        subst hi'
        rw [List.take_length, List.take_of_length_le (by unfold gkeys; simp)] at hW
        have hW2 : ∀ k, trL l k = w3 s (decide ((s.accs.map (·.held)).take 0 = (heldL s).take 0)) k := fun k => by
          rw [hW]; simp [w3, sagsOk]
        refine ⟨rfl, s, rfl, hS, ?_⟩
        refine ⟨I3 s, ⟨_, 0, l, ⟨Nat.zero_le _, hW2⟩, rfl, rfl, rfl, rfl, rfl, rfl, rfl, rfl, mapB_of (ent_drpR 128000 129000 l)⟩, ?_⟩
        clear hW2 hW e1 e4 e5 e69 e70 e71 b1 b24 hi hb
        have hlen := heldL_len s
        rintro _ ⟨t3, h3⟩ ⟨i, l, ⟨hi, hW⟩, rfl, e1, e4, e5, e128, e129, e130, b1, b24⟩
        have e1 : t3 1 = .ptr 1 0 := e1
        have e4 : t3 4 = .fn (.func 63) [] [.ptr 1 0] := e4
        have e5 : t3 5 = .mp 24 := e5
        have e128 : t3 128 = .sl .fz 3 (iA (heldL s)) := e128
        have e129 : t3 129 = .int .i64 ((iA (heldL s)).length : Nat) := e129
        have e130 : t3 130 = .int .i64 i := e130
        have b1 : h3 1 = staBa s := b1
        have b24 : h3 24 = mapB l := b24
        rw [← updL_has t3 [(1, .ptr 1 0), (4, .fn (.func 63) [] [.ptr 1 0]), (5, .mp 24), (128, .sl .fz 3 (iA (heldL s))), (129, .int .i64 ((iA (heldL s)).length : Nat)), (130, .int .i64 i)] ⟨e1, e4, e5, e128, e129, e130, trivial⟩, ← updL_has h3 [(1, staBa s), (24, mapB l)] ⟨b1, b24, trivial⟩]
        constructor
        · intro hb
          have hi' : i < s.accs.length := by
            have : (i : Int) < ((iA (heldL s)).length : Nat) := by simpa using hb
            rw [iA_len, hlen] at this; omega
          have w : IntKind.i64.wrap ((i : Int) + 1) = ((i + 1 : Nat) : Int) := by rw [wrap_of] <;> omega
          have hlt : s.accs.length - (i + 1) < s.accs.length - i := by omega
          obtain ⟨a, ha⟩ : ∃ p, s.accs[i]? = some p := ⟨_, List.getElem?_eq_getElem hi'⟩
          obtain ⟨n, hn⟩ : ∃ p, (heldL s)[i]? = some p := ⟨_, List.getElem?_eq_getElem (by omega)⟩
          have ha2 : (s.accs.map (·.held))[i]? = some a.held := by rw [List.getElem?_map, ha]; rfl
          have hm := take_next ha2 hn
          refine ⟨_, Int.natCast_nonneg i, iA_of hn, ?_⟩
          refine ⟨_, Int.natCast_nonneg i, map_of ha, ?_⟩
          constructor
          · intro hk
            have hk : ¬ a.held = n := by simpa using hk
            have hW' : ∀ k, trL (setL l 5) k = w3 s (decide ((s.accs.map (·.held)).take (i + 1) = (heldL s).take (i + 1))) k := fun k => by
              rw [get_set, hW, hm]
              unfold w3
              by_cases h6 : k = 5 <;> simp [h6, hk]
            refine ⟨_, set_of rfl 5, ?_⟩
            exact ⟨_, hlt, i + 1, setL l 5, ⟨hi', hW'⟩, rfl, rfl, rfl, rfl, rfl, rfl, congrArg (AV.int .i64) w, rfl, rfl⟩
          · intro hk
            have hk : a.held = n := by simpa using hk
            have hW' : ∀ k, trL l k = w3 s (decide ((s.accs.map (·.held)).take (i + 1) = (heldL s).take (i + 1))) k := fun k => by
              rw [hW, hm]
              simp [hk]
            exact ⟨_, hlt, i + 1, l, ⟨hi', hW'⟩, rfl, rfl, rfl, rfl, rfl, rfl, congrArg (AV.int .i64) w, rfl, rfl⟩
        · intro hb
          have hi' : i = s.accs.length := by
            have : ¬ (i : Int) < ((iA (heldL s)).length : Nat) := by simpa using hb
            rw [iA_len, hlen] at this; omega
          subst hi'
          rw [List.take_of_length_le (by simp), List.take_of_length_le (by omega)] at hW
          have hW2 : ∀ k, trL l k = w4 s (allX (knOk1 s) 0 (s.kns.take 0)) k := fun k => by
            rw [hW]; simp [w4, allX, holdsOk]
          refine ⟨I4 s, ⟨_, 0, l, ⟨Nat.zero_le _, hW2⟩, rfl, rfl, rfl, rfl, rfl, rfl, rfl, rfl, rfl⟩, ?_⟩
          clear hW2 hW e1 e4 e5 e128 e129 e130 b1 b24 hi hb
          rintro _ ⟨t4, h4⟩ ⟨i, l, ⟨hi, hW⟩, rfl, e1, e4, e5, e146, e147, e148, b1, b24⟩
          have e1 : t4 1 = .ptr 1 0 := e1
          have e4 : t4 4 = .fn (.func 63) [] [.ptr 1 0] := e4
          have e5 : t4 5 = .mp 24 := e5
          have e146 : t4 146 = knsA s.kns := e146
          have e147 : t4 147 = .int .i64 ((s.kns.map knoA).length : Nat) := e147
          have e148 : t4 148 = .int .i64 i := e148
          have b1 : h4 1 = staBa s := b1
          have b24 : h4 24 = mapB l := b24
          rw [← updL_has t4 [(1, .ptr 1 0), (4, .fn (.func 63) [] [.ptr 1 0]), (5, .mp 24), (146, knsA s.kns), (147, .int .i64 ((s.kns.map knoA).length : Nat)), (148, .int .i64 i)] ⟨e1, e4, e5, e146, e147, e148, trivial⟩, ← updL_has h4 [(1, staBa s), (24, mapB l)] ⟨b1, b24, trivial⟩]
          constructor
          · intro hb
            have hi' : i < s.kns.length := by
              have : (i : Int) < ((s.kns.map knoA).length : Nat) := by simpa using hb
              simp at this; omega
            have w : IntKind.i64.wrap ((i : Int) + 1) = ((i + 1 : Nat) : Int) := by rw [wrap_of] <;> omega
            have hlt : s.kns.length - (i + 1) < s.kns.length - i := by omega
            obtain ⟨q, hq⟩ : ∃ p, s.kns[i]? = some p := ⟨_, List.getElem?_eq_getElem hi'⟩
            have hn := allX_next (f := knOk1 s) (o := 0) hq
            rw [Int.zero_add] at hn
            refine ⟨_, Int.natCast_nonneg i, map_of hq, ?_⟩
            refine ⟨I4' s i q l, ⟨_, 0, q.told, ⟨Nat.zero_le _, by simp⟩, rfl, rfl, rfl, rfl, rfl, rfl, rfl, rfl, rfl, rfl, rfl, rfl, rfl, rfl, rfl, mapB_of (ent_fgt 16 l)⟩, ?_⟩
            clear e1 e4 e5 e146 e147 e148 b1 b24
            rintro _ ⟨t5, h5⟩ ⟨j, b, ⟨hj, hB⟩, rfl, e1, e4, e5, e15, e16, e17, e146, e147, e148, e156, e157, e158, b1, b16, b24⟩
            have e1 : t5 1 = .ptr 1 0 := e1
            have e4 : t5 4 = .fn (.func 63) [] [.ptr 1 0] := e4
            have e5 : t5 5 = .mp 24 := e5
            have e15 : t5 15 = .int .i64 i := e15
            have e16 : t5 16 = .ptr 16 0 := e16
            have e17 : t5 17 = .bool b := e17
            have e146 : t5 146 = knsA s.kns := e146
            have e147 : t5 147 = .int .i64 ((s.kns.map knoA).length : Nat) := e147
            have e148 : t5 148 = .int .i64 i := e148
            have e156 : t5 156 = sagsA s.sags := e156
            have e157 : t5 157 = .int .i64 ((s.sags.map sagA).length : Nat) := e157
            have e158 : t5 158 = .int .i64 j := e158
            have b1 : h5 1 = staBa s := b1
            have b16 : h5 16 = some (.cells 63 (knoA q).cells) := b16
            have b24 : h5 24 = mapB l := b24
            rw [← updL_has t5 [(1, .ptr 1 0), (4, .fn (.func 63) [] [.ptr 1 0]), (5, .mp 24), (15, .int .i64 i), (16, .ptr 16 0), (17, .bool b), (146, knsA s.kns), (147, .int .i64 ((s.kns.map knoA).length : Nat)), (148, .int .i64 i), (156, sagsA s.sags), (157, .int .i64 ((s.sags.map sagA).length : Nat)), (158, .int .i64 j)] ⟨e1, e4, e5, e15, e16, e17, e146, e147, e148, e156, e157, e158, trivial⟩, ← updL_has h5 [(1, staBa s), (16, some (.cells 63 (knoA q).cells)), (24, mapB l)] ⟨b1, b16, b24, trivial⟩]
            constructor
            · intro hb
              have hj' : j < s.sags.length := by
                have : (j : Int) < ((s.sags.map sagA).length : Nat) := by simpa using hb
                simp at this; omega
              have wj : IntKind.i64.wrap ((j : Int) + 1) = ((j + 1 : Nat) : Int) := by rw [wrap_of] <;> omega
              have hlt2 : s.sags.length - (j + 1) < s.sags.length - j := by omega
              obtain ⟨g, hg⟩ : ∃ p, s.sags[j]? = some p := ⟨_, List.getElem?_eq_getElem hj'⟩
              have hm := mem_next (y := q.req.key) (gk_at hg)
              refine ⟨_, Int.natCast_nonneg j, map_of hg, ?_⟩
              cases b with
              | true =>
                have hB' : true = (q.told || decide (q.req.key ∈ (gkeys s).take (j + 1))) := by rw [hm, ← Bool.or_assoc, ← hB]; rfl
                repeat' first
                  | (refine ⟨fun h => Bool.noConfusion h, fun _ => ?_⟩)
                  | (refine ⟨fun _ => ?_, fun h => Bool.noConfusion h⟩)
                  | (exact ⟨_, hlt2, j + 1, true, ⟨hj', hB'⟩, rfl, rfl, rfl, rfl, rfl, rfl, rfl, rfl, rfl, rfl, rfl, rfl, congrArg (AV.int .i64) wj, rfl, rfl, mapB_of (ent_fgt 19 l)⟩)
                  | fail
              | false =>
                have hB' : (g.req.key == q.req.key) = (q.told || decide (q.req.key ∈ (gkeys s).take (j + 1))) := by
                  rw [hm, ← Bool.or_assoc, ← hB, Bool.false_or]
                  by_cases e : g.req.key = q.req.key <;> simp [e]
                repeat' first
                  | (refine ⟨fun h => Bool.noConfusion h, fun _ => ?_⟩)
                  | (refine ⟨fun _ => ?_, fun h => Bool.noConfusion h⟩)
                  | (exact ⟨_, hlt2, j + 1, (g.req.key == q.req.key), ⟨hj', hB'⟩, rfl, rfl, rfl, rfl, rfl, rfl, rfl, rfl, rfl, rfl, rfl, rfl, congrArg (AV.int .i64) wj, rfl, rfl, mapB_of (ent_fgt 19 l)⟩)
                  | fail
            · intro hb
              have hj' : j = s.sags.length := by
                have : ¬ (j : Int) < ((s.sags.map sagA).length : Nat) := by simpa using hb
                simp at this; omega
              subst hj'
              rw [List.take_of_length_le (by unfold gkeys; simp)] at hB
              refine ⟨s, q.req.key, rfl, rfl, by omega, ?_⟩
              rintro ⟨t6, h6⟩ hF
              have e1 : t6 1 = .ptr 1 0 := hF.1 1 rfl
              have e4 : t6 4 = .fn (.func 63) [] [.ptr 1 0] := hF.1 4 rfl
              have e5 : t6 5 = .mp 24 := hF.1 5 rfl
              have e15 : t6 15 = .int .i64 i := hF.1 15 rfl
              have e16 : t6 16 = .ptr 16 0 := hF.1 16 rfl
              have e17 : t6 17 = .bool b := hF.1 17 rfl
              have e146 : t6 146 = knsA s.kns := hF.1 146 rfl
              have e147 : t6 147 = .int .i64 ((s.kns.map knoA).length : Nat) := hF.1 147 rfl
              have e148 : t6 148 = .int .i64 i := hF.1 148 rfl
              have b1 : h6 1 = staBa s := hF.2 1 (by decide) (clo_of (x := .cells 36 [accsA s.accs, paysA s.pays, sagsA s.sags, knsA s.kns, .int .i64 s.now]) rfl rfl)
              have b24 : h6 24 = mapB l := hF.2 24 (by decide) (clo_of (x := .mapo (l.map entE)) rfl (congrArg Box.mapo (ent_kil l)))
              have e1 : t6 1 = .ptr 1 0 := e1
              have e4 : t6 4 = .fn (.func 63) [] [.ptr 1 0] := e4
              have e5 : t6 5 = .mp 24 := e5
              have e15 : t6 15 = .int .i64 i := e15
              have e16 : t6 16 = .ptr 16 0 := e16
              have e17 : t6 17 = .bool b := e17
              have e146 : t6 146 = knsA s.kns := e146
              have e147 : t6 147 = .int .i64 ((s.kns.map knoA).length : Nat) := e147
              have e148 : t6 148 = .int .i64 i := e148
              have b1 : h6 1 = staBa s := b1
              have b24 : h6 24 = mapB l := b24
              rw [← updL_has t6 [(1, .ptr 1 0), (4, .fn (.func 63) [] [.ptr 1 0]), (5, .mp 24), (15, .int .i64 i), (16, .ptr 16 0), (17, .bool b), (146, knsA s.kns), (147, .int .i64 ((s.kns.map knoA).length : Nat)), (148, .int .i64 i)] ⟨e1, e4, e5, e15, e16, e17, e146, e147, e148, trivial⟩, ← updL_has h6 [(1, staBa s), (24, mapB l)] ⟨b1, b24, trivial⟩]
              have bad : knOk1 s i q = false → ∀ k, trL (setL l 6) k = w4 s (allX (knOk1 s) 0 (s.kns.take (i + 1))) k := fun e k => by
                rw [get_set, hW, hn, e]
                unfold w4
                by_cases h3 : k = 6 <;> simp [h3]
              have good : knOk1 s i q = true → ∀ k, trL l k = w4 s (allX (knOk1 s) 0 (s.kns.take (i + 1))) k := fun e k => by
                rw [hW, hn, e, Bool.and_true]
              have hkd : knOk1 s i q = (decide (findK s.kns q.req.key 0 = i) && b) := by rw [hB]; rfl
              repeat' first
                | (refine ⟨fun h => Bool.noConfusion h, fun _ => ?_⟩)
                | (refine ⟨fun _ => ?_, fun h => Bool.noConfusion h⟩)
                | (refine ⟨_, set_of rfl 6, ?_⟩)
                | (refine ⟨_, hlt, i + 1, setL l 6, ⟨hi', bad ?_⟩, rfl, rfl, rfl, rfl, rfl, rfl, congrArg (AV.int .i64) w, rfl, rfl⟩)
                | (refine ⟨_, hlt, i + 1, l, ⟨hi', good ?_⟩, rfl, rfl, rfl, rfl, rfl, rfl, congrArg (AV.int .i64) w, rfl, rfl⟩)
                | (refine ⟨fun h => ?_, fun h => ?_⟩)
                | fail
              all_goals (rw [hkd]; clear hK bad good hW hn hF hkd hB b1 b24; first | (simp_all; done) | (simp_all; omega))
          · intro hb
            have hi' : i = s.kns.length := by
              have : ¬ (i : Int) < ((s.kns.map knoA).length : Nat) := by simpa using hb
              simp at this; omega
            subst hi'
            rw [List.take_length] at hW
            refine ⟨I5 s l, ⟨_, 0, [], ⟨Nat.zero_le _, rfl⟩, rfl, rfl, rfl, rfl, rfl⟩, ?_⟩
            clear e1 e4 e5 e146 e147 e148 b1 b24 hi hb
            have hX2 : ∀ l : List (Int × Bool), mapq (fun p : AV × AV => (p.1, AV.trq (drpFq 196000) p.2)) (mapq (fun p : AV × AV => (p.1, AV.trq (drpFq 195000) p.2)) (l.map entE)) = l.map entE := fun l => by rw [ent_drpF, ent_drpF]
            rintro _ ⟨t6, h6⟩ ⟨i, out, ⟨hi, hO⟩, rfl, e5, e20, e21, b24⟩
            have e5 : t6 5 = .mp 24 := e5
            have e21 : t6 21 = .int .i64 ((i + 1 : Nat) : Int) := e21
            have b24 : h6 24 = mapB l := b24
            have hol : out.length ≤ 6 := by
              rw [hO]
              unfold faultsOf
              rw [List.length_map]
              refine Nat.le_trans (List.Sublist.length_le List.filter_sublist) ?_
              rw [List.length_take]; omega
            cases out with
            | nil =>
              have e20 : t6 20 = .sl .nl 0 [] := e20
              rw [← updL_has t6 [(5, .mp 24), (20, .sl .nl 0 []), (21, .int .i64 ((i + 1 : Nat) : Int))] ⟨e5, e20, e21, trivial⟩, ← updL_has h6 [(24, mapB l)] ⟨b24, trivial⟩]
              constructor
              · intro hb
                have hi' : i < 6 := by
                  have : ((i + 1 : Nat) : Int) ≤ 6 := by simpa using hb
                  omega
                have w : IntKind.i64.wrap (((i + 1 : Nat) : Int) + 1) = ((i + 1 + 1 : Nat) : Int) := by rw [wrap_of] <;> omega
                obtain ⟨c, hc⟩ : ∃ c, (cks s)[i]? = some c := ⟨_, List.getElem?_eq_getElem (by show i < 6; exact hi')⟩
                have hst := faults_next hc
                have hlt : 6 - (i + 1) < 6 - i := by omega
                obtain ⟨hc1, hc2⟩ := w4_cks hW hc
                refine ⟨_, fnd_of rfl _, ?_⟩
                unfold trL at hc1
                cases hg : getL l ((i + 1 : Nat) : Int) with
                | none =>
                  rw [hg] at hc1
                  have hc1 : c.1 = true := by simpa using hc1.symm
                  rw [hc1, if_pos rfl, List.append_nil, ← hO] at hst
                  repeat' first
                    | (refine ⟨fun h => Bool.noConfusion h, fun _ => ?_⟩)
                    | (refine ⟨fun _ => ?_, fun h => Bool.noConfusion h⟩)
                    | (exact ⟨_, hlt, i + 1, [], ⟨hi', hst.symm⟩, rfl, rfl, rfl, congrArg (AV.int .i64) w, rfl⟩)
                    | fail
                | some v => cases v with
                  | false =>
                    rw [hg] at hc1
                    have hc1 : c.1 = true := by simpa using hc1.symm
                    rw [hc1, if_pos rfl, List.append_nil, ← hO] at hst
                    repeat' first
                      | (refine ⟨fun h => Bool.noConfusion h, fun _ => ?_⟩)
                      | (refine ⟨fun _ => ?_, fun h => Bool.noConfusion h⟩)
                      | (exact ⟨_, hlt, i + 1, [], ⟨hi', hst.symm⟩, rfl, rfl, rfl, congrArg (AV.int .i64) w, rfl⟩)
                      | fail
                  | true =>
                    rw [hg] at hc1
                    have hc1 : c.1 = false := by simpa using hc1.symm
                    rw [hc1, if_neg (by simp), ← hO, hc2] at hst
                    repeat' first
                      | (refine ⟨fun h => Bool.noConfusion h, fun _ => ?_⟩)
                      | (refine ⟨fun _ => ?_, fun h => Bool.noConfusion h⟩)
                      | (refine ⟨(by decide : 1 * 8 ≤ 140737488355328), ?_⟩)
                      | (exact ⟨_, hlt, i + 1, [] ++ [((i + 1 : Nat) : Int)], ⟨hi', hst.symm⟩, rfl, rfl, rfl, congrArg (AV.int .i64) w, mapB_of (hX2 l)⟩)
                      | fail
              · intro hb
                have hi' : i = 6 := by
                  have : ¬ ((i + 1 : Nat) : Int) ≤ 6 := by simpa using hb
                  omega
                subst hi'
                have : (cks s).take 6 = cks s := rfl
                rw [this] at hO
                have hO : [] = faults s := hO
                rw [← hO] at hK
                exact hK
            | cons o os =>
              have e20 : t6 20 = .sl (.own 196000) 86 (.int .i64 o :: iA os) := e20
              rw [← updL_has t6 [(5, .mp 24), (20, .sl (.own 196000) 86 (.int .i64 o :: iA os)), (21, .int .i64 ((i + 1 : Nat) : Int))] ⟨e5, e20, e21, trivial⟩, ← updL_has h6 [(24, mapB l)] ⟨b24, trivial⟩]
              constructor
              · intro hb
                have hi' : i < 6 := by
                  have : ((i + 1 : Nat) : Int) ≤ 6 := by simpa using hb
                  omega
                have w : IntKind.i64.wrap (((i + 1 : Nat) : Int) + 1) = ((i + 1 + 1 : Nat) : Int) := by rw [wrap_of] <;> omega
                obtain ⟨c, hc⟩ : ∃ c, (cks s)[i]? = some c := ⟨_, List.getElem?_eq_getElem (by show i < 6; exact hi')⟩
                have hst := faults_next hc
                have hlt : 6 - (i + 1) < 6 - i := by omega
                obtain ⟨hc1, hc2⟩ := w4_cks hW hc
                have hb2 : ((AV.int .i64 o :: iA os).length + 1) * 8 ≤ 140737488355328 := by simp [iA] at hol ⊢; omega
                have heq : AV.sl (.own 196000) 86 ((.int .i64 o :: iA os) ++ [.int .i64 ((i + 1 : Nat) : Int)]) = fltB 196000 ((o :: os) ++ [((i + 1 : Nat) : Int)]) := by simp [fltB, iA]
                refine ⟨_, fnd_of rfl _, ?_⟩
                unfold trL at hc1
                cases hg : getL l ((i + 1 : Nat) : Int) with
                | none =>
                  rw [hg] at hc1
                  have hc1 : c.1 = true := by simpa using hc1.symm
                  rw [hc1, if_pos rfl, List.append_nil, ← hO] at hst
                  repeat' first
                    | (refine ⟨fun h => Bool.noConfusion h, fun _ => ?_⟩)
                    | (refine ⟨fun _ => ?_, fun h => Bool.noConfusion h⟩)
                    | (exact ⟨_, hlt, i + 1, (o :: os), ⟨hi', hst.symm⟩, rfl, rfl, rfl, congrArg (AV.int .i64) w, rfl⟩)
                    | fail
                | some v => cases v with
                  | false =>
                    rw [hg] at hc1
                    have hc1 : c.1 = true := by simpa using hc1.symm
                    rw [hc1, if_pos rfl, List.append_nil, ← hO] at hst
                    repeat' first
                      | (refine ⟨fun h => Bool.noConfusion h, fun _ => ?_⟩)
                      | (refine ⟨fun _ => ?_, fun h => Bool.noConfusion h⟩)
                      | (exact ⟨_, hlt, i + 1, (o :: os), ⟨hi', hst.symm⟩, rfl, rfl, rfl, congrArg (AV.int .i64) w, rfl⟩)
                      | fail
                  | true =>
                    rw [hg] at hc1
                    have hc1 : c.1 = false := by simpa using hc1.symm
                    rw [hc1, if_neg (by simp), ← hO, hc2] at hst
                    repeat' first
                      | (refine ⟨fun h => Bool.noConfusion h, fun _ => ?_⟩)
                      | (refine ⟨fun _ => ?_, fun h => Bool.noConfusion h⟩)
                      | (refine ⟨hb2, ?_⟩)
                      | (exact ⟨_, hlt, i + 1, (o :: os) ++ [((i + 1 : Nat) : Int)], ⟨hi', hst.symm⟩, rfl, rfl, heq, congrArg (AV.int .i64) w, mapB_of (hX2 l)⟩)
                      | fail
              · intro hb
                have hi' : i = 6 := by
                  have : ¬ ((i + 1 : Nat) : Int) ≤ 6 := by simpa using hb
                  omega
                subst hi'
                have : (cks s).take 6 = cks s := rfl
                rw [this] at hO
                have hO : (o :: os) = faults s := hO
                rw [← hO] at hK
                exact hK
theorem refck_ok : FnOk Tryz.prog tab 33 refC := refck_ok0.fz.mono (by
  rintro args bs K ⟨rfl, s, rfl, hS, hK⟩
  exact ⟨rfl, rfl, s, rfl, hS, _, fz_fltB _ _, hK⟩)
end Go.Proofs.YtjffmldlkofpaaaGreatDoor.A
