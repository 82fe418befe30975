/- Journals: Open, on a disk that is not about to stop. -/
import Derived.Test.YtbpcofnhndgoeaaDoorJR4
import Derived.Test.YtbpcofnhndgoeaaDoorJF2
import Derived.Test.YtbpcofnhndgoeaaDoorW2
import Derived.Test.YtbpcofnhndgoeaaDoorJ9
import Derived.Test.YtbpcofnhndgoeaaDoorJB2
namespace Go.Proofs.YtbpcofnhndgoeaaDoor.A
open Go Q
/-- The file of a turn's records. -/
def fileN (t : Int) : Int := IntKind.i64.wrap (2 + t)
/-- The snapshot's turn, and the base; none, if it is none. -/
def headD (d : Dk) : Option (Int × List Int) := if (readD d 0).2 = true then
    match oneB (readD d 0).1 with
    | none => none
    | some (x, n) => if n = (readD d 0).1.length then match getB x with
        | none => none
        | some (t, rest) => if t < 1 then none else some (t, rest)
      else none
  else some (0, [])
def sweepD (d : Dk) (f : Int) : Dk := ⟨keepFs d.fs f, d.room, d.left, d.stop⟩
def tornD (d : Dk) (f : Int) : Dk := if (readD d f).2 = true ∧ (scanI (readD d f).1).2 < (readD d f).1.length then (cutD d f (scanI (readD d f).1).2).2 else d
def openD (d : Dk) : Option (Jn × Dk) := match headD d with
  | none => none
  | some (t, rest) => some (⟨t, rest, (scanI (readD (sweepD d (fileN t)) (fileN t)).1).1, false⟩, tornD (sweepD d (fileN t)) (fileN t))
/-- A journal's box, its disk ahead of it. -/
abbrev jBo (m : Jn) : Box := .cells 82 [.ptr 1000000000 0, .int .i64 m.turn, by8 m.base, bss (.own 103000) m.recs, .bool m.broken]
def getC1 (args : List AV) (bs : List Box) (K : AV → List Box → Prop) : Prop := bs = [] ∧ ∃ (b : List Int) (o : Option (Int × List Int)), getB b = o ∧ args = [by8 b] ∧ byteL b ∧ b.length ≤ 4611686018427387904 ∧ K (getA o) []
theorem get_ok1 : FnOk Tryd.prog tab 26 getC1 := get_ok.mono fun args bs K ⟨h0, b, o, ho, h1, h2, h3, h4⟩ => ⟨h0, b, h1, h2, h3, by rw [ho]; exact h4⟩
def namesC2 (args : List AV) (bs : List Box) (K : Kon) : Prop := args = [.ptr 1000000000 0] ∧ ∃ d nb, DOk d ∧ 2000000000 ≤ nb ∧ bs = [dkB d nb] ∧ ∀ l, l.Perm (d.fs.map (·.1)) → K (intS .fz l) [dkB d nb]
theorem names_ok2 : FnOkN Tryd.prog tab 19 namesC2 := names_ok.nilT.mono fun args bs K ⟨h0, d, nb, h1, h2, h3, h4⟩ => ⟨h0, d, nb, h1, h2, h3, fun he => ⟨_, .inl (.inr ⟨_, _, _, rfl, rfl⟩), h4 [] (by rw [he]; exact .nil)⟩, fun _ l hp => ⟨_, .inl (.inl rfl), h4 l hp⟩⟩
def ROp : Contract
  | 24 => oneC
  | 26 => getC1
  | 45 => nilC scanC1
  | _ => fun _ _ _ => False
theorem ROp_ok : CallOk Tryd.prog tab ROp := by
  intro f args bs K h
  unfold ROp at h
  split at h
  · exact ⟨_, h, one_ok⟩
  · exact ⟨_, h, get_ok1⟩
  · exact ⟨_, h, scan_ok1.nil⟩
  · exact h.elim
def ROp_E (pl : Nat → Plan) : En := ⟨tab, ROp, fun _ => none, 0, pl⟩
theorem ROp_J (pl : Nat → Plan) : JOk Tryd.prog (ROp_E pl).T (ROp_E pl).J := fun _ _ h => by cases h
noncomputable def JOp : FuncId → Option StSpec
  | 16 => some (liftJ readC2)
  | 19 => some (liftJ namesC2)
  | 44 => some (liftJ (dk1C2 removeD))
  | 18 => some (liftJ (dk2C2 cutD))
  | _ => none
theorem JOp_ok : JOk Tryd.prog tab JOp := by
  intro f j h
  unfold JOp at h
  split at h
  · cases h; exact lift_ok read_ok2
  · cases h; exact lift_ok names_ok2
  · cases h; exact lift_ok (dk1_mono2 (dk1_mono remove_ok))
  · cases h; exact lift_ok (dk2_mono2 (dk2_mono cut_ok))
  · cases h
noncomputable def Op_E (pl : Nat → Plan) : En := ⟨tab, ROp, JOp, 0, pl⟩
def openC (args : List AV) (bs : List Box) (K : Kon) : Prop := ∃ d nb r, DG d ∧ d.left = -1 ∧ d.stop = false ∧ 2000000000 ≤ nb ∧ openD d = r ∧ args = [.ptr 1000000000 0] ∧ bs = [dkB d nb] ∧
  (r = none → K (.tup [.nilptr, .ifc 34 (.int .i64 11)]) [dkB d nb]) ∧ (∀ m d', r = some (m, d') → K (.tup [.ptr 1000000001 0, .nilifc]) [dkB d' nb, jBo m])
theorem cut_calm {d : Dk} {k n : Int} {v : List Int × Int} (hl : d.left = -1) (hs : d.stop = false) (hg : fget d.fs k = some v) (h0 : 0 ≤ n) (h1 : n ≤ v.1.length) : cutD d k n = (0, ⟨fset d.fs k (v.1.take n.toNat, n), d.room, -1, false⟩) := by
  have hw : d.wk = true := by simp [Dk.wk, hl, hs]
  have hlf : d.lf = -1 := by simp [Dk.lf, hl]
  have hst : d.st = false := by simp [Dk.st, hl, hs]
  unfold cutD
  rw [hs, if_neg (by decide), hg]
  simp only
  rw [if_neg (by omega), if_pos hw, hlf, hst]
theorem remove_calm {d : Dk} {k : Int} {v : List Int × Int} (hl : d.left = -1) (hs : d.stop = false) (hg : fget d.fs k = some v) : removeD d k = (0, ⟨fdel d.fs k, d.room, -1, false⟩) := by
  have hw : d.wk = true := by simp [Dk.wk, hl, hs]
  have hlf : d.lf = -1 := by simp [Dk.lf, hl]
  have hst : d.st = false := by simp [Dk.st, hl, hs]
  unfold removeD
  rw [hs, if_neg (by decide), hg]
  simp only
  rw [if_pos hw, hlf, hst]
theorem getB_len5 {b rest : List Int} {n : Int} (h : getB b = some (n, rest)) : rest.length ≤ b.length := by
  unfold getB at h
  split at h
  · have := (Prod.mk.inj (Option.some.inj h)).2
    rw [← this, List.length_drop]; omega
  · cases h
theorem read_len {d : Dk} (h : DOk d) (k : Int) : (readD d k).1.length ≤ 262144 := by
  have hu : usedF d.fs ≤ 262144 := h.us
  unfold readD
  cases hg : fget d.fs k with
  | none => simp
  | some v =>
    have h2 := usedF_del hg
    simp only
    omega
theorem read_no {d : Dk} {k : Int} {b : List Int} (h : readD d k = (b, false)) : b = [] := by
  unfold readD at h
  split at h
  · exact (Prod.mk.inj h).1.symm
  · cases (Prod.mk.inj h).2
theorem read_yes {d : Dk} {k : Int} {b : List Int} (h : readD d k = (b, true)) : ∃ v, fget d.fs k = some v ∧ v.1 = b := by
  unfold readD at h
  split at h
  · cases (Prod.mk.inj h).2
  · rename_i v hv
    exact ⟨v, hv, (Prod.mk.inj h).1⟩
set_option maxRecDepth 200000 in
set_option maxHeartbeats 6400000 in
theorem open_ok : FnOkN Tryd.prog tab 25 openC := by
  refine fn_okN (E := Op_E pl25) tab_is ROp_ok JOp_ok Tryd.func25 rfl rfl (by kernel_rfl) ?_
  rintro args bs K ⟨⟨fs, room, left, stop⟩, nb, r, hd, hl, hs, hnb, hr, rfl, rfl, hK0, hK⟩
  refine ⟨rfl, [], ?_⟩
  obtain rfl : left = -1 := hl
  obtain rfl : stop = false := hs
  obtain ⟨b0, ok0, hrd0⟩ : ∃ b ok, readD ⟨fs, room, -1, false⟩ 0 = (b, ok) := ⟨_, _, rfl⟩
  have hbb0 : byteL b0 := by have := hd.by'.read 0; rw [hrd0] at this; exact this
  have hbl0 : b0.length ≤ 262144 := by have := read_len hd.ok 0; rw [hrd0] at this; exact this
  unfold openD headD at hr
  rw [hrd0] at hr
  cases ok0 with
  | false =>
    rw [if_neg (by simp)] at hr
    have hK := hK _ _ hr.symm
    refine ⟨[1000000000], [], [], 0, rfl, _, rfl, ⟨fs, room, -1, false⟩, nb, 0, b0, false, _, hd.ok, hnb, hrd0, rfl, rfl, rfl, rfl, ?_⟩
    refine ⟨fun h => Bool.noConfusion (show false = true from h), fun _ => ?_⟩
    refine ⟨[1000000000], [], [], 0, rfl, _, rfl, rfl, ⟨fs, room, -1, false⟩, nb, hd.ok, hnb, rfl, fun l hp => ⟨rfl, ?_⟩⟩
    have hnl : l.Nodup := (hp.nodup_iff).2 hd.nd
    refine ⟨fun mm st => ∃ (i : Nat), (i ≤ l.length) ∧ l.length - i = mm ∧ st.t 0 = .ptr 1000000000 0 ∧ st.t 4 = .ptr 22 0 ∧ st.t 67 = intS .fz l ∧ st.t 68 = .int .i64 ((l.map (AV.int .i64)).length : Nat) ∧ st.t 69 = .int .i64 (i : Int) ∧ st.h 1000000000 = some (dkB ⟨sweepF fs (fileN 0) (l.take i), room, -1, false⟩ nb) ∧ st.h 22 = some (.cells 82 [.ptr 1000000000 0, .int .i64 0, .sl .nl 0 [], .sl .nl 0 [], .bool false]),
      ⟨_, 0, Nat.zero_le _, rfl, rfl, rfl, rfl, rfl, rfl, (show some (dkB ⟨fs, room, -1, false⟩ nb) = some (dkB ⟨sweepF fs (fileN 0) (l.take 0), room, -1, false⟩ nb) by rw [List.take_zero, sweep_nil]), rfl⟩, ?_⟩
    rintro _ ⟨t1, h1⟩ ⟨i, hi, rfl, e0, e4, e67, e68, e69, b1000000000, b22⟩
    have e0 : t1 0 = .ptr 1000000000 0 := e0
    have e4 : t1 4 = .ptr 22 0 := e4
    have e67 : t1 67 = intS .fz l := e67
    have e68 : t1 68 = .int .i64 ((l.map (AV.int .i64)).length : Nat) := e68
    have e69 : t1 69 = .int .i64 (i : Int) := e69
    have b1000000000 : h1 1000000000 = some (dkB ⟨sweepF fs (fileN 0) (l.take i), room, -1, false⟩ nb) := b1000000000
    have b22 : h1 22 = some (.cells 82 [.ptr 1000000000 0, .int .i64 0, .sl .nl 0 [], .sl .nl 0 [], .bool false]) := b22
    rw [← updL_has t1 [(0, .ptr 1000000000 0), (4, .ptr 22 0), (67, intS .fz l), (68, .int .i64 ((l.map (AV.int .i64)).length : Nat)), (69, .int .i64 (i : Int))] ⟨e0, e4, e67, e68, e69, trivial⟩, ← updL_has h1 [(1000000000, some (dkB ⟨sweepF fs (fileN 0) (l.take i), room, -1, false⟩ nb)), (22, some (.cells 82 [.ptr 1000000000 0, .int .i64 0, .sl .nl 0 [], .sl .nl 0 [], .bool false]))] ⟨b1000000000, b22, trivial⟩]
    have hlen : l.length ≤ 3 := by rw [hp.length_eq, List.length_map]; exact hd.ok.n
    constructor
    · intro hb
      have hi' : i < l.length := by
        have : (i : Int) < ((l.map (AV.int .i64)).length : Nat) := by simpa using hb
        simp at this; omega
      have w : IntKind.i64.wrap ((i : Int) + 1) = ((i + 1 : Nat) : Int) := by rw [wrap_of] <;> omega
      have hlt : l.length - (i + 1) < l.length - i := by omega
      obtain ⟨name, hx⟩ : ∃ x, l[i]? = some x := ⟨_, List.getElem?_eq_getElem hi'⟩
      have hm := List.mem_of_getElem? hx
      refine ⟨_, Int.natCast_nonneg i, map_of hx, ?_⟩
      have hs : l.take (i + 1) = l.take i ++ [name] := by rw [List.take_add_one, hx]; rfl
      have hnt : name ∉ l.take i := by
        intro hq
        obtain ⟨j, hj, hjx⟩ := List.mem_take_iff_getElem.1 hq
        have h2 := (List.getElem?_eq_some_iff.1 hx)
        exact List.pairwise_iff_getElem.1 hnl j i (by omega) hi' (by omega) (hjx.trans h2.2.symm)
      have hin : name ∈ fs.map (·.1) := hp.mem_iff.1 hm
      have same : (name = 0 ∨ name = fileN 0) → some (dkB ⟨sweepF fs (fileN 0) (l.take i), room, -1, false⟩ nb) = some (dkB ⟨sweepF fs (fileN 0) (l.take (i + 1)), room, -1, false⟩ nb) := fun h => by rw [hs, sweep_keep h]
      refine ⟨fun h0 => ?_, fun h0 => ?_⟩
      · have h0 : name ≠ 0 := bne_iff_ne.1 h0
        refine ⟨fun h1 => ?_, fun h1 => ?_⟩
        · have h1 : name ≠ fileN 0 := bne_iff_ne.1 h1
          obtain ⟨⟨v, hv⟩, hdel⟩ := sweep_go (g := l.take i) hd.nd h0 h1 hin hnt
          refine ⟨[1000000000], [], [], 0, rfl, _, rfl, ⟨sweepF fs (fileN 0) (l.take i), room, -1, false⟩, nb, name, 0, _, _, (hd.sub (List.filter_sublist)).ok, hnb, remove_calm rfl rfl hv, erA_0, rfl, rfl, rfl, ?_⟩
          refine ⟨fun h => Bool.noConfusion (show false = true from h), fun _ => ?_⟩
          exact ⟨_, hlt, i + 1, (by omega), rfl, rfl, rfl, rfl, rfl, congrArg (AV.int .i64) w, (show some (dkB ⟨fdel (sweepF fs (fileN 0) (l.take i)) name, room, -1, false⟩ nb) = some (dkB ⟨sweepF fs (fileN 0) (l.take (i + 1)), room, -1, false⟩ nb) by rw [hs, hdel]), rfl⟩
        · have h1 : name = fileN 0 := Decidable.not_not.1 (fun hq => Bool.noConfusion ((bne_iff_ne.2 hq).symm.trans h1))
          exact ⟨_, hlt, i + 1, (by omega), rfl, rfl, rfl, rfl, rfl, congrArg (AV.int .i64) w, same (.inr h1), rfl⟩
      · have h0 : name = 0 := Decidable.not_not.1 (fun hq => Bool.noConfusion ((bne_iff_ne.2 hq).symm.trans h0))
        refine ⟨fun h => Bool.noConfusion (show false = true from h), fun _ => ?_⟩
        exact ⟨_, hlt, i + 1, (by omega), rfl, rfl, rfl, rfl, rfl, congrArg (AV.int .i64) w, same (.inl h0), rfl⟩
    · intro hb
      have hi' : i = l.length := by
        have : ¬ (i : Int) < ((l.map (AV.int .i64)).length : Nat) := by simpa using hb
        simp at this; omega
      subst hi'
      have hsw : sweepF fs (fileN 0) (l.take l.length) = keepFs fs (fileN 0) := by rw [List.take_length]; exact sweep_all hp
      rw [hsw]
      have hd1 : DG (sweepD ⟨fs, room, -1, false⟩ (fileN 0)) := hd.sub (List.filter_sublist)
      obtain ⟨b, ok, hrd⟩ : ∃ b ok, readD (sweepD ⟨fs, room, -1, false⟩ (fileN 0)) (fileN 0) = (b, ok) := ⟨_, _, rfl⟩
      obtain ⟨p, hp2⟩ : ∃ p, scanI b = p := ⟨_, rfl⟩
      have hbb : byteL b := by have := hd1.by'.read (fileN 0); rw [hrd] at this; exact this
      have hbl : b.length ≤ 262144 := by have := read_len hd1.ok (fileN 0); rw [hrd] at this; exact this
      rw [tornD, hrd, hp2] at hK
      cases ok with
      | false =>
        have hb0 : b = [] := read_no hrd
        subst hb0
        refine ⟨[1000000000], [], [], 0, rfl, _, rfl, sweepD ⟨fs, room, -1, false⟩ (fileN 0), nb, _, [], false, _, hd1.ok, hnb, hrd, rfl, rfl, rfl, rfl, ?_⟩
        refine ⟨[by8 []], ⟨.inr ⟨_, _, rfl, rfl⟩, trivial⟩, rfl, [], p, hp2, rfl, hbb, (by decide), ?_⟩
        refine ⟨fun h => Bool.noConfusion (show false = true from h), fun _ => ?_⟩
        refine ⟨fun h => Bool.noConfusion (show false = true from h), fun _ => ?_⟩
        rw [if_neg (by simp)] at hK
        exact ⟨[.emp 22 2 .fz 5, .move 22 1000000001], 2, rfl, hK⟩
      | true =>
        refine ⟨[1000000000], [], [], 0, rfl, _, rfl, sweepD ⟨fs, room, -1, false⟩ (fileN 0), nb, _, b, true, _, hd1.ok, hnb, hrd, rfl, rfl, rfl, rfl, ?_⟩
        refine ⟨[by8 b], ⟨.inl rfl, trivial⟩, rfl, b, p, hp2, rfl, hbb, (by omega), ?_⟩
        refine ⟨fun _ => ?_, fun h => Bool.noConfusion (show true = false from h)⟩
        refine ⟨fun hlt => ?_, fun hlt => ?_⟩
        · have hlt : p.2 < b.length := by
            have : ((p.2 : Nat) : Int) < ((b.map (AV.int .u8)).length : Nat) := of_decide_eq_true hlt
            rw [List.length_map] at this; omega
          rw [if_pos ⟨rfl, hlt⟩] at hK
          obtain ⟨v, hv, hv1⟩ := read_yes hrd
          have hc := cut_calm (n := (p.2 : Int)) (d := sweepD ⟨fs, room, -1, false⟩ (fileN 0)) rfl rfl hv (by omega) (by rw [hv1]; omega)
          rw [hc] at hK
          refine ⟨[1000000000], [], [], 0, rfl, _, rfl, sweepD ⟨fs, room, -1, false⟩ (fileN 0), nb, _, _, 0, _, _, hd1.ok, hnb, hc, erA_0, rfl, rfl, rfl, ?_⟩
          refine ⟨fun h => Bool.noConfusion (show false = true from h), fun _ => ?_⟩
          exact ⟨[.emp 22 2 .fz 5, .move 22 1000000001], 2, rfl, hK⟩
        · have hlt : ¬ p.2 < b.length := by
            have : ¬ ((p.2 : Nat) : Int) < ((b.map (AV.int .u8)).length : Nat) := of_decide_eq_false hlt
            rw [List.length_map] at this; omega
          rw [if_neg (by simp [hlt])] at hK
          exact ⟨[.emp 22 2 .fz 5, .move 22 1000000001], 2, rfl, hK⟩
  | true =>
    rw [if_pos rfl] at hr
    refine ⟨[1000000000], [], [], 0, rfl, _, rfl, ⟨fs, room, -1, false⟩, nb, 0, b0, true, _, hd.ok, hnb, hrd0, rfl, rfl, rfl, rfl, ?_⟩
    refine ⟨fun _ => ?_, fun h => Bool.noConfusion (show true = false from h)⟩
    cases ho : oneB b0 with
    | none =>
      refine ⟨rfl, b0, none, ho, rfl, hbb0, (by omega), ?_⟩
      simp only [ho] at hr
      have hK0 := hK0 hr.symm
      refine ⟨fun _ => ?_, fun h => Bool.noConfusion (show true = false from h)⟩
      refine ⟨fun _ => ?_, fun h => Bool.noConfusion (show true = false from h)⟩
      exact ⟨[], 1, rfl, hK0⟩
    | some q =>
      obtain ⟨x, n⟩ := q
      obtain ⟨hn1, hn2, hn3, hn4⟩ := oneB_len ho
      have hxb : byteL x := by rw [hn4]; exact fun c hc => hbb0 c (List.mem_of_mem_take (List.mem_of_mem_drop hc))
      refine ⟨rfl, b0, some (x, n), ho, rfl, hbb0, (by omega), ?_⟩
      simp only [ho] at hr
      refine ⟨fun h => Bool.noConfusion (show false = true from h), fun _ => ?_⟩
      have hlm : (((b0.map (AV.int .u8)).length : Nat) : Int) = b0.length := by rw [List.length_map]
      refine ⟨fun h => ?_, fun h => ?_⟩
      · have h : (n : Int) ≠ (((b0.map (AV.int .u8)).length : Nat) : Int) := bne_iff_ne.1 h
        rw [if_neg (by omega)] at hr
        exact ⟨[], 1, rfl, hK0 hr.symm⟩
      · have h : (n : Int) = (((b0.map (AV.int .u8)).length : Nat) : Int) := Decidable.not_not.1 (fun hq => Bool.noConfusion ((bne_iff_ne.2 hq).symm.trans h))
        rw [if_pos (by omega)] at hr
        cases hg : getB x with
        | none =>
          refine ⟨rfl, x, none, hg, rfl, hxb, (by omega), ?_⟩
          simp only [hg] at hr
          refine ⟨fun _ => ?_, fun h => Bool.noConfusion (show true = false from h)⟩
          refine ⟨fun _ => ?_, fun h => Bool.noConfusion (show true = false from h)⟩
          exact ⟨[], 1, rfl, hK0 hr.symm⟩
        | some q =>
          obtain ⟨t, rest⟩ := q
          refine ⟨rfl, x, some (t, rest), hg, rfl, hxb, (by omega), ?_⟩
          simp only [hg] at hr
          refine ⟨fun h => Bool.noConfusion (show false = true from h), fun _ => ?_⟩
          refine ⟨fun h => ?_, fun h => ?_⟩
          · have h : t < 1 := of_decide_eq_true h
            rw [if_pos h] at hr
            exact ⟨[], 1, rfl, hK0 hr.symm⟩
          · have h : ¬ t < 1 := of_decide_eq_false h
            rw [if_neg h] at hr
            have hK := hK _ _ hr.symm
            have hrl := getB_len5 hg
            refine ⟨(show (rest.map (AV.int .u8)).length * 1 ≤ 140737488355328 by rw [List.length_map]; omega), ?_⟩
            refine ⟨[1000000000], [], [], 0, rfl, _, rfl, rfl, ⟨fs, room, -1, false⟩, nb, hd.ok, hnb, rfl, fun l hp => ⟨rfl, ?_⟩⟩
            have hnl : l.Nodup := (hp.nodup_iff).2 hd.nd
            refine ⟨fun mm st => ∃ (i : Nat), (i ≤ l.length) ∧ l.length - i = mm ∧ st.t 0 = .ptr 1000000000 0 ∧ st.t 4 = .ptr 22 0 ∧ st.t 67 = intS .fz l ∧ st.t 68 = .int .i64 ((l.map (AV.int .i64)).length : Nat) ∧ st.t 69 = .int .i64 (i : Int) ∧ st.h 1000000000 = some (dkB ⟨sweepF fs (fileN t) (l.take i), room, -1, false⟩ nb) ∧ st.h 22 = some (.cells 82 [.ptr 1000000000 0, .int .i64 t, by8g (.own 61000) rest, .sl .nl 0 [], .bool false]),
              ⟨_, 0, Nat.zero_le _, rfl, rfl, rfl, rfl, rfl, rfl, (show some (dkB ⟨fs, room, -1, false⟩ nb) = some (dkB ⟨sweepF fs (fileN t) (l.take 0), room, -1, false⟩ nb) by rw [List.take_zero, sweep_nil]), rfl⟩, ?_⟩
            rintro _ ⟨t1, h1⟩ ⟨i, hi, rfl, e0, e4, e67, e68, e69, b1000000000, b22⟩
            have e0 : t1 0 = .ptr 1000000000 0 := e0
            have e4 : t1 4 = .ptr 22 0 := e4
            have e67 : t1 67 = intS .fz l := e67
            have e68 : t1 68 = .int .i64 ((l.map (AV.int .i64)).length : Nat) := e68
            have e69 : t1 69 = .int .i64 (i : Int) := e69
            have b1000000000 : h1 1000000000 = some (dkB ⟨sweepF fs (fileN t) (l.take i), room, -1, false⟩ nb) := b1000000000
            have b22 : h1 22 = some (.cells 82 [.ptr 1000000000 0, .int .i64 t, by8g (.own 61000) rest, .sl .nl 0 [], .bool false]) := b22
            rw [← updL_has t1 [(0, .ptr 1000000000 0), (4, .ptr 22 0), (67, intS .fz l), (68, .int .i64 ((l.map (AV.int .i64)).length : Nat)), (69, .int .i64 (i : Int))] ⟨e0, e4, e67, e68, e69, trivial⟩, ← updL_has h1 [(1000000000, some (dkB ⟨sweepF fs (fileN t) (l.take i), room, -1, false⟩ nb)), (22, some (.cells 82 [.ptr 1000000000 0, .int .i64 t, by8g (.own 61000) rest, .sl .nl 0 [], .bool false]))] ⟨b1000000000, b22, trivial⟩]
            have hlen : l.length ≤ 3 := by rw [hp.length_eq, List.length_map]; exact hd.ok.n
            constructor
            · intro hb
              have hi' : i < l.length := by
                have : (i : Int) < ((l.map (AV.int .i64)).length : Nat) := by simpa using hb
                simp at this; omega
              have w : IntKind.i64.wrap ((i : Int) + 1) = ((i + 1 : Nat) : Int) := by rw [wrap_of] <;> omega
              have hlt : l.length - (i + 1) < l.length - i := by omega
              obtain ⟨name, hx⟩ : ∃ x, l[i]? = some x := ⟨_, List.getElem?_eq_getElem hi'⟩
              have hm := List.mem_of_getElem? hx
              refine ⟨_, Int.natCast_nonneg i, map_of hx, ?_⟩
              have hs : l.take (i + 1) = l.take i ++ [name] := by rw [List.take_add_one, hx]; rfl
              have hnt : name ∉ l.take i := by
                intro hq
                obtain ⟨j, hj, hjx⟩ := List.mem_take_iff_getElem.1 hq
                have h2 := (List.getElem?_eq_some_iff.1 hx)
                exact List.pairwise_iff_getElem.1 hnl j i (by omega) hi' (by omega) (hjx.trans h2.2.symm)
              have hin : name ∈ fs.map (·.1) := hp.mem_iff.1 hm
              have same : (name = 0 ∨ name = fileN t) → some (dkB ⟨sweepF fs (fileN t) (l.take i), room, -1, false⟩ nb) = some (dkB ⟨sweepF fs (fileN t) (l.take (i + 1)), room, -1, false⟩ nb) := fun h => by rw [hs, sweep_keep h]
              refine ⟨fun h0 => ?_, fun h0 => ?_⟩
              · have h0 : name ≠ 0 := bne_iff_ne.1 h0
                refine ⟨fun h1 => ?_, fun h1 => ?_⟩
                · have h1 : name ≠ fileN t := bne_iff_ne.1 h1
                  obtain ⟨⟨v, hv⟩, hdel⟩ := sweep_go (g := l.take i) hd.nd h0 h1 hin hnt
                  refine ⟨[1000000000], [], [], 0, rfl, _, rfl, ⟨sweepF fs (fileN t) (l.take i), room, -1, false⟩, nb, name, 0, _, _, (hd.sub (List.filter_sublist)).ok, hnb, remove_calm rfl rfl hv, erA_0, rfl, rfl, rfl, ?_⟩
                  refine ⟨fun h => Bool.noConfusion (show false = true from h), fun _ => ?_⟩
                  exact ⟨_, hlt, i + 1, (by omega), rfl, rfl, rfl, rfl, rfl, congrArg (AV.int .i64) w, (show some (dkB ⟨fdel (sweepF fs (fileN t) (l.take i)) name, room, -1, false⟩ nb) = some (dkB ⟨sweepF fs (fileN t) (l.take (i + 1)), room, -1, false⟩ nb) by rw [hs, hdel]), rfl⟩
                · have h1 : name = fileN t := Decidable.not_not.1 (fun hq => Bool.noConfusion ((bne_iff_ne.2 hq).symm.trans h1))
                  exact ⟨_, hlt, i + 1, (by omega), rfl, rfl, rfl, rfl, rfl, congrArg (AV.int .i64) w, same (.inr h1), rfl⟩
              · have h0 : name = 0 := Decidable.not_not.1 (fun hq => Bool.noConfusion ((bne_iff_ne.2 hq).symm.trans h0))
                refine ⟨fun h => Bool.noConfusion (show false = true from h), fun _ => ?_⟩
                exact ⟨_, hlt, i + 1, (by omega), rfl, rfl, rfl, rfl, rfl, congrArg (AV.int .i64) w, same (.inl h0), rfl⟩
            · intro hb
              have hi' : i = l.length := by
                have : ¬ (i : Int) < ((l.map (AV.int .i64)).length : Nat) := by simpa using hb
                simp at this; omega
              subst hi'
              have hsw : sweepF fs (fileN t) (l.take l.length) = keepFs fs (fileN t) := by rw [List.take_length]; exact sweep_all hp
              rw [hsw]
              have hd1 : DG (sweepD ⟨fs, room, -1, false⟩ (fileN t)) := hd.sub (List.filter_sublist)
              obtain ⟨b, ok, hrd⟩ : ∃ b ok, readD (sweepD ⟨fs, room, -1, false⟩ (fileN t)) (fileN t) = (b, ok) := ⟨_, _, rfl⟩
              obtain ⟨p, hp2⟩ : ∃ p, scanI b = p := ⟨_, rfl⟩
              have hbb : byteL b := by have := hd1.by'.read (fileN t); rw [hrd] at this; exact this
              have hbl : b.length ≤ 262144 := by have := read_len hd1.ok (fileN t); rw [hrd] at this; exact this
              rw [tornD, hrd, hp2] at hK
              cases ok with
              | false =>
                have hb0 : b = [] := read_no hrd
                subst hb0
                refine ⟨[1000000000], [], [], 0, rfl, _, rfl, sweepD ⟨fs, room, -1, false⟩ (fileN t), nb, _, [], false, _, hd1.ok, hnb, hrd, rfl, rfl, rfl, rfl, ?_⟩
                refine ⟨[by8 []], ⟨.inr ⟨_, _, rfl, rfl⟩, trivial⟩, rfl, [], p, hp2, rfl, hbb, (by decide), ?_⟩
                refine ⟨fun h => Bool.noConfusion (show false = true from h), fun _ => ?_⟩
                refine ⟨fun h => Bool.noConfusion (show false = true from h), fun _ => ?_⟩
                rw [if_neg (by simp)] at hK
                exact ⟨[.frz 61000, .move 22 1000000001], 2, rfl, hK⟩
              | true =>
                refine ⟨[1000000000], [], [], 0, rfl, _, rfl, sweepD ⟨fs, room, -1, false⟩ (fileN t), nb, _, b, true, _, hd1.ok, hnb, hrd, rfl, rfl, rfl, rfl, ?_⟩
                refine ⟨[by8 b], ⟨.inl rfl, trivial⟩, rfl, b, p, hp2, rfl, hbb, (by omega), ?_⟩
                refine ⟨fun _ => ?_, fun h => Bool.noConfusion (show true = false from h)⟩
                refine ⟨fun hlt => ?_, fun hlt => ?_⟩
                · have hlt : p.2 < b.length := by
                    have : ((p.2 : Nat) : Int) < ((b.map (AV.int .u8)).length : Nat) := of_decide_eq_true hlt
                    rw [List.length_map] at this; omega
                  rw [if_pos ⟨rfl, hlt⟩] at hK
                  obtain ⟨v, hv, hv1⟩ := read_yes hrd
                  have hc := cut_calm (n := (p.2 : Int)) (d := sweepD ⟨fs, room, -1, false⟩ (fileN t)) rfl rfl hv (by omega) (by rw [hv1]; omega)
                  rw [hc] at hK
                  refine ⟨[1000000000], [], [], 0, rfl, _, rfl, sweepD ⟨fs, room, -1, false⟩ (fileN t), nb, _, _, 0, _, _, hd1.ok, hnb, hc, erA_0, rfl, rfl, rfl, ?_⟩
                  refine ⟨fun h => Bool.noConfusion (show false = true from h), fun _ => ?_⟩
                  exact ⟨[.frz 61000, .move 22 1000000001], 2, rfl, hK⟩
                · have hlt : ¬ p.2 < b.length := by
                    have : ¬ ((p.2 : Nat) : Int) < ((b.map (AV.int .u8)).length : Nat) := of_decide_eq_false hlt
                    rw [List.length_map] at this; omega
                  rw [if_neg (by simp [hlt])] at hK
                  exact ⟨[.frz 61000, .move 22 1000000001], 2, rfl, hK⟩
end Go.Proofs.YtbpcofnhndgoeaaDoor.A
