/- engine: a step. -/
import Derived.Test.YtjffmldlkofpaaaGreatDoorM31
namespace Go.Proofs.YtjffmldlkofpaaaGreatDoor.A
open Go Q
/-- Whatever is told of a saga's key is taken down. -/
def TellOk (s : Sta) : Prop := ∀ (k : Nat) (g : Sag), s.sags[k]? = some g → ∀ e i : Int, ∃ l, tellM s.kns g.req.key e i = .ok l
def endR (s : Sta) (k : Nat) (g : Sag) (o : Rep) : Sta × Rep := ((match tellM s.kns g.req.key o.1 o.2 with
  | .ok l => endM s k l
  | .error _ => endM s k []), o)
def stepG (s : Sta) (k : Nat) (g : Sag) (ok : Bool) : Sta × Rep :=
  if g.phase = 1 then endR (undoD s g.req) k g (g.why, 0)
  else if readyM g = true then (match settleM s g.req with
    | .ok t => endR t k g (0, 0)
    | .error x => (withS s (s.sags.set k (turnM g x)), (10, 0)))
  else (withS s (s.sags.set k (legM g ok)), (10, 0))
def stepM (s : Sta) (e : Evt) : Sta × Rep := if findG s.sags e.key < 0 then (s, (2, 0)) else match s.sags[(findG s.sags e.key).toNat]? with
  | none => (s, (0, 0))
  | some g => stepG s (findG s.sags e.key).toNat g e.ok
theorem sag_modify {l : List Sag} {i : Nat} {a : Sag} (h : l[i]? = some a) (g : AV → AV) (x : Sag) (hg : g (sagA a) = sagA x) : (l.map sagA).modify i g = (l.set i x).map sagA := by
  apply List.ext_getElem?
  intro j
  rw [List.getElem?_modify, List.getElem?_map, List.getElem?_map, List.getElem?_set]
  by_cases hj : i = j
  · subst hj
    obtain ⟨hl, he⟩ := List.getElem?_eq_some_iff.1 h
    simp [hl]
    rw [he]
    exact hg
  · simp [hj]
abbrev undoDC (args : List AV) (bs : List Box) (K : AV → List Box → Prop) : Prop := bs = [] ∧ ∃ (s : Sta) (r : Req), args = [staA s, reqA r] ∧ SzA s ∧ K (.tup [staA (undoD s r), .nilifc]) [] ∧ ∀ e, K (.tup [staA (undoD s r), errA e]) []
theorem undoD_ok : FnOk Tryz.prog tab 69 undoDC := undo_ok.mono (by
  rintro args bs K ⟨rfl, s, r, rfl, hz, h1, h2⟩
  refine ⟨rfl, s, r, rfl, hz, fun t h => ?_, fun e h => ?_⟩
  · have : undoD s r = t := by unfold undoD; rw [h]
    rw [← this]; exact h1
  · have : undoD s r = s := by unfold undoD; rw [h]
    have h2 := h2 e
    rw [this] at h2; exact h2)
abbrev stepC0 (F : Nat) (args : List AV) (bs : List Box) (K : AV → List Box → Prop) : Prop := ∃ (s : Sta) (e : Evt), bs = [machB s] ∧ args = [dk, evtA e] ∧ SzE s ∧ TellOk s ∧ K (repA (stepM s e).2.1 (stepM s e).2.2) [machB (stepM s e).1] ∧ K (repA (stepM s e).2.1 (stepM s e).2.2) [machBo F (stepM s e).1]
def RZs : Contract
  | 68 => findGC
  | 69 => undoDC
  | 71 => readyC
  | 72 => (srDC settleM)
  | 47 => numDC
  | 73 => turnC
  | 74 => legC
  | _ => fun _ _ _ => False
theorem RZs_ok : CallOk Tryz.prog tab RZs := by
  intro f args bs K h
  unfold RZs at h
  split at h
  · exact ⟨_, h, findG_ok⟩
  · exact ⟨_, h, undoD_ok⟩
  · exact ⟨_, h, ready_ok⟩
  · exact ⟨_, h, (srD settle_ok)⟩
  · exact ⟨_, h, numD_ok⟩
  · exact ⟨_, h, turn_ok⟩
  · exact ⟨_, h, leg_ok⟩
  · exact h.elim
def RZs_E (pl : Nat → Plan) : En := ⟨tab, RZs, fun _ => none, 0, pl⟩
theorem RZs_J (pl : Nat → Plan) : JOk Tryz.prog (RZs_E pl).T (RZs_E pl).J := fun _ _ h => by cases h
noncomputable def JZs : FuncId → Option StSpec
  | 70 => some (ptrJ endC)
  | _ => none
theorem JZs_ok : JOk Tryz.prog tab JZs := by
  intro f j h
  unfold JZs at h
  split at h
  · cases h; exact ptr_ok end_ok
  · cases h
noncomputable def EZs_E (pl : Nat → Plan) : En := ⟨tab, RZs, JZs, 0, pl⟩
set_option maxRecDepth 200000 in
set_option maxHeartbeats 25600000 in
theorem step_ok0 : FnOk Tryz.prog tab 38 (stepC0 90000) := by
  refine fn_ok (E := EZs_E pl38) tab_is RZs_ok JZs_ok Tryz.func38 rfl rfl (by kernel_rfl) ?_
  rintro args bs K ⟨s, e, rfl, rfl, hz, hT, hK, hK'⟩
  refine ⟨rfl, ?_⟩
  have hzz := hz.z
  have hls := hz.ls
  have h6 : s.sags.length ≤ 1000000 := by omega
  unfold stepM at hK hK'
  rcases findG_cases s.sags e.key with ⟨hf, -⟩ | ⟨k, g, hf, hg, -, -⟩
  · rw [if_pos (by rw [hf]; decide)] at hK
    have hend := hK
    repeat' first
      | (exact hend)
      | (refine ⟨rfl, s, e.key, rfl, h6, ?_⟩; rw [hf])
      | (refine ⟨fun _ => ?_, fun h => Bool.noConfusion (show true = false from h)⟩)
      | (refine ⟨fun h => Bool.noConfusion (show false = true from h), fun _ => ?_⟩)
      | (refine And.intro ?_ ?_)
  · have hkl : k < s.sags.length := (List.getElem?_eq_some_iff.1 hg).1
    have hk0 : (0 : Int) ≤ (k : Int) := Int.natCast_nonneg k
    have hng : decide ((k : Int) < 0) = false := decide_eq_false (by omega)
    have hx : (s.sags.map sagA)[((k : Int)).toNat]? = some (sagA g) := by rw [show ((k : Int)).toNat = k by omega]; exact map_of hg
    have bd1 : (s.sags.map sagA).length * 88 ≤ 140737488355328 := by rw [List.length_map]; omega
    rw [hf, if_neg (by omega), show ((k : Int)).toNat = k by omega, hg] at hK hK'
    simp only at hK hK'
    unfold stepG at hK hK'
    by_cases hp : g.phase = 1
    · rw [if_pos hp] at hK
      have hph : (g.phase == 1) = true := by rw [hp]; rfl
      obtain ⟨l, hl⟩ := hT k g hg g.why 0
      obtain ⟨u1, u2, u3, u4, u5⟩ := undo_len s g.req
      have hU : SzE (undoD s g.req) := ⟨⟨by rw [u1]; exact hz.la, by rw [u2]; exact hz.lp, by rw [u4]; exact hz.lk⟩, by rw [u3]; exact hz.ls⟩
      have hg' : (undoD s g.req).sags[k]? = some g := by rw [u3]; exact hg
      have hl' : tellM (undoD s g.req).kns g.req.key g.why 0 = .ok l := by rw [u4]; exact hl
      unfold endR at hK
      rw [hl'] at hK
      have hend := hK
      repeat' first
        | (exact hend)
        | (refine ⟨rfl, s, e.key, rfl, h6, ?_⟩; rw [hf])
        | (refine ⟨fun h => absurd (hng.symm.trans h) (by decide), fun _ => ?_⟩)
        | (refine ⟨_, hk0, hx, ?_⟩)
        | (refine ⟨fun _ => ?_, fun h => absurd (hph.symm.trans h) (by decide)⟩)
        | (refine ⟨rfl, s, g.req, rfl, hzz, ?_, fun x => ?_⟩)
        | (refine ⟨1000000000, 99, deskL (undoD s g.req), _, rfl, rfl, rfl, rfl, undoD s g.req, k, g, g.why, 0, l, rfl, rfl, hg', hU, hl', ?_⟩)
        | (refine ⟨deskL (endM (undoD s g.req) k l), rfl, rfl, rfl, ?_⟩)
        | (refine ⟨fun _ => ?_, fun h => Bool.noConfusion (show true = false from h)⟩)
        | (refine ⟨fun h => Bool.noConfusion (show false = true from h), fun _ => ?_⟩)
        | (refine And.intro ?_ ?_)
    · rw [if_neg hp] at hK hK'
      have hph : (g.phase == 1) = false := by simp [hp]
      cases hr : readyM g with
      | false =>
        rw [if_neg (by simp [hr])] at hK'
        have hend : K (repA 10 0) [.cells 99 [accsA s.accs, paysA s.pays, .sl (.own 90000) 47 ((s.sags.map sagA).modify ((k : Int)).toNat (fun x => x.ofCells (putCells x.cells 0 (sagA (legM g e.ok)).cells))), knsA s.kns, .int .i64 s.now]] := by
          rw [show ((k : Int)).toNat = k by omega, sag_modify hg _ (legM g e.ok) rfl]; exact hK'
        repeat' first
          | (exact hend)
          | (refine ⟨rfl, s, e.key, rfl, h6, ?_⟩; rw [hf])
          | (refine ⟨fun h => absurd (hng.symm.trans h) (by decide), fun _ => ?_⟩)
          | (refine ⟨_, hk0, hx, ?_⟩)
          | (refine ⟨fun h => absurd (hph.symm.trans h) (by decide), fun _ => ?_⟩)
          | (refine ⟨rfl, g, rfl, ?_⟩; rw [hr])
          | (refine ⟨rfl, g, e.ok, rfl, ?_⟩)
          | (refine ⟨bd1, ?_⟩)
          | (refine ⟨fun _ => ?_, fun h => Bool.noConfusion (show true = false from h)⟩)
          | (refine ⟨fun h => Bool.noConfusion (show false = true from h), fun _ => ?_⟩)
          | (refine And.intro ?_ ?_)
      | true =>
        rw [if_pos hr] at hK hK'
        cases hs : settleM s g.req with
        | ok t =>
          simp only [hs] at hK
          obtain ⟨l, hl⟩ := hT k g hg 0 0
          obtain ⟨u1, u2, u3, u4, u5⟩ := settle_len hs
          have hU : SzE t := ⟨⟨by rw [u1]; exact hz.la, by rw [u2]; exact hz.lp, by rw [u4]; exact hz.lk⟩, by rw [u3]; exact hz.ls⟩
          have hg' : t.sags[k]? = some g := by rw [u3]; exact hg
          have hl' : tellM t.kns g.req.key 0 0 = .ok l := by rw [u4]; exact hl
          unfold endR at hK
          rw [hl'] at hK
          have hend := hK
          repeat' first
            | (exact hend)
            | (refine ⟨rfl, s, e.key, rfl, h6, ?_⟩; rw [hf])
            | (refine ⟨fun h => absurd (hng.symm.trans h) (by decide), fun _ => ?_⟩)
            | (refine ⟨_, hk0, hx, ?_⟩)
            | (refine ⟨fun h => absurd (hph.symm.trans h) (by decide), fun _ => ?_⟩)
            | (refine ⟨rfl, g, rfl, ?_⟩; rw [hr])
            | (refine ⟨rfl, s, g.req, rfl, hzz, .inl ⟨t, hs, ?_⟩⟩)
            | (refine ⟨1000000000, 99, deskL t, _, rfl, rfl, rfl, rfl, t, k, g, 0, 0, l, rfl, rfl, hg', hU, hl', ?_⟩)
            | (refine ⟨deskL (endM t k l), rfl, rfl, rfl, ?_⟩)
            | (refine ⟨fun _ => ?_, fun h => Bool.noConfusion (show true = false from h)⟩)
            | (refine ⟨fun h => Bool.noConfusion (show false = true from h), fun _ => ?_⟩)
            | (refine And.intro ?_ ?_)
        | error x =>
          simp only [hs] at hK'
          have hend : K (repA 10 0) [.cells 99 [accsA s.accs, paysA s.pays, .sl (.own 90000) 47 ((s.sags.map sagA).modify ((k : Int)).toNat (fun y => y.ofCells (putCells y.cells 0 (sagA (turnM g x)).cells))), knsA s.kns, .int .i64 s.now]] := by
            rw [show ((k : Int)).toNat = k by omega, sag_modify hg _ (turnM g x) rfl]; exact hK'
          repeat' first
            | (exact hend)
            | (refine ⟨rfl, s, e.key, rfl, h6, ?_⟩; rw [hf])
            | (refine ⟨fun h => absurd (hng.symm.trans h) (by decide), fun _ => ?_⟩)
            | (refine ⟨_, hk0, hx, ?_⟩)
            | (refine ⟨fun h => absurd (hph.symm.trans h) (by decide), fun _ => ?_⟩)
            | (refine ⟨rfl, g, rfl, ?_⟩; rw [hr])
            | (refine ⟨rfl, s, g.req, rfl, hzz, .inr ⟨x, hs, ?_⟩⟩)
            | (refine ⟨rfl, x, rfl, ?_⟩)
            | (refine ⟨rfl, g, x, rfl, ?_⟩)
            | (refine ⟨bd1, ?_⟩)
            | (refine ⟨fun _ => ?_, fun h => Bool.noConfusion (show true = false from h)⟩)
            | (refine ⟨fun h => Bool.noConfusion (show false = true from h), fun _ => ?_⟩)
            | (refine And.intro ?_ ?_)
abbrev stepC (args : List AV) (bs : List Box) (K : AV → List Box → Prop) : Prop := ∃ (s : Sta) (e : Evt), bs = [machB s] ∧ args = [dk, evtA e] ∧ SzE s ∧ TellOk s ∧ K (repA (stepM s e).2.1 (stepM s e).2.2) [machB (stepM s e).1]
theorem step_ok : FnOk Tryz.prog tab 38 stepC := step_ok0.frzB.mono (by
  rintro args bs K ⟨s, e, rfl, rfl, hz, hT, hK⟩
  exact ⟨s, e, rfl, rfl, hz, hT, ⟨[90000], _, _, rfl, rfl, hK⟩, ⟨[90000], _, _, rfl, rfl, hK⟩⟩)
end Go.Proofs.YtjffmldlkofpaaaGreatDoor.A
