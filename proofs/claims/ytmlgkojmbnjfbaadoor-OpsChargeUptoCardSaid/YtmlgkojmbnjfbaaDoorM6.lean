/- ops: back, refund, charge, by, Do. -/
import Derived.Test.YtmlgkojmbnjfbaaDoorM5
namespace Go.Proofs.YtmlgkojmbnjfbaaDoor.A
open Go Q
def backD (s : Sta) (p : Pay) (n : Int) : Except Int (List Ent) := match moveM s.accs p.src p.dst n with
  | .ok es => .ok (backM es)
  | .error e => .error e
theorem move_some {al : List Acc} {x y n : Int} {es : List Ent} (h : moveM al x y n = .ok es) : ∃ e l, backM es = e :: l := by
  unfold moveM at h
  repeat' split at h
  all_goals first | (cases h; done) | (cases h; exact ⟨_, _, rfl⟩)
theorem backD_some {s : Sta} {p : Pay} {n : Int} {es : List Ent} (h : backD s p n = .ok es) : ∃ e l, es = e :: l := by
  unfold backD at h
  split at h
  · rename_i q hq
    cases h
    exact move_some hq
  · cases h
def backDC (args : List AV) (bs : List Box) (K : AV → List Box → Prop) : Prop := ∃ (s : Sta) (p : Pay) (n : Int), bs = [deskB s] ∧ args = [dk, payA p, .int .i64 n] ∧
  (∀ es, backD s p n = .ok es → K (.tup [entsS (.own 25000) es, .nilifc]) [deskB s]) ∧ ∀ e, backD s p n = .error e → K (.tup [.sl .nl 0 [], errA e]) [deskB s]
def RBk : Contract
  | 29 => moveC
  | 35 => nilC backC
  | _ => fun _ _ _ => False
theorem RBk_ok : CallOk Tryd.prog tab RBk := by
  intro f args bs K h
  unfold RBk at h
  split at h
  · exact ⟨_, h, move_ok⟩
  · exact ⟨_, h, back_ok.nil⟩
  · exact h.elim
def RBk_E (pl : Nat → Plan) : En := ⟨tab, RBk, fun _ => none, 0, pl⟩
theorem RBk_J (pl : Nat → Plan) : JOk Tryd.prog (RBk_E pl).T (RBk_E pl).J := fun _ _ h => by cases h
set_option maxRecDepth 200000 in
set_option maxHeartbeats 3200000 in
theorem backD_ok : FnOk Tryd.prog tab 67 backDC := by
  refine fn_ok (E := RBk_E pl67) tab_is RBk_ok (RBk_J _) Tryd.func67 rfl rfl (by kernel_rfl) ?_
  rintro args bs K ⟨s, p, n, rfl, rfl, hok, her⟩
  refine ⟨rfl, ?_⟩
  unfold backD at hok her
  refine ⟨rfl, s.accs, p.src, p.dst, n, rfl, fun es hm => ?_, fun e hm => ?_⟩
  · simp only [hm] at hok
    have hle := move_len hm
    obtain ⟨e, l, hel⟩ := move_some hm
    have hend := hok _ rfl
    rw [hel] at hend
    refine ⟨[entsA es], ⟨.inl rfl, trivial⟩, rfl, es, rfl, by omega, ?_⟩
    rw [hel]
    exact hend
  · simp only [hm] at her
    have hend := her e rfl
    refine ⟨[entsA []], ⟨.inr ⟨_, _, rfl, rfl⟩, trivial⟩, rfl, [], rfl, by simp, ?_⟩
    exact hend
/-! ### refund -/
def refundM (s : Sta) (r : Req) : Sta × Rep := match bothM s r with
  | .error e => (s, e, 0)
  | .ok pq => match backD s pq.1 r.amt with
    | .error e => (s, e, 0)
    | .ok es => payD s r.a pq.2 (postM s.accs es)
theorem backD_len {s : Sta} {p : Pay} {n : Int} {es : List Ent} (h : backD s p n = .ok es) : es.length ≤ 4 := by
  unfold backD at h
  split at h
  · rename_i q hq
    cases h
    rw [backM_len]; exact move_len hq
  · cases h
noncomputable def JRe : FuncId → Option StSpec
  | 64 => some (frzJ (ptrJ bothC))
  | 66 => some (frzJ (ptrJ (payDC0 deskB)))
  | 67 => some (ptrO 600000 backDC)
  | _ => none
theorem JRe_ok : JOk Tryd.prog tab JRe := by
  intro f j h
  unfold JRe at h
  split at h
  · cases h; exact frz_ok (ptr_ok both_ok)
  · cases h; exact frz_ok (ptr_ok payD_ok)
  · cases h; exact ptrO_ok 600000 backD_ok
  · cases h
def RRe : Contract
  | 65 => numbC
  | 31 => postC
  | _ => fun _ _ _ => False
theorem RRe_ok : CallOk Tryd.prog tab RRe := by
  intro f args bs K h
  unfold RRe at h
  split at h
  · exact ⟨_, h, numb_ok⟩
  · exact ⟨_, h, post_ok⟩
  · exact h.elim
def RRe_E (pl : Nat → Plan) : En := ⟨tab, RRe, fun _ => none, 0, pl⟩
theorem RRe_J (pl : Nat → Plan) : JOk Tryd.prog (RRe_E pl).T (RRe_E pl).J := fun _ _ h => by cases h
noncomputable def ERe_E (pl : Nat → Plan) : En := ⟨tab, RRe, JRe, 0, pl⟩
set_option maxRecDepth 200000 in
set_option maxHeartbeats 3200000 in
theorem refund_ok : FnOk Tryd.prog tab 48 (deskC refundM) := by
  refine fn_ok (E := ERe_E pl48) tab_is RRe_ok JRe_ok Tryd.func48 rfl rfl (by kernel_rfl) ?_
  rintro args bs K ⟨s, r, rfl, rfl, hz, hK⟩
  refine ⟨rfl, ?_⟩
  have hl := hz.la
  unfold refundM at hK
  refine ⟨1000000000, 81, deskL s, _, rfl, rfl, rfl, rfl, s, r, rfl, rfl, fun p q hb => ⟨deskL s, rfl, rfl, rfl, ?_⟩, fun p e hb => ⟨deskL s, rfl, rfl, rfl, ?_⟩⟩
  · simp only [hb] at hK
    obtain ⟨a0, a1, -⟩ := both_in hb
    refine ⟨fun h => Bool.noConfusion (show false = true from h), fun _ => ?_⟩
    refine ⟨1000000000, 81, deskL s, _, rfl, rfl, rfl, rfl, s, p, r.amt, rfl, rfl, fun es hm => ⟨deskL s, rfl, rfl, rfl, ?_⟩, fun e hm => ⟨deskL s, rfl, rfl, rfl, ?_⟩⟩
    · simp only [hm] at hK
      have hle := backD_len hm
      refine ⟨fun h => Bool.noConfusion (show false = true from h), fun _ => ?_⟩
      refine ⟨rfl, s.accs, es, rfl, by omega, by omega, fun l hs => ?_, fun e hs => ?_⟩
      · simp only [hs, payD] at hK
        exact ⟨1000000000, 81, deskL s, _, rfl, rfl, rfl, rfl, s, r.a, q, rfl, hz, .inl ⟨l, rfl, a0, a1, ⟨deskL (withP (withA s l) (s.pays.set r.a.toNat q)), rfl, rfl, rfl, hK⟩⟩⟩
      · simp only [hs, payD] at hK
        exact ⟨1000000000, 81, deskL s, _, rfl, rfl, rfl, rfl, s, r.a, q, rfl, hz, .inr ⟨e, rfl, ⟨deskL s, rfl, rfl, rfl, hK⟩⟩⟩
    · simp only [hm] at hK
      refine ⟨fun _ => ?_, fun h => Bool.noConfusion (show true = false from h)⟩
      exact ⟨rfl, .inr ⟨e, rfl, hK⟩⟩
  · simp only [hb] at hK
    refine ⟨fun _ => ?_, fun h => Bool.noConfusion (show true = false from h)⟩
    exact ⟨rfl, .inr ⟨e, rfl, hK⟩⟩
/-! ### charge -/
/-- The seller's part, and the house's. -/
def lackE (s : Sta) (p : Pay) : List Ent → List Ent
  | [] => []
  | e :: es => if w64 (w64 (0 - e.amt) - freeN (accAt s.accs p.dst)) > 0 then ⟨e.acct, w64 (e.amt + w64 (w64 (0 - e.amt) - freeN (accAt s.accs p.dst)))⟩ :: (es ++ [⟨numK 2 (accAt s.accs p.dst).cur, w64 (0 - w64 (w64 (0 - e.amt) - freeN (accAt s.accs p.dst)))⟩]) else e :: es
theorem lackE_cons (s : Sta) (p : Pay) (e : Ent) (es : List Ent) : lackE s p (e :: es) = if w64 (w64 (0 - e.amt) - freeN (accAt s.accs p.dst)) > 0 then ⟨e.acct, w64 (e.amt + w64 (w64 (0 - e.amt) - freeN (accAt s.accs p.dst)))⟩ :: (es ++ [⟨numK 2 (accAt s.accs p.dst).cur, w64 (0 - w64 (w64 (0 - e.amt) - freeN (accAt s.accs p.dst)))⟩]) else e :: es := rfl
def chargeM (s : Sta) (r : Req) : Sta × Rep := match bothM s r with
  | .error e => (s, e, 0)
  | .ok pq => match backD s pq.1 r.amt with
    | .error e => (s, e, 0)
    | .ok es => payD s r.a pq.2 (postM s.accs (lackE s pq.1 es))
theorem move_in {al : List Acc} {x y n : Int} {es : List Ent} (h : moveM al x y n = .ok es) : (0 ≤ x ∧ x < al.length) ∧ (0 ≤ y ∧ y < al.length) := by
  unfold moveM at h
  split at h
  · cases h
  · rename_i hn
    exact ⟨of_true (by simpa using fun h => hn (.inl h)), of_true (by simpa using fun h => hn (.inr h))⟩
theorem backD_in {s : Sta} {p : Pay} {n : Int} {es : List Ent} (h : backD s p n = .ok es) : (0 ≤ p.src ∧ p.src < s.accs.length) ∧ (0 ≤ p.dst ∧ p.dst < s.accs.length) := by
  unfold backD at h
  split at h
  · rename_i q hq; exact move_in hq
  · cases h
def RCh : Contract
  | 65 => numbC
  | 31 => postC
  | 14 => freeC
  | 51 => numKC
  | _ => fun _ _ _ => False
theorem RCh_ok : CallOk Tryd.prog tab RCh := by
  intro f args bs K h
  unfold RCh at h
  split at h
  · exact ⟨_, h, numb_ok⟩
  · exact ⟨_, h, post_ok⟩
  · exact ⟨_, h, free_ok⟩
  · exact ⟨_, h, numK_ok⟩
  · exact h.elim
def RCh_E (pl : Nat → Plan) : En := ⟨tab, RCh, fun _ => none, 0, pl⟩
theorem RCh_J (pl : Nat → Plan) : JOk Tryd.prog (RCh_E pl).T (RCh_E pl).J := fun _ _ h => by cases h
noncomputable def ECh_E (pl : Nat → Plan) : En := ⟨tab, RCh, JRe, 0, pl⟩
set_option maxRecDepth 200000 in
set_option maxHeartbeats 6400000 in
theorem charge_ok : FnOk Tryd.prog tab 49 (deskC chargeM) := by
  refine fn_ok (E := ECh_E pl49) tab_is RCh_ok JRe_ok Tryd.func49 rfl rfl (by kernel_rfl) ?_
  rintro args bs K ⟨s, r, rfl, rfl, hz, hK⟩
  refine ⟨rfl, ?_⟩
  have hl := hz.la
  unfold chargeM at hK
  refine ⟨1000000000, 81, deskL s, _, rfl, rfl, rfl, rfl, s, r, rfl, rfl, fun p q hb => ⟨deskL s, rfl, rfl, rfl, ?_⟩, fun p e hb => ⟨deskL s, rfl, rfl, rfl, ?_⟩⟩
  · simp only [hb] at hK
    obtain ⟨a0, a1, -⟩ := both_in hb
    refine ⟨fun h => Bool.noConfusion (show false = true from h), fun _ => ?_⟩
    refine ⟨1000000000, 81, deskL s, _, rfl, rfl, rfl, rfl, s, p, r.amt, rfl, rfl, fun es hm => ⟨deskL s, rfl, rfl, rfl, ?_⟩, fun e hm => ⟨deskL s, rfl, rfl, rfl, ?_⟩⟩
    · simp only [hm] at hK
      have hle := backD_len hm
      obtain ⟨-, d0, d1⟩ := backD_in hm
      obtain ⟨e1, el, rfl⟩ := backD_some hm
      obtain ⟨a, ha⟩ : ∃ a, s.accs[p.dst.toNat]? = some a := ⟨_, List.getElem?_eq_getElem (by omega)⟩
      rw [lackE_cons, accAt_of ha] at hK
      refine ⟨fun h => Bool.noConfusion (show false = true from h), fun _ => ?_⟩
      refine ⟨_, d0, map_of ha, ?_⟩
      refine ⟨_, Int.le_refl 0, rfl, ?_⟩
      refine ⟨rfl, a, rfl, ?_⟩
      refine ⟨fun hg => ?_, fun hg => ?_⟩
      · have hg : w64 (w64 (0 - e1.amt) - freeN a) > 0 := of_decide_eq_true hg
        rw [if_pos hg] at hK
        refine ⟨_, Int.le_refl 0, rfl, ?_⟩
        refine ⟨_, Int.le_refl 0, rfl, ?_⟩
        refine ⟨rfl, 2, a.cur, rfl, ?_⟩
        have bd : ((el.map entA).length + 1 + 1) * 16 ≤ 140737488355328 := by rw [List.length_map]; simp at hle; omega
        refine ⟨bd, ?_⟩
        have hel : (entA ⟨e1.acct, w64 (e1.amt + w64 (w64 (0 - e1.amt) - freeN a))⟩ :: el.map entA) ++ [entA ⟨numK 2 a.cur, w64 (0 - w64 (w64 (0 - e1.amt) - freeN a))⟩] = ((⟨e1.acct, w64 (e1.amt + w64 (w64 (0 - e1.amt) - freeN a))⟩ : Ent) :: (el ++ [⟨numK 2 a.cur, w64 (0 - w64 (w64 (0 - e1.amt) - freeN a))⟩])).map entA := by simp
        refine ⟨rfl, s.accs, ⟨e1.acct, w64 (e1.amt + w64 (w64 (0 - e1.amt) - freeN a))⟩ :: (el ++ [⟨numK 2 a.cur, w64 (0 - w64 (w64 (0 - e1.amt) - freeN a))⟩]), ?_, by omega, by simp at hle ⊢; omega, fun l hs => ?_, fun e hs => ?_⟩
        · exact congrArg (fun x => [accsA s.accs, AV.sl .fz 93 x]) hel
        · simp only [hs, payD] at hK
          exact ⟨1000000000, 81, deskL s, _, rfl, rfl, rfl, rfl, s, r.a, q, rfl, hz, .inl ⟨l, rfl, a0, a1, ⟨deskL (withP (withA s l) (s.pays.set r.a.toNat q)), rfl, rfl, rfl, hK⟩⟩⟩
        · simp only [hs, payD] at hK
          exact ⟨1000000000, 81, deskL s, _, rfl, rfl, rfl, rfl, s, r.a, q, rfl, hz, .inr ⟨e, rfl, ⟨deskL s, rfl, rfl, rfl, hK⟩⟩⟩
      · have hg : ¬ w64 (w64 (0 - e1.amt) - freeN a) > 0 := of_decide_eq_false hg
        rw [if_neg hg] at hK
        refine ⟨rfl, s.accs, e1 :: el, rfl, by omega, by omega, fun l hs => ?_, fun e hs => ?_⟩
        · simp only [hs, payD] at hK
          exact ⟨1000000000, 81, deskL s, _, rfl, rfl, rfl, rfl, s, r.a, q, rfl, hz, .inl ⟨l, rfl, a0, a1, ⟨deskL (withP (withA s l) (s.pays.set r.a.toNat q)), rfl, rfl, rfl, hK⟩⟩⟩
        · simp only [hs, payD] at hK
          exact ⟨1000000000, 81, deskL s, _, rfl, rfl, rfl, rfl, s, r.a, q, rfl, hz, .inr ⟨e, rfl, ⟨deskL s, rfl, rfl, rfl, hK⟩⟩⟩
    · simp only [hm] at hK
      refine ⟨fun _ => ?_, fun h => Bool.noConfusion (show true = false from h)⟩
      exact ⟨rfl, .inr ⟨e, rfl, hK⟩⟩
  · simp only [hb] at hK
    refine ⟨fun _ => ?_, fun h => Bool.noConfusion (show true = false from h)⟩
    exact ⟨rfl, .inr ⟨e, rfl, hK⟩⟩
end Go.Proofs.YtmlgkojmbnjfbaaDoor.A
