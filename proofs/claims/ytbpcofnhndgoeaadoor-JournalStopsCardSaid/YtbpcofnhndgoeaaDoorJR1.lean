/- Journals: put. -/
import Derived.Test.YtbpcofnhndgoeaaDoorJR0
namespace Go.Proofs.YtbpcofnhndgoeaaDoor.A
open Go Q
def appendC2 (args : List AV) (bs : List Box) (K : Kon) : Prop := ∃ d nb k b e d' v, DOk d ∧ 2000000000 ≤ nb ∧ b.length ≤ 4611686018427387904 ∧ appendD d k b = (e, d') ∧ d'.fs.length ≤ 3 ∧ erA e = v ∧ args = [.ptr 1000000000 0, .int .i64 k, by8 b] ∧ bs = [dkB d nb] ∧ K v [dkB d' nb]
theorem append_ok2 : FnOkN Tryd.prog tab 12 appendC2 := append_ok1.mono fun args bs K ⟨d, nb, k, b, e, d', v, h1, h2, h3, h4, h5, hv, h6, h7, h8⟩ => ⟨d, nb, k, b, e, d', h1, h2, h3, h4, h5, h6, h7, by rw [hv]; exact h8⟩
def dk1C2 (F : Dk → Int → Int × Dk) (args : List AV) (bs : List Box) (K : Kon) : Prop := ∃ d nb k e d' v, DOk d ∧ 2000000000 ≤ nb ∧ F d k = (e, d') ∧ erA e = v ∧ args = [.ptr 1000000000 0, .int .i64 k] ∧ bs = [dkB d nb] ∧ K v [dkB d' nb]
theorem dk1_mono2 {f : FuncId} {F : Dk → Int → Int × Dk} (h : FnOkN Tryd.prog tab f (dk1C1 F)) : FnOkN Tryd.prog tab f (dk1C2 F) := h.mono fun args bs K ⟨d, nb, k, e, d', v, h1, h2, h3, hv, h4, h5, h6⟩ => ⟨d, nb, k, e, d', h1, h2, h3, h4, h5, by rw [hv]; exact h6⟩
noncomputable def JPt : FuncId → Option StSpec
  | 12 => some (frzJ (liftJ (nilC appendC2)))
  | 13 => some (liftJ (dk1C2 syncD))
  | 47 => some (liftJ failC)
  | _ => none
theorem JPt_ok : JOk Tryd.prog tab JPt := by
  intro f j h
  unfold JPt at h
  split at h
  · cases h; exact frz_ok (lift_ok append_ok2.nil)
  · cases h; exact lift_ok (dk1_mono2 (dk1_mono sync_ok))
  · cases h; exact lift_ok fail_ok
  · cases h
noncomputable def JPt_E (pl : Nat → Plan) : En := ⟨tab, fun _ _ _ _ => False, JPt, 0, pl⟩
/-- What put does, plain: the error, the journal, the disk. -/
def putJ (m : Jn) (d : Dk) (k : Int) (b : List Int) : Int × Jn × Dk :=
  if (appendD d k b).1 = 0 then ((syncD (appendD d k b).2 k).1, failJ m (syncD (appendD d k b).2 k).1, (syncD (appendD d k b).2 k).2)
  else ((appendD d k b).1, failJ m (appendD d k b).1, (appendD d k b).2)
def putJC (args : List AV) (bs : List Box) (K : Kon) : Prop := ∃ m d nb k b e m' d' v, DOk d ∧ 2000000000 ≤ nb ∧ b.length ≤ 4611686018427387904 ∧ DOk (appendD d k b).2 ∧ putJ m d k b = (e, m', d') ∧ erA e = v ∧ args = [.ptr 1000000000 0, .int .i64 k, by8 b] ∧ bs = [jB m, dkB d nb] ∧ K v [jB m', dkB d' nb]
set_option maxRecDepth 200000 in
theorem putJ_ok : FnOkN Tryd.prog tab 46 putJC := by
  refine fn_okN (E := JPt_E pl46) tab_is (fun _ _ _ _ h => h.elim) JPt_ok Tryd.func46 rfl rfl (by kernel_rfl) ?_
  rintro args bs K ⟨⟨turn, base, recs, broken⟩, d, nb, k, b, e, m', d', v, hd, hnb, hb, hd1, hp, hv, rfl, rfl, hK⟩
  refine ⟨rfl, [], ?_⟩
  obtain ⟨e1, d1, h1⟩ : ∃ e1 d1, appendD d k b = (e1, d1) := ⟨_, _, rfl⟩
  rw [h1] at hd1
  unfold putJ at hp
  rw [h1] at hp
  by_cases h0 : e1 = 0
  · subst h0
    rw [if_pos rfl] at hp
    obtain ⟨e2, d2, h2⟩ : ∃ e2 d2, syncD d1 k = (e2, d2) := ⟨_, _, rfl⟩
    simp only [h2, Prod.mk.injEq] at hp
    obtain ⟨rfl, hm, rfl⟩ := hp
    by_cases h20 : e2 = 0
    · subst h20
      rw [failJ, if_neg (by decide)] at hm
      subst hm
      obtain rfl : v = .nilifc := hv.symm
      refine ⟨[1000000001], [], [], 0, rfl, _, rfl, [.ptr 1000000000 0, .int .i64 k, by8 b], ⟨.inl rfl, .inl rfl, .inl rfl, trivial⟩, d, nb, k, b, 0, d1, .nilifc, hd, hnb, hb, h1, hd1.n, rfl, rfl, rfl, rfl, ?_⟩
      refine ⟨fun h => Bool.noConfusion (show false = true from h), fun _ => ?_⟩
      refine ⟨[1000000001], [], [], 0, rfl, _, rfl, d1, nb, k, 0, d2, _, hd1, hnb, h2, rfl, rfl, rfl, rfl, ?_⟩
      refine ⟨[1000000000, 1000000001], [900000000], [], 900000000, rfl, _, rfl, _, d2, nb, 0, _, _, rfl, rfl, rfl, rfl, rfl, ?_⟩
      exact ⟨[], 2, rfl, hK⟩
    · rw [erA_n h20] at hv
      subst hv
      by_cases h12 : e2 = 12
      · rw [failJ, if_pos h12] at hm
        subst hm
        refine ⟨[1000000001], [], [], 0, rfl, _, rfl, [.ptr 1000000000 0, .int .i64 k, by8 b], ⟨.inl rfl, .inl rfl, .inl rfl, trivial⟩, d, nb, k, b, 0, d1, .nilifc, hd, hnb, hb, h1, hd1.n, rfl, rfl, rfl, rfl, ?_⟩
        refine ⟨fun h => Bool.noConfusion (show false = true from h), fun _ => ?_⟩
        refine ⟨[1000000001], [], [], 0, rfl, _, rfl, d1, nb, k, e2, d2, _, hd1, hnb, h2, erA_n h20, rfl, rfl, rfl, ?_⟩
        refine ⟨[1000000000, 1000000001], [900000000], [], 900000000, rfl, _, rfl, _, d2, nb, e2, _, _, if_pos h12, erA_n h20, rfl, rfl, rfl, ?_⟩
        exact ⟨[], 2, rfl, hK⟩
      · rw [failJ, if_neg h12] at hm
        subst hm
        refine ⟨[1000000001], [], [], 0, rfl, _, rfl, [.ptr 1000000000 0, .int .i64 k, by8 b], ⟨.inl rfl, .inl rfl, .inl rfl, trivial⟩, d, nb, k, b, 0, d1, .nilifc, hd, hnb, hb, h1, hd1.n, rfl, rfl, rfl, rfl, ?_⟩
        refine ⟨fun h => Bool.noConfusion (show false = true from h), fun _ => ?_⟩
        refine ⟨[1000000001], [], [], 0, rfl, _, rfl, d1, nb, k, e2, d2, _, hd1, hnb, h2, erA_n h20, rfl, rfl, rfl, ?_⟩
        refine ⟨[1000000000, 1000000001], [900000000], [], 900000000, rfl, _, rfl, _, d2, nb, e2, _, _, if_neg h12, erA_n h20, rfl, rfl, rfl, ?_⟩
        exact ⟨[], 2, rfl, hK⟩
  · rw [if_neg h0] at hp
    simp only [Prod.mk.injEq] at hp
    obtain ⟨rfl, hm, rfl⟩ := hp
    rw [erA_n h0] at hv
    subst hv
    by_cases h12 : e1 = 12
    · rw [failJ, if_pos h12] at hm
      subst hm
      refine ⟨[1000000001], [], [], 0, rfl, _, rfl, [.ptr 1000000000 0, .int .i64 k, by8 b], ⟨.inl rfl, .inl rfl, .inl rfl, trivial⟩, d, nb, k, b, e1, d1, _, hd, hnb, hb, h1, hd1.n, erA_n h0, rfl, rfl, rfl, ?_⟩
      refine ⟨fun _ => ?_, fun h => Bool.noConfusion (show true = false from h)⟩
      refine ⟨[1000000000, 1000000001], [900000000], [], 900000000, rfl, _, rfl, _, d1, nb, e1, _, _, if_pos h12, erA_n h0, rfl, rfl, rfl, ?_⟩
      exact ⟨[], 2, rfl, hK⟩
    · rw [failJ, if_neg h12] at hm
      subst hm
      refine ⟨[1000000001], [], [], 0, rfl, _, rfl, [.ptr 1000000000 0, .int .i64 k, by8 b], ⟨.inl rfl, .inl rfl, .inl rfl, trivial⟩, d, nb, k, b, e1, d1, _, hd, hnb, hb, h1, hd1.n, erA_n h0, rfl, rfl, rfl, ?_⟩
      refine ⟨fun _ => ?_, fun h => Bool.noConfusion (show true = false from h)⟩
      refine ⟨[1000000000, 1000000001], [900000000], [], 900000000, rfl, _, rfl, _, d1, nb, e1, _, _, if_neg h12, erA_n h0, rfl, rfl, rfl, ?_⟩
      exact ⟨[], 2, rfl, hK⟩
end Go.Proofs.YtbpcofnhndgoeaaDoor.A
