/- Journals, plain: what a journal and its disk are to each other; opened anew it is the same. -/
import Derived.Test.YtbpcofnhndgoeaaDoorJR5
namespace Go.Proofs.YtbpcofnhndgoeaaDoor.A
open Go Q
theorem fget_fset (fs : List Fil) (k : Int) (v : List Int × Int) (j : Int) : fget (fset fs k v) j = if j = k then some v else fget fs j := by
  induction fs with
  | nil => simp [fset, fget]
  | cons f fs ih =>
    obtain ⟨n, x⟩ := f
    by_cases h : k = n
    · subst h
      simp only [fset, if_true, fget]
      split <;> rfl
    · simp only [fset, if_neg h, fget, ih]
      by_cases hj : j = n
      · subst hj
        rw [if_pos rfl, if_pos rfl, if_neg (fun e => h e.symm)]
      · rw [if_neg hj, if_neg hj]
theorem fget_filter {p : Int → Bool} (fs : List Fil) (j : Int) : fget (fs.filter fun f => p f.1) j = if p j = true then fget fs j else none := by
  induction fs with
  | nil => simp [fget]
  | cons f fs ih =>
    obtain ⟨n, x⟩ := f
    by_cases hp : p n = true
    · rw [List.filter_cons_of_pos (by simpa using hp)]
      simp only [fget, ih]
      by_cases hj : j = n
      · subst hj; simp [hp]
      · simp [hj]
    · rw [List.filter_cons_of_neg (by simpa using hp), ih]
      simp only [fget]
      by_cases hj : j = n
      · subst hj; simp [hp]
      · simp [hj]
theorem fget_fdel {fs : List Fil} (h : (fs.map (·.1)).Nodup) (k j : Int) : fget (fdel fs k) j = if j = k then none else fget fs j := by
  rw [fdel_filter h, fget_filter (p := fun n => decide (n ≠ k))]
  by_cases e : j = k <;> simp [e]
theorem fget_keep (fs : List Fil) (t j : Int) : fget (keepFs fs t) j = if j = 0 ∨ j = t then fget fs j else none := by
  unfold keepFs
  rw [fget_filter (p := fun n => decide (n = 0 ∨ n = t))]
  simp
theorem fget_cut (fs : List Fil) (keep j : Int) : fget (fs.map (fcut · keep)) j = (fget fs j).map fun v => (fcut (j, v) keep).2 := by
  induction fs with
  | nil => simp [fget]
  | cons f fs ih =>
    obtain ⟨n, x⟩ := f
    rw [List.map_cons]
    show (if j = (fcut (n, x) keep).1 then some (fcut (n, x) keep).2 else fget (fs.map (fcut · keep)) j) = _
    rw [ih]
    have e : (fcut (n, x) keep).1 = n := rfl
    rw [e, fget]
    by_cases hj : j = n
    · subst hj; simp
    · rw [if_neg hj, if_neg hj]
theorem fset_mem' : ∀ {fs : List Fil} {k : Int} {v : List Int × Int} {f : Fil}, f ∈ fset fs k v → f ∈ fs ∨ f.1 = k
  | [], k, v, f, h => by
    unfold fset at h
    exact .inr (by rw [List.mem_singleton.1 h])
  | (n, x) :: fs, k, v, f, h => by
    unfold fset at h
    split at h
    · rename_i e
      rcases List.mem_cons.1 h with h | h
      · exact .inr (by rw [h]; exact e.symm)
      · exact .inl (.tail _ h)
    · rcases List.mem_cons.1 h with h | h
      · exact .inl (by rw [h]; exact .head _)
      · rcases fset_mem' h with h | h
        · exact .inl (.tail _ h)
        · exact .inr h
/-- Between what is safe and all. -/
theorem kept_in {f : Fil} (h : 0 ≤ f.2.2 ∧ f.2.2 ≤ f.2.1.length) (keep : Int) : f.2.2 ≤ keptF f keep ∧ keptF f keep ≤ f.2.1.length := by
  obtain ⟨n, x, s⟩ := f
  simp only at h
  have h1 := tmod_lt (k := keep) (m := (x.length : Int) - s + 1) (by omega)
  simp only [keptF]
  split <;> omega
theorem kept_all {n : Int} {x : List Int} (keep : Int) : keptF (n, x, x.length) keep = x.length := by
  have := kept_in (f := (n, x, (x.length : Int))) ⟨by simp, by simp⟩ keep
  simp only at this
  omega
theorem fcut_all {n : Int} {x : List Int} (keep : Int) : (fcut (n, x, (x.length : Int)) keep).2 = (x, (x.length : Int)) := by
  unfold fcut
  rw [kept_all]
  simp
/-- The snapshot's file. -/
def BaseF (turn : Int) (base : List Int) (d : Dk) : Prop := (turn = 0 ∧ base = [] ∧ fget d.fs 0 = none) ∨
  (1 ≤ turn ∧ (putI turn ++ base).length ≤ 16384 ∧ byteL base ∧ fget d.fs 0 = some (frameB (putI turn ++ base), ((frameB (putI turn ++ base)).length : Int)))
def RecsF (turn : Int) (recs : List (List Int)) (d : Dk) : Prop := (∀ r ∈ recs, r.length ≤ 16384 ∧ byteL r) ∧
  ((recs = [] ∧ fget d.fs (2 + turn) = none) ∨ fget d.fs (2 + turn) = some (frames recs, ((frames recs).length : Int)))
/-- A journal that goes on, and its disk. -/
structure JOK (m : Jn) (d : Dk) : Prop where
  dg : DG d
  run : d.stop = false
  br : m.broken = false
  t0 : 0 ≤ m.turn
  t1 : m.turn < 4611686018427387904
  base : BaseF m.turn m.base d
  recs : RecsF m.turn m.recs d
  only : ∀ f ∈ d.fs, f.1 = 0 ∨ f.1 = 2 + m.turn
  fit : (d.used : Int) ≤ d.room
theorem fileN_of {t : Int} (h0 : 0 ≤ t) (h1 : t < 4611686018427387904) : fileN t = 2 + t := wrap_of (by omega) (by omega)
theorem frame_all {b : List Int} (hl : b.length ≤ 16384) : oneB (frameB b) = some (b, (frameB b).length) := by
  have := one_frame hl []
  rw [List.append_nil] at this
  rw [this, frame_len]
theorem usedF_filter (p : Fil → Bool) (fs : List Fil) : usedF (fs.filter p) ≤ usedF fs := usedF_sub List.filter_sublist
/-- A disk that goes on is opened: the snapshot is whole, of the records some are, and what is left is none. -/
theorem open_of {d : Dk} {turn : Int} {base : List Int} {rs : List (List Int)} (hd : DG d) (hl : d.left = -1) (hs : d.stop = false) (hfit : (d.used : Int) ≤ d.room) (ht0 : 0 ≤ turn) (ht1 : turn < 4611686018427387904) (hb : BaseF turn base d)
    (hrs : ∀ r ∈ rs, r.length ≤ 16384 ∧ byteL r) (hf : (rs = [] ∧ fget d.fs (2 + turn) = none) ∨ ∃ tl s, fget d.fs (2 + turn) = some (frames rs ++ tl, s) ∧ oneB tl = none ∧ (tl = [] → s = (frames rs).length)) :
    ∃ d', openD d = some (⟨turn, base, rs, false⟩, d') ∧ JOK ⟨turn, base, rs, false⟩ d' ∧ d'.left = -1 ∧ d'.room = d.room ∧ d'.used ≤ d.used := by
  have hfile := fileN_of ht0 ht1
  have hh : headD d = some (turn, base) := by
    unfold headD readD
    rcases hb with ⟨rfl, rfl, h⟩ | ⟨h1, h2, h3, h⟩
    · rw [h]; simp
    · rw [h]
      simp only [if_true]
      rw [frame_all h2]
      simp only
      rw [if_pos trivial, get_put (by omega) (by omega)]
      simp only
      rw [if_neg (by omega)]
  have hk : ∀ j, fget (sweepD d (fileN turn)).fs j = if j = 0 ∨ j = 2 + turn then fget d.fs j else none := fun j => by
    rw [hfile]; exact fget_keep d.fs (2 + turn) j
  have hsub : DG (sweepD d (fileN turn)) := hd.sub List.filter_sublist
  have hr : readD (sweepD d (fileN turn)) (fileN turn) = readD d (2 + turn) := by
    unfold readD
    rw [hk, hfile, if_pos (.inr rfl)]
  have husd : (sweepD d (fileN turn)).used ≤ d.used := usedF_filter _ d.fs
  have husw : ((sweepD d (fileN turn)).used : Int) ≤ d.room := by
    have := usedF_filter (fun f => decide (f.1 = 0 ∨ f.1 = fileN turn)) d.fs
    simp only [Dk.used, sweepD, keepFs] at hfit ⊢
    omega
  have honly : ∀ f ∈ (sweepD d (fileN turn)).fs, f.1 = 0 ∨ f.1 = 2 + turn := fun f hf => by
    have := (List.mem_filter.1 hf).2
    rw [hfile] at this
    simpa using this
  have hbs : BaseF turn base (sweepD d (fileN turn)) := by
    unfold BaseF
    rw [hk, if_pos (.inl rfl)]
    exact hb
  unfold openD
  rw [hh]
  simp only [hr]
  rcases hf with ⟨rfl, h⟩ | ⟨tl, s, h, ho, hts⟩
  · have hrd : readD d (2 + turn) = ([], false) := by unfold readD; rw [h]
    rw [hrd]
    have hto : tornD (sweepD d (fileN turn)) (fileN turn) = sweepD d (fileN turn) := by
      unfold tornD
      rw [hr, hrd, if_neg (by simp)]
    rw [hto]
    refine ⟨_, rfl, ⟨hsub, hs, rfl, ht0, ht1, hbs, ⟨hrs, .inl ⟨rfl, ?_⟩⟩, honly, husw⟩, hl, rfl, husd⟩
    show fget (sweepD d (fileN turn)).fs (2 + turn) = none
    rw [hk, if_pos (.inr rfl), h]
  · have hrd : readD d (2 + turn) = (frames rs ++ tl, true) := by unfold readD; rw [h]
    have hsc : scanI (frames rs ++ tl) = (rs, (frames rs).length) := by
      rw [scan_frames (fun r hr => (hrs r hr).1), scan_none ho]
      simp
    rw [hrd, hsc]
    by_cases hne : tl = []
    · subst hne
      have hto : tornD (sweepD d (fileN turn)) (fileN turn) = sweepD d (fileN turn) := by
        unfold tornD
        rw [hr, hrd, hsc, if_neg (by simp)]
      rw [hto]
      refine ⟨_, rfl, ⟨hsub, hs, rfl, ht0, ht1, hbs, ⟨hrs, .inr ?_⟩, honly, husw⟩, hl, rfl, husd⟩
      show fget (sweepD d (fileN turn)).fs (2 + turn) = _
      rw [hk, if_pos (.inr rfl), h, List.append_nil, hts rfl]
    · have htl : 0 < tl.length := List.length_pos_iff.2 hne
      have hto : tornD (sweepD d (fileN turn)) (fileN turn) = ⟨fset (sweepD d (fileN turn)).fs (2 + turn) (frames rs, (frames rs).length), d.room, -1, false⟩ := by
        unfold tornD
        rw [hr, hrd, hsc, if_pos ⟨rfl, by simp only [List.length_append]; omega⟩, hfile]
        have hg : fget (sweepD d (2 + turn)).fs (2 + turn) = some (frames rs ++ tl, s) := by
          have := hk (2 + turn)
          rw [hfile] at this
          rw [this, if_pos (.inr rfl), h]
        rw [cut_calm (d := sweepD d (2 + turn)) hl hs hg (by omega) (by simp only [List.length_append]; omega)]
        simp [sweepD]
      have hcg := hsub.cut (2 + turn) (((frames rs).length : Nat) : Int)
      have hcut : (cutD (sweepD d (fileN turn)) (2 + turn) (((frames rs).length : Nat) : Int)).2 = ⟨fset (sweepD d (fileN turn)).fs (2 + turn) (frames rs, (frames rs).length), d.room, -1, false⟩ := by
        have hg : fget (sweepD d (fileN turn)).fs (2 + turn) = some (frames rs ++ tl, s) := by rw [hk, if_pos (.inr rfl), h]
        rw [cut_calm (d := sweepD d (fileN turn)) hl hs hg (by omega) (by simp only [List.length_append]; omega)]
        simp [sweepD]
      rw [hcut] at hcg
      rw [hto]
      refine ⟨_, rfl, ⟨hcg, rfl, rfl, ht0, ht1, ?_, ⟨hrs, .inr ?_⟩, fun f hf => ?_, ?_⟩, rfl, rfl, ?_⟩
      · unfold BaseF
        show _ ∨ _
        simp only [fget_fset]
        rw [if_neg (by omega)]
        exact hbs
      · show fget (fset _ _ _) _ = _
        rw [fget_fset, if_pos rfl]
      · rcases fset_mem' hf with hf | hf
        · exact honly f hf
        · exact .inr hf
      · have hg : fget (sweepD d (fileN turn)).fs (2 + turn) = some (frames rs ++ tl, s) := by rw [hk, if_pos (.inr rfl), h]
        have h2 := (usedF_put (w := (frames rs, ((frames rs).length : Int))) hg).1
        have h2 : usedF (fset (sweepD d (fileN turn)).fs (2 + turn) (frames rs, ((frames rs).length : Int))) + (frames rs ++ tl).length = usedF (sweepD d (fileN turn)).fs + (frames rs).length := h2
        rw [List.length_append] at h2
        simp only [Dk.used] at husw ⊢
        omega
      · have hg : fget (sweepD d (fileN turn)).fs (2 + turn) = some (frames rs ++ tl, s) := by rw [hk, if_pos (.inr rfl), h]
        have h2 := (usedF_put (w := (frames rs, ((frames rs).length : Int))) hg).1
        have h2 : usedF (fset (sweepD d (fileN turn)).fs (2 + turn) (frames rs, ((frames rs).length : Int))) + (frames rs ++ tl).length = usedF (sweepD d (fileN turn)).fs + (frames rs).length := h2
        rw [List.length_append] at h2
        simp only [Dk.used] at husd ⊢
        omega
end Go.Proofs.YtbpcofnhndgoeaaDoor.A
