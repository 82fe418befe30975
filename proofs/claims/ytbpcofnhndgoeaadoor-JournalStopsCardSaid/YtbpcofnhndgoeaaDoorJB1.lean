/- Disks, plain: what append and sync leave is right. -/
import Derived.Test.YtbpcofnhndgoeaaDoorJB0
namespace Go.Proofs.YtbpcofnhndgoeaaDoor.Q
theorem usedF_app : ∀ (fs : List Fil) (k : Int) (b : List Int), usedF (fset fs k (((fget fs k).getD ([], 0)).1 ++ b, ((fget fs k).getD ([], 0)).2)) = usedF fs + b.length
  | [], k, b => by simp [fset, fget, usedF]
  | (n, x) :: fs, k, b => by
    by_cases h : k = n
    · simp [fset, fget, usedF, h]; omega
    · simp only [fset, fget, if_neg h, usedF]
      rw [usedF_app fs k b]; omega
theorem lf_in {d : Dk} (h : DOk d) : -1 ≤ d.lf ∧ d.lf < 9223372036854775808 := by
  have h0 := h.l0
  have h1 := h.l1
  unfold Dk.lf
  split <;> omega
theorem DOk.append {d : Dk} {k : Int} {b : List Int} (h : DOk d) (hn : (appendD d k b).2.fs.length ≤ 3) : DOk (appendD d k b).2 := by
  unfold appendD at hn ⊢
  split
  · exact h
  · rename_i hs
    rw [if_neg hs] at hn
    split
    · exact h
    · rename_i hu
      rw [if_neg hu] at hn
      have hr := h.r1
      have hl := lf_in h
      refine ⟨?_, h.r0, h.r1, hl.1, hl.2, hn, ?_⟩
      · have := usedF_app d.fs k b
        simp only [Dk.used] at hu ⊢
        omega
      · intro f hf
        rcases fset_mem hf with hf | hf
        · exact h.safe f hf
        · rw [hf]
          cases hg : fget d.fs k with
          | none => simp
          | some v =>
            have := h.safe _ (fget_mem hg)
            simp only [Option.getD_some, List.length_append] at this ⊢
            omega
theorem usedF_set : ∀ (fs : List Fil) (k : Int) (v : List Int × Int), usedF (fset fs k v) ≤ usedF fs + v.1.length ∧ (fset fs k v).length ≤ fs.length + 1
  | [], k, v => by simp [fset, usedF]
  | (n, x) :: fs, k, v => by
    have ih := usedF_set fs k v
    by_cases h : k = n
    · simp [fset, usedF, h]; omega
    · simp only [fset, if_neg h, usedF, List.length_cons]; omega
theorem usedF_same : ∀ {fs : List Fil} {k : Int} {v : List Int × Int} (s : Int), fget fs k = some v → usedF (fset fs k (v.1, s)) = usedF fs ∧ (fset fs k (v.1, s)).length = fs.length
  | [], k, v, s, h => by cases h
  | (n, x) :: fs, k, v, s, h => by
    unfold fget at h
    by_cases e : k = n
    · rw [if_pos e] at h
      obtain rfl := Option.some.inj h
      simp [fset, usedF, e]
    · rw [if_neg e] at h
      have ih := usedF_same s h
      simp only [fset, if_neg e, usedF, List.length_cons]; omega
theorem usedF_del : ∀ {fs : List Fil} {k : Int} {v : List Int × Int}, fget fs k = some v → usedF (fdel fs k) + v.1.length = usedF fs ∧ (fdel fs k).length + 1 = fs.length
  | [], k, v, h => by cases h
  | (n, x) :: fs, k, v, h => by
    unfold fget at h
    by_cases e : k = n
    · rw [if_pos e] at h
      obtain rfl := Option.some.inj h
      simp [fdel, usedF, e]; omega
    · rw [if_neg e] at h
      have ih := usedF_del h
      simp only [fdel, if_neg e, usedF, List.length_cons]; omega
theorem DOk.works {d : Dk} (h : DOk d) : DOk (worksD d) := by
  have hl := lf_in h
  exact ⟨h.us, h.r0, h.r1, hl.1, hl.2, h.n, h.safe⟩
theorem DOk.sync {d : Dk} (h : DOk d) (k : Int) : DOk (syncD d k).2 := by
  unfold syncD
  split
  · exact h
  · cases hg : fget d.fs k with
    | none => exact h
    | some v =>
      simp only
      split
      · have hl := lf_in h
        have hu := h.us
        have hn := h.n
        obtain ⟨h1, h2⟩ := usedF_same (v.1.length : Int) hg
        refine ⟨?_, h.r0, h.r1, hl.1, hl.2, (by simp only; omega), ?_⟩
        · simp only [Dk.used] at hu ⊢; omega
        · intro f hf
          rcases fset_mem hf with hf | hf
          · exact h.safe f hf
          · rw [hf]; simp
      · exact h.works
theorem DOk.remove {d : Dk} (h : DOk d) (k : Int) : DOk (removeD d k).2 := by
  unfold removeD
  split
  · exact h
  · cases hg : fget d.fs k with
    | none => exact h
    | some v =>
      simp only
      split
      · have hl := lf_in h
        have hu := h.us
        have hn := h.n
        obtain ⟨h1, h2⟩ := usedF_del hg
        refine ⟨?_, h.r0, h.r1, hl.1, hl.2, (by simp only; omega), fun f hf => h.safe f (fdel_mem hf)⟩
        simp only [Dk.used] at hu ⊢; omega
      · exact h.works
theorem DOk.rename {d : Dk} (h : DOk d) (a b : Int) : DOk (renameD d a b).2 := by
  unfold renameD
  split
  · exact h
  · cases hg : fget d.fs a with
    | none => exact h
    | some v =>
      simp only
      split
      · have hl := lf_in h
        have hu := h.us
        have hn := h.n
        obtain ⟨h1, h2⟩ := usedF_del hg
        have h3 := usedF_set (fdel d.fs a) b v
        refine ⟨?_, h.r0, h.r1, hl.1, hl.2, (by simp only; omega), ?_⟩
        · simp only [Dk.used] at hu ⊢; omega
        · intro f hf
          rcases fset_mem hf with hf | hf
          · exact h.safe f (fdel_mem hf)
          · rw [hf]; exact h.safe _ (fget_mem hg)
      · exact h.works
theorem usedF_put : ∀ {fs : List Fil} {k : Int} {v w : List Int × Int}, fget fs k = some v → usedF (fset fs k w) + v.1.length = usedF fs + w.1.length ∧ (fset fs k w).length = fs.length
  | [], k, v, w, h => by cases h
  | (n, x) :: fs, k, v, w, h => by
    unfold fget at h
    by_cases e : k = n
    · rw [if_pos e] at h
      obtain rfl := Option.some.inj h
      simp [fset, usedF, e]; omega
    · rw [if_neg e] at h
      have ih := usedF_put (w := w) h
      simp only [fset, if_neg e, usedF, List.length_cons]; omega
theorem DOk.cut {d : Dk} (h : DOk d) (k n : Int) : DOk (cutD d k n).2 := by
  unfold cutD
  split
  · exact h
  · cases hg : fget d.fs k with
    | none => exact h
    | some v =>
      simp only
      split
      · exact h
      · rename_i hq
        split
        · have hl := lf_in h
          have hu := h.us
          have hn := h.n
          obtain ⟨h1, h2⟩ := usedF_put (w := (v.1.take n.toNat, n)) hg
          have h3 : (v.1.take n.toNat).length ≤ v.1.length := by rw [List.length_take]; omega
          refine ⟨?_, h.r0, h.r1, hl.1, hl.2, (by simp only; omega), ?_⟩
          · simp only [Dk.used] at hu ⊢
            simp only at h1
            omega
          · intro f hf
            rcases fset_mem hf with hf | hf
            · exact h.safe f hf
            · rw [hf]
              simp only [List.length_take]
              omega
        · exact h.works
theorem kept_in {f : Fil} {keep : Int} (hs : 0 ≤ f.2.2 ∧ f.2.2 ≤ f.2.1.length) : f.2.2 ≤ keptF f keep ∧ keptF f keep ≤ f.2.1.length := by
  have h1 := Int.tmod_lt_of_pos keep (show (0 : Int) < (f.2.1.length : Int) - f.2.2 + 1 by omega)
  have h2 := Int.tmod_lt_of_pos (-keep) (show (0 : Int) < (f.2.1.length : Int) - f.2.2 + 1 by omega)
  rw [Int.neg_tmod] at h2
  simp only [keptF]
  split <;> omega
theorem usedF_cut (keep : Int) : ∀ fs : List Fil, usedF (fs.map (fcut · keep)) ≤ usedF fs
  | [] => Nat.le_refl _
  | f :: fs => by
    have ih := usedF_cut keep fs
    show (f.2.1.take (keptF f keep).toNat).length + usedF (fs.map (fcut · keep)) ≤ f.2.1.length + usedF fs
    rw [List.length_take]
    omega
theorem DOk.restart {d : Dk} (h : DOk d) (keep : Int) : DOk (restartD d keep) := by
  have hu := h.us
  have hc := usedF_cut keep d.fs
  refine ⟨?_, h.r0, h.r1, (show (-1 : Int) ≤ -1 by decide), (show (-1 : Int) < 9223372036854775808 by decide), (by show (d.fs.map _).length ≤ 3; rw [List.length_map]; exact h.n), ?_⟩
  · simp only [Dk.used, restartD] at hu ⊢; omega
  · intro f hf
    obtain ⟨g, hg, rfl⟩ := List.mem_map.1 hf
    have hs := h.safe g hg
    have hk := kept_in (keep := keep) hs
    simp only [fcut, List.length_take]
    omega
end Go.Proofs.YtbpcofnhndgoeaaDoor.Q
