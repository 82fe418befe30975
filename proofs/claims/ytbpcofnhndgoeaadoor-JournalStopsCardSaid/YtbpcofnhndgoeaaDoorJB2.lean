/- Disks, plain: names are told once; what is right of a disk; files that are swept away. -/
import Derived.Test.YtbpcofnhndgoeaaDoorJB1
namespace Go.Proofs.YtbpcofnhndgoeaaDoor.Q
def DNd (d : Dk) : Prop := (d.fs.map (·.1)).Nodup
theorem fset_names : ∀ (fs : List Fil) (k : Int) (v : List Int × Int), (fset fs k v).map (·.1) = if k ∈ fs.map (·.1) then fs.map (·.1) else fs.map (·.1) ++ [k]
  | [], k, v => by simp [fset]
  | (n, x) :: fs, k, v => by
    by_cases h : k = n
    · simp [fset, h]
    · have ih := fset_names fs k v
      have e : (fset ((n, x) :: fs) k v).map (·.1) = n :: (fset fs k v).map (·.1) := by
        rw [fset, if_neg h]; rfl
      rw [e, ih]
      by_cases hk : k ∈ fs.map (·.1)
      · rw [if_pos hk, if_pos (by simp at hk ⊢; exact .inr hk)]; rfl
      · rw [if_neg hk, if_neg (by simp at hk ⊢; exact ⟨h, hk⟩)]; rfl
theorem fget_none : ∀ {fs : List Fil} {k : Int}, fget fs k = none ↔ k ∉ fs.map (·.1)
  | [], k => by simp [fget]
  | (n, x) :: fs, k => by
    by_cases h : k = n
    · simp [fget, h]
    · simp only [fget, List.map_cons, List.mem_cons, h, false_or]
      exact fget_none
theorem fdel_sub : ∀ (fs : List Fil) (k : Int), (fdel fs k).Sublist fs
  | [], _ => .slnil
  | (n, x) :: fs, k => by
    by_cases h : k = n
    · simp only [fdel, if_pos h]; exact List.sublist_cons_self ..
    · simp only [fdel, if_neg h]; exact (fdel_sub fs k).cons_cons _
theorem fdel_filter : ∀ {fs : List Fil} {k : Int}, (fs.map (·.1)).Nodup → fdel fs k = fs.filter (fun f => decide (f.1 ≠ k))
  | [], _, _ => rfl
  | (n, x) :: fs, k, h => by
    rw [List.map_cons, List.nodup_cons] at h
    by_cases e : k = n
    · subst e
      simp only [fdel, if_true]
      rw [List.filter_cons_of_neg (by simp), List.filter_eq_self.2]
      intro f hf
      simp only [ne_eq, decide_not, Bool.not_eq_true', decide_eq_false_iff_not]
      intro e
      exact h.1 (e ▸ List.mem_map.2 ⟨f, hf, rfl⟩)
    · simp only [fdel, if_neg e]
      rw [List.filter_cons_of_pos (by simp; exact fun q => e q.symm), fdel_filter h.2]
theorem fset_nd {fs : List Fil} {k : Int} {v : List Int × Int} (h : (fs.map (·.1)).Nodup) : ((fset fs k v).map (·.1)).Nodup := by
  rw [fset_names]
  split
  · exact h
  · rename_i hk
    rw [List.nodup_append]
    refine ⟨h, by simp, fun a ha b hb => ?_⟩
    rw [List.mem_singleton.1 hb]
    intro e; exact hk (e ▸ ha)
theorem fdel_nd {fs : List Fil} {k : Int} (h : (fs.map (·.1)).Nodup) : ((fdel fs k).map (·.1)).Nodup := h.sublist ((fdel_sub fs k).map _)
theorem DNd.append {d : Dk} (h : DNd d) (k : Int) (b : List Int) : DNd (appendD d k b).2 := by
  unfold appendD
  split
  · exact h
  · split
    · exact h
    · exact fset_nd h
theorem DNd.sync {d : Dk} (h : DNd d) (k : Int) : DNd (syncD d k).2 := by
  unfold syncD
  split
  · exact h
  · split
    · exact h
    · split
      · exact fset_nd h
      · exact h
theorem DNd.rename {d : Dk} (h : DNd d) (a b : Int) : DNd (renameD d a b).2 := by
  unfold renameD
  split
  · exact h
  · split
    · exact h
    · split
      · exact fset_nd (fdel_nd h)
      · exact h
theorem DNd.remove {d : Dk} (h : DNd d) (k : Int) : DNd (removeD d k).2 := by
  unfold removeD
  split
  · exact h
  · split
    · exact h
    · split
      · exact fdel_nd h
      · exact h
theorem DNd.cut {d : Dk} (h : DNd d) (k n : Int) : DNd (cutD d k n).2 := by
  unfold cutD
  split
  · exact h
  · split
    · exact h
    · split
      · exact h
      · split
        · exact fset_nd h
        · exact h
theorem DNd.restart {d : Dk} (h : DNd d) (keep : Int) : DNd (restartD d keep) := by
  unfold DNd restartD at *
  rw [List.map_map]
  exact h
/-- All that is right of a disk. -/
structure DG (d : Dk) : Prop where
  ok : DOk d
  by' : DBy d
  nd : DNd d
theorem DG.append {d : Dk} {k : Int} {b : List Int} (h : DG d) (hb : byteL b) (hn : (appendD d k b).2.fs.length ≤ 3) : DG (appendD d k b).2 := ⟨h.ok.append hn, h.by'.append hb, h.nd.append k b⟩
theorem DG.sync {d : Dk} (h : DG d) (k : Int) : DG (syncD d k).2 := ⟨h.ok.sync k, h.by'.sync k, h.nd.sync k⟩
theorem DG.rename {d : Dk} (h : DG d) (a b : Int) : DG (renameD d a b).2 := ⟨h.ok.rename a b, h.by'.rename a b, h.nd.rename a b⟩
theorem DG.remove {d : Dk} (h : DG d) (k : Int) : DG (removeD d k).2 := ⟨h.ok.remove k, h.by'.remove k, h.nd.remove k⟩
theorem DG.cut {d : Dk} (h : DG d) (k n : Int) : DG (cutD d k n).2 := ⟨h.ok.cut k n, h.by'.cut k n, h.nd.cut k n⟩
theorem DG.restart {d : Dk} (h : DG d) (keep : Int) : DG (restartD d keep) := ⟨h.ok.restart keep, h.by'.restart keep, h.nd.restart keep⟩
theorem DG.new (r : Int) : DG (newD r) := by
  refine ⟨⟨?_, ?_, ?_, ?_, ?_, ?_, ?_⟩, ?_, ?_⟩
  · simp [newD, Dk.used, usedF]
  · simp only [newD]; omega
  · simp only [newD]; omega
  · simp [newD]
  · simp [newD]
  · simp [newD]
  · intro f hf; cases hf
  · intro f hf; cases hf
  · exact List.nodup_nil
/-- What is left when all files but two are swept away, of names that were gone through. -/
def sweepF (fs : List Fil) (t : Int) (gone : List Int) : List Fil := fs.filter fun f => decide (f.1 = 0 ∨ f.1 = t ∨ f.1 ∉ gone)
theorem sweep_nil (fs : List Fil) (t : Int) : sweepF fs t [] = fs := by
  unfold sweepF
  rw [List.filter_eq_self.2]
  simp
def keepFs (fs : List Fil) (t : Int) : List Fil := fs.filter fun f => decide (f.1 = 0 ∨ f.1 = t)
theorem sweep_all {fs : List Fil} {t : Int} {l : List Int} (h : l.Perm (fs.map (·.1))) : sweepF fs t l = keepFs fs t := by
  unfold sweepF keepFs
  refine List.filter_congr fun f hf => ?_
  have : f.1 ∈ l := h.mem_iff.2 (List.mem_map.2 ⟨f, hf, rfl⟩)
  simp [this]
theorem sweep_keep {fs : List Fil} {t : Int} {g : List Int} {n : Int} (h : n = 0 ∨ n = t) : sweepF fs t (g ++ [n]) = sweepF fs t g := by
  unfold sweepF
  refine List.filter_congr fun f _ => ?_
  by_cases e : f.1 = n
  · rcases h with h | h <;> simp [e, h]
  · simp [e]
theorem sweep_go {fs : List Fil} {t : Int} {g : List Int} {n : Int} (hnd : (fs.map (·.1)).Nodup) (h0 : n ≠ 0) (ht : n ≠ t) (hn : n ∈ fs.map (·.1)) (hg : n ∉ g) : (∃ v, fget (sweepF fs t g) n = some v) ∧ fdel (sweepF fs t g) n = sweepF fs t (g ++ [n]) := by
  have hnd' : ((sweepF fs t g).map (·.1)).Nodup := hnd.sublist ((List.filter_sublist).map _)
  constructor
  · cases hq : fget (sweepF fs t g) n with
    | some v => exact ⟨v, rfl⟩
    | none =>
      exfalso
      rw [fget_none] at hq
      obtain ⟨f, hf, rfl⟩ := List.mem_map.1 hn
      exact hq (List.mem_map.2 ⟨f, List.mem_filter.2 ⟨hf, by simp [hg]⟩, rfl⟩)
  · rw [fdel_filter hnd']
    unfold sweepF
    rw [List.filter_filter]
    refine List.filter_congr fun f _ => ?_
    by_cases e : f.1 = n
    · simp [e, h0, ht]
    · simp [e]
theorem usedF_sub {fs fs' : List Fil} (h : fs'.Sublist fs) : usedF fs' ≤ usedF fs := by
  induction h with
  | slnil => exact Nat.le_refl _
  | cons a _ ih => simp only [usedF]; omega
  | cons_cons a _ ih => simp only [usedF]; omega
theorem DG.sub {d : Dk} (h : DG d) {fs : List Fil} (hs : fs.Sublist d.fs) : DG ⟨fs, d.room, d.left, d.stop⟩ := by
  have h1 := h.ok
  have hu : d.used ≤ 262144 := h1.us
  refine ⟨⟨?_, h1.r0, h1.r1, h1.l0, h1.l1, ?_, fun f hf => h1.safe f (hs.subset hf)⟩, fun f hf => h.by' f (hs.subset hf), List.Nodup.sublist (hs.map _) h.nd⟩
  · have := usedF_sub hs
    simp only [Dk.used] at hu ⊢; omega
  · have := hs.length_le
    have := h1.n
    simp only; omega
end Go.Proofs.YtbpcofnhndgoeaaDoor.Q
