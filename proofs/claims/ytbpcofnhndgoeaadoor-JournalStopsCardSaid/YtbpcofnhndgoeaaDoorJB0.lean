/- Disks, plain: every byte is one. -/
import Derived.Test.YtbpcofnhndgoeaaDoorJP0
import Derived.Test.YtbpcofnhndgoeaaDoorQ2
namespace Go.Proofs.YtbpcofnhndgoeaaDoor.Q
def DBy (d : Dk) : Prop := ∀ f ∈ d.fs, byteL f.2.1
theorem fget_mem : ∀ {fs : List Fil} {k : Int} {v : List Int × Int}, fget fs k = some v → (k, v) ∈ fs
  | [], k, v, h => by cases h
  | (n, x) :: fs, k, v, h => by
    unfold fget at h
    split at h
    · rename_i e
      obtain rfl := Option.some.inj h
      rw [e]; exact .head _
    · exact .tail _ (fget_mem h)
theorem fset_mem : ∀ {fs : List Fil} {k : Int} {v : List Int × Int} {f : Fil}, f ∈ fset fs k v → f ∈ fs ∨ f.2 = v
  | [], k, v, f, h => by
    unfold fset at h
    right
    rw [List.mem_singleton.1 h]
  | (n, x) :: fs, k, v, f, h => by
    unfold fset at h
    split at h
    · rcases List.mem_cons.1 h with h | h
      · right; rw [h]
      · left; exact .tail _ h
    · rcases List.mem_cons.1 h with h | h
      · left; rw [h]; exact .head _
      · rcases fset_mem h with h | h
        · left; exact .tail _ h
        · right; exact h
theorem DBy.append {d : Dk} {k : Int} {b : List Int} (h : DBy d) (hb : byteL b) : DBy (appendD d k b).2 := by
  unfold appendD
  split
  · exact h
  · split
    · exact h
    · intro f hf
      rcases fset_mem hf with hf | hf
      · exact h f hf
      · rw [hf]
        intro c hc
        rcases List.mem_append.1 hc with hc | hc
        · cases hg : fget d.fs k with
          | none => rw [hg] at hc; cases hc
          | some v => rw [hg] at hc; exact h _ (fget_mem hg) c hc
        · exact hb c hc
theorem DBy.read {d : Dk} (h : DBy d) (k : Int) : byteL (readD d k).1 := by
  unfold readD
  cases hg : fget d.fs k with
  | none => intro c hc; cases hc
  | some v => exact h _ (fget_mem hg)
theorem DBy.sync {d : Dk} (h : DBy d) (k : Int) : DBy (syncD d k).2 := by
  unfold syncD
  split
  · exact h
  · cases hg : fget d.fs k with
    | none => exact h
    | some v =>
      simp only
      split
      · intro f hf
        rcases fset_mem hf with hf | hf
        · exact h f hf
        · rw [hf]; exact h _ (fget_mem hg)
      · exact h
theorem fdel_mem : ∀ {fs : List Fil} {k : Int} {f : Fil}, f ∈ fdel fs k → f ∈ fs
  | [], _, _, h => by cases h
  | (n, x) :: fs, k, f, h => by
    unfold fdel at h
    split at h
    · exact .tail _ h
    · rcases List.mem_cons.1 h with h | h
      · rw [h]; exact .head _
      · exact .tail _ (fdel_mem h)
theorem DBy.remove {d : Dk} (h : DBy d) (k : Int) : DBy (removeD d k).2 := by
  unfold removeD
  split
  · exact h
  · cases hg : fget d.fs k with
    | none => exact h
    | some v =>
      simp only
      split
      · exact fun f hf => h f (fdel_mem hf)
      · exact h
theorem DBy.rename {d : Dk} (h : DBy d) (a b : Int) : DBy (renameD d a b).2 := by
  unfold renameD
  split
  · exact h
  · cases hg : fget d.fs a with
    | none => exact h
    | some v =>
      simp only
      split
      · intro f hf
        rcases fset_mem hf with hf | hf
        · exact h f (fdel_mem hf)
        · rw [hf]; exact h _ (fget_mem hg)
      · exact h
theorem DBy.cut {d : Dk} (h : DBy d) (k n : Int) : DBy (cutD d k n).2 := by
  unfold cutD
  split
  · exact h
  · cases hg : fget d.fs k with
    | none => exact h
    | some v =>
      simp only
      split
      · exact h
      · split
        · intro f hf
          rcases fset_mem hf with hf | hf
          · exact h f hf
          · rw [hf]
            intro c hc
            exact h _ (fget_mem hg) c (List.mem_of_mem_take hc)
        · exact h
theorem DBy.restart {d : Dk} (h : DBy d) (keep : Int) : DBy (restartD d keep) := by
  intro f hf
  obtain ⟨g, hg, rfl⟩ := List.mem_map.1 hf
  exact fun c hc => h g hg c (List.mem_of_mem_take hc)
end Go.Proofs.YtbpcofnhndgoeaaDoor.Q
