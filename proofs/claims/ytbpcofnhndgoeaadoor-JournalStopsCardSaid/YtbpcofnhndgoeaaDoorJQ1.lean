/- Journals, plain: what Append and Save come to; wherever the disk stops. -/
import Derived.Test.YtbpcofnhndgoeaaDoorJQ0
namespace Go.Proofs.YtbpcofnhndgoeaaDoor.A
open Go Q
theorem JOK.len {m : Jn} {d : Dk} (h : JOK m d) : d.fs.length ≤ 2 := by
  have h1 := h.only
  have h2 : (d.fs.map (·.1)).Nodup := h.dg.nd
  generalize d.fs = fs at h1 h2
  match fs, h1, h2 with
  | [], _, _ => simp
  | [_], _, _ => simp
  | [_, _], _, _ => simp
  | x :: y :: z :: l, h1, h2 =>
    exfalso
    simp only [List.map_cons, List.nodup_cons, List.mem_cons, not_or] at h2
    have a := h1 x (by simp)
    have b := h1 y (by simp)
    have c := h1 z (by simp)
    omega
theorem oneB_cut {r : List Int} (hl : r.length ≤ 16384) {j : Nat} (hj : j < (frameB r).length) : oneB ((frameB r).take j) = none := by
  rw [frame_len] at hj
  by_cases h6 : j < 6
  · exact oneB_short (by rw [List.length_take]; omega)
  · obtain ⟨k, rfl⟩ : ∃ k, j = k + 6 := ⟨j - 6, by omega⟩
    have e1 : ((((r.length / 256 % 256 : Nat) : Int)) * 256 + ((r.length % 256 : Nat) : Int)).toNat = r.length := by omega
    show oneB (_ :: _ :: _ :: _ :: _ :: _ :: r.take k) = none
    rw [oneB_cons, e1, if_pos (.inr (by rw [List.length_take]; omega))]
theorem frames_app (a b : List (List Int)) : frames (a ++ b) = frames a ++ frames b := by simp [frames]
theorem frames_take : ∀ (rs : List (List Int)) (j : Nat), (∀ r ∈ rs, r.length ≤ 16384) → ∃ n tl, (frames rs).take j = frames (rs.take n) ++ tl ∧ oneB tl = none ∧ n ≤ rs.length
  | [], j, _ => ⟨0, [], by simp [frames], rfl, Nat.le_refl _⟩
  | r :: rs, j, h => by
    have e : frames (r :: rs) = frameB r ++ frames rs := by simp [frames]
    by_cases hj : j < (frameB r).length
    · refine ⟨0, (frameB r).take j, ?_, oneB_cut (h r (.head _)) hj, Nat.zero_le _⟩
      rw [e, List.take_append_of_le_length (by omega)]
      simp [frames]
    · obtain ⟨n, tl, h1, h2, h3⟩ := frames_take rs (j - (frameB r).length) fun q hq => h q (.tail _ hq)
      refine ⟨n + 1, tl, ?_, h2, by simp; omega⟩
      rw [e, List.take_append, List.take_of_length_le (by omega), h1]
      simp [frames]
theorem frames_byte {rs : List (List Int)} (h : ∀ r ∈ rs, byteL r) : byteL (frames rs) := by
  intro c hc
  obtain ⟨r, hr, hc⟩ := List.mem_flatMap.1 hc
  exact frame_byte (h r hr) c hc
/-- A disk that stopped: whatever it keeps, it is opened, and is one of those. -/
structure Crash (d : Dk) (P : Jn → Prop) : Prop where
  stop : d.stop = true
  dg : DG d
  fit : (d.used : Int) ≤ d.room
  go : ∀ keep, ∃ m' d', openD (restartD d keep) = some (m', d') ∧ JOK m' d' ∧ d'.left = -1 ∧ d'.room = d.room ∧ d'.used ≤ d.used ∧ P m'
theorem usedF_cut (fs : List Fil) (keep : Int) : usedF (fs.map (fcut · keep)) ≤ usedF fs := by
  induction fs with
  | nil => exact Nat.le_refl _
  | cons f fs ih =>
    simp only [List.map_cons, usedF]
    have : (fcut f keep).2.1.length ≤ f.2.1.length := by simp only [fcut, List.length_take]; omega
    omega
theorem base_cut {turn : Int} {base : List Int} {d : Dk} (h : BaseF turn base d) (keep : Int) : BaseF turn base (restartD d keep) := by
  unfold BaseF restartD at *
  simp only [fget_cut]
  rcases h with ⟨h1, h2, h3⟩ | ⟨h1, h2, h3, h4⟩
  · exact .inl ⟨h1, h2, by rw [h3]; rfl⟩
  · exact .inr ⟨h1, h2, h3, by rw [h4, Option.map_some, fcut_all]⟩
/-- Opened anew without a stop it is the same. -/
theorem JOK.again {m : Jn} {d : Dk} (h : JOK m d) (hl : d.left = -1) : ∃ d', openD d = some (m, d') ∧ JOK m d' ∧ d'.left = -1 ∧ d'.room = d.room ∧ d'.used ≤ d.used := by
  obtain ⟨turn, base, recs, broken⟩ := m
  obtain rfl : broken = false := h.br
  refine open_of h.dg hl h.run h.fit h.t0 h.t1 h.base h.recs.1 ?_
  rcases h.recs.2 with ⟨h1, h2⟩ | h1
  · exact .inl ⟨h1, h2⟩
  · exact .inr ⟨[], _, by rw [List.append_nil]; exact h1, rfl, fun _ => rfl⟩
theorem JOK.restart {m : Jn} {d : Dk} (h : JOK m d) (keep : Int) : JOK m (restartD d keep) := by
  refine ⟨h.dg.restart keep, rfl, h.br, h.t0, h.t1, base_cut h.base keep, ⟨h.recs.1, ?_⟩, fun f hf => ?_, ?_⟩
  · simp only [restartD, fget_cut]
    rcases h.recs.2 with ⟨h1, h2⟩ | h1
    · exact .inl ⟨h1, by rw [h2]; rfl⟩
    · exact .inr (by rw [h1, Option.map_some, fcut_all])
  · obtain ⟨g, hg, rfl⟩ := List.mem_map.1 hf
    exact h.only g hg
  · have := usedF_cut d.fs keep
    have := h.fit
    simp only [Dk.used, restartD] at *
    omega
theorem JOK.shut {m : Jn} {d : Dk} (h : JOK m d) (keep : Int) : ∃ d', openD (restartD d keep) = some (m, d') ∧ JOK m d' ∧ d'.left = -1 ∧ d'.room = d.room ∧ d'.used ≤ d.used := by
  obtain ⟨d', a, b, c, e, f⟩ := (h.restart keep).again rfl
  exact ⟨d', a, b, c, e, Nat.le_trans f (usedF_cut d.fs keep)⟩
theorem JOK.new (r : Int) : JOK ⟨0, [], [], false⟩ (newD r) := by
  refine ⟨DG.new r, rfl, rfl, Int.le_refl 0, (by decide), .inl ⟨rfl, rfl, rfl⟩, ⟨fun r hr => by simp at hr, .inl ⟨rfl, rfl⟩⟩, fun f hf => by simp [newD] at hf, ?_⟩
  simp only [newD, Dk.used, usedF]; omega
theorem JOK.first (r : Int) : ∃ d', openD (newD r) = some (⟨0, [], [], false⟩, d') ∧ JOK ⟨0, [], [], false⟩ d' ∧ d'.left = -1 ∧ d'.room = (newD r).room ∧ d'.used = 0 := by
  obtain ⟨d', a, b, c, e, f⟩ := (JOK.new r).again rfl
  exact ⟨d', a, b, c, e, Nat.le_zero.1 f⟩
/-- The records' file, as it is read. -/
theorem recs_get {m : Jn} {d : Dk} (h : JOK m d) : (fget d.fs (2 + m.turn)).getD ([], 0) = (frames m.recs, ((frames m.recs).length : Int)) := by
  rcases h.recs.2 with ⟨h1, h2⟩ | h1
  · rw [h2, h1]; rfl
  · rw [h1]; rfl
theorem app_run {d : Dk} {k : Int} {b : List Int} (hs : d.stop = false) (hr : (d.used : Int) + b.length ≤ d.room) :
    appendD d k b = (if d.left = 0 then 12 else 0, ⟨fset d.fs k (((fget d.fs k).getD ([], 0)).1 ++ b, ((fget d.fs k).getD ([], 0)).2), d.room, d.lf, decide (d.left = 0)⟩) := by
  unfold appendD
  rw [hs, if_neg (by decide), if_neg (by omega)]
  by_cases h : d.left = 0 <;> simp [Dk.wk, Dk.st, hs, h]
theorem app_full {d : Dk} {k : Int} {b : List Int} (hs : d.stop = false) (hr : ¬ (d.used : Int) + b.length ≤ d.room) : appendD d k b = (8, d) := by
  unfold appendD
  rw [hs, if_neg (by decide), if_pos (by omega)]
theorem sync_run {d : Dk} {k : Int} {v : List Int × Int} (hs : d.stop = false) (hg : fget d.fs k = some v) :
    syncD d k = if d.left = 0 then (12, ⟨d.fs, d.room, d.lf, true⟩) else (0, ⟨fset d.fs k (v.1, v.1.length), d.room, d.lf, false⟩) := by
  unfold syncD
  rw [hs, if_neg (by decide), hg]
  by_cases h : d.left = 0 <;> simp [Dk.wk, Dk.st, hs, h, worksD]
theorem ren_run {d : Dk} {a b : Int} {v : List Int × Int} (hs : d.stop = false) (hg : fget d.fs a = some v) :
    renameD d a b = if d.left = 0 then (12, ⟨d.fs, d.room, d.lf, true⟩) else (0, ⟨fset (fdel d.fs a) b v, d.room, d.lf, false⟩) := by
  unfold renameD
  rw [hs, if_neg (by decide), hg]
  by_cases h : d.left = 0 <;> simp [Dk.wk, Dk.st, hs, h, worksD]
theorem rem_run {d : Dk} {a : Int} {v : List Int × Int} (hs : d.stop = false) (hg : fget d.fs a = some v) :
    removeD d a = if d.left = 0 then (12, ⟨d.fs, d.room, d.lf, true⟩) else (0, ⟨fdel d.fs a, d.room, d.lf, false⟩) := by
  unfold removeD
  rw [hs, if_neg (by decide), hg]
  by_cases h : d.left = 0 <;> simp [Dk.wk, Dk.st, hs, h, worksD]
theorem used_app {d : Dk} {k : Int} {b : List Int} : usedF (fset d.fs k (((fget d.fs k).getD ([], 0)).1 ++ b, ((fget d.fs k).getD ([], 0)).2)) = d.used + b.length := usedF_app d.fs k b
/-- The disk stopped in the midst of records. -/
theorem crash_app {m : Jn} {d d' : Dk} {rs : List (List Int)} (h : JOK m d) (hrs : ∀ r ∈ rs, r.length ≤ 16384 ∧ byteL r) (hd : DG d') (hf : d'.fs = fset d.fs (2 + m.turn) (frames m.recs ++ frames rs, ((frames m.recs).length : Int))) (hs : d'.stop = true) (hr : d'.room = d.room) (hu : (d'.used : Int) ≤ d'.room) :
    Crash d' fun m' => ∃ n, n ≤ rs.length ∧ m' = ⟨m.turn, m.base, m.recs ++ rs.take n, false⟩ := by
  refine ⟨hs, hd, hu, fun keep => ?_⟩
  have hk := kept_in (f := (2 + m.turn, frames m.recs ++ frames rs, ((frames m.recs).length : Int))) ⟨by simp, by simp only [List.length_append]; omega⟩ keep
  simp only [List.length_append] at hk
  obtain ⟨j, hj⟩ : ∃ j : Nat, keptF (2 + m.turn, frames m.recs ++ frames rs, ((frames m.recs).length : Int)) keep = ((frames m.recs).length + j : Nat) := ⟨(keptF (2 + m.turn, frames m.recs ++ frames rs, ((frames m.recs).length : Int)) keep - (frames m.recs).length).toNat, by omega⟩
  obtain ⟨n, tl, h1, h2, h3⟩ := frames_take rs j fun r hr => (hrs r hr).1
  have hb : BaseF m.turn m.base d' := by
    have hb := h.base
    have ht := h.t0
    unfold BaseF at hb ⊢
    rw [hf, fget_fset, if_neg (by omega)]
    exact hb
  have hu' : ((restartD d' keep).used : Int) ≤ (restartD d' keep).room := by
    have := usedF_cut d'.fs keep
    simp only [Dk.used, restartD] at hu ⊢
    omega
  have hall : ∀ r ∈ m.recs ++ rs.take n, r.length ≤ 16384 ∧ byteL r := fun r hr => by
    rcases List.mem_append.1 hr with hr | hr
    · exact h.recs.1 r hr
    · exact hrs r (List.mem_of_mem_take hr)
  obtain ⟨d2, k1, k2, k3, k4, k5⟩ := open_of (rs := m.recs ++ rs.take n) (hd.restart keep) rfl rfl hu' h.t0 h.t1 (base_cut hb keep) hall (by
    right
    refine ⟨tl, ((frames m.recs).length + j : Nat), ?_, h2, fun e => ?_⟩
    · simp only [restartD, fget_cut]
      rw [hf, fget_fset, if_pos rfl, Option.map_some]
      simp only [fcut, hj]
      rw [frames_app, List.append_assoc, ← h1, Int.toNat_natCast, List.take_length_add_append]
    · subst e
      rw [List.append_nil] at h1
      have e1 := congrArg List.length h1
      rw [List.length_take] at e1
      rw [frames_app, List.length_append]
      omega)
  exact ⟨_, d2, k1, k2, k3, k4, Nat.le_trans k5 (usedF_cut d'.fs keep), n, h3, rfl⟩
theorem lf_pos {d : Dk} (h : DOk d) (hn : d.left ≠ 0) : d.left = -1 ∧ d.lf = -1 ∨ 0 < d.left ∧ d.lf = d.left - 1 := by
  have := h.l0
  unfold Dk.lf
  split
  · exact .inr ⟨by assumption, rfl⟩
  · left; omega
/-- What Append comes to. -/
theorem append_out {m : Jn} {d : Dk} {rs : List (List Int)} (h : JOK m d) (hrs : ∀ r ∈ rs, r.length ≤ 16384 ∧ byteL r) :
    DG (appendD d (2 + m.turn) (frames rs)).2 ∧
    ((∃ d', putJ m d (2 + m.turn) (frames rs) = (0, m, d') ∧ JOK ⟨m.turn, m.base, m.recs ++ rs, false⟩ d' ∧ d'.room = d.room ∧ d'.used = d.used + (frames rs).length ∧ (d.left = -1 → d'.left = -1)) ∨
     (putJ m d (2 + m.turn) (frames rs) = (8, m, d) ∧ ¬ (d.used : Int) + (frames rs).length ≤ d.room) ∨
     ∃ d', putJ m d (2 + m.turn) (frames rs) = (12, ⟨m.turn, m.base, m.recs, true⟩, d') ∧ d.left ≠ -1 ∧ d'.room = d.room ∧ d'.used = d.used + (frames rs).length ∧ Crash d' fun m' => ∃ n, n ≤ rs.length ∧ m' = ⟨m.turn, m.base, m.recs ++ rs.take n, false⟩) := by
  have hlen := h.len
  have hbr := h.br
  have hbyte := frames_byte fun r hr => (hrs r hr).2
  by_cases hroom : (d.used : Int) + (frames rs).length ≤ d.room
  · have hA := app_run (k := 2 + m.turn) h.run hroom
    have hn3 : (appendD d (2 + m.turn) (frames rs)).2.fs.length ≤ 3 := by
      rw [hA]
      have := (usedF_set d.fs (2 + m.turn) (((fget d.fs (2 + m.turn)).getD ([], 0)).1 ++ frames rs, ((fget d.fs (2 + m.turn)).getD ([], 0)).2)).2
      simp only
      omega
    have hDG := h.dg.append hbyte hn3
    refine ⟨hDG, ?_⟩
    have hU : (appendD d (2 + m.turn) (frames rs)).2.used = d.used + (frames rs).length := by rw [hA]; exact used_app
    rw [hA] at hDG hU
    rw [recs_get h] at hA hDG hU
    simp only at hA hDG hU
    by_cases h0 : d.left = 0
    · right; right
      rw [if_pos h0] at hA
      refine ⟨⟨fset d.fs (2 + m.turn) (frames m.recs ++ frames rs, ((frames m.recs).length : Int)), d.room, d.lf, decide (d.left = 0)⟩, ?_, by omega, rfl, hU, crash_app h hrs hDG rfl (by simp [h0]) rfl (by rw [hU]; simp only; omega)⟩
      unfold putJ
      rw [hA, if_neg (show ¬ (12 : Int) = 0 by decide), failJ, if_pos rfl]
    · rw [if_neg h0] at hA
      have hdl := lf_pos h.dg.ok h0
      have hS := sync_run (d := ⟨fset d.fs (2 + m.turn) (frames m.recs ++ frames rs, ((frames m.recs).length : Int)), d.room, d.lf, decide (d.left = 0)⟩) (k := 2 + m.turn) (v := (frames m.recs ++ frames rs, ((frames m.recs).length : Int))) (by simp [h0]) (by simp only [fget_fset, if_true])
      have hP : putJ m d (2 + m.turn) (frames rs) = ((syncD ⟨fset d.fs (2 + m.turn) (frames m.recs ++ frames rs, ((frames m.recs).length : Int)), d.room, d.lf, decide (d.left = 0)⟩ (2 + m.turn)).1, failJ m (syncD ⟨fset d.fs (2 + m.turn) (frames m.recs ++ frames rs, ((frames m.recs).length : Int)), d.room, d.lf, decide (d.left = 0)⟩ (2 + m.turn)).1, (syncD ⟨fset d.fs (2 + m.turn) (frames m.recs ++ frames rs, ((frames m.recs).length : Int)), d.room, d.lf, decide (d.left = 0)⟩ (2 + m.turn)).2) := by
        unfold putJ
        rw [hA, if_pos rfl]
      have hDS := hDG.sync (2 + m.turn)
      simp only at hS hP hDS
      rw [hS] at hP hDS
      by_cases h1 : d.lf = 0
      · right; right
        rw [if_pos h1] at hP hDS
        refine ⟨⟨fset d.fs (2 + m.turn) (frames m.recs ++ frames rs, ((frames m.recs).length : Int)), d.room, Dk.lf ⟨fset d.fs (2 + m.turn) (frames m.recs ++ frames rs, ((frames m.recs).length : Int)), d.room, d.lf, decide (d.left = 0)⟩, true⟩, ?_, by omega, rfl, hU, crash_app h hrs hDS rfl rfl rfl (by show ((usedF _ : Nat) : Int) ≤ _; have : usedF _ = _ := hU; rw [this]; exact_mod_cast hroom)⟩
        rw [hP, failJ, if_pos rfl]
      · left
        rw [if_neg h1] at hP hDS
        have hU2 : usedF (fset (fset d.fs (2 + m.turn) (frames m.recs ++ frames rs, ((frames m.recs).length : Int))) (2 + m.turn) (frames m.recs ++ frames rs, ((frames m.recs ++ frames rs).length : Int))) = d.used + (frames rs).length := by
          have := usedF_same (fs := fset d.fs (2 + m.turn) (frames m.recs ++ frames rs, ((frames m.recs).length : Int))) (k := 2 + m.turn) (v := (frames m.recs ++ frames rs, ((frames m.recs).length : Int))) ((frames m.recs ++ frames rs).length : Int) (by simp only [fget_fset, if_true])
          rw [this.1]
          exact hU
        refine ⟨⟨fset (fset d.fs (2 + m.turn) (frames m.recs ++ frames rs, ((frames m.recs).length : Int))) (2 + m.turn) (frames m.recs ++ frames rs, ((frames m.recs ++ frames rs).length : Int)), d.room, Dk.lf ⟨fset d.fs (2 + m.turn) (frames m.recs ++ frames rs, ((frames m.recs).length : Int)), d.room, d.lf, decide (d.left = 0)⟩, false⟩, ?_, ⟨hDS, rfl, rfl, h.t0, h.t1, ?_, ⟨fun r hr => ?_, .inr ?_⟩, fun f hf => ?_, ?_⟩, rfl, hU2, fun hl => ?_⟩
        · rw [hP, failJ, if_neg (show ¬ (0 : Int) = 12 by decide)]
        · have hb := h.base
          have ht := h.t0
          unfold BaseF at hb ⊢
          simp only [fget_fset]
          rw [if_neg (by omega), if_neg (by omega)]
          exact hb
        · rcases List.mem_append.1 hr with hr | hr
          · exact h.recs.1 r hr
          · exact hrs r hr
        · simp only [fget_fset, if_true]
          rw [frames_app]
        · rcases fset_mem' hf with hf | hf
          · rcases fset_mem' hf with hf | hf
            · exact h.only f hf
            · exact .inr hf
          · exact .inr hf
        · show ((usedF _ : Nat) : Int) ≤ _
          rw [hU2]
          exact_mod_cast hroom
        · have : (Dk.lf ⟨fset d.fs (2 + m.turn) (frames m.recs ++ frames rs, ((frames m.recs).length : Int)), d.room, d.lf, decide (d.left = 0)⟩) = -1 := by
            rcases hdl with ⟨_, e⟩ | ⟨e, _⟩
            · show (if 0 < d.lf then d.lf - 1 else d.lf) = -1
              rw [e]; rfl
            · omega
          exact this
  · have hA := app_full (k := 2 + m.turn) h.run hroom
    refine ⟨by rw [hA]; exact h.dg, .inr (.inl ⟨?_, hroom⟩)⟩
    unfold putJ
    rw [hA, if_neg (show ¬ (8 : Int) = 0 by decide), failJ, if_neg (show ¬ (8 : Int) = 12 by decide)]
end Go.Proofs.YtbpcofnhndgoeaaDoor.A
