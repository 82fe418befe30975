/- Journals, plain: what Save comes to; wherever the disk stops. -/
import Derived.Test.YtbpcofnhndgoeaaDoorJQ1
namespace Go.Proofs.YtbpcofnhndgoeaaDoor.A
open Go Q
theorem crash_gen {d : Dk} {turn : Int} {base : List Int} {recs : List (List Int)} (hd : DG d) (hs : d.stop = true) (hu : (d.used : Int) ≤ d.room) (h0 : 0 ≤ turn) (h1 : turn < 4611686018427387904) (hb : BaseF turn base d) (hr : RecsF turn recs d) : Crash d fun m => m = ⟨turn, base, recs, false⟩ := by
  refine ⟨hs, hd, hu, fun keep => ?_⟩
  have hu' : ((restartD d keep).used : Int) ≤ (restartD d keep).room := by
    have := usedF_cut d.fs keep
    simp only [Dk.used, restartD] at hu ⊢
    omega
  obtain ⟨d2, k1, k2, k3, k4, k5⟩ := open_of (rs := recs) (hd.restart keep) rfl rfl hu' h0 h1 (base_cut hb keep) hr.1 (by
    simp only [restartD, fget_cut]
    rcases hr.2 with ⟨h1, h2⟩ | h1
    · exact .inl ⟨h1, by rw [h2]; rfl⟩
    · exact .inr ⟨[], _, by rw [h1, Option.map_some, fcut_all, List.append_nil], rfl, fun _ => rfl⟩)
  exact ⟨_, d2, k1, k2, k3, k4, Nat.le_trans k5 (usedF_cut d.fs keep), rfl⟩
theorem Crash.mono {d : Dk} {P Q : Jn → Prop} (h : Crash d P) (hpq : ∀ m, P m → Q m) : Crash d Q :=
  ⟨h.stop, h.dg, h.fit, fun keep => by obtain ⟨m, d', a, b, c, e, g, f⟩ := h.go keep; exact ⟨m, d', a, b, c, e, g, hpq m f⟩⟩
theorem usedF_one {fs : List Fil} {k : Int} (h : ∀ f ∈ fs, f.1 = k) (hn : (fs.map (·.1)).Nodup) : usedF fs = ((fget fs k).getD ([], 0)).1.length := by
  match fs, h, hn with
  | [], _, _ => simp [usedF, fget]
  | [f], h, _ =>
    have := h f (by simp)
    obtain ⟨n, x⟩ := f
    simp only at this
    simp [usedF, fget, this]
  | f :: g :: l, h, hn =>
    exfalso
    have a := h f (by simp)
    have b := h g (by simp)
    simp only [List.map_cons, List.nodup_cons, List.mem_cons, not_or] at hn
    omega
theorem mem_fget {fs : List Fil} {f : Fil} (h : f ∈ fs) : fget fs f.1 ≠ none := by
  rw [Ne, fget_none]
  exact fun hq => hq (List.mem_map.2 ⟨f, h, rfl⟩)
/-- What a Save of a snapshot that is not too long comes to. -/
theorem save_out {m : Jn} {d : Dk} {b : List Int} (h : JOK m d) (hb : byteL b) (hl : (putI (m.turn + 1) ++ b).length ≤ 16384) (ht : m.turn + 1 < 4611686018427387904) :
    DG (appendD d 1 (frameB (putI (m.turn + 1) ++ b))).2 ∧ DG (putJ m d 1 (frameB (putI (m.turn + 1) ++ b))).2.2 ∧ DG (renameD (putJ m d 1 (frameB (putI (m.turn + 1) ++ b))).2.2 1 0).2 ∧
    ((∃ d', saveJ m d b = (0, ⟨m.turn + 1, b, [], false⟩, d') ∧ JOK ⟨m.turn + 1, b, [], false⟩ d' ∧ d'.room = d.room ∧ d'.used = (frameB (putI (m.turn + 1) ++ b)).length ∧ (d.left = -1 → d'.left = -1)) ∨
     (saveJ m d b = (8, m, d) ∧ ¬ (d.used : Int) + (frameB (putI (m.turn + 1) ++ b)).length ≤ d.room) ∨
     ∃ m' d', saveJ m d b = (12, m', d') ∧ m'.broken = true ∧ d.left ≠ -1 ∧ d'.room = d.room ∧ Crash d' fun m'' => m'' = m ∨ m'' = ⟨m.turn + 1, b, [], false⟩) := by
  have hlen := h.len
  have hbr := h.br
  have h0t := h.t0
  obtain ⟨x, hx⟩ : ∃ x, frameB (putI (m.turn + 1) ++ b) = x := ⟨_, rfl⟩
  have hxb : byteL x := by
    rw [← hx]
    refine frame_byte fun c hc => ?_
    rcases List.mem_append.1 hc with hc | hc
    · exact putI_byte (by omega) (by omega) c hc
    · exact hb c hc
  have hm : m = ⟨m.turn, m.base, m.recs, false⟩ := by
    cases m; simp only at hbr; rw [hbr]
  unfold saveJ
  rw [hbr, if_neg (show ¬ false = true by decide), if_neg (show ¬ 16384 < (putI (m.turn + 1) ++ b).length by omega), hx]
  by_cases hroom : (d.used : Int) + x.length ≤ d.room
  · have hA := app_run (k := 1) h.run hroom
    have hg1 : fget d.fs 1 = none := by
      rw [fget_none]
      intro hq
      obtain ⟨f, hf, e⟩ := List.mem_map.1 hq
      have := h.only f hf
      omega
    have hn3 : (appendD d 1 x).2.fs.length ≤ 3 := by
      rw [hA]
      have := (usedF_set d.fs 1 (((fget d.fs 1).getD ([], 0)).1 ++ x, ((fget d.fs 1).getD ([], 0)).2)).2
      simp only
      omega
    have hDG := h.dg.append hxb hn3
    refine ⟨hDG, ?_⟩
    have hU : (appendD d 1 x).2.used = d.used + x.length := by rw [hA]; exact used_app
    rw [hA] at hDG hU
    rw [hg1] at hA hDG hU
    simp only [Option.getD_none, List.nil_append] at hA hDG hU
    have hU : usedF (fset d.fs 1 (x, 0)) = d.used + x.length := hU
    -- the old ones are there as long as the snapshot's file is not another one
    have old : ∀ d' : Dk, DG d' → d'.stop = true → (d'.used : Int) ≤ d'.room → (∀ j, j ≠ 1 → fget d'.fs j = fget d.fs j) → Crash d' fun m'' => m'' = m ∨ m'' = ⟨m.turn + 1, b, [], false⟩ := fun d' k1 k2 k3 k4 => by
      refine (crash_gen (turn := m.turn) (base := m.base) (recs := m.recs) k1 k2 k3 h.t0 h.t1 ?_ ?_).mono fun q hq => .inl (hq.trans hm.symm)
      · have := h.base
        unfold BaseF at this ⊢
        rw [k4 0 (by decide)]
        exact this
      · have := h.recs
        unfold RecsF at this ⊢
        rw [k4 (2 + m.turn) (by omega)]
        exact this
    by_cases c0 : d.left = 0
    · rw [if_pos c0] at hA
      have hP : putJ m d 1 x = (12, ⟨m.turn, m.base, m.recs, true⟩, ⟨fset d.fs 1 (x, 0), d.room, d.lf, decide (d.left = 0)⟩) := by
        unfold putJ
        rw [hA, if_neg (show ¬ (12 : Int) = 0 by decide), failJ, if_pos rfl]
      rw [hP]
      refine ⟨hDG, hDG.rename 1 0, .inr (.inr ⟨_, _, if_neg (show ¬ (12 : Int) = 0 by decide), rfl, by omega, rfl, old _ hDG (by simp [c0]) (by simp only [Dk.used, hU]; exact_mod_cast hroom) fun j hj => by simp only [fget_fset, if_neg hj]⟩)⟩
    · rw [if_neg c0] at hA
      have hdl := lf_pos h.dg.ok c0
      have hS := sync_run (d := ⟨fset d.fs 1 (x, 0), d.room, d.lf, decide (d.left = 0)⟩) (k := 1) (v := (x, 0)) (by simp [c0]) (by simp only [fget_fset, if_true])
      have hDS := hDG.sync 1
      simp only at hS
      by_cases c1 : d.lf = 0
      · rw [if_pos c1] at hS
        rw [hS] at hDS
        have hP : putJ m d 1 x = (12, ⟨m.turn, m.base, m.recs, true⟩, ⟨fset d.fs 1 (x, 0), d.room, Dk.lf ⟨fset d.fs 1 (x, 0), d.room, d.lf, decide (d.left = 0)⟩, true⟩) := by
          unfold putJ
          rw [hA, if_pos rfl, hS, failJ, if_pos rfl]
        rw [hP]
        refine ⟨hDS, hDS.rename 1 0, .inr (.inr ⟨_, _, if_neg (show ¬ (12 : Int) = 0 by decide), rfl, by omega, rfl, old _ hDS rfl (by simp only [Dk.used, hU]; exact_mod_cast hroom) fun j hj => by simp only [fget_fset, if_neg hj]⟩)⟩
      · rw [if_neg c1] at hS
        rw [hS] at hDS
        obtain ⟨l1, hl1⟩ : ∃ l, Dk.lf ⟨fset d.fs 1 (x, 0), d.room, d.lf, decide (d.left = 0)⟩ = l := ⟨_, rfl⟩
        have hl1c : d.left = -1 ∧ l1 = -1 ∨ d.left ≠ -1 := by
          rcases hdl with ⟨e1, e2⟩ | ⟨e1, _⟩
          · left
            refine ⟨e1, ?_⟩
            rw [← hl1]
            show (if 0 < d.lf then d.lf - 1 else d.lf) = -1
            rw [e2]; rfl
          · right; omega
        rw [hl1] at hS hDS
        have hP : putJ m d 1 x = (0, m, ⟨fset (fset d.fs 1 (x, 0)) 1 (x, (x.length : Int)), d.room, l1, false⟩) := by
          unfold putJ
          rw [hA, if_pos rfl, hS, failJ, if_neg (show ¬ (0 : Int) = 12 by decide)]
        have hU2 : usedF (fset (fset d.fs 1 (x, 0)) 1 (x, (x.length : Int))) = d.used + x.length := by
          rw [(usedF_same (fs := fset d.fs 1 (x, 0)) (k := 1) (v := (x, 0)) (x.length : Int) (by simp only [fget_fset, if_true])).1, hU]
        rw [hP]
        simp only at hDS
        refine ⟨hDS, hDS.rename 1 0, ?_⟩
        have hR := ren_run (d := ⟨fset (fset d.fs 1 (x, 0)) 1 (x, (x.length : Int)), d.room, l1, false⟩) (a := 1) (b := 0) (v := (x, (x.length : Int))) rfl (by simp only [fget_fset, if_true])
        have hDR := hDS.rename 1 0
        rw [if_pos rfl]
        simp only at hR ⊢
        by_cases c2 : l1 = 0
        · rw [if_pos c2] at hR
          rw [hR] at hDR ⊢
          rw [if_neg (show ¬ (12 : Int) = 0 by decide), failJ, if_pos rfl]
          refine .inr (.inr ⟨_, _, rfl, rfl, by omega, rfl, old _ hDR rfl (by simp only [Dk.used, hU2]; exact_mod_cast hroom) fun j hj => by simp only [fget_fset, if_neg hj]⟩)
        · rw [if_neg c2] at hR
          rw [hR] at hDR ⊢
          obtain ⟨l2, hl2⟩ : ∃ l, Dk.lf ⟨fset (fset d.fs 1 (x, 0)) 1 (x, (x.length : Int)), d.room, l1, false⟩ = l := ⟨_, rfl⟩
          have hl2c : d.left = -1 ∧ l2 = -1 ∨ d.left ≠ -1 := by
            rcases hl1c with ⟨e1, e2⟩ | e
            · left
              refine ⟨e1, ?_⟩
              rw [← hl2]
              show (if 0 < l1 then l1 - 1 else l1) = -1
              rw [e2]; rfl
            · exact .inr e
          rw [hl2] at hDR ⊢
          rw [if_pos rfl]
          simp only at hDR ⊢
          obtain ⟨F, hF⟩ : ∃ F, fset (fdel (fset (fset d.fs 1 (x, 0)) 1 (x, (x.length : Int))) 1) 0 (x, (x.length : Int)) = F := ⟨_, rfl⟩
          have hnd2 : ((fset (fset d.fs 1 (x, 0)) 1 (x, (x.length : Int))).map (·.1)).Nodup := hDS.nd
          have hFg : ∀ j, fget F j = if j = 0 then some (x, (x.length : Int)) else if j = 1 then none else fget d.fs j := fun j => by
            rw [← hF, fget_fset]
            by_cases e : j = 0
            · rw [if_pos e, if_pos e]
            · rw [if_neg e, if_neg e, fget_fdel hnd2]
              by_cases e1 : j = 1
              · rw [if_pos e1, if_pos e1]
              · rw [if_neg e1, if_neg e1, fget_fset, if_neg e1, fget_fset, if_neg e1]
          have hFm : ∀ f ∈ F, f.1 = 0 ∨ f.1 = 2 + m.turn := fun f hf => by
            rw [← hF] at hf
            rcases fset_mem' hf with hf | hf
            · rw [fdel_filter hnd2] at hf
              obtain ⟨hf, hne⟩ := List.mem_filter.1 hf
              have hne : f.1 ≠ 1 := by simpa using hne
              rcases fset_mem' hf with hf | hf
              · rcases fset_mem' hf with hf | hf
                · exact h.only f hf
                · exact absurd hf hne
              · exact absurd hf hne
            · exact .inl hf
          have hFu : usedF F ≤ d.used + x.length := by
            have h1 := (usedF_del (fs := fset (fset d.fs 1 (x, 0)) 1 (x, (x.length : Int))) (k := 1) (v := (x, (x.length : Int))) (by simp only [fget_fset, if_true])).1
            have h2 := (usedF_set (fdel (fset (fset d.fs 1 (x, 0)) 1 (x, (x.length : Int))) 1) 0 (x, (x.length : Int))).1
            rw [hF] at h2
            simp only at h1 h2
            omega
          rw [hF] at hDR ⊢
          have hbase : ∀ fs q l, fget fs 0 = some (x, (x.length : Int)) → BaseF (m.turn + 1) b ⟨fs, d.room, l, q⟩ := fun fs q l hq => .inr ⟨by omega, hl, hb, by rw [hx]; exact hq⟩
          have hno : fget d.fs (2 + (m.turn + 1)) = none := by
            rw [fget_none]
            intro hq
            obtain ⟨f, hf, e⟩ := List.mem_map.1 hq
            have := h.only f hf
            omega
          have hnoF : fget F (2 + (m.turn + 1)) = none := by rw [hFg, if_neg (by omega), if_neg (by omega), hno]
          have hg2 : fget F (2 + m.turn) = fget d.fs (2 + m.turn) := by rw [hFg, if_neg (by omega), if_neg (by omega)]
          have done : ∀ fs l, DG ⟨fs, d.room, l, false⟩ → (d.left = -1 → l = -1) → fget fs 0 = some (x, (x.length : Int)) → (∀ f ∈ fs, f.1 = 0) → JOK ⟨m.turn + 1, b, [], false⟩ ⟨fs, d.room, l, false⟩ ∧ d.room = d.room ∧ Dk.used ⟨fs, d.room, l, false⟩ = x.length ∧ (d.left = -1 → l = -1) := fun fs l k1 k2 k3 k4 => by
            have hu : Dk.used ⟨fs, d.room, l, false⟩ = x.length := by
              have := usedF_one k4 k1.nd
              rw [k3] at this
              exact this
            refine ⟨⟨k1, rfl, rfl, by simp only; omega, ht, hbase fs _ _ k3, ⟨fun r hr => (by cases hr), .inl ⟨rfl, ?_⟩⟩, fun f hf => .inl (k4 f hf), ?_⟩, rfl, hu, k2⟩
            · rw [fget_none]
              intro hq
              obtain ⟨f, hf, e⟩ := List.mem_map.1 hq
              have := k4 f hf
              simp only at e
              omega
            · rw [hu]; simp only; omega
          cases hq : fget d.fs (2 + m.turn) with
          | none =>
            have hrd : (readD ⟨F, d.room, l2, false⟩ (2 + m.turn)).2 = false := by unfold readD; simp only [hg2, hq]
            rw [hrd, if_neg (show ¬ false = true by decide)]
            refine .inl ⟨⟨F, d.room, l2, false⟩, rfl, ?_⟩
            have hF0 : ∀ f ∈ F, f.1 = 0 := fun f hf => by
              rcases hFm f hf with e | e
              · exact e
              · exfalso
                have := mem_fget hf
                rw [e, hg2, hq] at this
                exact this rfl
            exact done F l2 hDR (fun e => by rcases hl2c with ⟨_, e2⟩ | e2; exact e2; exact absurd e e2) (by rw [hFg, if_pos rfl]) hF0
          | some v =>
            have hrd : (readD ⟨F, d.room, l2, false⟩ (2 + m.turn)).2 = true := by unfold readD; simp only [hg2, hq]
            rw [hrd, if_pos rfl]
            have hM := rem_run (d := ⟨F, d.room, l2, false⟩) (a := 2 + m.turn) (v := v) rfl (by simp only [hg2, hq])
            have hDM := hDR.remove (2 + m.turn)
            simp only at hM
            by_cases c3 : l2 = 0
            · rw [if_pos c3] at hM
              rw [hM] at hDM ⊢
              rw [failJ, if_pos rfl]
              refine .inr (.inr ⟨_, _, rfl, rfl, by omega, rfl, ?_⟩)
              refine (crash_gen (turn := m.turn + 1) (base := b) (recs := []) hDM rfl ?_ (by omega) ht (hbase _ _ _ (by rw [hFg, if_pos rfl])) ⟨fun r hr => (by cases hr), .inl ⟨rfl, hnoF⟩⟩).mono fun q hq => .inr hq
              have : Dk.used ⟨F, d.room, Dk.lf ⟨F, d.room, l2, false⟩, true⟩ = usedF F := rfl
              rw [this]
              simp only
              omega
            · rw [if_neg c3] at hM
              rw [hM] at hDM ⊢
              rw [failJ, if_neg (show ¬ (0 : Int) = 12 by decide)]
              refine .inl ⟨_, rfl, ?_⟩
              have hnd3 : (F.map (·.1)).Nodup := hDR.nd
              refine done _ _ hDM (fun e => ?_) (by rw [fget_fdel hnd3, if_neg (by omega), hFg, if_pos rfl]) fun f hf => ?_
              · rcases hl2c with ⟨_, e2⟩ | e2
                · show (if 0 < l2 then l2 - 1 else l2) = -1
                  rw [e2]; rfl
                · exact absurd e e2
              · rw [fdel_filter hnd3] at hf
                obtain ⟨hf, hne⟩ := List.mem_filter.1 hf
                have hne : f.1 ≠ 2 + m.turn := by simpa using hne
                rcases hFm f hf with e | e
                · exact e
                · exact absurd e hne
  · have hA := app_full (k := 1) h.run hroom
    have hP : putJ m d 1 x = (8, m, d) := by
      unfold putJ
      rw [hA, if_neg (show ¬ (8 : Int) = 0 by decide), failJ, if_neg (show ¬ (8 : Int) = 12 by decide)]
    refine ⟨by rw [hA]; exact h.dg, by rw [hP]; exact h.dg, by rw [hP]; exact h.dg.rename 1 0, .inr (.inl ⟨?_, hroom⟩)⟩
    rw [hP, if_neg (show ¬ (8 : Int) = 0 by decide)]
end Go.Proofs.YtbpcofnhndgoeaaDoor.A
