/- Journals' methods, as they are called: by what a journal and its disk are to each other. -/
import Derived.Test.YtbpcofnhndgoeaaDoorJQ2
import Derived.Test.YtbpcofnhndgoeaaDoorJR2
import Derived.Test.YtbpcofnhndgoeaaDoorJR3
namespace Go.Proofs.YtbpcofnhndgoeaaDoor.A
open Go Q
abbrev erN (e : Int) : AV := .ifc 34 (.int .i64 e)
theorem recs_few {m : Jn} {d : Dk} (h : JOK m d) : m.recs.length ≤ 262144 ∧ (∀ r ∈ m.recs, r.length ≤ 16384) ∧ m.base.length ≤ 16384 := by
  refine ⟨?_, fun r hr => (h.recs.1 r hr).1, ?_⟩
  · rcases h.recs.2 with ⟨h1, _⟩ | h1
    · rw [h1]; simp
    · have h2 := read_len h.dg.ok (2 + m.turn)
      unfold readD at h2
      rw [h1] at h2
      have h3 : ∀ l : List (List Int), l.length ≤ (frames l).length := fun l => by
        induction l with
        | nil => simp
        | cons r l ih =>
          have : frames (r :: l) = frameB r ++ frames l := by simp [frames]
          rw [this, List.length_append, frame_len]
          simp only [List.length_cons]
          omega
      have := h3 m.recs
      simp only at h2
      omega
  · rcases h.base with ⟨_, h2, _⟩ | ⟨_, h2, _⟩
    · rw [h2]; simp
    · rw [List.length_append] at h2; omega
theorem frames_max {rs : List (List Int)} (h : ∀ r ∈ rs, r.length ≤ 16384) : (frames rs).length ≤ 16390 * rs.length := by
  induction rs with
  | nil => simp [frames]
  | cons r l ih =>
    have : frames (r :: l) = frameB r ++ frames l := by simp [frames]
    rw [this, List.length_append, frame_len]
    have h1 := h r (.head _)
    have h2 := ih fun q hq => h q (.tail _ hq)
    simp only [List.length_cons]
    omega
def Rec (r : List Int) : Prop := r.length ≤ 16384 ∧ byteL r
/-- Append, on a journal that goes on. -/
def apC (args : List AV) (bs : List Box) (K : Kon) : Prop := ∃ m d nb rs, JOK m d ∧ 2000000000 ≤ nb ∧ rs.length ≤ 1000000000 ∧ (∀ r ∈ rs, Rec r) ∧ args = [.ptr 1000000000 0, bss .fz rs] ∧ bs = [jB m, dkB d nb] ∧
  (∀ d', JOK ⟨m.turn, m.base, m.recs ++ rs, false⟩ d' → d'.room = d.room → d'.used = d.used + (frames rs).length → (d.left = -1 → d'.left = -1) → putJ m d (2 + m.turn) (frames rs) = (0, m, d') → K .nilifc [jB ⟨m.turn, m.base, m.recs ++ rs, false⟩, dkB d' nb]) ∧
  (¬ (d.used : Int) + (frames rs).length ≤ d.room → putJ m d (2 + m.turn) (frames rs) = (8, m, d) → K (erN 8) [jB m, dkB d nb]) ∧
  (∀ d', d.left ≠ -1 → d'.room = d.room → d'.used = d.used + (frames rs).length → (Crash d' fun m' => ∃ n, n ≤ rs.length ∧ m' = ⟨m.turn, m.base, m.recs ++ rs.take n, false⟩) → putJ m d (2 + m.turn) (frames rs) = (12, ⟨m.turn, m.base, m.recs, true⟩, d') → K (erN 12) [jB ⟨m.turn, m.base, m.recs, true⟩, dkB d' nb])
theorem ap_ok : FnOkN Tryd.prog tab 29 apC := appJ_ok.mono fun args bs K ⟨m, d, nb, rs, h1, h2, h3, h4, h5, h6, k0, k8, k12⟩ => by
  have hf := recs_few h1
  have hfm := frames_max fun r hr => (h4 r hr).1
  refine ⟨m, d, nb, rs, h1.dg.ok, h2, ⟨h1.t0, h1.t1⟩, by omega, by omega, fun r hr => by have := (h4 r hr).1; omega, by omega, h5, h6, fun hb => absurd (h1.br.symm.trans hb) (by decide), fun _ ⟨r, hr, hl⟩ => absurd (h4 r hr).1 (by omega), fun _ _ => ?_⟩
  obtain ⟨hg, ⟨d', hp, hj, hr, hu, hl⟩ | ⟨hp, hr⟩ | ⟨d', hp, hl, hr, hu, hc⟩⟩ := append_out h1 (rs := rs) fun r hr => h4 r hr
  · exact ⟨hg.ok, 0, m, d', hp, fun h => absurd rfl h, fun _ => k0 d' hj hr hu hl hp⟩
  · exact ⟨hg.ok, 8, m, d, hp, fun _ => k8 hr hp, fun h => absurd h (by decide)⟩
  · exact ⟨hg.ok, 12, _, d', hp, fun _ => k12 d' hl hr hu hc hp, fun h => absurd h (by decide)⟩
/-- Append, where the disk has stopped. -/
def apX (args : List AV) (bs : List Box) (K : Kon) : Prop := ∃ m d nb rs, DOk d ∧ 2000000000 ≤ nb ∧ m.broken = true ∧ (0 ≤ m.turn ∧ m.turn < 4611686018427387904) ∧ m.recs.length ≤ 1000000000 ∧ rs.length ≤ 1000000000 ∧ (∀ r ∈ rs, Rec r) ∧ args = [.ptr 1000000000 0, bss .fz rs] ∧ bs = [jB m, dkB d nb] ∧ K (erN 12) [jB m, dkB d nb]
theorem ap_okX : FnOkN Tryd.prog tab 29 apX := appJ_ok.mono fun args bs K ⟨m, d, nb, rs, h1, h2, h3, h4, h5, h6, h7, h8, h9, hK⟩ => by
  have hfm := frames_max fun r hr => (h7 r hr).1
  exact ⟨m, d, nb, rs, h1, h2, h4, by omega, by omega, fun r hr => by have := (h7 r hr).1; omega, by omega, h8, h9, fun _ => hK, fun hb => absurd (h3.symm.trans hb) (by decide), fun hb => absurd (h3.symm.trans hb) (by decide)⟩
/-- Append of what is too long. -/
def apL (args : List AV) (bs : List Box) (K : Kon) : Prop := ∃ m d nb rs, JOK m d ∧ 2000000000 ≤ nb ∧ rs.length ≤ 1000000000 ∧ (∃ r ∈ rs, 16384 < r.length) ∧ (∀ r ∈ rs, r.length ≤ 1000000) ∧ args = [.ptr 1000000000 0, bss .fz rs] ∧ bs = [jB m, dkB d nb] ∧ (frames rs).length ≤ 100000000000000 ∧ K (erN 13) [jB m, dkB d nb]
theorem ap_okL : FnOkN Tryd.prog tab 29 apL := appJ_ok.mono fun args bs K ⟨m, d, nb, rs, h1, h2, h3, ⟨r, hr, hl⟩, h5, h6, h7, h8, hK⟩ => by
  have hf := recs_few h1
  exact ⟨m, d, nb, rs, h1.dg.ok, h2, ⟨h1.t0, h1.t1⟩, by omega, by omega, fun r hr => by have := h5 r hr; omega, h8, h6, h7, fun hb => absurd (h1.br.symm.trans hb) (by decide), fun _ _ => hK, fun _ ha => absurd (ha r hr) (by omega)⟩
def orC (S S' : List AV → List Box → (AV → List Box → Prop) → Prop) : List AV → List Box → (AV → List Box → Prop) → Prop := fun a b K => S a b K ∨ S' a b K
theorem okN_or {P : Program} {T : Tab} {f : FuncId} {S S' : List AV → List Box → (AV → List Box → Prop) → Prop} (h : FnOkN P T f S) (h' : FnOkN P T f S') : FnOkN P T f (orC S S') :=
  ⟨h.1, fun a b K hS => hS.elim (h.2 a b K) (h'.2 a b K)⟩
/-- Save, on a journal that goes on. -/
def svC (args : List AV) (bs : List Box) (K : Kon) : Prop := ∃ m d nb b, JOK m d ∧ 2000000000 ≤ nb ∧ m.turn + 1 < 4611686018427387904 ∧ b.length ≤ 1000000000 ∧ byteL b ∧ args = [.ptr 1000000000 0, by8 b] ∧ bs = [jB m, dkB d nb] ∧
  (16384 < (putI (m.turn + 1) ++ b).length → K (erN 13) [jB m, dkB d nb]) ∧
  ((putI (m.turn + 1) ++ b).length ≤ 16384 → (∀ d', JOK ⟨m.turn + 1, b, [], false⟩ d' → d'.room = d.room → d'.used = (frameB (putI (m.turn + 1) ++ b)).length → (d.left = -1 → d'.left = -1) → saveJ m d b = (0, ⟨m.turn + 1, b, [], false⟩, d') → K .nilifc [jB ⟨m.turn + 1, b, [], false⟩, dkB d' nb]) ∧
   (¬ (d.used : Int) + (frameB (putI (m.turn + 1) ++ b)).length ≤ d.room → saveJ m d b = (8, m, d) → K (erN 8) [jB m, dkB d nb]) ∧
   (∀ m' d', d.left ≠ -1 → d'.room = d.room → m'.broken = true → (Crash d' fun m'' => m'' = m ∨ m'' = ⟨m.turn + 1, b, [], false⟩) → saveJ m d b = (12, m', d') → K (erN 12) [jB m', dkB d' nb]))
theorem sv_ok : FnOkN Tryd.prog tab 30 svC := save_ok.mono fun args bs K ⟨m, d, nb, b, h1, h2, h3, h4, h5, h6, h7, kL, k⟩ => by
  refine ⟨m, d, nb, b, h1.dg.ok, h2, ⟨h1.t0, h1.t1⟩, by omega, h6, h7, fun _ hl => ?_, ?_⟩
  · obtain ⟨a1, a2, a3, _⟩ := save_out h1 h5 hl h3
    exact ⟨a1.ok, a2.ok, a3.ok⟩
  · by_cases hl : 16384 < (putI (m.turn + 1) ++ b).length
    · refine ⟨13, m, d, ?_, fun h => absurd h (by decide), fun _ => kL hl⟩
      unfold saveJ
      rw [h1.br, if_neg (by decide), if_pos hl]
    · obtain ⟨k0, k8, k12⟩ := k (by omega)
      obtain ⟨_, _, _, ⟨d', hp, hj, hr, hu, hf⟩ | ⟨hp, hr⟩ | ⟨m', d', hp, hb, hn, hr, hc⟩⟩ := save_out h1 h5 (by omega) h3
      · exact ⟨0, _, d', hp, fun _ => k0 d' hj hr hu hf hp, fun h => absurd rfl h⟩
      · exact ⟨8, m, d, hp, fun h => absurd h (by decide), fun _ => k8 hr hp⟩
      · exact ⟨12, m', d', hp, fun h => absurd h (by decide), fun _ => k12 m' d' hn hr hb hc hp⟩
/-- Save, where the disk has stopped. -/
def svX (args : List AV) (bs : List Box) (K : Kon) : Prop := ∃ m d nb b, DOk d ∧ 2000000000 ≤ nb ∧ m.broken = true ∧ (0 ≤ m.turn ∧ m.turn < 4611686018427387904) ∧ b.length ≤ 1000000000 ∧ args = [.ptr 1000000000 0, by8 b] ∧ bs = [jB m, dkB d nb] ∧ K (erN 12) [jB m, dkB d nb]
theorem sv_okX : FnOkN Tryd.prog tab 30 svX := save_ok.mono fun args bs K ⟨m, d, nb, b, h1, h2, h3, h4, h5, h6, h7, hK⟩ =>
  ⟨m, d, nb, b, h1, h2, h4, by omega, h6, h7, fun hb => absurd (h3.symm.trans hb) (by decide), 12, m, d, by unfold saveJ; rw [h3, if_pos rfl], fun h => absurd h (by decide), fun _ => hK⟩
/-- A journal's box as others have it: by its disk's name, and by its records'. -/
abbrev jBc (dn g : Nat) (m : Jn) : Box := .cells 82 [.ptr dn 0, .int .i64 m.turn, by8 m.base, bss (.own g) m.recs, .bool m.broken]
noncomputable def JJ : FuncId → Option StSpec
  | 11 => some (liftJ ofDC)
  | 12 => some (frzJ (liftJ (nilC appendC2)))
  | 15 => some (liftJ restartC1)
  | 20 => some (liftJ usedC1)
  | 34 => some (liftJ stoppedC)
  | 32 => some (liftJ armC)
  | 25 => some (liftJ openC)
  | 29 => some (frzJ (liftJ (nilC (orC apC (orC apX apL)))))
  | 30 => some (frzJ (liftJ (nilC (orC svC svX))))
  | 39 => some (liftJ baseC)
  | 40 => some (liftJ recsC)
  | 41 => some (liftJ turnC)
  | 31 => some (liftJ brokenC)
  | _ => none
theorem JJ_ok : JOk Tryd.prog tab JJ := by
  intro f j h
  unfold JJ at h
  split at h
  · cases h; exact lift_ok ofD_ok
  · cases h; exact frz_ok (lift_ok append_ok2.nil)
  · cases h; exact lift_ok restart_ok1
  · cases h; exact lift_ok used_ok1
  · cases h; exact lift_ok stopped_ok
  · cases h; exact lift_ok arm_ok
  · cases h; exact lift_ok open_ok
  · cases h; exact frz_ok (lift_ok (okN_or ap_ok (okN_or ap_okX ap_okL)).nil)
  · cases h; exact frz_ok (lift_ok (okN_or sv_ok sv_okX).nil)
  · cases h; exact lift_ok base_ok
  · cases h; exact lift_ok recs_ok
  · cases h; exact lift_ok turn_ok
  · cases h; exact lift_ok broken_ok
  · cases h
noncomputable def JJ_E (pl : Nat → Plan) : En := ⟨tab, fun _ _ _ _ => False, JJ, 0, pl⟩
def awake6C (args : List AV) (bs : List Box) (K : Kon) : Prop := bs = [] ∧ args = [] ∧ K (.bool true) []
theorem frames_1 (c : Int) : (frames [[c]]).length = 7 := by simp [frames, frame_len]
set_option maxRecDepth 200000 in
set_option maxHeartbeats 6400000 in
theorem awake6_ok : FnOk Tryd.prog tab 21 awake6C := by
  refine fn_ok (E := JJ_E pl21) tab_is (fun _ _ _ _ h => h.elim) JJ_ok Tryd.func21 rfl rfl (by kernel_rfl) ?_
  rintro args bs K ⟨rfl, rfl, hK⟩
  refine ⟨rfl, ?_⟩
  obtain ⟨d1, o1, j1, l1, r1, u1⟩ := JOK.first 1000
  refine ⟨[], [], [500], 0, rfl, _, rfl, 1000, 2000000000, Nat.le_refl _, rfl, rfl, rfl, ?_⟩
  refine ⟨[500], [], [600], 700000, rfl, _, rfl, newD 1000, 2000000000, _, (JOK.new 1000).dg, rfl, rfl, Nat.le_refl _, o1, rfl, rfl, (fun h => by cases h), ?_⟩
  rintro _ _ ⟨⟩
  refine ⟨rfl, ?_⟩
  refine ⟨fun h => Bool.noConfusion (show false = true from h), fun _ => ?_⟩
  refine ⟨[600, 500], [700000], [], 700000, rfl, _, rfl, [.ptr 1000000000 0, bss .fz [[120]]], ⟨.inl rfl, .inl rfl, trivial⟩, .inl ⟨⟨0, [], [], false⟩, d1, 2000000000, [[120]], j1, Nat.le_refl _, (by simp), (by simp [Rec, byteL]), rfl, rfl, fun d2 j2 r2 u2 l2 _ => ⟨rfl, ?_⟩, fun h => absurd h (by rw [frames_1, u1, r1]; decide), fun _ h => absurd l1 h⟩⟩
  refine ⟨[600, 500], [700000], [], 700000, rfl, _, rfl, [.ptr 1000000000 0, by8 [121]], ⟨.inl rfl, .inl rfl, trivial⟩, .inl ⟨⟨0, [], [[120]], false⟩, d2, 2000000000, [121], j2, Nat.le_refl _, (by simp), (by simp), (by simp [byteL]), rfl, rfl, fun h => absurd h (by decide), fun _ => ⟨fun d3 j3 r3 u3 l3 _ => ⟨rfl, ?_⟩, fun h => absurd h (by rw [u2, frames_1, u1, r2, r1]; decide), fun _ _ h => absurd (l2 l1) h⟩⟩⟩
  refine ⟨[600, 500], [700000], [], 700000, rfl, _, rfl, [.ptr 1000000000 0, bss .fz [[122]]], ⟨.inl rfl, .inl rfl, trivial⟩, .inl ⟨⟨1, [121], [], false⟩, d3, 2000000000, [[122]], j3, Nat.le_refl _, (by simp), (by simp [Rec, byteL]), rfl, rfl, fun d4 j4 r4 u4 l4 _ => ⟨rfl, ?_⟩, fun h => absurd h (by rw [frames_1, u3, r3, r2, r1]; decide), fun _ h => absurd (l3 (l2 l1)) h⟩⟩
  refine ⟨[500], [], [], 0, rfl, _, rfl, d4, 2000000000, 0, _, j4.dg.ok, Nat.le_refl _, rfl, rfl, rfl, rfl, ?_⟩
  obtain ⟨d5, o5, j5, l5, r5, u5⟩ := j4.shut 0
  refine ⟨[500], [], [800], 900000, rfl, _, rfl, restartD d4 0, 2000000000, _, (j4.restart 0).dg, rfl, rfl, Nat.le_refl _, o5, rfl, rfl, (fun h => by cases h), ?_⟩
  rintro _ _ ⟨⟩
  refine ⟨rfl, ?_⟩
  repeat' first
    | (exact hK)
    | (refine ⟨[800, 500], [900000], [], 900000, rfl, _, rfl, ⟨1, [121], [[122]], false⟩, d5, 2000000000, rfl, rfl, (by decide), rfl, ?_⟩)
    | (refine ⟨[800, 500], [900000], [], 900000, rfl, _, rfl, ⟨1, [121], [[122]], false⟩, d5, 2000000000, rfl, rfl, (by decide), (by decide), rfl, ?_⟩)
    | (refine ⟨[800, 500], [900000], [], 900000, rfl, _, rfl, ⟨1, [121], [[122]], false⟩, d5, 2000000000, rfl, rfl, rfl, ?_⟩)
    | (refine ⟨[121], rfl, ?_⟩)
    | (refine ⟨[122], rfl, ?_⟩)
    | (refine ⟨_, (by decide), rfl, ?_⟩)
    | (refine ⟨fun _ => ?_, fun h => Bool.noConfusion (show true = false from h)⟩)
    | (refine ⟨fun h => Bool.noConfusion (show false = true from h), fun _ => ?_⟩)
    | (refine And.intro ?_ ?_)
end Go.Proofs.YtbpcofnhndgoeaaDoor.A
