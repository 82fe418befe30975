/- hawalalaw20: held, account by account; it is what audit.Held is. -/
import Derived.Test.YtjffmldlkofpaaaGreatDoorU8
namespace Go.Proofs.YtjffmldlkofpaaaGreatDoor.A
open Go Q
def stepPr (k : Int) (acc : Int) (p : Pay) : Int := if p.src = k ∧ p.stage = 0 then w64 (acc + w64 (p.auth - p.capt)) else acc
def stepGr (k : Int) (acc : Int) (g : Sag) : Int := if g.req.a = k then w64 (acc + g.req.amt) else acc
def refK (s : Sta) (k : Nat) : Int := s.sags.foldl (stepGr k) (s.pays.foldl (stepPr k) 0)
def heldR (s : Sta) : List Int := (List.range s.accs.length).map (refK s)
/-- The first k are done, the next one has v. -/
def rowR (s : Sta) (k : Nat) (v : Int) : List Int := (List.range k).map (refK s) ++ v :: List.replicate (s.accs.length - k - 1) 0
theorem rowR_len {s : Sta} {k : Nat} (h : k < s.accs.length) (v : Int) : (rowR s k v).length = s.accs.length := by simp [rowR]; omega
theorem rowR_at {s : Sta} {k : Nat} (v : Int) : (rowR s k v)[k]? = some v := by simp [rowR]
theorem rowR_set {s : Sta} {k : Nat} (v v' : Int) : (rowR s k v).set k v' = rowR s k v' := by simp [rowR]
theorem rowR_start (s : Sta) (h : 0 < s.accs.length) : List.replicate s.accs.length 0 = rowR s 0 0 := by
  obtain ⟨n, hn⟩ : ∃ n, s.accs.length = n + 1 := ⟨s.accs.length - 1, by omega⟩
  simp [rowR, hn, List.replicate_succ]
theorem rowR_next {s : Sta} {k : Nat} (h : k + 1 < s.accs.length) : rowR s k (refK s k) = rowR s (k + 1) 0 := by
  obtain ⟨n, hn⟩ : ∃ n, s.accs.length - k - 1 = n + 1 := ⟨s.accs.length - k - 2, by omega⟩
  have h2 : s.accs.length - (k + 1) - 1 = n := by omega
  unfold rowR
  rw [hn, h2, List.range_succ, List.replicate_succ]
  simp
theorem rowR_end {s : Sta} {k : Nat} (h : k + 1 = s.accs.length) : rowR s k (refK s k) = heldR s := by
  have h2 : s.accs.length - k - 1 = 0 := by omega
  unfold rowR heldR
  rw [h2, ← h, List.range_succ]
  simp
def heldRC0 (args : List AV) (bs : List Box) (K : AV → List Box → Prop) : Prop := bs = [] ∧ ∃ (s : Sta), args = [staA s] ∧ Small s ∧ K (.sl (.own 12000) 3 (iA (heldR s))) []
def heldRC (args : List AV) (bs : List Box) (K : AV → List Box → Prop) : Prop := bs = [] ∧ ∃ (s : Sta), args = [staA s] ∧ Small s ∧ K (.sl .fz 3 (iA (heldR s))) []
/-- What stands before round k: nothing is left to do at the end. -/
def rowB (s : Sta) (k : Nat) : List Int := if k < s.accs.length then rowR s k 0 else heldR s
set_option maxRecDepth 200000 in
set_option maxHeartbeats 6400000 in
theorem heldR_ok0 : FnOk Tryz.prog tab 31 heldRC0 := by
  refine fn_ok (E := R0_E pl31) tab_is R0_ok (R0_J _) Tryz.func31 rfl rfl (by kernel_rfl) ?_
  rintro args bs K ⟨rfl, s, rfl, hS, hK⟩
  refine ⟨rfl, ?_⟩
  obtain ⟨hSa, hSp, hSg, hSk, hSb⟩ := hS
  have b1 : (((s.accs.map accA).length : Nat) : Int) * ((8 : Nat) : Int) ≤ 140737488355328 := by simp; omega
  have b2 : (((s.accs.map accA).length : Nat) : Int) ≤ 9223372036854775807 := by simp; omega
  have st0 : AV.sl (.own 12000) 3 (List.replicate (((s.accs.map accA).length : Nat) : Int).toNat (.int .i64 0)) = .sl (.own 12000) 3 (iA (rowB s 0)) := by
    have e : List.replicate s.accs.length (0 : Int) = rowB s 0 := by
      unfold rowB
      split
      · rename_i h; exact rowR_start s h
      · rename_i h
        have : s.accs.length = 0 := by omega
        unfold heldR
        rw [this]; rfl
    rw [← e]
    simp [iA]
  refine ⟨Int.natCast_nonneg _, Int.le_refl _, b1, b2, ?_⟩
  refine ⟨fun m st => ∃ (k : Nat), (k ≤ s.accs.length) ∧ s.accs.length - k = m ∧ st.t 1 = .ptr 1 0 ∧ st.t 3 = .sl (.own 12000) 3 (iA (rowB s k)) ∧ st.t 14 = .int .i64 (s.accs.length : Nat) ∧ st.t 15 = .int .i64 k ∧ st.h 1 = staBa s,
    ⟨_, 0, Nat.zero_le _, rfl, rfl, st0, ?_, rfl, (by kernel_rfl)⟩, ?_⟩
  · show AV.int .i64 ((List.replicate (((s.accs.map accA).length : Nat) : Int).toNat (AV.int .i64 0)).length : Nat) = _
    simp
  rintro _ ⟨t1, h1⟩ ⟨k, hk, rfl, e1, e3, e14, e15, b1⟩
  have e1 : t1 1 = .ptr 1 0 := e1
  have e3 : t1 3 = .sl (.own 12000) 3 (iA (rowB s k)) := e3
  have e14 : t1 14 = .int .i64 (s.accs.length : Nat) := e14
  have e15 : t1 15 = .int .i64 k := e15
  have b1 : h1 1 = staBa s := b1
  rw [← updL_has t1 [(1, .ptr 1 0), (3, .sl (.own 12000) 3 (iA (rowB s k))), (14, .int .i64 (s.accs.length : Nat)), (15, .int .i64 k)] ⟨e1, e3, e14, e15, trivial⟩, ← updL_has h1 [(1, staBa s)] ⟨b1, trivial⟩]
  constructor
  · intro hb
    have hk' : k < s.accs.length := by
      have : (k : Int) < (s.accs.length : Nat) := by simpa using hb
      omega
    have wk : IntKind.i64.wrap ((k : Int) + 1) = ((k + 1 : Nat) : Int) := by rw [wrap_of] <;> omega
    have hrb : rowB s k = rowR s k 0 := by unfold rowB; rw [if_pos hk']
    rw [hrb]
    refine ⟨fun m st => ∃ (j : Nat) (v : Int), (j ≤ s.pays.length ∧ v = (s.pays.take j).foldl (stepPr k) 0) ∧ s.pays.length - j = m ∧ st.t 1 = .ptr 1 0 ∧ st.t 3 = .sl (.own 12000) 3 (iA (rowR s k v)) ∧ st.t 4 = .int .i64 k ∧ st.t 14 = .int .i64 (s.accs.length : Nat) ∧ st.t 15 = .int .i64 k ∧ st.t 19 = paysA s.pays ∧ st.t 20 = .int .i64 ((s.pays.map payA).length : Nat) ∧ st.t 21 = .int .i64 j ∧ st.h 1 = staBa s,
      ⟨_, 0, 0, ⟨Nat.zero_le _, rfl⟩, rfl, rfl, rfl, rfl, rfl, rfl, rfl, rfl, rfl, rfl⟩, ?_⟩
    rintro _ ⟨t2, h2⟩ ⟨j, v, ⟨hj, hv⟩, rfl, f1, f3, f4, f14, f15, f19, f20, f21, b1⟩
    have f1 : t2 1 = .ptr 1 0 := f1
    have f3 : t2 3 = .sl (.own 12000) 3 (iA (rowR s k v)) := f3
    have f4 : t2 4 = .int .i64 k := f4
    have f14 : t2 14 = .int .i64 (s.accs.length : Nat) := f14
    have f15 : t2 15 = .int .i64 k := f15
    have f19 : t2 19 = paysA s.pays := f19
    have f20 : t2 20 = .int .i64 ((s.pays.map payA).length : Nat) := f20
    have f21 : t2 21 = .int .i64 j := f21
    have b1 : h2 1 = staBa s := b1
    rw [← updL_has t2 [(1, .ptr 1 0), (3, .sl (.own 12000) 3 (iA (rowR s k v))), (4, .int .i64 k), (14, .int .i64 (s.accs.length : Nat)), (15, .int .i64 k), (19, paysA s.pays), (20, .int .i64 ((s.pays.map payA).length : Nat)), (21, .int .i64 j)] ⟨f1, f3, f4, f14, f15, f19, f20, f21, trivial⟩, ← updL_has h2 [(1, staBa s)] ⟨b1, trivial⟩]
    constructor
    · intro hb
      have hj' : j < s.pays.length := by
        have : (j : Int) < ((s.pays.map payA).length : Nat) := by simpa using hb
        simp at this; omega
      have w : IntKind.i64.wrap ((j : Int) + 1) = ((j + 1 : Nat) : Int) := by rw [wrap_of] <;> omega
      have hlt : s.pays.length - (j + 1) < s.pays.length - j := by omega
      obtain ⟨p, hp⟩ : ∃ p, s.pays[j]? = some p := ⟨_, List.getElem?_eq_getElem hj'⟩
      have hst := foldl_next (f := stepPr k) (b := 0) hp
      rw [← hv] at hst
      have hat : (iA (rowR s k v))[((k : Int)).toNat]? = some (.int .i64 v) := iA_of (rowR_at v)
      have hk0 : (0 : Int) ≤ (k : Int) := Int.natCast_nonneg k
      refine ⟨_, Int.natCast_nonneg j, map_of hp, ?_⟩
      by_cases hc : p.src = (k : Int) ∧ p.stage = 0
      · have hs : stepPr k v p = w64 (v + w64 (p.auth - p.capt)) := by unfold stepPr; rw [if_pos hc]
        have hrow : AV.sl (.own 12000) 3 ((iA (rowR s k v)).modify ((k : Int)).toNat (fun x => x.ofCells (putCells x.cells 0 [.int .i64 (w64 (v + w64 (p.auth - p.capt)))]))) = .sl (.own 12000) 3 (iA (rowR s k (stepPr k v p))) := by
          rw [iA_put, hs]
          congr 2
          exact rowR_set v _
        have c1 : (p.src == (k : Int)) = true := by simp [hc.1]
        have c2 : (p.stage == 0) = true := by simp [hc.2]
        refine ⟨fun _ => ?_, fun h => absurd (h.symm.trans c1) (by decide)⟩
        refine ⟨fun _ => ?_, fun h => absurd (h.symm.trans c2) (by decide)⟩
        repeat' first
          | (refine ⟨_, hk0, hat, ?_⟩)
          | (refine ⟨_, hlt, j + 1, _, ⟨hj', hst.symm⟩, rfl, rfl, hrow, rfl, rfl, rfl, rfl, rfl, congrArg (AV.int .i64) w, (by kernel_rfl)⟩)
          | (refine ⟨?_, ?_⟩)
          | fail
      · have hs : stepPr k v p = v := by unfold stepPr; rw [if_neg hc]
        have hrow : AV.sl (.own 12000) 3 (iA (rowR s k v)) = .sl (.own 12000) 3 (iA (rowR s k (stepPr k v p))) := by rw [hs]
        constructor
        · intro g1
          have g1 : p.src = (k : Int) := by simpa using g1
          constructor
          · intro g2
            have g2 : p.stage = 0 := by simpa using g2
            exact (hc ⟨g1, g2⟩).elim
          · intro _
            exact ⟨_, hlt, j + 1, _, ⟨hj', hst.symm⟩, rfl, rfl, hrow, rfl, rfl, rfl, rfl, rfl, congrArg (AV.int .i64) w, (by kernel_rfl)⟩
        · intro _
          refine ⟨fun h => Bool.noConfusion h, fun _ => ?_⟩
          exact ⟨_, hlt, j + 1, _, ⟨hj', hst.symm⟩, rfl, rfl, hrow, rfl, rfl, rfl, rfl, rfl, congrArg (AV.int .i64) w, (by kernel_rfl)⟩
    · intro hb
      have hj' : j = s.pays.length := by
        have : ¬ (j : Int) < ((s.pays.map payA).length : Nat) := by simpa using hb
        simp at this; omega
      subst hj'
      rw [List.take_length] at hv
      refine ⟨fun m st => ∃ (j : Nat) (v : Int), (j ≤ s.sags.length ∧ v = (s.sags.take j).foldl (stepGr k) (s.pays.foldl (stepPr k) 0)) ∧ s.sags.length - j = m ∧ st.t 1 = .ptr 1 0 ∧ st.t 3 = .sl (.own 12000) 3 (iA (rowR s k v)) ∧ st.t 4 = .int .i64 k ∧ st.t 14 = .int .i64 (s.accs.length : Nat) ∧ st.t 15 = .int .i64 k ∧ st.t 47 = sagsA s.sags ∧ st.t 48 = .int .i64 ((s.sags.map sagA).length : Nat) ∧ st.t 49 = .int .i64 j ∧ st.h 1 = staBa s,
        ⟨_, 0, v, ⟨Nat.zero_le _, hv⟩, rfl, rfl, rfl, rfl, rfl, rfl, rfl, rfl, rfl, rfl⟩, ?_⟩
      rintro _ ⟨t3, h3⟩ ⟨j, v, ⟨hj, hv⟩, rfl, f1, f3, f4, f14, f15, f47, f48, f49, b1⟩
      have f1 : t3 1 = .ptr 1 0 := f1
      have f3 : t3 3 = .sl (.own 12000) 3 (iA (rowR s k v)) := f3
      have f4 : t3 4 = .int .i64 k := f4
      have f14 : t3 14 = .int .i64 (s.accs.length : Nat) := f14
      have f15 : t3 15 = .int .i64 k := f15
      have f47 : t3 47 = sagsA s.sags := f47
      have f48 : t3 48 = .int .i64 ((s.sags.map sagA).length : Nat) := f48
      have f49 : t3 49 = .int .i64 j := f49
      have b1 : h3 1 = staBa s := b1
      rw [← updL_has t3 [(1, .ptr 1 0), (3, .sl (.own 12000) 3 (iA (rowR s k v))), (4, .int .i64 k), (14, .int .i64 (s.accs.length : Nat)), (15, .int .i64 k), (47, sagsA s.sags), (48, .int .i64 ((s.sags.map sagA).length : Nat)), (49, .int .i64 j)] ⟨f1, f3, f4, f14, f15, f47, f48, f49, trivial⟩, ← updL_has h3 [(1, staBa s)] ⟨b1, trivial⟩]
      constructor
      · intro hb
        have hj' : j < s.sags.length := by
          have : (j : Int) < ((s.sags.map sagA).length : Nat) := by simpa using hb
          simp at this; omega
        have w : IntKind.i64.wrap ((j : Int) + 1) = ((j + 1 : Nat) : Int) := by rw [wrap_of] <;> omega
        have hlt : s.sags.length - (j + 1) < s.sags.length - j := by omega
        obtain ⟨p, hp⟩ : ∃ p, s.sags[j]? = some p := ⟨_, List.getElem?_eq_getElem hj'⟩
        have hst := foldl_next (f := stepGr k) (b := s.pays.foldl (stepPr k) 0) hp
        rw [← hv] at hst
        have hat : (iA (rowR s k v))[((k : Int)).toNat]? = some (.int .i64 v) := iA_of (rowR_at v)
        have hk0 : (0 : Int) ≤ (k : Int) := Int.natCast_nonneg k
        refine ⟨_, Int.natCast_nonneg j, map_of hp, ?_⟩
        constructor
        · intro g1
          have g1 : p.req.a = (k : Int) := by simpa using g1
          have hs : stepGr k v p = w64 (v + p.req.amt) := by unfold stepGr; rw [if_pos g1]
          have hrow : AV.sl (.own 12000) 3 ((iA (rowR s k v)).modify ((k : Int)).toNat (fun x => x.ofCells (putCells x.cells 0 [.int .i64 (w64 (v + p.req.amt))]))) = .sl (.own 12000) 3 (iA (rowR s k (stepGr k v p))) := by
            rw [iA_put, hs]
            congr 2
            exact rowR_set v _
          repeat' first
            | (refine ⟨_, hk0, hat, ?_⟩)
            | (refine ⟨_, hlt, j + 1, _, ⟨hj', hst.symm⟩, rfl, rfl, hrow, rfl, rfl, rfl, rfl, rfl, congrArg (AV.int .i64) w, (by kernel_rfl)⟩)
            | (refine ⟨?_, ?_⟩)
            | fail
        · intro g1
          have g1 : ¬ p.req.a = (k : Int) := by simpa using g1
          have hs : stepGr k v p = v := by unfold stepGr; rw [if_neg g1]
          have hrow : AV.sl (.own 12000) 3 (iA (rowR s k v)) = .sl (.own 12000) 3 (iA (rowR s k (stepGr k v p))) := by rw [hs]
          exact ⟨_, hlt, j + 1, _, ⟨hj', hst.symm⟩, rfl, rfl, hrow, rfl, rfl, rfl, rfl, rfl, congrArg (AV.int .i64) w, (by kernel_rfl)⟩
      · intro hb
        have hj' : j = s.sags.length := by
          have : ¬ (j : Int) < ((s.sags.map sagA).length : Nat) := by simpa using hb
          simp at this; omega
        subst hj'
        rw [List.take_length] at hv
        have hv : v = refK s k := hv
        have hnext : rowR s k v = rowB s (k + 1) := by
          rw [hv]
          unfold rowB
          split
          · rename_i h; exact rowR_next h
          · exact rowR_end (by omega)
        exact ⟨_, (by omega : s.accs.length - (k + 1) < s.accs.length - k), k + 1, hk', rfl, rfl, congrArg (fun l => AV.sl (.own 12000) 3 (iA l)) hnext, rfl, congrArg (AV.int .i64) wk, rfl⟩
  · intro hb
    have hk' : k = s.accs.length := by
      have : ¬ (k : Int) < (s.accs.length : Nat) := by simpa using hb
      omega
    subst hk'
    have e : rowB s s.accs.length = heldR s := by unfold rowB; rw [if_neg (by omega)]
    rw [← e] at hK
    exact hK
theorem heldR_ok : FnOk Tryz.prog tab 31 heldRC := heldR_ok0.fz.mono (by
  rintro args bs K ⟨rfl, s, rfl, hS, hK⟩
  exact ⟨rfl, rfl, s, rfl, hS, _, fz_own _ _ _, hK⟩)
theorem addAt_get (l : List Int) (k n : Int) (j : Nat) : (addAt l k n)[j]? = if k = (j : Int) then (l[j]?).map (fun x => w64 (x + n)) else l[j]? := by
  unfold addAt
  by_cases h0 : 0 ≤ k
  · rw [if_pos h0]
    cases hx : l[k.toNat]? with
    | none =>
      by_cases hj : k = (j : Int)
      · subst hj
        have hx : l[j]? = none := hx
        simp [hx]
      · simp [hj]
    | some x =>
      by_cases hj : k = (j : Int)
      · subst hj
        have hx : l[j]? = some x := hx
        obtain ⟨hlt, he⟩ := List.getElem?_eq_some_iff.1 hx
        simp [hlt, he]
      · have : ¬ k.toNat = j := by omega
        simp [hj, this]
  · rw [if_neg h0]
    have : ¬ k = (j : Int) := by omega
    simp [this]
theorem w64_w (n : Int) : w64 (w64 n) = w64 n := by
  unfold w64
  simp [IntKind.wrap, IntKind.signed, IntKind.bits]; omega
theorem foldP_get (j : Nat) : ∀ (ps : List Pay) (l : List Int) (x : Int), l[j]? = some x → w64 x = x → ∃ y, (ps.foldl addP l)[j]? = some y ∧ y = ps.foldl (stepPr j) x ∧ w64 y = y
  | [], l, x, h, hw => ⟨x, h, rfl, hw⟩
  | p :: ps, l, x, h, hw => by
    rw [List.foldl_cons, List.foldl_cons]
    have hg := addAt_get l p.src (left p) j
    have key : ∃ y, (addP l p)[j]? = some y ∧ y = stepPr j x p ∧ w64 y = y := by
      show ∃ y, (addAt l p.src (left p))[j]? = some y ∧ _
      rw [hg, h]
      unfold stepPr left
      by_cases h1 : p.src = (j : Int)
      · by_cases h2 : p.stage = 0
        · refine ⟨w64 (x + w64 (p.auth - p.capt)), by simp [h1, h2], by simp [h1, h2], w64_w _⟩
        · refine ⟨x, by simp [h1, h2, hw], by simp [h2], hw⟩
      · exact ⟨x, by simp [h1], by simp [h1], hw⟩
    obtain ⟨y, e1, e2, e3⟩ := key
    rw [← e2]
    exact foldP_get j ps _ y e1 e3
theorem foldG_get (j : Nat) : ∀ (ps : List Sag) (l : List Int) (x : Int), l[j]? = some x → ∃ y, (ps.foldl addG l)[j]? = some y ∧ y = ps.foldl (stepGr j) x
  | [], l, x, h => ⟨x, h, rfl⟩
  | p :: ps, l, x, h => by
    rw [List.foldl_cons, List.foldl_cons]
    have hg := addAt_get l p.req.a p.req.amt j
    have key : ∃ y, (addG l p)[j]? = some y ∧ y = stepGr j x p := by
      show ∃ y, (addAt l p.req.a p.req.amt)[j]? = some y ∧ _
      rw [hg, h]
      unfold stepGr
      by_cases h1 : p.req.a = (j : Int)
      · exact ⟨w64 (x + p.req.amt), by simp [h1], by simp [h1]⟩
      · exact ⟨x, by simp [h1], by simp [h1]⟩
    obtain ⟨y, e1, e2⟩ := key
    rw [← e2]
    exact foldG_get j ps _ y e1
/-- Both are the same. -/
theorem held_eq (s : Sta) : heldR s = heldL s := by
  apply List.ext_getElem?
  intro j
  unfold heldR
  rw [List.getElem?_map]
  by_cases hj : j < s.accs.length
  · rw [List.getElem?_range hj]
    have h0 : (List.replicate s.accs.length (0 : Int))[j]? = some 0 := by simp [hj]
    obtain ⟨y, e1, e2, _⟩ := foldP_get j s.pays _ 0 h0 (by decide)
    obtain ⟨z, e3, e4⟩ := foldG_get j s.sags _ y e1
    unfold heldL
    rw [e3, e4, e2]; rfl
  · have h1 : (heldL s)[j]? = none := List.getElem?_eq_none (by rw [heldL_len]; omega)
    rw [h1, List.getElem?_eq_none (by simp; omega)]; rfl
end Go.Proofs.YtjffmldlkofpaaaGreatDoor.A
