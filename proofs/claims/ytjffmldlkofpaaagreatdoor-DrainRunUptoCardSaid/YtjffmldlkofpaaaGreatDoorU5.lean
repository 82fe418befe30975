/- audit.holds, audit.Quiet, audit.known, chart.New. -/
import Derived.Test.YtjffmldlkofpaaaGreatDoorU4
namespace Go.Proofs.YtjffmldlkofpaaaGreatDoor.A
open Go Q
def holdsOk (s : Sta) : Bool := decide (s.accs.map (·.held) = heldL s)
def holdsC (args : List AV) (bs : List Box) (K : AV → List Box → Prop) : Prop := bs = [] ∧ ∃ (s : Sta), args = [staA s] ∧ Small s ∧ K (.bool (holdsOk s)) []
def R5 : Contract
  | 30 => heldC
  | _ => fun _ _ _ => False
theorem R5_ok : CallOk Tryz.prog tab R5 := by
  intro f args bs K h
  unfold R5 at h
  split at h
  · exact ⟨_, h, held_ok⟩
  · exact h.elim
def R5_E (pl : Nat → Plan) : En := ⟨tab, R5, fun _ => none, 0, pl⟩
theorem R5_J (pl : Nat → Plan) : JOk Tryz.prog (R5_E pl).T (R5_E pl).J := fun _ _ h => by cases h
set_option maxRecDepth 200000 in
set_option maxHeartbeats 1600000 in
theorem holds_ok : FnOk Tryz.prog tab 59 holdsC := by
  refine fn_ok (E := R5_E pl59) tab_is R5_ok (R5_J _) Tryz.func59 rfl rfl (by kernel_rfl) ?_
  rintro args bs K ⟨rfl, s, rfl, hS, hK⟩
  refine ⟨rfl, ?_⟩
  have fin : ∀ n, n = holdsOk s → K (.bool n) [] := fun n e => e ▸ hK
  have hlen := heldL_len s
  have hSa := hS.a
  refine ⟨rfl, s, rfl, hS, ?_⟩
  refine ⟨fun m st => ∃ (i : Nat), (i ≤ s.accs.length ∧ ∀ (j : Nat) (a : Acc), j < i → s.accs[j]? = some a → (heldL s)[j]? = some a.held) ∧ s.accs.length - i = m ∧ st.t 1 = .ptr 1 0 ∧ st.t 6 = .sl .fz 3 (iA (heldL s)) ∧ st.t 7 = .int .i64 ((iA (heldL s)).length : Nat) ∧ st.t 8 = .int .i64 i ∧ st.h 1 = staBa s,
    ⟨_, 0, ⟨Nat.zero_le _, fun j p h => absurd h (Nat.not_lt_zero _)⟩, rfl, rfl, rfl, rfl, rfl, (by kernel_rfl)⟩, ?_⟩
  rintro _ ⟨t1, h1⟩ ⟨i, ⟨hi, hX⟩, rfl, e1, e6, e7, e8, b1⟩
  have e1 : t1 1 = .ptr 1 0 := e1
  have e6 : t1 6 = .sl .fz 3 (iA (heldL s)) := e6
  have e7 : t1 7 = .int .i64 ((iA (heldL s)).length : Nat) := e7
  have e8 : t1 8 = .int .i64 i := e8
  have b1 : h1 1 = staBa s := b1
  rw [← updL_has t1 [(1, .ptr 1 0), (6, .sl .fz 3 (iA (heldL s))), (7, .int .i64 ((iA (heldL s)).length : Nat)), (8, .int .i64 i)] ⟨e1, e6, e7, e8, trivial⟩, ← updL_has h1 [(1, staBa s)] ⟨b1, trivial⟩]
  constructor
  · intro hb
    have hi' : i < s.accs.length := by
      have : (i : Int) < ((iA (heldL s)).length : Nat) := by simpa using hb
      rw [iA_len] at this; omega
    have w : IntKind.i64.wrap ((i : Int) + 1) = ((i + 1 : Nat) : Int) := by rw [wrap_of] <;> omega
    obtain ⟨n, hn⟩ : ∃ n, (heldL s)[i]? = some n := ⟨_, List.getElem?_eq_getElem (by omega)⟩
    obtain ⟨a, ha⟩ : ∃ a, s.accs[i]? = some a := ⟨_, List.getElem?_eq_getElem hi'⟩
    refine ⟨_, Int.natCast_nonneg i, iA_of hn, _, Int.natCast_nonneg i, map_of ha, ?_⟩
    constructor
    · intro hne
      have hne : ¬ a.held = n := by simpa using hne
      refine fin false ?_
      symm
      unfold holdsOk
      rw [decide_eq_false_iff_not]
      intro e
      have := congrArg (·[i]?) e
      simp only [List.getElem?_map, ha, hn, Option.map_some, Option.some.injEq] at this
      exact hne this
    · intro heq
      have heq : a.held = n := by simpa using heq
      refine ⟨_, (by omega : s.accs.length - (i + 1) < s.accs.length - i), i + 1, ⟨hi', ?_⟩, rfl, rfl, rfl, rfl, congrArg (AV.int .i64) w, rfl⟩
      intro j b hj hjb
      by_cases e : j = i
      · subst e; rw [ha] at hjb; cases hjb; rw [hn, heq]
      · exact hX j b (by omega) hjb
  · intro hb
    have hi' : i = s.accs.length := by
      have : ¬ (i : Int) < ((iA (heldL s)).length : Nat) := by simpa using hb
      rw [iA_len] at this; omega
    subst hi'
    refine fin true ?_
    symm
    unfold holdsOk
    rw [decide_eq_true_iff]
    apply List.ext_getElem?
    intro j
    rw [List.getElem?_map]
    cases hj : s.accs[j]? with
    | none =>
      have := List.getElem?_eq_none_iff.1 hj
      rw [List.getElem?_eq_none (by omega)]; rfl
    | some a => rw [hX j a (List.getElem?_eq_some_iff.1 hj).1 hj]; rfl
def quietB (s : Sta) : Bool := decide (s.sags.length = 0) && holdsOk s
def quietC (args : List AV) (bs : List Box) (K : AV → List Box → Prop) : Prop := bs = [] ∧ ∃ (s : Sta), args = [staA s] ∧ Small s ∧ K (.bool (quietB s)) []
def R6 : Contract
  | 59 => holdsC
  | _ => fun _ _ _ => False
theorem R6_ok : CallOk Tryz.prog tab R6 := by
  intro f args bs K h
  unfold R6 at h
  split at h
  · exact ⟨_, h, holds_ok⟩
  · exact h.elim
def R6_E (pl : Nat → Plan) : En := ⟨tab, R6, fun _ => none, 0, pl⟩
theorem R6_J (pl : Nat → Plan) : JOk Tryz.prog (R6_E pl).T (R6_E pl).J := fun _ _ h => by cases h
set_option maxRecDepth 200000 in
theorem quiet_ok : FnOk Tryz.prog tab 34 quietC := by
  refine fn_ok (E := R6_E pl34) tab_is R6_ok (R6_J _) Tryz.func34 rfl rfl (by kernel_rfl) ?_
  rintro args bs K ⟨rfl, s, rfl, hS, hK⟩
  refine ⟨rfl, ?_⟩
  have fin : ∀ n, n = quietB s → K (.bool n) [] := fun n e => e ▸ hK
  constructor
  · intro h
    have h : ((s.sags.map sagA).length : Int) = 0 := by simpa using h
    have h' : s.sags.length = 0 := by rw [List.length_map] at h; omega
    refine ⟨rfl, s, rfl, hS, ?_⟩
    exact fin _ (by simp [quietB, h'])
  · intro h
    have h : ¬ ((s.sags.map sagA).length : Int) = 0 := by simpa using h
    have h' : ¬ s.sags.length = 0 := by rw [List.length_map] at h; omega
    exact fin false (by simp only [quietB, h', decide_false, Bool.false_and])
def allX {α : Type} (f : Int → α → Bool) : Int → List α → Bool
  | _, [] => true
  | k, a :: l => f k a && allX f (k + 1) l
theorem allX_no {α : Type} {f : Int → α → Bool} : ∀ {l : List α} {i : Nat} {a : α} {o : Int}, l[i]? = some a → f (o + i) a = false → allX f o l = false
  | [], i, _, _, h, _ => by simp at h
  | b :: l, 0, a, o, h, hk => by simp at h; subst h; simp at hk; simp [allX, hk]
  | b :: l, i + 1, a, o, h, hk => by
    have : allX f (o + 1) l = false := allX_no (i := i) (by simpa using h) (by rw [← hk]; congr 1; omega)
    simp [allX, this]
theorem allX_yes {α : Type} {f : Int → α → Bool} : ∀ {l : List α} {o : Int}, (∀ (i : Nat) (a : α), l[i]? = some a → f (o + i) a = true) → allX f o l = true
  | [], _, _ => rfl
  | b :: l, o, h => by
    have h0 := h 0 b rfl
    have h1 : allX f (o + 1) l = true := allX_yes (fun i a ha => by
      have := h (i + 1) a (by simpa using ha)
      rw [← this]; congr 1; omega)
    simp at h0
    simp [allX, h0, h1]
def gkeys (s : Sta) : List Int := s.sags.map (·.req.key)
def knOk1 (s : Sta) (i : Int) (k : Kno) : Bool := decide (findK s.kns k.req.key 0 = i) && (k.told || decide (k.req.key ∈ gkeys s))
def knownB (s : Sta) : Bool := decide (gkeys s).Nodup && allX (knOk1 s) 0 s.kns
def seenE (n : Int) : AV × AV := (.int .i64 n, .bool true)
theorem keyEq_i (a b : Int) : keyEq (.int .i64 a) (.int .i64 b) = some (a == b) := rfl
theorem mfind_new {k : Int} : ∀ {l : List Int}, k ∉ l → mfind (.int .i64 k) (l.map seenE) = some none
  | [], _ => rfl
  | n :: l, h => by
    have h1 : ¬ k = n := fun e => h (e ▸ List.mem_cons_self ..)
    have e : (k == n) = false := by simpa using h1
    simp only [List.map_cons, seenE, mfind, keyEq_i, e]
    exact mfind_new (fun hm => h (List.mem_cons_of_mem _ hm))
theorem mfind_in {k : Int} : ∀ {l : List Int}, k ∈ l → mfind (.int .i64 k) (l.map seenE) = some (some (.bool true))
  | [], h => by simp at h
  | n :: l, h => by
    simp only [List.map_cons, seenE, mfind, keyEq_i]
    by_cases e : k = n
    · subst e; simp
    · have e' : (k == n) = false := by simpa using e
      rw [e']
      exact mfind_in ((List.mem_cons.1 h).resolve_left e)
theorem mset_new {k : Int} : ∀ {l : List Int}, k ∉ l → mset (.int .i64 k) (.bool true) (l.map seenE) = some ((l ++ [k]).map seenE)
  | [], _ => rfl
  | n :: l, h => by
    have h1 : ¬ k = n := fun e => h (e ▸ List.mem_cons_self ..)
    have e : (k == n) = false := by simpa using h1
    have ih := mset_new (l := l) (fun hm => h (List.mem_cons_of_mem _ hm))
    simp only [List.map_cons, List.cons_append]
    show mset (.int .i64 k) (.bool true) ((.int .i64 n, .bool true) :: l.map seenE) = some ((.int .i64 n, .bool true) :: (l ++ [k]).map seenE)
    simp only [mset, keyEq_i, e, ih]
theorem seen_map {φ : AV → AV} (h : φ (.bool true) = .bool true) (l : List Int) : (l.map seenE).map (fun p => (p.1, AV.tr φ p.2)) = l.map seenE := by
  rw [List.map_map]
  apply List.map_congr_left
  intro n _
  show (AV.int .i64 n, AV.tr φ (.bool true)) = seenE n
  have : AV.tr φ (.bool true) = .bool true := by unfold AV.tr; exact h
  rw [this]; rfl
theorem seen_mapq {φ : AV → AV} (h : φ (.bool true) = .bool true) (l : List Int) : mapq (fun p : AV × AV => (p.1, AV.trq φ p.2)) (l.map seenE) = l.map seenE := by
  rw [mapq_eq, trq_eq]
  exact seen_map h l
def knownC (args : List AV) (bs : List Box) (K : AV → List Box → Prop) : Prop := bs = [] ∧ ∃ (s : Sta), args = [staA s] ∧ Small s ∧ K (.bool (knownB s)) []
def R7 : Contract
  | 80 => findC
  | _ => fun _ _ _ => False
theorem R7_ok : CallOk Tryz.prog tab R7 := by
  intro f args bs K h
  unfold R7 at h
  split at h
  · exact ⟨_, h, find_ok⟩
  · exact h.elim
def R7_E (pl : Nat → Plan) : En := ⟨tab, R7, fun _ => none, 0, pl⟩
theorem R7_J (pl : Nat → Plan) : JOk Tryz.prog (R7_E pl).T (R7_E pl).J := fun _ _ h => by cases h
set_option maxRecDepth 200000 in
set_option maxHeartbeats 3200000 in
theorem known_ok : FnOk Tryz.prog tab 60 knownC := by
  refine fn_ok (E := R7_E pl60) tab_is R7_ok (R7_J _) Tryz.func60 rfl rfl (by kernel_rfl) ?_
  rintro args bs K ⟨rfl, s, rfl, hS, hK⟩
  refine ⟨rfl, ?_⟩
  have fin : ∀ n, n = knownB s → K (.bool n) [] := fun n e => e ▸ hK
  obtain ⟨hSa, hSp, hSg, hSk, hSb⟩ := hS
  refine ⟨fun m st => ∃ (i : Nat), (i ≤ s.sags.length ∧ ((gkeys s).take i).Nodup) ∧ s.sags.length - i = m ∧ st.t 1 = .ptr 1 0 ∧ st.t 3 = .mp 8 ∧ st.t 10 = sagsA s.sags ∧ st.t 11 = .int .i64 ((s.sags.map sagA).length : Nat) ∧ st.t 12 = .int .i64 i ∧ st.h 1 = staBa s ∧ st.h 8 = some (.mapo (((gkeys s).take i).map seenE)),
    ⟨_, 0, ⟨Nat.zero_le _, List.Pairwise.nil⟩, rfl, rfl, rfl, rfl, rfl, rfl, (by kernel_rfl), (by kernel_rfl)⟩, ?_⟩
  rintro _ ⟨t1, h1⟩ ⟨i, ⟨hi, hX⟩, rfl, e1, e3, e10, e11, e12, b1, b8⟩
  have e1 : t1 1 = .ptr 1 0 := e1
  have e3 : t1 3 = .mp 8 := e3
  have e10 : t1 10 = sagsA s.sags := e10
  have e11 : t1 11 = .int .i64 ((s.sags.map sagA).length : Nat) := e11
  have e12 : t1 12 = .int .i64 i := e12
  have b1 : h1 1 = staBa s := b1
  have b8 : h1 8 = some (.mapo (((gkeys s).take i).map seenE)) := b8
  have hgl : (gkeys s).length = s.sags.length := by simp [gkeys]
  rw [← updL_has t1 [(1, .ptr 1 0), (3, .mp 8), (10, sagsA s.sags), (11, .int .i64 ((s.sags.map sagA).length : Nat)), (12, .int .i64 i)] ⟨e1, e3, e10, e11, e12, trivial⟩, ← updL_has h1 [(1, staBa s), (8, some (.mapo (((gkeys s).take i).map seenE)))] ⟨b1, b8, trivial⟩]
  constructor
  · intro hb
    have hi' : i < s.sags.length := by
      have : (i : Int) < ((s.sags.map sagA).length : Nat) := by simpa using hb
      simp at this; omega
    have w : IntKind.i64.wrap ((i : Int) + 1) = ((i + 1 : Nat) : Int) := by rw [wrap_of] <;> omega
    obtain ⟨g, hg⟩ : ∃ p, s.sags[i]? = some p := ⟨_, List.getElem?_eq_getElem hi'⟩
    have hgk : (gkeys s)[i]? = some g.req.key := by unfold gkeys; rw [List.getElem?_map, hg]; rfl
    have htk : (gkeys s).take (i + 1) = (gkeys s).take i ++ [g.req.key] := by rw [List.take_add_one, hgk]; rfl
    refine ⟨_, Int.natCast_nonneg i, map_of hg, ?_⟩
    have sm : mapq (fun p : AV × AV => (p.1, AV.trq (fgtBq 5) p.2)) (((gkeys s).take i).map seenE) = ((gkeys s).take i).map seenE := seen_mapq (φ := fgtBq 5) rfl _
    by_cases hm : g.req.key ∈ (gkeys s).take i
    · refine ⟨some (.bool true), (congrArg (mfind (.int .i64 g.req.key)) sm).trans (mfind_in hm), ?_⟩
      refine ⟨fun _ => ?_, fun h => Bool.noConfusion h⟩
      refine fin false ?_
      have hnd : ¬ (gkeys s).Nodup := by
        intro hn
        rw [← List.take_append_drop i (gkeys s)] at hn
        have hd : g.req.key ∈ (gkeys s).drop i := by
          obtain ⟨hlt, he⟩ := List.getElem?_eq_some_iff.1 hgk
          rw [List.drop_eq_getElem_cons hlt, he]; exact List.mem_cons_self ..
        exact (List.pairwise_append.1 hn).2.2 _ hm _ hd rfl
      simp [knownB, hnd]
    · refine ⟨none, (congrArg (mfind (.int .i64 g.req.key)) sm).trans (mfind_new hm), ?_⟩
      refine ⟨fun h => Bool.noConfusion h, fun _ => ?_⟩
      refine ⟨_, (congrArg (mset (.int .i64 g.req.key) (.bool true)) sm).trans (mset_new hm), ?_⟩
      refine ⟨_, (by omega : s.sags.length - (i + 1) < s.sags.length - i), i + 1, ⟨hi', ?_⟩, rfl, rfl, rfl, rfl, rfl, congrArg (AV.int .i64) w, (by kernel_rfl), ?_⟩
      · rw [htk, List.nodup_append]
        refine ⟨hX, List.nodup_cons.2 ⟨List.not_mem_nil, List.Pairwise.nil⟩, fun a ha b hb => ?_⟩
        rcases List.mem_singleton.1 hb with rfl
        exact fun e => hm (e ▸ ha)
      · rw [htk]
        rfl
  · intro hb
    have hi' : i = s.sags.length := by
      have : ¬ (i : Int) < ((s.sags.map sagA).length : Nat) := by simpa using hb
      simp at this; omega
    subst hi'
    have hgt : (gkeys s).take s.sags.length = gkeys s := by rw [← hgl, List.take_length]
    rw [hgt] at hX ⊢
    refine ⟨fun m st => ∃ (i : Nat), (i ≤ s.kns.length ∧ ∀ (j : Nat) (k : Kno), j < i → s.kns[j]? = some k → knOk1 s j k = true) ∧ s.kns.length - i = m ∧ st.t 1 = .ptr 1 0 ∧ st.t 3 = .mp 8 ∧ st.t 27 = knsA s.kns ∧ st.t 28 = .int .i64 ((s.kns.map knoA).length : Nat) ∧ st.t 29 = .int .i64 i ∧ st.h 1 = staBa s ∧ st.h 8 = some (.mapo ((gkeys s).map seenE)),
      ⟨_, 0, ⟨Nat.zero_le _, fun j p h => absurd h (Nat.not_lt_zero _)⟩, rfl, rfl, rfl, rfl, rfl, rfl, rfl, rfl⟩, ?_⟩
    rintro _ ⟨t2, h2⟩ ⟨i, ⟨hi, hY⟩, rfl, e1, e3, e27, e28, e29, b1, b8⟩
    have e1 : t2 1 = .ptr 1 0 := e1
    have e3 : t2 3 = .mp 8 := e3
    have e27 : t2 27 = knsA s.kns := e27
    have e28 : t2 28 = .int .i64 ((s.kns.map knoA).length : Nat) := e28
    have e29 : t2 29 = .int .i64 i := e29
    have b1 : h2 1 = staBa s := b1
    have b8 : h2 8 = some (.mapo ((gkeys s).map seenE)) := b8
    rw [← updL_has t2 [(1, .ptr 1 0), (3, .mp 8), (27, knsA s.kns), (28, .int .i64 ((s.kns.map knoA).length : Nat)), (29, .int .i64 i)] ⟨e1, e3, e27, e28, e29, trivial⟩, ← updL_has h2 [(1, staBa s), (8, some (.mapo ((gkeys s).map seenE)))] ⟨b1, b8, trivial⟩]
    constructor
    · intro hb
      have hi' : i < s.kns.length := by
        have : (i : Int) < ((s.kns.map knoA).length : Nat) := by simpa using hb
        simp at this; omega
      have w : IntKind.i64.wrap ((i : Int) + 1) = ((i + 1 : Nat) : Int) := by rw [wrap_of] <;> omega
      have hlt : s.kns.length - (i + 1) < s.kns.length - i := by omega
      obtain ⟨k, hk⟩ : ∃ p, s.kns[i]? = some p := ⟨_, List.getElem?_eq_getElem hi'⟩
      have no : knOk1 s i k = false → K (.bool false) [] := fun e => fin false (by
        have := allX_no (f := knOk1 s) (o := 0) hk (by rw [Int.zero_add]; exact e)
        simp [knownB, this])
      have yes : knOk1 s i k = true → ∀ (j : Nat) (q : Kno), j < i + 1 → s.kns[j]? = some q → knOk1 s j q = true := fun e j q hj hq => by
        by_cases h : j = i
        · subst h; rw [hk] at hq; cases hq; exact e
        · exact hY j q (by omega) hq
      refine ⟨_, Int.natCast_nonneg i, map_of hk, ?_⟩
      refine ⟨rfl, s.kns, k.req.key, rfl, by omega, ?_⟩
      have sm1 : (mapq (fun p : AV × AV => (p.1, AV.trq (fgtBq 7) p.2)) ((gkeys s).map seenE)) = (gkeys s).map seenE := seen_mapq (φ := fgtBq 7) rfl _
      have sm2 : mapq (fun p : AV × AV => (p.1, AV.trq (drpRq 39000 40000) p.2)) (mapq (fun p : AV × AV => (p.1, AV.trq (fgtBq 7) p.2)) ((gkeys s).map seenE)) = (gkeys s).map seenE := by
        rw [sm1]; exact seen_mapq (φ := drpRq 39000 40000) rfl _
      have bx : some (Box.mapo (mapq (fun p : AV × AV => (p.1, AV.trq (drpRq 39000 40000) p.2)) (mapq (fun p : AV × AV => (p.1, AV.trq (fgtBq 7) p.2)) ((gkeys s).map seenE)))) = some (.mapo ((gkeys s).map seenE)) := by rw [sm2]
      by_cases hm : k.req.key ∈ gkeys s
      · have hf : mfind (.int .i64 k.req.key) (mapq (fun p : AV × AV => (p.1, AV.trq (drpRq 39000 40000) p.2)) (mapq (fun p : AV × AV => (p.1, AV.trq (fgtBq 7) p.2)) ((gkeys s).map seenE))) = some (some (.bool true)) := by rw [sm2]; exact mfind_in hm
        repeat' first
          | (refine ⟨fun h => Bool.noConfusion h, fun _ => ?_⟩)
          | (refine ⟨fun _ => ?_, fun h => Bool.noConfusion h⟩)
          | (refine ⟨some (.bool true), hf, ?_⟩)
          | (refine ⟨fun h => ?_, fun h => ?_⟩)
          | (refine no ?_)
          | (refine ⟨_, hlt, i + 1, ⟨hi', yes ?_⟩, rfl, rfl, rfl, rfl, rfl, congrArg (AV.int .i64) w, (by kernel_rfl), bx⟩)
          | fail
        all_goals (clear hK fin no yes hX hY e1 e3 e27 e28 e29 b1 b8 sm1 sm2 bx hf; first | (simp_all [knOk1]; done) | (simp_all [knOk1]; omega))
      · have hf : mfind (.int .i64 k.req.key) (mapq (fun p : AV × AV => (p.1, AV.trq (drpRq 39000 40000) p.2)) (mapq (fun p : AV × AV => (p.1, AV.trq (fgtBq 7) p.2)) ((gkeys s).map seenE))) = some none := by rw [sm2]; exact mfind_new hm
        repeat' first
          | (refine ⟨fun h => Bool.noConfusion h, fun _ => ?_⟩)
          | (refine ⟨fun _ => ?_, fun h => Bool.noConfusion h⟩)
          | (refine ⟨none, hf, ?_⟩)
          | (refine ⟨fun h => ?_, fun h => ?_⟩)
          | (refine no ?_)
          | (refine ⟨_, hlt, i + 1, ⟨hi', yes ?_⟩, rfl, rfl, rfl, rfl, rfl, congrArg (AV.int .i64) w, (by kernel_rfl), bx⟩)
          | fail
        all_goals (clear hK fin no yes hX hY e1 e3 e27 e28 e29 b1 b8 sm1 sm2 bx hf; first | (simp_all [knOk1]; done) | (simp_all [knOk1]; omega))
    · intro hb
      have hi' : i = s.kns.length := by
        have : ¬ (i : Int) < ((s.kns.map knoA).length : Nat) := by simpa using hb
        simp at this; omega
      subst hi'
      refine fin true ?_
      have := allX_yes (f := knOk1 s) (l := s.kns) (o := 0) (fun j a ha => by rw [Int.zero_add]; exact hY j a (List.getElem?_eq_some_iff.1 ha).1 ha)
      simp [knownB, hX, this]
end Go.Proofs.YtjffmldlkofpaaaGreatDoor.A
