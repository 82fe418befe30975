/- audit.Held, with its closure; audit.holds, audit.Quiet. -/
import Derived.Test.YtjffmldlkofpaaaGreatDoorU3
namespace Go.Proofs.YtjffmldlkofpaaaGreatDoor.A
open Go Q
def iA (l : List Int) : List AV := l.map (AV.int .i64)
theorem iA_len (l : List Int) : (iA l).length = l.length := by simp [iA]
theorem iA_at {l : List Int} {i : Nat} (h : i < l.length) : (iA l)[i]? = some (.int .i64 l[i]) := by
  unfold iA
  rw [List.getElem?_map, List.getElem?_eq_getElem h]; rfl
theorem iA_of {l : List Int} {i : Nat} {n : Int} (h : l[i]? = some n) : (iA l)[i]? = some (.int .i64 n) := by
  unfold iA
  rw [List.getElem?_map, h]; rfl
theorem iA_put (l : List Int) (i : Nat) (n : Int) : (iA l).modify i (fun x => x.ofCells (putCells x.cells 0 [.int .i64 n])) = iA (l.set i n) := by
  unfold iA
  apply List.ext_getElem?
  intro j
  rw [List.getElem?_modify, List.getElem?_map, List.getElem?_map, List.getElem?_set]
  by_cases h : i = j
  · subst h
    by_cases hl : i < l.length
    · simp [hl, AV.cells, AV.ofCells, putCells]
    · simp [hl]
  · simp [h]
theorem fz_own (F : Nat) (e : TypeId) (xs : List AV) : Fz (.sl (.own F) e xs) (.sl .fz e xs) := .inl ⟨_, _, _, rfl, rfl⟩
def rowH (l : List Int) : Option Box := some (.cells 27 [.sl (.own 12000) 3 (iA l)])
noncomputable def jPutS : StSpec := fun args s K => ∃ (l : List Int) (k n : Int), args = [.int .i64 k, .int .i64 n, .ptr 3 0] ∧ s.h 3 = rowH l ∧
  ((∃ x, 0 ≤ k ∧ l[k.toNat]? = some x ∧ K (.tup []) (s.mapQ (wrtFq 12000 k.toNat 0 [.int .i64 (w64 (x + n))]))) ∨ (¬ (0 ≤ k ∧ k < l.length) ∧ K (.tup []) s))
def J0_E (D : Nat) (pl : Nat → Plan) : En := ⟨tab, fun _ _ _ _ => False, fun _ => none, D, pl⟩
theorem J0_C (D : Nat) (pl : Nat → Plan) : CallOk Tryz.prog (J0_E D pl).T (J0_E D pl).R := fun _ _ _ _ h => h.elim
theorem J0_J (D : Nat) (pl : Nat → Plan) : JOk Tryz.prog (J0_E D pl).T (J0_E D pl).J := fun _ _ h => by cases h
theorem inl_go {E : En} {fn : Func} {code : Code} {args : List AV} {s : St} {K : AV → St → Prop} (hl : Nat.ble args.length fn.ntmps = true) (h : wpA E code (bodyJ E.T fn K) (pushS args s)) : inlJ E fn code args s K := by
  unfold inlJ
  rw [hl]
  exact h
theorem wp_toldH {E : En} {c : Code} {Q : Ex → St → Prop} {t : Nat → AV} {h : Nat → Option Box} (lb : List (Nat × Option Box)) (hh : Has h lb) (g : wpA E c Q ⟨t, updL h lb⟩) : wpA E c Q ⟨t, h⟩ := by
  rw [updL_has h lb hh] at g
  exact g
theorem wp_told {E : En} {c : Code} {Q : Ex → St → Prop} {t : Nat → AV} {h : Nat → Option Box} (l : List (Nat × AV)) (lb : List (Nat × Option Box)) (ht : Has t l) (hh : Has h lb) (g : wpA E c Q ⟨updL t l, updL h lb⟩) : wpA E c Q ⟨t, h⟩ := by
  rw [updL_has t l ht, updL_has h lb hh] at g
  exact g
set_option maxRecDepth 200000 in
theorem putH_ok : SOk Tryz.prog tab 61 jPutS := by
  refine SOk.mono (inl_ok (E := J0_E 230000 pl61) tab_is (J0_C _ _) (J0_J _ _) Tryz.func61 (by kernel_rfl) rfl (by kernel_rfl)) ?_
  rintro args ⟨t, h⟩ K ⟨l, k, n, rfl, h3, hIO⟩
  have h3 : h 3 = rowH l := h3
  have hh : updL h [(3, rowH l)] = h := updL_has h _ ⟨h3, trivial⟩
  refine inl_go rfl (wp_toldH [(3, rowH l)] ⟨h3, trivial⟩ ?_)
  rcases hIO with ⟨x, h0, hx, hK⟩ | ⟨hn, hK⟩
  · have hkl : k < (l.length : Int) := by
      have := (List.getElem?_eq_some_iff.1 hx).1
      omega
    have hki : k < ((iA l).length : Nat) := by rw [iA_len]; exact hkl
    rw [← hh] at hK
    have fin : ∀ t' : Nat → AV, (∀ j, t' (j + 1000000) = t j) → K (.tup []) (popS (St.mapQ ⟨t', updL h [(3, rowH l)]⟩ (wrtFq 12000 k.toNat 0 [.int .i64 (w64 (x + n))]))) := fun t' ht => by
      rw [mapQ_eq, wrtFq_eq] at hK ⊢
      rw [pop_map, pop_eq ht]
      exact hK
    refine ⟨fun _ => ?_, fun hf => ?_⟩
    · refine ⟨fun _ => ?_, fun hf => ?_⟩
      · refine ⟨_, h0, iA_of hx, ?_⟩
        refine ⟨_, h0, iA_of hx, ?_⟩
        refine ⟨_, rfl, ?_⟩
        refine fin _ (fun j => ?_)
        (repeat rw [upd_over])
        · exact push_at j
        all_goals rfl
      · exfalso
        have : ¬ k < ((iA l).length : Nat) := by simpa using hf
        exact this hki
    · exfalso
      have : ¬ 0 ≤ k := by simpa using hf
      exact this h0
  · rw [← hh] at hK
    refine ⟨fun hk => ?_, fun hk => ?_⟩
    · have hk : 0 ≤ k := by simpa using hk
      refine ⟨fun hf => ?_, fun hf => ?_⟩
      · exfalso
        have hf : k < ((iA l).length : Nat) := by simpa using hf
        rw [iA_len] at hf
        exact hn ⟨hk, hf⟩
      · refine ⟨_, pop_eq (fun j => ?_), hK⟩
        (repeat rw [upd_over])
        · exact push_at j
        all_goals rfl
    · refine ⟨fun h => Bool.noConfusion h, fun _ => ?_⟩
      refine ⟨_, pop_eq (fun j => ?_), hK⟩
      (repeat rw [upd_over])
      · exact push_at j
      all_goals rfl
noncomputable def JH : FuncId → Option StSpec
  | 61 => some jPutS
  | _ => none
theorem JH_ok : JOk Tryz.prog tab JH := by
  intro f j h
  unfold JH at h
  split at h
  · cases h; exact putH_ok
  · cases h
def addAt (l : List Int) (k n : Int) : List Int := if 0 ≤ k then match l[k.toNat]? with
  | some x => l.set k.toNat (w64 (x + n))
  | none => l else l
theorem addAt_len (l : List Int) (k n : Int) : (addAt l k n).length = l.length := by
  unfold addAt
  split
  · split <;> simp
  · rfl
def addP (l : List Int) (p : Pay) : List Int := addAt l p.src (left p)
def addG (l : List Int) (g : Sag) : List Int := addAt l g.req.a g.req.amt
def heldL (s : Sta) : List Int := s.sags.foldl addG (s.pays.foldl addP (List.replicate s.accs.length 0))
theorem foldP_len (ps : List Pay) : ∀ l : List Int, (ps.foldl addP l).length = l.length := by
  induction ps with
  | nil => intro l; rfl
  | cons p ps ih => intro l; rw [List.foldl_cons, ih]; exact addAt_len _ _ _
theorem foldG_len (ps : List Sag) : ∀ l : List Int, (ps.foldl addG l).length = l.length := by
  induction ps with
  | nil => intro l; rfl
  | cons p ps ih => intro l; rw [List.foldl_cons, ih]; exact addAt_len _ _ _
theorem heldL_len (s : Sta) : (heldL s).length = s.accs.length := by
  unfold heldL
  rw [foldG_len, foldP_len, List.length_replicate]
theorem foldl_next {α β : Type} {f : β → α → β} {l : List α} {b : β} {i : Nat} {x : α} (h : l[i]? = some x) : (l.take (i + 1)).foldl f b = f ((l.take i).foldl f b) x := by
  rw [List.take_add_one, List.foldl_append, h]; rfl
structure Small (s : Sta) : Prop where
  a : s.accs.length < 1152921504606846976
  p : s.pays.length < 1152921504606846976
  g : s.sags.length < 1152921504606846976
  k : s.kns.length < 1152921504606846976
  b : s.accs.length * 8 ≤ 140737488355328
def heldC0 (args : List AV) (bs : List Box) (K : AV → List Box → Prop) : Prop := bs = [] ∧ ∃ (s : Sta), args = [staA s] ∧ Small s ∧ K (.sl (.own 12000) 3 (iA (heldL s))) []
def heldC (args : List AV) (bs : List Box) (K : AV → List Box → Prop) : Prop := bs = [] ∧ ∃ (s : Sta), args = [staA s] ∧ Small s ∧ K (.sl .fz 3 (iA (heldL s))) []
def R4 : Contract
  | 35 => leftC
  | _ => fun _ _ _ => False
theorem R4_ok : CallOk Tryz.prog tab R4 := by
  intro f args bs K h
  unfold R4 at h
  split at h
  · exact ⟨_, h, left_ok⟩
  · exact h.elim
def R4_E (pl : Nat → Plan) : En := ⟨tab, R4, fun _ => none, 0, pl⟩
theorem R4_J (pl : Nat → Plan) : JOk Tryz.prog (R4_E pl).T (R4_E pl).J := fun _ _ h => by cases h
noncomputable def R4_H (pl : Nat → Plan) : En := ⟨tab, R4, JH, 0, pl⟩
set_option maxRecDepth 200000 in
set_option maxHeartbeats 3200000 in
theorem held_ok0 : FnOk Tryz.prog tab 30 heldC0 := by
  refine fn_ok (E := R4_H pl30) tab_is R4_ok JH_ok Tryz.func30 rfl rfl (by kernel_rfl) ?_
  rintro args bs K ⟨rfl, s, rfl, hS, hK⟩
  refine ⟨rfl, ?_⟩
  obtain ⟨hSa, hSp, hSg, hSk, hSb⟩ := hS
  have b1 : (((s.accs.map accA).length : Nat) : Int) * ((8 : Nat) : Int) ≤ 140737488355328 := by simp; omega
  have b2 : (((s.accs.map accA).length : Nat) : Int) ≤ 9223372036854775807 := by simp; omega
  refine ⟨Int.natCast_nonneg _, Int.le_refl _, b1, b2, ?_⟩
  refine ⟨fun m st => ∃ (i : Nat) (l : List Int), (i ≤ s.pays.length ∧ l = (s.pays.take i).foldl addP (List.replicate s.accs.length 0)) ∧ s.pays.length - i = m ∧ st.t 1 = .ptr 1 0 ∧ st.t 3 = .ptr 3 0 ∧ st.t 4 = .fn (.func 61) [] [.ptr 3 0] ∧ st.t 15 = paysA s.pays ∧ st.t 16 = .int .i64 ((s.pays.map payA).length : Nat) ∧ st.t 17 = .int .i64 i ∧ st.h 1 = staBa s ∧ st.h 3 = rowH l,
    ⟨_, 0, List.replicate s.accs.length 0, ⟨Nat.zero_le _, rfl⟩, rfl, rfl, rfl, rfl, rfl, rfl, rfl, (by kernel_rfl), ?_⟩, ?_⟩
  · show some (Box.cells _ [AV.sl (.own 12000) 3 (List.replicate (((s.accs.map accA).length : Nat) : Int).toNat (.int .i64 0))]) = rowH _
    simp [rowH, iA]
  rintro _ ⟨t1, h1⟩ ⟨i, l, ⟨hi, hL⟩, rfl, e1, e3, e4, e15, e16, e17, b1, b3⟩
  have e1 : t1 1 = .ptr 1 0 := e1
  have e3 : t1 3 = .ptr 3 0 := e3
  have e4 : t1 4 = .fn (.func 61) [] [.ptr 3 0] := e4
  have e15 : t1 15 = paysA s.pays := e15
  have e16 : t1 16 = .int .i64 ((s.pays.map payA).length : Nat) := e16
  have e17 : t1 17 = .int .i64 i := e17
  have b1 : h1 1 = staBa s := b1
  have b3 : h1 3 = rowH l := b3
  have hll : l.length = s.accs.length := by rw [hL, foldP_len, List.length_replicate]
  rw [← updL_has t1 [(1, .ptr 1 0), (3, .ptr 3 0), (4, .fn (.func 61) [] [.ptr 3 0]), (15, paysA s.pays), (16, .int .i64 ((s.pays.map payA).length : Nat)), (17, .int .i64 i)] ⟨e1, e3, e4, e15, e16, e17, trivial⟩, ← updL_has h1 [(1, staBa s), (3, rowH l)] ⟨b1, b3, trivial⟩]
  constructor
  · intro hb
    have hi' : i < s.pays.length := by
      have : (i : Int) < ((s.pays.map payA).length : Nat) := by simpa using hb
      simp at this; omega
    have w : IntKind.i64.wrap ((i : Int) + 1) = ((i + 1 : Nat) : Int) := by rw [wrap_of] <;> omega
    have hlt : s.pays.length - (i + 1) < s.pays.length - i := by omega
    obtain ⟨p, hp⟩ : ∃ p, s.pays[i]? = some p := ⟨_, List.getElem?_eq_getElem hi'⟩
    have hst := foldl_next (f := addP) (b := List.replicate s.accs.length 0) hp
    rw [← hL] at hst
    refine ⟨_, Int.natCast_nonneg i, map_of hp, ?_⟩
    by_cases hr : 0 ≤ p.src ∧ p.src < l.length
    · have hx : l[(p.src).toNat]? = some (l[(p.src).toNat]'(by omega)) := List.getElem?_eq_getElem _
      have ha : addP l p = l.set (p.src).toNat (w64 (l[(p.src).toNat]'(by omega) + left p)) := by
        unfold addP addAt
        rw [if_pos hr.1, hx]
      repeat' first
        | (refine ⟨rfl, p, rfl, ?_⟩)
        | (refine ⟨l, p.src, left p, rfl, rfl, .inl ⟨_, hr.1, hx, ?_⟩⟩)
        | (refine ⟨_, hlt, i + 1, _, ⟨hi', hst.symm⟩, rfl, rfl, rfl, rfl, rfl, rfl, congrArg (AV.int .i64) w, (by kernel_rfl), ?_⟩)
        | (refine ⟨?_, ?_⟩)
        | fail
      all_goals
        rw [ha]
        show some (Box.cells _ [AV.sl (.own 12000) 3 ((iA l).modify (p.src).toNat _)]) = _
        rw [iA_put]
        rfl
    · have ha : addP l p = l := by
        unfold addP addAt
        split
        · rename_i h0
          have : l[(p.src).toNat]? = none := List.getElem?_eq_none (by omega)
          rw [this]
        · rfl
      repeat' first
        | (refine ⟨rfl, p, rfl, ?_⟩)
        | (refine ⟨l, p.src, left p, rfl, rfl, .inr ⟨hr, ?_⟩⟩)
        | (refine ⟨_, hlt, i + 1, _, ⟨hi', hst.symm⟩, rfl, rfl, rfl, rfl, rfl, rfl, congrArg (AV.int .i64) w, (by kernel_rfl), ?_⟩)
        | (refine ⟨?_, ?_⟩)
        | fail
      all_goals
        rw [ha]
        rfl
  · intro hb
    have hi' : i = s.pays.length := by
      have : ¬ (i : Int) < ((s.pays.map payA).length : Nat) := by simpa using hb
      simp at this; omega
    subst hi'
    rw [List.take_length] at hL
    refine ⟨fun m st => ∃ (i : Nat) (l : List Int), (i ≤ s.sags.length ∧ l = (s.sags.take i).foldl addG (s.pays.foldl addP (List.replicate s.accs.length 0))) ∧ s.sags.length - i = m ∧ st.t 1 = .ptr 1 0 ∧ st.t 3 = .ptr 3 0 ∧ st.t 4 = .fn (.func 61) [] [.ptr 3 0] ∧ st.t 29 = sagsA s.sags ∧ st.t 30 = .int .i64 ((s.sags.map sagA).length : Nat) ∧ st.t 31 = .int .i64 i ∧ st.h 1 = staBa s ∧ st.h 3 = rowH l,
      ⟨_, 0, l, ⟨Nat.zero_le _, hL⟩, rfl, rfl, rfl, rfl, rfl, rfl, rfl, rfl, rfl⟩, ?_⟩
    rintro _ ⟨t2, h2⟩ ⟨i, l, ⟨hi, hL⟩, rfl, e1, e3, e4, e29, e30, e31, b1, b3⟩
    have e1 : t2 1 = .ptr 1 0 := e1
    have e3 : t2 3 = .ptr 3 0 := e3
    have e4 : t2 4 = .fn (.func 61) [] [.ptr 3 0] := e4
    have e29 : t2 29 = sagsA s.sags := e29
    have e30 : t2 30 = .int .i64 ((s.sags.map sagA).length : Nat) := e30
    have e31 : t2 31 = .int .i64 i := e31
    have b1 : h2 1 = staBa s := b1
    have b3 : h2 3 = rowH l := b3
    rw [← updL_has t2 [(1, .ptr 1 0), (3, .ptr 3 0), (4, .fn (.func 61) [] [.ptr 3 0]), (29, sagsA s.sags), (30, .int .i64 ((s.sags.map sagA).length : Nat)), (31, .int .i64 i)] ⟨e1, e3, e4, e29, e30, e31, trivial⟩, ← updL_has h2 [(1, staBa s), (3, rowH l)] ⟨b1, b3, trivial⟩]
    constructor
    · intro hb
      have hi' : i < s.sags.length := by
        have : (i : Int) < ((s.sags.map sagA).length : Nat) := by simpa using hb
        simp at this; omega
      have w : IntKind.i64.wrap ((i : Int) + 1) = ((i + 1 : Nat) : Int) := by rw [wrap_of] <;> omega
      have hlt : s.sags.length - (i + 1) < s.sags.length - i := by omega
      obtain ⟨g, hg⟩ : ∃ p, s.sags[i]? = some p := ⟨_, List.getElem?_eq_getElem hi'⟩
      have hst := foldl_next (f := addG) (b := s.pays.foldl addP (List.replicate s.accs.length 0)) hg
      rw [← hL] at hst
      refine ⟨_, Int.natCast_nonneg i, map_of hg, ?_⟩
      by_cases hr : 0 ≤ g.req.a ∧ g.req.a < l.length
      · have hx : l[(g.req.a).toNat]? = some (l[(g.req.a).toNat]'(by omega)) := List.getElem?_eq_getElem _
        have ha : addG l g = l.set (g.req.a).toNat (w64 (l[(g.req.a).toNat]'(by omega) + g.req.amt)) := by
          unfold addG addAt
          rw [if_pos hr.1, hx]
        repeat' first
          | (refine ⟨rfl, g, rfl, ?_⟩)
          | (refine ⟨l, g.req.a, g.req.amt, rfl, rfl, .inl ⟨_, hr.1, hx, ?_⟩⟩)
          | (refine ⟨_, hlt, i + 1, _, ⟨hi', hst.symm⟩, rfl, rfl, rfl, rfl, rfl, rfl, congrArg (AV.int .i64) w, (by kernel_rfl), ?_⟩)
          | (refine ⟨?_, ?_⟩)
          | fail
        all_goals
          rw [ha]
          show some (Box.cells _ [AV.sl (.own 12000) 3 ((iA l).modify (g.req.a).toNat _)]) = _
          rw [iA_put]
          rfl
      · have ha : addG l g = l := by
          unfold addG addAt
          split
          · rename_i h0
            have : l[(g.req.a).toNat]? = none := List.getElem?_eq_none (by omega)
            rw [this]
          · rfl
        repeat' first
          | (refine ⟨rfl, g, rfl, ?_⟩)
          | (refine ⟨l, g.req.a, g.req.amt, rfl, rfl, .inr ⟨hr, ?_⟩⟩)
          | (refine ⟨_, hlt, i + 1, _, ⟨hi', hst.symm⟩, rfl, rfl, rfl, rfl, rfl, rfl, congrArg (AV.int .i64) w, (by kernel_rfl), ?_⟩)
          | (refine ⟨?_, ?_⟩)
          | fail
        all_goals
          rw [ha]
          rfl
    · intro hb
      have hi' : i = s.sags.length := by
        have : ¬ (i : Int) < ((s.sags.map sagA).length : Nat) := by simpa using hb
        simp at this; omega
      subst hi'
      rw [List.take_length] at hL
      have e : heldL s = l := by rw [hL]; rfl
      rw [e] at hK
      exact hK
theorem held_ok : FnOk Tryz.prog tab 30 heldC := held_ok0.fz.mono (by
  rintro args bs K ⟨rfl, s, rfl, hS, hK⟩
  exact ⟨rfl, rfl, s, rfl, hS, _, fz_own _ _ _, hK⟩)
end Go.Proofs.YtjffmldlkofpaaaGreatDoor.A
