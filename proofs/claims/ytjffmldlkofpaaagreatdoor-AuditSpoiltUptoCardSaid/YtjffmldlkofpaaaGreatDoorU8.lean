/- hawalalaw20: same, held; the closures client and find, as they leave the caller's state. -/
import Derived.Test.YtjffmldlkofpaaaGreatDoorU7
namespace Go.Proofs.YtjffmldlkofpaaaGreatDoor.A
open Go Q
def sameC (args : List AV) (bs : List Box) (K : AV → List Box → Prop) : Prop := bs = [] ∧ ∃ a b : List Int, args = [.sl .fz 86 (iA a), .sl .fz 86 (iA b)] ∧ a.length < 100000 ∧ b.length < 100000 ∧ K (.bool (decide (a = b))) []
set_option maxRecDepth 20000 in
theorem same_ok : FnOk Tryz.prog tab 32 sameC := by
  refine fn_ok (E := R0_E pl32) tab_is R0_ok (R0_J _) Tryz.func32 rfl rfl (by kernel_rfl) ?_
  rintro args bs K ⟨rfl, a, b, rfl, ha, hb, hK⟩
  refine ⟨rfl, ?_⟩
  have fin : ∀ c, c = decide (a = b) → K (.bool c) [] := fun c e => e ▸ hK
  constructor
  · intro h
    have h : ¬ a.length = b.length := by
      have : ¬ (((iA a).length : Nat) : Int) = ((iA b).length : Nat) := by simpa using h
      rw [iA_len, iA_len] at this; omega
    refine fin _ ?_
    have : ¬ a = b := fun e => h (congrArg _ e)
    simp [this]
  · intro h
    have h : a.length = b.length := by
      have : (((iA a).length : Nat) : Int) = ((iA b).length : Nat) := by simpa using h
      rw [iA_len, iA_len] at this; omega
    refine ⟨fun m s => ∃ (i : Nat), (i ≤ a.length ∧ a.take i = b.take i) ∧ a.length - i = m ∧ s.t 0 = .sl .fz 86 (iA a) ∧ s.t 1 = .sl .fz 86 (iA b) ∧ s.t 12 = .int .i64 ((iA a).length : Nat) ∧ s.t 13 = .int .i64 i,
      ⟨_, 0, ⟨Nat.zero_le _, rfl⟩, rfl, rfl, rfl, rfl, rfl⟩, ?_⟩
    rintro _ ⟨t1, h1⟩ ⟨i, ⟨hi, hT⟩, rfl, e0, e1, e12, e13⟩
    have e0 : t1 0 = .sl .fz 86 (iA a) := e0
    have e1 : t1 1 = .sl .fz 86 (iA b) := e1
    have e12 : t1 12 = .int .i64 ((iA a).length : Nat) := e12
    have e13 : t1 13 = .int .i64 i := e13
    rw [← updL_has t1 [(0, .sl .fz 86 (iA a)), (1, .sl .fz 86 (iA b)), (12, .int .i64 ((iA a).length : Nat)), (13, .int .i64 i)] ⟨e0, e1, e12, e13, trivial⟩]
    constructor
    · intro hb'
      have hi' : i < a.length := by
        have : (i : Int) < ((iA a).length : Nat) := by simpa using hb'
        rw [iA_len] at this; omega
      have w : IntKind.i64.wrap ((i : Int) + 1) = ((i + 1 : Nat) : Int) := by rw [wrap_of] <;> omega
      refine ⟨_, Int.natCast_nonneg i, iA_at hi', _, Int.natCast_nonneg i, iA_at (h ▸ hi'), ?_⟩
      constructor
      · intro hne
        have hne : ¬ a[i] = b[i] := by simpa using hne
        refine fin _ ?_
        have : ¬ a = b := fun e => hne (by subst e; rfl)
        simp [this]
      · intro heq
        have heq : a[i] = b[i] := by simpa using heq
        refine ⟨_, (by omega : a.length - (i + 1) < a.length - i), i + 1, ⟨hi', ?_⟩, rfl, rfl, rfl, rfl, congrArg (AV.int .i64) w⟩
        rw [List.take_succ_eq_append_getElem hi', List.take_succ_eq_append_getElem (h ▸ hi'), hT, heq]
    · intro hb'
      have hi' : i = a.length := by
        have : ¬ (i : Int) < ((iA a).length : Nat) := by simpa using hb'
        rw [iA_len] at this; omega
      subst hi'
      refine fin _ ?_
      have : a = b := by
        rw [List.take_length] at hT
        rw [hT, h, List.take_length]
      simp [this]
/-- client: the caller's state stays. -/
def jCl : StSpec := fun args s K => ∃ (st : Sta) (k : Int), args = [.int .i64 k, .ptr 1 0] ∧ s.h 1 = staBa st ∧ K (.bool (isCl st.accs.length k)) s
set_option maxRecDepth 200000 in
theorem client_ok : SOk Tryz.prog tab 62 jCl := by
  refine SOk.mono (inl_ok (E := J0_E 180000 pl62) tab_is (J0_C _ _) (J0_J _ _) Tryz.func62 (by kernel_rfl) rfl (by kernel_rfl)) ?_
  rintro args ⟨t, h⟩ K ⟨st, k, rfl, h1, hK⟩
  have h1 : h 1 = staBa st := h1
  have hh : updL h [(1, staBa st)] = h := updL_has h _ ⟨h1, trivial⟩
  refine inl_go rfl (wp_toldH [(1, staBa st)] ⟨h1, trivial⟩ ?_)
  rw [← hh] at hK
  have fin : ∀ b, b = isCl st.accs.length k → K (.bool b) ⟨t, updL h [(1, staBa st)]⟩ := fun b e => e ▸ hK
  constructor
  · intro hk
    have hk : k > 8 := by simpa using hk
    have hk9 : 9 ≤ k := by omega
    refine ⟨_, pop_eq (fun j => ?_), fin _ ?_⟩
    · (repeat rw [upd_over])
      · exact push_at j
      all_goals rfl
    · simp [isCl, hk9]
  · intro hk
    have hk : ¬ k > 8 := by simpa using hk
    have hk9 : ¬ 9 ≤ k := by omega
    refine ⟨_, pop_eq (fun j => ?_), fin false ?_⟩
    · (repeat rw [upd_over])
      · exact push_at j
      all_goals rfl
    · simp [isCl, hk9]
/-! ### what find leaves as it was -/
def kil : AV → AV
  | .ptr b o => bif Nat.ble 180000 b then .bad else .ptr b o
  | .mp b => bif Nat.ble 180000 b then .bad else .mp b
  | v => v
def Cl (v : AV) : Prop := v.tr kil = v
def ClO (o : Option Box) : Prop := ∀ x, o = some x → x.mapA (AV.tr kil) = x
def Gd (φ : AV → AV) : Prop := ∀ v, kil v = v → φ v = v
mutual
theorem tr_fix {φ : AV → AV} (h : Gd φ) : ∀ v : AV, v.tr kil = v → v.tr φ = v
  | .agg cs, e => by unfold AV.tr at e ⊢; rw [trL_fix h cs (AV.agg.inj e)]
  | .tup cs, e => by unfold AV.tr at e ⊢; rw [trL_fix h cs (AV.tup.inj e)]
  | .ifc t v, e => by unfold AV.tr at e ⊢; rw [tr_fix h v (AV.ifc.inj e).2]
  | .fn f a c, e => by unfold AV.tr at e ⊢; rw [trL_fix h a (AV.fn.inj e).2.1, trL_fix h c (AV.fn.inj e).2.2]
  | .int k n, e => h _ e
  | .bool b, e => h _ e
  | .str s, e => h _ e
  | .ptr b o, e => h _ e
  | .nilptr, e => h _ e
  | .sl g e' xs, e => h _ e
  | .pe g e' i o cs, e => h _ e
  | .nilfn, e => h _ e
  | .nilifc, e => h _ e
  | .mp b, e => h _ e
  | .nilmp, e => h _ e
  | .bad, e => h _ e
theorem trL_fix {φ : AV → AV} (h : Gd φ) : ∀ l : List AV, AV.trL kil l = l → AV.trL φ l = l
  | [], _ => by unfold AV.trL; rfl
  | v :: vs, e => by unfold AV.trL at e ⊢; rw [tr_fix h v (List.cons.inj e).1, trL_fix h vs (List.cons.inj e).2]
end
theorem map_fix {α : Type} {f g : α → α} (h : ∀ x, f x = x → g x = x) : ∀ l : List α, l.map f = l → l.map g = l
  | [], _ => rfl
  | x :: xs, e => by rw [List.map_cons] at e ⊢; rw [h x (List.cons.inj e).1, map_fix h xs (List.cons.inj e).2]
theorem box_fix {φ : AV → AV} (h : Gd φ) (x : Box) (e : x.mapA (AV.tr kil) = x) : x.mapA (AV.tr φ) = x := by
  cases x with
  | cells t cs => exact congrArg (Box.cells t) (map_fix (tr_fix h) cs (Box.cells.inj e).2)
  | mapo es =>
    exact congrArg Box.mapo (map_fix (f := fun p : AV × AV => (p.1, p.2.tr kil)) (g := fun p => (p.1, p.2.tr φ)) (fun p hp => by
      have := (Prod.ext_iff.1 hp).2
      exact Prod.ext_iff.2 ⟨rfl, tr_fix h _ this⟩) es (Box.mapo.inj e))
def Fr (s s' : St) : Prop := (∀ j, Cl (s.t j) → s'.t j = s.t j) ∧ ∀ b, b < 180000 → ClO (s.h b) → s'.h b = s.h b
theorem Fr.refl (s : St) : Fr s s := ⟨fun _ _ => rfl, fun _ _ _ => rfl⟩
theorem Fr.trans {a b c : St} (h : Fr a b) (g : Fr b c) : Fr a c :=
  ⟨fun j hc => by rw [g.1 j (by rw [h.1 j hc]; exact hc), h.1 j hc], fun b h1 hc => by rw [g.2 b h1 (by rw [h.2 b h1 hc]; exact hc), h.2 b h1 hc]⟩
theorem Fr.map (s : St) {φ : AV → AV} (h : Gd φ) : Fr s (s.mapA φ) := by
  obtain ⟨t, hp⟩ := s
  refine ⟨fun j hc => tr_fix h _ hc, fun b _ hc => ?_⟩
  show (match hp b with | some x => some (x.mapA (AV.tr φ)) | none => none) = hp b
  cases e : hp b with
  | none => rfl
  | some x => exact congrArg some (box_fix h x (hc x e))
theorem Fr.boxN (s : St) (d : Nat) (hd : 180000 ≤ d) (x : Box) : Fr s (s.box d x) := by
  obtain ⟨t, hp⟩ := s
  exact ⟨fun _ _ => rfl, fun b h1 _ => upd_ne hp _ (by omega)⟩
theorem Fr.pop {s s' : St} (h : Fr s s') : Fr (popS s) (popS s') := by
  obtain ⟨t, hp⟩ := s
  obtain ⟨t', hp'⟩ := s'
  exact ⟨fun j hc => h.1 (j + 1000000) hc, h.2⟩
def Un (s0 s : St) : Prop := Fr s0 (popS s)
theorem un_push (args : List AV) (s : St) : Un s (pushS args s) := by unfold Un; rw [pop_push]; exact .refl s
theorem un_fr {s0 s s' : St} (h : Un s0 s) (g : Fr s s') : Un s0 s' := Fr.trans h g.pop
theorem un_put {s0 : St} {t : Nat → AV} {h : Nat → Option Box} {d : Nat} {v : AV} (hd : Nat.blt d 1000000 = true) (hu : Un s0 ⟨t, h⟩) : Un s0 ⟨upd t d v, h⟩ := by
  have := pop_put (s := ⟨t, h⟩) (d := d) (v := v) hd
  unfold Un at *
  exact this.symm ▸ hu
theorem un_map {s0 : St} {t : Nat → AV} {h : Nat → Option Box} {φ : AV → AV} (g : Gd φ) (hu : Un s0 ⟨t, h⟩) : Un s0 (St.mapA ⟨t, h⟩ φ) := un_fr hu (.map _ g)
theorem un_mapQ {s0 : St} {t : Nat → AV} {h : Nat → Option Box} {φ φq : AV → AV} (e : φq = φ) (g : Gd φ) (hu : Un s0 ⟨t, h⟩) : Un s0 (St.mapQ ⟨t, h⟩ φq) := by
  rw [mapQ_eq, e]
  exact un_map g hu
theorem un_boxN {s0 : St} {t : Nat → AV} {h : Nat → Option Box} {d : Nat} {x : Box} (hd : Nat.ble 180000 d = true) (hu : Un s0 ⟨t, h⟩) : Un s0 ⟨t, upd h d (some x)⟩ := un_fr hu (.boxN _ d (Nat.le_of_ble_eq_true hd) x)
theorem un_told {s0 : St} {t : Nat → AV} {h : Nat → Option Box} {l : List (Nat × AV)} {lb : List (Nat × Option Box)} (ht : Has t l) (hh : Has h lb) (g : Un s0 ⟨t, h⟩) : Un s0 ⟨updL t l, updL h lb⟩ := by
  rw [updL_has t l ht, updL_has h lb hh]
  exact g
theorem gd_fgt {b : Nat} (hb : Nat.ble 180000 b = true) : Gd (fgtB b) := by
  intro v hv
  have key : ∀ c x, (bif Nat.ble 180000 c then AV.bad else x) = x → x ≠ .bad → (bif Nat.beq c b then AV.bad else x) = x := by
    intro c x h1 h2
    cases e : Nat.beq c b with
    | false => rfl
    | true => rw [Nat.eq_of_beq_eq_true e, hb] at h1; exact absurd h1.symm h2
  cases v with
  | ptr c o => exact key c _ hv (by intro h; cases h)
  | mp c => exact key c _ hv (by intro h; cases h)
  | _ => rfl
def jFind : StSpec := fun args s K => ∃ (st : Sta) (key : Int), args = [.int .i64 key, .ptr 1 0] ∧ s.h 1 = staBa st ∧ st.kns.length < 4611686018427387904 ∧ ∀ s', Fr s s' → K (.int .i64 (findK st.kns key 0)) s'
set_option maxRecDepth 200000 in
set_option maxHeartbeats 1600000 in
theorem cfind_ok : SOk Tryz.prog tab 63 jFind := by
  refine SOk.mono (inl_ok (E := J0_E 190000 pl63) tab_is (J0_C _ _) (J0_J _ _) Tryz.func63 (by kernel_rfl) rfl (by kernel_rfl)) ?_
  rintro args ⟨t, h⟩ K ⟨st, key, rfl, h1, hN, hK⟩
  have h1 : h 1 = staBa st := h1
  have hh : updL h [(1, staBa st)] = h := updL_has h _ ⟨h1, trivial⟩
  refine inl_go rfl (wp_toldH [(1, staBa st)] ⟨h1, trivial⟩ ?_)
  have hu0 : Un ⟨t, h⟩ (pushS [.int .i64 key, .ptr 1 0] ⟨t, updL h [(1, staBa st)]⟩) := by rw [hh]; exact un_push _ _
  have fin : ∀ n s', n = findK st.kns key 0 → Un ⟨t, h⟩ s' → K (.int .i64 n) (popS s') := fun n s' e hu => by subst e; exact hK _ hu
  refine ⟨fun m s => ∃ (i : Nat), (i ≤ st.kns.length ∧ ∀ (j : Nat) (q : Kno), j < i → st.kns[j]? = some q → ¬ q.req.key = key) ∧ st.kns.length - i = m ∧ Un ⟨t, h⟩ s ∧ s.t 0 = .int .i64 key ∧ s.t 7 = knsA st.kns ∧ s.t 8 = .int .i64 ((st.kns.map knoA).length : Nat) ∧ s.t 9 = .int .i64 i,
    ⟨_, 0, ⟨Nat.zero_le _, fun j q h => absurd h (Nat.not_lt_zero _)⟩, rfl, ?_, rfl, rfl, rfl, rfl⟩, ?_⟩
  · refine un_put rfl (un_put rfl (un_put rfl (un_put rfl (un_put rfl hu0))))
  rintro _ ⟨t1, h1⟩ ⟨i, ⟨hi, hX⟩, rfl, hU, e0, e7, e8, e9⟩
  have e0 : t1 0 = .int .i64 key := e0
  have e7 : t1 7 = knsA st.kns := e7
  have e8 : t1 8 = .int .i64 ((st.kns.map knoA).length : Nat) := e8
  have e9 : t1 9 = .int .i64 i := e9
  rw [← updL_has t1 [(0, .int .i64 key), (7, knsA st.kns), (8, .int .i64 ((st.kns.map knoA).length : Nat)), (9, .int .i64 i)] ⟨e0, e7, e8, e9, trivial⟩]
  constructor
  · intro hb
    have hi' : i < st.kns.length := by
      have : (i : Int) < ((st.kns.map knoA).length : Nat) := by simpa using hb
      simp at this; omega
    have w : IntKind.i64.wrap ((i : Int) + 1) = ((i + 1 : Nat) : Int) := by rw [wrap_of] <;> omega
    have hki : st.kns[i]? = some st.kns[i] := List.getElem?_eq_getElem hi'
    refine ⟨_, Int.natCast_nonneg i, map_at hi', ?_⟩
    constructor
    · intro hk
      have hk : st.kns[i].req.key = key := by simpa using hk
      refine ⟨_, rfl, ?_⟩
      refine fin _ _ (by rw [find_at hki hk hX]; omega) ?_
      iterate 8 refine un_put rfl ?_
      refine un_boxN rfl (un_boxN rfl ?_)
      refine un_put rfl ?_
      refine un_mapQ (φ := fgtB 190005) (congrFun fgtBq_eq 190005) (gd_fgt rfl) ?_
      repeat refine un_put rfl ?_
      exact hU
    · intro hk
      have hk : ¬ st.kns[i].req.key = key := by simpa using hk
      refine ⟨_, (by omega : st.kns.length - (i + 1) < st.kns.length - i), i + 1, ⟨hi', ?_⟩, rfl, ?_, rfl, rfl, rfl, congrArg (AV.int .i64) w⟩
      · intro j q hj hq
        by_cases h : j = i
        · subst h; rw [hki] at hq; cases hq; exact hk
        · exact hX j q (by omega) hq
      · iterate 8 refine un_put rfl ?_
        refine un_boxN rfl (un_boxN rfl ?_)
        refine un_put rfl ?_
        refine un_mapQ (φ := fgtB 190005) (congrFun fgtBq_eq 190005) (gd_fgt rfl) ?_
        repeat refine un_put rfl ?_
        exact hU
  · intro hb
    have hi' : i = st.kns.length := by
      have : ¬ (i : Int) < ((st.kns.map knoA).length : Nat) := by simpa using hb
      simp at this; omega
    subst hi'
    refine ⟨_, rfl, ?_⟩
    refine fin _ _ (find_no (fun j q hq => hX j q (List.getElem?_eq_some_iff.1 hq).1 hq)).symm ?_
    repeat refine un_put rfl ?_
    exact hU
end Go.Proofs.YtjffmldlkofpaaaGreatDoor.A
