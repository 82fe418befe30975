/- ledger: Hold, Release, Post, Spend. -/
import Derived.Test.YtmlgkojmbnjfbaaDoorM1m
namespace Go.Proofs.YtmlgkojmbnjfbaaDoor.A
open Go Q
theorem is_of {n k : Int} (h : isCl n k = true) : 9 ≤ k ∧ k < n := by simpa [isCl] using h
def setH (al : List Acc) (k : Int) (h : Int) : List Acc := match al[k.toNat]? with
  | some a => al.set k.toNat ⟨a.cur, a.bal, h⟩
  | none => al
def setB (al : List Acc) (k : Int) (b : Int) : List Acc := match al[k.toNat]? with
  | some a => al.set k.toNat ⟨a.cur, b, a.held⟩
  | none => al
/-- An amount is held. -/
def holdM (al : List Acc) (k n : Int) : Except Int (List Acc) :=
  if isCl al.length k = false then .error 2 else if amountB n = false then .error 1
  else match al[k.toNat]? with
  | some a => if freeN a < n then .error 3 else .ok (al.set k.toNat ⟨a.cur, a.bal, w64 (a.held + n)⟩)
  | none => .error 0
/-- An amount goes that was held. -/
def relM (al : List Acc) (k n : Int) : Except Int (List Acc) :=
  if isCl al.length k = false then .error 2 else if amountB n = false then .error 1
  else match al[k.toNat]? with
  | some a => if a.held < n then .error 6 else .ok (al.set k.toNat ⟨a.cur, a.bal, w64 (a.held - n)⟩)
  | none => .error 0
abbrev accsR (F : Nat) (M : List Acc → Int → Int → Except Int (List Acc)) (args : List AV) (bs : List Box) (K : AV → List Box → Prop) : Prop := bs = [] ∧ ∃ (al : List Acc) (k n : Int), args = [accsA al, .int .i64 k, .int .i64 n] ∧ al.length ≤ 1000000 ∧
  (∀ l, M al k n = .ok l → K (.tup [accsO F l, .nilifc]) []) ∧ (∀ e, M al k n = .error e → K (.tup [.sl .nl 0 [], errA e]) [])
abbrev accsRz (M : List Acc → Int → Int → Except Int (List Acc)) (args : List AV) (bs : List Box) (K : AV → List Box → Prop) : Prop := bs = [] ∧ ∃ (al : List Acc) (k n : Int), args = [accsA al, .int .i64 k, .int .i64 n] ∧ al.length ≤ 1000000 ∧
  (∀ l, M al k n = .ok l → K (.tup [accsA l, .nilifc]) []) ∧ (∀ e, M al k n = .error e → K (.tup [.sl .nl 0 [], errA e]) [])
def RH : Contract
  | 39 => isClC
  | 40 => amtC
  | 14 => freeC
  | 41 => cloneC
  | _ => fun _ _ _ => False
theorem RH_ok : CallOk Tryd.prog tab RH := by
  intro f args bs K h
  unfold RH at h
  split at h
  · exact ⟨_, h, isCl_ok⟩
  · exact ⟨_, h, amt_ok⟩
  · exact ⟨_, h, free_ok⟩
  · exact ⟨_, h, clone_ok⟩
  · exact h.elim
def RH_E (pl : Nat → Plan) : En := ⟨tab, RH, fun _ => none, 0, pl⟩
theorem RH_J (pl : Nat → Plan) : JOk Tryd.prog (RH_E pl).T (RH_E pl).J := fun _ _ h => by cases h
theorem set_mapA {al : List Acc} {i : Nat} (x : Acc) : (al.map accA).set i (accA x) = (al.set i x).map accA := by rw [List.map_set]
theorem modify_map {al : List Acc} {i : Nat} {a : Acc} (h : al[i]? = some a) (g : AV → AV) (x : Acc) (hg : g (accA a) = accA x) : (al.map accA).modify i g = (al.set i x).map accA := by
  rw [← set_mapA]
  apply List.ext_getElem?
  intro j
  rw [List.getElem?_modify, List.getElem?_set]
  by_cases hj : i = j
  · subst hj
    obtain ⟨hi, rfl⟩ := List.getElem?_eq_some_iff.1 h
    simp [hg, hi]
  · simp [hj]
set_option maxRecDepth 200000 in
set_option maxHeartbeats 1600000 in
theorem hold_ok0 : FnOk Tryd.prog tab 26 (accsR 30000 holdM) := by
  refine fn_ok (E := RH_E pl26) tab_is RH_ok (RH_J _) Tryd.func26 rfl rfl (by kernel_rfl) ?_
  rintro args bs K ⟨rfl, al, k, n, rfl, hl, hok, her⟩
  refine ⟨rfl, ?_⟩
  refine ⟨rfl, al, k, rfl, ?_⟩
  cases hc : isCl al.length k with
  | false =>
    have no := her 2 (by unfold holdM; rw [if_pos hc])
    exact ⟨fun _ => no, fun h => Bool.noConfusion (show true = false from h)⟩
  | true =>
    refine ⟨fun h => Bool.noConfusion (show false = true from h), fun _ => ?_⟩
    refine ⟨rfl, n, rfl, ?_⟩
    cases hn : amountB n with
    | false =>
      have no := her 1 (by unfold holdM; rw [if_neg (by simp [hc]), if_pos hn])
      exact ⟨fun _ => no, fun h => Bool.noConfusion (show true = false from h)⟩
    | true =>
      refine ⟨fun h => Bool.noConfusion (show false = true from h), fun _ => ?_⟩
      obtain ⟨k0, k1⟩ := is_of hc
      have k0 : 0 ≤ k := by omega
      obtain ⟨a, ha⟩ : ∃ a, al[k.toNat]? = some a := ⟨_, List.getElem?_eq_getElem (by omega)⟩
      refine ⟨_, k0, map_of ha, ?_⟩
      have step1 : holdM al k n = (if freeN a < n then .error 3 else .ok (al.set k.toNat ⟨a.cur, a.bal, w64 (a.held + n)⟩)) := by unfold holdM; rw [if_neg (by simp [hc]), if_neg (by simp [hn]), ha]
      rw [step1] at hok her
      refine ⟨rfl, a, rfl, ?_⟩
      refine ⟨fun hf => ?_, fun hf => ?_⟩
      · exact her 3 (if_pos (by simpa using hf))
      · have hend := hok _ (if_neg (show ¬ freeN a < n by simpa using hf))
        refine ⟨rfl, al, rfl, hl, ?_⟩
        refine ⟨_, k0, map_of ha, ?_⟩
        refine ⟨_, k0, map_of ha, ?_⟩
        rw [show accsO 30000 (al.set k.toNat ⟨a.cur, a.bal, w64 (a.held + n)⟩) = .sl (.own 30000) 50 ((al.map accA).modify k.toNat fun x => x.ofCells (putCells x.cells 2 [.int .i64 (IntKind.i64.wrap (a.held + n))])) from congrArg (AV.sl _ _) (modify_map ha _ _ rfl).symm] at hend
        exact hend
set_option maxRecDepth 200000 in
set_option maxHeartbeats 1600000 in
theorem rel_ok0 : FnOk Tryd.prog tab 33 (accsR 30000 relM) := by
  refine fn_ok (E := RH_E pl33) tab_is RH_ok (RH_J _) Tryd.func33 rfl rfl (by kernel_rfl) ?_
  rintro args bs K ⟨rfl, al, k, n, rfl, hl, hok, her⟩
  refine ⟨rfl, ?_⟩
  refine ⟨rfl, al, k, rfl, ?_⟩
  cases hc : isCl al.length k with
  | false =>
    have no := her 2 (by unfold relM; rw [if_pos hc])
    exact ⟨fun _ => no, fun h => Bool.noConfusion (show true = false from h)⟩
  | true =>
    refine ⟨fun h => Bool.noConfusion (show false = true from h), fun _ => ?_⟩
    refine ⟨rfl, n, rfl, ?_⟩
    cases hn : amountB n with
    | false =>
      have no := her 1 (by unfold relM; rw [if_neg (by simp [hc]), if_pos hn])
      exact ⟨fun _ => no, fun h => Bool.noConfusion (show true = false from h)⟩
    | true =>
      refine ⟨fun h => Bool.noConfusion (show false = true from h), fun _ => ?_⟩
      obtain ⟨k0, k1⟩ := is_of hc
      have k0 : 0 ≤ k := by omega
      obtain ⟨a, ha⟩ : ∃ a, al[k.toNat]? = some a := ⟨_, List.getElem?_eq_getElem (by omega)⟩
      refine ⟨_, k0, map_of ha, ?_⟩
      have step1 : relM al k n = (if a.held < n then .error 6 else .ok (al.set k.toNat ⟨a.cur, a.bal, w64 (a.held - n)⟩)) := by unfold relM; rw [if_neg (by simp [hc]), if_neg (by simp [hn]), ha]
      rw [step1] at hok her
      refine ⟨fun hf => ?_, fun hf => ?_⟩
      · exact her 6 (if_pos (by simpa using hf))
      · have hend := hok _ (if_neg (show ¬ a.held < n by simpa using hf))
        refine ⟨rfl, al, rfl, hl, ?_⟩
        refine ⟨_, k0, map_of ha, ?_⟩
        refine ⟨_, k0, map_of ha, ?_⟩
        rw [show accsO 30000 (al.set k.toNat ⟨a.cur, a.bal, w64 (a.held - n)⟩) = .sl (.own 30000) 50 ((al.map accA).modify k.toNat fun x => x.ofCells (putCells x.cells 2 [.int .i64 (IntKind.i64.wrap (a.held - n))])) from congrArg (AV.sl _ _) (modify_map ha _ _ rfl).symm] at hend
        exact hend
theorem hold_ok : FnOk Tryd.prog tab 26 (accsRz holdM)
  := hold_ok0.frz.mono (by
    rintro args bs K ⟨rfl, al, x, n, rfl, hl, hok, her⟩
    exact ⟨rfl, rfl, al, x, n, rfl, hl, fun es h => ⟨_, rfl, hok es h⟩, fun e h => ⟨_, rfl, her e h⟩⟩)
theorem rel_ok : FnOk Tryd.prog tab 33 (accsRz relM)
  := rel_ok0.frz.mono (by
    rintro args bs K ⟨rfl, al, x, n, rfl, hl, hok, her⟩
    exact ⟨rfl, rfl, al, x, n, rfl, hl, fun es h => ⟨_, rfl, hok es h⟩, fun e h => ⟨_, rfl, her e h⟩⟩)
/-- Entries, one by one. -/
def postGo : List Acc → List Ent → Except Int (List Acc)
  | al, [] => .ok al
  | al, e :: es => match al[e.acct.toNat]? with
    | some a => match addM a.bal e.amt with
      | .ok n => postGo (al.set e.acct.toNat ⟨a.cur, n, a.held⟩) es
      | .error x => .error x
    | none => .error 0
def lacks (al : List Acc) : Bool := (al.drop 9).any fun a => decide (freeN a < 0)
def postM (al : List Acc) (es : List Ent) : Except Int (List Acc) :=
  if balM al es = false then .error 13 else match postGo al es with
  | .ok l => if lacks l = true then .error 3 else .ok l
  | .error e => .error e
theorem postGo_cons (al : List Acc) (e : Ent) (es : List Ent) : postGo al (e :: es) = (match al[e.acct.toNat]? with
    | some a => match addM a.bal e.amt with
      | .ok n => postGo (al.set e.acct.toNat ⟨a.cur, n, a.held⟩) es
      | .error x => .error x
    | none => .error 0) := rfl
/-- Balanced entries are of accounts. -/
theorem bal_of {al : List Acc} : ∀ {es : List Ent} {t : Tri} {t' : Tri}, balGo al t es = some t' → ∀ e ∈ es, 0 ≤ e.acct ∧ e.acct < al.length
  | [], _, _, _, e, he => by simp at he
  | x :: es, t, t', h, e, he => by
    rw [balGo_cons] at h
    cases hs : balStep al t x with
    | none => rw [hs] at h; cases h
    | some t1 =>
      rw [hs] at h
      rcases List.mem_cons.1 he with rfl | he
      · unfold balStep at hs
        split at hs
        · cases hs
        · rename_i hn
          exact of_true (by simpa using fun h => hn (.inl h))
      · exact bal_of h e he
theorem balM_of {al : List Acc} {es : List Ent} (h : balM al es = true) : ∀ e ∈ es, 0 ≤ e.acct ∧ e.acct < al.length := by
  unfold balM at h
  split at h
  · rename_i t ht; exact bal_of ht
  · cases h
theorem lacks_at {al : List Acc} {i : Nat} {a : Acc} (ha : al[i]? = some a) (h9 : 9 ≤ i) (hf : freeN a < 0) : lacks al = true := by
  unfold lacks
  rw [List.any_eq_true]
  refine ⟨a, ?_, by simpa using hf⟩
  have : (al.drop 9)[i - 9]? = some a := by rw [List.getElem?_drop]; rw [show 9 + (i - 9) = i by omega]; exact ha
  exact List.mem_of_getElem? this
theorem lacks_not {al : List Acc} (h : ∀ (i : Nat) (a : Acc), al[i]? = some a → 9 ≤ i → ¬ freeN a < 0) : lacks al = false := by
  unfold lacks
  rw [List.any_eq_false]
  intro a ha
  obtain ⟨i, hi⟩ := List.getElem?_of_mem ha
  rw [List.getElem?_drop] at hi
  simpa using h (9 + i) a hi (by omega)
abbrev postC0 (args : List AV) (bs : List Box) (K : AV → List Box → Prop) : Prop := bs = [] ∧ ∃ (al : List Acc) (es : List Ent), args = [accsA al, entsA es] ∧ al.length ≤ 1000000 ∧ es.length ≤ 1000000 ∧
  (∀ l, postM al es = .ok l → K (.tup [accsO 19000 l, .nilifc]) []) ∧ (∀ e, postM al es = .error e → K (.tup [.sl .nl 0 [], errA e]) [])
abbrev postC (args : List AV) (bs : List Box) (K : AV → List Box → Prop) : Prop := bs = [] ∧ ∃ (al : List Acc) (es : List Ent), args = [accsA al, entsA es] ∧ al.length ≤ 1000000 ∧ es.length ≤ 1000000 ∧
  (∀ l, postM al es = .ok l → K (.tup [accsA l, .nilifc]) []) ∧ (∀ e, postM al es = .error e → K (.tup [.sl .nl 0 [], errA e]) [])
def RPo : Contract
  | 55 => balC
  | 41 => cloneC
  | 56 => addMC
  | 39 => isClC
  | 14 => freeC
  | _ => fun _ _ _ => False
theorem RPo_ok : CallOk Tryd.prog tab RPo := by
  intro f args bs K h
  unfold RPo at h
  split at h
  · exact ⟨_, h, bal_ok⟩
  · exact ⟨_, h, clone_ok⟩
  · exact ⟨_, h, addM_ok⟩
  · exact ⟨_, h, isCl_ok⟩
  · exact ⟨_, h, free_ok⟩
  · exact h.elim
def RPo_E (pl : Nat → Plan) : En := ⟨tab, RPo, fun _ => none, 0, pl⟩
theorem RPo_J (pl : Nat → Plan) : JOk Tryd.prog (RPo_E pl).T (RPo_E pl).J := fun _ _ h => by cases h
set_option maxRecDepth 200000 in
set_option maxHeartbeats 6400000 in
theorem post_ok0 : FnOk Tryd.prog tab 31 postC0 := by
  refine fn_ok (E := RPo_E pl31) tab_is RPo_ok (RPo_J _) Tryd.func31 rfl rfl (by kernel_rfl) ?_
  rintro args bs K ⟨rfl, al, es, rfl, hl, hle, hok, her⟩
  refine ⟨rfl, ?_⟩
  refine ⟨rfl, al, es, rfl, hl, hle, ?_⟩
  cases hbal : balM al es with
  | false => exact ⟨fun _ => her 13 (by unfold postM; rw [if_pos hbal]), fun h => Bool.noConfusion (show true = false from h)⟩
  | true =>
    refine ⟨fun h => Bool.noConfusion (show false = true from h), fun _ => ?_⟩
    have step1 : postM al es = (match postGo al es with
        | .ok l => if lacks l = true then .error 3 else .ok l
        | .error e => .error e) := by unfold postM; rw [if_neg (by simp [hbal])]
    rw [step1] at hok her
    refine ⟨rfl, al, rfl, hl, ?_⟩
    refine ⟨fun mm st => ∃ (i : Nat) (l : List Acc), (i ≤ es.length ∧ l.length = al.length ∧ postGo al es = postGo l (es.drop i)) ∧ es.length - i = mm ∧ st.t 6 = accsO 19000 l ∧ st.t 20 = entsA es ∧ st.t 21 = .int .i64 ((es.map entA).length : Nat) ∧ st.t 22 = .int .i64 i,
      ⟨_, 0, al, ⟨Nat.zero_le _, rfl, rfl⟩, rfl, rfl, rfl, rfl, rfl⟩, ?_⟩
    rintro _ ⟨t1, h1⟩ ⟨i, l, ⟨hi, hll, hT⟩, rfl, e6, e20, e21, e22⟩
    have e6 : t1 6 = accsO 19000 l := e6
    have e20 : t1 20 = entsA es := e20
    have e21 : t1 21 = .int .i64 ((es.map entA).length : Nat) := e21
    have e22 : t1 22 = .int .i64 i := e22
    rw [← updL_has t1 [(6, accsO 19000 l), (20, entsA es), (21, .int .i64 ((es.map entA).length : Nat)), (22, .int .i64 i)] ⟨e6, e20, e21, e22, trivial⟩]
    constructor
    · intro hb
      have hi' : i < es.length := by
        have : (i : Int) < ((es.map entA).length : Nat) := by simpa using hb
        simp at this; omega
      have w : IntKind.i64.wrap ((i : Int) + 1) = ((i + 1 : Nat) : Int) := by rw [wrap_of] <;> omega
      have hlt : es.length - (i + 1) < es.length - i := by omega
      obtain ⟨e, hx⟩ : ∃ x, es[i]? = some x := ⟨_, List.getElem?_eq_getElem hi'⟩
      have hm := List.mem_of_getElem? hx
      have hdr := drop_at hx
      rw [hdr, postGo_cons] at hT
      obtain ⟨k0, k1⟩ := balM_of hbal e hm
      obtain ⟨a, ha⟩ : ∃ a, l[e.acct.toNat]? = some a := ⟨_, List.getElem?_eq_getElem (by omega)⟩
      rw [ha] at hT
      refine ⟨_, Int.natCast_nonneg i, map_of hx, ?_⟩
      refine ⟨_, k0, map_of ha, ?_⟩
      refine ⟨rfl, a.bal, e.amt, rfl, fun n hn => ?_, fun x hx2 => ?_⟩
      · have hT : postGo al es = postGo (l.set e.acct.toNat ⟨a.cur, n, a.held⟩) (es.drop (i + 1)) := by rw [hT]; simp only [hn]
        refine ⟨fun h => Bool.noConfusion (show false = true from h), fun _ => ?_⟩
        refine ⟨_, k0, map_of ha, ?_⟩
        exact ⟨_, hlt, i + 1, _, ⟨hi', (List.length_set ..).trans hll, hT⟩, rfl, congrArg (AV.sl (.own 19000) 50) (modify_map ha (fun x => x.ofCells (putCells x.cells 1 [.int .i64 n])) ⟨a.cur, n, a.held⟩ rfl), rfl, rfl, congrArg (AV.int .i64) w⟩
      · have hT : postGo al es = .error x := by rw [hT]; simp only [hx2]
        rw [hT] at her
        exact ⟨fun _ => her x rfl, fun h => Bool.noConfusion (show true = false from h)⟩
    · intro hb
      have hi' : i = es.length := by
        have : ¬ (i : Int) < ((es.map entA).length : Nat) := by simpa using hb
        simp at this; omega
      subst hi'
      rw [List.drop_length] at hT
      have hT : postGo al es = .ok l := hT
      rw [hT] at hok her
      clear e6 e20 e21 e22
      refine ⟨fun mm st => ∃ (i : Nat), (i ≤ l.length ∧ ∀ (j : Nat) (a : Acc), j < i → l[j]? = some a → 9 ≤ j → ¬ freeN a < 0) ∧ l.length - i = mm ∧ st.t 6 = accsO 19000 l ∧ st.t 48 = accsO 19000 l ∧ st.t 49 = .int .i64 ((l.map accA).length : Nat) ∧ st.t 50 = .int .i64 i,
        ⟨_, 0, ⟨Nat.zero_le _, fun j a hj => absurd hj (Nat.not_lt_zero _)⟩, rfl, rfl, rfl, rfl, rfl⟩, ?_⟩
      rintro _ ⟨t1, h1⟩ ⟨i, ⟨hi, hX⟩, rfl, e6, e48, e49, e50⟩
      have e6 : t1 6 = accsO 19000 l := e6
      have e48 : t1 48 = accsO 19000 l := e48
      have e49 : t1 49 = .int .i64 ((l.map accA).length : Nat) := e49
      have e50 : t1 50 = .int .i64 i := e50
      rw [← updL_has t1 [(6, accsO 19000 l), (48, accsO 19000 l), (49, .int .i64 ((l.map accA).length : Nat)), (50, .int .i64 i)] ⟨e6, e48, e49, e50, trivial⟩]
      constructor
      · intro hb
        have hi' : i < l.length := by
          have : (i : Int) < ((l.map accA).length : Nat) := by simpa using hb
          simp at this; omega
        have w : IntKind.i64.wrap ((i : Int) + 1) = ((i + 1 : Nat) : Int) := by rw [wrap_of] <;> omega
        have hlt : l.length - (i + 1) < l.length - i := by omega
        obtain ⟨a, hx⟩ : ∃ x, l[i]? = some x := ⟨_, List.getElem?_eq_getElem hi'⟩
        have hm := List.mem_of_getElem? hx
        have hdr := drop_at hx
        have nxt : (9 ≤ i → ¬ freeN a < 0) → ∀ (j : Nat) (b : Acc), j < i + 1 → l[j]? = some b → 9 ≤ j → ¬ freeN b < 0 := fun hn j b hj hb h9 => by
          by_cases he : j = i
          · rw [he, hx] at hb; cases hb; exact hn (he ▸ h9)
          · exact hX j b (by omega) hb h9
        refine ⟨_, Int.natCast_nonneg i, map_of hx, ?_⟩
        refine ⟨rfl, l, i, rfl, ?_⟩
        cases hc : isCl l.length i with
        | false =>
          have h9 : ¬ 9 ≤ i := by
            intro h9
            have : isCl l.length i = true := by simp [isCl]; omega
            rw [hc] at this; cases this
          refine ⟨fun h => Bool.noConfusion (show false = true from h), fun _ => ?_⟩
          refine ⟨fun h => Bool.noConfusion (show false = true from h), fun _ => ?_⟩
          exact ⟨_, hlt, i + 1, ⟨hi', nxt fun h => absurd h h9⟩, rfl, rfl, rfl, rfl, congrArg (AV.int .i64) w⟩
        | true =>
          obtain ⟨c9, _⟩ := is_of hc
          refine ⟨fun _ => ?_, fun h => Bool.noConfusion (show true = false from h)⟩
          refine ⟨rfl, a, rfl, ?_⟩
          refine ⟨fun hf => ?_, fun hf => ?_⟩
          · exact her 3 (if_pos (lacks_at hx (by omega) (by simpa using hf)))
          · exact ⟨_, hlt, i + 1, ⟨hi', nxt fun _ => by simpa using hf⟩, rfl, rfl, rfl, rfl, congrArg (AV.int .i64) w⟩
      · intro hb
        have hi' : i = l.length := by
          have : ¬ (i : Int) < ((l.map accA).length : Nat) := by simpa using hb
          simp at this; omega
        subst hi'
        have hlk := lacks_not (al := l) (fun j a ha h9 => hX j a (List.getElem?_eq_some_iff.1 ha).1 ha h9)
        exact hok l (if_neg (by simp [hlk]))
theorem post_ok : FnOk Tryd.prog tab 31 postC := post_ok0.frz.mono (by
  rintro args bs K ⟨rfl, al, es, rfl, hl, hle, hok, her⟩
  exact ⟨rfl, rfl, al, es, rfl, hl, hle, fun es h => ⟨_, rfl, hok es h⟩, fun e h => ⟨_, rfl, her e h⟩⟩)
/-- What was held goes, and entries are done. -/
def spendM (al : List Acc) (n : Int) : List Ent → Except Int (List Acc)
  | [] => .error 13
  | e :: es => match relM al e.acct n with
    | .ok l => postM l (e :: es)
    | .error x => .error x
abbrev spendC (args : List AV) (bs : List Box) (K : AV → List Box → Prop) : Prop := bs = [] ∧ ∃ (al : List Acc) (n : Int) (es : List Ent), args = [accsA al, .int .i64 n, entsA es] ∧ al.length ≤ 1000000 ∧ es.length ≤ 1000000 ∧
  (∀ l, spendM al n es = .ok l → K (.tup [accsA l, .nilifc]) []) ∧ (∀ e, spendM al n es = .error e → K (.tup [.sl .nl 0 [], errA e]) [])
theorem rel_len {al l : List Acc} {k n : Int} (h : relM al k n = .ok l) : l.length = al.length := by
  unfold relM at h
  split at h
  · cases h
  · split at h
    · cases h
    · split at h
      · split at h
        · cases h
        · cases h; simp
      · cases h
def RSp : Contract
  | 33 => (accsRz relM)
  | 31 => postC
  | _ => fun _ _ _ => False
theorem RSp_ok : CallOk Tryd.prog tab RSp := by
  intro f args bs K h
  unfold RSp at h
  split at h
  · exact ⟨_, h, rel_ok⟩
  · exact ⟨_, h, post_ok⟩
  · exact h.elim
def RSp_E (pl : Nat → Plan) : En := ⟨tab, RSp, fun _ => none, 0, pl⟩
theorem RSp_J (pl : Nat → Plan) : JOk Tryd.prog (RSp_E pl).T (RSp_E pl).J := fun _ _ h => by cases h
set_option maxRecDepth 200000 in
set_option maxHeartbeats 1600000 in
theorem spend_ok : FnOk Tryd.prog tab 34 spendC := by
  refine fn_ok (E := RSp_E pl34) tab_is RSp_ok (RSp_J _) Tryd.func34 rfl rfl (by kernel_rfl) ?_
  rintro args bs K ⟨rfl, al, n, es, rfl, hl, hle, hok, her⟩
  refine ⟨rfl, ?_⟩
  cases es with
  | nil => exact ⟨fun _ => her 13 rfl, fun h => Bool.noConfusion (show true = false from h)⟩
  | cons e es =>
    have hlen : (((((e :: es).map entA).length : Nat) : Int) == 0) = false := by simp; omega
    refine ⟨fun h => absurd (hlen.symm.trans h) (by decide), fun _ => ?_⟩
    refine ⟨_, Int.le_refl 0, rfl, ?_⟩
    refine ⟨rfl, al, e.acct, n, rfl, hl, fun l hr => ?_, fun x hr => ?_⟩
    · have st : spendM al n (e :: es) = postM l (e :: es) := by simp only [spendM, hr]
      rw [st] at hok her
      refine ⟨fun h => Bool.noConfusion (show false = true from h), fun _ => ?_⟩
      refine ⟨rfl, l, e :: es, rfl, by rw [rel_len hr]; exact hl, hle, fun l2 h2 => ?_, fun x h2 => ?_⟩
      · exact hok l2 h2
      · exact her x h2
    · have st : spendM al n (e :: es) = .error x := by simp only [spendM, hr]
      exact ⟨fun _ => her x st, fun h => Bool.noConfusion (show true = false from h)⟩
end Go.Proofs.YtmlgkojmbnjfbaaDoor.A
