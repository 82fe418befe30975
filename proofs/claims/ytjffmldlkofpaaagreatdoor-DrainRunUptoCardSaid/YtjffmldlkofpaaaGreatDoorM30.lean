/- engine: Find, and what an event does: submit, end, step, tick. -/
import Derived.Test.YtjffmldlkofpaaaGreatDoorGY
import Derived.Test.YtjffmldlkofpaaaGreatDoorGS
namespace Go.Proofs.YtjffmldlkofpaaaGreatDoor.A
open Go Q
structure Evt where
  what : Int
  req : Req
  key : Int
  ok : Bool
def evtA (e : Evt) : AV := .agg [.int .i64 e.what, .int .i64 e.req.key, .int .i64 e.req.op, .int .i64 e.req.a, .int .i64 e.req.b, .int .i64 e.req.amt, .int .i64 e.req.legs, .int .i64 e.req.til, .int .i64 e.key, .bool e.ok]
abbrev withS (s : Sta) (l : List Sag) : Sta := ⟨s.accs, s.pays, l, s.kns, s.now⟩
/-! ### a key's saga -/
def sk (g : Sag) : Kno := ⟨g.req, 0, 0, false⟩
def findG (gs : List Sag) (key : Int) : Int := findK (gs.map sk) key 0
theorem findG_cases (gs : List Sag) (key : Int) : (findG gs key = -1 ∧ ∀ g ∈ gs, g.req.key ≠ key) ∨ ∃ (i : Nat) (g : Sag), findG gs key = i ∧ gs[i]? = some g ∧ g.req.key = key ∧ ∀ (j : Nat) (q : Sag), j < i → gs[j]? = some q → q.req.key ≠ key := by
  rcases find_cases (gs.map sk) key with ⟨h1, h2⟩ | ⟨i, k, h1, h2, h3, h4⟩
  · exact .inl ⟨h1, fun g hg => h2 (sk g) (List.mem_map.2 ⟨g, hg, rfl⟩)⟩
  · rw [List.getElem?_map] at h2
    cases hg : gs[i]? with
    | none => rw [hg] at h2; cases h2
    | some g =>
      rw [hg] at h2
      obtain rfl := Option.some.inj h2
      refine .inr ⟨i, g, h1, hg, h3, fun j q hj hq => h4 j (sk q) hj ?_⟩
      rw [List.getElem?_map, hq]; rfl
theorem findG_at {gs : List Sag} {key : Int} {i : Nat} {g : Sag} (h : gs[i]? = some g) (hk : g.req.key = key) (hn : ∀ (j : Nat) (q : Sag), j < i → gs[j]? = some q → ¬ q.req.key = key) : findG gs key = i := by
  have := find_at (key := key) (ks := gs.map sk) (i := i) (k := sk g) (o := 0) (by rw [List.getElem?_map, h]; rfl) hk (fun j q hj hq => by
    rw [List.getElem?_map] at hq
    cases hx : gs[j]? with
    | none => rw [hx] at hq; cases hq
    | some x =>
      rw [hx] at hq
      obtain rfl := Option.some.inj hq
      exact hn j x hj hx)
  unfold findG
  omega
theorem findG_no {gs : List Sag} {key : Int} (hn : ∀ (j : Nat) (q : Sag), gs[j]? = some q → ¬ q.req.key = key) : findG gs key = -1 := by
  rcases findG_cases gs key with ⟨h, -⟩ | ⟨i, g, -, h2, h3, -⟩
  · exact h
  · exact absurd h3 (hn i g h2)
def findGC (args : List AV) (bs : List Box) (K : AV → List Box → Prop) : Prop := bs = [] ∧ ∃ (s : Sta) (key : Int), args = [staA s, .int .i64 key] ∧ s.sags.length ≤ 1000000 ∧ K (.int .i64 (findG s.sags key)) []
set_option maxRecDepth 200000 in
set_option maxHeartbeats 3200000 in
theorem findG_ok : FnOk Tryz.prog tab 68 findGC := by
  refine fn_ok (E := R0_E pl68) tab_is R0_ok (R0_J _) Tryz.func68 rfl rfl (by kernel_rfl) ?_
  rintro args bs K ⟨rfl, s, key, rfl, hN, hK⟩
  refine ⟨rfl, ?_⟩
  have fin : ∀ n, n = findG s.sags key → K (.int .i64 n) [] := fun n e => e ▸ hK
  refine ⟨fun mm st => ∃ (i : Nat), (i ≤ s.sags.length ∧ ∀ (j : Nat) (q : Sag), j < i → s.sags[j]? = some q → ¬ q.req.key = key) ∧ s.sags.length - i = mm ∧ st.t 8 = sagsA s.sags ∧ st.t 9 = .int .i64 ((s.sags.map sagA).length : Nat) ∧ st.t 10 = .int .i64 i ∧ st.t 1 = .int .i64 key,
    ⟨_, 0, ⟨Nat.zero_le _, fun j q h => absurd h (Nat.not_lt_zero _)⟩, rfl, rfl, rfl, rfl, rfl⟩, ?_⟩
  rintro _ ⟨t1, h1⟩ ⟨i, ⟨hi, hX⟩, rfl, e8, e9, e10, e1⟩
  have e8 : t1 8 = sagsA s.sags := e8
  have e9 : t1 9 = .int .i64 ((s.sags.map sagA).length : Nat) := e9
  have e10 : t1 10 = .int .i64 i := e10
  have e1 : t1 1 = .int .i64 key := e1
  rw [← updL_has t1 [(8, sagsA s.sags), (9, .int .i64 ((s.sags.map sagA).length : Nat)), (10, .int .i64 i), (1, .int .i64 key)] ⟨e8, e9, e10, e1, trivial⟩]
  constructor
  · intro hb
    have hi' : i < s.sags.length := by
      have : (i : Int) < ((s.sags.map sagA).length : Nat) := by simpa using hb
      simp at this; omega
    have w : IntKind.i64.wrap ((i : Int) + 1) = ((i + 1 : Nat) : Int) := by rw [wrap_of] <;> omega
    have hlt : s.sags.length - (i + 1) < s.sags.length - i := by omega
    obtain ⟨g, hx⟩ : ∃ x, s.sags[i]? = some x := ⟨_, List.getElem?_eq_getElem hi'⟩
    have hm := List.mem_of_getElem? hx
    have hdr := drop_at hx
    refine ⟨_, Int.natCast_nonneg i, map_of hx, ?_⟩
    refine ⟨fun h => ?_, fun h => ?_⟩
    · exact fin _ (findG_at hx (beqT h) hX).symm
    · have hk := beqF h
      refine ⟨_, hlt, i + 1, ⟨hi', fun j q hj hq => ?_⟩, rfl, rfl, rfl, congrArg (AV.int .i64) w, rfl⟩
      by_cases h : j = i
      · subst h; rw [hx] at hq; cases hq; exact hk
      · exact hX j q (by omega) hq
  · intro hb
    have hi' : i = s.sags.length := by
      have : ¬ (i : Int) < ((s.sags.map sagA).length : Nat) := by simpa using hb
      simp at this; omega
    subst hi'
    exact fin _ (findG_no (fun j q hq => hX j q (List.getElem?_eq_some_iff.1 hq).1 hq)).symm
/-! ### contracts whose way is known -/
abbrev srDC (M : Sta → Req → Except Int Sta) (args : List AV) (bs : List Box) (K : AV → List Box → Prop) : Prop := bs = [] ∧ ∃ (s : Sta) (r : Req), args = [staA s, reqA r] ∧ SzA s ∧ ((∃ t, M s r = .ok t ∧ K (.tup [staA t, .nilifc]) []) ∨ ∃ e, M s r = .error e ∧ K (.tup [staA s, errA e]) [])
theorem srD {f : FuncId} {M : Sta → Req → Except Int Sta} (h : FnOk Tryz.prog tab f (srC M)) : FnOk Tryz.prog tab f (srDC M) := h.mono (by
  rintro args bs K ⟨rfl, s, r, rfl, hz, ⟨t, ht, hK⟩ | ⟨e, he, hK⟩⟩
  · exact ⟨rfl, s, r, rfl, hz, fun t' h => (by rw [ht] at h; cases h; exact hK), fun e h => (by rw [ht] at h; cases h)⟩
  · exact ⟨rfl, s, r, rfl, hz, fun t h => (by rw [he] at h; cases h), fun e' h => (by rw [he] at h; cases h; exact hK)⟩)
abbrev putDC (args : List AV) (bs : List Box) (K : AV → List Box → Prop) : Prop := bs = [] ∧ ∃ (ks : List Kno) (r : Req), args = [knsA ks, reqA r] ∧ ks.length ≤ 1000000 ∧ ((∃ l, putKM ks r = .ok l ∧ K (.tup [knsA l, .nilifc]) []) ∨ ∃ e, putKM ks r = .error e ∧ K (.tup [.sl .nl 0 [], errA e]) [])
theorem putD_ok : FnOk Tryz.prog tab 46 putDC := putK_ok.mono (by
  rintro args bs K ⟨rfl, s, r, rfl, hz, ⟨t, ht, hK⟩ | ⟨e, he, hK⟩⟩
  · exact ⟨rfl, s, r, rfl, hz, fun t' h => (by rw [ht] at h; cases h; exact hK), fun e h => (by rw [ht] at h; cases h)⟩
  · exact ⟨rfl, s, r, rfl, hz, fun t h => (by rw [he] at h; cases h), fun e' h => (by rw [he] at h; cases h; exact hK)⟩)
abbrev tellDC (args : List AV) (bs : List Box) (K : AV → List Box → Prop) : Prop := bs = [] ∧ ∃ (ks : List Kno) (key e i : Int) (l : List Kno), args = [knsA ks, .int .i64 key, repA e i] ∧ ks.length ≤ 1000000 ∧ tellM ks key e i = .ok l ∧ K (.tup [knsA l, .nilifc]) []
theorem tellD_ok : FnOk Tryz.prog tab 51 tellDC := tell_ok.mono (by
  rintro args bs K ⟨rfl, ks, key, e, i, l, rfl, hz, ht, hK⟩
  exact ⟨rfl, ks, key, e, i, rfl, hz, fun t' h => (by rw [ht] at h; cases h; exact hK), fun e h => (by rw [ht] at h; cases h)⟩)
abbrev numDC (args : List AV) (bs : List Box) (K : AV → List Box → Prop) : Prop := bs = [] ∧ ∃ n : Int, args = [errA n] ∧ K (.int .i64 n) []
theorem numD_ok : FnOk Tryz.prog tab 47 numDC := number_ok.mono (by
  rintro args bs K ⟨rfl, n, rfl, hK⟩
  exact ⟨rfl, .inr ⟨n, rfl, hK⟩⟩)
/-! ### a state while an event is done -/
def machB (s : Sta) : Box := .cells 99 (deskL s)
def machBo (F : Nat) (s : Sta) : Box := .cells 99 [accsA s.accs, paysA s.pays, .sl (.own F) 47 (s.sags.map sagA), knsA s.kns, .int .i64 s.now]
structure SzE (s : Sta) : Prop extends SzK s where
  ls : s.sags.length ≤ 16
abbrev machC (M : Sta → Evt → Sta × Rep) (args : List AV) (bs : List Box) (K : AV → List Box → Prop) : Prop := ∃ (s : Sta) (e : Evt), bs = [machB s] ∧ args = [dk, evtA e] ∧ SzE s ∧ K (repA (M s e).2.1 (M s e).2.2) [machB (M s e).1]
abbrev machC0 (F : Nat) (M : Sta → Evt → Sta × Rep) (args : List AV) (bs : List Box) (K : AV → List Box → Prop) : Prop := ∃ (s : Sta) (e : Evt), bs = [machB s] ∧ args = [dk, evtA e] ∧ SzE s ∧ K (repA (M s e).2.1 (M s e).2.2) [machB (M s e).1] ∧ K (repA (M s e).2.1 (M s e).2.2) [machBo F (M s e).1]
def tickEM (s : Sta) (_ : Evt) : Sta × Rep := (tickM s, (0, 0))
def RTe : Contract
  | 75 => tickC
  | _ => fun _ _ _ => False
theorem RTe_ok : CallOk Tryz.prog tab RTe := by
  intro f args bs K h
  unfold RTe at h
  split at h
  · exact ⟨_, h, tick_ok⟩
  · exact h.elim
def RTe_E (pl : Nat → Plan) : En := ⟨tab, RTe, fun _ => none, 0, pl⟩
theorem RTe_J (pl : Nat → Plan) : JOk Tryz.prog (RTe_E pl).T (RTe_E pl).J := fun _ _ h => by cases h
set_option maxRecDepth 200000 in
set_option maxHeartbeats 3200000 in
theorem tickE_ok : FnOk Tryz.prog tab 39 (machC tickEM) := by
  refine fn_ok (E := RTe_E pl39) tab_is RTe_ok (RTe_J _) Tryz.func39 rfl rfl (by kernel_rfl) ?_
  rintro args bs K ⟨s, e, rfl, rfl, hz, hK⟩
  refine ⟨rfl, ?_⟩
  exact ⟨rfl, s, rfl, hz.z, hK⟩
def submitM (s : Sta) (e : Evt) : Sta × Rep :=
  if mayR e.req = false then (s, (1, 0)) else if (askM s.kns e.req).2 = true then (s, (askM s.kns e.req).1) else if longB e.req = true ∧ s.sags.length ≥ 16 then (s, (7, 0)) else match putKM s.kns e.req with
  | .error x => (s, (x, 0))
  | .ok l => if longB e.req = true then (match reserveM s e.req with
      | .error x => (withK s (s.kns ++ [⟨e.req, x, 0, true⟩]), (x, 0))
      | .ok t => (withS (withK t l) (s.sags ++ [beginM e.req]), (10, 0)))
    else (withK (doM s e.req).1 (s.kns ++ [⟨e.req, (doM s e.req).2.1, (doM s e.req).2.2, true⟩]), (doM s e.req).2)
def RSu : Contract
  | 44 => mayRC
  | 45 => askKC
  | 48 => longC
  | 46 => putDC
  | 47 => numDC
  | 50 => doC
  | 51 => tellDC
  | 66 => (srDC reserveM)
  | 67 => beginC
  | _ => fun _ _ _ => False
theorem RSu_ok : CallOk Tryz.prog tab RSu := by
  intro f args bs K h
  unfold RSu at h
  split at h
  · exact ⟨_, h, mayR_ok⟩
  · exact ⟨_, h, askK_ok⟩
  · exact ⟨_, h, long_ok⟩
  · exact ⟨_, h, putD_ok⟩
  · exact ⟨_, h, numD_ok⟩
  · exact ⟨_, h, do_ok⟩
  · exact ⟨_, h, tellD_ok⟩
  · exact ⟨_, h, (srD reserve_ok)⟩
  · exact ⟨_, h, begin_ok⟩
  · exact h.elim
def RSu_E (pl : Nat → Plan) : En := ⟨tab, RSu, fun _ => none, 0, pl⟩
theorem RSu_J (pl : Nat → Plan) : JOk Tryz.prog (RSu_E pl).T (RSu_E pl).J := fun _ _ h => by cases h
set_option maxRecDepth 200000 in
set_option maxHeartbeats 25600000 in
theorem submit_ok0 : FnOk Tryz.prog tab 37 (machC0 130000 submitM) := by
  refine fn_ok (E := RSu_E pl37) tab_is RSu_ok (RSu_J _) Tryz.func37 rfl rfl (by kernel_rfl) ?_
  rintro args bs K ⟨s, e, rfl, rfl, hz, hK, hK'⟩
  refine ⟨rfl, ?_⟩
  have hzz := hz.z
  have hk6 : s.kns.length ≤ 1000000 := by have := hz.lk; omega
  unfold submitM at hK hK'
  have ha : askM s.kns e.req = ((askM s.kns e.req).1, (askM s.kns e.req).2) := rfl
  cases hm : mayR e.req with
  | false =>
    rw [if_pos hm] at hK
    have hend := hK
    repeat' first
      | (exact hend)
      | (refine ⟨rfl, e.req, rfl, ?_⟩; rw [hm])
      | (refine ⟨fun _ => ?_, fun h => Bool.noConfusion (show true = false from h)⟩)
      | (refine ⟨fun h => Bool.noConfusion (show false = true from h), fun _ => ?_⟩)
      | (refine And.intro ?_ ?_)
  | true =>
    rw [if_neg (by simp [hm])] at hK hK'
    cases h2 : (askM s.kns e.req).2 with
    | true =>
      rw [if_pos h2] at hK
      have hend := hK
      repeat' first
        | (exact hend)
        | (refine ⟨rfl, e.req, rfl, ?_⟩; rw [hm])
        | (refine ⟨rfl, s.kns, e.req, rfl, hk6, ?_⟩; rw [h2])
        | (refine ⟨fun _ => ?_, fun h => Bool.noConfusion (show true = false from h)⟩)
        | (refine ⟨fun h => Bool.noConfusion (show false = true from h), fun _ => ?_⟩)
        | (refine And.intro ?_ ?_)
    | false =>
      rw [if_neg (by simp [h2])] at hK hK'
      cases hl : longB e.req with
      | false =>
        rw [if_neg (by simp [hl])] at hK
        cases hp : putKM s.kns e.req with
        | error x =>
          simp only [hp] at hK
          have hend := hK
          repeat' first
            | (exact hend)
            | (refine ⟨rfl, e.req, rfl, ?_⟩; rw [hm])
            | (refine ⟨rfl, s.kns, e.req, rfl, hk6, ?_⟩; rw [h2])
            | (refine ⟨rfl, e.req, rfl, ?_⟩; rw [hl])
            | (refine ⟨rfl, s.kns, e.req, rfl, hk6, .inr ⟨x, hp, ?_⟩⟩)
            | (refine ⟨rfl, x, rfl, ?_⟩)
            | (refine ⟨fun _ => ?_, fun h => Bool.noConfusion (show true = false from h)⟩)
            | (refine ⟨fun h => Bool.noConfusion (show false = true from h), fun _ => ?_⟩)
            | (refine And.intro ?_ ?_)
        | ok l =>
          simp only [hp] at hK
          rw [if_neg (by simp [hl])] at hK
          have hl6 : l.length ≤ 1000000 := by obtain ⟨rfl, h1, -⟩ := put_ok hp; simp; omega
          have hend := hK
          repeat' first
            | (exact hend)
            | (refine ⟨rfl, e.req, rfl, ?_⟩; rw [hm])
            | (refine ⟨rfl, s.kns, e.req, rfl, hk6, ?_⟩; rw [h2])
            | (refine ⟨rfl, e.req, rfl, ?_⟩; rw [hl])
            | (refine ⟨rfl, s.kns, e.req, rfl, hk6, .inl ⟨l, hp, ?_⟩⟩)
            | (refine ⟨rfl, s, e.req, rfl, hzz, ?_⟩)
            | (refine ⟨rfl, l, e.req.key, _, _, _, rfl, hl6, tell_put hp _ _, ?_⟩)
            | (refine ⟨fun _ => ?_, fun h => Bool.noConfusion (show true = false from h)⟩)
            | (refine ⟨fun h => Bool.noConfusion (show false = true from h), fun _ => ?_⟩)
            | (refine And.intro ?_ ?_)
      | true =>
        by_cases h16 : s.sags.length ≥ 16
        · rw [if_pos ⟨hl, h16⟩] at hK
          have hge : decide ((((s.sags.map sagA).length : Nat) : Int) ≥ 16) = true := by rw [List.length_map]; simp; omega
          have hend := hK
          repeat' first
            | (exact hend)
            | (refine ⟨rfl, e.req, rfl, ?_⟩; rw [hm])
            | (refine ⟨rfl, s.kns, e.req, rfl, hk6, ?_⟩; rw [h2])
            | (refine ⟨rfl, e.req, rfl, ?_⟩; rw [hl])
            | (refine ⟨fun _ => ?_, fun h => absurd (hge.symm.trans h) (by decide)⟩)
            | (refine ⟨fun _ => ?_, fun h => Bool.noConfusion (show true = false from h)⟩)
            | (refine ⟨fun h => Bool.noConfusion (show false = true from h), fun _ => ?_⟩)
            | (refine And.intro ?_ ?_)
        · rw [if_neg (fun h => h16 h.2)] at hK hK'
          have hge : decide ((((s.sags.map sagA).length : Nat) : Int) ≥ 16) = false := by rw [List.length_map]; simp; omega
          cases hp : putKM s.kns e.req with
          | error x =>
            simp only [hp] at hK
            have hend := hK
            repeat' first
              | (exact hend)
              | (refine ⟨rfl, e.req, rfl, ?_⟩; rw [hm])
              | (refine ⟨rfl, s.kns, e.req, rfl, hk6, ?_⟩; rw [h2])
              | (refine ⟨rfl, e.req, rfl, ?_⟩; rw [hl])
              | (refine ⟨fun h => absurd (hge.symm.trans h) (by decide), fun _ => ?_⟩)
              | (refine ⟨rfl, s.kns, e.req, rfl, hk6, .inr ⟨x, hp, ?_⟩⟩)
              | (refine ⟨rfl, x, rfl, ?_⟩)
              | (refine ⟨fun _ => ?_, fun h => Bool.noConfusion (show true = false from h)⟩)
              | (refine ⟨fun h => Bool.noConfusion (show false = true from h), fun _ => ?_⟩)
              | (refine And.intro ?_ ?_)
          | ok l =>
            simp only [hp] at hK hK'
            rw [if_pos hl] at hK hK'
            have hl6 : l.length ≤ 1000000 := by obtain ⟨rfl, h1, -⟩ := put_ok hp; simp; omega
            cases hr : reserveM s e.req with
            | error x =>
              simp only [hr] at hK
              have hend := hK
              repeat' first
                | (exact hend)
                | (refine ⟨rfl, e.req, rfl, ?_⟩; rw [hm])
                | (refine ⟨rfl, s.kns, e.req, rfl, hk6, ?_⟩; rw [h2])
                | (refine ⟨rfl, e.req, rfl, ?_⟩; rw [hl])
                | (refine ⟨fun h => absurd (hge.symm.trans h) (by decide), fun _ => ?_⟩)
                | (refine ⟨rfl, s.kns, e.req, rfl, hk6, .inl ⟨l, hp, ?_⟩⟩)
                | (refine ⟨rfl, s, e.req, rfl, hzz, .inr ⟨x, hr, ?_⟩⟩)
                | (refine ⟨rfl, x, rfl, ?_⟩)
                | (refine ⟨rfl, l, e.req.key, _, _, _, rfl, hl6, tell_put hp _ _, ?_⟩)
                | (refine ⟨fun _ => ?_, fun h => Bool.noConfusion (show true = false from h)⟩)
                | (refine ⟨fun h => Bool.noConfusion (show false = true from h), fun _ => ?_⟩)
                | (refine And.intro ?_ ?_)
            | ok t =>
              simp only [hr] at hK'
              obtain ⟨-, -, r3, -, -⟩ := reserve_len hr
              have bd1 : (t.sags.map sagA).length * 88 ≤ 140737488355328 := by rw [List.length_map, r3]; have := hz.ls; omega
              have bd2 : ((t.sags.map sagA).length + 1) * 88 ≤ 140737488355328 := by rw [List.length_map, r3]; have := hz.ls; omega
              have e1 : (s.sags ++ [beginM e.req]).map sagA = t.sags.map sagA ++ [sagA (beginM e.req)] := by rw [r3]; exact List.map_append
              have hend : K (repA 10 0) [.cells 99 [accsA t.accs, paysA t.pays, .sl (.own 130000) 47 (t.sags.map sagA ++ [sagA (beginM e.req)]), knsA l, .int .i64 t.now]] := by rw [← e1]; exact hK'
              repeat' first
                | (exact hend)
                | (refine ⟨rfl, e.req, rfl, ?_⟩; rw [hm])
                | (refine ⟨rfl, s.kns, e.req, rfl, hk6, ?_⟩; rw [h2])
                | (refine ⟨rfl, e.req, rfl, ?_⟩; rw [hl])
                | (refine ⟨fun h => absurd (hge.symm.trans h) (by decide), fun _ => ?_⟩)
                | (refine ⟨rfl, s.kns, e.req, rfl, hk6, .inl ⟨l, hp, ?_⟩⟩)
                | (refine ⟨rfl, s, e.req, rfl, hzz, .inl ⟨t, hr, ?_⟩⟩)
                | (refine ⟨bd1, ?_⟩)
                | (refine ⟨bd2, ?_⟩)
                | (refine ⟨rfl, e.req, rfl, ?_⟩)
                | (refine ⟨fun _ => ?_, fun h => Bool.noConfusion (show true = false from h)⟩)
                | (refine ⟨fun h => Bool.noConfusion (show false = true from h), fun _ => ?_⟩)
                | (refine And.intro ?_ ?_)
end Go.Proofs.YtjffmldlkofpaaaGreatDoor.A
