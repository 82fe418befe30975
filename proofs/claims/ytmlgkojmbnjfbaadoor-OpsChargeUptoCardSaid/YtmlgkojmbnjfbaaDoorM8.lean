/- The statements' own functions: law07.Same, Book.Accounts; law12.Paid.Payment; law15.State, Same. -/
import Derived.Test.YtmlgkojmbnjfbaaDoorM4
namespace Go.Proofs.YtmlgkojmbnjfbaaDoor.A
open Go Q
structure Paid where
  (src dst auth capt refu chrg til : Int)
  closed : Bool
/-! ### Same -/
theorem acc_ext {a b : Acc} (h1 : a.cur = b.cur) (h2 : a.bal = b.bal) (h3 : a.held = b.held) : a = b := by cases a; cases b; simp_all
theorem pay_ext {a b : Pay} (h : a.src = b.src ∧ a.dst = b.dst ∧ a.auth = b.auth ∧ a.capt = b.capt ∧ a.refu = b.refu ∧ a.chrg = b.chrg ∧ a.til = b.til ∧ a.stage = b.stage) : a = b := by cases a; cases b; simp_all
theorem list_ne_at {α : Type} {l m : List α} {i : Nat} {a b : α} (hl : l[i]? = some a) (hm : m[i]? = some b) (h : a ≠ b) : l ≠ m := fun e => by subst e; rw [hl] at hm; exact h (Option.some.inj hm)
theorem list_eq_of {α : Type} {l m : List α} (hlen : l.length = m.length) (h : ∀ (j : Nat) (a b : α), l[j]? = some a → m[j]? = some b → a = b) : l = m := by
  apply List.ext_getElem? 
  intro j
  by_cases hj : j < l.length
  · have h1 := List.getElem?_eq_getElem hj
    have h2 := List.getElem?_eq_getElem (show j < m.length by omega)
    rw [h1, h2]
    exact congrArg some (h j _ _ h1 h2)
  · rw [List.getElem?_eq_none (by omega), List.getElem?_eq_none (by omega)]
def sameAC (args : List AV) (bs : List Box) (K : AV → List Box → Prop) : Prop := bs = [] ∧ ∃ l m : List Acc, args = [accsA l, accsA m] ∧ l.length ≤ 1000000 ∧ (l = m → K (.bool true) []) ∧ (l ≠ m → K (.bool false) [])
set_option maxRecDepth 200000 in
set_option maxHeartbeats 3200000 in
theorem sameA_ok : FnOk Tryd.prog tab 36 sameAC := by
  refine fn_ok (E := R0_E pl36) tab_is R0_ok (R0_J _) Tryd.func36 rfl rfl (by kernel_rfl) ?_
  rintro args bs K ⟨rfl, l, m, rfl, hN, hy, hn⟩
  refine ⟨rfl, ?_⟩
  constructor
  · intro h
    refine hn fun e => ?_
    subst e
    simp at h
  · intro h
    have hlen : l.length = m.length := by
      have h : (((l.map accA).length : Nat) : Int) = (m.map accA).length := by simpa using h
      simp at h; omega
    refine ⟨fun mm st => ∃ (i : Nat), (i ≤ l.length ∧ ∀ (j : Nat) (a b : Acc), j < i → l[j]? = some a → m[j]? = some b → a = b) ∧ l.length - i = mm ∧ st.t 0 = accsA l ∧ st.t 1 = accsA m ∧ st.t 12 = .int .i64 ((l.map accA).length : Nat) ∧ st.t 13 = .int .i64 i,
      ⟨_, 0, ⟨Nat.zero_le _, fun j a b hj => absurd hj (Nat.not_lt_zero _)⟩, rfl, rfl, rfl, rfl, rfl⟩, ?_⟩
    rintro _ ⟨t1, h1⟩ ⟨i, ⟨hi, hX⟩, rfl, e0, e1, e12, e13⟩
    have e0 : t1 0 = accsA l := e0
    have e1 : t1 1 = accsA m := e1
    have e12 : t1 12 = .int .i64 ((l.map accA).length : Nat) := e12
    have e13 : t1 13 = .int .i64 i := e13
    rw [← updL_has t1 [(0, accsA l), (1, accsA m), (12, .int .i64 ((l.map accA).length : Nat)), (13, .int .i64 i)] ⟨e0, e1, e12, e13, trivial⟩]
    constructor
    · intro hb
      have hi' : i < l.length := by
        have : (i : Int) < ((l.map accA).length : Nat) := by simpa using hb
        simp at this; omega
      have w : IntKind.i64.wrap ((i : Int) + 1) = ((i + 1 : Nat) : Int) := by rw [wrap_of] <;> omega
      have hlt : l.length - (i + 1) < l.length - i := by omega
      obtain ⟨a, hx⟩ : ∃ x, l[i]? = some x := ⟨_, List.getElem?_eq_getElem hi'⟩
      have hm := List.mem_of_getElem? hx
      have hdr := drop_at hx
      obtain ⟨b, hb2⟩ : ∃ b, m[i]? = some b := ⟨_, List.getElem?_eq_getElem (by omega)⟩
      refine ⟨_, Int.natCast_nonneg i, map_of hx, ?_⟩
      refine ⟨_, Int.natCast_nonneg i, map_of hb2, ?_⟩
      refine ⟨fun h => hn (list_ne_at hx hb2 fun e => ?_), fun h => ?_⟩
      · subst e
        simp at h
      · have hab : a = b := by
          simp at h
          exact acc_ext h.1 h.2.1 h.2.2
        refine ⟨_, hlt, i + 1, ⟨hi', fun j x y hj hxj hyj => ?_⟩, rfl, rfl, rfl, rfl, congrArg (AV.int .i64) w⟩
        by_cases he : j = i
        · rw [he] at hxj hyj
          rw [hx] at hxj; rw [hb2] at hyj
          cases hxj; cases hyj; exact hab
        · exact hX j x y (by omega) hxj hyj
    · intro hb
      have hi' : i = l.length := by
        have : ¬ (i : Int) < ((l.map accA).length : Nat) := by simpa using hb
        simp at this; omega
      subst hi'
      exact hy (list_eq_of hlen fun j a b ha hb => hX j a b (List.getElem?_eq_some_iff.1 ha).1 ha hb)
/-- What is held the same of two states here. -/
def SameS (s t : Sta) : Prop := s.accs = t.accs ∧ s.pays = t.pays ∧ s.now = t.now
def sameSC (args : List AV) (bs : List Box) (K : AV → List Box → Prop) : Prop := bs = [] ∧ ∃ s t : Sta, args = [staA s, staA t] ∧ SzA s ∧ (SameS s t → K (.bool true) []) ∧ (¬ SameS s t → K (.bool false) [])
abbrev staB (s : Sta) : Option Box := some (.cells 36 (deskL s))
def RSm : Contract
  | 36 => sameAC
  | _ => fun _ _ _ => False
theorem RSm_ok : CallOk Tryd.prog tab RSm := by
  intro f args bs K h
  unfold RSm at h
  split at h
  · exact ⟨_, h, sameA_ok⟩
  · exact h.elim
def RSm_E (pl : Nat → Plan) : En := ⟨tab, RSm, fun _ => none, 0, pl⟩
theorem RSm_J (pl : Nat → Plan) : JOk Tryd.prog (RSm_E pl).T (RSm_E pl).J := fun _ _ h => by cases h
set_option maxRecDepth 200000 in
set_option maxHeartbeats 3200000 in
theorem sameS_ok : FnOk Tryd.prog tab 12 sameSC := by
  refine fn_ok (E := RSm_E pl12) tab_is RSm_ok (RSm_J _) Tryd.func12 rfl rfl (by kernel_rfl) ?_
  rintro args bs K ⟨rfl, s, t, rfl, hz, hy, hn⟩
  refine ⟨rfl, ?_⟩
  have hlp := hz.lp
  refine ⟨rfl, s.accs, t.accs, rfl, by have := hz.la; omega, fun ha => ?_, fun ha => ?_⟩
  · refine ⟨fun h => Bool.noConfusion (show false = true from h), fun _ => ?_⟩
    refine ⟨fun h => ?_, fun h => ?_⟩
    · have hend := hn fun e => by
        have h : ¬ (((s.pays.map payA).length : Nat) : Int) = (t.pays.map payA).length := by simpa using h
        rw [e.2.1] at h
        exact h rfl
      exact ⟨fun _ => hend, fun h => Bool.noConfusion (show true = false from h)⟩
    · have hlen : s.pays.length = t.pays.length := by
        have h : (((s.pays.map payA).length : Nat) : Int) = (t.pays.map payA).length := by simpa using h
        simp at h; omega
      refine ⟨fun h => ?_, fun h => ?_⟩
      · exact hn fun e => by
          have h : ¬ s.now = t.now := by simpa using h
          exact h e.2.2
      · have hnow : s.now = t.now := by simpa using h
        refine ⟨fun mm st => ∃ (i : Nat), (i ≤ s.pays.length ∧ ∀ (j : Nat) (a b : Pay), j < i → s.pays[j]? = some a → t.pays[j]? = some b → a = b) ∧ s.pays.length - i = mm ∧ st.t 2 = .ptr 2 0 ∧ st.t 3 = .ptr 3 0 ∧ st.t 30 = .int .i64 ((s.pays.map payA).length : Nat) ∧ st.t 31 = .int .i64 i ∧ st.h 2 = staB s ∧ st.h 3 = staB t,
          ⟨_, 0, ⟨Nat.zero_le _, fun j a b hj => absurd hj (Nat.not_lt_zero _)⟩, rfl, rfl, rfl, rfl, rfl, rfl, rfl⟩, ?_⟩
        rintro _ ⟨t1, h1⟩ ⟨i, ⟨hi, hX⟩, rfl, e2, e3, e30, e31, b2, b3⟩
        have e2 : t1 2 = .ptr 2 0 := e2
        have e3 : t1 3 = .ptr 3 0 := e3
        have e30 : t1 30 = .int .i64 ((s.pays.map payA).length : Nat) := e30
        have e31 : t1 31 = .int .i64 i := e31
        have b2 : h1 2 = staB s := b2
        have b3 : h1 3 = staB t := b3
        rw [← updL_has t1 [(2, .ptr 2 0), (3, .ptr 3 0), (30, .int .i64 ((s.pays.map payA).length : Nat)), (31, .int .i64 i)] ⟨e2, e3, e30, e31, trivial⟩, ← updL_has h1 [(2, staB s), (3, staB t)] ⟨b2, b3, trivial⟩]
        constructor
        · intro hb
          have hi' : i < s.pays.length := by
            have : (i : Int) < ((s.pays.map payA).length : Nat) := by simpa using hb
            simp at this; omega
          have w : IntKind.i64.wrap ((i : Int) + 1) = ((i + 1 : Nat) : Int) := by rw [wrap_of] <;> omega
          have hlt : s.pays.length - (i + 1) < s.pays.length - i := by omega
          obtain ⟨a, hx⟩ : ∃ x, s.pays[i]? = some x := ⟨_, List.getElem?_eq_getElem hi'⟩
          have hm := List.mem_of_getElem? hx
          have hdr := drop_at hx
          obtain ⟨b, hb2⟩ : ∃ b, t.pays[i]? = some b := ⟨_, List.getElem?_eq_getElem (by omega)⟩
          have fin : (a = b → ∀ (j : Nat) (x y : Pay), j < i + 1 → s.pays[j]? = some x → t.pays[j]? = some y → x = y) := fun hab j x y hj hxj hyj => by
            by_cases he : j = i
            · rw [he] at hxj hyj
              rw [hx] at hxj; rw [hb2] at hyj
              cases hxj; cases hyj; exact hab
            · exact hX j x y (by omega) hxj hyj
          repeat' first
            | (refine ⟨_, Int.natCast_nonneg i, map_of hx, ?_⟩)
            | (refine ⟨_, Int.natCast_nonneg i, map_of hb2, ?_⟩)
            | (refine ⟨fun h => hn fun e => list_ne_at hx hb2 (fun e2 => by subst e2; simp at h) e.2.1, fun h => ?_⟩)
            | (refine ⟨_, hlt, i + 1, ⟨hi', fin (by simp at h; exact pay_ext h)⟩, rfl, rfl, rfl, rfl, congrArg (AV.int .i64) w, rfl, rfl⟩)
            | (refine And.intro ?_ ?_)
            | fail
        · intro hb
          have hi' : i = s.pays.length := by
            have : ¬ (i : Int) < ((s.pays.map payA).length : Nat) := by simpa using hb
            simp at this; omega
          subst hi'
          exact hy ⟨ha, list_eq_of hlen fun j a b h1 h2 => hX j a b (List.getElem?_eq_some_iff.1 h1).1 h1 h2, hnow⟩
  · have hend := hn fun e => ha e.1
    refine ⟨fun _ => ?_, fun h => Bool.noConfusion (show true = false from h)⟩
    refine ⟨fun _ => ?_, fun h => Bool.noConfusion (show true = false from h)⟩
    exact ⟨fun _ => hend, fun h => Bool.noConfusion (show true = false from h)⟩
end Go.Proofs.YtmlgkojmbnjfbaaDoor.A
