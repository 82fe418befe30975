/- hawalalaw20: check, the reference; what it tells is what audit.Check tells. Plain facts of its table of faults. -/
import Derived.Test.YtjffmldlkofpaaaGreatDoorU9
namespace Go.Proofs.YtjffmldlkofpaaaGreatDoor.A
open Go Q
def entE (c : Int × Bool) : AV × AV := (.int .i64 c.1, .bool c.2)
def getL : List (Int × Bool) → Int → Option Bool
  | [], _ => none
  | (n, b) :: l, k => if k = n then some b else getL l k
def setL : List (Int × Bool) → Int → List (Int × Bool)
  | [], k => [(k, true)]
  | (n, b) :: l, k => if k = n then (n, true) :: l else (n, b) :: setL l k
def trL (l : List (Int × Bool)) (k : Int) : Bool := (getL l k).getD false
theorem ent_find (k : Int) : ∀ l : List (Int × Bool), mfind (.int .i64 k) (l.map entE) = some ((getL l k).map AV.bool)
  | [] => rfl
  | (n, b) :: l => by
    simp only [List.map_cons, entE, mfind, keyEq_i, getL]
    by_cases e : k = n
    · subst e; simp
    · have e' : (k == n) = false := by simpa using e
      rw [e', if_neg e]
      exact ent_find k l
theorem ent_set (k : Int) : ∀ l : List (Int × Bool), mset (.int .i64 k) (.bool true) (l.map entE) = some ((setL l k).map entE)
  | [] => rfl
  | (n, b) :: l => by
    have ih := ent_set k l
    show mset (.int .i64 k) (.bool true) ((.int .i64 n, .bool b) :: l.map entE) = _
    simp only [mset, keyEq_i, setL]
    by_cases e : k = n
    · subst e; simp [entE]
    · have e' : (k == n) = false := by simpa using e
      rw [e', if_neg e, ih]
      rfl
theorem get_set (k j : Int) : ∀ l : List (Int × Bool), trL (setL l k) j = (decide (j = k) || trL l j)
  | [] => by
    unfold trL
    simp only [setL, getL]
    by_cases e : j = k <;> simp [e]
  | (n, b) :: l => by
    have ih := get_set k j l
    unfold trL at ih ⊢
    simp only [setL]
    by_cases e : k = n
    · subst e
      rw [if_pos rfl]
      simp only [getL]
      by_cases e2 : j = k <;> simp [e2]
    · rw [if_neg e]
      simp only [getL]
      by_cases e2 : j = n
      · simp [e2]
        intro h
        exact absurd h.symm e
      · rw [if_neg e2, if_neg e2]
        exact ih
theorem ent_map {φ : AV → AV} (h : ∀ b, φ (.bool b) = .bool b) (l : List (Int × Bool)) : (l.map entE).map (fun p => (p.1, AV.tr φ p.2)) = l.map entE := by
  rw [List.map_map]
  apply List.map_congr_left
  intro c _
  show (AV.int .i64 c.1, AV.tr φ (.bool c.2)) = entE c
  have : AV.tr φ (.bool c.2) = .bool c.2 := by unfold AV.tr; exact h _
  rw [this]; rfl
theorem ent_mapq {φ : AV → AV} (h : ∀ b, φ (.bool b) = .bool b) (l : List (Int × Bool)) : mapq (fun p : AV × AV => (p.1, AV.trq φ p.2)) (l.map entE) = l.map entE := by
  rw [mapq_eq, trq_eq]
  exact ent_map h l
theorem ent_fgt (n : Nat) (l : List (Int × Bool)) : mapq (fun p : AV × AV => (p.1, AV.trq (fgtBq n) p.2)) (l.map entE) = l.map entE := ent_mapq (fun _ => rfl) l
theorem ent_drpR (a b : Nat) (l : List (Int × Bool)) : mapq (fun p : AV × AV => (p.1, AV.trq (drpRq a b) p.2)) (l.map entE) = l.map entE := ent_mapq (fun _ => rfl) l
theorem ent_drpF (n : Nat) (l : List (Int × Bool)) : mapq (fun p : AV × AV => (p.1, AV.trq (drpFq n) p.2)) (l.map entE) = l.map entE := ent_mapq (fun _ => rfl) l
theorem ent_kil (l : List (Int × Bool)) : (l.map entE).map (fun p => (p.1, AV.tr kil p.2)) = l.map entE := ent_map (fun _ => rfl) l
def mapB (l : List (Int × Bool)) : Option Box := some (.mapo (l.map entE))
theorem mapB_of {es : List (AV × AV)} {l : List (Int × Bool)} (h : es = l.map entE) : some (Box.mapo es) = mapB l := by rw [h]; rfl
theorem fnd_of {es : List (AV × AV)} {l : List (Int × Bool)} (h : es = l.map entE) (k : Int) : mfind (.int .i64 k) es = some ((getL l k).map AV.bool) := by rw [h]; exact ent_find k l
theorem set_of {es : List (AV × AV)} {l : List (Int × Bool)} (h : es = l.map entE) (k : Int) : mset (.int .i64 k) (.bool true) es = some ((setL l k).map entE) := by rw [h]; exact ent_set k l
theorem all_next {α : Type} {f : α → Bool} {l : List α} {i : Nat} {x : α} (h : l[i]? = some x) : (l.take (i + 1)).all f = ((l.take i).all f && f x) := by
  rw [List.take_add_one, h, List.all_append]
  simp
theorem allX_next {α : Type} {f : Int → α → Bool} : ∀ {l : List α} {i : Nat} {x : α} {o : Int}, l[i]? = some x → allX f o (l.take (i + 1)) = (allX f o (l.take i) && f (o + i) x)
  | [], _, _, _, h => by simp at h
  | y :: l, 0, x, o, h => by simp at h; subst h; simp [allX]
  | y :: l, i + 1, x, o, h => by
    have := allX_next (f := f) (l := l) (i := i) (o := o + 1) (by simpa using h)
    simp only [List.take_succ_cons, allX] at this ⊢
    rw [this, show o + 1 + (i : Int) = o + ((i + 1 : Nat) : Int) by omega, Bool.and_assoc]
theorem nodup_next {l : List Int} {i : Nat} {x : Int} (h : l[i]? = some x) : decide ((l.take (i + 1)).Nodup) = (decide ((l.take i).Nodup) && !decide (x ∈ l.take i)) := by
  rw [List.take_add_one, h]
  show decide (l.take i ++ [x]).Nodup = _
  have : (l.take i ++ [x]).Nodup ↔ (l.take i).Nodup ∧ ¬ x ∈ l.take i := by
    rw [List.nodup_append]
    constructor
    · rintro ⟨h1, _, h3⟩
      exact ⟨h1, fun hm => h3 x hm x (List.mem_singleton.2 rfl) rfl⟩
    · rintro ⟨h1, h2⟩
      refine ⟨h1, List.nodup_cons.2 ⟨List.not_mem_nil, List.Pairwise.nil⟩, fun a ha b hb => ?_⟩
      rcases List.mem_singleton.1 hb with rfl
      exact fun e => h2 (e ▸ ha)
  by_cases h1 : (l.take i).Nodup <;> by_cases h2 : x ∈ l.take i <;> simp [this, h1, h2]
/-! ### the table, stage by stage -/
def w0 (s : Sta) (k : Int) : Bool := (decide (k = 1) && !zeroT (sumsL s.accs)) || (decide (k = 2) && !rightL s.accs)
def w1 (s : Sta) (b : Bool) (k : Int) : Bool := w0 s k || (decide (k = 3) && !b)
def w2 (s : Sta) (b4 b6 : Bool) (k : Int) : Bool := w1 s (paysOk s) k || (decide (k = 4) && !b4) || (decide (k = 6) && !b6)
def w3 (s : Sta) (b : Bool) (k : Int) : Bool := w2 s (sagsOk s) (decide (gkeys s).Nodup) k || (decide (k = 5) && !b)
def w4 (s : Sta) (b : Bool) (k : Int) : Bool := w3 s (holdsOk s) k || (decide (k = 6) && !b)
def I1 (s : Sta) (m : Nat) (st : St) : Prop := ∃ (i : Nat) (l : List (Int × Bool)), (i ≤ s.pays.length ∧ ∀ k, trL l k = w1 s ((s.pays.take i).all (payOk s.accs.length)) k) ∧ s.pays.length - i = m ∧ st.t 1 = .ptr 1 0 ∧ st.t 3 = .fn (.func 62) [] [.ptr 1 0] ∧ st.t 4 = .fn (.func 63) [] [.ptr 1 0] ∧ st.t 5 = .mp 24 ∧ st.t 36 = paysA s.pays ∧ st.t 37 = .int .i64 ((s.pays.map payA).length : Nat) ∧ st.t 38 = .int .i64 i ∧ st.h 1 = staBa s ∧ st.h 24 = mapB l
def I2 (s : Sta) (m : Nat) (st : St) : Prop := ∃ (i : Nat) (l : List (Int × Bool)), (i ≤ s.sags.length ∧ ∀ k, trL l k = w2 s ((s.sags.take i).all (sagOk s.kns)) (decide ((gkeys s).take i).Nodup) k) ∧ s.sags.length - i = m ∧ st.t 1 = .ptr 1 0 ∧ st.t 4 = .fn (.func 63) [] [.ptr 1 0] ∧ st.t 5 = .mp 24 ∧ st.t 69 = sagsA s.sags ∧ st.t 70 = .int .i64 ((s.sags.map sagA).length : Nat) ∧ st.t 71 = .int .i64 i ∧ st.h 1 = staBa s ∧ st.h 24 = mapB l
def I2' (s : Sta) (i : Nat) (g : Sag) (m : Nat) (st : St) : Prop := ∃ (j : Nat) (l : List (Int × Bool)), (j ≤ i ∧ ∀ k, trL l k = w2 s ((s.sags.take (i + 1)).all (sagOk s.kns)) (decide ((gkeys s).take i).Nodup && !decide (g.req.key ∈ (gkeys s).take j)) k) ∧ i - j = m ∧ st.t 1 = .ptr 1 0 ∧ st.t 4 = .fn (.func 63) [] [.ptr 1 0] ∧ st.t 5 = .mp 24 ∧ st.t 9 = .ptr 9 0 ∧ st.t 69 = sagsA s.sags ∧ st.t 70 = .int .i64 ((s.sags.map sagA).length : Nat) ∧ st.t 71 = .int .i64 i ∧ st.t 111 = sagsA (s.sags.take i) ∧ st.t 112 = .int .i64 (i : Nat) ∧ st.t 113 = .int .i64 j ∧ st.h 1 = staBa s ∧ st.h 9 = some (.cells 47 (sagA g).cells) ∧ st.h 24 = mapB l
def I3 (s : Sta) (m : Nat) (st : St) : Prop := ∃ (i : Nat) (l : List (Int × Bool)), (i ≤ s.accs.length ∧ ∀ k, trL l k = w3 s (decide ((s.accs.map (·.held)).take i = (heldL s).take i)) k) ∧ s.accs.length - i = m ∧ st.t 1 = .ptr 1 0 ∧ st.t 4 = .fn (.func 63) [] [.ptr 1 0] ∧ st.t 5 = .mp 24 ∧ st.t 128 = .sl .fz 3 (iA (heldL s)) ∧ st.t 129 = .int .i64 ((iA (heldL s)).length : Nat) ∧ st.t 130 = .int .i64 i ∧ st.h 1 = staBa s ∧ st.h 24 = mapB l
def I4 (s : Sta) (m : Nat) (st : St) : Prop := ∃ (i : Nat) (l : List (Int × Bool)), (i ≤ s.kns.length ∧ ∀ k, trL l k = w4 s (allX (knOk1 s) 0 (s.kns.take i)) k) ∧ s.kns.length - i = m ∧ st.t 1 = .ptr 1 0 ∧ st.t 4 = .fn (.func 63) [] [.ptr 1 0] ∧ st.t 5 = .mp 24 ∧ st.t 146 = knsA s.kns ∧ st.t 147 = .int .i64 ((s.kns.map knoA).length : Nat) ∧ st.t 148 = .int .i64 i ∧ st.h 1 = staBa s ∧ st.h 24 = mapB l
def I4' (s : Sta) (i : Nat) (q : Kno) (l : List (Int × Bool)) (m : Nat) (st : St) : Prop := ∃ (j : Nat) (b : Bool), (j ≤ s.sags.length ∧ b = (q.told || decide (q.req.key ∈ (gkeys s).take j))) ∧ s.sags.length - j = m ∧ st.t 1 = .ptr 1 0 ∧ st.t 4 = .fn (.func 63) [] [.ptr 1 0] ∧ st.t 5 = .mp 24 ∧ st.t 15 = .int .i64 i ∧ st.t 16 = .ptr 16 0 ∧ st.t 17 = .bool b ∧ st.t 146 = knsA s.kns ∧ st.t 147 = .int .i64 ((s.kns.map knoA).length : Nat) ∧ st.t 148 = .int .i64 i ∧ st.t 156 = sagsA s.sags ∧ st.t 157 = .int .i64 ((s.sags.map sagA).length : Nat) ∧ st.t 158 = .int .i64 j ∧ st.h 1 = staBa s ∧ st.h 16 = some (.cells 63 (knoA q).cells) ∧ st.h 24 = mapB l
def fltB (F : Nat) : List Int → AV
  | [] => .sl .nl 0 []
  | n :: l => .sl (.own F) 86 (.int .i64 n :: iA l)
def I5 (s : Sta) (l : List (Int × Bool)) (m : Nat) (st : St) : Prop := ∃ (i : Nat) (out : List Int), (i ≤ 6 ∧ out = faultsOf ((cks s).take i)) ∧ 6 - i = m ∧ st.t 5 = .mp 24 ∧ st.t 20 = fltB 196000 out ∧ st.t 21 = .int .i64 ((i + 1 : Nat) : Int) ∧ st.h 24 = mapB l
theorem fz_fltB (F : Nat) (l : List Int) : Fz (fltB F l) (.sl .fz 86 (iA l)) := by
  cases l with
  | nil => exact .inr ⟨_, _, rfl, rfl⟩
  | cons n l => exact .inl ⟨_, _, _, rfl, rfl⟩
/-- At the end the table tells each fault. -/
theorem w4_cks {s : Sta} {l : List (Int × Bool)} (h : ∀ k, trL l k = w4 s (allX (knOk1 s) 0 s.kns) k) {i : Nat} {c : Bool × Int} (hc : (cks s)[i]? = some c) : trL l ((i + 1 : Nat) : Int) = !c.1 ∧ c.2 = ((i + 1 : Nat) : Int) := by
  rw [h]
  have hi := (List.getElem?_eq_some_iff.1 hc).1
  have hi6 : i < 6 := hi
  rcases (by omega : i = 0 ∨ i = 1 ∨ i = 2 ∨ i = 3 ∨ i = 4 ∨ i = 5) with rfl | rfl | rfl | rfl | rfl | rfl
  all_goals
    simp only [cks, List.getElem?_cons_zero, List.getElem?_cons_succ, Option.some.injEq] at hc
    subst hc
    simp [w4, w3, w2, w1, w0, knownB]
end Go.Proofs.YtjffmldlkofpaaaGreatDoor.A
