/- hawalalaw15: held: what is held is held for payments. -/
import Derived.Test.YtkeafcjdejmohaaDoorGE
import Derived.Test.YtkeafcjdejmohaaDoorGY
namespace Go.Proofs.YtkeafcjdejmohaaDoor.A
open Go Q
theorem ints_put (l : List Int) (i : Nat) (v : Int) : (l.map (AV.int .i64)).modify i (fun x => x.ofCells (putCells x.cells 0 [.int .i64 v])) = (l.set i v).map (AV.int .i64) := by
  apply List.ext_getElem?
  intro j
  rw [List.getElem?_modify, List.getElem?_map, List.getElem?_map, List.getElem?_set]
  by_cases h : i = j
  · subst h
    by_cases hl : i < l.length
    · simp [hl, AV.cells, AV.ofCells, putCells]
    · simp [hl]
  · simp [h]
def heldsL (n : Nat) (ps : List Pay) : List Int := (List.range n).map fun (k : Nat) => heldP ps k
theorem heldsL_get {n k : Nat} (h : k < n) (ps : List Pay) : (heldsL n ps)[k]? = some (heldP ps k) := by
  unfold heldsL
  rw [List.getElem?_map, List.getElem?_range h]; rfl
theorem heldsL_len (n : Nat) (ps : List Pay) : (heldsL n ps).length = n := by simp [heldsL]
theorem heldsL_nil (n : Nat) : heldsL n [] = List.replicate n 0 := by
  apply List.ext_getElem?
  intro j
  by_cases h : j < n
  · rw [heldsL_get h, List.getElem?_replicate, if_pos h]; rfl
  · rw [List.getElem?_eq_none (by rw [heldsL_len]; omega), List.getElem?_eq_none (by simp; omega)]
theorem heldsL_set {n : Nat} {ps : List Pay} {p : Pay} (hs : 0 ≤ p.src) (hn : p.src < n) : (heldsL n ps).set p.src.toNat (heldP ps p.src + leftN p) = heldsL n (ps ++ [p]) := by
  apply List.ext_getElem?
  intro j
  rw [List.getElem?_set]
  by_cases h : j < n
  · rw [heldsL_get h ps, heldsL_get h (ps ++ [p]), heldP_snoc]
    unfold leftAt
    split
    · rename_i hj
      rw [if_pos (by rw [heldsL_len]; omega), if_pos (by omega), show ((j : Nat) : Int) = p.src by omega]
    · rename_i hj
      rw [if_neg (by omega), Int.add_zero]
  · rw [if_neg (by omega), List.getElem?_eq_none (by rw [heldsL_len]; omega), List.getElem?_eq_none (by rw [heldsL_len]; omega)]
theorem heldsL_same {n : Nat} {ps : List Pay} {p : Pay} (h0 : ¬ p.stage = 0) : heldsL n (ps ++ [p]) = heldsL n ps := by
  unfold heldsL
  refine List.map_congr_left fun k _ => ?_
  rw [heldP_snoc]
  unfold leftAt leftN
  rw [if_neg h0]
  split <;> omega
theorem take_snoc {α : Type} {l : List α} {i : Nat} {x : α} (h : l[i]? = some x) : l.take (i + 1) = l.take i ++ [x] := by rw [List.take_add_one, h]; rfl
def heldC (args : List AV) (bs : List Box) (K : AV → List Box → Prop) : Prop := bs = [] ∧ ∃ s : Sta, args = [staA s] ∧ GoodA s ∧ s.sags = [] ∧ SzA s ∧ K (.bool true) []
set_option maxRecDepth 200000 in
set_option maxHeartbeats 6400000 in
theorem held_ok : FnOk Tryd.prog tab 21 heldC := by
  refine fn_ok (E := R0_E pl21) tab_is R0_ok (R0_J _) Tryd.func21 rfl rfl (by kernel_rfl) ?_
  rintro args bs K ⟨rfl, s, rfl, hg, hs, hz, hK⟩
  refine ⟨rfl, ?_⟩
  have hl := hz.la
  have hlp := hz.lp
  have n0 : (0 : Int) ≤ ((s.accs.map accA).length : Nat) := Int.natCast_nonneg _
  refine ⟨n0, Int.le_refl _, by rw [List.length_map]; show (s.accs.length : Int) * 8 ≤ _; omega, by rw [List.length_map]; omega, ?_⟩
  have e0 : List.replicate (((s.accs.map accA).length : Nat) : Int).toNat (AV.int .i64 0) = (heldsL s.accs.length (s.pays.take 0)).map (AV.int .i64) := by
    rw [List.take_zero, heldsL_nil, List.length_map]; simp
  have hold : ∀ (i : Nat) (a : Acc), s.accs[i]? = some a → a.held = heldP s.pays i := fun i a ha => by
    by_cases h9 : 9 ≤ i
    · have := hg.hold i a ha h9
      rw [hs] at this
      rw [this]
      show _ + sumI (([] : List Sag).map _) = _
      simp [sumI]
    · rw [((hg.acs.ok i a ha).h (by omega)).2, heldP_zero hg.pay (.inr (by omega))]
  refine ⟨fun mm st => ∃ (i : Nat), (i ≤ s.pays.length) ∧ s.pays.length - i = mm ∧ st.t 13 = paysA s.pays ∧ st.t 14 = .int .i64 ((s.pays.map payA).length : Nat) ∧ st.t 15 = .int .i64 i ∧ st.t 1 = .ptr 1 0 ∧ st.t 3 = .sl (.own 11000) 3 ((heldsL s.accs.length (s.pays.take i)).map (AV.int .i64)) ∧ st.h 1 = staB s,
    ⟨_, 0, Nat.zero_le _, rfl, rfl, rfl, rfl, rfl, congrArg (AV.sl (.own 11000) 3) e0, rfl⟩, ?_⟩
  rintro _ ⟨t1, h1⟩ ⟨i, hi, rfl, e13, e14, e15, e1, e3, b1⟩
  have e13 : t1 13 = paysA s.pays := e13
  have e14 : t1 14 = .int .i64 ((s.pays.map payA).length : Nat) := e14
  have e15 : t1 15 = .int .i64 i := e15
  have e1 : t1 1 = .ptr 1 0 := e1
  have e3 : t1 3 = .sl (.own 11000) 3 ((heldsL s.accs.length (s.pays.take i)).map (AV.int .i64)) := e3
  have b1 : h1 1 = staB s := b1
  rw [← updL_has t1 [(13, paysA s.pays), (14, .int .i64 ((s.pays.map payA).length : Nat)), (15, .int .i64 i), (1, .ptr 1 0), (3, .sl (.own 11000) 3 ((heldsL s.accs.length (s.pays.take i)).map (AV.int .i64)))] ⟨e13, e14, e15, e1, e3, trivial⟩, ← updL_has h1 [(1, staB s)] ⟨b1, trivial⟩]
  constructor
  · intro hb
    have hi' : i < s.pays.length := by
      have : (i : Int) < ((s.pays.map payA).length : Nat) := by simpa using hb
      simp at this; omega
    have w : IntKind.i64.wrap ((i : Int) + 1) = ((i + 1 : Nat) : Int) := by rw [wrap_of] <;> omega
    have hlt : s.pays.length - (i + 1) < s.pays.length - i := by omega
    obtain ⟨p, hx⟩ : ∃ x, s.pays[i]? = some x := ⟨_, List.getElem?_eq_getElem hi'⟩
    have hm := List.mem_of_getElem? hx
    have hdr := drop_at hx
    have hP := hg.pay p hm
    have hps := hP.s
    have ht := take_snoc hx
    refine ⟨_, Int.natCast_nonneg i, map_of hx, ?_⟩
    refine ⟨fun h => ?_, fun h => ?_⟩
    · have h0 : p.stage = 0 := beqT h
      have hget := heldsL_get (n := s.accs.length) (k := p.src.toNat) (by omega) (s.pays.take i)
      have s0 : 0 ≤ p.src := by omega
      have hA := hP.a
      have hC := hP.c
      have hlN : leftN p = p.auth - p.capt := by unfold leftN; rw [if_pos h0]
      obtain ⟨a, ha⟩ : ∃ a, s.accs[p.src.toNat]? = some a := ⟨_, List.getElem?_eq_getElem (by omega)⟩
      have hb1 := sumI_take (leftAt p.src) (fun q hq => leftAt_nonneg (hg.pay q hq) p.src) (i + 1)
      have hb0 := sumI_nonneg (leftAt p.src) (l := s.pays.take i) (fun q hq => leftAt_nonneg (hg.pay q (List.mem_of_mem_take hq)) p.src)
      rw [ht, List.map_append, sumI_append] at hb1
      have hlp2 : leftAt p.src p = leftN p := by unfold leftAt; rw [if_pos rfl]
      simp only [List.map_cons, List.map_nil, sumI] at hb1
      have hh := hold _ a ha
      have hhe := (hg.acs.ok _ a ha).held
      rw [show ((p.src.toNat : Nat) : Int) = p.src by omega] at hh hget
      have wv : IntKind.i64.wrap (heldP (s.pays.take i) p.src + IntKind.i64.wrap (p.auth - p.capt)) = heldP (s.pays.take i) p.src + leftN p := by
        unfold heldP at hh ⊢
        rw [wrap_of (n := p.auth - p.capt) (by omega) (by omega), hlN, wrap_of (by omega) (by omega)]
      have hput : ((heldsL s.accs.length (s.pays.take i)).map (AV.int .i64)).modify p.src.toNat (fun x => x.ofCells (putCells x.cells 0 [.int .i64 (IntKind.i64.wrap (heldP (s.pays.take i) p.src + IntKind.i64.wrap (p.auth - p.capt)))])) = (heldsL s.accs.length (s.pays.take (i + 1))).map (AV.int .i64) := by
        rw [ints_put, wv, heldsL_set s0 (by omega), ← ht]
      refine ⟨_, s0, map_of hget, ?_⟩
      refine ⟨_, s0, map_of hget, ?_⟩
      exact ⟨_, hlt, i + 1, hi', rfl, rfl, rfl, congrArg (AV.int .i64) w, rfl, congrArg (AV.sl (.own 11000) 3) hput, rfl⟩
    · have h0 : ¬ p.stage = 0 := beqF h
      have hput : (heldsL s.accs.length (s.pays.take i)).map (AV.int .i64) = (heldsL s.accs.length (s.pays.take (i + 1))).map (AV.int .i64) := by rw [ht, heldsL_same h0]
      exact ⟨_, hlt, i + 1, hi', rfl, rfl, rfl, congrArg (AV.int .i64) w, rfl, congrArg (AV.sl (.own 11000) 3) hput, rfl⟩
  · intro hb
    have hi' : i = s.pays.length := by
      have : ¬ (i : Int) < ((s.pays.map payA).length : Nat) := by simpa using hb
      simp at this; omega
    subst hi'
    rw [List.take_length]
    refine ⟨fun mm st => ∃ (i : Nat), (i ≤ s.accs.length) ∧ s.accs.length - i = mm ∧ st.t 36 = accsA s.accs ∧ st.t 37 = .int .i64 ((s.accs.map accA).length : Nat) ∧ st.t 38 = .int .i64 i ∧ st.t 3 = .sl (.own 11000) 3 ((heldsL s.accs.length s.pays).map (AV.int .i64)),
      ⟨_, 0, Nat.zero_le _, rfl, rfl, rfl, rfl, rfl⟩, ?_⟩
    rintro _ ⟨t1, h1⟩ ⟨i, hi, rfl, e36, e37, e38, e3⟩
    have e36 : t1 36 = accsA s.accs := e36
    have e37 : t1 37 = .int .i64 ((s.accs.map accA).length : Nat) := e37
    have e38 : t1 38 = .int .i64 i := e38
    have e3 : t1 3 = .sl (.own 11000) 3 ((heldsL s.accs.length s.pays).map (AV.int .i64)) := e3
    rw [← updL_has t1 [(36, accsA s.accs), (37, .int .i64 ((s.accs.map accA).length : Nat)), (38, .int .i64 i), (3, .sl (.own 11000) 3 ((heldsL s.accs.length s.pays).map (AV.int .i64)))] ⟨e36, e37, e38, e3, trivial⟩]
    constructor
    · intro hb
      have hi' : i < s.accs.length := by
        have : (i : Int) < ((s.accs.map accA).length : Nat) := by simpa using hb
        simp at this; omega
      have w : IntKind.i64.wrap ((i : Int) + 1) = ((i + 1 : Nat) : Int) := by rw [wrap_of] <;> omega
      have hlt : s.accs.length - (i + 1) < s.accs.length - i := by omega
      obtain ⟨a, hx⟩ : ∃ x, s.accs[i]? = some x := ⟨_, List.getElem?_eq_getElem hi'⟩
      have hm := List.mem_of_getElem? hx
      have hdr := drop_at hx
      have hget := heldsL_get (n := s.accs.length) (k := i) (by omega) s.pays
      refine ⟨_, Int.natCast_nonneg i, map_of hx, ?_⟩
      refine ⟨_, Int.natCast_nonneg i, map_of hget, ?_⟩
      have hn : (a.held != heldP s.pays i) = false := by rw [hold i a hx]; simp
      refine ⟨fun h => absurd (hn.symm.trans h) (by decide), fun _ => ?_⟩
      exact ⟨_, hlt, i + 1, hi', rfl, rfl, rfl, congrArg (AV.int .i64) w, rfl⟩
    · intro hb
      have hi' : i = s.accs.length := by
        have : ¬ (i : Int) < ((s.accs.map accA).length : Nat) := by simpa using hb
        simp at this; omega
      subst hi'
      exact hK
end Go.Proofs.YtkeafcjdejmohaaDoor.A
