/- keys.Open; hawalalaw17: Held, EngineRight. -/
import Derived.Test.YtkeafcjdejmohaaGreatDoorM36
import Derived.Test.YtkeafcjdejmohaaGreatDoorY10
namespace Go.Proofs.YtkeafcjdejmohaaGreatDoor.A
open Go Q
/-! ### keys.Open -/
def openL (ks : List Kno) : List Int := (ks.filter fun k => !k.told).map (·.req.key)
def intsN (F : Nat) : List Int → AV
  | [] => .sl .nl 0 []
  | n :: l => .sl (.own F) 3 (.int .i64 n :: l.map (AV.int .i64))
theorem ints_snoc (F : Nat) (l : List Int) (x : Int) : AV.sl (.own F) 3 (l.map (AV.int .i64) ++ [.int .i64 x]) = intsN F (l ++ [x]) := by
  cases l <;> simp [intsN]
theorem open_next {ks : List Kno} {i : Nat} {k : Kno} (h : ks[i]? = some k) : openL (ks.take (i + 1)) = openL (ks.take i) ++ (if k.told = true then [] else [k.req.key]) := by
  unfold openL
  rw [List.take_add_one, h, List.filter_append, List.map_append]
  congr 1
  cases ht : k.told <;> simp [ht]
theorem open_len (ks : List Kno) : (openL ks).length = untold ks := by
  unfold openL untold
  rw [List.length_map]
def openKC0 (args : List AV) (bs : List Box) (K : AV → List Box → Prop) : Prop := bs = [] ∧ ∃ ks : List Kno, args = [knsA ks] ∧ ks.length ≤ 1000000 ∧ K (intsN 20000 (openL ks)) []
def openKC (args : List AV) (bs : List Box) (K : AV → List Box → Prop) : Prop := bs = [] ∧ ∃ ks : List Kno, args = [knsA ks] ∧ ks.length ≤ 1000000 ∧ K (.sl .fz 3 ((openL ks).map (AV.int .i64))) []
set_option maxRecDepth 200000 in
set_option maxHeartbeats 6400000 in
theorem openK_ok0 : FnOk Tryz.prog tab 17 openKC0 := by
  refine fn_ok (E := R0_E pl17) tab_is R0_ok (R0_J _) Tryz.func17 rfl rfl (by kernel_rfl) ?_
  rintro args bs K ⟨rfl, ks, rfl, hl, hK⟩
  refine ⟨rfl, ?_⟩
  refine ⟨fun mm st => ∃ (i : Nat) (P : List Int), (i ≤ ks.length ∧ openL (ks.take i) = P ∧ P.length ≤ i) ∧ ks.length - i = mm ∧ st.t 6 = knsA ks ∧ st.t 7 = .int .i64 ((ks.map knoA).length : Nat) ∧ st.t 8 = .int .i64 i ∧ st.t 3 = intsN 20000 P,
    ⟨_, 0, [], ⟨Nat.zero_le _, rfl, Nat.le_refl _⟩, rfl, rfl, rfl, rfl, rfl⟩, ?_⟩
  rintro _ ⟨t1, h1⟩ ⟨i, P, ⟨hi, hT, hPl⟩, rfl, e6, e7, e8, e3⟩
  have e6 : t1 6 = knsA ks := e6
  have e7 : t1 7 = .int .i64 ((ks.map knoA).length : Nat) := e7
  have e8 : t1 8 = .int .i64 i := e8
  have e3 : t1 3 = intsN 20000 P := e3
  rw [← updL_has t1 [(6, knsA ks), (7, .int .i64 ((ks.map knoA).length : Nat)), (8, .int .i64 i), (3, intsN 20000 P)] ⟨e6, e7, e8, e3, trivial⟩]
  cases P with
  | nil =>
    have bd : 1 * 8 ≤ 140737488355328 := by decide
    constructor
    · intro hb
      have hi' : i < ks.length := by
        have : (i : Int) < ((ks.map knoA).length : Nat) := by simpa using hb
        simp at this; omega
      have w : IntKind.i64.wrap ((i : Int) + 1) = ((i + 1 : Nat) : Int) := by rw [wrap_of] <;> omega
      have hlt : ks.length - (i + 1) < ks.length - i := by omega
      obtain ⟨k, hx⟩ : ∃ x, ks[i]? = some x := ⟨_, List.getElem?_eq_getElem hi'⟩
      have hm := List.mem_of_getElem? hx
      have hdr := drop_at hx
      have hT2 := open_next hx
      rw [hT] at hT2
      refine ⟨_, Int.natCast_nonneg i, map_of hx, ?_⟩
      refine ⟨fun h => ?_, fun h => ?_⟩
      · have h : k.told = false := by simpa using h
        rw [if_neg (by simp [h])] at hT2
        refine ⟨bd, ?_⟩
        exact ⟨_, hlt, i + 1, ([]:List Int) ++ [k.req.key], ⟨hi', hT2, by simp only [List.length_append, List.length_cons, List.length_nil] at hPl ⊢; omega⟩, rfl, rfl, rfl, congrArg (AV.int .i64) w, by rw [← ints_snoc] <;> rfl⟩
      · have h : k.told = true := by simpa using h
        rw [if_pos h, List.append_nil] at hT2
        exact ⟨_, hlt, i + 1, ([]:List Int), ⟨hi', hT2, by omega⟩, rfl, rfl, rfl, congrArg (AV.int .i64) w, rfl⟩
    · intro hb
      have hi' : i = ks.length := by
        have : ¬ (i : Int) < ((ks.map knoA).length : Nat) := by simpa using hb
        simp at this; omega
      subst hi'
      rw [List.take_length] at hT
      rw [hT] at hK
      exact hK
  | cons p P =>
    have bd : ((AV.int .i64 p :: P.map (AV.int .i64)).length + 1) * 8 ≤ 140737488355328 := by
      simp only [List.length_cons, List.length_map] at hPl ⊢; omega
    constructor
    · intro hb
      have hi' : i < ks.length := by
        have : (i : Int) < ((ks.map knoA).length : Nat) := by simpa using hb
        simp at this; omega
      have w : IntKind.i64.wrap ((i : Int) + 1) = ((i + 1 : Nat) : Int) := by rw [wrap_of] <;> omega
      have hlt : ks.length - (i + 1) < ks.length - i := by omega
      obtain ⟨k, hx⟩ : ∃ x, ks[i]? = some x := ⟨_, List.getElem?_eq_getElem hi'⟩
      have hm := List.mem_of_getElem? hx
      have hdr := drop_at hx
      have hT2 := open_next hx
      rw [hT] at hT2
      refine ⟨_, Int.natCast_nonneg i, map_of hx, ?_⟩
      refine ⟨fun h => ?_, fun h => ?_⟩
      · have h : k.told = false := by simpa using h
        rw [if_neg (by simp [h])] at hT2
        refine ⟨bd, ?_⟩
        exact ⟨_, hlt, i + 1, (p::P) ++ [k.req.key], ⟨hi', hT2, by simp only [List.length_append, List.length_cons, List.length_nil] at hPl ⊢; omega⟩, rfl, rfl, rfl, congrArg (AV.int .i64) w, by rw [← ints_snoc] <;> rfl⟩
      · have h : k.told = true := by simpa using h
        rw [if_pos h, List.append_nil] at hT2
        exact ⟨_, hlt, i + 1, (p::P), ⟨hi', hT2, by omega⟩, rfl, rfl, rfl, congrArg (AV.int .i64) w, rfl⟩
    · intro hb
      have hi' : i = ks.length := by
        have : ¬ (i : Int) < ((ks.map knoA).length : Nat) := by simpa using hb
        simp at this; omega
      subst hi'
      rw [List.take_length] at hT
      rw [hT] at hK
      exact hK
theorem openK_ok : FnOk Tryz.prog tab 17 openKC := openK_ok0.fz.mono (by
  rintro args bs K ⟨rfl, ks, rfl, hl, hK⟩
  refine ⟨rfl, rfl, ks, rfl, hl, _, ?_, hK⟩
  cases openL ks with
  | nil => exact .inr ⟨_, _, rfl, rfl⟩
  | cons n l => exact .inl ⟨_, _, _, rfl, rfl⟩)
/-! ### Held -/
theorem ints_put7 (l : List Int) (i : Nat) (v : Int) : (l.map (AV.int .i64)).modify i (fun x => x.ofCells (putCells x.cells 0 [.int .i64 v])) = (l.set i v).map (AV.int .i64) := by
  apply List.ext_getElem?
  intro j
  rw [List.getElem?_modify, List.getElem?_map, List.getElem?_map, List.getElem?_set]
  by_cases h : i = j
  · subst h
    by_cases hl : i < l.length
    · simp [hl, AV.cells, AV.ofCells, putCells]
    · simp [hl]
  · simp [h]
def valsL (n : Nat) (f : Nat → Int) : List Int := (List.range n).map f
theorem vals_get {n k : Nat} (h : k < n) (f : Nat → Int) : (valsL n f)[k]? = some (f k) := by
  unfold valsL
  rw [List.getElem?_map, List.getElem?_range h]; rfl
theorem vals_len (n : Nat) (f : Nat → Int) : (valsL n f).length = n := by simp [valsL]
theorem vals_zero (n : Nat) : valsL n (fun _ => 0) = List.replicate n 0 := by
  apply List.ext_getElem?
  intro j
  by_cases h : j < n
  · rw [vals_get h, List.getElem?_replicate, if_pos h]
  · rw [List.getElem?_eq_none (by rw [vals_len]; omega), List.getElem?_eq_none (by simp; omega)]
theorem vals_ext {n : Nat} {f g : Nat → Int} (h : ∀ j, j < n → f j = g j) : valsL n f = valsL n g := List.map_congr_left fun k hk => h k (List.mem_range.1 hk)
theorem vals_set {n k : Nat} {f : Nat → Int} (v : Int) (g : Nat → Int) (hk : g k = v) (ho : ∀ j, j ≠ k → g j = f j) : (valsL n f).set k v = valsL n g := by
  apply List.ext_getElem?
  intro j
  rw [List.getElem?_set]
  by_cases h : j < n
  · rw [vals_get h g]
    split
    · rename_i hj
      subst hj
      rw [if_pos (by rw [vals_len]; exact h), hk]
    · rename_i hj
      rw [vals_get h f, ho j (fun e => hj e.symm)]
  · rw [List.getElem?_eq_none (l := valsL n g) (by rw [vals_len]; omega)]
    split
    · rw [if_neg (by rw [vals_len]; omega)]
    · exact List.getElem?_eq_none (by rw [vals_len]; omega)
theorem take_one {α : Type} {l : List α} {i : Nat} {x : α} (h : l[i]? = some x) : l.take (i + 1) = l.take i ++ [x] := by rw [List.take_add_one, h]; rfl
theorem heldG_snoc (gs : List Sag) (g : Sag) (i : Int) : heldG (gs ++ [g]) i = heldG gs i + amtAt i g := by
  unfold heldG
  rw [List.map_append, sumI_append]
  simp [sumI]
def held17C (args : List AV) (bs : List Box) (K : AV → List Box → Prop) : Prop := bs = [] ∧ ∃ s : Sta, args = [staA s] ∧ EngG s ∧ K (.bool true) []
abbrev fP (s : Sta) (i k : Nat) : Int := heldP (s.pays.take i) k
abbrev fG (s : Sta) (i k : Nat) : Int := heldP s.pays k + heldG (s.sags.take i) k
set_option maxRecDepth 200000 in
set_option maxHeartbeats 12800000 in
theorem held17_ok : FnOk Tryz.prog tab 16 held17C := by
  refine fn_ok (E := R0_E pl16) tab_is R0_ok (R0_J _) Tryz.func16 rfl rfl (by kernel_rfl) ?_
  rintro args bs K ⟨rfl, s, rfl, hG, hK⟩
  refine ⟨rfl, ?_⟩
  have hg := hG.g
  have hl := hG.e.z.la
  have hlp := hG.e.z.lp
  have hls := hG.e.z.ls
  have n0 : (0 : Int) ≤ ((s.accs.map accA).length : Nat) := Int.natCast_nonneg _
  refine ⟨n0, Int.le_refl _, by rw [List.length_map]; show (s.accs.length : Int) * 8 ≤ _; omega, by rw [List.length_map]; omega, ?_⟩
  have e0 : List.replicate (((s.accs.map accA).length : Nat) : Int).toNat (AV.int .i64 0) = (valsL s.accs.length (fP s 0)).map (AV.int .i64) := by
    rw [vals_ext (g := fun _ => 0) (fun j _ => by simp [heldP, sumI]), vals_zero, List.length_map]; simp
  refine ⟨fun mm st => ∃ (i : Nat), (i ≤ s.pays.length) ∧ s.pays.length - i = mm ∧ st.t 15 = paysA s.pays ∧ st.t 16 = .int .i64 ((s.pays.map payA).length : Nat) ∧ st.t 17 = .int .i64 i ∧ st.t 1 = .ptr 1 0 ∧ st.t 3 = .sl (.own 13000) 3 ((valsL s.accs.length (fP s i)).map (AV.int .i64)) ∧ st.h 1 = staB s,
    ⟨_, 0, Nat.zero_le _, rfl, rfl, rfl, rfl, rfl, congrArg (AV.sl (.own 13000) 3) e0, rfl⟩, ?_⟩
  rintro _ ⟨t1, h1⟩ ⟨i, hi, rfl, e15, e16, e17, e1, e3, b1⟩
  have e15 : t1 15 = paysA s.pays := e15
  have e16 : t1 16 = .int .i64 ((s.pays.map payA).length : Nat) := e16
  have e17 : t1 17 = .int .i64 i := e17
  have e1 : t1 1 = .ptr 1 0 := e1
  have e3 : t1 3 = .sl (.own 13000) 3 ((valsL s.accs.length (fP s i)).map (AV.int .i64)) := e3
  have b1 : h1 1 = staB s := b1
  rw [← updL_has t1 [(15, paysA s.pays), (16, .int .i64 ((s.pays.map payA).length : Nat)), (17, .int .i64 i), (1, .ptr 1 0), (3, .sl (.own 13000) 3 ((valsL s.accs.length (fP s i)).map (AV.int .i64)))] ⟨e15, e16, e17, e1, e3, trivial⟩, ← updL_has h1 [(1, staB s)] ⟨b1, trivial⟩]
  constructor
  · intro hb
    have hi' : i < s.pays.length := by
      have : (i : Int) < ((s.pays.map payA).length : Nat) := by simpa using hb
      simp at this; omega
    have w : IntKind.i64.wrap ((i : Int) + 1) = ((i + 1 : Nat) : Int) := by rw [wrap_of] <;> omega
    have hlt : s.pays.length - (i + 1) < s.pays.length - i := by omega
    obtain ⟨p, hx⟩ : ∃ x, s.pays[i]? = some x := ⟨_, List.getElem?_eq_getElem hi'⟩
    have hm := List.mem_of_getElem? hx
    have hdr := drop_at hx
    have hP := hg.pay p hm
    have hps := hP.s
    have ht := take_one hx
    have hsn : ∀ j : Nat, fP s (i + 1) j = fP s i j + leftAt j p := fun j => by show heldP (s.pays.take (i + 1)) j = _; rw [ht, heldP_snoc]
    refine ⟨_, Int.natCast_nonneg i, map_of hx, ?_⟩
    refine ⟨fun h => ?_, fun h => ?_⟩
    · have h0 : p.stage = 0 := beqT h
      have hget := vals_get (n := s.accs.length) (k := p.src.toNat) (by omega) (fP s i)
      have s0 : 0 ≤ p.src := by omega
      have hA := hP.a
      have hC := hP.c
      have hlN : leftN p = p.auth - p.capt := by unfold leftN; rw [if_pos h0]
      obtain ⟨a, ha⟩ : ∃ a, s.accs[p.src.toNat]? = some a := ⟨_, List.getElem?_eq_getElem (by omega)⟩
      have hb1 := sumI_take (leftAt ((p.src.toNat : Nat) : Int)) (fun q hq => leftAt_nonneg (hg.pay q hq) _) (i + 1)
      have hb0 : 0 ≤ fP s i p.src.toNat := sumI_nonneg (leftAt ((p.src.toNat : Nat) : Int)) (l := s.pays.take i) (fun q hq => leftAt_nonneg (hg.pay q (List.mem_of_mem_take hq)) _)
      have hb1 : fP s (i + 1) p.src.toNat ≤ heldP s.pays ((p.src.toNat : Nat) : Int) := hb1
      have hsn1 := hsn p.src.toNat
      have hlp2 : leftAt ((p.src.toNat : Nat) : Int) p = leftN p := by unfold leftAt; rw [if_pos (by omega)]
      have hh := hg.held _ a ha
      have hg0 := hg.heldG0 ((p.src.toNat : Nat) : Int)
      have wv : IntKind.i64.wrap (fP s i p.src.toNat + IntKind.i64.wrap (p.auth - p.capt)) = fP s i p.src.toNat + leftN p := by
        rw [wrap_of (n := p.auth - p.capt) (by omega) (by omega), hlN, wrap_of (by omega) (by omega)]
      have hput : ((valsL s.accs.length (fP s i)).map (AV.int .i64)).modify p.src.toNat (fun x => x.ofCells (putCells x.cells 0 [.int .i64 (IntKind.i64.wrap (fP s i p.src.toNat + IntKind.i64.wrap (p.auth - p.capt)))])) = (valsL s.accs.length (fP s (i + 1))).map (AV.int .i64) := by
        rw [ints_put7, wv, vals_set _ (fP s (i + 1)) (by rw [hsn1, hlp2]) (fun j hj => by rw [hsn j]; unfold leftAt; rw [if_neg (by omega), Int.add_zero])]
      refine ⟨_, s0, map_of hget, ?_⟩
      refine ⟨_, s0, map_of hget, ?_⟩
      exact ⟨_, hlt, i + 1, hi', rfl, rfl, rfl, congrArg (AV.int .i64) w, rfl, congrArg (AV.sl (.own 13000) 3) hput, rfl⟩
    · have h0 : ¬ p.stage = 0 := beqF h
      have hput : (valsL s.accs.length (fP s i)).map (AV.int .i64) = (valsL s.accs.length (fP s (i + 1))).map (AV.int .i64) := by
        rw [vals_ext (f := fP s (i + 1)) (g := fP s i) (fun j _ => by rw [hsn j]; unfold leftAt leftN; rw [if_neg h0]; split <;> omega)]
      exact ⟨_, hlt, i + 1, hi', rfl, rfl, rfl, congrArg (AV.int .i64) w, rfl, congrArg (AV.sl (.own 13000) 3) hput, rfl⟩
  · intro hb
    have hi' : i = s.pays.length := by
      have : ¬ (i : Int) < ((s.pays.map payA).length : Nat) := by simpa using hb
      simp at this; omega
    subst hi'
    have e1 : (valsL s.accs.length (fP s s.pays.length)).map (AV.int .i64) = (valsL s.accs.length (fG s 0)).map (AV.int .i64) := by
      rw [vals_ext (f := fG s 0) (g := fP s s.pays.length) (fun j _ => by show heldP s.pays j + heldG [] j = heldP (s.pays.take s.pays.length) j; rw [List.take_length]; simp [heldG, sumI])]
    refine ⟨fun mm st => ∃ (i : Nat), (i ≤ s.sags.length) ∧ s.sags.length - i = mm ∧ st.t 38 = sagsA s.sags ∧ st.t 39 = .int .i64 ((s.sags.map sagA).length : Nat) ∧ st.t 40 = .int .i64 i ∧ st.t 1 = .ptr 1 0 ∧ st.t 3 = .sl (.own 13000) 3 ((valsL s.accs.length (fG s i)).map (AV.int .i64)) ∧ st.h 1 = staB s,
      ⟨_, 0, Nat.zero_le _, rfl, rfl, rfl, rfl, rfl, congrArg (AV.sl (.own 13000) 3) e1, rfl⟩, ?_⟩
    rintro _ ⟨t1, h1⟩ ⟨i, hi, rfl, e38, e39, e40, e1, e3, b1⟩
    have e38 : t1 38 = sagsA s.sags := e38
    have e39 : t1 39 = .int .i64 ((s.sags.map sagA).length : Nat) := e39
    have e40 : t1 40 = .int .i64 i := e40
    have e1 : t1 1 = .ptr 1 0 := e1
    have e3 : t1 3 = .sl (.own 13000) 3 ((valsL s.accs.length (fG s i)).map (AV.int .i64)) := e3
    have b1 : h1 1 = staB s := b1
    rw [← updL_has t1 [(38, sagsA s.sags), (39, .int .i64 ((s.sags.map sagA).length : Nat)), (40, .int .i64 i), (1, .ptr 1 0), (3, .sl (.own 13000) 3 ((valsL s.accs.length (fG s i)).map (AV.int .i64)))] ⟨e38, e39, e40, e1, e3, trivial⟩, ← updL_has h1 [(1, staB s)] ⟨b1, trivial⟩]
    constructor
    · intro hb
      have hi' : i < s.sags.length := by
        have : (i : Int) < ((s.sags.map sagA).length : Nat) := by simpa using hb
        simp at this; omega
      have w : IntKind.i64.wrap ((i : Int) + 1) = ((i + 1 : Nat) : Int) := by rw [wrap_of] <;> omega
      have hlt : s.sags.length - (i + 1) < s.sags.length - i := by omega
      obtain ⟨g, hx⟩ : ∃ x, s.sags[i]? = some x := ⟨_, List.getElem?_eq_getElem hi'⟩
      have hm := List.mem_of_getElem? hx
      have hdr := drop_at hx
      have hS := hg.sga g hm
      have ht := take_one hx
      have hsn : ∀ j : Nat, fG s (i + 1) j = fG s i j + amtAt j g := fun j => by show heldP s.pays j + heldG (s.sags.take (i + 1)) j = _; rw [ht, heldG_snoc, ← Int.add_assoc]
      have hget := vals_get (n := s.accs.length) (k := g.req.a.toNat) (by omega) (fG s i)
      have s0 : 0 ≤ g.req.a := by omega
      obtain ⟨a, ha⟩ : ∃ a, s.accs[g.req.a.toNat]? = some a := ⟨_, List.getElem?_eq_getElem (by omega)⟩
      have hn0 : ∀ q ∈ s.sags, 0 ≤ amtAt ((g.req.a.toNat : Nat) : Int) q := fun q hq => by
        have := hg.sga q hq
        unfold amtAt; split <;> omega
      have hb1 := sumI_take (amtAt ((g.req.a.toNat : Nat) : Int)) hn0 (i + 1)
      have hb1 : heldG (s.sags.take (i + 1)) ((g.req.a.toNat : Nat) : Int) ≤ heldG s.sags ((g.req.a.toNat : Nat) : Int) := hb1
      have hb0 : 0 ≤ heldG (s.sags.take i) ((g.req.a.toNat : Nat) : Int) := sumI_nonneg _ fun q hq => hn0 q (List.mem_of_mem_take hq)
      have hsn1 := hsn g.req.a.toNat
      have hlp2 : amtAt ((g.req.a.toNat : Nat) : Int) g = g.req.amt := by unfold amtAt; rw [if_pos (by omega)]
      have hh := hg.held _ a ha
      have hp0 := hg.heldP0 ((g.req.a.toNat : Nat) : Int)
      have wv : IntKind.i64.wrap (fG s i g.req.a.toNat + g.req.amt) = fG s i g.req.a.toNat + g.req.amt := by
        have hle : fG s i g.req.a.toNat + g.req.amt ≤ a.held := by rw [hlp2] at hsn1; rw [← hsn1]; show heldP s.pays _ + heldG (s.sags.take (i + 1)) _ ≤ _; omega
        have h0 : 0 ≤ fG s i g.req.a.toNat := by show 0 ≤ heldP s.pays _ + heldG (s.sags.take i) _; omega
        rw [wrap_of (by omega) (by omega)]
      have hput : ((valsL s.accs.length (fG s i)).map (AV.int .i64)).modify g.req.a.toNat (fun x => x.ofCells (putCells x.cells 0 [.int .i64 (IntKind.i64.wrap (fG s i g.req.a.toNat + g.req.amt))])) = (valsL s.accs.length (fG s (i + 1))).map (AV.int .i64) := by
        rw [ints_put7, wv, vals_set _ (fG s (i + 1)) (by rw [hsn1, hlp2]) (fun j hj => by rw [hsn j]; unfold amtAt; rw [if_neg (by omega), Int.add_zero])]
      refine ⟨_, Int.natCast_nonneg i, map_of hx, ?_⟩
      refine ⟨_, s0, map_of hget, ?_⟩
      refine ⟨_, s0, map_of hget, ?_⟩
      exact ⟨_, hlt, i + 1, hi', rfl, rfl, rfl, congrArg (AV.int .i64) w, rfl, congrArg (AV.sl (.own 13000) 3) hput, rfl⟩
    · intro hb
      have hi' : i = s.sags.length := by
        have : ¬ (i : Int) < ((s.sags.map sagA).length : Nat) := by simpa using hb
        simp at this; omega
      subst hi'
      refine ⟨fun mm st => ∃ (i : Nat), (i ≤ s.accs.length) ∧ s.accs.length - i = mm ∧ st.t 57 = accsA s.accs ∧ st.t 58 = .int .i64 ((s.accs.map accA).length : Nat) ∧ st.t 59 = .int .i64 i ∧ st.t 3 = .sl (.own 13000) 3 ((valsL s.accs.length (fG s s.sags.length)).map (AV.int .i64)),
        ⟨_, 0, Nat.zero_le _, rfl, rfl, rfl, rfl, rfl⟩, ?_⟩
      rintro _ ⟨t1, h1⟩ ⟨i, hi, rfl, e57, e58, e59, e3⟩
      have e57 : t1 57 = accsA s.accs := e57
      have e58 : t1 58 = .int .i64 ((s.accs.map accA).length : Nat) := e58
      have e59 : t1 59 = .int .i64 i := e59
      have e3 : t1 3 = .sl (.own 13000) 3 ((valsL s.accs.length (fG s s.sags.length)).map (AV.int .i64)) := e3
      rw [← updL_has t1 [(57, accsA s.accs), (58, .int .i64 ((s.accs.map accA).length : Nat)), (59, .int .i64 i), (3, .sl (.own 13000) 3 ((valsL s.accs.length (fG s s.sags.length)).map (AV.int .i64)))] ⟨e57, e58, e59, e3, trivial⟩]
      constructor
      · intro hb
        have hi' : i < s.accs.length := by
          have : (i : Int) < ((s.accs.map accA).length : Nat) := by simpa using hb
          simp at this; omega
        have w : IntKind.i64.wrap ((i : Int) + 1) = ((i + 1 : Nat) : Int) := by rw [wrap_of] <;> omega
        have hlt : s.accs.length - (i + 1) < s.accs.length - i := by omega
        obtain ⟨a, hx⟩ : ∃ x, s.accs[i]? = some x := ⟨_, List.getElem?_eq_getElem hi'⟩
        have hm := List.mem_of_getElem? hx
        have hdr := drop_at hx
        have hget := vals_get (n := s.accs.length) (k := i) (by omega) (fG s s.sags.length)
        refine ⟨_, Int.natCast_nonneg i, map_of hx, ?_⟩
        refine ⟨_, Int.natCast_nonneg i, map_of hget, ?_⟩
        have hn : (a.held != fG s s.sags.length i) = false := by
          have : fG s s.sags.length i = a.held := by show heldP s.pays i + heldG (s.sags.take s.sags.length) i = _; rw [List.take_length]; exact (hg.held i a hx).1.symm
          rw [this]; simp
        refine ⟨fun h => absurd (hn.symm.trans h) (by decide), fun _ => ?_⟩
        exact ⟨_, hlt, i + 1, hi', rfl, rfl, rfl, congrArg (AV.int .i64) w, rfl⟩
      · intro hb
        have hi' : i = s.accs.length := by
          have : ¬ (i : Int) < ((s.accs.map accA).length : Nat) := by simpa using hb
          simp at this; omega
        subst hi'
        exact hK
/-! ### EngineRight -/
theorem ask_saga {s : Sta} (h : EngG s) {i : Nat} {g : Sag} (hg : s.sags[i]? = some g) : askM s.kns g.req = ((10, 0), true) := by
  obtain ⟨j, q, h1, h2, h3⟩ := h.e.wk i g hg
  have hf := find_at (key := q.req.key) (ks := s.kns) (i := j) (k := q) (o := 0) h1 rfl (fun a x ha hx hk => by
    have := h.e.kd a j x.req q.req (by rw [List.getElem?_map, hx]; rfl) (by rw [List.getElem?_map, h1]; rfl) hk
    omega)
  have hf : findK s.kns g.req.key 0 = j := by rw [← h2]; omega
  unfold askM
  rw [hf, if_neg (by omega), show ((j : Nat) : Int).toNat = j by omega, h1]
  simp only
  rw [h2, show reqB g.req g.req = true from reqB_iff.2 rfl, if_neg (by decide), if_pos h3]
theorem state_engG {b : Book} {ps : List Paid} {now : Int} (hb : b.Ok) (hp : ∀ p ∈ ps, p.In) (hl : ps.length ≤ 1999900) (hn : 0 ≤ now) : EngG (stateM b ps now) :=
  ⟨state_eng hb hp hl, state_good hb hp hn, fun g hg => (by cases hg), fun k hk => (by cases hk), rfl⟩
def erightC (args : List AV) (bs : List Box) (K : AV → List Box → Prop) : Prop := bs = [] ∧ ∃ (b : Book) (ps : List Paid) (l : List Act), args = [bkA b, padS ps, actsS l] ∧ b.Ok ∧ (∀ p ∈ ps, p.In) ∧ ps.length ≤ 1999900 ∧ (∀ a ∈ l, a.In) ∧ l.length ≤ 1999900 ∧ K (.bool true) []
def REr7 : Contract
  | 7 => awake17C
  | 8 => nil2C stateC
  | 9 => eventC
  | 10 => engC
  | 14 => rightLC
  | 15 => sumsC
  | 16 => held17C
  | 17 => openKC
  | 18 => askKC
  | 19 => rightSC
  | _ => fun _ _ _ => False
theorem REr7_ok : CallOk Tryz.prog tab REr7 := by
  intro f args bs K h
  unfold REr7 at h
  split at h
  · exact ⟨_, h, awake17_ok⟩
  · exact ⟨_, h, state_ok.nil2⟩
  · exact ⟨_, h, event_ok⟩
  · exact ⟨_, h, eng_ok⟩
  · exact ⟨_, h, rightL_ok⟩
  · exact ⟨_, h, sums_ok⟩
  · exact ⟨_, h, held17_ok⟩
  · exact ⟨_, h, openK_ok⟩
  · exact ⟨_, h, askK_ok⟩
  · exact ⟨_, h, rightS_ok⟩
  · exact h.elim
def REr7_E (pl : Nat → Plan) : En := ⟨tab, REr7, fun _ => none, 0, pl⟩
theorem REr7_J (pl : Nat → Plan) : JOk Tryz.prog (REr7_E pl).T (REr7_E pl).J := fun _ _ h => by cases h
set_option maxRecDepth 200000 in
set_option maxHeartbeats 25600000 in
theorem eright_ok : FnOk Tryz.prog tab 6 erightC := by
  refine fn_ok (E := REr7_E pl6) tab_is REr7_ok (REr7_J _) Tryz.func6 rfl rfl (by kernel_rfl) ?_
  rintro args bs K ⟨rfl, b, ps, l, rfl, hb, hps, hpl, hl, hll, hK⟩
  refine ⟨rfl, ?_⟩
  refine ⟨rfl, rfl, ?_⟩
  refine ⟨fun h => Bool.noConfusion (show false = true from h), fun _ => ?_⟩
  refine ⟨[bkA b, padS ps, .int .u8 0], ⟨.inl (.inl rfl), .inl (.inl rfl), .inl (.inl rfl), trivial⟩, rfl, b, ps, 0, rfl, hb.toIn, hps, hpl, ?_⟩
  have hS0 := state_engG (ps := ps) hb hps hpl (Int.le_refl 0)
  generalize stateM b ps 0 = s0 at hS0 ⊢
  refine ⟨fun mm st => ∃ (i : Nat) (s : Sta), (i ≤ l.length ∧ EngG s) ∧ l.length - i = mm ∧ st.t 19 = actsS l ∧ st.t 20 = .int .i64 ((l.map actA).length : Nat) ∧ st.t 21 = .int .i64 i ∧ st.t 7 = .ptr 7 0 ∧ st.h 7 = staB s,
    ⟨_, 0, s0, ⟨Nat.zero_le _, hS0⟩, rfl, rfl, rfl, rfl, rfl, rfl⟩, ?_⟩
  rintro _ ⟨t1, h1⟩ ⟨i, s, ⟨hi, hS⟩, rfl, e19, e20, e21, e7, b7⟩
  have e19 : t1 19 = actsS l := e19
  have e20 : t1 20 = .int .i64 ((l.map actA).length : Nat) := e20
  have e21 : t1 21 = .int .i64 i := e21
  have e7 : t1 7 = .ptr 7 0 := e7
  have b7 : h1 7 = staB s := b7
  rw [← updL_has t1 [(19, actsS l), (20, .int .i64 ((l.map actA).length : Nat)), (21, .int .i64 i), (7, .ptr 7 0)] ⟨e19, e20, e21, e7, trivial⟩, ← updL_has h1 [(7, staB s)] ⟨b7, trivial⟩]
  constructor
  · intro hb
    have hi' : i < l.length := by
      have : (i : Int) < ((l.map actA).length : Nat) := by simpa using hb
      simp at this; omega
    have w : IntKind.i64.wrap ((i : Int) + 1) = ((i + 1 : Nat) : Int) := by rw [wrap_of] <;> omega
    have hlt : l.length - (i + 1) < l.length - i := by omega
    obtain ⟨a, hx⟩ : ∃ x, l[i]? = some x := ⟨_, List.getElem?_eq_getElem hi'⟩
    have hm := List.mem_of_getElem? hx
    have hdr := drop_at hx
    have hS17 := hS.e.z.ls
    refine ⟨_, Int.natCast_nonneg i, map_of hx, ?_⟩
    refine ⟨rfl, a, s, rfl, hl a hm, by omega, ?_⟩
    generalize eventM a s = e
    refine ⟨rfl, s, e, rfl, hS.e.z, fun _ => hS.e.tell, ?_⟩
    have hX := hS.eng e
    generalize engM s e = q at hX ⊢
    obtain ⟨u, p⟩ := q
    simp only at hX
    have xa := hX.e.z.la
    have xk := hX.e.z.lk
    have xs := hX.e.z.ls
    refine ⟨rfl, u.accs, rfl, ?_⟩
    rw [rightL_of hX.g.acs xa]
    refine ⟨fun h => Bool.noConfusion (show false = true from h), fun _ => ?_⟩
    refine ⟨rfl, u.accs, rfl, by omega, ?_⟩
    rw [sums_zero hX.g.acs xa]
    refine ⟨fun h => Bool.noConfusion (show false = true from h), fun _ => ?_⟩
    refine ⟨rfl, u, rfl, hX, ?_⟩
    refine ⟨fun h => Bool.noConfusion (show false = true from h), fun _ => ?_⟩
    refine ⟨rfl, u.kns, rfl, by omega, ?_⟩
    have c1 : (((((openL u.kns).map (AV.int .i64)).length : Nat) : Int) != ((u.sags.map sagA).length : Nat)) = false := by
      rw [List.length_map, List.length_map, open_len, hX.un]; simp
    refine ⟨fun h => absurd (c1.symm.trans h) (by decide), fun _ => ?_⟩
    refine ⟨fun mm st => ∃ (j : Nat), (j ≤ u.sags.length) ∧ u.sags.length - j = mm ∧ st.t 60 = sagsA u.sags ∧ st.t 61 = .int .i64 ((u.sags.map sagA).length : Nat) ∧ st.t 62 = .int .i64 j ∧ st.t 7 = .ptr 7 0 ∧ st.t 19 = actsS l ∧ st.t 20 = .int .i64 ((l.map actA).length : Nat) ∧ st.t 21 = .int .i64 i ∧ st.h 7 = staB u,
      ⟨_, 0, Nat.zero_le _, rfl, rfl, rfl, rfl, rfl, rfl, rfl, rfl, rfl⟩, ?_⟩
    rintro _ ⟨t2, h2⟩ ⟨j, hj, rfl, e60, e61, e62, e7, e19, e20, e21, b7⟩
    have e60 : t2 60 = sagsA u.sags := e60
    have e61 : t2 61 = .int .i64 ((u.sags.map sagA).length : Nat) := e61
    have e62 : t2 62 = .int .i64 j := e62
    have e7 : t2 7 = .ptr 7 0 := e7
    have e19 : t2 19 = actsS l := e19
    have e20 : t2 20 = .int .i64 ((l.map actA).length : Nat) := e20
    have e21 : t2 21 = .int .i64 i := e21
    have b7 : h2 7 = staB u := b7
    rw [← updL_has t2 [(60, sagsA u.sags), (61, .int .i64 ((u.sags.map sagA).length : Nat)), (62, .int .i64 j), (7, .ptr 7 0), (19, actsS l), (20, .int .i64 ((l.map actA).length : Nat)), (21, .int .i64 i)] ⟨e60, e61, e62, e7, e19, e20, e21, trivial⟩, ← updL_has h2 [(7, staB u)] ⟨b7, trivial⟩]
    constructor
    · intro hb
      have hj' : j < u.sags.length := by
        have : (j : Int) < ((u.sags.map sagA).length : Nat) := by simpa using hb
        simp at this; omega
      have w2 : IntKind.i64.wrap ((j : Int) + 1) = ((j + 1 : Nat) : Int) := by rw [wrap_of] <;> omega
      have hlt2 : u.sags.length - (j + 1) < u.sags.length - j := by omega
      obtain ⟨g, hx2⟩ : ∃ x, u.sags[j]? = some x := ⟨_, List.getElem?_eq_getElem hj'⟩
      have hm2 := List.mem_of_getElem? hx2
      have hdr2 := drop_at hx2
      refine ⟨_, Int.natCast_nonneg j, map_of hx2, ?_⟩
      refine ⟨rfl, u.kns, g.req, rfl, by omega, ?_⟩
      rw [ask_saga hX hx2]
      refine ⟨fun h => Bool.noConfusion (show false = true from h), fun _ => ?_⟩
      refine ⟨fun h => Bool.noConfusion (show false = true from h), fun _ => ?_⟩
      refine ⟨rfl, g, rfl, ?_⟩
      rw [(hX.sr g hm2).right]
      refine ⟨fun h => Bool.noConfusion (show false = true from h), fun _ => ?_⟩
      exact ⟨_, hlt2, j + 1, hj', rfl, rfl, rfl, congrArg (AV.int .i64) w2, rfl, rfl, rfl, rfl, rfl⟩
    · intro _
      exact ⟨_, hlt, i + 1, u, ⟨hi', hX⟩, rfl, rfl, rfl, congrArg (AV.int .i64) w, rfl, rfl⟩
  · intro hb
    have hi' : i = l.length := by
      have : ¬ (i : Int) < ((l.map actA).length : Nat) := by simpa using hb
      simp at this; omega
    subst hi'
    exact hK
end Go.Proofs.YtkeafcjdejmohaaGreatDoor.A
