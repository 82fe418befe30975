/- BankFull. -/
import Derived.Test.YtkeafcjdejmohaaDoorM27
namespace Go.Proofs.YtkeafcjdejmohaaDoor.A
open Go Q
def knoF (i : Nat) : Kno := ⟨⟨1000 + i, 0, 0, 0, 0, 0, 0⟩, 0, 0, true⟩
def fullK (j : Nat) : List Kno := (List.range j).map knoF
theorem fullK_succ (j : Nat) : fullK (j + 1) = fullK j ++ [knoF j] := by
  unfold fullK
  rw [List.range_succ, List.map_append]
  rfl
theorem fullK_len (j : Nat) : (fullK j).length = j := by simp [fullK]
theorem fullK_find {key : Int} (h : key ≤ 255) (j : Nat) : findK (fullK j) key 0 = -1 := by
  rcases find_cases (fullK j) key with ⟨h1, -⟩ | ⟨i, k, h1, h2, h3, -⟩
  · exact h1
  · obtain ⟨m, -, rfl⟩ := List.mem_map.1 (List.mem_of_getElem? h2)
    have h3 : (1000 : Int) + m = key := h3
    omega
theorem newS_okN : FnOk Tryd.prog tab 29 (fun args bs K => bs = [] ∧ args = [] ∧ K (.agg [accsA newL, .sl .nl 0 [], .sl .nl 0 [], .sl .nl 0 [], .int .i64 0]) []) := newS_ok0.frz.mono (by
  rintro args bs K ⟨rfl, rfl, hK⟩
  exact ⟨rfl, rfl, rfl, _, rfl, hK⟩)
abbrev newCN (args : List AV) (bs : List Box) (K : AV → List Box → Prop) : Prop := bs = [] ∧ args = [] ∧ K (.agg [accsA newL, .sl .nl 0 [], .sl .nl 0 [], .sl .nl 0 [], .int .i64 0]) []
abbrev ksN (F : Nat) : List Kno → AV
  | [] => .sl .nl 0 []
  | k :: l => .sl (.own F) 81 (knoA k :: l.map knoA)
theorem ks_snoc (F : Nat) (l : List Kno) (x : Kno) : AV.sl (.own F) 81 (l.map knoA ++ [knoA x]) = ksN F (l ++ [x]) := by
  cases l <;> simp [ksN]
def staF (l : List Kno) : Sta := ⟨newL, [], [], l, 0⟩
def fullC (args : List AV) (bs : List Box) (K : AV → List Box → Prop) : Prop := bs = [] ∧ ∃ (n : Int) (q : Ask), args = [.int .u16 n, askAV q] ∧ (0 ≤ n ∧ n ≤ 65535) ∧ q.In ∧ K (.bool true) []
def RFl : Contract
  | 23 => awake16C
  | 29 => newCN
  | 18 => askC
  | 24 => nil2C bankC
  | 25 => nil2C same16C
  | _ => fun _ _ _ => False
theorem RFl_ok : CallOk Tryd.prog tab RFl := by
  intro f args bs K h
  unfold RFl at h
  split at h
  · exact ⟨_, h, awake16_ok⟩
  · exact ⟨_, h, newS_okN⟩
  · exact ⟨_, h, ask_ok⟩
  · exact ⟨_, h, bank_ok.nil2⟩
  · exact ⟨_, h, same16_ok.nil2⟩
  · exact h.elim
def RFl_E (pl : Nat → Plan) : En := ⟨tab, RFl, fun _ => none, 0, pl⟩
theorem RFl_J (pl : Nat → Plan) : JOk Tryd.prog (RFl_E pl).T (RFl_E pl).J := fun _ _ h => by cases h
set_option maxRecDepth 200000 in
set_option maxHeartbeats 12800000 in
theorem full_ok : FnOk Tryd.prog tab 10 fullC := by
  refine fn_ok (E := RFl_E pl10) tab_is RFl_ok (RFl_J _) Tryd.func10 rfl rfl (by kernel_rfl) ?_
  rintro args bs K ⟨rfl, n, q, rfl, hn, hq, hK⟩
  refine ⟨rfl, ?_⟩
  obtain ⟨t0, t1⟩ := tmod_in hn.1 (show (0 : Int) < 8 by decide)
  have hkk : IntKind.i64.wrap (250 + IntKind.i64.wrap (n.tmod 8)) = 250 + n.tmod 8 := by rw [wrap_of (n := n.tmod 8) (by omega) (by omega), wrap_of (by omega) (by omega)]
  refine ⟨rfl, rfl, ?_⟩
  refine ⟨fun h => Bool.noConfusion (show false = true from h), fun _ => ?_⟩
  refine ⟨rfl, rfl, ?_⟩
  refine ⟨(by decide : (8 : Int) ≠ 0), ?_⟩
  obtain ⟨kk, hke⟩ : ∃ kk, kk = IntKind.i64.wrap (250 + IntKind.i64.wrap (n.tmod 8)) := ⟨_, rfl⟩
  have hk0 : 250 ≤ kk ∧ kk ≤ 257 := by rw [hke, hkk]; omega
  obtain ⟨m, hkm⟩ : ∃ m : Nat, (m : Int) = if (256 : Int) < kk then 256 else kk := ⟨(if (256 : Int) < kk then 256 else kk).toNat, by split <;> omega⟩
  refine ⟨fun mm st => ∃ (i : Nat) (P : List Kno), (i ≤ m ∧ P = fullK i) ∧ m - i = mm ∧ st.t 6 = .int .i64 kk ∧ st.t 7 = .int .i64 i ∧ st.t 5 = .ptr 5 0 ∧ st.t 3 = .ptr 3 0 ∧ st.h 5 = some (.cells 36 [accsA newL, .sl .nl 0 [], .sl .nl 0 [], ksN 32000 P, .int .i64 0]) ∧ st.h 3 = some (.cells 57 (askAV q).cells),
    ⟨_, 0, [], ⟨Nat.zero_le _, rfl⟩, rfl, (by rw [hke]; rfl), rfl, rfl, rfl, rfl, rfl⟩, ?_⟩
  rintro _ ⟨t1, h1⟩ ⟨i, P, ⟨hi, hP⟩, rfl, e6, e7, e5, e3, b5, b3⟩
  have e6 : t1 6 = .int .i64 kk := e6
  have e7 : t1 7 = .int .i64 i := e7
  have e5 : t1 5 = .ptr 5 0 := e5
  have e3 : t1 3 = .ptr 3 0 := e3
  have b5 : h1 5 = some (.cells 36 [accsA newL, .sl .nl 0 [], .sl .nl 0 [], ksN 32000 P, .int .i64 0]) := b5
  have b3 : h1 3 = some (.cells 57 (askAV q).cells) := b3
  rw [← updL_has t1 [(6, .int .i64 kk), (7, .int .i64 i), (5, .ptr 5 0), (3, .ptr 3 0)] ⟨e6, e7, e5, e3, trivial⟩, ← updL_has h1 [(5, some (.cells 36 [accsA newL, .sl .nl 0 [], .sl .nl 0 [], ksN 32000 P, .int .i64 0])), (3, some (.cells 57 (askAV q).cells))] ⟨b5, b3, trivial⟩]
  have hm256 : m ≤ 256 := by split at hkm <;> omega
  have hPl : P.length = i := by rw [hP]; exact fullK_len i
  cases P with
  | nil =>
    have bd : 1 * 80 ≤ 140737488355328 := by decide
    constructor
    · intro hc
      have hc : (i : Int) < if (256 : Int) < kk then 256 else kk := decT hc
      have hi' : i < m := by rw [← hkm] at hc; omega
      have wi : IntKind.i64.wrap (1000 + (i : Int)) = 1000 + (i : Int) := wrap_of (by omega) (by omega)
      have w : IntKind.i64.wrap ((i : Int) + 1) = ((i + 1 : Nat) : Int) := wrap_of (by omega) (by omega)
      have hlt : m - (i + 1) < m - i := by omega
      have ek : AV.agg [.int .i64 (IntKind.i64.wrap (1000 + (i : Int))), .int .i64 0, .int .i64 0, .int .i64 0, .int .i64 0, .int .i64 0, .int .i64 0, .int .i64 0, .int .i64 0, .bool true] = knoA (knoF i) := by rw [wi]; rfl
      refine ⟨bd, ?_⟩
      exact ⟨_, hlt, i + 1, ([]:List Kno) ++ [knoF i], ⟨by omega, by rw [fullK_succ, ← hP]⟩, rfl, rfl, congrArg (AV.int .i64) w, rfl, rfl, (by rw [← ks_snoc, ← ek] <;> rfl), rfl⟩
    · intro hc
      have hc : ¬ (i : Int) < if (256 : Int) < kk then 256 else kk := decF hc
      have him : i = m := by rw [← hkm] at hc; omega
      subst him
      refine ⟨rfl, q, rfl, hq, ?_⟩
      have hr := ask_I hq
      generalize askR q = r at hr ⊢
      have hf : findK (([]:List Kno)) r.key 0 = -1 := by rw [hP]; exact fullK_find hr.k.2 _
      have hlen : (([]:List Kno)).length = i := by rw [hP]; exact fullK_len i
      have hz : SzK (staF (([]:List Kno))) := ⟨by show newL.length ≤ 64; decide, by show 0 ≤ 1999900; decide, by show (([]:List Kno)).length ≤ 256; omega⟩
      refine ⟨[staA (staF (([]:List Kno))), reqA r, legsA []], ⟨.inr ⟨_, [accsA newL, paysA [], sagsA [], knsA (([]:List Kno)), .int .i64 0], rfl, rfl, .inl rfl, .inr ⟨_, _, rfl, rfl⟩, .inr ⟨_, _, rfl, rfl⟩, .inr ⟨_, _, rfl, rfl⟩, .inl rfl, trivial⟩, .inl (.inl rfl), .inl (.inr ⟨_, _, rfl, rfl⟩), trivial⟩, rfl, staF (([]:List Kno)), r, [], rfl, hz, by decide, ?_⟩
      by_cases h256 : kk ≥ 256
      · have hB : bankM (staF (([]:List Kno))) r [] = (staF (([]:List Kno)), (7, 0), 0) := by
          unfold bankM
          rw [if_neg (by simp [hr.may]), ask_none (ks := (staF (([]:List Kno))).kns) hf, if_neg (by decide)]
          simp only [put_full (ks := (staF (([]:List Kno))).kns) hf (by show (([]:List Kno)).length ≥ 256; rw [hlen]; split at hkm <;> omega)]
        rw [hB]
        have hg : decide (kk ≥ 256) = true := decide_eq_true h256
        refine ⟨fun _ => ?_, fun h => absurd (hg.symm.trans h) (by decide)⟩
        refine ⟨fun _ => ?_, fun h => Bool.noConfusion (show true = false from h)⟩
        refine ⟨fun _ => ?_, fun h => Bool.noConfusion (show true = false from h)⟩
        exact ⟨[staA (staF (([]:List Kno))), staA (staF (([]:List Kno)))], ⟨.inr ⟨_, [accsA newL, paysA [], sagsA [], knsA (([]:List Kno)), .int .i64 0], rfl, rfl, .inl rfl, .inr ⟨_, _, rfl, rfl⟩, .inr ⟨_, _, rfl, rfl⟩, .inr ⟨_, _, rfl, rfl⟩, .inl rfl, trivial⟩, .inl (.inl rfl), trivial⟩, rfl, staF (([]:List Kno)), staF (([]:List Kno)), rfl, hz.z, hz.k, fun _ => hK, fun h => absurd (SameK.refl _) h⟩
      · have hki : (i : Int) = kk := by rw [if_neg (by omega)] at hkm; omega
        have hB := bank_new (s := staF (([]:List Kno))) [] hr.may hf (by show (([]:List Kno)).length < 256; omega)
        rw [hB]
        generalize bankOut (staF (([]:List Kno))) r [] = o
        obtain ⟨x, ⟨e, d⟩, n'⟩ := o
        have hg : decide (kk ≥ 256) = false := decide_eq_false h256
        refine ⟨fun h => absurd (hg.symm.trans h) (by decide), fun _ => ?_⟩
        have hb : (((((([]:List Kno) ++ [(⟨r, e, d, true⟩ : Kno)]).map knoA).length : Nat) : Int) == IntKind.i64.wrap (kk + 1)) = true := by
          rw [wrap_of (by omega) (by omega), List.length_map, List.length_append, hlen]
          simp; omega
        have hend : K (.bool (((((([]:List Kno) ++ [(⟨r, e, d, true⟩ : Kno)]).map knoA).length : Nat) : Int) == IntKind.i64.wrap (kk + 1))) [] := by rw [hb]; exact hK
        exact hend
  | cons p P =>
    have bd : ((knoA p :: P.map knoA).length + 1) * 80 ≤ 140737488355328 := by
      simp only [List.length_cons, List.length_map] at hPl ⊢; omega
    constructor
    · intro hc
      have hc : (i : Int) < if (256 : Int) < kk then 256 else kk := decT hc
      have hi' : i < m := by rw [← hkm] at hc; omega
      have wi : IntKind.i64.wrap (1000 + (i : Int)) = 1000 + (i : Int) := wrap_of (by omega) (by omega)
      have w : IntKind.i64.wrap ((i : Int) + 1) = ((i + 1 : Nat) : Int) := wrap_of (by omega) (by omega)
      have hlt : m - (i + 1) < m - i := by omega
      have ek : AV.agg [.int .i64 (IntKind.i64.wrap (1000 + (i : Int))), .int .i64 0, .int .i64 0, .int .i64 0, .int .i64 0, .int .i64 0, .int .i64 0, .int .i64 0, .int .i64 0, .bool true] = knoA (knoF i) := by rw [wi]; rfl
      refine ⟨bd, ?_⟩
      exact ⟨_, hlt, i + 1, (p::P) ++ [knoF i], ⟨by omega, by rw [fullK_succ, ← hP]⟩, rfl, rfl, congrArg (AV.int .i64) w, rfl, rfl, (by rw [← ks_snoc, ← ek] <;> rfl), rfl⟩
    · intro hc
      have hc : ¬ (i : Int) < if (256 : Int) < kk then 256 else kk := decF hc
      have him : i = m := by rw [← hkm] at hc; omega
      subst him
      refine ⟨rfl, q, rfl, hq, ?_⟩
      have hr := ask_I hq
      generalize askR q = r at hr ⊢
      have hf : findK ((p::P)) r.key 0 = -1 := by rw [hP]; exact fullK_find hr.k.2 _
      have hlen : ((p::P)).length = i := by rw [hP]; exact fullK_len i
      have hz : SzK (staF ((p::P))) := ⟨by show newL.length ≤ 64; decide, by show 0 ≤ 1999900; decide, by show ((p::P)).length ≤ 256; omega⟩
      refine ⟨[staA (staF ((p::P))), reqA r, legsA []], ⟨.inr ⟨_, [accsA newL, paysA [], sagsA [], knsA ((p::P)), .int .i64 0], rfl, rfl, .inl rfl, .inr ⟨_, _, rfl, rfl⟩, .inr ⟨_, _, rfl, rfl⟩, .inl rfl, .inl rfl, trivial⟩, .inl (.inl rfl), .inl (.inr ⟨_, _, rfl, rfl⟩), trivial⟩, rfl, staF ((p::P)), r, [], rfl, hz, by decide, ?_⟩
      by_cases h256 : kk ≥ 256
      · have hB : bankM (staF ((p::P))) r [] = (staF ((p::P)), (7, 0), 0) := by
          unfold bankM
          rw [if_neg (by simp [hr.may]), ask_none (ks := (staF ((p::P))).kns) hf, if_neg (by decide)]
          simp only [put_full (ks := (staF ((p::P))).kns) hf (by show ((p::P)).length ≥ 256; rw [hlen]; split at hkm <;> omega)]
        rw [hB]
        have hg : decide (kk ≥ 256) = true := decide_eq_true h256
        refine ⟨fun _ => ?_, fun h => absurd (hg.symm.trans h) (by decide)⟩
        refine ⟨fun _ => ?_, fun h => Bool.noConfusion (show true = false from h)⟩
        refine ⟨fun _ => ?_, fun h => Bool.noConfusion (show true = false from h)⟩
        exact ⟨[staA (staF ((p::P))), staA (staF ((p::P)))], ⟨.inr ⟨_, [accsA newL, paysA [], sagsA [], knsA ((p::P)), .int .i64 0], rfl, rfl, .inl rfl, .inr ⟨_, _, rfl, rfl⟩, .inr ⟨_, _, rfl, rfl⟩, .inl rfl, .inl rfl, trivial⟩, .inl (.inl rfl), trivial⟩, rfl, staF ((p::P)), staF ((p::P)), rfl, hz.z, hz.k, fun _ => hK, fun h => absurd (SameK.refl _) h⟩
      · have hki : (i : Int) = kk := by rw [if_neg (by omega)] at hkm; omega
        have hB := bank_new (s := staF ((p::P))) [] hr.may hf (by show ((p::P)).length < 256; omega)
        rw [hB]
        generalize bankOut (staF ((p::P))) r [] = o
        obtain ⟨x, ⟨e, d⟩, n'⟩ := o
        have hg : decide (kk ≥ 256) = false := decide_eq_false h256
        refine ⟨fun h => absurd (hg.symm.trans h) (by decide), fun _ => ?_⟩
        have hb : ((((((p::P) ++ [(⟨r, e, d, true⟩ : Kno)]).map knoA).length : Nat) : Int) == IntKind.i64.wrap (kk + 1)) = true := by
          rw [wrap_of (by omega) (by omega), List.length_map, List.length_append, hlen]
          simp; omega
        have hend : K (.bool ((((((p::P) ++ [(⟨r, e, d, true⟩ : Kno)]).map knoA).length : Nat) : Int) == IntKind.i64.wrap (kk + 1))) [] := by rw [hb]; exact hK
        exact hend
end Go.Proofs.YtkeafcjdejmohaaDoor.A
