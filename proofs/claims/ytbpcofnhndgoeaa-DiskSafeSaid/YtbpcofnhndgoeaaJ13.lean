/- hawalalaw05: DiskSafe. -/
import Derived.Test.YtbpcofnhndgoeaaJ12
namespace Go.Proofs.Ytbpcofnhndgoeaa.A
open Go Q
theorem strOf_extract (l : List Int) (n : Nat) : (strOf l).extract 0 n = strOf (l.take n) := by
  refine bytes_ext ?_
  rw [strOf_list, List.map_take, ← strOf_list]
  simp [ByteArray.data_extract]
theorem keptF_in {n : Int} {x : List Int} {s keep : Int} (hs : 0 ≤ s ∧ s ≤ x.length) : s ≤ keptF (n, x, s) keep ∧ keptF (n, x, s) keep ≤ x.length := by
  have := tmod_lt (k := keep) (m := (x.length : Int) - s + 1) (by omega)
  simp only [keptF]
  split <;> omega
theorem rstK {r k keep : Int} {b : List Int} : restartD ⟨[(k, b, b.length)], r, -1, false⟩ keep = ⟨[(k, b, b.length)], r, -1, false⟩ := by
  simp [restartD, fcut, keptF]
theorem rst_some {r k s keep : Int} {b : List Int} (hs : 0 ≤ s ∧ s ≤ b.length) : restartD ⟨[(k, b, s)], r, -1, false⟩ keep = ⟨[(k, b.take (keptF (k, b, s) keep).toNat, ((b.take (keptF (k, b, s) keep).toNat).length : Int))], r, -1, false⟩ := by
  have h := keptF_in (n := k) (keep := keep) hs
  have : (((b.take (keptF (k, b, s) keep).toNat).length : Nat) : Int) = keptF (k, b, s) keep := by rw [List.length_take]; omega
  rw [this]
  rfl
def RSf : Contract
  | 6 => awake5C
  | 7 => fewC
  | _ => fun _ _ _ => False
theorem RSf_ok : CallOk Try.prog tab RSf := by
  intro f args bs K h
  unfold RSf at h
  split at h
  · exact ⟨_, h, awake5_ok⟩
  · exact ⟨_, h, few_ok⟩
  · exact h.elim
def RSf_E (pl : Nat → Plan) : En := ⟨tab, RSf, fun _ => none, 0, pl⟩
theorem RSf_J (pl : Nat → Plan) : JOk Try.prog (RSf_E pl).T (RSf_E pl).J := fun _ _ h => by cases h
noncomputable def JSf : FuncId → Option StSpec
  | 8 => some (liftJ ofDC)
  | 10 => some (frzJ (liftJ (nilC appendC1)))
  | 11 => some (liftJ (dk1C1 syncD))
  | 13 => some (liftJ readC1)
  | 12 => some (liftJ restartC1)
  | 9 => some (liftJ namesC)
  | _ => none
theorem JSf_ok : JOk Try.prog tab JSf := by
  intro f j h
  unfold JSf at h
  split at h
  · cases h; exact lift_ok ofD_ok
  · cases h; exact frz_ok (lift_ok append_ok1.nil)
  · cases h; exact lift_ok (dk1_mono sync_ok)
  · cases h; exact lift_ok read_ok1
  · cases h; exact lift_ok restart_ok1
  · cases h; exact lift_ok names_ok
  · cases h
noncomputable def Sf_E (pl : Nat → Plan) : En := ⟨tab, RSf, JSf, 0, pl⟩
def sure (L : List (List Int)) (p k : Nat) : Int := if p + 1 ≤ k then ((catM (L.take (p + 1))).length : Int) else 0
def safeL (args : List AV) (bs : List Box) (K : Kon) : Prop := bs = [] ∧ ∃ rs sf keep, args = [bss .fz rs, .int .u8 sf, .int .i64 keep] ∧ rs.length ≤ 4611686018427387904 ∧ (0 ≤ sf ∧ sf < 256) ∧ K (.bool true) []
set_option maxRecDepth 200000 in
set_option maxHeartbeats 16000000 in
theorem safe_ok : FnOk Try.prog tab 3 safeL := by
  refine fn_ok (E := Sf_E pl3) tab_is RSf_ok JSf_ok Try.func3 rfl rfl (by kernel_rfl) ?_
  rintro args bs K ⟨rfl, rs, sf, keep, rfl, hl, ⟨hs0, hs1⟩, hK⟩
  refine ⟨rfl, ?_⟩
  refine ⟨rfl, rfl, ?_⟩
  refine ⟨fun h => Bool.noConfusion (show false = true from h), fun _ => ?_⟩
  refine ⟨rfl, rs, rfl, hl, fun h0 => ?_, fun h0 => ?_⟩
  · refine ⟨[], [], [500], 0, rfl, _, rfl, 262144, 2000000000, Nat.le_refl _, rfl, rfl, rfl, ?_⟩
    refine ⟨fun _ => ?_, fun h => Bool.noConfusion (show true = false from h)⟩
    refine ⟨[500], [], [], 0, rfl, _, rfl, rfl, ⟨[], 262144, -1, false⟩, 2000000000, dok0 (by decide) (by decide), Nat.le_refl _, rfl, fun _ => ⟨rfl, ?_⟩, fun h => absurd rfl h⟩
    exact hK
  · have hL := few_each (rs := rs)
    have hL12 := few_len rs
    obtain ⟨L, hLe⟩ : ∃ L, L = fewM rs := ⟨_, rfl⟩
    rw [← hLe] at hL hL12 h0 ⊢
    have hn : 0 < L.length := List.length_pos_iff.2 h0
    refine ⟨[], [], [500], 0, rfl, _, rfl, 262144, 2000000000, Nat.le_refl _, rfl, rfl, rfl, ?_⟩
    refine ⟨fun h => absurd (eq_of_beq (show ((((L.map by8).length : Nat) : Int) == 0) = true from h)) (by rw [List.length_map]; omega), fun _ => ?_⟩
    have hw : IntKind.i64.wrap sf = sf := wrap_of (by omega) (by omega)
    have hm0 := Int.tmod_nonneg (L.length : Int) hs0
    have hm1 := Int.tmod_lt_of_pos sf (show (0 : Int) < L.length by omega)
    obtain ⟨p, hp⟩ : ∃ p : Nat, (p : Int) = sf.tmod L.length := ⟨(sf.tmod L.length).toNat, Int.toNat_of_nonneg hm0⟩
    have hpl : p < L.length := by omega
    refine ⟨fun mm st => ∃ (k : Nat), (k ≤ L.length) ∧ L.length - k = mm ∧ st.t 0 = bss (.own 19000) L ∧ st.t 1 = .int .u8 sf ∧ st.t 2 = .int .i64 keep ∧ st.t 7 = .ptr 500 0 ∧ st.t 8 = .str (strOf (catM (L.take k))) ∧ st.t 9 = .int .i64 (sure L p k) ∧ st.t 28 = bss (.own 19000) L ∧ st.t 29 = .int .i64 ((L.map by8).length : Nat) ∧ st.t 30 = .int .i64 (k : Int) ∧ st.h 500 = some (dkB (safeD L p k) 2000000000),
      ⟨_, 0, Nat.zero_le _, rfl, rfl, rfl, rfl, rfl, rfl, rfl, rfl, rfl, rfl, rfl⟩, ?_⟩
    rintro _ ⟨t1, h1⟩ ⟨k, hk, rfl, e0, e1, e2, e7, e8, e9, e28, e29, e30, b500⟩
    have e0 : t1 0 = bss (.own 19000) L := e0
    have e1 : t1 1 = .int .u8 sf := e1
    have e2 : t1 2 = .int .i64 keep := e2
    have e7 : t1 7 = .ptr 500 0 := e7
    have e8 : t1 8 = .str (strOf (catM (L.take k))) := e8
    have e9 : t1 9 = .int .i64 (sure L p k) := e9
    have e28 : t1 28 = bss (.own 19000) L := e28
    have e29 : t1 29 = .int .i64 ((L.map by8).length : Nat) := e29
    have e30 : t1 30 = .int .i64 (k : Int) := e30
    have b500 : h1 500 = some (dkB (safeD L p k) 2000000000) := b500
    rw [← updL_has t1 [(0, bss (.own 19000) L), (1, .int .u8 sf), (2, .int .i64 keep), (7, .ptr 500 0), (8, .str (strOf (catM (L.take k)))), (9, .int .i64 (sure L p k)), (28, bss (.own 19000) L), (29, .int .i64 ((L.map by8).length : Nat)), (30, .int .i64 (k : Int))] ⟨e0, e1, e2, e7, e8, e9, e28, e29, e30, trivial⟩, ← updL_has h1 [(500, some (dkB (safeD L p k) 2000000000))] ⟨b500, trivial⟩]
    have hcl := cat_len hL k
    constructor
    · intro hb
      have hi' : k < L.length := by
        have : (k : Int) < ((L.map by8).length : Nat) := by simpa using hb
        simp at this; omega
      have w : IntKind.i64.wrap ((k : Int) + 1) = ((k + 1 : Nat) : Int) := by rw [wrap_of] <;> omega
      have hlt : L.length - (k + 1) < L.length - k := by omega
      obtain ⟨r, hx⟩ : ∃ x, L[k]? = some x := ⟨_, List.getElem?_eq_getElem hi'⟩
      skip
      have hrl := hL r (List.mem_of_getElem? hx)
      refine ⟨_, Int.natCast_nonneg k, map_of hx, ?_⟩
      refine ⟨[500], [], [], 0, rfl, _, rfl, [.ptr 1000000000 0, .int .i64 3, by8 r], ⟨.inl rfl, .inl rfl, .inl rfl, trivial⟩, safeD L p k, 2000000000, 3, r, 0, _, safeD_ok hL p k (by omega), Nat.le_refl _, (by omega), safeD_app hL (by omega) hx, (by simp), rfl, rfl, rfl, ?_⟩
      refine ⟨fun h => Bool.noConfusion (show false = true from h), fun _ => ?_⟩
      refine ⟨r, rfl, ?_⟩
      refine ⟨(by rw [strOf_size, strOf_size]; omega), ?_⟩
      refine ⟨(show (((L.map by8).length : Nat) : Int) ≠ 0 by rw [List.length_map]; omega), ?_⟩
      have hst : strOf (catM (L.take k)) ++ strOf r = strOf (catM (L.take (k + 1))) := by rw [strOf_append, ← cat_snoc hx]
      have htm : (IntKind.i64.wrap sf).tmod (((L.map by8).length : Nat) : Int) = p := by rw [hw, List.length_map, hp]
      refine ⟨fun hc => ?_, fun hc => ?_⟩
      · have hc : (k : Int) = (IntKind.i64.wrap sf).tmod (((L.map by8).length : Nat) : Int) := eq_of_beq hc
        rw [htm] at hc
        obtain rfl : k = p := by omega
        have hok : DOk ⟨[(3, catM (L.take (k + 1)), if k + 1 ≤ k then ((catM (L.take (k + 1))).length : Int) else 0)], 262144, -1, false⟩ := dok1 (by decide) (by decide) (by have := cat_len hL (k + 1); omega) (by rw [if_neg (by omega)]; omega)
        refine ⟨[500], [], [], 0, rfl, _, rfl, _, 2000000000, 3, 0, _, hok, Nat.le_refl _, safeD_syn, rfl, rfl, rfl, ?_⟩
        refine ⟨fun h => Bool.noConfusion (show false = true from h), fun _ => ?_⟩
        exact ⟨_, hlt, k + 1, (by omega), rfl, rfl, rfl, rfl, rfl, congrArg AV.str hst, (by show AV.int .i64 (((strOf (catM (L.take k)) ++ strOf r).size : Nat) : Int) = _; rw [hst, strOf_size, sure, if_pos (Nat.le_refl _)]), rfl, rfl, congrArg (AV.int .i64) w, rfl⟩
      · have hc : ¬ (k : Int) = (IntKind.i64.wrap sf).tmod (((L.map by8).length : Nat) : Int) := beq_eq_false_iff_ne.1 hc
        rw [htm] at hc
        have hkp : k ≠ p := by omega
        exact ⟨_, hlt, k + 1, (by omega), rfl, rfl, rfl, rfl, rfl, congrArg AV.str hst, (by show AV.int .i64 (sure L p k) = _; simp only [sure, show (p + 1 ≤ k + 1) = (p + 1 ≤ k) from propext ⟨fun h => by omega, fun h => by omega⟩]), rfl, rfl, congrArg (AV.int .i64) w, congrArg (fun d => some (dkB d 2000000000)) (safeD_no hkp)⟩
    · intro hb
      have hi' : k = L.length := by
        have : ¬ (k : Int) < ((L.map by8).length : Nat) := by simpa using hb
        simp at this; omega
      subst hi'
      obtain ⟨q, hq⟩ : ∃ q, L.length = q + 1 := ⟨L.length - 1, by omega⟩
      have hall : L.take L.length = L := List.take_length
      have hS : sure L p L.length = ((catM (L.take (p + 1))).length : Int) := by unfold sure; rw [if_pos (by omega)]
      have hsle := cat_le (L := L) (show p + 1 ≤ L.length by omega)
      rw [hall] at hsle hcl
      have hD : safeD L p L.length = ⟨[(3, catM L, ((catM (L.take (p + 1))).length : Int))], 262144, -1, false⟩ := by
        rw [hq]
        simp only [safeD]
        rw [← hq, hall, if_pos (by omega)]
      obtain ⟨x, hxe⟩ : ∃ x, x = (catM L).take (keptF (3, catM L, ((catM (L.take (p + 1))).length : Int)) keep).toNat := ⟨_, rfl⟩
      have hkf := keptF_in (n := 3) (x := catM L) (s := ((catM (L.take (p + 1))).length : Int)) (keep := keep) ⟨by omega, by omega⟩
      have hxl : (x.length : Int) = keptF (3, catM L, ((catM (L.take (p + 1))).length : Int)) keep := by rw [hxe, List.length_take]; omega
      have hxt : (catM L).take x.length = x := by rw [hxe, List.length_take, Nat.min_eq_left (by omega)]
      have hd1 : DOk ⟨[(3, x, (x.length : Int))], 262144, -1, false⟩ := dok1 (by decide) (by decide) (by omega) (by omega)
      refine ⟨[500], [], [], 0, rfl, _, rfl, safeD L p L.length, 2000000000, keep, ⟨[(3, x, (x.length : Int))], 262144, -1, false⟩, safeD_ok hL p _ hL12, Nat.le_refl _, (by rw [hD, hxe]; exact rst_some ⟨by omega, by omega⟩), rfl, rfl, rfl, ?_⟩
      refine ⟨[500], [], [], 0, rfl, _, rfl, ⟨[(3, x, (x.length : Int))], 262144, -1, false⟩, 2000000000, 3, x, true, hd1, Nat.le_refl _, rd1, rfl, rfl, rfl, ?_⟩
      have hx8 : ((((x.map (AV.int .u8)).length : Nat)) : Int) = x.length := by rw [List.length_map]
      refine ⟨fun h => Bool.noConfusion (show false = true from h), fun _ => ?_⟩
      refine ⟨fun h => absurd (of_decide_eq_true (show decide ((((x.map (AV.int .u8)).length : Nat) : Int) < sure L p L.length) = true from h)) (by rw [hS, hx8]; omega), fun _ => ?_⟩
      refine ⟨fun h => absurd (of_decide_eq_true (show decide ((((strOf (catM (L.take L.length))).size : Nat) : Int) < (((x.map (AV.int .u8)).length : Nat) : Int)) = true from h)) (by rw [hx8, hall, strOf_size]; omega), fun _ => ?_⟩
      have hne : (!(strOf x == (strOf (catM (L.take L.length))).extract 0 (((x.map (AV.int .u8)).length : Nat) : Int).toNat)) = false := by
        rw [hx8, hall, Int.toNat_natCast, strOf_extract, hxt, str_refl]; rfl
      have heq : (strOf x == strOf x) = true := str_refl _
      repeat' first
        | (refine ⟨fun h => Bool.noConfusion (hne.symm.trans h), fun _ => ?_⟩)
        | (refine ⟨x, rfl, ?_⟩)
        | (refine ⟨Int.le_refl _, Int.natCast_nonneg _, (show (((x.map (AV.int .u8)).length : Nat) : Int) ≤ (((strOf (catM (L.take L.length))).size : Nat) : Int) by rw [hx8, hall, strOf_size]; omega), ?_⟩)
        | (refine ⟨Int.natCast_nonneg _, Nat.zero_le _, (show (((x.map (AV.int .u8)).length : Nat) : Int) ≤ (((strOf (catM (L.take L.length))).size : Nat) : Int) by rw [hx8, hall, strOf_size]; omega), ?_⟩)
        | (refine ⟨Int.natCast_nonneg _, Nat.zero_le _, (show (((x.map (AV.int .u8)).length : Nat) : Int).toNat ≤ (strOf (catM (L.take L.length))).size by rw [hx8, hall, strOf_size]; omega), ?_⟩)
        | (refine And.intro ?_ ?_)
      all_goals
        refine ⟨[500], [], [], 0, rfl, _, rfl, ⟨[(3, x, (x.length : Int))], 262144, -1, false⟩, 2000000000, IntKind.i64.wrap (keep + 1), _, hd1, Nat.le_refl _, rstK, rfl, rfl, rfl, ?_⟩
        refine ⟨[500], [], [], 0, rfl, _, rfl, ⟨[(3, x, (x.length : Int))], 262144, -1, false⟩, 2000000000, 3, x, true, hd1, Nat.le_refl _, rd1, rfl, rfl, rfl, ?_⟩
        repeat' first
          | (refine ⟨x, rfl, ?_⟩)
          | (refine And.intro ?_ ?_)
        all_goals exact (show K (.bool (strOf x == strOf x)) [] by rw [heq]; exact hK)
end Go.Proofs.Ytbpcofnhndgoeaa.A
