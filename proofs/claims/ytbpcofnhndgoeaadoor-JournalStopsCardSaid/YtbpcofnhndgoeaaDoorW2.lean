/- varint: Get, walked. -/
import Derived.Test.YtbpcofnhndgoeaaDoorW1
namespace Go.Proofs.YtbpcofnhndgoeaaDoor.A
open Go Q
theorem and_127 {c : Int} (h0 : 0 ≤ c) (h1 : c < 256) : bitsV .and .u8 c 127 = ((c.toNat % 128 : Nat) : Int) := by
  have h : ∀ y : Fin 256, bitsV .and .u8 ((y : Nat) : Int) 127 = (((y : Nat) % 128 : Nat) : Int) := by decide +kernel
  have h' : bitsV .and .u8 ((c.toNat : Nat) : Int) 127 = ((c.toNat % 128 : Nat) : Int) := h ⟨c.toNat, by omega⟩
  rwa [Int.toNat_of_nonneg h0] at h'
theorem pow_bd {k : Nat} (hk : k ≤ 9) : 128 ^ k ≤ 128 ^ 9 := Nat.pow_le_pow_right (by decide) hk
theorem or_shl {u k d : Nat} (hu : u < 128 ^ k) (hk : k ≤ 9) (hd : d < 128) (hd9 : k = 9 → d ≤ 1) : bitsV .or .u64 (u : Int) (shlV .u64 (d : Int) ((7 * k : Nat) : Int)) = ((u + d * 128 ^ k : Nat) : Int) := by
  have hlt : d * 128 ^ k + u < 18446744073709551616 := by
    by_cases e : k = 9
    · subst e
      have := hd9 rfl
      have : d * 128 ^ 9 ≤ 1 * 128 ^ 9 := Nat.mul_le_mul_right _ this
      have : (128 : Nat) ^ 9 = 9223372036854775808 := by decide
      omega
    · have h8 : 128 ^ k ≤ 128 ^ 8 := Nat.pow_le_pow_right (by decide) (by omega)
      have h1 : d * 128 ^ k ≤ 127 * 128 ^ 8 := Nat.mul_le_mul (by omega) h8
      have : (128 : Nat) ^ 8 = 72057594037927936 := by decide
      omega
  have h2 : (128 : Nat) ^ k = 2 ^ (7 * k) := by rw [Nat.pow_mul]
  have hmin : min (((7 * k : Nat) : Int)).toNat IntKind.u64.bits = 7 * k := by
    have : IntKind.u64.bits = 64 := rfl
    rw [this, Int.toNat_natCast]
    omega
  have hs : shlV .u64 (d : Int) ((7 * k : Nat) : Int) = ((d * 128 ^ k : Nat) : Int) := by
    unfold shlV
    rw [hmin]
    have e : (d : Int) * 2 ^ (7 * k) = ((d * 128 ^ k : Nat) : Int) := by rw [h2]; simp
    rw [e, wrapU64 (Int.natCast_nonneg _) (by omega)]
  rw [hs]
  show IntKind.u64.wrap (((BitVec.ofInt 64 (u : Int) ||| BitVec.ofInt 64 ((d * 128 ^ k : Nat) : Int)).toNat : Nat) : Int) = _
  rw [BitVec.toNat_or, BitVec.ofInt_natCast, BitVec.ofInt_natCast, BitVec.toNat_ofNat, BitVec.toNat_ofNat, Nat.mod_eq_of_lt (by omega), Nat.mod_eq_of_lt (by omega)]
  have e : u ||| d * 128 ^ k = d * 128 ^ k + u := by
    rw [h2] at hu ⊢
    rw [Nat.or_comm, ← Nat.shiftLeft_eq, ← Nat.shiftLeft_add_eq_or_of_lt hu]
  rw [e, wrapU64 (Int.natCast_nonneg _) (by omega), Nat.add_comm]
theorem and_1 {x : Nat} (hx : x < 18446744073709551616) : bitsV .and .u64 (x : Int) 1 = ((x % 2 : Nat) : Int) := by
  show IntKind.u64.wrap (((BitVec.ofInt 64 (x : Int) &&& BitVec.ofInt 64 1).toNat : Nat) : Int) = _
  have h1 : (BitVec.ofInt 64 1 : BitVec 64).toNat = 1 := by decide
  rw [BitVec.toNat_and, BitVec.ofInt_natCast, BitVec.toNat_ofNat, Nat.mod_eq_of_lt hx, h1, Nat.and_one_is_mod, wrapU64 (Int.natCast_nonneg _) (by omega)]
theorem shr_1 {x : Nat} : shrV .u64 (x : Int) 1 = ((x / 2 : Nat) : Int) := by
  have : min (1 : Int).toNat IntKind.u64.bits = 1 := by decide
  unfold shrV
  rw [this]
  rw [Int.fdiv_eq_ediv_of_nonneg _ (by decide)]
  omega
theorem xor_i64 {x : Nat} (hx : x < 9223372036854775808) : bitsV .xor .i64 (if IntKind.i64.signed then -1 else IntKind.i64.max) (x : Int) = -(x : Int) - 1 := by
  have e : (if IntKind.i64.signed then (-1 : Int) else IntKind.i64.max) = -1 := by decide
  rw [e]
  show IntKind.i64.wrap (((BitVec.ofInt 64 (-1) ^^^ BitVec.ofInt 64 (x : Int)).toNat : Nat) : Int) = _
  have h2 : (BitVec.ofInt 64 (-1) : BitVec 64) = BitVec.allOnes 64 := by decide
  rw [h2, BitVec.xor_comm, BitVec.xor_allOnes, BitVec.toNat_not, BitVec.ofInt_natCast, BitVec.toNat_ofNat, Nat.mod_eq_of_lt (by omega)]
  simp [IntKind.wrap, IntKind.signed, IntKind.bits]
  omega
/-- What Get tells. -/
def getA : Option (Int × List Int) → AV
  | some (n, rest) => .tup [.int .i64 n, u8A .fz rest, .bool true]
  | none => .tup [.int .i64 0, .sl .nl 0 [], .bool false]
def getC (args : List AV) (bs : List Box) (K : AV → List Box → Prop) : Prop := bs = [] ∧ ∃ b : List Int, args = [u8A .fz b] ∧ byteL b ∧ b.length ≤ 4611686018427387904 ∧ K (getA (getB b)) []
theorem getK_cons (k u : Nat) (c : Int) (l : List Int) : getK k u (c :: l) = if 10 ≤ k then none
    else if k = 9 ∧ c > 1 then none
    else if c ≥ 128 then getK (k + 1) (u + (c.toNat % 128) * 128 ^ k) l
    else if k > 0 ∧ c = 0 then none
    else some (unz (u + (c.toNat % 128) * 128 ^ k), k + 1) := rfl
theorem getB_of {b : List Int} {n : Int} {m : Nat} (h : getK 0 0 b = some (n, m)) : getB b = some (n, b.drop m) := by unfold getB; rw [h]
theorem getB_no {b : List Int} (h : getK 0 0 b = none) : getB b = none := by unfold getB; rw [h]
set_option maxRecDepth 200000 in
set_option maxHeartbeats 3200000 in
theorem get_ok : FnOk Tryd.prog tab 26 getC := by
  refine fn_ok (E := RW_E pl26) tab_is RW_ok (RW_J _) Tryd.func26 rfl rfl (by kernel_rfl) ?_
  rintro args bs K ⟨rfl, b, rfl, hb, hl, hK⟩
  refine ⟨rfl, ?_⟩
  have no : getK 0 0 b = none → K (.tup [.int .i64 0, .sl .nl 0 [], .bool false]) [] := fun h => by rw [getB_no h] at hK; exact hK
  have yes : ∀ n m, getK 0 0 b = some (n, m) → K (.tup [.int .i64 n, u8A .fz (b.drop m), .bool true]) [] := fun n m h => by rw [getB_of h] at hK; exact hK
  refine ⟨fun m s => ∃ (k u : Nat), (k ≤ b.length ∧ k ≤ 10 ∧ (k ≤ 9 → u < 128 ^ k) ∧ getK 0 0 b = getK k u (b.drop k)) ∧ b.length - k = m ∧ s.t 0 = u8A .fz b ∧ s.t 5 = .int .u64 (u : Int) ∧ s.t 6 = .int .i64 (k : Int),
    ⟨_, 0, 0, ⟨Nat.zero_le _, by decide, fun _ => by decide, rfl⟩, rfl, rfl, rfl, rfl⟩, ?_⟩
  rintro _ ⟨t1, h1⟩ ⟨k, u, ⟨hk, hk10, hu, hG⟩, rfl, e0, e5, e6⟩
  have e0 : t1 0 = u8A .fz b := e0
  have e5 : t1 5 = .int .u64 (u : Int) := e5
  have e6 : t1 6 = .int .i64 (k : Int) := e6
  rw [← updL_has t1 [(0, u8A .fz b), (5, .int .u64 (u : Int)), (6, .int .i64 (k : Int))] ⟨e0, e5, e6, trivial⟩]
  constructor
  · intro hq
    have hk1 : k < b.length := by
      have : (k : Int) < ((b.map (AV.int .u8)).length : Nat) := by simpa using hq
      simp at this; omega
    refine ⟨fun hq => ?_, fun hq => ?_⟩
    · have hk9 : k ≤ 9 := by
        have : (k : Int) < 10 := by simpa using hq
        omega
      obtain ⟨c, hc⟩ : ∃ c, b[k]? = some c := ⟨_, List.getElem?_eq_getElem hk1⟩
      obtain ⟨hc0, hc1⟩ := hb c (List.mem_of_getElem? hc)
      have hdrop : b.drop k = c :: b.drop (k + 1) := by
        rw [List.drop_eq_getElem_cons hk1]
        congr 1
        exact (List.getElem?_eq_some_iff.1 hc).2
      rw [hdrop] at hG
      rw [getK_cons, if_neg (by omega)] at hG
      have w : IntKind.i64.wrap ((k : Int) + 1) = ((k + 1 : Nat) : Int) := by rw [wrap_of] <;> omega
      have w7 : IntKind.i64.wrap (7 * (k : Int)) = ((7 * k : Nat) : Int) := by rw [wrap_of] <;> omega
      have hlt : b.length - (k + 1) < b.length - k := by omega
      have hd : c.toNat % 128 < 128 := Nat.mod_lt _ (by decide)
      have hw8 : IntKind.u64.wrap (bitsV .and .u8 c 127) = ((c.toNat % 128 : Nat) : Int) := by rw [and_127 hc0 hc1, wrapU64 (by omega) (by omega)]
      have hu9 := hu hk9
      have hsum : k = 9 ∧ c > 1 ∨ u + c.toNat % 128 * 128 ^ k < 18446744073709551616 ∧ (k ≤ 8 → u + c.toNat % 128 * 128 ^ k < 128 ^ (k + 1)) := by
        by_cases h9 : k = 9 ∧ c > 1
        · exact .inl h9
        · right
          have h8 : k ≤ 8 → u + c.toNat % 128 * 128 ^ k < 128 ^ (k + 1) := fun _ => by
            have : c.toNat % 128 * 128 ^ k ≤ 127 * 128 ^ k := Nat.mul_le_mul_right _ (by omega)
            rw [Nat.pow_succ]
            omega
          refine ⟨?_, h8⟩
          by_cases e : k = 9
          · subst e
            have : c.toNat % 128 ≤ 1 := by omega
            have : c.toNat % 128 * 128 ^ 9 ≤ 1 * 128 ^ 9 := Nat.mul_le_mul_right _ this
            have : (128 : Nat) ^ 9 = 9223372036854775808 := by decide
            omega
          · have h1 := h8 (by omega)
            have h2 : 128 ^ (k + 1) ≤ 128 ^ 9 := pow_bd (by omega)
            have : (128 : Nat) ^ 9 = 9223372036854775808 := by decide
            omega
      have hor : ¬ (k = 9 ∧ c > 1) → bitsV .or .u64 (u : Int) (shlV .u64 (IntKind.u64.wrap (bitsV .and .u8 c 127)) (IntKind.i64.wrap (7 * (k : Int)))) = ((u + c.toNat % 128 * 128 ^ k : Nat) : Int) := fun h => by
        rw [hw8, w7]
        exact or_shl hu9 hk9 hd (fun e => by omega)
      refine ⟨_, Int.natCast_nonneg k, map_of hc, ?_⟩
      have hshr : (0 : Int) ≤ IntKind.i64.wrap (7 * (k : Int)) := by rw [w7]; omega
      refine ⟨fun h9 => ?_, fun h9 => ?_⟩
      · have h9 : k = 9 := by
          have : (k : Int) = 9 := by simpa using h9
          omega
        refine ⟨fun hc1 => no ?_, fun hc1 => ?_⟩
        · have hc1 : c > 1 := by simpa using hc1
          rw [hG, if_pos ⟨h9, hc1⟩]
        · have hmain : ¬ (k = 9 ∧ c > 1) := fun h => by
            have : ¬ c > 1 := by simpa using hc1
            exact this h.2
          have hsum' := hsum.resolve_left hmain
          rw [if_neg hmain] at hG
          have hor' := hor hmain
          refine ⟨hshr, ?_⟩
          refine ⟨fun h128 => ?_, fun h128 => ?_⟩
          · have h128 : c ≥ 128 := by simpa using h128
            rw [if_pos h128] at hG
            exact ⟨_, hlt, k + 1, _, ⟨hk1, by omega, fun h => hsum'.2 (by omega), hG⟩, rfl, rfl, congrArg (AV.int .u64) hor', congrArg (AV.int .i64) w⟩
          · have h128 : ¬ c ≥ 128 := by simpa using h128
            rw [if_neg h128] at hG
            have hval : c.toNat % 128 = c.toNat := by omega
            have hK1 : IntKind.i64.wrap (shrV .u64 (bitsV .or .u64 (u : Int) (shlV .u64 (IntKind.u64.wrap (bitsV .and .u8 c 127)) (IntKind.i64.wrap (7 * (k : Int))))) 1) = (((u + c.toNat % 128 * 128 ^ k) / 2 : Nat) : Int) := by
              rw [hor', shr_1, wrap_of] <;> omega
            have hK2 : bitsV .and .u64 (bitsV .or .u64 (u : Int) (shlV .u64 (IntKind.u64.wrap (bitsV .and .u8 c 127)) (IntKind.i64.wrap (7 * (k : Int))))) 1 = (((u + c.toNat % 128 * 128 ^ k) % 2 : Nat) : Int) := by
              rw [hor', and_1 hsum'.1]
            have wn : (IntKind.i64.wrap ((k : Int) + 1)).toNat = k + 1 := by rw [w]; rfl
            have hs1 : (0 : Int) ≤ IntKind.i64.wrap ((k : Int) + 1) := by rw [w]; omega
            have hs2 : (IntKind.i64.wrap ((k : Int) + 1)).toNat ≤ (b.map (AV.int .u8)).length := by rw [wn]; simp; omega
            have hcut : AV.sl .fz 5 (((b.map (AV.int .u8)).take (b.map (AV.int .u8)).length).drop (IntKind.i64.wrap ((k : Int) + 1)).toNat) = u8A .fz (b.drop (k + 1)) := by
              rw [wn, List.take_length, ← List.map_drop]; rfl
            have fin : ¬ (k > 0 ∧ c = 0) → ∀ v, v = unz (u + c.toNat % 128 * 128 ^ k) → K (.tup [.int .i64 v, AV.sl .fz 5 (((b.map (AV.int .u8)).take (b.map (AV.int .u8)).length).drop (IntKind.i64.wrap ((k : Int) + 1)).toNat), .bool true]) [] := fun hz v hv => by
              rw [if_neg hz] at hG
              rw [hcut, hv]
              exact yes _ _ hG
            have hodd : ∀ v w2, v = IntKind.i64.wrap (shrV .u64 (bitsV .or .u64 (u : Int) (shlV .u64 (IntKind.u64.wrap (bitsV .and .u8 c 127)) (IntKind.i64.wrap (7 * (k : Int))))) 1) → bitsV .and .u64 (bitsV .or .u64 (u : Int) (shlV .u64 (IntKind.u64.wrap (bitsV .and .u8 c 127)) (IntKind.i64.wrap (7 * (k : Int))))) 1 = 1 → w2 = bitsV .xor .i64 (if IntKind.i64.signed then -1 else IntKind.i64.max) v → w2 = unz (u + c.toNat % 128 * 128 ^ k) := fun v w2 h1 h2 h3 => by
              rw [h3, h1, hK1, xor_i64 (by omega)]
              rw [hK2] at h2
              unfold unz
              rw [if_pos (by omega)]
            have heven : ∀ v, v = IntKind.i64.wrap (shrV .u64 (bitsV .or .u64 (u : Int) (shlV .u64 (IntKind.u64.wrap (bitsV .and .u8 c 127)) (IntKind.i64.wrap (7 * (k : Int))))) 1) → ¬ bitsV .and .u64 (bitsV .or .u64 (u : Int) (shlV .u64 (IntKind.u64.wrap (bitsV .and .u8 c 127)) (IntKind.i64.wrap (7 * (k : Int))))) 1 = 1 → v = unz (u + c.toNat % 128 * 128 ^ k) := fun v h1 h2 => by
              rw [h1, hK1]
              rw [hK2] at h2
              unfold unz
              rw [if_neg (by omega)]
            refine ⟨fun hk0 => ?_, fun hk0 => ?_⟩
            · have hk0 : k > 0 := by simpa using hk0
              refine ⟨fun hz => no ?_, fun hz => ?_⟩
              · have hz : c = 0 := by simpa using hz
                rw [hG, if_pos ⟨hk0, hz⟩]
              · have hz : ¬ (k > 0 ∧ c = 0) := fun h => by simp [h.2] at hz
                refine ⟨(by decide : (0 : Int) ≤ 1), ?_⟩
                refine ⟨fun ho => ?_, fun ho => ?_⟩
                · exact ⟨hs1, hs2, Nat.le_refl _, fin hz _ (hodd _ _ rfl (by simpa using ho) rfl)⟩
                · exact ⟨hs1, hs2, Nat.le_refl _, fin hz _ (heven _ rfl (by simpa using ho))⟩
            · have hk0 : ¬ k > 0 := by simpa using hk0
              have hz : ¬ (k > 0 ∧ c = 0) := fun h => hk0 h.1
              refine ⟨fun h => Bool.noConfusion h, fun _ => ?_⟩
              refine ⟨(by decide : (0 : Int) ≤ 1), ?_⟩
              refine ⟨fun ho => ?_, fun ho => ?_⟩
              · exact ⟨hs1, hs2, Nat.le_refl _, fin hz _ (hodd _ _ rfl (by simpa using ho) rfl)⟩
              · exact ⟨hs1, hs2, Nat.le_refl _, fin hz _ (heven _ rfl (by simpa using ho))⟩
      · have hmain : ¬ (k = 9 ∧ c > 1) := fun h => by
          have : ¬ (k : Int) = 9 := by simpa using h9
          omega
        refine ⟨fun h => Bool.noConfusion h, fun _ => ?_⟩
        have hsum' := hsum.resolve_left hmain
        rw [if_neg hmain] at hG
        have hor' := hor hmain
        refine ⟨hshr, ?_⟩
        refine ⟨fun h128 => ?_, fun h128 => ?_⟩
        · have h128 : c ≥ 128 := by simpa using h128
          rw [if_pos h128] at hG
          exact ⟨_, hlt, k + 1, _, ⟨hk1, by omega, fun h => hsum'.2 (by omega), hG⟩, rfl, rfl, congrArg (AV.int .u64) hor', congrArg (AV.int .i64) w⟩
        · have h128 : ¬ c ≥ 128 := by simpa using h128
          rw [if_neg h128] at hG
          have hval : c.toNat % 128 = c.toNat := by omega
          have hK1 : IntKind.i64.wrap (shrV .u64 (bitsV .or .u64 (u : Int) (shlV .u64 (IntKind.u64.wrap (bitsV .and .u8 c 127)) (IntKind.i64.wrap (7 * (k : Int))))) 1) = (((u + c.toNat % 128 * 128 ^ k) / 2 : Nat) : Int) := by
            rw [hor', shr_1, wrap_of] <;> omega
          have hK2 : bitsV .and .u64 (bitsV .or .u64 (u : Int) (shlV .u64 (IntKind.u64.wrap (bitsV .and .u8 c 127)) (IntKind.i64.wrap (7 * (k : Int))))) 1 = (((u + c.toNat % 128 * 128 ^ k) % 2 : Nat) : Int) := by
            rw [hor', and_1 hsum'.1]
          have wn : (IntKind.i64.wrap ((k : Int) + 1)).toNat = k + 1 := by rw [w]; rfl
          have hs1 : (0 : Int) ≤ IntKind.i64.wrap ((k : Int) + 1) := by rw [w]; omega
          have hs2 : (IntKind.i64.wrap ((k : Int) + 1)).toNat ≤ (b.map (AV.int .u8)).length := by rw [wn]; simp; omega
          have hcut : AV.sl .fz 5 (((b.map (AV.int .u8)).take (b.map (AV.int .u8)).length).drop (IntKind.i64.wrap ((k : Int) + 1)).toNat) = u8A .fz (b.drop (k + 1)) := by
            rw [wn, List.take_length, ← List.map_drop]; rfl
          have fin : ¬ (k > 0 ∧ c = 0) → ∀ v, v = unz (u + c.toNat % 128 * 128 ^ k) → K (.tup [.int .i64 v, AV.sl .fz 5 (((b.map (AV.int .u8)).take (b.map (AV.int .u8)).length).drop (IntKind.i64.wrap ((k : Int) + 1)).toNat), .bool true]) [] := fun hz v hv => by
            rw [if_neg hz] at hG
            rw [hcut, hv]
            exact yes _ _ hG
          have hodd : ∀ v w2, v = IntKind.i64.wrap (shrV .u64 (bitsV .or .u64 (u : Int) (shlV .u64 (IntKind.u64.wrap (bitsV .and .u8 c 127)) (IntKind.i64.wrap (7 * (k : Int))))) 1) → bitsV .and .u64 (bitsV .or .u64 (u : Int) (shlV .u64 (IntKind.u64.wrap (bitsV .and .u8 c 127)) (IntKind.i64.wrap (7 * (k : Int))))) 1 = 1 → w2 = bitsV .xor .i64 (if IntKind.i64.signed then -1 else IntKind.i64.max) v → w2 = unz (u + c.toNat % 128 * 128 ^ k) := fun v w2 h1 h2 h3 => by
            rw [h3, h1, hK1, xor_i64 (by omega)]
            rw [hK2] at h2
            unfold unz
            rw [if_pos (by omega)]
          have heven : ∀ v, v = IntKind.i64.wrap (shrV .u64 (bitsV .or .u64 (u : Int) (shlV .u64 (IntKind.u64.wrap (bitsV .and .u8 c 127)) (IntKind.i64.wrap (7 * (k : Int))))) 1) → ¬ bitsV .and .u64 (bitsV .or .u64 (u : Int) (shlV .u64 (IntKind.u64.wrap (bitsV .and .u8 c 127)) (IntKind.i64.wrap (7 * (k : Int))))) 1 = 1 → v = unz (u + c.toNat % 128 * 128 ^ k) := fun v h1 h2 => by
            rw [h1, hK1]
            rw [hK2] at h2
            unfold unz
            rw [if_neg (by omega)]
          refine ⟨fun hk0 => ?_, fun hk0 => ?_⟩
          · have hk0 : k > 0 := by simpa using hk0
            refine ⟨fun hz => no ?_, fun hz => ?_⟩
            · have hz : c = 0 := by simpa using hz
              rw [hG, if_pos ⟨hk0, hz⟩]
            · have hz : ¬ (k > 0 ∧ c = 0) := fun h => by simp [h.2] at hz
              refine ⟨(by decide : (0 : Int) ≤ 1), ?_⟩
              refine ⟨fun ho => ?_, fun ho => ?_⟩
              · exact ⟨hs1, hs2, Nat.le_refl _, fin hz _ (hodd _ _ rfl (by simpa using ho) rfl)⟩
              · exact ⟨hs1, hs2, Nat.le_refl _, fin hz _ (heven _ rfl (by simpa using ho))⟩
          · have hk0 : ¬ k > 0 := by simpa using hk0
            have hz : ¬ (k > 0 ∧ c = 0) := fun h => hk0 h.1
            refine ⟨fun h => Bool.noConfusion h, fun _ => ?_⟩
            refine ⟨(by decide : (0 : Int) ≤ 1), ?_⟩
            refine ⟨fun ho => ?_, fun ho => ?_⟩
            · exact ⟨hs1, hs2, Nat.le_refl _, fin hz _ (hodd _ _ rfl (by simpa using ho) rfl)⟩
            · exact ⟨hs1, hs2, Nat.le_refl _, fin hz _ (heven _ rfl (by simpa using ho))⟩
    · have hk10' : k = 10 := by
        have : ¬ (k : Int) < 10 := by simpa using hq
        omega
      refine no ?_
      rw [hG]
      cases hd : b.drop k with
      | nil => rfl
      | cons c l => unfold getK; rw [if_pos (by omega)]
  · intro hq
    have hk1 : k = b.length := by
      have : ¬ (k : Int) < ((b.map (AV.int .u8)).length : Nat) := by simpa using hq
      simp at this; omega
    refine ⟨fun h => Bool.noConfusion h, fun _ => no ?_⟩
    rw [hG, hk1, List.drop_length]
    rfl
end Go.Proofs.YtbpcofnhndgoeaaDoor.A
