/- Frames: Make, One. -/
import Derived.Test.YtbpcofnhndgoeaaDoorJF0
import Derived.Test.YtbpcofnhndgoeaaDoorW0
namespace Go.Proofs.YtbpcofnhndgoeaaDoor.A
open Go Q
theorem shrN {k : IntKind} {x n : Nat} (hn : n ≤ k.bits) : shrV k (x : Int) (n : Int) = ((x / 2 ^ n : Nat) : Int) := by
  unfold shrV
  rw [Int.toNat_natCast, Nat.min_eq_left hn, Int.fdiv_eq_ediv_of_nonneg _ (by exact_mod_cast Nat.zero_le _)]
  exact_mod_cast rfl
theorem shlN {k : IntKind} {x n : Nat} (hn : n ≤ k.bits) (hw : k.wrap ((x * 2 ^ n : Nat) : Int) = ((x * 2 ^ n : Nat) : Int)) : shlV k (x : Int) (n : Int) = ((x * 2 ^ n : Nat) : Int) := by
  unfold shlV
  rw [Int.toNat_natCast, Nat.min_eq_left hn]
  have : (x : Int) * 2 ^ n = ((x * 2 ^ n : Nat) : Int) := by simp
  rw [this, hw]
theorem orN {k : IntKind} {q y m : Nat} (hy : y < 2 ^ m) (hlt : q * 2 ^ m + y < 2 ^ k.bits) (hw : k.wrap ((q * 2 ^ m + y : Nat) : Int) = ((q * 2 ^ m + y : Nat) : Int)) : bitsV .or k ((q * 2 ^ m : Nat) : Int) (y : Int) = ((q * 2 ^ m + y : Nat) : Int) := by
  show k.wrap (((BitVec.ofInt k.bits ((q * 2 ^ m : Nat) : Int) ||| BitVec.ofInt k.bits (y : Int)).toNat : Nat) : Int) = _
  rw [BitVec.toNat_or, BitVec.ofInt_natCast, BitVec.ofInt_natCast, BitVec.toNat_ofNat, BitVec.toNat_ofNat, Nat.mod_eq_of_lt (by omega), Nat.mod_eq_of_lt (by omega), ← Nat.shiftLeft_eq, ← Nat.shiftLeft_add_eq_or_of_lt hy, Nat.shiftLeft_eq, hw]
theorem wrap32 {n : Int} (h0 : 0 ≤ n) (h1 : n < 4294967296) : IntKind.u32.wrap n = n := by
  simp [IntKind.wrap, IntKind.signed, IntKind.bits]; omega
theorem get2 {a b : Nat} (ha : a < 256) (hb : b < 256) : bitsV .or .i64 (shlV .i64 (IntKind.i64.wrap (a : Int)) 8) (IntKind.i64.wrap (b : Int)) = (a : Int) * 256 + b := by
  rw [wrap_of (n := (a : Int)) (by omega) (by omega), wrap_of (n := (b : Int)) (by omega) (by omega)]
  have e := shlN (k := .i64) (x := a) (n := 8) (by decide) (wrap_of (by omega) (by omega))
  have e' : shlV .i64 (a : Int) 8 = ((a * 2 ^ 8 : Nat) : Int) := e
  rw [e', orN (k := .i64) (m := 8) (by omega) (by show _ < 2 ^ 64; omega) (wrap_of (by omega) (by omega))]
  omega
theorem get4 {a b c d : Nat} (ha : a < 256) (hb : b < 256) (hc : c < 256) (hd : d < 256) :
    bitsV .or .u32 (bitsV .or .u32 (bitsV .or .u32 (shlV .u32 (IntKind.u32.wrap (a : Int)) 24) (shlV .u32 (IntKind.u32.wrap (b : Int)) 16)) (shlV .u32 (IntKind.u32.wrap (c : Int)) 8)) (IntKind.u32.wrap (d : Int)) = (a : Int) * 16777216 + b * 65536 + c * 256 + d := by
  rw [wrap32 (n := (a : Int)) (by omega) (by omega), wrap32 (n := (b : Int)) (by omega) (by omega), wrap32 (n := (c : Int)) (by omega) (by omega), wrap32 (n := (d : Int)) (by omega) (by omega)]
  have e1 : shlV .u32 (a : Int) 24 = ((a * 2 ^ 24 : Nat) : Int) := shlN (k := .u32) (x := a) (n := 24) (by decide) (wrap32 (by omega) (by omega))
  have e2 : shlV .u32 (b : Int) 16 = ((b * 2 ^ 16 : Nat) : Int) := shlN (k := .u32) (x := b) (n := 16) (by decide) (wrap32 (by omega) (by omega))
  have e3 : shlV .u32 (c : Int) 8 = ((c * 2 ^ 8 : Nat) : Int) := shlN (k := .u32) (x := c) (n := 8) (by decide) (wrap32 (by omega) (by omega))
  rw [e1, e2, e3]
  have f1 := orN (k := .u32) (q := a) (y := b * 2 ^ 16) (m := 24) (by omega) (by show _ < 2 ^ 32; omega) (wrap32 (by omega) (by omega))
  rw [f1, show a * 2 ^ 24 + b * 2 ^ 16 = (a * 256 + b) * 2 ^ 16 by omega]
  have f2 := orN (k := .u32) (q := a * 256 + b) (y := c * 2 ^ 8) (m := 16) (by omega) (by show _ < 2 ^ 32; omega) (wrap32 (by omega) (by omega))
  rw [f2, show (a * 256 + b) * 2 ^ 16 + c * 2 ^ 8 = (a * 65536 + b * 256 + c) * 2 ^ 8 by omega]
  have f3 := orN (k := .u32) (q := a * 65536 + b * 256 + c) (y := d) (m := 8) (by omega) (by show _ < 2 ^ 32; omega) (wrap32 (by omega) (by omega))
  rw [f3]
  omega
theorem put2 {n s : Nat} : [AV.int .u8 (IntKind.u8.wrap (shrV .i64 (n : Int) 8)), .int .u8 (IntKind.u8.wrap (n : Int)), .int .u8 (IntKind.u8.wrap (shrV .u32 (s : Int) 24)), .int .u8 (IntKind.u8.wrap (shrV .u32 (s : Int) 16)), .int .u8 (IntKind.u8.wrap (shrV .u32 (s : Int) 8)), .int .u8 (IntKind.u8.wrap (s : Int))] = (be2 n ++ be4 s).map (AV.int .u8) := by
  have e0 : shrV .i64 (n : Int) 8 = ((n / 256 : Nat) : Int) := shrN (k := .i64) (n := 8) (by decide)
  have e1 : shrV .u32 (s : Int) 24 = ((s / 16777216 : Nat) : Int) := shrN (k := .u32) (n := 24) (by decide)
  have e2 : shrV .u32 (s : Int) 16 = ((s / 65536 : Nat) : Int) := shrN (k := .u32) (n := 16) (by decide)
  have e3 : shrV .u32 (s : Int) 8 = ((s / 256 : Nat) : Int) := shrN (k := .u32) (n := 8) (by decide)
  rw [e0, e1, e2, e3, wrapU8, wrapU8, wrapU8, wrapU8, wrapU8, wrapU8]
  rfl
def RFr : Contract
  | 42 => sumC
  | _ => fun _ _ _ => False
theorem RFr_ok : CallOk Tryd.prog tab RFr := by
  intro f args bs K h
  unfold RFr at h
  split at h
  · exact ⟨_, h, sum_ok⟩
  · exact h.elim
def RFr_E (pl : Nat → Plan) : En := ⟨tab, RFr, fun _ => none, 0, pl⟩
theorem RFr_J (pl : Nat → Plan) : JOk Tryd.prog (RFr_E pl).T (RFr_E pl).J := fun _ _ h => by cases h
def makeC (args : List AV) (bs : List Box) (K : AV → List Box → Prop) : Prop := bs = [] ∧ ∃ b : List Int, args = [by8 b] ∧ b.length ≤ 4611686018427387904 ∧ (16384 < b.length → K (.tup [.sl .nl 0 [], .bool false]) []) ∧ (b.length ≤ 16384 → K (.tup [by8g (.own 30000) (frameB b), .bool true]) [])
set_option maxRecDepth 200000 in
theorem make_ok : FnOk Tryd.prog tab 22 makeC := by
  refine fn_ok (E := RFr_E pl22) tab_is RFr_ok (RFr_J _) Tryd.func22 rfl rfl (by kernel_rfl) ?_
  rintro args bs K ⟨rfl, b, rfl, hl, hK0, hK⟩
  refine ⟨rfl, ?_⟩
  refine ⟨fun h => ?_, fun h => ?_⟩
  · have h := of_decide_eq_true (show decide ((((b.map (AV.int .u8)).length : Nat) : Int) > 16384) = true from h)
    rw [List.length_map] at h
    exact hK0 (by omega)
  · have h := of_decide_eq_false (show decide ((((b.map (AV.int .u8)).length : Nat) : Int) > 16384) = false from h)
    rw [List.length_map] at h
    have hK := hK (by omega)
    have hc := crcI_lt b
    obtain ⟨s, hs⟩ : ∃ s : Nat, crcI b = s := ⟨(crcI b).toNat, by omega⟩
    refine ⟨rfl, b, rfl, hl, ?_⟩
    refine ⟨(by decide : (0 : Int) ≤ 8), ?_⟩
    refine ⟨(by decide : (0 : Int) ≤ 24), ?_⟩
    refine ⟨(by decide : (0 : Int) ≤ 16), ?_⟩
    refine ⟨(by decide : (0 : Int) ≤ 8), ?_⟩
    have e : ∀ v, v = by8g (.own 30000) (frameB b) → K (.tup [v, .bool true]) [] := fun v h => h ▸ hK
    refine ⟨(show (6 + (b.map (AV.int .u8)).length) * 1 ≤ 140737488355328 by rw [List.length_map]; omega), ?_⟩
    refine e _ ?_
    show AV.sl (.own 30000) 5 ([AV.int .u8 (IntKind.u8.wrap (shrV .i64 (((b.map (AV.int .u8)).length : Nat) : Int) 8)), .int .u8 (IntKind.u8.wrap (((b.map (AV.int .u8)).length : Nat) : Int)), .int .u8 (IntKind.u8.wrap (shrV .u32 (crcI b) 24)), .int .u8 (IntKind.u8.wrap (shrV .u32 (crcI b) 16)), .int .u8 (IntKind.u8.wrap (shrV .u32 (crcI b) 8)), .int .u8 (IntKind.u8.wrap (crcI b))] ++ b.map (AV.int .u8)) = _
    rw [hs, put2, frameB, ← List.map_append, hs, Int.toNat_natCast, List.length_map]
def oneA (g : Tag) : Option (List Int × Nat) → AV
  | none => .tup [.sl .nl 0 [], .int .i64 0, .bool false]
  | some (x, n) => .tup [by8g g x, .int .i64 (n : Int), .bool true]
def oneC0 (args : List AV) (bs : List Box) (K : AV → List Box → Prop) : Prop := bs = [] ∧ ∃ b : List Int, args = [by8 b] ∧ byteL b ∧ b.length ≤ 4611686018427387904 ∧ K (oneA (.own 61000) (oneB b)) []
theorem cut8b {l : List Int} {h d : Nat} : AV.sl .fz 5 (((l.map (AV.int .u8)).take h).drop d) = by8 ((l.take h).drop d) := by rw [← List.map_take, ← List.map_drop]
set_option maxRecDepth 200000 in
set_option maxHeartbeats 3200000 in
theorem one_ok0 : FnOk Tryd.prog tab 24 oneC0 := by
  refine fn_ok (E := RFr_E pl24) tab_is RFr_ok (RFr_J _) Tryd.func24 rfl rfl (by kernel_rfl) ?_
  rintro args bs K ⟨rfl, b, rfl, hb, hl, hK⟩
  refine ⟨rfl, ?_⟩
  refine ⟨fun h => ?_, fun h => ?_⟩
  · have h := of_decide_eq_true (show decide ((((b.map (AV.int .u8)).length : Nat) : Int) < 6) = true from h)
    rw [List.length_map] at h
    rw [oneB_short (by omega)] at hK
    exact hK
  · have h := of_decide_eq_false (show decide ((((b.map (AV.int .u8)).length : Nat) : Int) < 6) = false from h)
    rw [List.length_map] at h
    match b, h, hb, hl, hK with
    | [], h, _, _, _ => exact absurd (show ((0 : Nat) : Int) < 6 by decide) h
    | [_], h, _, _, _ => exact absurd (show ((1 : Nat) : Int) < 6 by decide) h
    | [_, _], h, _, _, _ => exact absurd (show ((2 : Nat) : Int) < 6 by decide) h
    | [_, _, _], h, _, _, _ => exact absurd (show ((3 : Nat) : Int) < 6 by decide) h
    | [_, _, _, _], h, _, _, _ => exact absurd (show ((4 : Nat) : Int) < 6 by decide) h
    | [_, _, _, _, _], h, _, _, _ => exact absurd (show ((5 : Nat) : Int) < 6 by decide) h
    | a0 :: a1 :: a2 :: a3 :: a4 :: a5 :: r, h, hb, hl, hK =>
      have b0 := hb a0 (by simp)
      have b1 := hb a1 (by simp)
      have b2 := hb a2 (by simp)
      have b3 := hb a3 (by simp)
      have b4 := hb a4 (by simp)
      have b5 := hb a5 (by simp)
      obtain ⟨c0, rfl⟩ : ∃ c : Nat, a0 = c := ⟨a0.toNat, by omega⟩
      obtain ⟨c1, rfl⟩ : ∃ c : Nat, a1 = c := ⟨a1.toNat, by omega⟩
      obtain ⟨c2, rfl⟩ : ∃ c : Nat, a2 = c := ⟨a2.toNat, by omega⟩
      obtain ⟨c3, rfl⟩ : ∃ c : Nat, a3 = c := ⟨a3.toNat, by omega⟩
      obtain ⟨c4, rfl⟩ : ∃ c : Nat, a4 = c := ⟨a4.toNat, by omega⟩
      obtain ⟨c5, rfl⟩ : ∃ c : Nat, a5 = c := ⟨a5.toNat, by omega⟩
      have g2 := get2 (a := c0) (b := c1) (by omega) (by omega)
      have g4 := get4 (a := c2) (b := c3) (c := c4) (d := c5) (by omega) (by omega) (by omega) (by omega)
      obtain ⟨n, hn⟩ : ∃ n : Nat, (c0 : Int) * 256 + c1 = n := ⟨c0 * 256 + c1, by omega⟩
      rw [hn] at g2
      rw [oneB_cons, hn, Int.toNat_natCast] at hK
      refine ⟨_, (by decide : (0 : Int) ≤ 0), rfl, ?_⟩
      refine ⟨(by decide : (0 : Int) ≤ 8), ?_⟩
      refine ⟨_, (by decide : (0 : Int) ≤ 1), rfl, ?_⟩
      refine ⟨fun hc => ?_, fun hc => ?_⟩
      · have hc := of_decide_eq_true (show decide (bitsV .or .i64 (shlV .i64 (IntKind.i64.wrap (c0 : Int)) 8) (IntKind.i64.wrap (c1 : Int)) > 16384) = true from hc)
        rw [g2] at hc
        rw [if_pos (.inl (by omega))] at hK
        refine ⟨fun _ => ?_, fun h => Bool.noConfusion (show true = false from h)⟩
        exact hK
      · have hc := of_decide_eq_false (show decide (bitsV .or .i64 (shlV .i64 (IntKind.i64.wrap (c0 : Int)) 8) (IntKind.i64.wrap (c1 : Int)) > 16384) = false from hc)
        rw [g2] at hc
        have hw6 : IntKind.i64.wrap (6 + bitsV .or .i64 (shlV .i64 (IntKind.i64.wrap (c0 : Int)) 8) (IntKind.i64.wrap (c1 : Int))) = ((6 + n : Nat) : Int) := by
          rw [g2, wrap_of (by omega) (by omega)]; omega
        obtain ⟨b, hbe⟩ : ∃ b : List Int, b = (c0 : Int) :: c1 :: c2 :: c3 :: c4 :: c5 :: r := ⟨_, rfl⟩
        have hbl : b.length = 6 + r.length := by rw [hbe]; simp only [List.length_cons]; omega
        refine ⟨fun hd => ?_, fun hd => ?_⟩
        · have hd := of_decide_eq_true (show decide ((((((c0 : Int) :: c1 :: c2 :: c3 :: c4 :: c5 :: r).map (AV.int .u8)).length : Nat) : Int) < IntKind.i64.wrap (6 + bitsV .or .i64 (shlV .i64 (IntKind.i64.wrap (c0 : Int)) 8) (IntKind.i64.wrap (c1 : Int)))) = true from hd)
          rw [hw6, List.length_map, ← hbe, hbl] at hd
          rw [if_pos (.inr (by omega))] at hK
          exact hK
        · have hd := of_decide_eq_false (show decide ((((((c0 : Int) :: c1 :: c2 :: c3 :: c4 :: c5 :: r).map (AV.int .u8)).length : Nat) : Int) < IntKind.i64.wrap (6 + bitsV .or .i64 (shlV .i64 (IntKind.i64.wrap (c0 : Int)) 8) (IntKind.i64.wrap (c1 : Int)))) = false from hd)
          rw [hw6, List.length_map, ← hbe, hbl] at hd
          rw [if_neg (by omega)] at hK
          refine ⟨_, (by decide : (0 : Int) ≤ 2), rfl, ?_⟩
          refine ⟨(by decide : (0 : Int) ≤ 24), ?_⟩
          refine ⟨_, (by decide : (0 : Int) ≤ 3), rfl, ?_⟩
          refine ⟨(by decide : (0 : Int) ≤ 16), ?_⟩
          refine ⟨_, (by decide : (0 : Int) ≤ 4), rfl, ?_⟩
          refine ⟨(by decide : (0 : Int) ≤ 8), ?_⟩
          refine ⟨_, (by decide : (0 : Int) ≤ 5), rfl, ?_⟩
          have q1 : (0 : Int) ≤ IntKind.i64.wrap (6 + bitsV .or .i64 (shlV .i64 (IntKind.i64.wrap (c0 : Int)) 8) (IntKind.i64.wrap (c1 : Int))) := by rw [hw6]; omega
          have q2 : (6 : Int).toNat ≤ (IntKind.i64.wrap (6 + bitsV .or .i64 (shlV .i64 (IntKind.i64.wrap (c0 : Int)) 8) (IntKind.i64.wrap (c1 : Int)))).toNat := by rw [hw6, Int.toNat_natCast]; exact (by omega : 6 ≤ 6 + n)
          have q3 : (IntKind.i64.wrap (6 + bitsV .or .i64 (shlV .i64 (IntKind.i64.wrap (c0 : Int)) 8) (IntKind.i64.wrap (c1 : Int)))).toNat ≤ (((c0 : Int) :: c1 :: c2 :: c3 :: c4 :: c5 :: r).map (AV.int .u8)).length := by rw [hw6, Int.toNat_natCast, List.length_map, ← hbe, hbl]; omega
          refine ⟨q1, (by decide : (0 : Int) ≤ 6), q2, q3, ?_⟩
          have hx : (((c0 : Int) :: c1 :: c2 :: c3 :: c4 :: c5 :: r).take (6 + n)).drop 6 = r.take n := by rw [Nat.add_comm]; rfl
          have hcut : AV.sl .fz 5 (((((c0 : Int) :: c1 :: c2 :: c3 :: c4 :: c5 :: r).map (AV.int .u8)).take (IntKind.i64.wrap (6 + bitsV .or .i64 (shlV .i64 (IntKind.i64.wrap (c0 : Int)) 8) (IntKind.i64.wrap (c1 : Int)))).toNat).drop (6 : Int).toNat) = by8 (r.take n) := by
            rw [cut8b, hw6, Int.toNat_natCast]; exact congrArg by8 hx
          have hxl : (r.take n).length = n := by rw [List.length_take]; omega
          refine ⟨rfl, r.take n, congrArg (fun v => [v]) hcut, (by omega), ?_⟩
          refine ⟨fun he => ?_, fun he => ?_⟩
          · have he : (crcI (r.take n) != bitsV .or .u32 (bitsV .or .u32 (bitsV .or .u32 (shlV .u32 (IntKind.u32.wrap (c2 : Int)) 24) (shlV .u32 (IntKind.u32.wrap (c3 : Int)) 16)) (shlV .u32 (IntKind.u32.wrap (c4 : Int)) 8)) (IntKind.u32.wrap (c5 : Int))) = true := he
            rw [g4, bne_iff_ne] at he
            rw [if_neg he] at hK
            exact hK
          · have he : (crcI (r.take n) != bitsV .or .u32 (bitsV .or .u32 (bitsV .or .u32 (shlV .u32 (IntKind.u32.wrap (c2 : Int)) 24) (shlV .u32 (IntKind.u32.wrap (c3 : Int)) 16)) (shlV .u32 (IntKind.u32.wrap (c4 : Int)) 8)) (IntKind.u32.wrap (c5 : Int))) = false := he
            rw [g4] at he
            have he : crcI (r.take n) = (c2 : Int) * 16777216 + c3 * 65536 + c4 * 256 + c5 := by simpa using he
            rw [if_pos he] at hK
            have hlm : (((((c0 : Int) :: c1 :: c2 :: c3 :: c4 :: c5 :: r).map (AV.int .u8)).take (IntKind.i64.wrap (6 + bitsV .or .i64 (shlV .i64 (IntKind.i64.wrap (c0 : Int)) 8) (IntKind.i64.wrap (c1 : Int)))).toNat).drop (6 : Int).toNat) = (r.take n).map (AV.int .u8) := by
              have := hcut
              injection this
            refine ⟨(show (((((c0 : Int) :: c1 :: c2 :: c3 :: c4 :: c5 :: r).map (AV.int .u8)).take (IntKind.i64.wrap (6 + bitsV .or .i64 (shlV .i64 (IntKind.i64.wrap (c0 : Int)) 8) (IntKind.i64.wrap (c1 : Int)))).toNat).drop (6 : Int).toNat).length * 1 ≤ 140737488355328 by rw [hlm, List.length_map]; omega), ?_⟩
            have fin : ∀ xs m, xs = (r.take n).map (AV.int .u8) → m = ((6 + n : Nat) : Int) → K (.tup [.sl (.own 61000) 5 xs, .int .i64 m, .bool true]) [] := fun xs m h1 h2 => by rw [h1, h2]; exact hK
            exact fin _ _ hlm hw6
def oneC (args : List AV) (bs : List Box) (K : AV → List Box → Prop) : Prop := bs = [] ∧ ∃ (b : List Int) (o : Option (List Int × Nat)), oneB b = o ∧ args = [by8 b] ∧ byteL b ∧ b.length ≤ 4611686018427387904 ∧ K (oneA .fz o) []
theorem one_frz (o : Option (List Int × Nat)) : (oneA (.own 61000) o).frzAll (oneA (.own 61000) o).fams = oneA .fz o := by
  cases o with
  | none => rfl
  | some p => simp [oneA, AV.frzAll, AV.fams, AV.famsL, AV.tr, AV.trL, frzF]
theorem one_ok : FnOk Tryd.prog tab 24 oneC := one_ok0.frz.mono fun args bs K ⟨h0, b, o, ho, h1, h2, h3, h4⟩ => ⟨h0, h0, b, h1, h2, h3, _, (by rw [ho]; exact one_frz o), h4⟩
end Go.Proofs.YtbpcofnhndgoeaaDoor.A
