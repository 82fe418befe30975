/- varint: Put, walked. -/
import Derived.Test.YtbpcofnhndgoeaaDoorGC
import Derived.Test.YtbpcofnhndgoeaaDoorB0
import Derived.Test.YtbpcofnhndgoeaaDoorGD
import Derived.Test.YtbpcofnhndgoeaaDoorQ2
namespace Go.Proofs.YtbpcofnhndgoeaaDoor.A
open Go Q
def RW : Contract
  | _ => fun _ _ _ => False
theorem RW_ok : CallOk Tryd.prog tab RW := by
  intro f args bs K h
  unfold RW at h
  split at h
  · exact h.elim
def RW_E (pl : Nat → Plan) : En := ⟨tab, RW, fun _ => none, 0, pl⟩
theorem RW_J (pl : Nat → Plan) : JOk Tryd.prog (RW_E pl).T (RW_E pl).J := fun _ _ h => by cases h
def u8A (g : Tag) (l : List Int) : AV := nums .u8 5 g l
theorem two {A B : Prop} (h : A → B) (a : A) : B := h a
theorem u8_snoc (g : Tag) (l : List Int) (n : Int) : AV.sl g 5 (l.map (AV.int .u8) ++ [.int .u8 n]) = u8A g (l ++ [n]) := by simp [u8A, nums]
theorem wrapU64 {n : Int} (h0 : 0 ≤ n) (h1 : n < 18446744073709551616) : IntKind.u64.wrap n = n := by
  simp [IntKind.wrap, IntKind.signed, IntKind.bits]; omega
theorem wrapU8 (n : Int) : IntKind.u8.wrap n = n % 256 := by
  simp [IntKind.wrap, IntKind.signed, IntKind.bits]
theorem shl_zig {n : Int} (h0 : -9223372036854775808 ≤ n) (h1 : n < 9223372036854775808) : shlV .u64 (IntKind.u64.wrap n) 1 = if n < 0 then 18446744073709551616 + 2 * n else 2 * n := by
  have : min (1 : Int).toNat IntKind.u64.bits = 1 := by decide
  unfold shlV
  rw [this]
  simp [IntKind.wrap, IntKind.signed, IntKind.bits]
  split <;> omega
theorem xor_max {y : Int} (h0 : 0 ≤ y) (h1 : y < 18446744073709551616) : bitsV .xor .u64 (if IntKind.u64.signed then -1 else IntKind.u64.max) y = 18446744073709551615 - y := by
  have e : (if IntKind.u64.signed then -1 else IntKind.u64.max) = 18446744073709551615 := by decide
  rw [e]
  unfold bitsV
  have h2 : (BitVec.ofInt 64 18446744073709551615 : BitVec 64) = BitVec.allOnes 64 := by decide
  show IntKind.u64.wrap (((BitVec.ofInt 64 18446744073709551615 ^^^ BitVec.ofInt 64 y).toNat : Nat) : Int) = _
  rw [h2]
  have h3 : (BitVec.allOnes 64 ^^^ BitVec.ofInt 64 y) = ~~~ (BitVec.ofInt 64 y) := by rw [BitVec.xor_comm, BitVec.xor_allOnes]
  show IntKind.u64.wrap (((BitVec.allOnes 64 ^^^ BitVec.ofInt 64 y).toNat : Nat) : Int) = _
  rw [h3, BitVec.toNat_not, BitVec.toNat_ofInt]
  have h4 : (y % (2 ^ 64 : Nat)).toNat = y.toNat := by
    congr 1
    exact Int.emod_eq_of_lt h0 (by simpa using h1)
  rw [h4, wrapU64 (by omega) (by omega)]
  omega
theorem or_128 {x : Nat} : bitsV .or .u8 (IntKind.u8.wrap (x : Int)) 128 = ((x % 128 + 128 : Nat) : Int) := by
  rw [wrapU8]
  have h : ∀ y : Fin 256, bitsV .or .u8 ((y : Nat) : Int) 128 = (((y : Nat) % 128 + 128 : Nat) : Int) := by decide +kernel
  have h' : bitsV .or .u8 ((x % 256 : Nat) : Int) 128 = (((x % 256) % 128 + 128 : Nat) : Int) := h ⟨x % 256, Nat.mod_lt _ (by decide)⟩
  have e : ((x : Int) % 256) = ((x % 256 : Nat) : Int) := by omega
  rw [e, h']
  omega
theorem shr_7 {x : Nat} : shrV .u64 (x : Int) 7 = ((x / 128 : Nat) : Int) := by
  have : min (7 : Int).toNat IntKind.u64.bits = 7 := by decide
  unfold shrV
  rw [this]
  rw [Int.fdiv_eq_ediv_of_nonneg _ (by decide)]
  omega
def putC (args : List AV) (bs : List Box) (K : AV → List Box → Prop) : Prop := bs = [] ∧ ∃ (l : List Int) (n : Int), l.length ≤ 140737488355000 ∧ i64 n ∧ ((args = [u8A (.own 0) l, .int .i64 n]) ∨ (l = [] ∧ ∃ e0, args = [.sl .nl e0 [], .int .i64 n])) ∧ ∀ G, K (u8A (.own G) (l ++ putI n)) []
set_option maxRecDepth 200000 in
set_option maxHeartbeats 1600000 in
theorem put_ok : FnOkG Tryd.prog tab 43 putC := by
  refine fn_okG (E := RW_E pl43) tab_is RW_ok (RW_J _) Tryd.func43 rfl rfl (by kernel_rfl) ?_
  rintro args bs K ⟨rfl, l, n, hl, ⟨hn0, hn1⟩, hargs, hK⟩
  have hz := zig_lt hn0 hn1
  have hpl := putI_len n
  have hxor : n < 0 → bitsV .xor .u64 (if IntKind.u64.signed then -1 else IntKind.u64.max) (shlV .u64 (IntKind.u64.wrap n) 1) = (zig n : Int) := fun h => by
    rw [shl_zig hn0 hn1, if_pos h, xor_max (by omega) (by omega)]
    unfold zig
    rw [if_pos h]
    omega
  have hshl : ¬ n < 0 → shlV .u64 (IntKind.u64.wrap n) 1 = (zig n : Int) := fun h => by
    rw [shl_zig hn0 hn1, if_neg h]
    unfold zig
    rw [if_neg h]
    omega
  have hstep : ∀ (f x : Nat) (done : List Int), done ++ putF f x = putI n → x < 2 * 128 ^ f → 128 ≤ x → ∃ f', f = f' + 1 ∧ (done ++ [((x % 128 + 128 : Nat) : Int)]) ++ putF f' (x / 128) = putI n ∧ x / 128 < 2 * 128 ^ f' := by
    intro f x done hd hx h128
    cases f with
    | zero => simp at hx; omega
    | succ f =>
      unfold putF at hd
      rw [if_neg (by omega)] at hd
      refine ⟨f, rfl, by simpa using hd, ?_⟩
      rw [Nat.div_lt_iff_lt_mul (by decide)]
      calc x < 2 * 128 ^ (f + 1) := hx
        _ = 2 * 128 ^ f * 128 := by rw [Nat.pow_succ, Nat.mul_assoc]
  have hlast : ∀ (f x : Nat) (done : List Int), done ++ putF f x = putI n → ¬ 128 ≤ x → done ++ [(x : Int)] = putI n := by
    intro f x done hd h128
    cases f with
    | zero => exact hd
    | succ f => unfold putF at hd; rw [if_pos (by omega)] at hd; exact hd
  have hlow : ∀ x : Nat, ¬ 128 ≤ x → IntKind.u8.wrap (x : Int) = x := fun x h => by rw [wrapU8]; omega
  have hdl : ∀ (f x : Nat) (done : List Int), done ++ putF f x = putI n → done.length ≤ 10 := fun f x done hd => by
    have := congrArg List.length hd
    rw [List.length_append] at this
    omega
  rcases hargs with rfl | ⟨rfl, e0, rfl⟩
  · refine ⟨rfl, ?_⟩
    refine ⟨(by decide : (0 : Int) ≤ 1), ?_⟩
    apply two
    · intro inner
      constructor
      · intro hn
        have hn : n < 0 := by simpa using hn
        exact ⟨fun m s => ∃ (f x : Nat) (done : List Int), (done ++ putF f x = putI n ∧ x < 2 * 128 ^ f) ∧ f = m ∧ s.t 0 = u8A (.own 0) (l ++ done) ∧ s.t 5 = .int .u64 (x : Int), ⟨9, 9, zig n, [], ⟨rfl, hz⟩, rfl, congrArg (u8A (.own 0)) (List.append_nil l).symm, congrArg (AV.int .u64) (hxor hn)⟩, inner⟩
      · intro hn
        have hn : ¬ n < 0 := by simpa using hn
        exact ⟨fun m s => ∃ (f x : Nat) (done : List Int), (done ++ putF f x = putI n ∧ x < 2 * 128 ^ f) ∧ f = m ∧ s.t 0 = u8A (.own 0) (l ++ done) ∧ s.t 5 = .int .u64 (x : Int), ⟨9, 9, zig n, [], ⟨rfl, hz⟩, rfl, congrArg (u8A (.own 0)) (List.append_nil l).symm, congrArg (AV.int .u64) (hshl hn)⟩, inner⟩
    rintro _ ⟨t1, h1⟩ ⟨f, x, done, ⟨hd, hx⟩, rfl, e0', e5⟩
    have hlen := hdl f x done hd
    have e5 : t1 5 = .int .u64 (x : Int) := e5
    have e0' : t1 0 = u8A (.own 0) (l ++ done) := e0'
    rw [← updL_has t1 [(0, u8A (.own 0) (l ++ done)), (5, .int .u64 (x : Int))] ⟨e0', e5, trivial⟩]
    constructor
    · intro hb
      have hb : 128 ≤ x := by
        have : ((x : Nat) : Int) ≥ 128 := by simpa using hb
        omega
      obtain ⟨f', rfl, hd', hx'⟩ := hstep f x done hd hx hb
      refine ⟨(by simp; omega : ((((l ++ done).map (AV.int .u8)).length + 1) * 1 ≤ 140737488355328)), ?_⟩
      refine ⟨(by decide : (0 : Int) ≤ 7), ?_⟩
      exact ⟨_, Nat.lt_succ_self f', f', x / 128, done ++ [((x % 128 + 128 : Nat) : Int)], ⟨hd', hx'⟩, rfl, (show AV.sl (.own 0) 5 ((l ++ done).map (AV.int .u8) ++ [.int .u8 (bitsV .or .u8 (IntKind.u8.wrap (x : Int)) 128)]) = u8A (.own 0) (l ++ (done ++ [((x % 128 + 128 : Nat) : Int)])) by rw [or_128, u8_snoc, List.append_assoc]), congrArg (AV.int .u64) shr_7⟩
    · intro hb
      have hb : ¬ 128 ≤ x := by
        have : ¬ ((x : Nat) : Int) ≥ 128 := by simpa using hb
        omega
      have hd' := hlast f x done hd hb
      refine ⟨(by simp; omega : ((((l ++ done).map (AV.int .u8)).length + 1) * 1 ≤ 140737488355328)), ?_⟩
      have hK' := hK 0
      rw [← hd'] at hK'
      exact (show AV.sl (.own 0) 5 ((l ++ done).map (AV.int .u8) ++ [.int .u8 (IntKind.u8.wrap (x : Int))]) = u8A (.own 0) (l ++ (done ++ [(x : Int)])) by rw [hlow x hb, u8_snoc, List.append_assoc]) ▸ hK'
  · refine ⟨rfl, ?_⟩
    simp only [List.nil_append] at hK
    refine ⟨(by decide : (0 : Int) ≤ 1), ?_⟩
    apply two
    · intro inner
      constructor
      · intro hn
        have hn : n < 0 := by simpa using hn
        exact ⟨fun m s => ∃ (f x : Nat) (done : List Int), (done ++ putF f x = putI n ∧ x < 2 * 128 ^ f) ∧ f = m ∧ ((done = [] ∧ s.t 0 = .sl .nl e0 []) ∨ s.t 0 = u8A (.own 20000) done) ∧ s.t 5 = .int .u64 (x : Int), ⟨9, 9, zig n, [], ⟨rfl, hz⟩, rfl, .inl ⟨rfl, rfl⟩, congrArg (AV.int .u64) (hxor hn)⟩, inner⟩
      · intro hn
        have hn : ¬ n < 0 := by simpa using hn
        exact ⟨fun m s => ∃ (f x : Nat) (done : List Int), (done ++ putF f x = putI n ∧ x < 2 * 128 ^ f) ∧ f = m ∧ ((done = [] ∧ s.t 0 = .sl .nl e0 []) ∨ s.t 0 = u8A (.own 20000) done) ∧ s.t 5 = .int .u64 (x : Int), ⟨9, 9, zig n, [], ⟨rfl, hz⟩, rfl, .inl ⟨rfl, rfl⟩, congrArg (AV.int .u64) (hshl hn)⟩, inner⟩
    rintro _ ⟨t1, h1⟩ ⟨f, x, done, ⟨hd, hx⟩, rfl, e0', e5⟩
    have hlen := hdl f x done hd
    have e5 : t1 5 = .int .u64 (x : Int) := e5
    rcases e0' with ⟨rfl, e0'⟩ | e0'
    · have e0' : t1 0 = .sl .nl e0 [] := e0'
      rw [← updL_has t1 [(0, .sl .nl e0 []), (5, .int .u64 (x : Int))] ⟨e0', e5, trivial⟩]
      constructor
      · intro hb
        have hb : 128 ≤ x := by
          have : ((x : Nat) : Int) ≥ 128 := by simpa using hb
          omega
        obtain ⟨f', rfl, hd', hx'⟩ := hstep f x ([] : List Int) hd hx hb
        refine ⟨(by decide : 1 * 1 ≤ 140737488355328), ?_⟩
        refine ⟨(by decide : (0 : Int) ≤ 7), ?_⟩
        exact ⟨_, Nat.lt_succ_self f', f', x / 128, ([] : List Int) ++ [((x % 128 + 128 : Nat) : Int)], ⟨hd', hx'⟩, rfl, .inr (show AV.sl (.own 20000) 5 [.int .u8 (bitsV .or .u8 (IntKind.u8.wrap (x : Int)) 128)] = u8A (.own 20000) [((x % 128 + 128 : Nat) : Int)] by rw [or_128]; rfl), congrArg (AV.int .u64) shr_7⟩
      · intro hb
        have hb : ¬ 128 ≤ x := by
          have : ¬ ((x : Nat) : Int) ≥ 128 := by simpa using hb
          omega
        have hd' := hlast f x ([] : List Int) hd hb
        refine ⟨(by decide : 1 * 1 ≤ 140737488355328), ?_⟩
        have hK' := hK 27000
        rw [← hd'] at hK'
        exact (show AV.sl (.own 27000) 5 [.int .u8 (IntKind.u8.wrap (x : Int))] = u8A (.own 27000) [(x : Int)] by rw [hlow x hb]; rfl) ▸ hK'
    · have e0' : t1 0 = u8A (.own 20000) done := e0'
      rw [← updL_has t1 [(0, u8A (.own 20000) done), (5, .int .u64 (x : Int))] ⟨e0', e5, trivial⟩]
      constructor
      · intro hb
        have hb : 128 ≤ x := by
          have : ((x : Nat) : Int) ≥ 128 := by simpa using hb
          omega
        obtain ⟨f', rfl, hd', hx'⟩ := hstep f x done hd hx hb
        refine ⟨(by simp; omega : (((done.map (AV.int .u8)).length + 1) * 1 ≤ 140737488355328)), ?_⟩
        refine ⟨(by decide : (0 : Int) ≤ 7), ?_⟩
        exact ⟨_, Nat.lt_succ_self f', f', x / 128, done ++ [((x % 128 + 128 : Nat) : Int)], ⟨hd', hx'⟩, rfl, .inr (show AV.sl (.own 20000) 5 (done.map (AV.int .u8) ++ [.int .u8 (bitsV .or .u8 (IntKind.u8.wrap (x : Int)) 128)]) = u8A (.own 20000) (done ++ [((x % 128 + 128 : Nat) : Int)]) by rw [or_128, u8_snoc]), congrArg (AV.int .u64) shr_7⟩
      · intro hb
        have hb : ¬ 128 ≤ x := by
          have : ¬ ((x : Nat) : Int) ≥ 128 := by simpa using hb
          omega
        have hd' := hlast f x done hd hb
        refine ⟨(by simp; omega : (((done.map (AV.int .u8)).length + 1) * 1 ≤ 140737488355328)), ?_⟩
        have hK' := hK 20000
        rw [← hd'] at hK'
        exact (show AV.sl (.own 20000) 5 (done.map (AV.int .u8) ++ [.int .u8 (IntKind.u8.wrap (x : Int))]) = u8A (.own 20000) (done ++ [(x : Int)]) by rw [hlow x hb, u8_snoc]) ▸ hK'
end Go.Proofs.YtbpcofnhndgoeaaDoor.A
