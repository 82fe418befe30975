/- Numbers as bytes, plain: laid, and read. -/
import Init
namespace Go.Proofs.YtbpcofnhndgoeaaDoor.Q
/-- A number as one that is not below 0. -/
def zig (n : Int) : Nat := if n < 0 then (-2 * n - 1).toNat else (2 * n).toNat
def unz (u : Nat) : Int := if u % 2 = 1 then -((u / 2 : Nat) : Int) - 1 else ((u / 2 : Nat) : Int)
theorem unz_zig (n : Int) : unz (zig n) = n := by
  unfold unz zig
  split <;> split <;> omega
theorem zig_unz (u : Nat) : zig (unz u) = u := by
  unfold unz zig
  split <;> split <;> omega
theorem zig_lt {n : Int} (h0 : -9223372036854775808 ≤ n) (h1 : n < 9223372036854775808) : zig n < 18446744073709551616 := by
  unfold zig
  split <;> omega
theorem unz_bd {u : Nat} (h : u < 18446744073709551616) : -9223372036854775808 ≤ unz u ∧ unz u < 9223372036854775808 := by
  unfold unz
  split <;> omega
def putF : Nat → Nat → List Int
  | 0, u => [(u : Int)]
  | f + 1, u => if u < 128 then [(u : Int)] else ((u % 128 + 128 : Nat) : Int) :: putF f (u / 128)
def putI (n : Int) : List Int := putF 9 (zig n)
theorem putF_len : ∀ (f u : Nat), (putF f u).length ≤ f + 1
  | 0, u => Nat.le_refl _
  | f + 1, u => by
    unfold putF
    split
    · simp
    · simp only [List.length_cons]
      have := putF_len f (u / 128)
      omega
theorem putI_len (n : Int) : (putI n).length ≤ 10 := putF_len 9 (zig n)
def byteL (l : List Int) : Prop := ∀ c ∈ l, 0 ≤ c ∧ c < 256
theorem putF_byte : ∀ (f u : Nat), u < 256 * 128 ^ f → byteL (putF f u)
  | 0, u, h => fun c hc => by
    simp only [putF, List.mem_singleton] at hc
    subst hc
    omega
  | f + 1, u, h => by
    unfold putF
    split
    · intro c hc
      rcases List.mem_singleton.1 hc with rfl
      omega
    · intro c hc
      rcases List.mem_cons.1 hc with rfl | hc
      · omega
      · refine putF_byte f (u / 128) ?_ c hc
        rw [Nat.div_lt_iff_lt_mul (by decide)]
        calc u < 256 * 128 ^ (f + 1) := h
          _ = 256 * 128 ^ f * 128 := by rw [Nat.pow_succ, Nat.mul_assoc]
theorem putI_byte {n : Int} (h0 : -9223372036854775808 ≤ n) (h1 : n < 9223372036854775808) : byteL (putI n) :=
  putF_byte 9 _ (Nat.lt_of_lt_of_le (zig_lt h0 h1) (by decide))
/-- The number that bytes begin with, and how many of them it has; k were read. -/
def getK : Nat → Nat → List Int → Option (Int × Nat)
  | _, _, [] => none
  | k, u, c :: l =>
    if 10 ≤ k then none
    else if k = 9 ∧ c > 1 then none
    else if c ≥ 128 then getK (k + 1) (u + (c.toNat % 128) * 128 ^ k) l
    else if k > 0 ∧ c = 0 then none
    else some (unz (u + (c.toNat % 128) * 128 ^ k), k + 1)
def getB (b : List Int) : Option (Int × List Int) := match getK 0 0 b with
  | some (n, m) => some (n, b.drop m)
  | none => none
theorem getK_put : ∀ (f k u x : Nat) (rest : List Int), k + f = 9 → x < 2 * 128 ^ f → (k > 0 → x ≠ 0) → getK k u (putF f x ++ rest) = some (unz (u + x * 128 ^ k), k + (putF f x).length)
  | 0, k, u, x, rest, hk, hx, h0 => by
    have hk : k = 9 := by omega
    subst hk
    have hx : x < 2 := by simpa using hx
    have h0 := h0 (by decide)
    have hx1 : x = 1 := by omega
    subst hx1
    rfl
  | f + 1, k, u, x, rest, hk, hx, h0 => by
    unfold putF
    by_cases hs : x < 128
    · rw [if_pos hs]
      simp only [List.singleton_append, getK]
      rw [if_neg (by omega), if_neg (by omega), if_neg (by omega), if_neg (by intro h; exact h0 h.1 (by omega))]
      have : (x : Int).toNat % 128 = x := by omega
      rw [this]
      rfl
    · rw [if_neg hs]
      simp only [List.cons_append, getK]
      rw [if_neg (by omega), if_neg (by omega), if_pos (by omega)]
      have e : (((x % 128 + 128 : Nat) : Int)).toNat % 128 = x % 128 := by omega
      rw [e, getK_put f (k + 1) _ (x / 128) rest (by omega) (by
        rw [Nat.div_lt_iff_lt_mul (by decide)]
        calc x < 2 * 128 ^ (f + 1) := hx
          _ = 2 * 128 ^ f * 128 := by rw [Nat.pow_succ, Nat.mul_assoc]) (fun _ => by omega)]
      have e2 : u + x % 128 * 128 ^ k + x / 128 * 128 ^ (k + 1) = u + x * 128 ^ k := by
        have h1 : x / 128 * 128 ^ (k + 1) = (128 * (x / 128)) * 128 ^ k := by rw [Nat.pow_succ, Nat.mul_comm 128 (x / 128), Nat.mul_assoc, Nat.mul_comm 128 (128 ^ k)]
        rw [h1, Nat.add_assoc, ← Nat.add_mul]
        congr 2
        omega
      rw [e2, List.length_cons]
      congr 2
      omega
theorem get_put {n : Int} (h0 : -9223372036854775808 ≤ n) (h1 : n < 9223372036854775808) (rest : List Int) : getB (putI n ++ rest) = some (n, rest) := by
  unfold getB putI
  rw [getK_put 9 0 0 (zig n) rest rfl (Nat.lt_of_lt_of_le (zig_lt h0 h1) (by decide)) (fun h => absurd h (by decide))]
  simp [unz_zig]
/-- What is read has just those bytes. -/
theorem put_getK : ∀ (l : List Int) (k u : Nat) (n : Int) (m : Nat), byteL l → getK k u l = some (n, m) → k ≤ 9 → ∃ x, x < 2 * 128 ^ (9 - k) ∧ n = unz (u + x * 128 ^ k) ∧ (k > 0 → x ≠ 0) ∧ k ≤ m ∧ l.take (m - k) = putF (9 - k) x
  | [], k, u, n, m, _, h, _ => by simp [getK] at h
  | c :: l, k, u, n, m, hb, h, hk => by
    have hc := hb c (List.mem_cons_self ..)
    have hl : byteL l := fun d hd => hb d (List.mem_cons_of_mem _ hd)
    unfold getK at h
    rw [if_neg (by omega)] at h
    split at h
    · cases h
    · rename_i h9
      split at h
      · rename_i h128
        have hk8 : k ≤ 8 := by
          by_cases e : k = 9
          · exact absurd ⟨e, by omega⟩ h9
          · omega
        obtain ⟨x, h1, h2, h3, h4, h5⟩ := put_getK l (k + 1) _ n m hl h (by omega)
        have hx0 := h3 (by omega)
        have hf : 9 - k = (9 - (k + 1)) + 1 := by omega
        refine ⟨c.toNat % 128 + 128 * x, ?_, ?_, fun _ => by omega, by omega, ?_⟩
        · rw [hf, Nat.pow_succ]
          have : c.toNat % 128 < 128 := Nat.mod_lt _ (by decide)
          have : x + 1 ≤ 2 * 128 ^ (9 - (k + 1)) := h1
          calc c.toNat % 128 + 128 * x < 128 * (x + 1) := by omega
            _ ≤ 128 * (2 * 128 ^ (9 - (k + 1))) := Nat.mul_le_mul_left _ this
            _ = 2 * (128 ^ (9 - (k + 1)) * 128) := by rw [Nat.mul_comm 128, Nat.mul_assoc]
        · rw [h2]
          congr 1
          rw [Nat.add_mul, Nat.pow_succ, Nat.mul_comm 128 x, Nat.mul_assoc x 128, Nat.mul_comm 128 (128 ^ k), Nat.add_assoc]
        · rw [hf]
          unfold putF
          rw [if_neg (by omega)]
          have e1 : (c.toNat % 128 + 128 * x) % 128 = c.toNat % 128 := by omega
          have e2 : (c.toNat % 128 + 128 * x) / 128 = x := by omega
          rw [e1, e2, ← h5, show m - k = (m - (k + 1)) + 1 by omega, List.take_succ_cons]
          congr 1
          omega
      · rename_i h128
        split at h
        · cases h
        · rename_i h0
          simp only [Option.some.injEq, Prod.mk.injEq] at h
          obtain ⟨rfl, rfl⟩ := h
          have e : c.toNat % 128 = c.toNat := by omega
          refine ⟨c.toNat, ?_, by rw [e], fun hk0 e0 => h0 ⟨hk0, by omega⟩, by omega, ?_⟩
          · by_cases e9 : k = 9
            · subst e9
              have : ¬ c > 1 := fun h => h9 ⟨rfl, h⟩
              simp
              omega
            · have : 9 - k = (8 - k) + 1 := by omega
              rw [this, Nat.pow_succ]
              have : 0 < 128 ^ (8 - k) := Nat.pow_pos (by decide)
              omega
          · rw [show k + 1 - k = 1 by omega]
            cases hf : 9 - k with
            | zero => simp [putF]; omega
            | succ f =>
              unfold putF
              rw [if_pos (by omega)]
              simp
              omega
theorem put_get {b rest : List Int} {n : Int} (hb : byteL b) (h : getB b = some (n, rest)) : b = putI n ++ rest ∧ -9223372036854775808 ≤ n ∧ n < 9223372036854775808 := by
  unfold getB at h
  split at h
  · rename_i n' m hm
    simp only [Option.some.injEq, Prod.mk.injEq] at h
    obtain ⟨rfl, rfl⟩ := h
    obtain ⟨x, h1, h2, _, _, h5⟩ := put_getK b 0 0 n' m hb hm (by decide)
    have h2 : n' = unz x := by simpa using h2
    have hx : x < 18446744073709551616 := h1
    refine ⟨?_, by rw [h2]; exact (unz_bd hx).1, by rw [h2]; exact (unz_bd hx).2⟩
    have : putI n' = b.take m := by
      unfold putI
      rw [h2, zig_unz]
      exact h5.symm
    rw [this, List.take_append_drop]
  · cases h
theorem getB_byte {b rest : List Int} {n : Int} (hb : byteL b) (h : getB b = some (n, rest)) : byteL rest := by
  unfold getB at h
  split at h
  · simp only [Option.some.injEq, Prod.mk.injEq] at h
    obtain ⟨_, rfl⟩ := h
    exact fun c hc => hb c (List.mem_of_mem_drop hc)
  · cases h
def allB (ns : List Int) : List Int := ns.flatMap putI
/-- So many numbers that bytes begin with. -/
def takeB : Nat → List Int → Option (List Int × List Int)
  | 0, b => some ([], b)
  | k + 1, b => match getB b with
    | some (n, rest) => match takeB k rest with
      | some (ns, r) => some (n :: ns, r)
      | none => none
    | none => none
def i64 (n : Int) : Prop := -9223372036854775808 ≤ n ∧ n < 9223372036854775808
theorem take_all : ∀ (ns : List Int) (rest : List Int), (∀ n ∈ ns, i64 n) → takeB ns.length (allB ns ++ rest) = some (ns, rest)
  | [], rest, _ => rfl
  | n :: ns, rest, h => by
    have e : allB (n :: ns) ++ rest = putI n ++ (allB ns ++ rest) := by simp [allB]
    rw [e]
    simp only [List.length_cons, takeB, get_put (h n (List.mem_cons_self ..)).1 (h n (List.mem_cons_self ..)).2, take_all ns rest (fun m hm => h m (List.mem_cons_of_mem _ hm))]
theorem all_take : ∀ (k : Nat) (b : List Int) (ns rest : List Int), byteL b → takeB k b = some (ns, rest) → b = allB ns ++ rest ∧ ns.length = k ∧ (∀ n ∈ ns, i64 n) ∧ byteL rest
  | 0, b, ns, rest, hb, h => by cases h; exact ⟨rfl, rfl, fun n hn => by simp at hn, hb⟩
  | k + 1, b, ns, rest, hb, h => by
    unfold takeB at h
    split at h
    · rename_i n r1 hg
      split at h
      · rename_i ns' r2 ht
        cases h
        obtain ⟨e1, e2, e3⟩ := put_get hb hg
        obtain ⟨f1, f2, f3, f4⟩ := all_take k r1 ns' _ (getB_byte hb hg) ht
        refine ⟨?_, by simp [f2], fun m hm => ?_, f4⟩
        · rw [e1, f1]; simp [allB]
        · rcases List.mem_cons.1 hm with rfl | hm
          · exact ⟨e2, e3⟩
          · exact f3 m hm
      · cases h
    · cases h
end Go.Proofs.YtbpcofnhndgoeaaDoor.Q
