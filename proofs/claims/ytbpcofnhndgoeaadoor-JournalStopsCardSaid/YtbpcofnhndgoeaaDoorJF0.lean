/- Frames, plain: a body behind its length and its sum; one is read, many are read. -/
import Derived.Test.YtbpcofnhndgoeaaDoorJ11
import Derived.Test.YtbpcofnhndgoeaaDoorQ2
namespace Go.Proofs.YtbpcofnhndgoeaaDoor.A
open Go Q
def be2 (n : Nat) : List Int := [((n / 256 % 256 : Nat) : Int), ((n % 256 : Nat) : Int)]
def be4 (s : Nat) : List Int := [((s / 16777216 % 256 : Nat) : Int), ((s / 65536 % 256 : Nat) : Int), ((s / 256 % 256 : Nat) : Int), ((s % 256 : Nat) : Int)]
/-- What Make tells of a body that is not too long. -/
def frameB (b : List Int) : List Int := be2 b.length ++ be4 (crcI b).toNat ++ b
/-- What One tells: the body, and how many bytes the frame has. -/
def oneB : List Int → Option (List Int × Nat)
  | a :: b :: c :: d :: e :: f :: r =>
    if 16384 < (a * 256 + b).toNat ∨ r.length < (a * 256 + b).toNat then none
    else if crcI (r.take (a * 256 + b).toNat) = c * 16777216 + d * 65536 + e * 256 + f then some (r.take (a * 256 + b).toNat, 6 + (a * 256 + b).toNat) else none
  | _ => none
theorem oneB_cons (a b c d e f : Int) (r : List Int) : oneB (a :: b :: c :: d :: e :: f :: r) = if 16384 < (a * 256 + b).toNat ∨ r.length < (a * 256 + b).toNat then none
    else if crcI (r.take (a * 256 + b).toNat) = c * 16777216 + d * 65536 + e * 256 + f then some (r.take (a * 256 + b).toNat, 6 + (a * 256 + b).toNat) else none := rfl
def scanB : Nat → List Int → List (List Int) × Nat
  | 0, _ => ([], 0)
  | k + 1, b => match oneB b with
    | none => ([], 0)
    | some (x, n) => (x :: (scanB k (b.drop n)).1, n + (scanB k (b.drop n)).2)
def scanI (b : List Int) : List (List Int) × Nat := scanB b.length b
theorem frame_len (b : List Int) : (frameB b).length = 6 + b.length := by simp [frameB, be2, be4]; omega
theorem oneB_short {b : List Int} (h : b.length < 6) : oneB b = none := by
  match b, h with
  | [], _ => rfl
  | [_], _ => rfl
  | [_, _], _ => rfl
  | [_, _, _], _ => rfl
  | [_, _, _, _], _ => rfl
  | [_, _, _, _, _], _ => rfl
  | _ :: _ :: _ :: _ :: _ :: _ :: _, h => simp at h; omega
theorem oneB_len {b x : List Int} {n : Nat} (h : oneB b = some (x, n)) : n = 6 + x.length ∧ n ≤ b.length ∧ x.length ≤ 16384 ∧ x = (b.take n).drop 6 := by
  match b, h with
  | a :: b :: c :: d :: e :: f :: r, h =>
    rw [oneB_cons] at h
    split at h
    · cases h
    · split at h
      · rename_i h1 h2
        obtain ⟨rfl, rfl⟩ := Prod.mk.inj (Option.some.inj h)
        have : (r.take (a * 256 + b).toNat).length = (a * 256 + b).toNat := by rw [List.length_take]; omega
        refine ⟨by rw [this], by simp only [List.length_cons]; omega, by omega, ?_⟩
        rw [Nat.add_comm 6]
        rfl
      · cases h
theorem one_frame {b : List Int} (hl : b.length ≤ 16384) (rest : List Int) : oneB (frameB b ++ rest) = some (b, 6 + b.length) := by
  have hc := crcI_lt b
  obtain ⟨s, hs⟩ : ∃ s : Nat, crcI b = s := ⟨(crcI b).toNat, by omega⟩
  have e1 : ((((b.length / 256 % 256 : Nat) : Int)) * 256 + ((b.length % 256 : Nat) : Int)).toNat = b.length := by omega
  show oneB (_ :: _ :: _ :: _ :: _ :: _ :: (b ++ rest)) = _
  rw [oneB_cons, e1, if_neg (by rw [List.length_append]; omega), List.take_left, if_pos]
  rw [hs, Int.toNat_natCast]
  omega
theorem scanB_zero {b : List Int} (h : oneB b = none) (k : Nat) : scanB k b = ([], 0) := by
  cases k with
  | zero => rfl
  | succ k => unfold scanB; rw [h]
theorem scanB_fuel : ∀ (k : Nat) (b : List Int), b.length ≤ k → scanB k b = scanI b := by
  intro k
  induction k using Nat.strongRecOn with
  | _ k ih =>
    intro b hb
    unfold scanI
    cases ho : oneB b with
    | none => rw [scanB_zero ho, scanB_zero ho]
    | some p =>
      obtain ⟨x, n⟩ := p
      obtain ⟨h1, h2, h3, h4⟩ := oneB_len ho
      obtain ⟨m, hm⟩ : ∃ m, b.length = m + 1 := ⟨b.length - 1, by omega⟩
      obtain ⟨k', rfl⟩ : ∃ k', k = k' + 1 := ⟨k - 1, by omega⟩
      rw [hm]
      unfold scanB
      rw [ho]
      have hd : (b.drop n).length ≤ m := by rw [List.length_drop]; omega
      have e1 := ih k' (by omega) (b.drop n) (by rw [List.length_drop]; omega)
      have e2 : scanB m (b.drop n) = scanI (b.drop n) := by
        by_cases hq : m < k' + 1
        · exact ih m hq (b.drop n) hd
        · omega
      simp only [e1, e2]
theorem scan_none {b : List Int} (h : oneB b = none) : scanI b = ([], 0) := scanB_zero h _
theorem scan_some {b x : List Int} {n : Nat} (h : oneB b = some (x, n)) : scanI b = (x :: (scanI (b.drop n)).1, n + (scanI (b.drop n)).2) := by
  obtain ⟨h1, h2, h3, h4⟩ := oneB_len h
  rw [← scanB_fuel (b.length + 1) b (by omega)]
  show scanB (b.length + 1) b = _
  unfold scanB
  rw [h]
  simp only [scanB_fuel b.length (b.drop n) (by rw [List.length_drop]; omega)]
theorem scan_frame {b : List Int} (hl : b.length ≤ 16384) (rest : List Int) : scanI (frameB b ++ rest) = (b :: (scanI rest).1, 6 + b.length + (scanI rest).2) := by
  rw [scan_some (one_frame hl rest)]
  have : (frameB b ++ rest).drop (6 + b.length) = rest := by rw [← frame_len, List.drop_left]
  rw [this]
def frames (rs : List (List Int)) : List Int := rs.flatMap frameB
theorem scan_frames {rs : List (List Int)} (h : ∀ r ∈ rs, r.length ≤ 16384) (rest : List Int) : scanI (frames rs ++ rest) = (rs ++ (scanI rest).1, (frames rs).length + (scanI rest).2) := by
  induction rs with
  | nil => simp [frames]
  | cons r rs ih =>
    have : frames (r :: rs) ++ rest = frameB r ++ (frames rs ++ rest) := by simp [frames]
    rw [this, scan_frame (h r (.head _)), ih fun q hq => h q (.tail _ hq)]
    have : (frames (r :: rs)).length = 6 + r.length + (frames rs).length := by simp [frames, frame_len]
    rw [this]
    simp only [List.cons_append, Nat.add_assoc]
theorem scan_all {rs : List (List Int)} (h : ∀ r ∈ rs, r.length ≤ 16384) : scanI (frames rs) = (rs, (frames rs).length) := by
  have := scan_frames h []
  rw [List.append_nil] at this
  rw [this]
  simp [scanI, scanB]
theorem frame_byte {b : List Int} (h : byteL b) : byteL (frameB b) := by
  intro c hc
  simp only [frameB, List.mem_append] at hc
  rcases hc with (hc | hc) | hc
  · simp [be2] at hc; omega
  · simp [be4] at hc; omega
  · exact h c hc
end Go.Proofs.YtbpcofnhndgoeaaDoor.A
