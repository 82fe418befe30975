/- hawalalaw05: what its laws share. -/
import Derived.Test.YtbpcofnhndgoeaaDoorJ6
namespace Go.Proofs.YtbpcofnhndgoeaaDoor.A
open Go Q
def RA5 : Contract
  | 10 => awake5C
  | 17 => numberC
  | _ => fun _ _ _ => False
theorem RA5_ok : CallOk Tryd.prog tab RA5 := by
  intro f args bs K h
  unfold RA5 at h
  split at h
  · exact ⟨_, h, awake5_ok⟩
  · exact ⟨_, h, number_ok⟩
  · exact h.elim
def RA5_E (pl : Nat → Plan) : En := ⟨tab, RA5, fun _ => none, 0, pl⟩
theorem RA5_J (pl : Nat → Plan) : JOk Tryd.prog (RA5_E pl).T (RA5_E pl).J := fun _ _ h => by cases h
noncomputable def L5_E (pl : Nat → Plan) : En := ⟨tab, RA5, JD, 0, pl⟩
theorem L5_C (pl : Nat → Plan) : CallOk Tryd.prog (L5_E pl).T (L5_E pl).R := RA5_ok
theorem min500 (l : List Int) : ∃ h : Nat, h = (if (500 : Int) < (((l.map (AV.int .u8)).length : Nat) : Int) then (500 : Int) else (((l.map (AV.int .u8)).length : Nat) : Int)).toNat ∧ h ≤ 500 ∧ h ≤ (l.map (AV.int .u8)).length ∧ 0 ≤ (if (500 : Int) < (((l.map (AV.int .u8)).length : Nat) : Int) then (500 : Int) else (((l.map (AV.int .u8)).length : Nat) : Int)) := by
  refine ⟨_, rfl, ?_, ?_, ?_⟩ <;> split <;> omega
theorem tmod3 {n : Int} (h0 : 0 ≤ n) (_h1 : n < 256) : IntKind.i64.wrap (n.tmod 3) = n.tmod 3 ∧ 0 ≤ n.tmod 3 ∧ n.tmod 3 ≤ 2 := by
  have := Int.tmod_nonneg 3 h0
  have := Int.tmod_lt_of_pos n (show (0 : Int) < 3 by decide)
  exact ⟨wrap_of (by omega) (by omega), by omega, by omega⟩
theorem app0 {r k : Int} {b : List Int} (h : (b.length : Int) ≤ r) : appendD ⟨[], r, -1, false⟩ k b = (0, ⟨[(k, b, 0)], r, -1, false⟩) := by
  unfold appendD
  rw [if_neg (by simp), if_neg (by simp [Dk.used, usedF]; omega)]
  simp [fget, fset, Dk.wk, Dk.lf, Dk.st]
theorem app1 {r k n s : Int} {b c : List Int} (hk : ¬ k = n) (h : (c.length : Int) + b.length ≤ r) : appendD ⟨[(n, c, s)], r, -1, false⟩ k b = (0, ⟨[(n, c, s), (k, b, 0)], r, -1, false⟩) := by
  unfold appendD
  rw [if_neg (by simp), if_neg (by simp [Dk.used, usedF]; omega)]
  simp [fget, fset, Dk.wk, Dk.lf, Dk.st, hk]
theorem app2 {r k s : Int} {b c : List Int} (h : (c.length : Int) + b.length ≤ r) : appendD ⟨[(k, c, s)], r, -1, false⟩ k b = (0, ⟨[(k, c ++ b, s)], r, -1, false⟩) := by
  unfold appendD
  rw [if_neg (by simp), if_neg (by simp [Dk.used, usedF]; omega)]
  simp [fget, fset, Dk.wk, Dk.lf, Dk.st]
theorem syn1 {r k s : Int} {b : List Int} : syncD ⟨[(k, b, s)], r, -1, false⟩ k = (0, ⟨[(k, b, b.length)], r, -1, false⟩) := by
  simp [syncD, fget, fset, Dk.wk, Dk.lf, Dk.st]
theorem syn2 {r k n s t : Int} {b c : List Int} (hk : ¬ k = n) : syncD ⟨[(n, c, t), (k, b, s)], r, -1, false⟩ k = (0, ⟨[(n, c, t), (k, b, b.length)], r, -1, false⟩) := by
  simp [syncD, fget, fset, Dk.wk, Dk.lf, Dk.st, hk]
theorem ren2 {r k n s t : Int} {b c : List Int} (hk : ¬ k = n) : renameD ⟨[(n, c, t), (k, b, s)], r, -1, false⟩ k n = (0, ⟨[(n, b, s)], r, -1, false⟩) := by
  simp [renameD, fget, fset, fdel, Dk.wk, Dk.lf, Dk.st, hk]
theorem ren1 {r k s : Int} {b : List Int} : renameD ⟨[(k, b, s)], r, -1, false⟩ k k = (0, ⟨[(k, b, s)], r, -1, false⟩) := by
  simp [renameD, fget, fset, fdel, Dk.wk, Dk.lf, Dk.st]
theorem ren0 {r k n m s : Int} {b : List Int} (hk : ¬ k = n) : renameD ⟨[(n, b, s)], r, -1, false⟩ k m = (2, ⟨[(n, b, s)], r, -1, false⟩) := by
  simp [renameD, fget, hk]
theorem rst1 {r k : Int} {b : List Int} : restartD ⟨[(k, b, b.length)], r, -1, false⟩ 0 = ⟨[(k, b, b.length)], r, -1, false⟩ := by
  simp [restartD, fcut, keptF]
theorem rd1 {r k s : Int} {b : List Int} {l : Int} {q : Bool} : readD ⟨[(k, b, s)], r, l, q⟩ k = (b, true) := by simp [readD, fget]
theorem rd0 {r k n s : Int} {b : List Int} {l : Int} {q : Bool} (hk : ¬ k = n) : readD ⟨[(n, b, s)], r, l, q⟩ k = ([], false) := by simp [readD, fget, hk]
theorem cut0 {r k n m s : Int} {b : List Int} (hk : ¬ k = n) : cutD ⟨[(n, b, s)], r, -1, false⟩ k m = (2, ⟨[(n, b, s)], r, -1, false⟩) := by simp [cutD, fget, hk]
theorem cut1 {r k s m : Int} {b : List Int} (h : m < 0 ∨ m > b.length) : cutD ⟨[(k, b, s)], r, -1, false⟩ k m = (13, ⟨[(k, b, s)], r, -1, false⟩) := by
  unfold cutD
  rw [if_neg (by simp)]
  simp only [fget, if_true]
  rw [if_pos h]
theorem cut2 {r k s m : Int} {b : List Int} (h0 : 0 ≤ m) (h1 : m ≤ b.length) : cutD ⟨[(k, b, s)], r, -1, false⟩ k m = (0, ⟨[(k, b.take m.toNat, ((b.take m.toNat).length : Int))], r, -1, false⟩) := by
  unfold cutD
  rw [if_neg (by simp)]
  simp only [fget, if_true]
  rw [if_neg (by omega)]
  have : ((b.take m.toNat).length : Int) = m := by rw [List.length_take]; omega
  rw [this]
  simp [fset, Dk.wk, Dk.lf, Dk.st]
theorem strOf_go (l : List Int) (r : ByteArray) : (l.foldl (fun r n => r.push (UInt8.ofNat n.toNat)) r).data.toList = r.data.toList ++ l.map (fun n => UInt8.ofNat n.toNat) := by
  induction l generalizing r with
  | nil => simp
  | cons x l ih => rw [List.foldl_cons, ih]; simp [ByteArray.push]
theorem strOf_list (l : List Int) : (strOf l).data.toList = l.map (fun n => UInt8.ofNat n.toNat) := by
  rw [strOf, strOf_go]; rfl
theorem strOf_size (l : List Int) : (strOf l).size = l.length := by
  have : (strOf l).size = (strOf l).data.toList.length := Array.length_toList.symm
  rw [this, strOf_list, List.length_map]
theorem bytes_ext {a b : ByteArray} (h : a.data.toList = b.data.toList) : a = b := by
  cases a; cases b
  congr 1
  exact Array.toList_inj.1 h
theorem strOf_append (l k : List Int) : strOf l ++ strOf k = strOf (l ++ k) := by
  refine bytes_ext ?_
  rw [strOf_list, List.map_append, ← strOf_list, ← strOf_list]
  simp [ByteArray.data_append]
end Go.Proofs.YtbpcofnhndgoeaaDoor.A
