/- bank: Do, Run. -/
import Derived.Test.YtkeafcjdejmohaaDoorM24
import Derived.Test.YtkeafcjdejmohaaDoorGY
namespace Go.Proofs.YtkeafcjdejmohaaDoor.A
open Go Q
def bankOut (s : Sta) (r : Req) (legs : List Bool) : Sta × Rep × Nat := if longB r = true then wholeM s r legs else ((doM s r).1, (doM s r).2, 0)
def bankM (s : Sta) (r : Req) (legs : List Bool) : Sta × Rep × Nat :=
  if mayR r = false then (s, (1, 0), 0) else if (askM s.kns r).2 = true then (s, (askM s.kns r).1, 0) else match putKM s.kns r with
  | .error e => (s, (e, 0), 0)
  | .ok _ => (withK (bankOut s r legs).1 (s.kns ++ [⟨r, (bankOut s r legs).2.1.1, (bankOut s r legs).2.1.2, true⟩]), (bankOut s r legs).2.1, (bankOut s r legs).2.2)
theorem whole_sz {s : Sta} (h : SzK s) (r : Req) (legs : List Bool) : (wholeM s r legs).1.accs.length ≤ 64 ∧ (wholeM s r legs).1.pays.length ≤ 1999900 ∧ (wholeM s r legs).2.2 ≤ legs.length := by
  have hl := h.la
  have hp := h.lp
  unfold wholeM
  split
  · exact ⟨hl, hp, Nat.zero_le _⟩
  · rename_i t hR
    obtain ⟨r1, r2, -⟩ := reserve_len hR
    obtain ⟨u1, u2, -⟩ := undo_len t r
    split
    · split
      · rename_i u hS
        obtain ⟨s1, s2, -⟩ := settle_len hS
        exact ⟨by show u.accs.length ≤ 64; omega, by show u.pays.length ≤ _; rw [s2, r2]; exact hp, Nat.min_le_right ..⟩
      · exact ⟨by show (undoD t r).accs.length ≤ 64; omega, by show (undoD t r).pays.length ≤ _; rw [u2, r2]; exact hp, Nat.min_le_right ..⟩
    · exact ⟨by show (undoD t r).accs.length ≤ 64; omega, by show (undoD t r).pays.length ≤ _; rw [u2, r2]; exact hp, Nat.min_le_right ..⟩
theorem out_sz {s : Sta} (h : SzK s) (r : Req) (legs : List Bool) : (bankOut s r legs).1.accs.length ≤ 64 ∧ (bankOut s r legs).1.pays.length ≤ 1999900 ∧ (bankOut s r legs).2.2 ≤ legs.length := by
  unfold bankOut
  split
  · exact whole_sz h r legs
  · exact ⟨(doM_step s r).la64 h.la, doM_lp s r h.lp (by decide), Nat.zero_le _⟩
theorem bank_sz {s : Sta} (h : SzK s) (r : Req) (legs : List Bool) : SzK (bankM s r legs).1 ∧ (bankM s r legs).2.2 ≤ legs.length := by
  unfold bankM
  split
  · exact ⟨h, Nat.zero_le _⟩
  split
  · exact ⟨h, Nat.zero_le _⟩
  split
  · exact ⟨h, Nat.zero_le _⟩
  · rename_i l hp
    obtain ⟨-, hk, -⟩ := put_ok hp
    obtain ⟨o1, o2, o3⟩ := out_sz h r legs
    exact ⟨⟨o1, o2, by show (s.kns ++ [_]).length ≤ 256; simp; omega⟩, o3⟩
def bankC (args : List AV) (bs : List Box) (K : AV → List Box → Prop) : Prop := bs = [] ∧ ∃ (s : Sta) (r : Req) (legs : List Bool), args = [staA s, reqA r, legsA legs] ∧ SzK s ∧ legs.length ≤ 4611686018427387904 ∧
  K (.tup [staA (bankM s r legs).1, repA (bankM s r legs).2.1.1 (bankM s r legs).2.1.2, .int .i64 ((bankM s r legs).2.2 : Nat)]) []
def RBd : Contract
  | 26 => mayRC
  | 27 => askKC
  | 46 => putKC
  | 47 => numberC
  | 48 => longC
  | 49 => wholeC
  | 13 => doC
  | 50 => tellC
  | _ => fun _ _ _ => False
theorem RBd_ok : CallOk Tryd.prog tab RBd := by
  intro f args bs K h
  unfold RBd at h
  split at h
  · exact ⟨_, h, mayR_ok⟩
  · exact ⟨_, h, askK_ok⟩
  · exact ⟨_, h, putK_ok⟩
  · exact ⟨_, h, number_ok⟩
  · exact ⟨_, h, long_ok⟩
  · exact ⟨_, h, whole_ok⟩
  · exact ⟨_, h, do_ok⟩
  · exact ⟨_, h, tell_ok⟩
  · exact h.elim
def RBd_E (pl : Nat → Plan) : En := ⟨tab, RBd, fun _ => none, 0, pl⟩
theorem RBd_J (pl : Nat → Plan) : JOk Tryd.prog (RBd_E pl).T (RBd_E pl).J := fun _ _ h => by cases h
set_option maxRecDepth 200000 in
set_option maxHeartbeats 12800000 in
theorem bank_ok : FnOk Tryd.prog tab 24 bankC := by
  refine fn_ok (E := RBd_E pl24) tab_is RBd_ok (RBd_J _) Tryd.func24 rfl rfl (by kernel_rfl) ?_
  rintro args bs K ⟨rfl, s, r, legs, rfl, hz, hll, hK⟩
  refine ⟨rfl, ?_⟩
  have hzz := hz.z
  have hlk := hz.lk
  unfold bankM at hK
  refine ⟨rfl, r, rfl, ?_⟩
  cases hm : mayR r with
  | false =>
    rw [if_pos hm] at hK
    refine ⟨fun _ => ?_, fun h => Bool.noConfusion (show true = false from h)⟩
    exact hK
  | true =>
    rw [if_neg (by simp [hm])] at hK
    have hmay := mayR_of hm
    refine ⟨fun h => Bool.noConfusion (show false = true from h), fun _ => ?_⟩
    refine ⟨rfl, s.kns, r, rfl, by omega, ?_⟩
    cases ha : (askM s.kns r).2 with
    | true =>
      rw [if_pos ha] at hK
      refine ⟨fun _ => ?_, fun h => Bool.noConfusion (show true = false from h)⟩
      repeat' first
        | exact hK
        | (refine And.intro ?_ ?_)
        | fail
    | false =>
      rw [if_neg (by simp [ha])] at hK
      refine ⟨fun h => Bool.noConfusion (show false = true from h), fun _ => ?_⟩
      refine ⟨rfl, s.kns, r, rfl, by omega, fun ks hp => ?_, fun e hp => ?_⟩
      · simp only [hp] at hK
        have hks : ks.length ≤ 256 := by
          obtain ⟨rfl, h1, -⟩ := put_ok hp
          simp; omega
        refine ⟨fun h => Bool.noConfusion (show false = true from h), fun _ => ?_⟩
        refine ⟨rfl, r, rfl, ?_⟩
        unfold bankOut at hK
        cases hl : longB r with
        | true =>
          rw [if_pos hl] at hK
          refine ⟨fun _ => ?_, fun h => Bool.noConfusion (show true = false from h)⟩
          refine ⟨rfl, s, r, legs, rfl, hzz, hmay.2.1, hll, ?_⟩
          refine ⟨rfl, ks, r.key, _, _, rfl, by omega, fun l ht => ?_, fun x ht => ?_⟩
          · obtain rfl : s.kns ++ [⟨r, _, _, true⟩] = l := Except.ok.inj ((tell_put hp _ _).symm.trans ht)
            repeat' first
              | exact hK
              | (refine And.intro ?_ ?_)
              | fail
          · rw [tell_put hp] at ht; cases ht
        | false =>
          rw [if_neg (by simp [hl])] at hK
          refine ⟨fun h => Bool.noConfusion (show false = true from h), fun _ => ?_⟩
          refine ⟨rfl, s, r, rfl, hzz, ?_⟩
          refine ⟨rfl, ks, r.key, _, _, rfl, by omega, fun l ht => ?_, fun x ht => ?_⟩
          · obtain rfl : s.kns ++ [⟨r, _, _, true⟩] = l := Except.ok.inj ((tell_put hp _ _).symm.trans ht)
            repeat' first
              | exact hK
              | (refine And.intro ?_ ?_)
              | fail
          · rw [tell_put hp] at ht; cases ht
      · simp only [hp] at hK
        refine ⟨fun _ => ?_, fun h => Bool.noConfusion (show true = false from h)⟩
        repeat' first
          | exact ⟨rfl, .inr ⟨e, rfl, hK⟩⟩
          | (refine And.intro ?_ ?_)
          | fail
theorem bank_ok2 : FnOk Tryd.prog tab 24 (nilC bankC) := bank_ok.nil
end Go.Proofs.YtkeafcjdejmohaaDoor.A
