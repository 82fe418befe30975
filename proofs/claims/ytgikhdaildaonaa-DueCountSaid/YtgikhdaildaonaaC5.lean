/- Seat 13: DueAll's walk. -/
import Derived.Test.YtgikhdaildaonaaC4
namespace Go.Proofs.Ytgikhdaildaonaa.A
open Go P
theorem fz_sel (args : List AV) (bs : List Box) (K : AV → List Box → Prop) (h : allC args bs K) : bs = [] ∧ selC args bs (fun res _ => ∃ res', Fz res res' ∧ K res' []) := by
  obtain ⟨rfl, ps, rfl, hN, hK⟩ := h
  exact ⟨rfl, rfl, ps, rfl, hN, _, fz_ints _ _, hK⟩
theorem sel_okC : FnOk Try.prog tab 13 allC := sel_ok.fz.mono fz_sel
def paysC' (args : List AV) (bs : List Box) (K : AV → List Box → Prop) : Prop := bs = [] ∧ ∃ qs : List Paid, args = [.sl .fz 31 (qs.map paidA)] ∧ (∀ q ∈ qs, q.Ok) ∧ K (.sl .fz 34 ((paysOf qs).map payA)) []
def byC' (args : List AV) (bs : List Box) (K : AV → List Box → Prop) : Prop := bs = [] ∧ ∃ ps now, args = [.sl .fz 34 (ps.map payA), .int .i64 now] ∧ ps.length < 90000 ∧ K (.sl .fz 3 (iA ((by' ps now).map (·.2)))) []
def R5 : Contract
  | 9 => awakeC
  | 10 => paysC'
  | 11 => nilC sameC
  | 12 => nilC allC
  | 13 => nilC allC
  | 14 => payC
  | 15 => nilC byC'
  | 16 => nilC nextC
  | _ => fun _ _ _ => False
theorem R5_ok : CallOk Try.prog tab R5 := by
  intro f args bs K h
  unfold R5 at h
  split at h
  · exact ⟨_, h, awake_ok⟩
  · exact ⟨_, h, pays_okC⟩
  · exact ⟨_, h, same_ok.nil⟩
  · exact ⟨_, h, all_okC.nil⟩
  · exact ⟨_, h, sel_okC.nil⟩
  · exact ⟨_, h, pay_ok⟩
  · exact ⟨_, h, by_okC.nil⟩
  · exact ⟨_, h, next_ok.nil⟩
  · exact h.elim
def F5 (D : Nat) (pl : Nat → Plan) : En := ⟨tab, R5, fun _ => none, D, pl⟩
theorem F5_J (D : Nat) (pl : Nat → Plan) : JOk Try.prog (F5 D pl).T (F5 D pl).J := fun _ _ h => by cases h
theorem paysOf_len (qs : List Paid) : (paysOf qs).length ≤ 300 := by simp [paysOf]; omega
theorem places_len (ps : List Pay) : (places ps).length ≤ ps.length := by rw [places_eq]; simp; exact L_len ps
theorem cut_len {α : Type} (f : α → AV) (l : List α) : 0 ≤ (if (300 : Int) < ((l.map f).length : Nat) then (300 : Int) else ((l.map f).length : Nat)) := by split <;> omega
theorem cut_le {α : Type} (f : α → AV) (l : List α) : (if (300 : Int) < ((l.map f).length : Nat) then (300 : Int) else ((l.map f).length : Nat)).toNat ≤ (l.map f).length := by
  rw [List.length_map]; split <;> omega
theorem cut_eq {α : Type} (f : α → AV) (l : List α) : (l.take 300).map f = ((l.map f).take (if (300 : Int) < ((l.map f).length : Nat) then (300 : Int) else ((l.map f).length : Nat)).toNat).drop 0 := by
  have m1 : (if (300 : Int) < ((l.map f).length : Nat) then (300 : Int) else ((l.map f).length : Nat)).toNat = min 300 l.length := by
    rw [List.length_map]; split <;> omega
  rw [m1, List.drop_zero, ← List.map_take]
  congr 1
  by_cases h : 300 ≤ l.length
  · rw [Nat.min_eq_left h]
  · rw [Nat.min_eq_right (by omega), List.take_length, List.take_of_length_le (by omega)]
def dueAllC (args : List AV) (bs : List Box) (K : AV → List Box → Prop) : Prop := bs = [] ∧ ∃ (qs : List Paid) (ps : List Pay), args = [.sl .fz 31 (qs.map paidA), .sl .fz 34 (ps.map payA)] ∧ (∀ q ∈ qs, Paid.Ok q) ∧ K (.bool true) []
set_option maxRecDepth 20000 in
theorem dueAll_ok : FnOk Try.prog tab 3 dueAllC := by
  refine fn_ok (E := F5 0 pl3) tab_is R5_ok (F5_J _ _) Try.func3 rfl rfl (by kernel_rfl) ?_
  rintro args bs K ⟨rfl, qs, ps, rfl, hq, hK⟩
  refine ⟨rfl, ?_⟩
  have l1 := paysOf_len qs
  have l2 := places_len (paysOf qs)
  have l3 : (ps.take 300).length ≤ 300 := by simp; omega
  have l4 := places_len (ps.take 300)
  refine ⟨rfl, rfl, ?_⟩
  refine ⟨fun h => (by cases h), fun _ => ?_⟩
  refine ⟨rfl, qs, rfl, hq, ?_⟩
  refine ⟨cut_len payA ps, Nat.zero_le _, cut_le payA ps, ?_⟩
  refine ⟨[.sl .fz 34 ((paysOf qs).map payA)], ⟨.inl rfl, trivial⟩, rfl, paysOf qs, rfl, by omega, ?_⟩
  refine ⟨[.sl .fz 34 ((paysOf qs).map payA)], ⟨.inl rfl, trivial⟩, rfl, paysOf qs, rfl, by omega, ?_⟩
  refine ⟨[.sl .fz 3 (iA (places (paysOf qs))), .sl .fz 3 (iA (places (paysOf qs)))], ⟨.inl rfl, .inl rfl, trivial⟩, rfl, places (paysOf qs), places (paysOf qs), rfl, by omega, by omega, ?_⟩
  refine ⟨fun _ => ?_, fun h => by simp at h⟩
  refine ⟨[.sl .fz 34 ((ps.take 300).map payA)], ⟨.inl (congrArg (AV.sl .fz 34) (cut_eq payA ps)), trivial⟩, rfl, ps.take 300, rfl, by omega, ?_⟩
  refine ⟨[.sl .fz 34 ((ps.take 300).map payA)], ⟨.inl (congrArg (AV.sl .fz 34) (cut_eq payA ps)), trivial⟩, rfl, ps.take 300, rfl, by omega, ?_⟩
  refine ⟨[.sl .fz 3 (iA (places (ps.take 300))), .sl .fz 3 (iA (places (ps.take 300)))], ⟨.inl rfl, .inl rfl, trivial⟩, rfl, places (ps.take 300), places (ps.take 300), rfl, by omega, by omega, ?_⟩
  have e : decide (places (ps.take 300) = places (ps.take 300)) = true := by simp
  rw [← e] at hK
  exact hK
end Go.Proofs.Ytgikhdaildaonaa.A
