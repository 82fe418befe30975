/- JournalScript, walked. -/
import Derived.Test.YtbpcofnhndgoeaaDoorJL0
namespace Go.Proofs.YtbpcofnhndgoeaaDoor.A
open Go Q
structure ActM where
  op : Int
  recs : List (List Int)
  bytes : List Int
/-- An act of these numbers is right. -/
def ActM.In (a : ActM) : Prop := (0 ≤ a.op ∧ a.op < 256) ∧ (∀ r ∈ a.recs, byteL r) ∧ byteL a.bytes
abbrev actA (a : ActM) : AV := .agg [.int .u8 a.op, bss .fz a.recs, by8 a.bytes]
def ActM.few (a : ActM) : List (List Int) := fewM (a.recs.take 4)
def ActM.byt (a : ActM) : List Int := a.bytes.take 500
def RFa : Contract
  | 28 => fewC1
  | _ => fun _ _ _ => False
theorem RFa_ok : CallOk Tryd.prog tab RFa := by
  intro f args bs K h
  unfold RFa at h
  split at h
  · exact ⟨_, h, few_ok1⟩
  · exact h.elim
def RFa_E (pl : Nat → Plan) : En := ⟨tab, RFa, fun _ => none, 0, pl⟩
theorem RFa_J (pl : Nat → Plan) : JOk Tryd.prog (RFa_E pl).T (RFa_E pl).J := fun _ _ h => by cases h
def fewAC (args : List AV) (bs : List Box) (K : Kon) : Prop := bs = [] ∧ ∃ (a : ActM) (l : List (List Int)), a.few = l ∧ args = [actA a] ∧ K (bss (.own 10000) l) []
theorem min_n (n : Nat) (l : Nat) : (if (n : Int) < (l : Int) then (n : Int) else (l : Int)) = ((min n l : Nat) : Int) := by split <;> omega
set_option maxRecDepth 200000 in
theorem fewA_ok : FnOk Tryd.prog tab 35 fewAC := by
  refine fn_ok (E := RFa_E pl35) tab_is RFa_ok (RFa_J _) Tryd.func35 rfl rfl (by kernel_rfl) ?_
  rintro args bs K ⟨rfl, ⟨op, recs, bytes⟩, l, hl, rfl, hK⟩
  refine ⟨rfl, ?_⟩
  have e : (if (4 : Int) < (((recs.map by8).length : Nat) : Int) then (4 : Int) else (((recs.map by8).length : Nat) : Int)) = ((min 4 recs.length : Nat) : Int) := by rw [List.length_map]; exact min_n 4 _
  refine ⟨(by rw [e]; omega), Nat.zero_le _, (show (if (4 : Int) < (((recs.map by8).length : Nat) : Int) then (4 : Int) else (((recs.map by8).length : Nat) : Int)).toNat ≤ (recs.map by8).length by rw [e, List.length_map]; omega), ?_⟩
  have hs : AV.sl .fz 22 (((recs.map by8).take (if (4 : Int) < (((recs.map by8).length : Nat) : Int) then (4 : Int) else (((recs.map by8).length : Nat) : Int)).toNat).drop 0) = bss .fz (recs.take 4) := by
    rw [e, Int.toNat_natCast, List.drop_zero, ← List.map_take, bss]
    congr 2
    rcases Nat.le_total 4 recs.length with h | h
    · rw [Nat.min_eq_left h]
    · rw [Nat.min_eq_right h, List.take_length, List.take_of_length_le h]
  refine ⟨rfl, recs.take 4, congrArg (fun v => [v]) hs, (by rw [List.length_take]; omega), ?_⟩
  have hl : fewM (recs.take 4) = l := hl
  rw [hl]
  exact hK
def bytAC (args : List AV) (bs : List Box) (K : Kon) : Prop := bs = [] ∧ ∃ (a : ActM) (l : List Int), a.byt = l ∧ args = [actA a] ∧ K (by8 l) []
set_option maxRecDepth 200000 in
theorem bytA_ok : FnOk Tryd.prog tab 33 bytAC := by
  refine fn_ok (E := RFa_E pl33) tab_is RFa_ok (RFa_J _) Tryd.func33 rfl rfl (by kernel_rfl) ?_
  rintro args bs K ⟨rfl, ⟨op, recs, bytes⟩, l, hl, rfl, hK⟩
  refine ⟨rfl, ?_⟩
  obtain ⟨hb, hbe, hb1, hb2, hb3⟩ := min500 bytes
  rw [hbe] at hb1 hb2
  refine ⟨hb3, Nat.zero_le _, hb2, ?_⟩
  have hl : bytes.take 500 = l := hl
  have fin : ∀ v, v = by8 l → K v [] := fun v h => h ▸ hK
  refine fin _ ?_
  rw [← hl, ← take500 bytes]
  exact cut8.symm
theorem ActM.In.few {a : ActM} (h : a.In) : (∀ r ∈ a.few, Rec r) ∧ a.few.length ≤ 4 ∧ (frames a.few).length ≤ 2024 := by
  have h1 : ∀ r ∈ a.few, Rec r := few_rec fun r hr => h.2.1 r (List.mem_of_mem_take hr)
  have h2 : a.few.length ≤ 4 := by
    unfold ActM.few fewM
    rw [List.length_map, List.length_take, List.length_take]; omega
  refine ⟨h1, h2, ?_⟩
  have h3 : ∀ l : List (List Int), (∀ r ∈ l, r.length ≤ 500) → (frames l).length ≤ 506 * l.length := fun l => by
    induction l with
    | nil => intro _; simp [frames]
    | cons r l ih =>
      intro h
      have : frames (r :: l) = frameB r ++ frames l := by simp [frames]
      rw [this, List.length_append, frame_len]
      have h1 := h r (.head _)
      have h2 := ih fun q hq => h q (.tail _ hq)
      simp only [List.length_cons]
      omega
  have := h3 a.few few_each
  omega
theorem ActM.In.byt {a : ActM} (h : a.In) : byteL a.byt ∧ a.byt.length ≤ 500 := ⟨byteL_take h.2.2 _, by unfold ActM.byt; rw [List.length_take]; omega⟩
end Go.Proofs.YtbpcofnhndgoeaaDoor.A
