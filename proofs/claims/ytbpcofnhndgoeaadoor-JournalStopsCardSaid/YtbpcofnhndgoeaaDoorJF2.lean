/- Frames: Scan. -/
import Derived.Test.YtbpcofnhndgoeaaDoorJF1
import Derived.Test.YtbpcofnhndgoeaaDoorJ12
namespace Go.Proofs.YtbpcofnhndgoeaaDoor.A
open Go Q
def RSc : Contract
  | 24 => oneC
  | _ => fun _ _ _ => False
theorem RSc_ok : CallOk Tryd.prog tab RSc := by
  intro f args bs K h
  unfold RSc at h
  split at h
  · exact ⟨_, h, one_ok⟩
  · exact h.elim
def RSc_E (pl : Nat → Plan) : En := ⟨tab, RSc, fun _ => none, 0, pl⟩
theorem RSc_J (pl : Nat → Plan) : JOk Tryd.prog (RSc_E pl).T (RSc_E pl).J := fun _ _ h => by cases h
def scanC (args : List AV) (bs : List Box) (K : AV → List Box → Prop) : Prop := bs = [] ∧ ∃ (b : List Int) (p : List (List Int) × Nat), scanI b = p ∧ args = [by8 b] ∧ byteL b ∧ b.length ≤ 1048576 ∧ K (.tup [bsO 24000 p.1, .int .i64 (p.2 : Int)]) []
theorem byteL_drop {b : List Int} (h : byteL b) (n : Nat) : byteL (b.drop n) := fun c hc => h c (List.mem_of_mem_drop hc)
set_option maxRecDepth 200000 in
set_option maxHeartbeats 3200000 in
theorem scan_ok : FnOk Tryd.prog tab 45 scanC := by
  refine fn_ok (E := RSc_E pl45) tab_is RSc_ok (RSc_J _) Tryd.func45 rfl rfl (by kernel_rfl) ?_
  rintro args bs K ⟨rfl, b, p, hp, rfl, hb, hl, hK⟩
  refine ⟨rfl, ?_⟩
  refine ⟨fun mm st => ∃ (L : List (List Int)) (n : Nat), (n ≤ b.length ∧ 6 * L.length ≤ n ∧ scanI b = (L ++ (scanI (b.drop n)).1, n + (scanI (b.drop n)).2)) ∧ b.length - n = mm ∧ st.t 0 = by8 b ∧ st.t 4 = bsO 24000 L ∧ st.t 5 = .int .i64 (n : Int),
    ⟨_, [], 0, ⟨Nat.zero_le _, Nat.zero_le _, (by simp)⟩, rfl, rfl, rfl, rfl⟩, ?_⟩
  rintro _ ⟨t1, h1⟩ ⟨L, n, ⟨hn, hLn, hS⟩, rfl, e0, e4, e5⟩
  have e0 : t1 0 = by8 b := e0
  have e4 : t1 4 = bsO 24000 L := e4
  have e5 : t1 5 = .int .i64 (n : Int) := e5
  rw [← updL_has t1 [(0, by8 b), (4, bsO 24000 L), (5, .int .i64 (n : Int))] ⟨e0, e4, e5, trivial⟩]
  have hcut : AV.sl .fz 5 (((b.map (AV.int .u8)).take (b.map (AV.int .u8)).length).drop ((n : Int)).toNat) = by8 (b.drop n) := by rw [cut8b, List.length_map, List.take_length, Int.toNat_natCast]
  refine ⟨Int.natCast_nonneg n, (show ((n : Int)).toNat ≤ (b.map (AV.int .u8)).length by rw [List.length_map, Int.toNat_natCast]; exact hn), Nat.le_refl _, ?_⟩
  have hdl : (b.drop n).length = b.length - n := List.length_drop
  cases ho : oneB (b.drop n) with
  | none =>
    refine ⟨rfl, b.drop n, none, ho, congrArg (fun v => [v]) hcut, byteL_drop hb n, (by omega), ?_⟩
    rw [scan_none ho] at hS
    have e1 : p.1 = L := by rw [← hp, hS]; simp
    have e2 : p.2 = n := by rw [← hp, hS]; rfl
    rw [e1, e2] at hK
    refine ⟨fun _ => ?_, fun h => Bool.noConfusion (show true = false from h)⟩
    cases L with
    | nil => exact hK
    | cons a L => exact hK
  | some q =>
    obtain ⟨x, m⟩ := q
    obtain ⟨hm, hml, _, _⟩ := oneB_len ho
    refine ⟨rfl, b.drop n, some (x, m), ho, congrArg (fun v => [v]) hcut, byteL_drop hb n, (by omega), ?_⟩
    refine ⟨fun h => Bool.noConfusion (show false = true from h), fun _ => ?_⟩
    have hw : IntKind.i64.wrap ((n : Int) + (m : Int)) = ((n + m : Nat) : Int) := by rw [wrap_of (by omega) (by omega)]; omega
    have hS' : scanI b = ((L ++ [x]) ++ (scanI (b.drop (n + m))).1, (n + m) + (scanI (b.drop (n + m))).2) := by
      rw [hS, scan_some ho, List.drop_drop]
      simp [Nat.add_assoc]
    have hlt : b.length - (n + m) < b.length - n := by omega
    have hlen : 6 * (L ++ [x]).length ≤ n + m := by simp; omega
    have hnm : n + m ≤ b.length := by omega
    cases L with
    | nil =>
      refine ⟨(by decide : 1 * 24 ≤ 140737488355328), ?_⟩
      exact ⟨_, hlt, [] ++ [x], n + m, ⟨hnm, hlen, hS'⟩, rfl, rfl, rfl, congrArg (AV.int .i64) hw⟩
    | cons a L =>
      refine ⟨(show (((a :: L).map by8).length + 1) * 24 ≤ 140737488355328 by rw [List.length_map]; simp only [List.length_append, List.length_cons, List.length_nil] at *; omega), ?_⟩
      exact ⟨_, hlt, (a :: L) ++ [x], n + m, ⟨hnm, hlen, hS'⟩, rfl, rfl, (show AV.sl (.own 24000) 22 ((a :: L).map by8 ++ [by8 x]) = AV.sl (.own 24000) 22 (((a :: L) ++ [x]).map by8) by rw [List.map_append]; rfl), congrArg (AV.int .i64) hw⟩
theorem bsO_nil {F : Nat} {l : List (List Int)} : NilW (bsO F l) (bss (.own F) l) := by
  cases l with
  | nil => exact .inr ⟨_, _, _, rfl, rfl⟩
  | cons a l => exact .inl rfl
def scanC1 (args : List AV) (bs : List Box) (K : AV → List Box → Prop) : Prop := bs = [] ∧ ∃ (b : List Int) (p : List (List Int) × Nat), scanI b = p ∧ args = [by8 b] ∧ byteL b ∧ b.length ≤ 1048576 ∧ K (.tup [bss (.own 24000) p.1, .int .i64 (p.2 : Int)]) []
theorem scan_ok1 : FnOk Tryd.prog tab 45 scanC1 := scan_ok.nilT.mono fun _ _ _ ⟨h0, b, p, h1, h2, h3, h4, h5⟩ => ⟨h0, b, p, h1, h2, h3, h4, _, .inr ⟨_, [bss (.own 24000) p.1, .int .i64 (p.2 : Int)], rfl, rfl, ⟨bsO_nil, .inl rfl, trivial⟩⟩, h5⟩
end Go.Proofs.YtbpcofnhndgoeaaDoor.A
