/- keys: Ask, Put, Tell. -/
import Derived.Test.YtkeafcjdejmohaaDoorGE
import Derived.Test.YtkeafcjdejmohaaDoorGY
namespace Go.Proofs.YtkeafcjdejmohaaDoor.A
open Go Q
def reqB (x y : Req) : Bool := (x.key == y.key) && ((x.op == y.op) && ((x.a == y.a) && ((x.b == y.b) && ((x.amt == y.amt) && ((x.legs == y.legs) && ((x.til == y.til) && true))))))
theorem req_ext {x y : Req} (h : x.key = y.key ∧ x.op = y.op ∧ x.a = y.a ∧ x.b = y.b ∧ x.amt = y.amt ∧ x.legs = y.legs ∧ x.til = y.til) : x = y := by cases x; cases y; simp_all
theorem reqB_iff {x y : Req} : reqB x y = true ↔ x = y := by
  constructor
  · intro h
    simp [reqB] at h
    exact req_ext h
  · rintro rfl
    simp [reqB]
theorem reqB_no {x y : Req} : reqB x y = false ↔ x ≠ y := by
  rw [← Bool.not_eq_true, reqB_iff]
theorem find_cases (ks : List Kno) (key : Int) : (findK ks key 0 = -1 ∧ ∀ k ∈ ks, k.req.key ≠ key) ∨ ∃ (i : Nat) (k : Kno), findK ks key 0 = i ∧ ks[i]? = some k ∧ k.req.key = key ∧ ∀ (j : Nat) (q : Kno), j < i → ks[j]? = some q → q.req.key ≠ key := by
  have aux : ∀ (ks : List Kno) (o : Int), (findK ks key o = -1 ∧ ∀ k ∈ ks, k.req.key ≠ key) ∨ ∃ (i : Nat) (k : Kno), findK ks key o = o + i ∧ ks[i]? = some k ∧ k.req.key = key ∧ ∀ (j : Nat) (q : Kno), j < i → ks[j]? = some q → q.req.key ≠ key := by
    intro ks
    induction ks with
    | nil => exact fun o => .inl ⟨rfl, fun _ h => by cases h⟩
    | cons k ks ih =>
      intro o
      by_cases hk : k.req.key = key
      · exact .inr ⟨0, k, by simp [findK, hk], rfl, hk, fun j q h => absurd h (Nat.not_lt_zero _)⟩
      · have e : findK (k :: ks) key o = findK ks key (o + 1) := by simp [findK, hk]
        rw [e]
        rcases ih (o + 1) with ⟨h1, h2⟩ | ⟨i, q, h1, h2, h3, h4⟩
        · refine .inl ⟨h1, fun x hx => ?_⟩
          rcases List.mem_cons.1 hx with rfl | hx
          · exact hk
          · exact h2 x hx
        · refine .inr ⟨i + 1, q, by rw [h1]; omega, by simpa using h2, h3, fun j x hj hx => ?_⟩
          cases j with
          | zero =>
            obtain rfl : k = x := by simpa using hx
            exact hk
          | succ j => exact h4 j x (by omega) (by simpa using hx)
  rcases aux ks 0 with h | ⟨i, k, h1, h2⟩
  · exact .inl h
  · exact .inr ⟨i, k, by rw [h1]; omega, h2⟩
/-- What is told of a request whose key is known. -/
def askM (ks : List Kno) (r : Req) : Rep × Bool := if findK ks r.key 0 < 0 then ((0, 0), false) else match ks[(findK ks r.key 0).toNat]? with
  | none => ((0, 0), false)
  | some k => if reqB k.req r = false then ((5, 0), true) else if k.told = false then ((10, 0), true) else ((k.err, k.id), true)
def putKM (ks : List Kno) (r : Req) : Except Int (List Kno) := if findK ks r.key 0 ≥ 0 then .error 5 else if ks.length ≥ 256 then .error 7 else .ok (ks ++ [⟨r, 0, 0, false⟩])
def tellM (ks : List Kno) (key e i : Int) : Except Int (List Kno) := if findK ks key 0 < 0 then .error 2 else match ks[(findK ks key 0).toNat]? with
  | none => .error 0
  | some k => if k.told = true then .error 6 else .ok (ks.set (findK ks key 0).toNat ⟨k.req, e, i, true⟩)
def RFi : Contract
  | 53 => findC
  | _ => fun _ _ _ => False
theorem RFi_ok : CallOk Tryd.prog tab RFi := by
  intro f args bs K h
  unfold RFi at h
  split at h
  · exact ⟨_, h, find_ok⟩
  · exact h.elim
def RFi_E (pl : Nat → Plan) : En := ⟨tab, RFi, fun _ => none, 0, pl⟩
theorem RFi_J (pl : Nat → Plan) : JOk Tryd.prog (RFi_E pl).T (RFi_E pl).J := fun _ _ h => by cases h
def askKC (args : List AV) (bs : List Box) (K : AV → List Box → Prop) : Prop := bs = [] ∧ ∃ (ks : List Kno) (r : Req), args = [knsA ks, reqA r] ∧ ks.length ≤ 1000000 ∧ K (.tup [repA (askM ks r).1.1 (askM ks r).1.2, .bool (askM ks r).2]) []
theorem kno_at {ks : List Kno} {i : Nat} {k : Kno} (h : ks[i]? = some k) : (ks.map knoA)[i]? = some (knoA k) := map_of h
set_option maxRecDepth 200000 in
set_option maxHeartbeats 3200000 in
theorem askK_ok : FnOk Tryd.prog tab 27 askKC := by
  refine fn_ok (E := RFi_E pl27) tab_is RFi_ok (RFi_J _) Tryd.func27 rfl rfl (by kernel_rfl) ?_
  rintro args bs K ⟨rfl, ks, r, rfl, hl, hK⟩
  refine ⟨rfl, ?_⟩
  unfold askM at hK
  refine ⟨rfl, ks, r.key, rfl, by omega, ?_⟩
  refine ⟨fun h => ?_, fun h => ?_⟩
  · rw [if_pos (decT h)] at hK; exact hK
  · have h := decF h
    rw [if_neg h] at hK
    rcases find_cases ks r.key with ⟨h1, -⟩ | ⟨i, k, h1, h2, -⟩
    · rw [h1] at h; exact absurd (by decide) h
    · have e : (findK ks r.key 0).toNat = i := by omega
      rw [e, h2] at hK
      have h0 : 0 ≤ findK ks r.key 0 := by omega
      have hg : (ks.map knoA)[(findK ks r.key 0).toNat]? = some (knoA k) := by rw [e]; exact map_of h2
      simp only at hK
      refine ⟨_, h0, hg, ?_⟩
      refine ⟨fun h => ?_, fun h => ?_⟩
      · have h : reqB k.req r = false := by
          have h : (!reqB k.req r) = true := h
          simpa using h
        rw [if_pos h] at hK; exact hK
      · have h : reqB k.req r = true := by
          have h : (!reqB k.req r) = false := h
          simpa using h
        rw [h, if_neg (by decide)] at hK
        refine ⟨_, h0, hg, ?_⟩
        cases ht : k.told with
        | false =>
          rw [ht, if_pos rfl] at hK
          refine ⟨fun _ => hK, fun h => ?_⟩
          have h : (!k.told) = false := h
          rw [ht] at h; cases h
        | true =>
          rw [ht, if_neg (by decide)] at hK
          refine ⟨fun h => ?_, fun _ => ⟨_, h0, hg, hK⟩⟩
          have h : (!k.told) = true := h
          rw [ht] at h; cases h
abbrev ksO (F : Nat) (l : List Kno) : AV := .sl (.own F) 81 (l.map knoA)
abbrev putKC0 (F : List Kno → AV) (args : List AV) (bs : List Box) (K : AV → List Box → Prop) : Prop := bs = [] ∧ ∃ (ks : List Kno) (r : Req), args = [knsA ks, reqA r] ∧ ks.length ≤ 1000000 ∧ (∀ l, putKM ks r = .ok l → K (.tup [F l, .nilifc]) []) ∧ (∀ e, putKM ks r = .error e → K (.tup [.sl .nl 0 [], errA e]) [])
set_option maxRecDepth 200000 in
set_option maxHeartbeats 3200000 in
theorem putK_ok0 : FnOk Tryd.prog tab 46 (putKC0 (ksO 19000)) := by
  refine fn_ok (E := RFi_E pl46) tab_is RFi_ok (RFi_J _) Tryd.func46 rfl rfl (by kernel_rfl) ?_
  rintro args bs K ⟨rfl, ks, r, rfl, hl, hok, her⟩
  refine ⟨rfl, ?_⟩
  unfold putKM at hok her
  refine ⟨rfl, ks, r.key, rfl, by omega, ?_⟩
  refine ⟨fun h => ?_, fun h => ?_⟩
  · exact her 5 (by rw [if_pos (decT h)])
  · rw [if_neg (decF h)] at hok her
    refine ⟨fun h => ?_, fun h => ?_⟩
    · have h := decT h
      exact her 7 (by rw [if_pos (by rw [List.length_map] at h; omega)])
    · have h := decF h
      rw [if_neg (by rw [List.length_map] at h; omega)] at hok
      have bd1 : (ks.map knoA).length * 80 ≤ 140737488355328 := by rw [List.length_map]; omega
      have bd2 : ((ks.map knoA).length + 1) * 80 ≤ 140737488355328 := by rw [List.length_map]; omega
      have hend := hok _ rfl
      unfold ksO at hend
      rw [List.map_append] at hend
      refine ⟨⟨bd1, ?_⟩, ?_⟩
      · exact ⟨bd2, hend⟩
      · exact ⟨bd1, bd2, hend⟩
abbrev putKC := putKC0 knsA
theorem putK_ok : FnOk Tryd.prog tab 46 putKC := putK_ok0.frz.mono (by
  rintro args bs K ⟨rfl, ks, r, rfl, hl, hok, her⟩
  exact ⟨rfl, rfl, ks, r, rfl, hl, fun l h => ⟨_, rfl, hok l h⟩, fun e h => ⟨_, rfl, her e h⟩⟩)
abbrev tellC0 (F : List Kno → AV) (args : List AV) (bs : List Box) (K : AV → List Box → Prop) : Prop := bs = [] ∧ ∃ (ks : List Kno) (key e i : Int), args = [knsA ks, .int .i64 key, repA e i] ∧ ks.length ≤ 1000000 ∧ (∀ l, tellM ks key e i = .ok l → K (.tup [F l, .nilifc]) []) ∧ (∀ x, tellM ks key e i = .error x → K (.tup [.sl .nl 0 [], errA x]) [])
theorem kno_put {ks : List Kno} {i : Nat} {k : Kno} (e d : Int) (h : ks[i]? = some k) : (((ks.map knoA).modify i (fun x => x.ofCells (putCells x.cells 7 [.int .i64 e, .int .i64 d]))).modify i (fun x => x.ofCells (putCells x.cells 9 [.bool true]))) = (ks.set i ⟨k.req, e, d, true⟩).map knoA := by
  apply List.ext_getElem?
  intro j
  rw [List.getElem?_modify, List.getElem?_modify, List.getElem?_map, List.getElem?_map, List.getElem?_set]
  by_cases hj : i = j
  · subst hj
    have hl := (List.getElem?_eq_some_iff.1 h).1
    rw [h]
    simp [hl]
    rfl
  · simp [hj]
set_option maxRecDepth 200000 in
set_option maxHeartbeats 3200000 in
theorem tell_ok0 : FnOk Tryd.prog tab 50 (tellC0 (ksO 25000)) := by
  refine fn_ok (E := RFi_E pl50) tab_is RFi_ok (RFi_J _) Tryd.func50 rfl rfl (by kernel_rfl) ?_
  rintro args bs K ⟨rfl, ks, key, e, i, rfl, hl, hok, her⟩
  refine ⟨rfl, ?_⟩
  unfold tellM at hok her
  refine ⟨rfl, ks, key, rfl, by omega, ?_⟩
  refine ⟨fun h => ?_, fun h => ?_⟩
  · exact her 2 (by rw [if_pos (decT h)])
  · have h := decF h
    rw [if_neg h] at hok her
    rcases find_cases ks key with ⟨h1, -⟩ | ⟨j, k, h1, h2, -⟩
    · rw [h1] at h; exact absurd (by decide) h
    · have ej : (findK ks key 0).toNat = j := by omega
      rw [ej, h2] at hok her
      have h0 : 0 ≤ findK ks key 0 := by omega
      have hg : (ks.map knoA)[(findK ks key 0).toNat]? = some (knoA k) := by rw [ej]; exact map_of h2
      simp only at hok her
      refine ⟨_, h0, hg, ?_⟩
      cases ht : k.told with
      | true =>
        refine ⟨fun _ => her 6 (by rw [ht, if_pos rfl]), fun h => ?_⟩
        have h : k.told = false := h
        rw [ht] at h; cases h
      | false =>
        refine ⟨fun h => ?_, fun _ => ?_⟩
        · have h : k.told = true := h
          rw [ht] at h; cases h
        rw [ht, if_neg (by decide)] at hok
        have bd1 : (ks.map knoA).length * 80 ≤ 140737488355328 := by rw [List.length_map]; omega
        have hend := hok _ rfl
        unfold ksO at hend
        rw [← kno_put e i h2, ← ej] at hend
        have hg2 : (((ks.map knoA).modify (findK ks key 0).toNat (fun x => x.ofCells (putCells x.cells 7 [.int .i64 e, .int .i64 i]))))[(findK ks key 0).toNat]? = some (knoA ⟨k.req, e, i, k.told⟩) := by
          rw [List.getElem?_modify, hg]
          simp
          rfl
        refine ⟨bd1, ?_⟩
        refine ⟨_, h0, hg, ?_⟩
        exact ⟨_, h0, hg2, hend⟩
abbrev tellC := tellC0 knsA
theorem tell_ok : FnOk Tryd.prog tab 50 tellC := tell_ok0.frz.mono (by
  rintro args bs K ⟨rfl, ks, key, e, i, rfl, hl, hok, her⟩
  exact ⟨rfl, rfl, ks, key, e, i, rfl, hl, fun l h => ⟨_, rfl, hok l h⟩, fun x h => ⟨_, rfl, her x h⟩⟩)
end Go.Proofs.YtkeafcjdejmohaaDoor.A
