/- law12.Paid.Payment, law07.Book.Accounts. -/
import Derived.Test.YtmlgkojmbnjfbaaDoorM8
namespace Go.Proofs.YtmlgkojmbnjfbaaDoor.A
open Go Q
def paidA (p : Paid) : AV := .agg [.int .u8 p.src, .int .u8 p.dst, .int .u8 p.auth, .int .u8 p.capt, .int .u8 p.refu, .int .u8 p.chrg, .int .u8 p.til, .bool p.closed]
def pdA (p : Paid) : Int := w64 (1 + w64 p.auth)
def pdC (p : Paid) : Int := (w64 p.capt).tmod (w64 (pdA p + 1))
def pdR (p : Paid) : Int := (w64 p.refu).tmod (w64 (pdC p + 1))
def pdH (p : Paid) : Int := (w64 p.chrg).tmod (w64 (w64 (pdC p - pdR p) + 1))
def paidP (p : Paid) : Pay := ⟨w64 (9 + w64 (p.src.tmod 6)), w64 (9 + w64 (p.dst.tmod 6)), pdA p, pdC p, pdR p, pdH p, w64 (p.til.tmod 20), if p.closed = true ∨ pdC p = pdA p then 1 else 0⟩
abbrev u8I (n : Int) : Prop := 0 ≤ n ∧ n ≤ 255
structure Paid.In (p : Paid) : Prop where
  i1 : u8I p.src
  i2 : u8I p.dst
  i3 : u8I p.auth
  i4 : u8I p.capt
  i5 : u8I p.refu
  i6 : u8I p.chrg
  i7 : u8I p.til
theorem w64_of {n : Int} (h0 : -9223372036854775808 ≤ n) (h1 : n < 9223372036854775808) : w64 n = n := wrap_of h0 h1
theorem tmod_in {a b : Int} (h0 : 0 ≤ a) (h1 : 0 < b) : 0 ≤ a.tmod b ∧ a.tmod b < b := by
  rw [Int.tmod_eq_emod_of_nonneg h0]
  exact ⟨Int.emod_nonneg _ (by omega), Int.emod_lt_of_pos _ h1⟩
theorem pdA_eq {p : Paid} (h : p.In) : pdA p = 1 + p.auth := by
  have := h.i3
  unfold pdA
  rw [w64_of (n := p.auth) (by omega) (by omega), w64_of (by omega) (by omega)]
theorem pdC_in {p : Paid} (h : p.In) : 0 ≤ pdC p ∧ pdC p ≤ pdA p := by
  have h3 := h.i3
  have h4 := h.i4
  have e := pdA_eq h
  unfold pdC
  rw [w64_of (n := p.capt) (by omega) (by omega), w64_of (n := pdA p + 1) (by omega) (by omega)]
  obtain ⟨a, b⟩ := tmod_in h4.1 (show 0 < pdA p + 1 by omega)
  omega
theorem pdR_in {p : Paid} (h : p.In) : 0 ≤ pdR p ∧ pdR p ≤ pdC p := by
  have h3 := h.i3
  have h5 := h.i5
  have e := pdA_eq h
  obtain ⟨c0, c1⟩ := pdC_in h
  unfold pdR
  rw [w64_of (n := p.refu) (by omega) (by omega), w64_of (n := pdC p + 1) (by omega) (by omega)]
  obtain ⟨a, b⟩ := tmod_in h5.1 (show 0 < pdC p + 1 by omega)
  omega
theorem pdH_in {p : Paid} (h : p.In) : 0 ≤ pdH p ∧ pdH p ≤ pdC p - pdR p := by
  have h3 := h.i3
  have h6 := h.i6
  have e := pdA_eq h
  obtain ⟨c0, c1⟩ := pdC_in h
  obtain ⟨r0, r1⟩ := pdR_in h
  unfold pdH
  rw [w64_of (n := p.chrg) (by omega) (by omega), w64_of (n := pdC p - pdR p) (by omega) (by omega), w64_of (n := pdC p - pdR p + 1) (by omega) (by omega)]
  obtain ⟨a, b⟩ := tmod_in h6.1 (show 0 < pdC p - pdR p + 1 by omega)
  omega
def paidC (args : List AV) (bs : List Box) (K : AV → List Box → Prop) : Prop := bs = [] ∧ ∃ p : Paid, args = [paidA p] ∧ p.In ∧ K (payA (paidP p)) []
set_option maxRecDepth 200000 in
set_option maxHeartbeats 6400000 in
theorem paid_ok : FnOk Tryd.prog tab 24 paidC := by
  refine fn_ok (E := R0_E pl24) tab_is R0_ok (R0_J _) Tryd.func24 rfl rfl (by kernel_rfl) ?_
  rintro args bs K ⟨rfl, p, rfl, hp, hK⟩
  refine ⟨rfl, ?_⟩
  have h3 := hp.i3
  have eA := pdA_eq hp
  obtain ⟨c0, c1⟩ := pdC_in hp
  obtain ⟨r0, r1⟩ := pdR_in hp
  have n1 : w64 (pdA p + 1) ≠ 0 := by rw [w64_of (by omega) (by omega)]; omega
  have n2 : w64 (pdC p + 1) ≠ 0 := by rw [w64_of (by omega) (by omega)]; omega
  have n3 : w64 (w64 (pdC p - pdR p) + 1) ≠ 0 := by rw [w64_of (n := pdC p - pdR p) (by omega) (by omega), w64_of (by omega) (by omega)]; omega
  unfold paidP at hK
  have close : (p.closed = true ∨ pdC p = pdA p) → K (payA ⟨w64 (9 + w64 (p.src.tmod 6)), w64 (9 + w64 (p.dst.tmod 6)), pdA p, pdC p, pdR p, pdH p, w64 (p.til.tmod 20), 1⟩) [] := fun h => by rw [if_pos h] at hK; exact hK
  have open' : ¬ (p.closed = true ∨ pdC p = pdA p) → K (payA ⟨w64 (9 + w64 (p.src.tmod 6)), w64 (9 + w64 (p.dst.tmod 6)), pdA p, pdC p, pdR p, pdH p, w64 (p.til.tmod 20), 0⟩) [] := fun h => by rw [if_neg h] at hK; exact hK
  clear hK
  refine ⟨(by decide : (6 : Int) ≠ 0), ?_⟩
  refine ⟨(by decide : (6 : Int) ≠ 0), ?_⟩
  refine ⟨(by decide : (20 : Int) ≠ 0), ?_⟩
  refine ⟨n1, ?_⟩
  refine ⟨n2, ?_⟩
  refine ⟨n3, ?_⟩
  cases hc : p.closed with
  | true =>
    have hend := close (.inl hc)
    refine ⟨fun _ => ?_, fun h => Bool.noConfusion (show true = false from h)⟩
    exact ⟨fun _ => hend, fun h => Bool.noConfusion (show true = false from h)⟩
  | false =>
    refine ⟨fun h => Bool.noConfusion (show false = true from h), fun _ => ?_⟩
    refine ⟨fun h => ?_, fun h => ?_⟩
    · exact close (.inr (by simpa using (show (pdC p == pdA p) = true from h)))
    · exact open' fun hh => hh.elim (fun e => by rw [hc] at e; cases e) (fun e => by
        have h : (pdC p == pdA p) = false := h
        simp [e] at h)
/-! ### Accounts -/
def base9 : List Acc := [⟨0, 0, 0⟩, ⟨0, 0, 0⟩, ⟨0, 0, 0⟩, ⟨1, 0, 0⟩, ⟨1, 0, 0⟩, ⟨1, 0, 0⟩, ⟨2, 0, 0⟩, ⟨2, 0, 0⟩, ⟨2, 0, 0⟩]
def balOf (has : List Int) (k : Nat) : Int := match has[k]? with
  | some h => w64 (h.tmod 100000)
  | none => 0
def curOf (c : Int) : Int := w64 (c.tmod 3)
def bookStep (has : List Int) (al : List Acc) (k : Nat) (c : Int) : List Acc := match al[(w64 (3 * curOf c)).toNat]? with
  | some a => al.set (w64 (3 * curOf c)).toNat ⟨a.cur, w64 (a.bal - balOf has k), a.held⟩ ++ [⟨curOf c, balOf has k, 0⟩]
  | none => al
def bookGo (has : List Int) : List Acc → Nat → List Int → List Acc
  | al, _, [] => al
  | al, k, c :: cs => bookGo has (bookStep has al k c) (k + 1) cs
/-- A book's accounts, nothing held. -/
def bookL (curs has : List Int) : List Acc := bookGo has base9 0 curs
theorem bookGo_cons (has : List Int) (al : List Acc) (k : Nat) (c : Int) (cs : List Int) : bookGo has al k (c :: cs) = bookGo has (bookStep has al k c) (k + 1) cs := rfl
theorem cur_in {c : Int} (h : u8I c) : 0 ≤ curOf c ∧ curOf c ≤ 2 ∧ w64 (3 * curOf c) = 3 * curOf c := by
  unfold curOf
  obtain ⟨a, b⟩ := tmod_in h.1 (show (0 : Int) < 3 by decide)
  rw [w64_of (n := c.tmod 3) (by omega) (by omega)]
  exact ⟨a, by omega, w64_of (by omega) (by omega)⟩
theorem bookStep_len {has : List Int} {al : List Acc} {k : Nat} {c : Int} (h : u8I c) (hl : 9 ≤ al.length) : (bookStep has al k c).length = al.length + 1 := by
  obtain ⟨h0, h1, h2⟩ := cur_in h
  unfold bookStep
  have : (w64 (3 * curOf c)).toNat < al.length := by rw [h2]; omega
  rw [List.getElem?_eq_getElem this]
  simp
abbrev u8S (l : List Int) : AV := .sl .fz 5 (l.map (AV.int .u8))
abbrev u32S (l : List Int) : AV := .sl .fz 96 (l.map (AV.int .u32))
def bookAV (curs has : List Int) : AV := .agg [u8S curs, u32S has, u8S []]
def bookC0 (args : List AV) (bs : List Box) (K : AV → List Box → Prop) : Prop := bs = [] ∧ ∃ curs has : List Int, args = [bookAV curs has] ∧ curs.length ≤ 8 ∧ (∀ c ∈ curs, u8I c) ∧ has.length ≤ 100000000000000 ∧ K (accsO 8000 (bookL curs has)) []
theorem acc_snoc (F : Nat) (l : List Acc) (x : Acc) : AV.sl (.own F) 50 (l.map accA ++ [accA x]) = accsO F (l ++ [x]) := by simp
set_option maxRecDepth 200000 in
set_option maxHeartbeats 6400000 in
theorem book_ok0 : FnOk Tryd.prog tab 23 bookC0 := by
  refine fn_ok (E := R0_E pl23) tab_is R0_ok (R0_J _) Tryd.func23 rfl rfl (by kernel_rfl) ?_
  rintro args bs K ⟨rfl, curs, has, rfl, hcl, hci, hhl, hK⟩
  refine ⟨rfl, ?_⟩
  refine ⟨by decide, by decide, by decide, by decide, ?_⟩
  refine ⟨fun mm st => ∃ (i : Nat), (i ≤ 9) ∧ 9 - i = mm ∧ st.t 3 = accsO 8000 (base9.take i ++ List.replicate (9 - i) ⟨0, 0, 0⟩) ∧ st.t 10 = .int .i64 9 ∧ st.t 11 = .int .i64 i ∧ st.t 1 = .ptr 1 0 ∧ st.h 1 = some (.cells 25 [u8S curs, u32S has, u8S []]),
    ⟨_, 0, Nat.zero_le _, rfl, rfl, rfl, rfl, rfl, rfl⟩, ?_⟩
  rintro _ ⟨t1, h1⟩ ⟨i, hi, rfl, e3, e10, e11, e1, b1⟩
  have e3 : t1 3 = accsO 8000 (base9.take i ++ List.replicate (9 - i) ⟨0, 0, 0⟩) := e3
  have e10 : t1 10 = .int .i64 9 := e10
  have e11 : t1 11 = .int .i64 i := e11
  have e1 : t1 1 = .ptr 1 0 := e1
  have b1 : h1 1 = some (.cells 25 [u8S curs, u32S has, u8S []]) := b1
  rw [← updL_has t1 [(3, accsO 8000 (base9.take i ++ List.replicate (9 - i) ⟨0, 0, 0⟩)), (10, .int .i64 9), (11, .int .i64 i), (1, .ptr 1 0)] ⟨e3, e10, e11, e1, trivial⟩, ← updL_has h1 [(1, some (.cells 25 [u8S curs, u32S has, u8S []]))] ⟨b1, trivial⟩]
  constructor
  · intro hb
    have hi' : i < 9 := by
      have : (i : Int) < 9 := by simpa using hb
      omega
    have hlt : 9 - (i + 1) < 9 - i := by omega
    have hcs : i = 0 ∨ i = 1 ∨ i = 2 ∨ i = 3 ∨ i = 4 ∨ i = 5 ∨ i = 6 ∨ i = 7 ∨ i = 8 := by omega
    rcases hcs with rfl | rfl | rfl | rfl | rfl | rfl | rfl | rfl | rfl
    all_goals
      refine ⟨(by decide : (3 : Int) ≠ 0), ?_⟩
      refine ⟨_, Int.natCast_nonneg _, rfl, ?_⟩
      exact ⟨_, hlt, _, hi', rfl, rfl, rfl, rfl, rfl, rfl⟩
  · intro hb
    have hi' : i = 9 := by
      have : ¬ (i : Int) < 9 := by simpa using hb
      omega
    subst hi'
    clear e3 e10 e11 e1 b1
    refine ⟨fun mm st => ∃ (i : Nat) (L : List Acc), (i ≤ curs.length ∧ 9 ≤ L.length ∧ L.length = 9 + i ∧ bookL curs has = bookGo has L i (curs.drop i)) ∧ curs.length - i = mm ∧ st.t 3 = accsO 8000 L ∧ st.t 22 = u8S curs ∧ st.t 23 = .int .i64 ((curs.map (AV.int .u8)).length : Nat) ∧ st.t 24 = .int .i64 i ∧ st.t 1 = .ptr 1 0 ∧ st.h 1 = some (.cells 25 [u8S curs, u32S has, u8S []]),
      ⟨_, 0, base9, ⟨Nat.zero_le _, by decide, rfl, rfl⟩, rfl, rfl, rfl, rfl, rfl, rfl, rfl⟩, ?_⟩
    rintro _ ⟨t1, h1⟩ ⟨i, L, ⟨hi, hL9, hLn, hT⟩, rfl, e3, e22, e23, e24, e1, b1⟩
    have e3 : t1 3 = accsO 8000 L := e3
    have e22 : t1 22 = u8S curs := e22
    have e23 : t1 23 = .int .i64 ((curs.map (AV.int .u8)).length : Nat) := e23
    have e24 : t1 24 = .int .i64 i := e24
    have e1 : t1 1 = .ptr 1 0 := e1
    have b1 : h1 1 = some (.cells 25 [u8S curs, u32S has, u8S []]) := b1
    rw [← updL_has t1 [(3, accsO 8000 L), (22, u8S curs), (23, .int .i64 ((curs.map (AV.int .u8)).length : Nat)), (24, .int .i64 i), (1, .ptr 1 0)] ⟨e3, e22, e23, e24, e1, trivial⟩, ← updL_has h1 [(1, some (.cells 25 [u8S curs, u32S has, u8S []]))] ⟨b1, trivial⟩]
    constructor
    · intro hb
      have hi' : i < curs.length := by
        have : (i : Int) < ((curs.map (AV.int .u8)).length : Nat) := by simpa using hb
        simp at this; omega
      have w : IntKind.i64.wrap ((i : Int) + 1) = ((i + 1 : Nat) : Int) := by rw [wrap_of] <;> omega
      have hlt : curs.length - (i + 1) < curs.length - i := by omega
      obtain ⟨c, hx⟩ : ∃ x, curs[i]? = some x := ⟨_, List.getElem?_eq_getElem hi'⟩
      have hm := List.mem_of_getElem? hx
      have hdr := drop_at hx
      rw [hdr, bookGo_cons] at hT
      have hcu := hci c hm
      obtain ⟨q0, q1, q2⟩ := cur_in hcu
      have hj0 : 0 ≤ w64 (3 * curOf c) := by omega
      obtain ⟨a, ha⟩ : ∃ a, L[(w64 (3 * curOf c)).toNat]? = some a := ⟨_, List.getElem?_eq_getElem (by omega)⟩
      have hst : bookStep has L i c = L.set (w64 (3 * curOf c)).toNat ⟨a.cur, w64 (a.bal - balOf has i), a.held⟩ ++ [⟨curOf c, balOf has i, 0⟩] := by unfold bookStep; rw [ha]
      have hlen := bookStep_len (has := has) (k := i) hcu hL9
      have bd : (((L.map accA).modify (w64 (3 * curOf c)).toNat fun x => x.ofCells (putCells x.cells 1 [.int .i64 (w64 (a.bal - balOf has i))])).length + 1) * 24 ≤ 140737488355328 := by
        rw [List.length_modify, List.length_map]; omega
      have emod := modify_map ha (fun x => x.ofCells (putCells x.cells 1 [.int .i64 (w64 (a.bal - balOf has i))])) ⟨a.cur, w64 (a.bal - balOf has i), a.held⟩ rfl
      have efin : AV.sl (.own 8000) 50 (((L.map accA).modify (w64 (3 * curOf c)).toNat fun x => x.ofCells (putCells x.cells 1 [.int .i64 (w64 (a.bal - balOf has i))])) ++ [accA ⟨curOf c, balOf has i, 0⟩]) = accsO 8000 (bookStep has L i c) := by
        rw [emod, acc_snoc, hst]
      refine ⟨_, Int.natCast_nonneg i, map_of hx, ?_⟩
      refine ⟨fun h => ?_, fun _ => ?_⟩
      · exfalso
        have h : (i : Int) = 8 := by simpa using h
        omega
      · refine ⟨(by decide : (3 : Int) ≠ 0), ?_⟩
        cases hh : has[i]? with
        | some v =>
          have hil := (List.getElem?_eq_some_iff.1 hh).1
          have hbo : balOf has i = w64 (v.tmod 100000) := by unfold balOf; rw [hh]
          rw [hbo] at bd efin
          refine ⟨fun _ => ?_, fun h => ?_⟩
          · refine ⟨_, Int.natCast_nonneg i, map_of hh, ?_⟩
            refine ⟨(by decide : (100000 : Int) ≠ 0), ?_⟩
            refine ⟨fun h => ?_, fun _ => ?_⟩
            · exfalso
              have h : (i : Int) < 0 := by simpa using h
              omega
            · refine ⟨_, hj0, map_of ha, ?_⟩
              refine ⟨_, hj0, map_of ha, ?_⟩
              refine ⟨bd, ?_⟩
              exact ⟨_, hlt, i + 1, _, ⟨hi', by omega, by omega, hT⟩, rfl, efin, rfl, rfl, congrArg (AV.int .i64) w, rfl, rfl⟩
          · exfalso
            have h : ¬ (i : Int) < ((has.map (AV.int .u32)).length : Nat) := by simpa using h
            simp at h; omega
        | none =>
          have hil := List.getElem?_eq_none_iff.1 hh
          have hbo : balOf has i = 0 := by unfold balOf; rw [hh]
          rw [hbo] at bd efin
          refine ⟨fun h => ?_, fun _ => ?_⟩
          · exfalso
            have h : (i : Int) < ((has.map (AV.int .u32)).length : Nat) := by simpa using h
            simp at h; omega
          · refine ⟨fun h => ?_, fun _ => ?_⟩
            · exfalso
              have h : (i : Int) < 0 := by simpa using h
              omega
            · refine ⟨_, hj0, map_of ha, ?_⟩
              refine ⟨_, hj0, map_of ha, ?_⟩
              refine ⟨bd, ?_⟩
              exact ⟨_, hlt, i + 1, _, ⟨hi', by omega, by omega, hT⟩, rfl, efin, rfl, rfl, congrArg (AV.int .i64) w, rfl, rfl⟩
    · intro hb
      have hi' : i = curs.length := by
        have : ¬ (i : Int) < ((curs.map (AV.int .u8)).length : Nat) := by simpa using hb
        simp at this; omega
      subst hi'
      rw [List.drop_length] at hT
      have hT : bookL curs has = L := hT
      rw [hT] at hK
      exact hK
end Go.Proofs.YtmlgkojmbnjfbaaDoor.A
