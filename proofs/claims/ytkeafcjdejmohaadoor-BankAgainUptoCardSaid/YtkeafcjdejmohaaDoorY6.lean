/- Plain: what a bank tells again; what is no request. -/
import Derived.Test.YtkeafcjdejmohaaDoorM26
import Derived.Test.YtkeafcjdejmohaaDoorGY
namespace Go.Proofs.YtkeafcjdejmohaaDoor.A
open Go Q
theorem nodup_len : ∀ {N : Nat} {l : List Int}, l.Nodup → (∀ x ∈ l, 0 ≤ x ∧ x < N) → l.length ≤ N
  | 0, l, _, h => by
    cases l with
    | nil => exact Nat.le_refl _
    | cons x l => have := h x (List.mem_cons_self ..); omega
  | N + 1, l, hn, h => by
    by_cases hm : (N : Int) ∈ l
    · have h1 := nodup_len (N := N) (l := l.erase N) (hn.erase _) (fun x hx => by
        obtain ⟨hne, hx⟩ := hn.mem_erase_iff.1 hx
        have := h x hx; omega)
      rw [List.length_erase_of_mem hm] at h1
      omega
    · have := nodup_len (N := N) hn (fun x hx => by
        have h1 := h x hx
        have : x ≠ N := fun e => hm (e ▸ hx)
        omega)
      omega
instance : DecidableEq Req := fun x y => decidable_of_iff (reqB x y = true) reqB_iff
theorem ask_known {ks : List Kno} {r : Req} {i : Nat} {k : Kno} (h1 : findK ks r.key 0 = i) (h2 : ks[i]? = some k) (ht : k.told = true) : askM ks r = (if k.req = r then (k.err, k.id) else (5, 0), true) := by
  unfold askM
  rw [h1, if_neg (by omega), show ((i : Nat) : Int).toNat = i by omega, h2]
  simp only
  cases hq : reqB k.req r with
  | false => rw [if_pos rfl, if_neg (reqB_no.1 hq)]
  | true => rw [if_neg (by decide), if_neg (by simp [ht]), if_pos (reqB_iff.1 hq)]
theorem ask_none {ks : List Kno} {r : Req} (h : findK ks r.key 0 = -1) : askM ks r = ((0, 0), false) := by
  unfold askM
  rw [h, if_pos (by decide)]
/-- What is known of a bank: all is told; keys are numbers of a byte, each there once. -/
structure KnsI (ks : List Kno) : Prop where
  told : ∀ k ∈ ks, k.told = true
  keys : ∀ k ∈ ks, 0 ≤ k.req.key ∧ k.req.key ≤ 255
  nd : (ks.map fun k => k.req.key).Nodup
  b : ∀ k ∈ ks, k.req.b ≤ 14
theorem KnsI.room {ks : List Kno} (h : KnsI ks) {key : Int} (hk : 0 ≤ key ∧ key ≤ 255) (hn : ∀ k ∈ ks, k.req.key ≠ key) : ks.length < 256 := by
  have h1 : (key :: ks.map fun k => k.req.key).Nodup := List.nodup_cons.2 ⟨fun hm => by
    obtain ⟨k, hk1, hk2⟩ := List.mem_map.1 hm
    exact hn k hk1 hk2, h.nd⟩
  have := nodup_len (N := 256) h1 (fun x hx => by
    rcases List.mem_cons.1 hx with rfl | hx
    · omega
    · obtain ⟨k, hk1, rfl⟩ := List.mem_map.1 hx
      have := h.keys k hk1; omega)
  simp at this; omega
theorem AskI.may {r : Req} (h : AskI r) : mayR r = true := by
  refine mayR_yes (by have := h.k; omega) h.l (by have := h.u; omega) (fun hl => ?_) (fun h0 => by have := h.a0 h0; omega) h.o (amountB_iff.2 (by have := h.n; omega))
  by_cases h2 : r.op = 2
  · exact h2
  · have := h.l2 h2; omega
theorem put_none {ks : List Kno} {r : Req} (h : findK ks r.key 0 = -1) (hl : ks.length < 256) : putKM ks r = .ok (ks ++ [⟨r, 0, 0, false⟩]) := by
  unfold putKM
  rw [h, if_neg (by decide), if_neg (by omega)]
theorem put_full {ks : List Kno} {r : Req} (h : findK ks r.key 0 = -1) (hl : ks.length ≥ 256) : putKM ks r = .error 7 := by
  unfold putKM
  rw [h, if_neg (by decide), if_pos hl]
theorem bank_new {s : Sta} {r : Req} (legs : List Bool) (hm : mayR r = true) (h : findK s.kns r.key 0 = -1) (hl : s.kns.length < 256) : bankM s r legs = (withK (bankOut s r legs).1 (s.kns ++ [⟨r, (bankOut s r legs).2.1.1, (bankOut s r legs).2.1.2, true⟩]), (bankOut s r legs).2.1, (bankOut s r legs).2.2) := by
  unfold bankM
  rw [if_neg (by simp [hm]), ask_none h, if_neg (by decide)]
  simp only [put_none h hl]
theorem bank_old {s : Sta} {r : Req} (legs : List Bool) (hm : mayR r = true) {i : Nat} {k : Kno} (h1 : findK s.kns r.key 0 = i) (h2 : s.kns[i]? = some k) (ht : k.told = true) : bankM s r legs = (s, if k.req = r then (k.err, k.id) else (5, 0), 0) := by
  unfold bankM
  rw [if_neg (by simp [hm]), ask_known h1 h2 ht, if_pos rfl]
theorem kns_snoc {ks : List Kno} (h : KnsI ks) {r : Req} (hr : AskI r) (hn : ∀ k ∈ ks, k.req.key ≠ r.key) (e i : Int) : KnsI (ks ++ [⟨r, e, i, true⟩]) := by
  refine ⟨fun k hk => ?_, fun k hk => ?_, ?_, fun k hk => ?_⟩
  · rcases List.mem_append.1 hk with hk | hk
    · exact h.told k hk
    · rw [List.mem_singleton.1 hk]
  · rcases List.mem_append.1 hk with hk | hk
    · exact h.keys k hk
    · rw [List.mem_singleton.1 hk]; exact hr.k
  · rw [List.map_append, List.nodup_append]
    refine ⟨h.nd, by simp, fun x hx y hy => ?_⟩
    obtain ⟨k, hk, rfl⟩ := List.mem_map.1 hx
    have : y = r.key := by simpa using hy
    rw [this]; exact hn k hk
  · rcases List.mem_append.1 hk with hk | hk
    · exact h.b k hk
    · rw [List.mem_singleton.1 hk]; exact hr.b.2
def otherR (r : Req) : Req := ⟨r.key, r.op, r.a, w64 (r.b + 1000), r.amt, r.legs, r.til⟩
theorem again_law {s : Sta} (h : KnsI s.kns) {r : Req} (hr : AskI r) (legs : List Bool) :
    KnsI (bankM s r legs).1.kns ∧ bankM (bankM s r legs).1 r legs = ((bankM s r legs).1, (bankM s r legs).2.1, 0) ∧ bankM (bankM s r legs).1 (otherR r) legs = ((bankM s r legs).1, (5, 0), 0) := by
  have hm := hr.may
  have hb := hr.b
  have ew : w64 (r.b + 1000) = r.b + 1000 := w64_of (by omega) (by omega)
  have hm2 : mayR (otherR r) = true := hm
  rcases find_cases s.kns r.key with ⟨h1, h2⟩ | ⟨i, k, h1, h2, h3, -⟩
  · have hl := h.room hr.k h2
    rw [bank_new legs hm h1 hl]
    generalize bankOut s r legs = o
    have hks := kns_snoc h hr h2 o.2.1.1 o.2.1.2
    have hf := find_last (ks := s.kns) (x := ⟨r, o.2.1.1, o.2.1.2, true⟩) h2
    have hf : findK (s.kns ++ [⟨r, o.2.1.1, o.2.1.2, true⟩]) r.key 0 = s.kns.length := hf
    have hg : (s.kns ++ [(⟨r, o.2.1.1, o.2.1.2, true⟩ : Kno)])[s.kns.length]? = some ⟨r, o.2.1.1, o.2.1.2, true⟩ := by simp
    refine ⟨hks, ?_, ?_⟩ <;> simp only
    · rw [bank_old (s := withK o.1 (s.kns ++ [(⟨r, o.2.1.1, o.2.1.2, true⟩ : Kno)])) legs hm hf hg rfl, if_pos rfl]
    · rw [bank_old (s := withK o.1 (s.kns ++ [(⟨r, o.2.1.1, o.2.1.2, true⟩ : Kno)])) (r := otherR r) legs hm2 hf hg rfl, if_neg]
      intro e
      have : r.b = w64 (r.b + 1000) := congrArg Req.b e
      omega
  · have ht := h.told k (List.mem_of_getElem? h2)
    have hkb := h.b k (List.mem_of_getElem? h2)
    rw [bank_old legs hm h1 h2 ht]
    refine ⟨h, bank_old legs hm h1 h2 ht, ?_⟩
    rw [bank_old (r := otherR r) legs hm2 h1 h2 ht, if_neg]
    intro e
    have : k.req.b = w64 (r.b + 1000) := congrArg Req.b e
    omega
/-! ### what is reserved and let go is as it was -/
theorem sta_ext {s t : Sta} (h : s.accs = t.accs ∧ s.pays = t.pays ∧ s.sags = t.sags ∧ s.kns = t.kns ∧ s.now = t.now) : s = t := by cases s; cases t; simp_all
theorem reserve_spec {s t : Sta} {r : Req} (hA : Acs s.accs) (h : reserveM s r = .ok t) : (9 ≤ r.a ∧ r.a < s.accs.length) ∧ (9 ≤ r.b ∧ r.b < s.accs.length) ∧ (1 ≤ r.amt ∧ r.amt ≤ 1099511627776) ∧ (∃ es, moveM s.accs r.a r.b r.amt = .ok es) ∧
    ∃ a, s.accs[r.a.toNat]? = some a ∧ a.held + r.amt ≤ a.bal ∧ t = withA s (s.accs.set r.a.toNat ⟨a.cur, a.bal, a.held + r.amt⟩) ∧ Acs t.accs := by
  unfold reserveM at h
  split at h
  · cases h
  · rename_i hc
    have hc : isCl s.accs.length r.a = true ∧ isCl s.accs.length r.b = true := by simpa using hc
    split at h
    · cases h
    · rename_i es hm
      split at h
      · cases h
      · rename_i l hl
        cases h
        obtain ⟨k, n, a, ha, hle, rfl, hA2⟩ := holdM_spec hA hl
        exact ⟨k, is_of hc.2, n, ⟨es, hm⟩, a, ha, hle, rfl, hA2⟩
theorem undo_reserve {s t : Sta} {r : Req} (hA : Acs s.accs) (h : reserveM s r = .ok t) : undoD t r = s := by
  obtain ⟨⟨k9, kl⟩, -, n, -, a, ha, hle, rfl, hA2⟩ := reserve_spec hA h
  have hr := (hA.ok _ a ha)
  have hg : (s.accs.set r.a.toNat ⟨a.cur, a.bal, a.held + r.amt⟩)[r.a.toNat]? = some ⟨a.cur, a.bal, a.held + r.amt⟩ := by
    rw [List.getElem?_set, if_pos rfl, if_pos (List.getElem?_eq_some_iff.1 ha).1]
  have hrel := relM_go (n := r.amt) hA2 k9 n hg (by have := (hr.g (by omega)).1; show r.amt ≤ a.held + r.amt; omega)
  unfold undoD undoM
  show (match (match relM (s.accs.set r.a.toNat ⟨a.cur, a.bal, a.held + r.amt⟩) r.a r.amt with | .error e => Except.error e | .ok l => Except.ok (withA (withA s _) l)) with | .ok t => t | .error _ => _) = s
  rw [hrel]
  refine sta_ext ⟨?_, rfl, rfl, rfl, rfl⟩
  show ((s.accs.set r.a.toNat _).set r.a.toNat ⟨a.cur, a.bal, a.held + r.amt - r.amt⟩) = s.accs
  rw [List.set_set]
  have e : (⟨a.cur, a.bal, a.held + r.amt - r.amt⟩ : Acc) = a := by cases a; simp
  rw [e]
  apply List.ext_getElem?
  intro j
  rw [List.getElem?_set]
  split
  · rename_i hj
    rw [← hj, if_pos (List.getElem?_eq_some_iff.1 ha).1, ha]
  · rfl
theorem whole_err {s : Sta} {r : Req} (hA : Acs s.accs) (legs : List Bool) (h : (wholeM s r legs).2.1.1 ≠ 0) : (wholeM s r legs).1 = s := by
  unfold wholeM at h ⊢
  split
  · rfl
  · rename_i t hR
    simp only [hR] at h
    have hu := undo_reserve hA hR
    split
    · rename_i h0
      rw [if_pos h0] at h
      split
      · rename_i u hS
        simp only [hS] at h
        exact absurd rfl h
      · exact hu
    · exact hu
theorem out_err {s : Sta} {r : Req} (hA : Acs s.accs) (legs : List Bool) (h : (bankOut s r legs).2.1.1 ≠ 0) : (bankOut s r legs).1 = s := by
  unfold bankOut at h ⊢
  split
  · rename_i hl
    rw [if_pos hl] at h
    exact whole_err hA legs h
  · rename_i hl
    rw [if_neg hl] at h
    exact (doM_step s r).err h
end Go.Proofs.YtkeafcjdejmohaaDoor.A
